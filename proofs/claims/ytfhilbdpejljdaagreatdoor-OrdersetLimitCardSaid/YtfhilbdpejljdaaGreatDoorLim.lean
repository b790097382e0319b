/- pandectlaw38.OrdersetLimit returns true for every input: For more than five acts, Minimum returns ErrFull and the other functions return their zero results. Conditions: none; the package-level variables that the row lists hold what they are listed with. -/
import Derived.Test.YtfhilbdpejljdaaGreatDoorA9
import Derived.Test.YtfhilbdpejljdaaGreatDoorD2
import Derived.Test.YtfhilbdpejljdaaGreatDoorF6
import Derived.Test.YtfhilbdpejljdaaGreatDoorC4
import Derived.Test.YtfhilbdpejljdaaGreatDoorCards
import Derived.Test.YtfhilbdpejljdaaGreatDoorTie
import Derived.WalkKit
import Derived.ProofKit
import Derived.OpenShut
import Derived.Deep.DeepHandedRow
import Derived.Deep.DeepWitnessRowRef
import Derived.Lib.LaidIn
import Derived.LaidHandle
set_option linter.all false
namespace Go.Proofs.YtfhilbdpejljdaaGreatDoor.Lim
open Go Go.Am Go.ChangeShapes Go.WideShapes Go.ChangeAt Go.RowKit
set_option maxRecDepth 100000

theorem own : ownKnob Tryz.prog.godebug = none := by kernel_rfl
theorem mixed : Tryz.prog.follows .mixedOrders = true := by kernel_rfl
theorem closed : closedT Tryz.prog [27, 23, 3, 9, 24, 88, 86, 25, 32, 29, 30, 64, 61, 91, 62, 39, 35] = true := by kernel_rfl

theorem tbl : ∀ x ∈ [("pandect/syntax.order$1", 290), ("pandect/syntax.order$2", 291)], Tryz.prog.funcNamed x.1 = some x.2 := by
  intro x hx
  rcases List.mem_cons.1 hx with rfl | hx
  · kernel_rfl
  · rcases List.mem_cons.1 hx with rfl | hx
    · kernel_rfl
    · cases hx

/-- The listed variables lie as data. -/
theorem sim {W : World} (hL : laidMetH Tryz.prog Rows.ordersetLimitRow.laid W) : Sim GG W (View.all W) [] [] := by
  refine sim_all fun g cs hg => ?_
  match g with
  | 0 =>
    obtain rfl : g_0 = cs := Option.some.inj hg
    exact laid_funcs hL (.tail _ (.tail _ (.tail _ (.head _)))) (g := 0) (t := 123) (by kernel_rfl) (by kernel_rfl) _ tbl 9 (by kernel_rfl)
  | 1 =>
    obtain rfl : g_1 = cs := Option.some.inj hg
    exact laid_glob hL (.tail _ (.tail _ (.head _))) (by kernel_rfl) (g := 1) (t := 228) (by kernel_rfl) (by kernel_rfl) 9 (by kernel_rfl)
  | 2 =>
    obtain rfl : g_2 = cs := Option.some.inj hg
    exact laid_glob hL (.tail _ (.tail _ (.tail _ (.tail _ (.head _))))) (by kernel_rfl) (g := 2) (t := 273) (by kernel_rfl) (by kernel_rfl) 9 (by kernel_rfl)
  | 3 =>
    obtain rfl : g_3 = cs := Option.some.inj hg
    exact laid_glob hL (.head _) (by kernel_rfl) (g := 3) (t := 276) (by kernel_rfl) (by kernel_rfl) 9 (by kernel_rfl)
  | 4 =>
    obtain rfl : g_4 = cs := Option.some.inj hg
    exact laid_glob hL (.tail _ (.head _)) (by kernel_rfl) (g := 4) (t := 283) (by kernel_rfl) (by kernel_rfl) 9 (by kernel_rfl)
  | g + 5 => cases hg

theorem ret_true {V : View} {r : Value} {b : Bool} (h : RelV V r (.bool b)) : r = .bool b := by cases h; rfl

/-- What the walk gives, for every argument and every world that holds the variables. -/
theorem contract (H : Type) (enc : TypeId × Value → H) (W : World) (base : Nat) (args : Array Value) (ds gs : List (DataW H)) (before : List MemPlace)
    (hval : ∀ (j : Nat) t v, Tryz.f6.params[j]? = some t → args[j]? = some v → Value.okWide Tryz.prog W .any base t v)
    (hW : DataW.Whole enc Tryz.prog Tryz.f6.params.toList Rows.ordersetLimitSpec.vars false W args.toList ds gs before) (hL : laidMetH Tryz.prog Rows.ordersetLimitRow.laid W) :
    Calls Tryz.prog 6 args W fun e W' => ∃ v, e = .returned v ∧ Rows.ordersetLimitSpec.post enc Tryz.prog Tryz.f6 false true false false W args v W' := by
  have hW' := hW
  obtain ⟨p, q, hA0, hV, rfl, hfz, hnd⟩ := hW
  have hA : DataW.TrodAll enc Tryz.prog W 0 (fun _ => true) true Tryz.f6.params.toList args.toList ds p := hA0
  rw [Tryz.params6] at hA hval
  obtain ⟨v0, vs0, d0, ds0, p0, q0, hargs, rfl, rfl, h0, r0⟩ := trodAll_cons hA
  obtain ⟨v1, vs1, d1, ds1, p1, q1, rfl, rfl, rfl, h1, r1⟩ := trodAll_cons r0
  obtain ⟨v2, vs2, d2, ds2, p2, q2, rfl, rfl, rfl, h2, r2⟩ := trodAll_cons r1
  obtain ⟨v3, vs3, d3, ds3, p3, q3, rfl, rfl, rfl, h3, r3⟩ := trodAll_cons r2
  obtain ⟨rfl, rfl, rfl⟩ := trodAll_nil r3
  obtain rfl : args = #[v0, v1, v2, v3] := by cases args; simp_all
  obtain ⟨rfl, rfl⟩ := trodVars_none hV
  obtain ⟨a0, f0, c0⟩ := arg_fits closed (by decide) h0
  obtain ⟨a1, f1, c1⟩ := arg_fits closed (by decide) h1
  obtain ⟨a2, f2, c2⟩ := arg_fits closed (by decide) h2
  obtain ⟨a3, f3, c3⟩ := arg_fits closed (by decide) h3
  obtain ⟨u, rfl, hu⟩ := fit_unit _ _ (Nat.le_refl _) f0
  obtain ⟨x, rfl, hx⟩ := fit_act f1
  obtain ⟨n, rfl⟩ := fits_int Tryz.underlying3 f2
  obtain ⟨ks, t, rfl, hk⟩ := fit_ints f3
  have hrel : RelL (View.all W) #[v0, v1, v2, v3] [.agg u.cs, .agg x.cs, .int .i64 n, .sl (ks.map intC) t.tk] := by
    refine ⟨rfl, fun i v a hv ha => ?_⟩
    match i with
    | 0 => simp at hv ha; subst hv; subst ha; exact rel_agg (wide_agg Tryz.underlying27 (hval 0 27 v0 rfl rfl)) c0
    | 1 => simp at hv ha; subst hv; subst ha; exact rel_agg (wide_agg Tryz.underlying32 (hval 1 32 v1 rfl rfl)) c1
    | 2 => simp at hv ha; subst hv; subst ha; exact rel_cell (wide_int Tryz.underlying3 (hval 2 3 v2 rfl rfl)) c2
    | 3 => simp at hv ha; subst hv; subst ha; exact rel_cell (wide_sl Tryz.underlying39 (hval 3 39 v3 rfl rfl)) c3
    | i + 4 => simp at hv
  obtain ⟨_, rfl, hret⟩ := limit u x n ks t hu hx hk
  refine (calls_of_ret mixed rfl tabOK (show Fk 6 = _ from rfl) hret (sim hL) hrel).mono ?_
  rintro e W' ⟨r, rfl, ⟨V', hv⟩, ho, hout, hsz, hh⟩
  obtain rfl := ret_true hv
  exact ⟨_, rfl, post_true closed hW' rfl (by rw [Tryz.params6]; decide) (by kernel_rfl) Tryz.underlying4 rfl ho hout hh⟩

/-- A world for the witness: the settled one, the listed variables holding what they are listed with. -/
noncomputable def laidWorld (os : Os) : World :=
  let w0 := World.holding Tryz.prog os ⟨#[], #[], []⟩
  let put (h : Array Obj) (g : Nat) (cs : Array Value) : Array Obj := h.modify g fun
    | .cells _ t frozen => .cells cs t frozen
    | o => o
  let n := w0.heap.size
  let i (k : Int) : Value := .int .i64 k
  let u (k : Int) : Value := .int .u8 k
  let s (l : List UInt8) : Value := .string ⟨l.toArray⟩
  let r (k l : Nat) : Value := .slice (some ⟨n + k, 0, none⟩) l l
  let h0 := put w0.heap 0 #[.func (.func 290) #[] #[], .func (.func 291) #[] #[]]
  let h1 := put h0 1 #[r 0 2, r 1 1, r 2 3, r 3 3, r 4 1, r 5 1, .slice none 0 0, .slice none 0 0]
  let h2 := put h1 2 (g_2.map fun a => match a with | .int k m => Value.int k m | _ => undef).toArray
  let h3 := put h2 3 (g_3.map fun a => match a with | .int k m => Value.int k m | _ => undef).toArray
  let h4 := put h3 4 (g_4.map fun a => match a with | .str l => s l | _ => undef).toArray
  { w0 with heap := h4 ++ #[.cells #[i 1, i 2] 3, .cells #[i 2] 3, .cells #[i 3, i 4, i 7] 3, .cells #[i 3, i 4, i 7] 3, .cells #[i 5] 3, .cells #[i 6] 3] }

def wargs : Array Value := #[.agg #[.int .i64 0, .int .i64 0, .int .i64 0, .int .i64 0, .string ⟨#[]⟩, .slice none 0 0, .slice none 0 0, .slice none 0 0], .agg #[.int .i64 0, .string ⟨#[]⟩, .int .i64 0, .int .i64 0, .int .i64 0, .string ⟨#[]⟩, .slice none 0 0], .int .i64 0, .slice none 0 0]
def wdata {H : Type} : List (DataW H) := [.agg [.agg [.lit (.int .i64 0), .lit (.int .i64 0), .lit (.int .i64 0)], .lit (.int .i64 0), .lit (.string []), .nil, .nil, .nil], .agg [.lit (.int .i64 0), .lit (.string []), .lit (.int .i64 0), .agg [.lit (.int .i64 0), .lit (.int .i64 0), .lit (.string [])], .nil], .lit (.int .i64 0), .nil]

theorem laid_met (os : Os) : laidMetH Tryz.prog Rows.ordersetLimitRow.laid ((laidWorld os).forCall (fun _ _ => 0) ⟨#[], wargs, []⟩).memory :=
  laidMetH_of_parts3 (fuel := 8) (LaidIn.of_run (l := Rows.ordersetLimitRow.laid.filter fun x => x.2.handleName?.isNone) (1 :: 2 :: 3 :: 4 :: (List.range 100).drop 5) 8 (by kernel_rfl) (by kernel_rfl) (by kernel_rfl) (by kernel_rfl)).met (by kernel_rfl) (by kernel_rfl)

theorem reads (os : Os) {H : Type} (enc : TypeId × Value → H) : ∃ places, DataW.whole enc Tryz.prog ((laidWorld os).forCall (fun _ _ => 0) ⟨#[], wargs, []⟩).memory Tryz.f6.params.toList Rows.ordersetLimitSpec.vars false wargs.toList 8 = some (wdata, [], places) :=
  ⟨[], by kernel_rfl⟩

theorem lifted (os : Os) (started : os.Started) (H : Type) (enc : TypeId × Value → H) (F : Stop.Interp) :
    ReturnsInHanded {} Tryz.checked os 6 .any ((OpenSpec.ofChange Rows.ordersetLimitSpec).preRow enc Tryz.prog Tryz.f6 Rows.ordersetLimitRow.domain false Rows.ordersetLimitRow.laid) (((OpenSpec.ofChange Rows.ordersetLimitSpec).at F).post enc Tryz.prog Tryz.f6 false true false false) := by
  obtain ⟨places, hx⟩ := reads os enc
  refine returnsInHanded_of_row (C := Tryz.checked) (s := OpenSpec.ofChange Rows.ordersetLimitSpec) own started (by kernel_rfl) Tryz.func6
    (witness_row_atRef (enc := enc) (C := Tryz.checked) false (laidWorld os) wargs rfl (by kernel_rfl) (by kernel_rfl) (by kernel_rfl)
      (OpenSpec.preRow_of_cond 8 hx (by kernel_rfl) (fun k hk => by cases hk) (by kernel_rfl) (laid_met os))) ?_
  intro W base args ds gs before hval hW _ _ _ hL _ _
  exact contract H enc W base args ds gs before hval hW hL

theorem said : Rows.OrdersetLimitSaid :=
  OpenClaim.holds_of_cond 6 Tryz.f6 rfl rfl rfl rfl rfl rfl rfl ⟨rfl, rfl, rfl, rfl, rfl⟩ rfl rfl rfl rfl rfl (by kernel_rfl) Tryz.func6 (by kernel_rfl)
    (of_decide_eq_true (by kernel_rfl)) (by unfold Func.isWrapper; first | (rw [if_pos (by decide +kernel)]; kernel_rfl) | (rw [if_neg (by decide +kernel)]; exact ⟨rfl, rfl⟩))
    (fun os started H enc _ F => by rw [OpenClaim.pre_eq_preRow]; exact lifted os started H enc F)

/-- No parameter wants a stand-in; the program's own looks are off: what the card asks. -/
theorem plain (f : FuncId) (fn : Func) (hf : Tryz.pinned.checked.prog.funcNamed "pandect/pandectlaw38.OrdersetLimit" = some f) (hfn : Tryz.pinned.checked.prog.funcs[f]? = some fn) :
    false = Tryz.pinned.checked.prog.looks [] ∧ ∀ (j : Nat) t, fn.params[j]? = some t → Tryz.pinned.checked.prog.wantsStandIn t = false := by
  obtain rfl : f = 6 := Option.some.inj ((show Tryz.prog.funcNamed "pandect/pandectlaw38.OrdersetLimit" = some 6 by kernel_rfl).symm.trans hf) |>.symm
  obtain rfl : fn = Tryz.f6 := (Option.some.inj (Tryz.func6.symm.trans hfn)).symm
  refine ⟨by kernel_rfl, fun j t ht => ?_⟩
  rw [Tryz.params6] at ht
  have hm := Array.mem_of_getElem? ht
  simp only [Array.mem_def, List.mem_cons, List.mem_nil_iff, or_false] at hm
  rcases hm with rfl | rfl | rfl | rfl
  · exact (show Tryz.prog.wantsStandIn 27 = false by kernel_rfl)
  · exact (show Tryz.prog.wantsStandIn 32 = false by kernel_rfl)
  · exact (show Tryz.prog.wantsStandIn 3 = false by kernel_rfl)
  · exact (show Tryz.prog.wantsStandIn 39 = false by kernel_rfl)

theorem card : Rows.OrdersetLimitCardSaid :=
  Claim7.holds_tied_plain_at .later [] _ _ _ _ said (fun _ h => by cases h) (by kernel_rfl) (fun _ h => by cases h) ordersetLimit_row_tie rfl ⟨rfl, rfl⟩ (by kernel_rfl) rfl plain (by kernel_rfl)
end Go.Proofs.YtfhilbdpejljdaaGreatDoor.Lim
