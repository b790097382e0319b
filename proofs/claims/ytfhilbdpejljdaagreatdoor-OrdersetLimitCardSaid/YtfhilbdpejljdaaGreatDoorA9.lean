/- Tables of functions. Generic: no program in sight. -/
import Derived.Test.YtfhilbdpejljdaaGreatDoorA6
import Derived.Test.YtfhilbdpejljdaaGreatDoorA7
import GoSem.ClaimChange
import Derived.ChangeShapes
import GoSem.ClaimJoined
import Derived.Test.YtfhilbdpejljdaaGreatDoorA8
import Derived.LaidHandle
import Derived.ChangeStays
import Derived.ChangeOld
import Derived.OpenShut
set_option linter.all false
namespace Go.Am
open Go

def BT.Ok (P : Program) (G : Glo) (b : BT) : Prop := ∀ f d, b.get f = some d → DefOK P G f d

theorem BT.ok_leaf {P : Program} {G : Glo} {f : Nat} {d : Def} (h : DefOK P G f d) : BT.Ok P G (.leaf f d) := by
  intro g d' hg
  simp only [BT.get] at hg
  split at hg
  · rename_i q
    cases hg
    rw [Nat.eq_of_beq_eq_true q]
    exact h
  · cases hg

theorem BT.ok_node {P : Program} {G : Glo} {k : Nat} {l r : BT} (hl : BT.Ok P G l) (hr : BT.Ok P G r) : BT.Ok P G (.node k l r) := by
  intro g d' hg
  simp only [BT.get] at hg
  split at hg
  · exact hr g d' hg
  · exact hl g d' hg

theorem BT.tabOK {P : Program} {G : Glo} {b : BT} (h : BT.Ok P G b) : TabOK P G b.get := h

theorem defOK_mk {P : Program} {G : Glo} {f n : Nat} {pf : Func} {pu : Bool} {c : AC} {res : List ResA} (B : Nat → Bool) (hf : P.funcs[f]? = some pf) (h1 : (pf.name == "runtime.NumGoroutine") = false)
    (h2 : pf.body.map (codeC P G B n) = some c.erase) (h3 : pf.ntmps = n) (h4 : pf.results.toList.mapM (resC P) = some res) : DefOK P G f (.fn pu n c res) := by
  obtain ⟨conc, q1, q2⟩ := Option.map_eq_some_iff.1 h2
  exact ⟨pf, conc, B, hf, h1, q1, h3, q2, h4⟩

end Go.Am

namespace Go.Am
open Go

/-- Everything that lies is data. -/
def View.all (W : World) : View := { rd := fun c o => seen' W c o, blk := fun _ => none, own := fun _ => none }

theorem sim_all {G : Glo} {W : World} (hg : ∀ g cs, G g = some cs → ∀ (j : Nat) a, cs[j]? = some a → ∃ v, seen' W g j = some v ∧ v.oneCell' = true ∧ RelV (View.all W) v a) : Sim G W (View.all W) [] [] :=
  ⟨fun _ _ _ h => h, fun b o hb => by simp at hb, fun i n hi => by simp at hi, fun _ _ _ _ _ _ _ _ _ e => (by cases e), fun _ _ _ _ _ _ _ _ _ e => (by cases e), fun _ _ _ _ _ _ _ _ _ e => (by cases e), fun _ _ _ _ _ e => (by cases e), fun _ _ e => (by cases e), fun _ _ e => (by cases e), hg⟩

theorem seen_of_cell {w : World} {c o : Nat} {v : Value} (h : w.cell? ⟨c, o, none⟩ = some v) (h1 : v.oneCell' = true) : seen' w c o = some v := by
  unfold seen'
  split
  · rename_i es k hw
    simp only [World.cell?, hw] at h
    cases h
  · rw [h]; exact nt_one h1

def RelCs (V : View) (cs : List Value) (as : List Av) : Prop := cs.length = as.length ∧ ∀ (i : Nat) v a, cs[i]? = some v → as[i]? = some a → RelV V v a ∧ v.oneCell' = true

theorem RelCs.nil (V : View) : RelCs V [] [] := ⟨rfl, fun i v a h => by simp at h⟩

theorem RelCs.one {V : View} {v : Value} {a : Av} (h : RelV V v a) (h1 : v.oneCell' = true) : RelCs V [v] [a] :=
  ⟨rfl, fun i v' a' hv ha => by
    match i with
    | 0 => simp at hv ha; subst hv; subst ha; exact ⟨h, h1⟩
    | i + 1 => simp at hv⟩

theorem RelCs.append {V : View} {cs cs' : List Value} {as as' : List Av} (h : RelCs V cs as) (k : RelCs V cs' as') : RelCs V (cs ++ cs') (as ++ as') := by
  refine ⟨by simp [h.1, k.1], fun i v a hv ha => ?_⟩
  rw [List.getElem?_append] at hv ha
  rw [h.1] at hv
  split at hv
  · rename_i q; rw [if_pos q] at ha; exact h.2 i v a hv ha
  · rename_i q; rw [if_neg q] at ha; exact k.2 _ v a hv ha

/-- The cells that a value of a type has. -/
inductive Fits (P : Program) : TypeId → List Av → Prop
  | bool {t : TypeId} (b : Bool) : P.underlying t = some .bool → Fits P t [.bool b]
  | int {t : TypeId} {k : IntKind} (n : Int) : P.underlying t = some (.int k) → k.has n → Fits P t [.int k n]
  | str {t : TypeId} (l : List UInt8) : P.underlying t = some .string → l.length ≤ maxL → Fits P t [.str l]
  | snil {t e : TypeId} : P.underlying t = some (.slice e) → Fits P t [.sl [] .nil]
  | sl {t e : TypeId} (xs : List (List Av)) : P.underlying t = some (.slice e) → xs.length ≤ maxL → (∀ x ∈ xs, Fits P e x) → Fits P t [.sl xs .any]
  | struct {t : TypeId} {fs : Array Field} (ass : List (List Av)) : P.underlying t = some (.struct fs) → ass.length = fs.size → (∀ (i : Nat) f a, fs[i]? = some f → ass[i]? = some a → Fits P f.type a) → Fits P t ass.flatten

/-- The fields of a struct lie one behind the other. -/
def tiles (P : Program) : List Field → Nat → Option Nat
  | [], n => some n
  | f :: fs, n => if f.offset = n then tiles P fs (n + P.cellsOf f.type) else none

/-- Types made of numbers, bools, strings, slices and structs of such. -/
def closedT (P : Program) (S : List TypeId) : Bool :=
  S.all fun t => match P.underlying t with
    | some .bool => true
    | some (.int _) => true
    | some .string => true
    | some (.slice e) => S.contains e && decide (0 < P.cellsOf e)
    | some (.struct fs) => fs.toList.all (fun f => S.contains f.type) && (tiles P fs.toList 0 == some (P.cellsOf t))
    | _ => false

theorem list_of {α : Type} {Q : Nat → α → Prop} : ∀ (n : Nat), (∀ i, i < n → ∃ x, Q i x) → ∃ xs : List α, xs.length = n ∧ ∀ (i : Nat) x, xs[i]? = some x → Q i x
  | 0, _ => ⟨[], rfl, fun i x h => by simp at h⟩
  | n + 1, h => by
    obtain ⟨xs, h1, h2⟩ := list_of n fun i hi => h i (by omega)
    obtain ⟨x, hx⟩ := h n (by omega)
    refine ⟨xs ++ [x], by simp [h1], fun i y hy => ?_⟩
    rw [List.getElem?_append] at hy
    split at hy
    · exact h2 i y hy
    · rename_i q
      have hi : i - xs.length = 0 := by
        rcases Nat.eq_zero_or_pos (i - xs.length) with z | z
        · exact z
        · rw [List.getElem?_eq_none (by simp; omega)] at hy; cases hy
      rw [hi] at hy
      simp at hy
      subst hy
      have : i = n := by omega
      subst this
      exact hx

theorem mapM_get {α β : Type} {f : α → Option β} : ∀ {xs : List α} {ys : List β}, xs.mapM f = some ys → ys.length = xs.length ∧ ∀ (i : Nat) x, xs[i]? = some x → ∃ y, ys[i]? = some y ∧ f x = some y
  | [], ys, h => by
    simp at h
    subst h
    exact ⟨rfl, fun i x h => by simp at h⟩
  | a :: as, ys, h => by
    simp only [List.mapM_cons, Option.bind_eq_bind, Option.bind_eq_some_iff, Option.pure_def, Option.some.injEq] at h
    obtain ⟨b, hb, bs, hbs, rfl⟩ := h
    obtain ⟨q1, q2⟩ := mapM_get hbs
    refine ⟨by simp [q1], fun i x hx => ?_⟩
    match i with
    | 0 => simp at hx; subst hx; exact ⟨b, rfl, hb⟩
    | i + 1 => simp at hx; obtain ⟨y, z1, z2⟩ := q2 i x hx; exact ⟨y, by simpa using z1, z2⟩

theorem mapM_range {β : Type} {f : Nat → Option β} {n : Nat} {ys : List β} (h : (List.range n).mapM f = some ys) : ys.length = n ∧ ∀ i, i < n → ∃ y, ys[i]? = some y ∧ f i = some y := by
  obtain ⟨q1, q2⟩ := mapM_get h
  exact ⟨by simpa using q1, fun i hi => q2 i i (by simp [hi])⟩

section
variable {H : Type} {enc : TypeId × Value → H} {P : Program} {W : World} {S : List TypeId}

theorem fields_fit {fuel : Nat} {cs : List Value} (ih : ∀ t, t ∈ S → ∀ cs (x : DataW H × List MemPlace), DataW.trod enc P W 0 (fun _ => true) true fuel t cs = some x → ∃ as, Fits P t as ∧ RelCs (View.all W) cs as) : ∀ (L : List Field) (o : Nat) (ys : List (DataW H × List MemPlace)),
    (∀ f ∈ L, f.type ∈ S) → tiles P L o = some cs.length → o ≤ cs.length → (L.mapM fun f => DataW.trod enc P W 0 (fun _ => true) true fuel f.type ((cs.drop f.offset).take (P.cellsOf f.type))) = some ys →
    ∃ ass : List (List Av), ass.length = L.length ∧ (∀ (i : Nat) f a, L[i]? = some f → ass[i]? = some a → Fits P f.type a) ∧ RelCs (View.all W) (cs.drop o) ass.flatten
  | [], o, ys, _, ht, _, _ => by
    simp only [tiles, Option.some.injEq] at ht
    subst ht
    refine ⟨[], rfl, fun i f a h => by simp at h, ?_⟩
    simp only [List.drop_length, List.flatten_nil]
    exact .nil _
  | f :: L, o, ys, hS, ht, ho, h => by
    simp only [tiles] at ht
    split at ht
    · rename_i hoff
      subst hoff
      simp only [List.mapM_cons, Option.bind_eq_bind, Option.bind_eq_some_iff, Option.pure_def, Option.some.injEq] at h
      obtain ⟨b, hb, bs, hbs, rfl⟩ := h
      obtain ⟨as, ha1, ha2⟩ := ih f.type (hS f (by simp)) _ _ hb
      have hle : ∀ (L : List Field) (n m : Nat), tiles P L n = some m → n ≤ m := by
        intro L
        induction L with
        | nil => intro n m q; simp only [tiles, Option.some.injEq] at q; omega
        | cons g L ihL =>
          intro n m q
          simp only [tiles] at q
          split at q
          · have := ihL _ _ q; omega
          · cases q
      have hb2 := hle _ _ _ ht
      obtain ⟨ass, g1, g2, g3⟩ := fields_fit ih L (f.offset + P.cellsOf f.type) bs (fun g hg => hS g (by simp [hg])) ht hb2 hbs
      refine ⟨as :: ass, by simp [g1], fun i g a hg ha => ?_, ?_⟩
      · match i with
        | 0 => simp at hg ha; subst hg; subst ha; exact ha1
        | i + 1 => simp at hg ha; exact g2 i g a hg ha
      · have e1 : cs.drop f.offset = (cs.drop f.offset).take (P.cellsOf f.type) ++ cs.drop (f.offset + P.cellsOf f.type) := by
          rw [← List.drop_drop, List.take_append_drop]
        rw [e1, List.flatten_cons]
        exact ha2.append g3
    · cases ht

theorem trod_bool {fuel : Nat} {t : TypeId} {cs : List Value} {x : DataW H × List MemPlace} (hu : P.underlying t = some .bool) (h : DataW.trod enc P W 0 (fun _ => true) true (fuel + 1) t cs = some x) : ∃ b, cs = [.bool b] := by
  simp only [DataW.trod, hu] at h
  split at h
  all_goals first | exact ⟨_, rfl⟩ | (exfalso; simp_all; done) | contradiction

theorem trod_int {fuel : Nat} {t : TypeId} {k : IntKind} {cs : List Value} {x : DataW H × List MemPlace} (hu : P.underlying t = some (.int k)) (h : DataW.trod enc P W 0 (fun _ => true) true (fuel + 1) t cs = some x) : ∃ n, cs = [.int k n] ∧ k.has n := by
  simp only [DataW.trod, hu] at h
  split at h
  case h_2 =>
    rename_i hk
    split at h
    · rename_i hw
      obtain ⟨rfl, hw⟩ := hw
      cases hk
      simp only [Lit.wf, Bool.and_eq_true, decide_eq_true_eq] at hw
      exact ⟨_, rfl, hw⟩
    · cases h
  all_goals first | (exfalso; simp_all; done) | contradiction

theorem trod_str {fuel : Nat} {t : TypeId} {cs : List Value} {x : DataW H × List MemPlace} (hu : P.underlying t = some .string) (h : DataW.trod enc P W 0 (fun _ => true) true (fuel + 1) t cs = some x) : ∃ s : ByteArray, cs = [.string s] ∧ s.size ≤ maxLen := by
  simp only [DataW.trod, hu] at h
  split at h
  case h_4 =>
    split at h
    · rename_i hw
      exact ⟨_, rfl, hw⟩
    · cases h
  all_goals first | (exfalso; simp_all; done) | contradiction

theorem trod_slice {fuel : Nat} {t e : TypeId} {cs : List Value} {x : DataW H × List MemPlace} (hu : P.underlying t = some (.slice e)) (h : DataW.trod enc P W 0 (fun _ => true) true (fuel + 1) t cs = some x) : cs = [.slice none 0 0] ∨
    ∃ a len cap, cs = [.slice (some a) len cap] ∧ len ≤ cap ∧ cap ≤ maxLen ∧ ∀ i, i < cap → ∃ ds y, W.cells? 0 (a.add (i * P.cellsOf e)) (P.cellsOf e) = some ds ∧ DataW.trod enc P W 0 (fun _ => true) true fuel e ds = some y := by
  simp only [DataW.trod, hu] at h
  split at h
  case h_7 => exact .inl rfl
  case h_8 =>
    rename_i e' a len cap hk
    cases hk
    right
    split at h
    · rename_i hc
      refine ⟨a, len, cap, rfl, hc.2.1, hc.2.2, ?_⟩
      simp only [Option.bind_eq_some_iff, if_true, Option.map_eq_some_iff] at h
      obtain ⟨elems, h1, rest, h2, _⟩ := h
      obtain ⟨_, q1⟩ := mapM_range h1
      obtain ⟨_, q2⟩ := mapM_range h2
      intro i hi
      by_cases hl : i < len
      · obtain ⟨y, _, hy⟩ := q1 i hl
        simp only [Option.bind_eq_some_iff] at hy
        obtain ⟨ds, g1, g2⟩ := hy
        exact ⟨ds, y, g1, g2⟩
      · obtain ⟨y, _, hy⟩ := q2 (i - len) (by omega)
        simp only [Option.bind_eq_some_iff] at hy
        obtain ⟨ds, g1, g2⟩ := hy
        have e1 : len + (i - len) = i := by omega
        rw [e1] at g1
        exact ⟨ds, y, g1, g2⟩
    · cases h
  all_goals first | (exfalso; simp_all; done) | contradiction

theorem trod_struct {fuel : Nat} {t : TypeId} {fs : Array Field} {cs : List Value} {x : DataW H × List MemPlace} (hu : P.underlying t = some (.struct fs)) (h : DataW.trod enc P W 0 (fun _ => true) true (fuel + 1) t cs = some x) :
    cs.length = P.cellsOf t ∧ ∃ ys, (fs.toList.mapM fun f => DataW.trod enc P W 0 (fun _ => true) true fuel f.type ((cs.drop f.offset).take (P.cellsOf f.type))) = some ys := by
  simp only [DataW.trod, hu] at h
  split at h
  · rename_i hl
    simp only [Option.map_eq_some_iff] at h
    obtain ⟨ys, h1, _⟩ := h
    exact ⟨hl, ys, h1⟩
  · cases h

theorem cells_get {a : Addr} {n : Nat} {ds : List Value} (h : W.cells? 0 a n = some ds) : ds.length = n ∧ ∀ i, i < n → ∃ v, ds[i]? = some v ∧ W.cell? (a.add i) = some v := by
  unfold World.cells? at h
  rw [if_pos (Nat.zero_le _)] at h
  exact mapM_range h

theorem trod_fits (hS : closedT P S = true) : ∀ (fuel : Nat) (t : TypeId), t ∈ S → ∀ (cs : List Value) (x : DataW H × List MemPlace), DataW.trod enc P W 0 (fun _ => true) true fuel t cs = some x → ∃ as, Fits P t as ∧ RelCs (View.all W) cs as := by
  intro fuel
  induction fuel with
  | zero => intro t _ cs x h; simp [DataW.trod] at h
  | succ fuel ih =>
    intro t ht cs x h
    have hc := List.all_eq_true.1 hS t ht
    split at hc
    · rename_i hu
      obtain ⟨b, rfl⟩ := trod_bool hu h
      exact ⟨[.bool b], .bool b hu, .one (.bool b) rfl⟩
    · rename_i k hu
      obtain ⟨n, rfl, hn⟩ := trod_int hu h
      exact ⟨[.int k n], .int n hu hn, .one (.int k n hn) rfl⟩
    · rename_i hu
      obtain ⟨s, rfl, hs⟩ := trod_str hu h
      have hl : s.data.toList.length ≤ maxL := by
        rw [Array.length_toList]
        have : s.data.size = s.size := rfl
        unfold maxLen at hs; unfold maxL
        omega
      exact ⟨[.str s.data.toList], .str _ hu hl, .one (.str s _ rfl hl) rfl⟩
    · rename_i e hu
      simp only [Bool.and_eq_true, decide_eq_true_eq, List.contains_iff_mem] at hc
      rcases trod_slice hu h with rfl | ⟨a, len, cap, rfl, hlc, hcm, hel⟩
      · exact ⟨[.sl [] .nil], .snil hu, .one .slnil rfl⟩
      · obtain ⟨xs, hx1, hx2⟩ := list_of (Q := fun i x => Fits P e x ∧ ∃ ds, W.cells? 0 (a.add (i * P.cellsOf e)) (P.cellsOf e) = some ds ∧ RelCs (View.all W) ds x) len (fun i hi => by
          obtain ⟨ds, y, g1, g2⟩ := hel i (by omega)
          obtain ⟨as, k1, k2⟩ := ih e hc.1 ds y g2
          exact ⟨as, k1, ds, g1, k2⟩)
        obtain ⟨b, o, sp⟩ := a
        have hsp : 0 < cap → sp = none := by
          intro hp
          obtain ⟨ds, y, g1, g2⟩ := hel 0 hp
          obtain ⟨_, q2⟩ := cells_get g1
          obtain ⟨v, _, q3⟩ := q2 0 hc.2
          have := World.cell?_spot q3
          simpa [Addr.add] using this
        have hxl : ∀ x ∈ xs, x.length = P.cellsOf e := by
          intro x hx
          obtain ⟨i, hi⟩ := List.getElem?_of_mem hx
          obtain ⟨_, ds, g1, g2⟩ := hx2 i x hi
          rw [← g2.1]
          exact (cells_get g1).1
        have hm : cap ≤ maxL := by unfold maxLen at hcm; unfold maxL; omega
        have hcell : ∀ (i j : Nat) x c, xs[i]? = some x → x[j]? = some c → ∃ v, W.cell? ⟨b, o + i * P.cellsOf e + j, none⟩ = some v ∧ v.oneCell' = true ∧ RelV (View.all W) v c := by
          intro i j x c hi hj
          have hil : i < len := by rw [← hx1]; exact (List.getElem?_eq_some_iff.1 hi).1
          have := hsp (by omega)
          subst this
          obtain ⟨_, ds, g1, g2⟩ := hx2 i x hi
          obtain ⟨q1, q2⟩ := cells_get g1
          have hjl : j < x.length := (List.getElem?_eq_some_iff.1 hj).1
          obtain ⟨v, k1, k2⟩ := q2 j (by rw [← q1, g2.1]; exact hjl)
          obtain ⟨r1, r2⟩ := g2.2 j v c k1 hj
          refine ⟨v, ?_, r2, r1⟩
          rw [addr_add, addr_add] at k2
          exact k2
        refine ⟨[.sl xs .any], .sl xs hu (by omega) (fun x hx => ?_), .one (.sl b o len cap xs .any (P.cellsOf e) (fun i j => (W.cell? ⟨b, o + i * P.cellsOf e + j, none⟩).getD undef) sp hx1 hlc hm hxl ?_ ?_ trivial hsp) rfl⟩
        · obtain ⟨i, hi⟩ := List.getElem?_of_mem hx
          exact (hx2 i x hi).1
        · intro i j x c hi hj
          obtain ⟨v, k1, k2, k3⟩ := hcell i j x c hi hj
          simp only [k1, Option.getD_some]
          exact ⟨seen_of_cell k1 k2, k2⟩
        · intro i j x c hi hj
          obtain ⟨v, k1, k2, k3⟩ := hcell i j x c hi hj
          simp only [k1, Option.getD_some]
          exact k3
    · rename_i fs hu
      simp only [Bool.and_eq_true, List.all_eq_true, List.contains_iff_mem, beq_iff_eq] at hc
      obtain ⟨hl, ys, hy⟩ := trod_struct hu h
      obtain ⟨ass, g1, g2, g3⟩ := fields_fit ih fs.toList 0 ys hc.1 (by rw [hl]; exact hc.2) (Nat.zero_le _) hy
      rw [List.drop_zero] at g3
      exact ⟨ass.flatten, .struct ass hu (by simpa using g1) (fun i f a hf ha => g2 i f a (by simpa using hf) ha), g3⟩
    · cases hc

/-- An argument: its abstract value, by its type. -/
theorem arg_fits (hS : closedT P S = true) {t : TypeId} (ht : t ∈ S) {v : Value} {d : DataW H} {ps : List MemPlace} (h : DataW.Trod enc P W 0 (fun _ => true) true t v d ps) : ∃ as, Fits P t as ∧ RelCs (View.all W) v.cells.toList as := by
  obtain ⟨fuel, h⟩ := h
  exact trod_fits hS fuel t ht _ _ h

end
end Go.Am

namespace Go.Am
open Go

section
variable {T : Type} (P : Program) (hk : TypeId → T → Option Av)

/-- The cells that a datum of a type says. -/
def avD : Nat → TypeId → DataW T → Option (List Av)
  | 0, _, _ => none
  | n + 1, t, d =>
    match P.underlying t, d with
    | some .bool, .lit (.bool b) => some [.bool b]
    | some (.int k), .lit (.int k' m) => if k' = k then some [.int k m] else none
    | some .string, .lit (.string l) => some [.str l]
    | some (.slice _), .nil => some [.sl [] .nil]
    | some (.slice e), .slice es _ => if 0 < P.cellsOf e then (es.mapM (avD n e)).map fun xs => [.sl xs .any] else none
    | some (.array m e), .agg ds => if P.cellsOf t = m * P.cellsOf e then (ds.mapM (avD n e)).map fun xs => xs.flatten else none
    | some (.struct fs), .agg ds => if tiles P fs.toList 0 = some (P.cellsOf t) then ((fs.toList.zip ds).mapM fun p => avD n p.1.type p.2).map fun xs => xs.flatten else none
    | some (.func ..), .held h => (hk t h).map fun a => [a]
    | _, _ => none
end

theorem RelCs.len {V : View} {cs : List Value} {as : List Av} (h : RelCs V cs as) : cs.length = as.length := h.1

theorem relCs_chunks {V : View} {c : Nat} : ∀ (ass : List (List Av)) (cs : List Value), cs.length = ass.length * c → (∀ (i : Nat) a, ass[i]? = some a → RelCs V ((cs.drop (i * c)).take c) a) → RelCs V cs ass.flatten
  | [], cs, hl, _ => by
    simp at hl
    subst hl
    exact .nil V
  | a :: ass, cs, hl, h => by
    have h0 := h 0 a rfl
    simp only [Nat.zero_mul, List.drop_zero] at h0
    have e : cs = cs.take c ++ cs.drop c := (List.take_append_drop c cs).symm
    rw [e, List.flatten_cons]
    refine h0.append (relCs_chunks (c := c) ass _ ?_ ?_)
    · rw [List.length_cons, Nat.add_mul] at hl
      simp [hl]
    · intro i b hb
      have := h (i + 1) b hb
      rw [Nat.add_mul, Nat.one_mul, Nat.add_comm, ← List.drop_drop] at this
      exact this

theorem mapM_len {α β : Type} {f : α → Option β} {xs : List α} {ys : List β} (h : xs.mapM f = some ys) : ys.length = xs.length := (mapM_get h).1

theorem mapM_get' {α β : Type} {f : α → Option β} {xs : List α} {ys : List β} (h : xs.mapM f = some ys) {i : Nat} {y : β} (hy : ys[i]? = some y) : ∃ x, xs[i]? = some x ∧ f x = some y := by
  obtain ⟨q1, q2⟩ := mapM_get h
  have hi : i < xs.length := by rw [← q1]; exact (List.getElem?_eq_some_iff.1 hy).1
  obtain ⟨y', h1, h2⟩ := q2 i xs[i] (List.getElem?_eq_getElem hi)
  rw [hy] at h1
  cases h1
  exact ⟨_, List.getElem?_eq_getElem hi, h2⟩

section
variable {T : Type} {P : Program} {W : World} {enc : TypeId × Value → T} {hk : TypeId → T → Option Av} {held : Bool}

theorem fields_data {fuel n : Nat} {cs : List Value} (ih : ∀ t cs d p as, DataW.trod enc P W 0 (fun _ => true) held fuel t cs = some (d, p) → avD P hk n t d = some as → RelCs (View.all W) cs as) :
    ∀ (L : List Field) (o : Nat) (ys : List (DataW T × List MemPlace)) (ass : List (List Av)), tiles P L o = some cs.length → o ≤ cs.length →
      (L.mapM fun f => DataW.trod enc P W 0 (fun _ => true) held fuel f.type ((cs.drop f.offset).take (P.cellsOf f.type))) = some ys → ((L.zip (ys.map (·.1))).mapM fun p => avD P hk n p.1.type p.2) = some ass → RelCs (View.all W) (cs.drop o) ass.flatten
  | [], o, ys, ass, ht, _, h, ha => by
    simp only [tiles, Option.some.injEq] at ht
    subst ht
    simp at ha
    subst ha
    simp only [List.drop_length, List.flatten_nil]
    exact .nil _
  | f :: L, o, ys, ass, ht, ho, h, ha => by
    simp only [tiles] at ht
    split at ht
    · rename_i hoff
      subst hoff
      simp only [List.mapM_cons, Option.bind_eq_bind, Option.bind_eq_some_iff, Option.pure_def, Option.some.injEq] at h
      obtain ⟨b, hb, bs, hbs, rfl⟩ := h
      simp only [List.map_cons, List.zip_cons_cons, List.mapM_cons, Option.bind_eq_bind, Option.bind_eq_some_iff, Option.pure_def, Option.some.injEq] at ha
      obtain ⟨a, ha1, as, ha2, rfl⟩ := ha
      obtain ⟨d, p⟩ := b
      have h1 := ih _ _ _ _ _ hb ha1
      have hle : ∀ (L : List Field) (n m : Nat), tiles P L n = some m → n ≤ m := by
        intro L
        induction L with
        | nil => intro n m q; simp only [tiles, Option.some.injEq] at q; omega
        | cons g L ihL =>
          intro n m q
          simp only [tiles] at q
          split at q
          · have := ihL _ _ q; omega
          · cases q
      have h2 := fields_data ih L (f.offset + P.cellsOf f.type) bs as ht (hle _ _ _ ht) hbs ha2
      have e1 : cs.drop f.offset = (cs.drop f.offset).take (P.cellsOf f.type) ++ cs.drop (f.offset + P.cellsOf f.type) := by
        rw [← List.drop_drop, List.take_append_drop]
      rw [e1, List.flatten_cons]
      exact h1.append h2
    · cases ht

theorem trod_data (hH : ∀ t h a, hk t h = some a → ∀ v, enc (t, v) = h → RelV (View.all W) v a ∧ v.oneCell' = true) : ∀ (n fuel : Nat) (t : TypeId) (cs : List Value) (d : DataW T) (p : List MemPlace) (as : List Av),
    DataW.trod enc P W 0 (fun _ => true) held fuel t cs = some (d, p) → avD P hk n t d = some as → RelCs (View.all W) cs as := by
  intro n
  induction n with
  | zero => intro fuel t cs d p as _ h; simp [avD] at h
  | succ n ih =>
    intro fuel t cs d p as h ha
    cases fuel with
    | zero => simp [DataW.trod] at h
    | succ fuel =>
      simp only [avD] at ha
      split at ha
      · rename_i b hu
        simp only [DataW.trod, hu] at h
        cases ha
        split at h
        all_goals first | (simp only [Option.some.injEq, Prod.mk.injEq, DataW.lit.injEq, Lit.bool.injEq] at h; obtain ⟨rfl, _⟩ := h; exact .one (.bool _) rfl) | (exfalso; simp_all; done) | contradiction
      · rename_i k k' m hu
        simp only [DataW.trod, hu] at h
        split at ha
        · rename_i hkk
          cases ha
          subst hkk
          split at h
          case h_2 =>
            rename_i hq
            split at h
            · rename_i hw
              simp only [Option.some.injEq, Prod.mk.injEq, DataW.lit.injEq, Lit.int.injEq] at h
              obtain ⟨⟨rfl, rfl⟩, _⟩ := h
              obtain ⟨hw1, hw⟩ := hw
              subst hw1
              simp only [Lit.wf, Bool.and_eq_true, decide_eq_true_eq] at hw
              exact .one (.int _ _ hw) rfl
            · cases h
          all_goals first | (exfalso; simp_all; done) | contradiction
        · cases ha
      · rename_i l hu
        simp only [DataW.trod, hu] at h
        cases ha
        split at h
        case h_4 =>
          split at h
          · rename_i hw
            simp only [Option.some.injEq, Prod.mk.injEq, DataW.lit.injEq, Lit.string.injEq] at h
            obtain ⟨rfl, _⟩ := h
            refine .one (.str _ _ rfl ?_) rfl
            rw [Array.length_toList]
            have : ∀ s : ByteArray, s.data.size = s.size := fun _ => rfl
            rw [this]
            unfold maxLen at hw; unfold maxL
            omega
          · cases h
        all_goals first | (exfalso; simp_all; done) | contradiction
      · rename_i e hu
        simp only [DataW.trod, hu] at h
        cases ha
        split at h
        case h_7 => exact .one .slnil rfl
        case h_8 =>
          split at h
          · simp only [Option.bind_eq_some_iff, Option.map_eq_some_iff, Prod.mk.injEq] at h
            obtain ⟨_, _, _, _, h, _⟩ := h
            cases h
          · cases h
        all_goals first | (exfalso; simp_all; done) | contradiction
      · rename_i e es sp hu
        simp only [DataW.trod, hu] at h
        split at ha
        · rename_i hpos
          simp only [Option.map_eq_some_iff] at ha
          obtain ⟨xs, hx, rfl⟩ := ha
          split at h
          case h_8 =>
            rename_i e' a len cap hk'
            cases hk'
            split at h
            · rename_i hc
              simp only [Option.bind_eq_some_iff, Option.map_eq_some_iff, Prod.mk.injEq] at h
              obtain ⟨elems, h1, rest, h2, h3, _⟩ := h
              cases h3
              obtain ⟨q0, q1⟩ := mapM_range h1
              have hxl := mapM_len hx
              rw [List.length_map, q0] at hxl
              have hel : ∀ (i : Nat) x, xs[i]? = some x → ∃ ds, W.cells? 0 (a.add (i * P.cellsOf e)) (P.cellsOf e) = some ds ∧ RelCs (View.all W) ds x := by
                intro i x hi
                have hil : i < len := by rw [← hxl]; exact (List.getElem?_eq_some_iff.1 hi).1
                obtain ⟨y, hy1, hy2⟩ := q1 i hil
                simp only [Option.bind_eq_some_iff] at hy2
                obtain ⟨ds, g1, g2⟩ := hy2
                obtain ⟨d', hd1, hd2⟩ := mapM_get' hx hi
                simp only [List.getElem?_map, hy1, Option.map_some, Option.some.injEq] at hd1
                subst hd1
                exact ⟨ds, g1, ih _ _ _ _ _ _ g2 hd2⟩
              obtain ⟨b, o, s⟩ := a
              have hsp : 0 < cap → s = none := by
                intro hp
                by_cases hl0 : 0 < len
                · obtain ⟨y, hy1, hy2⟩ := q1 0 hl0
                  simp only [Option.bind_eq_some_iff] at hy2
                  obtain ⟨ds, g1, _⟩ := hy2
                  obtain ⟨_, q2⟩ := cells_get g1
                  obtain ⟨v, _, q3⟩ := q2 0 hpos
                  have := World.cell?_spot q3
                  simpa [Addr.add] using this
                · have hz : len = 0 := by omega
                  subst hz
                  simp only [if_true] at h2
                  obtain ⟨_, r2⟩ := mapM_range h2
                  obtain ⟨y, _, hy2⟩ := r2 0 (by omega)
                  simp only [Option.bind_eq_some_iff] at hy2
                  obtain ⟨ds, g1, _⟩ := hy2
                  obtain ⟨_, q2⟩ := cells_get g1
                  obtain ⟨v, _, q3⟩ := q2 0 hpos
                  have := World.cell?_spot q3
                  simpa [Addr.add] using this
              have hxw : ∀ x ∈ xs, x.length = P.cellsOf e := by
                intro x hx
                obtain ⟨i, hi⟩ := List.getElem?_of_mem hx
                obtain ⟨ds, g1, g2⟩ := hel i x hi
                rw [← g2.1]
                exact (cells_get g1).1
              have hcell : ∀ (i j : Nat) x c, xs[i]? = some x → x[j]? = some c → ∃ v, W.cell? ⟨b, o + i * P.cellsOf e + j, none⟩ = some v ∧ v.oneCell' = true ∧ RelV (View.all W) v c := by
                intro i j x c hi hj
                have hil : i < len := by rw [← hxl]; exact (List.getElem?_eq_some_iff.1 hi).1
                have := hsp (by omega)
                subst this
                obtain ⟨ds, g1, g2⟩ := hel i x hi
                obtain ⟨q1, q2⟩ := cells_get g1
                have hjl : j < x.length := (List.getElem?_eq_some_iff.1 hj).1
                obtain ⟨v, k1, k2⟩ := q2 j (by rw [← q1, g2.1]; exact hjl)
                obtain ⟨r1, r2⟩ := g2.2 j v c k1 hj
                refine ⟨v, ?_, r2, r1⟩
                rw [addr_add, addr_add] at k2
                exact k2
              have hm : cap ≤ maxL := by have := hc.2.2; unfold maxLen at this; unfold maxL; omega
              refine .one (.sl b o len cap xs .any (P.cellsOf e) (fun i j => (W.cell? ⟨b, o + i * P.cellsOf e + j, none⟩).getD undef) s hxl hc.2.1 hm hxw ?_ ?_ trivial hsp) rfl
              · intro i j x c hi hj
                obtain ⟨v, k1, k2, k3⟩ := hcell i j x c hi hj
                simp only [k1, Option.getD_some]
                exact ⟨seen_of_cell k1 k2, k2⟩
              · intro i j x c hi hj
                obtain ⟨v, k1, k2, k3⟩ := hcell i j x c hi hj
                simp only [k1, Option.getD_some]
                exact k3
            · cases h
          all_goals first | (exfalso; simp_all; done) | contradiction
        · cases ha
      · rename_i m e ds hu
        simp only [DataW.trod, hu] at h
        split at ha
        · rename_i hm
          simp only [Option.map_eq_some_iff] at ha
          obtain ⟨ass, hx, rfl⟩ := ha
          split at h
          · rename_i hl
            simp only [Option.map_eq_some_iff, Prod.mk.injEq] at h
            obtain ⟨ys, h1, h2, _⟩ := h
            cases h2
            obtain ⟨q0, q1⟩ := mapM_range h1
            have hxl := mapM_len hx
            rw [List.length_map, q0] at hxl
            refine relCs_chunks (c := P.cellsOf e) ass cs (by rw [hl, hm, hxl]) fun i a hi => ?_
            have hil : i < m := by rw [← hxl]; exact (List.getElem?_eq_some_iff.1 hi).1
            obtain ⟨y, hy1, hy2⟩ := q1 i hil
            obtain ⟨d', hd1, hd2⟩ := mapM_get' hx hi
            simp only [List.getElem?_map, hy1, Option.map_some, Option.some.injEq] at hd1
            subst hd1
            exact ih _ _ _ _ _ _ hy2 hd2
          · cases h
        · cases ha
      · rename_i fs ds hu
        simp only [DataW.trod, hu] at h
        split at ha
        · rename_i hm
          simp only [Option.map_eq_some_iff] at ha
          obtain ⟨ass, hx, rfl⟩ := ha
          split at h
          · rename_i hl
            simp only [Option.map_eq_some_iff, Prod.mk.injEq] at h
            obtain ⟨ys, h1, h2, _⟩ := h
            cases h2
            have := fields_data (fun t cs d p as => ih fuel t cs d p as) fs.toList 0 ys ass (by rw [hl]; exact hm) (Nat.zero_le _) h1 hx
            rw [List.drop_zero] at this
            exact this
          · cases h
        · cases ha
      · rename_i hh hu
        simp only [Option.map_eq_some_iff] at ha
        obtain ⟨a, ha, rfl⟩ := ha
        simp only [DataW.trod, hu] at h
        split at h
        all_goals first
          | (exfalso; simp_all; done)
          | (split at h
             · simp only [Option.some.injEq, Prod.mk.injEq, DataW.held.injEq] at h
               obtain ⟨h, _⟩ := h
               obtain ⟨k1, k2⟩ := hH _ _ _ ha _ h
               exact .one k1 k2
             · cases h)
          | contradiction
      · cases ha

/-- What a package-level variable holds. -/
theorem glob_data {name : String} {g : Nat} {cs : Array Value} {as : List Av} (hg : P.globalNamed name = some g) (hv : W.var? P name = some cs) (h : RelCs (View.all W) cs.toList as) : ∀ (j : Nat) a, as[j]? = some a → ∃ v, seen' W g j = some v ∧ v.oneCell' = true ∧ RelV (View.all W) v a := by
  intro j a ha
  simp only [World.var?, hg, Option.bind_some] at hv
  split at hv
  · rename_i c t fz hw
    cases hv
    have hj : j < as.length := (List.getElem?_eq_some_iff.1 ha).1
    have hjc : j < cs.toList.length := by rw [h.1]; exact hj
    obtain ⟨k1, k2⟩ := h.2 j _ a (List.getElem?_eq_getElem hjc) ha
    refine ⟨_, seen_of_cell ?_ k2, k2, k1⟩
    simp only [World.cell?, hw]
    simp
  · cases hv
end
end Go.Am

namespace Go.Am
open Go

section
variable {P : Program} {W : World}

theorem laidVars_get : ∀ {l : List (String × DataW Unit)} {ps : List MemPlace}, DataW.LaidVars P W l ps → ∀ {n : String} {d : DataW Unit}, (n, d) ∈ l →
    ∃ g t cs fuel p, P.globalNamed n = some g ∧ (P.globals[g]?).map (·.type) = some t ∧ W.var? P n = some cs ∧ DataW.trod (fun _ => ()) P W 0 (fun _ => true) false fuel t cs.toList = some (d, p)
  | [], _, _, _, _, hm => by cases hm
  | (n', d') :: r, ps, h, n, d, hm => by
    obtain ⟨g, t, cs, fuel, p, q, h1, h2, h3, h4, h5, _⟩ := h
    rcases List.mem_cons.1 hm with e | hm
    · cases e
      exact ⟨g, t, cs, fuel, p, h1, h2, h3, h4⟩
    · exact laidVars_get h5 hm

theorem laidMetH_data {l : List (String × DataW Unit)} (h : laidMetH P l W) : laidMet P (l.filter fun x => x.2.handleName?.isNone) W := by
  unfold laidMetH at h
  generalize hfl : (l.filter fun x => x.2.handleName?.isSome) = fl at h
  cases fl with
  | nil =>
    have e : (l.filter fun x => x.2.handleName?.isNone) = l := by
      rw [List.filter_eq_self]
      intro x hx
      have := (List.filter_eq_nil_iff.1 hfl) x hx
      cases hn : x.2.handleName? with
      | none => rfl
      | some s => rw [hn] at this; exact absurd rfl this
    rw [e]
    exact h
  | cons a b => exact h.1

/-- A listed variable that holds data. -/
theorem laid_glob {l : List (String × DataW Unit)} (h : laidMetH P l W) {n : String} {d : DataW Unit} (hm : (n, d) ∈ l) (hno : d.handleName?.isNone = true) {g : Nat} {t : TypeId} (hg : P.globalNamed n = some g) (ht : (P.globals[g]?).map (·.type) = some t)
    (N : Nat) {av : List Av} (ha : avD P (fun _ _ => none) N t d = some av) : ∀ (j : Nat) a, av[j]? = some a → ∃ v, seen' W g j = some v ∧ v.oneCell' = true ∧ RelV (View.all W) v a := by
  obtain ⟨ps, hl, _⟩ := laidMetH_data h
  obtain ⟨g', t', cs, fuel, p, h1, h2, h3, h4⟩ := laidVars_get hl (List.mem_filter.2 ⟨hm, hno⟩)
  obtain rfl := Option.some.inj (hg.symm.trans h1)
  obtain rfl := Option.some.inj (ht.symm.trans h2)
  exact glob_data hg h3 (trod_data (fun _ _ _ q => by cases q) N fuel _ _ _ _ _ h4 ha)

/-- Functions by their names. -/
def hkF (tbl : List (String × Nat)) (_ : TypeId) (h : List UInt8) : Option Av :=
  match h with
  | [] => none
  | h => (tbl.find? fun x => x.1.toUTF8.data.toList == h).map fun x => .fn x.2 []

theorem toUTF8_inj {a b : String} (h : a.toUTF8.data.toList = b.toUTF8.data.toList) : a = b := by
  have h1 : a.toUTF8 = b.toUTF8 := by
    cases ha : a.toUTF8
    cases hb : b.toUTF8
    rw [ha, hb] at h
    simp only at h
    rw [Array.toList_inj.1 h]
  exact String.toByteArray_inj.1 h1

theorem hkF_sound {tbl : List (String × Nat)} (ht : ∀ x ∈ tbl, P.funcNamed x.1 = some x.2) : ∀ t h a, hkF tbl t h = some a → ∀ v, funcToken P (t, v) = h → RelV (View.all W) v a ∧ v.oneCell' = true := by
  intro t h a ha v hv
  unfold hkF at ha
  split at ha
  · cases ha
  · rename_i hne
    cases h with
    | nil => exact absurd rfl hne
    | cons b r =>
      obtain ⟨f, fn, rfl, h1, h2, h3⟩ := funcToken_tells hv
      simp only [Option.map_eq_some_iff] at ha
      obtain ⟨x, hx, rfl⟩ := ha
      have hx1 := List.find?_some hx
      simp only [beq_iff_eq] at hx1
      have hnm : fn.name = x.1 := toUTF8_inj (h3.trans hx1.symm)
      have := ht x (List.mem_of_find?_eq_some hx)
      rw [hnm] at h2
      rw [h2] at this
      cases this
      exact ⟨.fn _ #[] [] rfl (fun i v a hv _ => by simp at hv), rfl⟩

/-- A listed variable that holds functions. -/
theorem laid_funcs {l : List (String × DataW Unit)} (h : laidMetH P l W) {n : String} {d : DataW Unit} (hm : (n, DataW.iface "func table" d) ∈ l) {g : Nat} {t : TypeId} (hg : P.globalNamed n = some g) (ht : (P.globals[g]?).map (·.type) = some t)
    (tbl : List (String × Nat)) (htb : ∀ x ∈ tbl, P.funcNamed x.1 = some x.2) (N : Nat) {av : List Av} (ha : avD P (hkF tbl) N t d.funcsOut = some av) : ∀ (j : Nat) a, av[j]? = some a → ∃ v, seen' W g j = some v ∧ v.oneCell' = true ∧ RelV (View.all W) v a := by
  obtain ⟨g', t', cs, fuel, p, h1, h2, h3, h4⟩ := laidMetH.funcs h hm
  obtain rfl := Option.some.inj (hg.symm.trans h1)
  obtain rfl := Option.some.inj (ht.symm.trans h2)
  exact glob_data hg h3 (trod_data (hkF_sound htb) N fuel _ _ _ _ _ h4 ha)

/-- What a function returns, as a call of the loaded program. -/
theorem calls_of_ret {G : Glo} {F : Tab} (hmix : P.follows .mixedOrders = true) (hGP : G.P = P) (hT : TabOK P G F) {f n : Nat} {c : AC} {res : List ResA} {pu : Bool} (hf : F f = some (.fn pu n c res)) {args : List Av} {v : Av} (h : Ret F f args v)
    {vs : Array Value} (hs : Sim G W (View.all W) [] []) (hr : RelL (View.all W) vs args) : Calls P f vs W fun e w' => ∃ r, e = .returned r ∧ (∃ V', RelV V' r v) ∧ w'.os = W.os ∧ w'.output = W.output ∧ W.heap.size ≤ w'.heap.size ∧ ∀ i, i < W.heap.size → w'.heap[i]? = W.heap[i]? := by
  obtain ⟨h1, _⟩ := ev_sound hmix hGP hT (h [] [])
  obtain ⟨pf, conc, B, q1, q2, q3, _⟩ := hT f _ hf
  have hrun := run_callFunc' q1 q2 q3 vs W
  rcases h1 W (View.all W) vs hs hr with ⟨r, w', e, _⟩ | ⟨_, hc⟩
  · rw [hrun] at e; cases e
  · refine hc.mono fun e w' => ?_
    rintro ⟨r, rfl, V', _, hk, _, hv⟩
    exact ⟨r, rfl, ⟨V', hv⟩, hk.os, hk.output, hk.size, fun i hi => (hk.same i hi (by rintro (⟨_, _, _, _, e⟩ | ⟨_, _, _, _, e⟩) <;> cases e)).1⟩

theorem rel_cell {V : View} {v : Value} {a : Av} (hna : ∀ cs, v ≠ .agg cs) (h : RelCs V v.cells.toList [a]) : RelV V v a := by
  have e : v.cells = #[v] := by
    cases v with
    | agg cs => exact absurd rfl (hna cs)
    | _ => rfl
  rw [e] at h
  exact (h.2 0 v a rfl rfl).1

theorem rel_agg {V : View} {v : Value} {av : List Av} (ha : ∃ cs, v = .agg cs) (h : RelCs V v.cells.toList av) : RelV V v (.agg av) := by
  obtain ⟨cs, rfl⟩ := ha
  have e : (Value.agg cs).cells = cs := rfl
  rw [e] at h
  refine .agg cs av (by simpa using h.1) (fun i v hv => ?_) fun i v a hv hq => (h.2 i v a (by simpa using hv) hq).1
  have hi : i < av.length := by rw [← h.1, Array.length_toList]; exact (Array.getElem?_eq_some_iff.1 hv).1
  exact (h.2 i v _ (by simpa using hv) (List.getElem?_eq_getElem hi)).2

theorem wide_agg {r : Reach} {base : Nat} {t : TypeId} {v : Value} {fs : Array Field} (hu : P.underlying t = some (.struct fs)) (h : Value.okWide P W r base t v) : ∃ cs, v = .agg cs := by
  unfold Value.okWide at h
  rw [hu] at h
  obtain ⟨cs, q, _⟩ := h
  exact ⟨cs, q⟩

theorem wide_int {r : Reach} {base : Nat} {t : TypeId} {v : Value} {k : IntKind} (hu : P.underlying t = some (.int k)) (h : Value.okWide P W r base t v) : ∀ cs, v ≠ .agg cs := by
  rintro cs rfl
  simp [Value.okWide, hu, Cell.okWide, Cell.ok] at h

theorem wide_sl {r : Reach} {base : Nat} {t e : TypeId} {v : Value} (hu : P.underlying t = some (.slice e)) (h : Value.okWide P W r base t v) : ∀ cs, v ≠ .agg cs := by
  rintro cs rfl
  simp [Value.okWide, hu, Cell.okWide, Cell.ok] at h

theorem wide_str {r : Reach} {base : Nat} {t : TypeId} {v : Value} (hu : P.underlying t = some .string) (h : Value.okWide P W r base t v) : ∀ cs, v ≠ .agg cs := by
  rintro cs rfl
  simp [Value.okWide, hu, Cell.okWide, Cell.ok] at h

theorem tiles_sum : ∀ (L : List Field) (o m : Nat), tiles P L o = some m → m = o + (L.map fun f => P.cellsOf f.type).sum ∧ ∀ (j : Nat) f, L[j]? = some f → f.offset = o + ((L.take j).map fun f => P.cellsOf f.type).sum
  | [], o, m, h => by
    simp only [tiles, Option.some.injEq] at h
    exact ⟨by simp [h], fun j f q => by simp at q⟩
  | f :: L, o, m, h => by
    simp only [tiles] at h
    split at h
    · rename_i ho
      obtain ⟨h1, h2⟩ := tiles_sum L _ _ h
      refine ⟨by rw [h1]; simp [Nat.add_assoc], fun j g q => ?_⟩
      match j with
      | 0 => simp at q; subst q; simpa using ho
      | j + 1 =>
        simp at q
        rw [h2 j g q]
        simp [Nat.add_assoc]
    · cases h

theorem closedT_kids {S : List TypeId} (hS : closedT P S = true) : Kids P (· ∈ S) ∧ ∀ {t e : TypeId}, t ∈ S → P.underlying t = some (.slice e) → 0 < P.cellsOf e := by
  have key := fun t (ht : t ∈ S) => List.all_eq_true.1 hS t ht
  refine ⟨⟨?_, ?_, ?_, ?_, ?_⟩, ?_⟩
  · intro t e ht hu; have := key t ht; rw [hu] at this; cases this
  · intro t e ht hu
    have := key t ht
    rw [hu] at this
    simp only [Bool.and_eq_true, List.contains_iff_mem] at this
    exact this.1
  · intro t e n ht hu; have := key t ht; rw [hu] at this; cases this
  · intro t fs ht hu
    have := key t ht
    rw [hu] at this
    simp only [Bool.and_eq_true, List.all_eq_true, List.contains_iff_mem, beq_iff_eq] at this
    obtain ⟨h1, h2⟩ := tiles_sum _ _ _ this.2
    exact ⟨this.1, by simpa using h1, fun j f q => by simpa using h2 j f q⟩
  · intro t k e ht hu; have := key t ht; rw [hu] at this; cases this
  · intro t e ht hu
    have := key t ht
    rw [hu] at this
    simp only [Bool.and_eq_true, decide_eq_true_eq] at this
    exact this.2

section
variable {H : Type} {enc : TypeId × Value → H} {W' : World}

theorem trodAll_stays {S : List TypeId} (hS : closedT P S = true) (hh : ∀ i, i < W.heap.size → W'.heap[i]? = W.heap[i]?) {sp : Nat → Bool} :
    ∀ {ts : List TypeId} {vs : List Value} {ds : List (DataW H)} {ps : List MemPlace}, (∀ t ∈ ts, t ∈ S) → DataW.TrodAll enc P W 0 (fun _ => true) true ts vs ds ps → (∀ p ∈ ps, sp p.block = true) → DataW.TrodAll enc P W' 0 sp true ts vs ds ps
  | [], [], [], _, _, h, _ => h
  | t :: ts, v :: vs, d :: ds, ps, hts, h, hsp => by
    obtain ⟨p, q, ⟨fuel, h1⟩, h2, rfl⟩ := h
    obtain ⟨K, hsz⟩ := closedT_kids hS
    refine ⟨p, q, ⟨fuel, DataW.trod_stays K hsz (fun e => by cases e) (hts t (by simp)) h1 (fun x hx => ?_) (fun x hx => hsp x (by simp [hx]))⟩, trodAll_stays hS hh (fun t ht => hts t (by simp [ht])) h2 (fun x hx => hsp x (by simp [hx])), rfl⟩
    have hlt := DataW.trod_lt _ _ _ _ h1 x hx
    cases x with
    | cell b off => exact World.cell?_of_block (w := W) (w' := W') (a := ⟨b, off, none⟩) (hh b hlt)
    | map b => exact hh b hlt
  | [], _ :: _, _, _, _, h, _ => by cases h
  | [], [], _ :: _, _, _, h, _ => by cases h
  | _ :: _, [], _, _, _, h, _ => by cases h
  | _ :: _, _ :: _, [], _, _, h, _ => by cases h

/-- A law that answers true and leaves its arguments as they were. -/
theorem post_true {S : List TypeId} (hS : closedT P S = true) {fn : Func} {s : ChangeSpec} {apart handsOn : Bool} {args : Array Value} {ds gs : List (DataW H)} {before : List MemPlace} (hW : DataW.Whole enc P fn.params.toList s.vars apart W args.toList ds gs before)
    (hv : s.vars = []) (hpar : ∀ t ∈ fn.params.toList, t ∈ S) {tb : TypeId} (hres : fn.resultTypes = #[tb]) (htb : P.underlying tb = some .bool) (hfn : (s.fn H (ds ++ gs)) = { results := [.lit (.bool true)], args := ds })
    (hos : W'.os = W.os) (hout : W'.output = W.output) (hh : ∀ i, i < W.heap.size → W'.heap[i]? = W.heap[i]?) : s.post enc P fn apart true handsOn false W args (.bool true) W' := by
  have hlt := hW.lt
  have hW' := hW
  obtain ⟨p, q, hA, hV, rfl, _, _⟩ := hW
  rw [hv] at hV
  obtain ⟨rfl, rfl⟩ := ChangeShapes.trodVars_none hV
  refine ⟨ds, [], p ++ [], [], p, [], hW', ?_, ?_, ?_, ?_, fun e => by cases e⟩
  · rw [hres, hfn]
    exact ⟨[], [], ⟨1, by simp [DataW.trod, htb, Value.cells]⟩, rfl, rfl⟩
  · rw [hfn]
    exact trodAll_stays hS hh hpar hA fun x hx => by simpa using hlt x (by simp [hx])
  · rw [hv, hfn]
    rfl
  · refine ⟨hos, hout, fun i hi => ?_⟩
    rw [hh i hi]
    cases W.heap[i]? with
    | none => trivial
    | some o => cases o <;> simp
end
end
end Go.Am
