/- What abstract code comes to is what the concrete code does: rows and calls. Generic: no program in sight. -/
import Derived.Test.YtfhilbdpejljdaaGreatDoorA4
import Derived.Test.YtfhilbdpejljdaaGreatDoorA5
import Derived.RangeFuncCalls
set_option linter.all false
namespace Go.Am
open Go

section
variable {P : Program} {G : Glo} {B : Nat → Bool} {N D : Nat}

/-- The marks of the ranges over functions that an activation has begun: blocks beyond `D`, of which the abstract heap knows nothing. -/
def Marks (D : Nat) (w : World) (V : View) (ds : List Deferred) : Prop :=
  ∃ rs : List Nat, rs.Nodup ∧ ds = rs.map (fun r => { target := .collected r, args := #[] }) ∧ ∀ r ∈ rs, D ≤ r ∧ r < w.heap.size ∧ w.heap[r]? = some (.deferred (some [])) ∧ ¬ Owned V r

theorem Marks.nil (w : World) (V : View) : Marks D w V [] := ⟨[], List.nodup_nil, rfl, fun r h => by cases h⟩

theorem Marks.keep {w w' : World} {V V' : View} {ds : List Deferred} (h : Marks D w V ds) (k : Keep w V w' V') : Marks D w' V' ds := by
  obtain ⟨rs, h1, h2, h3⟩ := h
  refine ⟨rs, h1, h2, fun r hr => ?_⟩
  obtain ⟨q1, q2, q3, q4⟩ := h3 r hr
  refine ⟨q1, Nat.lt_of_lt_of_le q2 k.size, (k.same r q2 q4).1.trans q3, fun ho => ?_⟩
  rcases k.owned r ho with q | q
  · exact q4 q
  · omega

structure Pre (G : Glo) (N D : Nat) (a : Act) (w : World) (V : View) (s : St) : Prop where
  sim : Sim G w V s.H s.T
  env : RelE V a.tmps s.e
  defers : Marks D w V a.defers
  size : a.tmps.size = N
  base : D ≤ w.heap.size

def Lands (G : Glo) (N D : Nat) (w : World) (V : View) (s' : St) (a' : Act) (w' : World) : Prop :=
  ∃ V', V.Le V' ∧ Keep w V w' V' ∧ Pre G N D a' w' V' s'

/-- Everything is let in; within a round of a range over a function, or not. -/
def fw (ro : Option Nat) : Fence := { Fence.wide with round := ro }

theorem fw_room (ro : Option Nat) (n : Nat) : (fw ro).room n := fun d h => by cases h

theorem callsIn_fw {ro : Option Nat} {n f : Nat} {vs : Array Value} {w : World} {R : Ending → World → Prop} : CallsIn (fw ro) n P f vs w R ↔ Calls P f vs w R :=
  (callsIn_wide (n := n) : CallsIn Fence.wide n P f vs w R ↔ _)

theorem roundIn_fw {ro : Option Nat} {n l f : Nat} {tmps : Array Value} {as bd : Code} {w : World} {R : Ending → World → Prop} : RoundIn (fw ro) n P l f tmps as bd w R ↔ RoundIn Fence.wide 0 P l f tmps as bd w R :=
  ⟨fun h => ⟨trivial, fun c cs _ => h.2 c cs (fw_room ro _)⟩, fun h => ⟨trivial, fun c cs _ => h.2 c cs (fw_room none _)⟩⟩

theorem Lands.trans {w w1 w2 : World} {V V1 : View} {s : St} {a : Act} (h1 : V.Le V1) (h2 : Keep w V w1 V1) (h : Lands G N D w1 V1 s a w2) : Lands G N D w V s a w2 := by
  obtain ⟨V2, q1, q2, q3⟩ := h
  exact ⟨V2, h1.trans q1, h2.trans q2, q3⟩

def RelL (V : View) (vs : Array Value) (args : List Av) : Prop :=
  vs.size = args.length ∧ ∀ (i : Nat) v a, (vs[i]? : Option Value) = some v → args[i]? = some a → RelV V v a

/-- What a call does: it answers at once, or it enters and returns. -/
def Does (P : Program) (f : Nat) (vs : Array Value) (w : World) (R : Value → World → Prop) : Prop :=
  (∃ v w', (callFunc f vs).run P w = .ok (.value v) w' ∧ R v w') ∨
  ((callFunc f vs).run P w = .ok (.enter f vs) w ∧ Calls P f vs w (fun e w' => ∃ v, e = .returned v ∧ R v w'))

/-- What a call of yield does: a round. -/
def YDoes (P : Program) (l : Nat) (vs : Array Value) (w : World) (R : Value → World → Prop) : Prop :=
  ∃ fn tmps as bd, (Instr.yield l vs).run P w = .ok (.round l fn tmps as bd) w ∧ RoundIn Fence.wide 0 P l fn tmps as bd w (fun e w' => ∃ v, e = .returned v ∧ R v w')

def SC (P : Program) (G : Glo) (t : Tgt) (args : List Av) (H : List AO) (T : List Nat) (v : Av) (H' : List AO) (T' : List Nat) : Prop :=
  match t with
  | .shr f => ∀ w V vs, Sim G w V H T → RelL V vs args → Does P f vs w (fun r w' => ∃ V', V.Le V' ∧ Keep w V w' V' ∧ Sim G w' V' H' T' ∧ RelV V' r v)
  | .fn f => ∀ w V vs, Sim G w V H T → RelL V vs args → Does P f vs w (fun r w' => ∃ V', V.Le V' ∧ Keep w V w' V' ∧ Sim G w' V' H' T' ∧ RelV V' r v)
  | .yld b => ∀ w V vs c n s, Sim G w V H T → V.blk b = some (c, 0, n, s) → RelL V vs args → YDoes P c vs w (fun r w' => ∃ V', V.Le V' ∧ Keep w V w' V' ∧ Sim G w' V' H' T' ∧ RelV V' r v)

theorem guard_sound {ops : Array Oper} {o : Oper} {g : Option (Nat × Bool)} {a : Act} {w : World} {V : View} {s : St} {b : Bool} (hp : Pre G N D a w V s) (hN : ops.all (dstOk N) = true) (hg : guardC ops o = some g) (h : gOn g s.e = some b) :
    Region.wanted o (yielded ops a.tmps) = b := by
  unfold guardC at hg
  split at hg
  · rename_i h0
    cases hg
    simp only [gOn, Option.some.injEq] at h
    simp [Region.wanted, h0, h]
  · rename_i j want h0
    split at hg
    · rename_i d hd
      cases hg
      simp only [gOn] at h
      split at h
      · rename_i c hc
        cases h
        have hr := hp.env d
        rw [hc] at hr
        have hv := relBool hr
        obtain ⟨oj, hoj, hdj⟩ := Option.bind_eq_some_iff.1 hd
        have hlt : d < a.tmps.size := by
          rw [hp.size]
          have := Array.all_eq_true_iff_forall_mem.1 hN oj (Array.mem_of_getElem? hoj)
          simpa [dstOk, hdj] using this
        have hget : a.tmps[d]? = some (.bool c) := by
          rw [Array.getD_eq_getD_getElem?, Array.getElem?_eq_getElem hlt] at hv
          rw [Array.getElem?_eq_getElem hlt]
          simpa using hv
        simp only [Region.wanted, h0, yielded, hd, Option.bind_some, hget]
        cases c <;> cases want <;> rfl
      · rename_i hc
        cases h
        have hr := hp.env d
        rw [hc] at hr
        obtain ⟨oj, hoj, hdj⟩ := Option.bind_eq_some_iff.1 hd
        have hlt : d < a.tmps.size := by
          rw [hp.size]
          have := Array.all_eq_true_iff_forall_mem.1 hN oj (Array.mem_of_getElem? hoj)
          simpa [dstOk, hdj] using this
        generalize hv : a.tmps.getD d undef = v at hr
        have hget : a.tmps[d]? = some v := by
          rw [Array.getD_eq_getD_getElem?, Array.getElem?_eq_getElem hlt] at hv
          rw [Array.getElem?_eq_getElem hlt]
          simpa using hv
        cases hr with
        | tup vs as h1 h2 =>
          simp only [Region.wanted, h0, yielded, hd, Option.bind_some, hget]
          cases want <;> rfl
      · cases h
    · cases hg

theorem run_callFunc' {f : Nat} {pf : Func} {c : Code} (hf : P.funcs[f]? = some pf) (hname : (pf.name == "runtime.NumGoroutine") = false) (hb : pf.body = some c) (vs : Array Value) (w : World) : (callFunc f vs).run P w = .ok (.enter f vs) w := by
  have hn : pf.name ≠ "runtime.NumGoroutine" := by simpa using hname
  simp [callFunc, hf, hn, hb]

theorem exec_call {o : Oper} {c : Call} {x : Operand} {f : Nat} {caps : Array Value} {a : Act} {w : World} (ho : o.op = .call c) (hc : c.callee = .value x) (hx : a.eval x = .func (.func f) #[] caps) :
    (execOp a.eval o).run P w = (callFunc f (c.args.map a.eval ++ caps)).run P w := by
  simp [execOp, ho, resolve, hc, hx, Deferred.ofValue, invoke]

theorem exec_yield {o : Oper} {c : Call} {x : Operand} {l : Nat} {a : Act} {w : World} (ho : o.op = .call c) (hc : c.callee = .value x) (hx : a.eval x = .func (.yield l) #[] #[]) :
    (execOp a.eval o).run P w = (Instr.yield l (c.args.map a.eval)).run P w := by
  simp [execOp, ho, resolve, hc, hx, Deferred.ofValue, invoke]

theorem does_upon {ro : Option Nat} {o : Oper} {a : Act} {w : World} {f : Nat} {vs : Array Value} {next : Act → World → Prop} {Q : Exit → Act → World → Prop} {R : Value → World → Prop} (hnd : ∀ c, o.op ≠ .defer c)
    (hrun : (execOp a.eval o).run P w = (callFunc f vs).run P w) (h : Does P f vs w R) (hn : ∀ v w', R v w' → next (a.put o.dst v) w') : o.wpIn (fw ro) 0 P a w next Q := by
  refine ⟨fun _ _ => trivial, ?_⟩
  rw [Oper.semAt_eq _ _ _ hnd, hrun]
  rcases h with ⟨v, w', h1, h2⟩ | ⟨h1, h2⟩
  · rw [h1, Oper.uponIn_value]
    exact hn v w' h2
  · rw [h1, Oper.uponIn_enter]
    refine ⟨fun h => (by cases h), (callsIn_fw.2 h2).mono ?_⟩
    rintro e w' ⟨v, rfl, hr⟩
    exact hn v w' hr

theorem yields_upon {ro : Option Nat} {o : Oper} {a : Act} {w : World} {l : Nat} {vs : Array Value} {next : Act → World → Prop} {Q : Exit → Act → World → Prop} {R : Value → World → Prop} (hnd : ∀ c, o.op ≠ .defer c)
    (hrun : (execOp a.eval o).run P w = (Instr.yield l vs).run P w) (h : YDoes P l vs w R) (hn : ∀ v w', R v w' → next (a.put o.dst v) w') : o.wpIn (fw ro) 0 P a w next Q := by
  refine ⟨fun _ _ => trivial, ?_⟩
  rw [Oper.semAt_eq _ _ _ hnd, hrun]
  obtain ⟨fn, tmps, as, bd, h1, h2⟩ := h
  rw [h1, Oper.uponIn_round]
  refine ⟨fun h => (by cases h), (roundIn_fw.2 h2).mono ?_⟩
  rintro e w' ⟨v, rfl, hr⟩
  exact hn v w' hr

theorem relFn {V : View} {v : Value} {f : Nat} {as : List Av} (h : RelV V v (.fn f as)) : ∃ vs : Array Value, v = .func (.func f) #[] vs ∧ RelL V vs as := by
  cases h with
  | fn f vs as q1 q2 => exact ⟨vs, rfl, q1, q2⟩

def isCall : AOp → Bool
  | .call .. => true
  | .calld .. => true
  | _ => false

theorem appC_no {b : Bool} {e : TypeId} {x y : Operand} {op : AOp} (h : appC P G b e x y = some op) : isCall op = false := by
  obtain ⟨_, _, _, _, _, _, _, _, _, _, _, rfl⟩ := appC_inv h
  cases b <;> rfl

theorem opC_call {dst : Option Nat} {o : Op} {op : AOp} (h : opC P G B dst o = some op) (hc : isCall op = true) : ∃ c, o = .call c ∧
    ((∃ f xs, c.callee = .value (.func f) ∧ odsC G c.args = some xs ∧ op = .call f xs) ∨ ∃ x d xs, c.callee = .value x ∧ odC G x = some d ∧ odsC G c.args = some xs ∧ op = .calld d xs) := by
  cases o with
  | call c =>
    refine ⟨c, rfl, ?_⟩
    simp only [opC] at h
    split at h
    · rename_i f hf
      simp only [Option.bind_eq_bind, Option.bind_eq_some_iff, Option.pure_def, Option.some.injEq] at h
      obtain ⟨ds, h1, rfl⟩ := h
      exact .inl ⟨f, ds, hf, h1, rfl⟩
    · rename_i x _ hf
      simp only [Option.bind_eq_bind, Option.bind_eq_some_iff, Option.pure_def, Option.some.injEq] at h
      obtain ⟨d, h1, ds, h2, rfl⟩ := h
      exact .inr ⟨x, d, ds, hf, h1, h2, rfl⟩
    · cases h
    · exfalso
      split at h
      all_goals (try split at h)
      all_goals first
        | (have := appC_no h; rw [hc] at this; cases this)
        | (simp only [Option.bind_eq_bind, Option.bind_eq_some_iff, Option.pure_def, Option.some.injEq] at h
           first
            | (obtain ⟨_, _, rfl⟩ := h; cases hc)
            | (obtain ⟨_, _, _, _, rfl⟩ := h; cases hc)
            | (obtain ⟨_, _, _, _, _, _, rfl⟩ := h; cases hc))
        | cases h
  | _ =>
    exfalso
    simp only [opC, Option.bind_eq_bind, Option.bind_eq_some_iff, Option.pure_def, Option.some.injEq] at h
    repeat' first
      | contradiction
      | (cases h; done)
      | (subst h; cases hc; done)
      | (obtain ⟨_, h⟩ := h)
      | (split at h)
      | (simp only [Option.bind_eq_bind, Option.bind_eq_some_iff, Option.pure_def, Option.some.injEq] at h)
      | (cases hc; done)
      | (cases h; cases hc; done)

theorem relYld {V : View} {v : Value} {b : Nat} (h : RelV V v (.yld b)) : ∃ c n s, v = .func (.yield c) #[] #[] ∧ V.blk b = some (c, 0, n, s) := by
  cases h with
  | yld b c now s q => exact ⟨c, now, s, rfl, q⟩

/-- One row. -/
theorem rs_sound {ro : Option Nat} {ops : Array Oper} {i : Nat} {o : Oper} {rest : List Nat} {Q : Exit → Act → World → Prop} {a : Act} {w : World} {V : View} {s s' : St} (ho : ops[i]? = some o) (hN : ops.all (dstOk N) = true)
    (hr : RS (SC P G) (rowC P G B ops o) s s') (hp : Pre G N D a w V s)
    (next : ∀ a' w' V', V.Le V' → Keep w V w' V' → Pre G N D a' w' V' s' → wpOpsIn (fw ro) 0 P ops Q rest a' w') : wpOpsIn (fw ro) 0 P ops Q (i :: rest) a w := by
  have hd : ∀ k, o.dst = some k → k < a.tmps.size := by
    intro k hk
    rw [hp.size]
    have := Array.all_eq_true_iff_forall_mem.1 hN o (Array.mem_of_getElem? ho)
    simpa [dstOk, hk] using this
  have hput : ∀ v, (a.put o.dst v).defers = a.defers ∧ (a.put o.dst v).tmps.size = a.tmps.size := by
    intro v
    cases hdst : o.dst <;> simp [Act.put]
  have hland : ∀ {V' : View} {w' : World} {v : Value} {y : Av} {H' : List AO} {T' : List Nat}, V.Le V' → Keep w V w' V' → Sim G w' V' H' T' → RelV V' v y → Pre G N D (a.put o.dst v) w' V' ⟨putE o.dst y s.e, H', T'⟩ := by
    intro V' w' v y H' T' hle hk hsim hrel
    exact ⟨hsim, (hp.env.mono hle).put hrel hd, by rw [(hput v).1]; exact hp.defers.keep hk, (hput v).2.trans hp.size, Nat.le_trans hp.base hk.size⟩
  simp only [wpOpsIn, ho]
  obtain ⟨v0, H0, T0, hr, rfl⟩ := hr
  have hdd : (rowC P G B ops o).d = o.dst := by unfold rowC; split <;> rfl
  rw [hdd] at next
  unfold rowC at hr
  split at hr
  · rename_i op ks g hop hk hg
    have hnd : ∀ c, o.op ≠ .defer c := by
      intro c hc
      rw [hc] at hop
      simp [opC] at hop
    cases hr with
    | skip h1 =>
      rw [guard_sound hp hN hg h1]
      simp only [Bool.false_eq_true, if_false]
      exact ⟨fun _ _ => trivial, next _ _ V (.refl V) (.refl w V) (hland (.refl V) (.refl w V) hp.sim (.tup #[] [] rfl fun i v a h => by simp at h))⟩
    | op l h1 h2 h3 =>
      rw [guard_sound hp hN hg h1]
      simp only [if_true]
      obtain ⟨cv, w', V', hrun, q1, q2, q3, q4⟩ := op_sound hp.sim hp.env hop hk (by simpa [AR.ok] using h2) h3
      refine ⟨fun _ _ => trivial, ?_⟩
      rw [Oper.semAt_eq _ _ _ hnd]
      rcases hrun with hrun | ⟨hrun, rfl⟩
      · rw [hrun, Oper.uponIn_value]
        exact next _ _ V' q1 q2 (hland q1 q2 q3 q4)
      · rw [hrun, Oper.uponIn_skip]
        exact next _ _ V' q1 q2 (hland q1 q2 q3 q4)
    | call f args v H' T' h1 h2 h3 _ _ h4 =>
      rw [guard_sound hp hN hg h1]
      simp only [if_true]
      cases f with
      | yld b =>
        have hcall : isCall op = true := by
          cases op <;> first | rfl | (simp only [callee] at h3; cases h3)
        obtain ⟨c, hoc, hh⟩ := opC_call hop hcall
        rcases hh with ⟨f', xs, g1, g2, rfl⟩ | ⟨x, d, xs, g1, g2, g3, rfl⟩
        · simp only [callee, Option.some.injEq, Prod.mk.injEq, reduceCtorEq, false_and] at h3
        · simp only [callee] at h3
          split at h3
          · simp only [Option.some.injEq, Prod.mk.injEq, reduceCtorEq, false_and] at h3
          · rename_i b' hf
            simp only [Option.some.injEq, Prod.mk.injEq, Tgt.yld.injEq] at h3
            obtain ⟨rfl, rfl⟩ := h3
            have hr := od_sound hp.sim hp.env g2
            rw [hf] at hr
            obtain ⟨l, n, k, hv, hblk⟩ := relYld hr
            obtain ⟨k1, k2⟩ := ods_sound hp.sim hp.env g3
            refine yields_upon hnd (exec_yield hoc g1 hv) (h4 w V _ l n k hp.sim hblk ⟨by simp [k1], k2⟩) ?_
            rintro r w' ⟨V', q1, q2, q3, q4⟩
            exact next _ _ V' q1 q2 (hland q1 q2 q3 q4)
          · cases h3
      | shr f =>
        exfalso
        have hcall : isCall op = true := by
          cases op <;> first | rfl | (simp only [callee] at h3; cases h3)
        obtain ⟨c, hoc, hh⟩ := opC_call hop hcall
        rcases hh with ⟨f', xs, g1, g2, rfl⟩ | ⟨x, d, xs, g1, g2, g3, rfl⟩
        · simp only [callee, Option.some.injEq, Prod.mk.injEq, reduceCtorEq, false_and] at h3
        · simp only [callee] at h3
          split at h3 <;> simp only [Option.some.injEq, Prod.mk.injEq, reduceCtorEq, false_and] at h3
      | fn f =>
      have key : ∃ c x caps capsA xs, o.op = .call c ∧ c.callee = .value x ∧ a.eval x = .func (.func f) #[] caps ∧ odsC G c.args = some xs ∧ args = xs.map (·.ev s.e) ++ capsA ∧ RelL V caps capsA := by
        have hcall : isCall op = true := by
          cases op <;> first | rfl | (simp only [callee] at h3; cases h3)
        obtain ⟨c, hoc, hh⟩ := opC_call hop hcall
        rcases hh with ⟨f', xs, g1, g2, rfl⟩ | ⟨x, d, xs, g1, g2, g3, rfl⟩
        · simp only [callee, Option.some.injEq, Prod.mk.injEq, Tgt.fn.injEq] at h3
          obtain ⟨rfl, rfl⟩ := h3
          exact ⟨c, _, #[], [], xs, hoc, g1, rfl, g2, by simp, rfl, fun i v a h => by simp at h⟩
        · simp only [callee] at h3
          split at h3
          · rename_i f' caps hf
            simp only [Option.some.injEq, Prod.mk.injEq, Tgt.fn.injEq] at h3
            obtain ⟨rfl, rfl⟩ := h3
            have hr := od_sound hp.sim hp.env g2
            rw [hf] at hr
            obtain ⟨vs, hv, k1, k2⟩ := relFn hr
            exact ⟨c, x, vs, caps, xs, hoc, g1, hv, g3, rfl, k1, k2⟩
          · simp only [Option.some.injEq, Prod.mk.injEq, reduceCtorEq, false_and] at h3
          · cases h3
      obtain ⟨c, x, caps, capsA, xs, e1, e2, e3, e4, rfl, e5⟩ := key
      obtain ⟨k1, k2⟩ := ods_sound hp.sim hp.env e4
      refine does_upon hnd (exec_call e1 e2 e3) (h4 w V _ hp.sim ⟨by simp [k1, e5.1], ?_⟩) ?_
      · intro j v y hv hy
        rw [Array.getElem?_append] at hv
        rw [List.getElem?_append] at hy
        simp only [Array.size_map, List.length_map] at hv hy
        rw [k1] at hv
        split at hv
        · rename_i hj
          rw [if_pos hj] at hy
          exact k2 j v y hv hy
        · rename_i hj
          rw [if_neg hj] at hy
          exact e5.2 _ v y hv hy
      · rintro r w' ⟨V', q1, q2, q3, q4⟩
        exact next _ _ V' q1 q2 (hland q1 q2 q3 q4)
  · cases hr with
    | op l h1 h2 h3 => cases h3
    | call f args v H' T' h1 h2 h3 _ _ h4 => cases h3
    | skip h1 => simp [gOn] at h1

theorem bare_ok {r : AR} {e : Env} (h : r.ok e = true) : r.bare.ok e = true := by
  simp only [AR.ok, AR.bare, Bool.and_eq_true, List.all_nil, and_true] at h ⊢
  exact h.1

/-- A contract that holds on its caller's heap is the function's. -/
def Shr (C : CallP) : Prop := ∀ f args H T v H' T', C (.shr f) args H T v H' T' → C (.fn f) args H T v H' T'

theorem sc_shr : Shr (SC P G) := fun _ _ _ _ _ _ _ h => h

theorem bare_tgt {C : CallP} (hC : Shr C) {r : AR} {t : Tgt} {args : List Av} {H : List AO} {T : List Nat} {v : Av} {H' : List AO} {T' : List Nat} (h : C (r.tgt t) args H T v H' T') : C (r.bare.tgt t) args H T v H' T' := by
  cases t with
  | fn f =>
    have e : r.bare.tgt (.fn f) = .fn f := rfl
    rw [e]
    unfold AR.tgt at h
    simp only at h
    split at h
    · exact hC _ _ _ _ _ _ _ h
    · exact h
  | shr f => exact h
  | yld b => exact h

theorem rs_bare {C : CallP} (hC : Shr C) {r : AR} {s s' : St} (h : RS C r s s') : RS C r.bare s s' := by
  obtain ⟨v, H', T', h, rfl⟩ := h
  refine ⟨v, H', T', ?_, rfl⟩
  cases h with
  | skip h1 => exact .skip (r := r.bare) h1
  | op l h1 h2 h3 => exact .op (r := r.bare) l h1 (bare_ok h2) h3
  | call f args v H' T' h1 h2 h3 hp hh h4 => exact .call (r := r.bare) f args v H' T' h1 (bare_ok h2) h3 (fun q => (by cases q)) (fun q => (by cases q)) (bare_tgt hC h4)

theorem chain_bare {C : CallP} (hC : Shr C) {rs : List AR} {s s' : St} (h : Chain C rs s s') : Chain C (rs.map AR.bare) s s' := by
  induction h with
  | nil s => exact .nil s
  | cons hr _ ih => exact .cons (rs_bare hC hr) ih

/-- The rows of a region, by their numbers. -/
theorem chain_sound {ro : Option Nat} {ops : Array Oper} {Q : Exit → Act → World → Prop} (hN : ops.all (dstOk N) = true) {w0 : World} {V0 : View} {s' : St} (hQ : ∀ a' w', Lands G N D w0 V0 s' a' w' → Q .normal a' w') :
    ∀ (σ : List Nat) {s : St} {a : Act} {w : World} {V : View}, (∀ i ∈ σ, i < ops.size) → Chain (SC P G) (σ.map fun i => rowC P G B ops (ops.getD i default)) s s' → Pre G N D a w V s → V0.Le V → Keep w0 V0 w V → wpOpsIn (fw ro) 0 P ops Q σ a w
  | [], s, a, w, V, _, h, hp, k1, k2 => by
    cases h
    exact hQ a w ⟨V, k1, k2, hp⟩
  | i :: σ, s, a, w, V, hi, h, hp, k1, k2 => by
    simp only [List.map_cons] at h
    cases h with
    | cons h1 h2 =>
      have hlt := hi i (by simp)
      have ho : ops[i]? = some (ops.getD i default) := by simp [Array.getD_eq_getD_getElem?, hlt]
      refine rs_sound ho hN h1 hp fun a' w' V' q1 q2 q3 => ?_
      exact chain_sound hN hQ σ (fun j hj => hi j (by simp [hj])) h2 q3 (k1.trans q1) (k2.trans q2)

theorem Pre.same {a : Act} {w : World} {V : View} {s t : St} (h : Pre G N D a w V s) (k : Same s t) : Pre G N D a w V t :=
  ⟨by rw [← k.H, ← k.T]; exact h.sim, fun i => by rw [← k.e i]; exact h.env i, h.defers, h.size, h.base⟩

theorem Lands.same {w w' : World} {V : View} {s t : St} {a : Act} (h : Lands G N D w V s a w') (k : Same s t) : Lands G N D w V t a w' := by
  obtain ⟨V', q1, q2, q3⟩ := h
  exact ⟨V', q1, q2, q3.same k⟩

theorem rows_range {ops : Array Oper} : ops.toList.map (rowC P G B ops) = (List.range ops.size).map fun i => rowC P G B ops (ops.getD i default) := by
  apply List.ext_getElem?
  intro i
  simp only [List.getElem?_map, Array.getElem?_toList]
  rcases Nat.lt_or_ge i ops.size with g | g
  · simp [Array.getD_eq_getD_getElem?, g]
  · simp [g]

end
end Go.Am

namespace Go.Am
open Go

section
variable {P : Program} {G : Glo} {F : Tab}

def resC (P : Program) : ResultVar → Option ResA
  | .tmp t => some (.t t)
  | .cell a t => (aggW P t).map fun wd => .c wd a

/-- What a table says of a function holds. -/
def DefOK (P : Program) (G : Glo) (f : Nat) : Def → Prop
  | .ext g => ∀ args v, g args = some v → ∀ (w : World) (V : View) (vs : Array Value), Sim G w V.pu [] [] → RelL V.pu vs args → Does P f vs w (fun r w' => ∃ V', V.pu.Le V' ∧ Keep w V.pu w' V' ∧ Sim G w' V'.pu [] [] ∧ RelV V'.pu r v)
  | .fn _ n c res => ∃ pf conc B, P.funcs[f]? = some pf ∧ (pf.name == "runtime.NumGoroutine") = false ∧ pf.body = some conc ∧ pf.ntmps = n ∧ codeC P G B n conc = c.erase ∧ pf.results.toList.mapM (resC P) = some res

def TabOK (P : Program) (G : Glo) (F : Tab) : Prop := ∀ f d, F f = some d → DefOK P G f d

def MC (P : Program) (G : Glo) (F : Tab) : CallP := fun t args H T v H' T' =>
  SC P G t args H T v H' T' ∧ (isPureT F t = true → H' = H ∧ T' = T ∧ ∀ H2 T2, SC P G t args H2 T2 v H2 T2)

theorem mc_pure {t : Tgt} {args : List Av} {H : List AO} {T : List Nat} {v : Av} {H' : List AO} {T' : List Nat} (hp : isPureT F t = true) (h : MC P G F t args H T v H' T') :
    H' = H ∧ T' = T ∧ ∀ H2 T2, MC P G F t args H2 T2 v H2 T2 := by
  obtain ⟨h1, h2⟩ := h
  obtain ⟨q1, q2, q3⟩ := h2 hp
  exact ⟨q1, q2, fun H2 T2 => ⟨q3 H2 T2, fun _ => ⟨rfl, rfl, q3⟩⟩⟩

theorem mc_pures : Pures (isPure F) (MC P G F) := fun f args H T v H' T' hp h => mc_pure (t := .fn f) hp h

theorem rv_mono {C C' : CallP} (hC : ∀ f args H T v H' T', C f args H T v H' T' → C' f args H T v H' T') {r : AR} {s : St} {v : Av} {H' : List AO} {T' : List Nat} (h : RV C r s v H' T') : RV C' r s v H' T' := by
  cases h with
  | skip h1 => exact .skip h1
  | op l h1 h2 h3 => exact .op l h1 h2 h3
  | call f args v H' T' h1 h2 h3 hp hh h4 => exact .call f args v H' T' h1 h2 h3 (fun q => let ⟨a, b, c⟩ := hp q; ⟨a, b, fun H2 T2 => hC _ _ _ _ _ _ _ (c H2 T2)⟩) hh (hC _ _ _ _ _ _ _ h4)

theorem chain_mono {C C' : CallP} (hC : ∀ f args H T v H' T', C f args H T v H' T' → C' f args H T v H' T') {rs : List AR} {s s' : St} (h : Chain C rs s s') : Chain C' rs s s' := by
  induction h with
  | nil s => exact .nil s
  | cons hr _ ih =>
    obtain ⟨v, H', T', h1, rfl⟩ := hr
    exact .cons ⟨v, H', T', rv_mono hC h1, rfl⟩ ih

def toExit : Xit → Exit
  | .nrm => .normal
  | .ex id => .exit id
  | .ret => .ret

/-- From the inside of a loop. -/
def LoopWp (P : Program) (ro : Option Nat) (body : Code) (Q : Exit → Act → World → Prop) (a : Act) (w : World) : Prop :=
  ∀ (b : Frame) (k : List Item) (cs : List Frame), b.roundOf = ro → ∃ e a' w', Q e a' w' ∧ ArrivesIn (Machine.fenced P (fw ro)) P (lone (b.atR a (.code body :: .inLoop body :: k)) cs w) b k cs e a' w'

def cwp (P : Program) (ro : Option Nat) (c : Code) (Q : Exit → Act → World → Prop) (a : Act) (w : World) : Prop :=
  match c with
  | .loop body => LoopWp P ro body Q a w
  | c => c.wpIn (fw ro) 0 P Q a w

theorem cwp_wp {ro : Option Nat} {c : Code} {Q : Exit → Act → World → Prop} {a : Act} {w : World} (h : cwp P ro c Q a w) : c.wpIn (fw ro) 0 P Q a w := by
  unfold cwp at h
  split at h
  · rename_i body
    intro b k cs hro hb hr
    obtain ⟨e, a', w', q, r⟩ := h b k cs hro
    exact ⟨e, a', w', q, .of_steps (.one (fenced_calm hb hr rfl) stepR_loop) r⟩
  · exact h

theorem loopWp_unroll {ro : Option Nat} {body : Code} {Q : Exit → Act → World → Prop} {a : Act} {w : World} (h : body.wpIn (fw ro) 0 P (Exit.then (fun a w => LoopWp P ro body Q a w) Q) a w) : LoopWp P ro body Q a w := by
  intro b k cs hro
  have hb : (fw ro).fn b.fn := trivial
  have hr : (fw ro).room (cs.length + 1 + 0) := fw_room ro _
  obtain ⟨e, a₁, w₁, hq, harr⟩ := h b (.inLoop body :: k) cs hro hb hr
  cases e with
  | normal =>
    obtain ⟨e₂, a₂, w₂, hq₂, harr₂⟩ := hq b k cs hro
    exact ⟨e₂, a₂, w₂, hq₂, .of_steps (StepsIn.trans harr (.one (fenced_calm hb hr rfl) stepR_inLoop)) harr₂⟩
  | exit id => exact ⟨_, a₁, w₁, hq, .pass (x := .inLoop body) rfl (fun _ _ => .inl (by simp)) harr⟩
  | goto l => exact ⟨_, a₁, w₁, hq, .pass (x := .inLoop body) rfl (fun _ _ => .inl (by simp)) harr⟩
  | ret => exact ⟨_, a₁, w₁, hq, .pass (x := .inLoop body) rfl (fun _ _ => .inl (by simp)) harr⟩
  | panic ch => exact ⟨_, a₁, w₁, hq, .pass (x := .inLoop body) rfl (fun _ _ => .inl (by simp)) harr⟩
  | outgrown => exact ⟨_, a₁, w₁, hq, .pass (x := .inLoop body) rfl (fun _ _ => .inl (by simp)) harr⟩

def Snd (P : Program) (G : Glo) (F : Tab) : Cfg → Out → Prop
  | .rows rs s, .rows s' => Chain (MC P G F) rs s s'
  | .code c s, .code x s' => ∀ (ro : Option Nat) (N D : Nat) (B : Nat → Bool) (conc : Code), (ro = none ∨ noRfn c = true) → codeC P G B N conc = c.erase → ∀ a w V, Pre G N D a w V s → ∀ Q : Exit → Act → World → Prop, (∀ a' w', Lands G N D w V s' a' w' → Q (toExit x) a' w') → cwp P ro conc Q a w
  | .call f args H T, .val v H' T' => MC P G F f args H T v H' T'
  | _, _ => False

theorem iso_in {w : World} {V : View} {H : List AO} {T : List Nat} (h : Sim G w V H T) : Sim G w V.pu [] [] :=
  ⟨h.rd, fun b o hb => by simp at hb, fun i n hi => by simp at hi, fun _ _ _ _ _ _ _ _ _ e => (by cases e), fun _ _ _ _ _ _ _ _ _ e => (by cases e), fun _ _ _ _ _ _ _ _ _ e => (by cases e), fun _ _ _ _ _ e => (by cases e), fun _ _ e => (by cases e), fun _ _ e => (by cases e), h.glob⟩

theorem not_owned_pu {V : View} (c : Nat) : ¬ Owned V.pu c := by
  rintro (⟨_, _, _, _, e⟩ | ⟨_, _, _, _, e⟩) <;> cases e

/-- Behind an isolated call: the caller's blocks and tokens are as they were. -/
theorem iso_out {w w' : World} {V V1 : View} {H : List AO} {T : List Nat} (h : Sim G w V H T) (hle : V.pu.Le V1) (hk : Keep w V.pu w' V1) (hrd : ∀ c o v, V1.rd c o = some v → seen' w' c o = some v) :
    let V2 : View := { rd := V1.rd, blk := V.blk, own := V.own }
    V.Le V2 ∧ Keep w V w' V2 ∧ Sim G w' V2 H T ∧ V1.pu = V2.pu := by
  intro V2
  have hle2 : V.Le V2 := ⟨hle.rd, fun b c sz n s e => ⟨c, n, s, e, Nat.le_refl _, fun _ => ⟨rfl, rfl⟩⟩, fun i n c hh s e => ⟨n, c, hh, s, e, Nat.le_refl _, fun _ => ⟨rfl, rfl, rfl⟩⟩⟩
  have hsame : ∀ c, c < w.heap.size → w'.heap[c]? = w.heap[c]? ∧ ∀ o, V1.rd c o = V.rd c o := fun c hc => hk.same c hc (not_owned_pu c)
  refine ⟨hle2, ⟨hk.os, hk.tape, hk.output, hk.size, fun c hc _ => hsame c hc, fun c hc => .inl hc⟩, ?_, rfl⟩
  refine ⟨hrd, fun b o hb => ?_, fun i n hi => ?_, h.inj, h.tinj, h.apart, fun b c sz n s e => Nat.lt_of_lt_of_le (h.lt _ _ _ _ _ e) hk.size, h.domB, h.domT, ?_⟩
  · refine (h.blk b o hb).keep hle2 rfl fun c sz n s e => ?_
    obtain ⟨q1, q2⟩ := hsame c (h.lt _ _ _ _ _ e)
    exact ⟨q1, fun x hx => (q2 x).trans hx⟩
  · refine (h.tok i n hi).keep rfl fun n c hh s e => ?_
    obtain ⟨q1, q2⟩ := hsame c (h.olt e)
    exact ⟨q1, fun x hx => (q2 x).trans hx⟩
  · intro g cs hg j a ha
    obtain ⟨v, q1, q2, q3⟩ := h.glob g cs hg j a ha
    exact ⟨v, hle2.rd _ _ _ q1, q2, q3.mono hle2.pu⟩

theorem getE_enter : ∀ (args : List Av) (i k : Nat), getE k (enter i args) = if i ≤ k then args.getD (k - i) .top else .top
  | [], i, k => by simp [enter, getE]
  | a :: as, i, k => by
    simp only [enter, getE, getE_enter as (i + 1) k]
    by_cases h : k = i
    · subst h; simp
    · rw [if_neg h]
      by_cases h1 : i ≤ k
      · have h2 : i + 1 ≤ k := by omega
        rw [if_pos h1, if_pos h2]
        have : k - i = (k - (i + 1)) + 1 := by omega
        rw [this]; simp
      · rw [if_neg h1, if_neg (by omega)]

theorem stripA_get : ∀ {xs ys : List Av}, stripA xs = some ys → ys.length = xs.length ∧ ∀ (i : Nat) x y, xs[i]? = some x → ys[i]? = some y → strip x = some y
  | [], ys, h => by
    simp only [stripA, Option.some.injEq] at h
    subst h
    exact ⟨rfl, fun i x y h => by simp at h⟩
  | a :: as, ys, h => by
    simp only [stripA] at h
    split at h
    · rename_i a' as' h1 h2
      cases h
      obtain ⟨q1, q2⟩ := stripA_get h2
      refine ⟨by simp [q1], fun i x y hx hy => ?_⟩
      match i with
      | 0 => simp at hx hy; subst hx; subst hy; exact h1
      | i + 1 => simp at hx hy; exact q2 i x y hx hy
    · cases h

theorem relL_strip {V : View} {vs : Array Value} {xs ys : List Av} (h : RelL V vs xs) (hs : stripA xs = some ys) : RelL V.pu vs ys := by
  obtain ⟨q1, q2⟩ := stripA_get hs
  refine ⟨h.1.trans q1.symm, fun i v y hv hy => ?_⟩
  have hi : i < xs.length := by rw [← q1]; exact (List.getElem?_eq_some_iff.1 hy).1
  exact strip_sound (h.2 i v xs[i] hv (List.getElem?_eq_getElem hi)) (q2 i _ y (List.getElem?_eq_getElem hi) hy)

/-- Behind a call that is left: its blocks are never written again. -/
def View.froz (V : View) (w : World) (base : Nat) : View := { rd := fun c o => if base ≤ c then seen' w c o else V.rd c o, blk := fun _ => none, own := fun _ => none }

theorem froz_rd {V : View} {w : World} {base c : Nat} (h : base ≤ c) (o : Nat) : (V.froz w base).rd c o = seen' w c o := by
  show (if _ then _ else _) = _
  rw [if_pos h]

theorem froz_le {w : World} {V : View} {H : List AO} {T : List Nat} (h : Sim G w V H T) (base : Nat) : V.pu.Le (V.froz w base) := by
  refine ⟨fun c o v e => ?_, fun _ _ _ _ _ e => (by cases e), fun _ _ _ _ _ e => (by cases e)⟩
  show (if _ then _ else _) = _
  split
  · exact h.rd _ _ _ e
  · exact e

theorem mapO_get {α β : Type} {f : α → Option β} : ∀ {xs : List α} {ys : List β}, mapO f xs = some ys → ys.length = xs.length ∧ ∀ (i : Nat) y, ys[i]? = some y → ∃ x, xs[i]? = some x ∧ f x = some y
  | [], ys, h => by
    simp only [mapO, Option.some.injEq] at h
    subst h
    exact ⟨rfl, fun i y h => by simp at h⟩
  | a :: as, ys, h => by
    simp only [mapO] at h
    split at h
    · rename_i b bs h1 h2
      cases h
      obtain ⟨q1, q2⟩ := mapO_get h2
      refine ⟨by simp [q1], fun i y hy => ?_⟩
      match i with
      | 0 => simp at hy; subst hy; exact ⟨a, rfl, h1⟩
      | i + 1 => simp at hy; obtain ⟨x, z1, z2⟩ := q2 i y hy; exact ⟨x, by simpa using z1, z2⟩
    · cases h

/-- Rows of a block that is left. -/
theorem rows_froz {w : World} {V : View} {H : List AO} {T : List Nat} (hs : Sim G w V H T) {base : Nat} (hb : ∀ c, Owned V c → base ≤ c) {b ver sz : Nat} {rs : List (List Av)} (h : rowsOf H b ver = some (sz, rs)) :
    ∃ c s cells, V.blk b = some (c, sz, ver, s) ∧ RowsIn V cells sz rs ∧ ∀ (o : Nat) v, (cells[o]? : Option Value) = some v → v.oneCell' = true → (V.froz w base).rd c o = some v := by
  have fin : ∀ c cells E fz, Owned V c → w.heap[c]? = some (.cells cells E fz) → ∀ (o : Nat) v, (cells[o]? : Option Value) = some v → v.oneCell' = true → (V.froz w base).rd c o = some v := by
    intro c cells E fz ho hw o v hv h1
    rw [froz_rd (hb c ho), seen_cells hw]
    simp only [World.cell?, hw]
    rw [hv]
    exact nt_one h1
  unfold rowsOf at h
  split at h
  · rename_i sz' rs' v' hH
    split at h
    · rename_i hv
      cases h
      subst hv
      obtain ⟨c, s, cells, E, q1, q2, q3, q4, _⟩ := hs.blk b _ hH
      exact ⟨c, s, cells, q1, q4, fin c cells E _ (.inl ⟨_, _, _, _, q1⟩) q2⟩
    · cases h
  · rename_i sz' rs' v' hH
    split at h
    · rename_i hv
      cases h
      subst hv
      obtain ⟨c, s, cells, E, q1, q2, q3, q4, _⟩ := hs.blk b _ hH
      exact ⟨c, s, cells, q1, q4, fin c cells E _ (.inl ⟨_, _, _, _, q1⟩) q2⟩
    · cases h
  · cases h

theorem frz_sound {w : World} {V : View} {H : List AO} {T : List Nat} (hs : Sim G w V H T) {base : Nat} (hb : ∀ c, Owned V c → base ≤ c) : ∀ (n : Nat) {v : Value} {x y : Av}, RelV V v x → frz H n x = some y →
    RelV (V.froz w base) v y := by
  have hle := froz_le hs base
  intro n
  induction n with
  | zero => exact fun h hf => (strip_sound h hf).mono hle
  | succ n ih =>
  intro v x y h hf
  cases x
  case mp b =>
    simp only [frz] at hf
    split at hf
    · rename_i kvs hH
      simp only [Option.map_eq_some_iff] at hf
      obtain ⟨kvs', hk, rfl⟩ := hf
      obtain ⟨c, n', s, es, clock, q1, q2, q3, q4⟩ := hs.blk b _ hH
      cases h with
      | mp _ c' now s' e =>
        rw [q1] at e
        cases e
        have hbc : base ≤ c := hb c (.inl ⟨_, _, _, _, q1⟩)
        obtain ⟨g1, g2⟩ := mapO_get hk
        have key : ∀ (i : Nat) p, kvs'[i]? = some p → ∃ e, (es[i]? : Option MapEntry) = some e ∧ RelV (V.froz w base) e.key p.1 ∧ RelV (V.froz w base) e.val p.2 := by
          intro i p hp
          obtain ⟨p0, hp0, hf0⟩ := g2 i p hp
          have hi : i < kvs.length := (List.getElem?_eq_some_iff.1 hp0).1
          have hi' : i < es.size := by rw [q3.1.1]; exact hi
          obtain ⟨r1, r2⟩ := q3.2 i es[i] p0 (Array.getElem?_eq_getElem hi') hp0

          split at hf0
          · rename_i k' v' t1 t2
            cases hf0
            exact ⟨es[i], Array.getElem?_eq_getElem hi', ih r1 t1, ih r2 t2⟩
          · cases hf0
        refine .cmap c (es.toList.map fun e => Value.tuple #[e.key, e.val]).toArray kvs' (fun i => ((es[i]?).map (·.key)).getD undef) (fun i => ((es[i]?).map (·.val)).getD undef) ?_ ?_ ?_ ?_ ?_ ?_
        · rw [froz_rd hbc]
          simp [seen', q2, packE]
        · simp [g1, q3.1.1]
        · rw [g1]; exact q3.1.2
        · intro i p hp
          obtain ⟨e, he, _⟩ := key i p hp
          simp [he]
        · intro i p hp
          obtain ⟨e, he, h1, _⟩ := key i p hp
          simp only [he, Option.map_some, Option.getD_some]
          exact h1
        · intro i p hp
          obtain ⟨e, he, _, h2⟩ := key i p hp
          simp only [he, Option.map_some, Option.getD_some]
          exact h2
    · cases hf
  case bs b ver sz off len =>
    simp only [frz] at hf
    split at hf
    · rename_i s rs hr
      split at hf
      · rename_i hc
        obtain ⟨rfl, hc⟩ := hc
        simp only [Option.map_eq_some_iff] at hf
        obtain ⟨rs', hk, rfl⟩ := hf
        obtain ⟨c, S, cells, q1, q2, q3⟩ := rows_froz hs hb hr
        cases h with
        | bs _ _ _ _ _ _ hbs =>
          obtain ⟨c', now, S', e1, e2, x, o, cap, rfl, e3, e4, e5⟩ := hbs
          rw [q1] at e1
          cases e1
          obtain ⟨rfl, e6, e7⟩ := e5 rfl
          obtain ⟨g1, g2⟩ := mapO_get hk
          have hlen : ((rs.drop off).take len).length = len := by simp; omega
          have key : ∀ (i : Nat) r', rs'[i]? = some r' → i < len ∧ ∃ r, rs[off + i]? = some r ∧ mapO (frz H n) r = some r' := by
            intro i r' hi
            have hi1 : i < len := by rw [← hlen, ← g1]; exact (List.getElem?_eq_some_iff.1 hi).1
            obtain ⟨r, hr1, hr2⟩ := g2 i r' hi
            rw [List.getElem?_take, if_pos hi1, List.getElem?_drop] at hr1
            exact ⟨hi1, r, hr1, hr2⟩
          have cell : ∀ (i j : Nat) r' a, rs'[i]? = some r' → r'[j]? = some a → i < len ∧ ∃ v, (cells[(off + i) * s + j]? : Option Value) = some v ∧ v.oneCell' = true ∧ RelV (V.froz w base) v a := by
            intro i j r' a hr' ha
            obtain ⟨hi, r, k1, k2⟩ := key i r' hr'
            obtain ⟨t1, t2⟩ := mapO_get k2
            obtain ⟨x0, hx0, hf0⟩ := t2 j a ha
            obtain ⟨v, z1, z2, z3⟩ := q2.2 (off + i) j r x0 k1 hx0
            exact ⟨hi, v, z1, z2, ih z3 hf0⟩
          refine .sl x o len cap rs' .any s (fun i j => ((cells[(off + i) * s + j]? : Option Value)).getD undef) none (g1.trans hlen) e3 e4 ?_ ?_ ?_ trivial (fun _ => rfl)
          · intro r' hm
            obtain ⟨i, hi⟩ := List.getElem?_of_mem hm
            obtain ⟨_, r, k1, k2⟩ := key i r' hi
            rw [(mapO_get k2).1]
            exact q2.1 r (List.mem_of_getElem? k1)
          · intro i j r' a hr' ha
            obtain ⟨hi, v, z1, z2, z3⟩ := cell i j r' a hr' ha
            simp only [z1, Option.getD_some]
            refine ⟨?_, z2⟩
            have : o + i * s + j = (off + i) * s + j := by rw [e6 (by omega), Nat.add_mul]
            rw [this]
            exact q3 _ v z1 z2
          · intro i j r' a hr' ha
            obtain ⟨hi, v, z1, z2, z3⟩ := cell i j r' a hr' ha
            simp only [z1, Option.getD_some]
            exact z3
      · cases hf
    · cases hf
  case ptr b ver row off =>
    simp only [frz] at hf
    split at hf
    · rename_i s rs hr
      split at hf
      · rename_i r hrow
        simp only [Option.map_eq_some_iff] at hf
        obtain ⟨r', hk, rfl⟩ := hf
        obtain ⟨c, S, cells, q1, q2, q3⟩ := rows_froz hs hb hr
        cases h with
        | ptr _ _ _ _ _ hp =>
          obtain ⟨c', sz, now, S', e1, e2, x, o, rfl, e3⟩ := hp
          rw [q1] at e1
          cases e1
          obtain ⟨rfl, rfl⟩ := e3 rfl
          obtain ⟨t1, t2⟩ := mapO_get hk
          have cell : ∀ (j : Nat) a, r'[j]? = some a → ∃ v, (cells[row * s + j]? : Option Value) = some v ∧ v.oneCell' = true ∧ RelV (V.froz w base) v a := by
            intro j a ha
            obtain ⟨x0, hx0, hf0⟩ := t2 j a ha
            obtain ⟨v, z1, z2, z3⟩ := q2.2 row j r x0 hrow hx0
            exact ⟨v, z1, z2, ih z3 hf0⟩
          refine .cptr x (row * s + off) r' off (fun j => ((cells[row * s + j]? : Option Value)).getD undef) (by omega) ?_ ?_
          · intro j a ha
            obtain ⟨v, z1, z2, z3⟩ := cell j a ha
            simp only [z1, Option.getD_some]
            refine ⟨?_, z2⟩
            have : row * s + off - off + j = row * s + j := by omega
            rw [this]
            exact q3 _ v z1 z2
          · intro j a ha
            obtain ⟨v, z1, z2, z3⟩ := cell j a ha
            simp only [z1, Option.getD_some]
            exact z3
      · cases hf
    · cases hf
  case agg cs =>
    simp only [frz, Option.map_eq_some_iff] at hf
    obtain ⟨ds, hd, rfl⟩ := hf
    obtain ⟨q1, q2⟩ := mapO_get hd
    cases h with
    | agg vs as h1 h2 h3 =>
      refine .agg vs ds (h1.trans q1.symm) h2 fun i v y hv hy => ?_
      obtain ⟨x0, hx0, hf0⟩ := q2 i y hy
      exact ih (h3 i v x0 hv hx0) hf0
  case fn f cs =>
    simp only [frz, Option.map_eq_some_iff] at hf
    obtain ⟨ds, hd, rfl⟩ := hf
    obtain ⟨q1, q2⟩ := mapO_get hd
    cases h with
    | fn f vs as h1 h3 =>
      refine .fn f vs ds (h1.trans q1.symm) fun i v y hv hy => ?_
      obtain ⟨x0, hx0, hf0⟩ := q2 i y hy
      exact ih (h3 i v x0 hv hx0) hf0
  all_goals exact (strip1_sound h hf).mono hle

theorem freezeT_sound {w : World} {V : View} {H : List AO} {T : List Nat} (hs : Sim G w V H T) {base : Nat} (hb : ∀ c, Owned V c → base ≤ c) {v : Value} {x y : Av} (h : RelV V v x) (hf : freezeT H x = some y) :
    RelV (V.froz w base) v y := by
  cases x with
  | tup xs =>
    simp only [freezeT, Option.map_eq_some_iff] at hf
    obtain ⟨ys, hy, rfl⟩ := hf
    cases h with
    | tup vs as h1 h2 =>
      obtain ⟨q1, q2⟩ := mapO_get hy
      refine .tup vs ys (h1.trans q1.symm) fun i v y hv hy => ?_
      obtain ⟨x0, hx0, hf0⟩ := q2 i y hy
      exact frz_sound hs hb 40 (h2 i v x0 hv hx0) hf0
  | _ => exact frz_sound hs hb 40 h hf

theorem iso_out' {w w' : World} {V V1 : View} {H : List AO} {T : List Nat} (h : Sim G w V H T) (hle : V.pu.Le V1) (hk : Keep w V.pu w' V1) (hrd : ∀ c o v, V1.rd c o = some v → seen' w' c o = some v) {r : Value} {v : Av} (hr : RelV V1.pu r v) :
    ∃ V', V.Le V' ∧ Keep w V w' V' ∧ Sim G w' V' H T ∧ RelV V' r v := by
  obtain ⟨q1, q2, q3, q4⟩ := iso_out h hle hk hrd
  exact ⟨_, q1, q2, q3, (q4 ▸ hr).mono (View.pu_le _)⟩

theorem iso_froz {w w' : World} {V V1 : View} {H H1 : List AO} {T T1 : List Nat} (h : Sim G w V H T) (hle : V.pu.Le V1) (hk : Keep w V.pu w' V1) (hs : Sim G w' V1 H1 T1) {r : Value} {x v : Av} (hr : RelV V1 r x) (hf : freezeT H1 x = some v) :
    ∃ V', V.Le V' ∧ Keep w V w' V' ∧ Sim G w' V' H T ∧ RelV V' r v := by
  have hb : ∀ c, Owned V1 c → w.heap.size ≤ c := fun c ho => (hk.owned c ho).elim (fun q => absurd q (not_owned_pu c)) id
  refine iso_out' (V1 := V1.froz w' w.heap.size) h (hle.pu.trans (froz_le hs _)) ⟨hk.os, hk.tape, hk.output, hk.size, fun c hc ho => ?_, fun c hc => ?_⟩ (fun c o v e => ?_) (freezeT_sound hs hb hr hf)
  · refine ⟨(hk.same c hc ho).1, fun o => ?_⟩
    show (if _ then _ else _) = _
    rw [if_neg (by omega)]
    exact (hk.same c hc ho).2 o
  · rcases hc with ⟨_, _, _, _, e⟩ | ⟨_, _, _, _, e⟩ <;> cases e
  · have e' : (if w.heap.size ≤ c then seen' w' c o else V1.rd c o) = some v := e
    split at e'
    · exact e'
    · exact hs.rd _ _ _ e'

theorem ext_sound {f : Nat} {g : List Av → Option Av} (hd : DefOK P G f (.ext g)) {args args' : List Av} {v : Av} (hs : stripA args = some args') (hg : g args' = some v) (H : List AO) (T : List Nat) : SC P G (.fn f) args H T v H T := by
  intro w V vs hsim hrel
  have h := hd args' v hg w V vs (iso_in hsim) (relL_strip hrel hs)
  have fin : ∀ r w', (∃ V', V.pu.Le V' ∧ Keep w V.pu w' V' ∧ Sim G w' V'.pu [] [] ∧ RelV V'.pu r v) → ∃ V', V.Le V' ∧ Keep w V w' V' ∧ Sim G w' V' H T ∧ RelV V' r v := by
    rintro r w' ⟨V', q1, q2, q3, q4⟩
    exact iso_out' hsim q1 q2 q3.rd q4
  rcases h with ⟨r, w', h1, h2⟩ | ⟨h1, h2⟩
  · exact .inl ⟨r, w', h1, fin r w' h2⟩
  · exact .inr ⟨h1, h2.mono fun e w' ⟨r, he, hr⟩ => ⟨r, he, fin r w' hr⟩⟩

def resV (tmps : Array Value) : ResultVar → Sem Value
  | .tmp t => pure (tmps.getD t undef)
  | .cell x t => do loadVar t (← asAddr (tmps.getD x undef))

theorem results_eq {pf : Func} {tmps : Array Value} : results pf tmps = (do let vs ← pf.results.mapM (resV tmps); pure (if h : vs.size = 1 then vs[0] else .tuple vs)) := by
  unfold results
  have : (fun x : ResultVar => match x with | .tmp t => pure (tmps.getD t undef) | .cell a t => (do loadVar t (← asAddr (tmps.getD a undef)) : Sem Value)) = resV tmps := by
    funext x; cases x <;> rfl
  rw [← this]
  rfl

theorem results_sound {N D : Nat} {a : Act} {w : World} {V : View} {s : St} (hp : Pre G N D a w V s) : ∀ (rv : List ResultVar) (res : List ResA) (as : List Av), rv.mapM (resC P) = some res → resAs s res = some as →
    ∃ vs : List Value, (rv.mapM (resV a.tmps)).run P w = .ok vs w ∧ vs.length = as.length ∧ ∀ (i : Nat) v y, vs[i]? = some v → as[i]? = some y → RelV V v y
  | [], res, as, h1, h2 => by
    simp at h1
    subst h1
    simp only [resAs, Option.some.injEq] at h2
    subst h2
    exact ⟨[], by simp, rfl, fun i v y h => by simp at h⟩
  | x :: rv, res, as, h1, h2 => by
    simp only [List.mapM_cons, Option.bind_eq_bind, Option.bind_eq_some_iff, Option.pure_def, Option.some.injEq] at h1
    obtain ⟨r, hr, rs, hrs, rfl⟩ := h1
    simp only [resAs] at h2
    split at h2
    · rename_i y ys hy hys
      cases h2
      obtain ⟨vs, k1, k2, k3⟩ := results_sound hp rv rs ys hrs hys
      have key : ∃ v, (resV a.tmps x).run P w = .ok v w ∧ RelV V v y := by
        cases x with
        | tmp t =>
          simp only [resC, Option.some.injEq] at hr
          subst hr
          simp only [resA1, Option.some.injEq] at hy
          subst hy
          exact ⟨_, rfl, hp.env t⟩
        | cell c t =>
          simp only [resC, Option.map_eq_some_iff] at hr
          obtain ⟨wd, hwd, rfl⟩ := hr
          simp only [resA1, Option.map_eq_some_iff] at hy
          obtain ⟨l, hl, rfl⟩ := hy
          obtain ⟨c', k', v, y, e1, e2, rfl, e4⟩ := ld_core (x := .tmp c) hp.sim hp.env hwd rfl hl
          refine ⟨v, ?_, e4⟩
          simp only [Act.eval] at e1
          simp [resV, e1, asAddr, e2]
      obtain ⟨v, g1, g2⟩ := key
      refine ⟨v :: vs, ?_, by simp [k2], fun i v' y' hv hy' => ?_⟩
      · rw [List.mapM_cons]
        rw [Sem.run_bind, g1, Result.andThen_ok, Sem.run_bind, k1, Result.andThen_ok]
        rfl
      · match i with
        | 0 => simp at hv hy'; subst hv; subst hy'; exact g2
        | i + 1 => simp at hv hy'; exact k3 i v' y' hv hy'
    · cases h2

theorem res_sound {N D : Nat} {a : Act} {w : World} {V : View} {s : St} (hp : Pre G N D a w V s) {pf : Func} {res : List ResA} {r : Av} (h1 : pf.results.toList.mapM (resC P) = some res) (h2 : resA s res = some r) :
    ∃ v, (results pf a.tmps).run P w = .ok v w ∧ RelV V v r := by
  unfold resA at h2
  have hrun : ∀ vs : List Value, (pf.results.toList.mapM (resV a.tmps)).run P w = .ok vs w →
      (results pf a.tmps).run P w = .ok (if h : vs.toArray.size = 1 then vs.toArray[0] else .tuple vs.toArray) w := by
    intro vs hvs
    have : (pf.results.mapM (resV a.tmps)).run P w = .ok vs.toArray w := by
      rw [Array.mapM_eq_mapM_toList]
      simp [hvs]
    rw [results_eq, Sem.run_bind, this, Result.andThen_ok]
    rfl
  split at h2
  · rename_i y hy
    cases h2
    obtain ⟨vs, k1, k2, k3⟩ := results_sound hp _ _ _ h1 hy
    match vs, k2 with
    | [v], _ => exact ⟨v, by simpa using hrun [v] k1, k3 0 v r rfl rfl⟩
  · rename_i ys hne hy
    cases h2
    obtain ⟨vs, k1, k2, k3⟩ := results_sound hp _ _ _ h1 hy
    refine ⟨.tuple vs.toArray, ?_, .tup _ _ (by simpa using k2) fun i v y hv hy' => k3 i v y (by simpa using hv) hy'⟩
    rw [hrun vs k1, dif_neg]
    simp only [List.size_toArray]
    intro h
    rw [k2] at h
    match ys, h with
    | [y], _ => exact hne y rfl
  · cases h2

end
end Go.Am

namespace Go.Am
open Go

section
variable {P : Program} {G : Glo} {F : Tab}

theorem alloc_old' (w : World) (o : Obj) (i : Nat) (h : i < w.heap.size) : (w.alloc o).heap[i]? = w.heap[i]? := by
  show (w.heap.push o)[i]? = _
  rw [Array.getElem?_push, if_neg (by omega)]

/-- A block that the abstract heap does not know. -/
theorem Sim.junk {w : World} {V : View} {H : List AO} {T : List Nat} (h : Sim G w V H T) (x : Obj) : Sim G (w.alloc x) V H T ∧ Keep w V (w.alloc x) V := by
  have hheap : ∀ c, c < w.heap.size → (w.alloc x).heap[c]? = w.heap[c]? := fun c hc => alloc_old' w x c hc
  refine ⟨⟨?_, ?_, ?_, h.inj, h.tinj, h.apart, ?_, h.domB, h.domT, h.glob⟩, ⟨rfl, rfl, rfl, by simp, fun c hc _ => ⟨hheap c hc, fun _ => rfl⟩, fun c hc => .inl hc⟩⟩
  · intro c o v e
    rw [seen_of_heap (hheap c (h.rd_lt e))]
    exact h.rd _ _ _ e
  · intro b y hy
    exact (h.blk b y hy).keep (.refl V) rfl fun c z m t e => ⟨hheap c (h.lt _ _ _ _ _ e), fun _ q => q⟩
  · intro i m hi
    exact (h.tok i m hi).keep rfl fun m c hh t e => ⟨hheap c (h.olt e), fun _ q => q⟩
  · intro b c z m t e
    rw [World.size_alloc]
    have := h.lt _ _ _ _ _ e
    omega

/-- A block that the abstract heap does not know is turned. -/
theorem Sim.putJunk {w : World} {V : View} {H : List AO} {T : List Nat} (h : Sim G w V H T) {r : Nat} {ds : Option (List Deferred)} (x : Obj) (hw : w.heap[r]? = some (.deferred ds)) (ho : ¬ Owned V r) : Sim G (w.putObj r x) V H T := by
  have hheap : ∀ c, c ≠ r → (w.putObj r x).heap[c]? = w.heap[c]? := fun c hc => World.putObj_heap_other hc
  refine ⟨?_, ?_, ?_, h.inj, h.tinj, h.apart, ?_, h.domB, h.domT, h.glob⟩
  · intro c o v e
    have hs := h.rd _ _ _ e
    have hc : c ≠ r := by
      rintro rfl
      unfold seen' at hs
      rw [hw] at hs
      simp only [World.cell?, hw] at hs
      cases hs
    rw [seen_of_heap (hheap c hc)]
    exact hs
  · intro b y hy
    exact (h.blk b y hy).keep (.refl V) rfl fun c z m t e => ⟨hheap c (fun q => ho (.inl ⟨b, z, m, t, q ▸ e⟩)), fun _ q => q⟩
  · intro i m hi
    exact (h.tok i m hi).keep rfl fun m c hh t e => ⟨hheap c (fun q => ho (.inr ⟨i, m, hh, t, q ▸ e⟩)), fun _ q => q⟩
  · intro b c z m t e
    rw [World.putObj_size]
    exact h.lt _ _ _ _ _ e

/-- On the way out of a function: the marks. -/
theorem leaves_marks {pf : Func} {tmps : Array Value} {R : Ending → World → Prop} {w0 : World} {V0 V : View} {H : List AO} {T : List Nat}
    (hR : ∀ w, Sim G w V H T → Keep w0 V0 w V → ∃ v, (results pf tmps).run P w = .ok v w ∧ R (.returned v) w) : ∀ (rs : List Nat) (w : World), rs.Nodup → (∀ r ∈ rs, w0.heap.size ≤ r ∧ r < w.heap.size ∧ w.heap[r]? = some (.deferred (some [])) ∧ ¬ Owned V r) →
    Sim G w V H T → Keep w0 V0 w V → LeavesInM (fw none) 0 P pf tmps R (rs.map fun r => { target := .collected r, args := #[] }) .returning w
  | [], w, _, _, hs, hk => hR w hs hk
  | r :: rs, w, hn, hm, hs, hk => by
    obtain ⟨h1, h2, h3, h4⟩ := hm r (by simp)
    rw [List.nodup_cons] at hn
    refine ⟨by simp, .inl ⟨r, w.putObj r (.deferred none), rfl, run_takeDeferred h3, ?_⟩⟩
    refine leaves_marks hR rs _ hn.2 (fun q hq => ?_) (hs.putJunk _ h3 h4) ⟨hk.os, hk.tape, hk.output, by rw [World.putObj_size]; exact hk.size, fun c hc ho => ?_, hk.owned⟩
    · obtain ⟨g1, g2, g3, g4⟩ := hm q (by simp [hq])
      refine ⟨g1, by rw [World.putObj_size]; exact g2, ?_, g4⟩
      rw [World.putObj_heap_other (fun e => hn.1 (by rw [← e]; exact hq))]
      exact g3
    · obtain ⟨g1, g2⟩ := hk.same c hc ho
      refine ⟨?_, g2⟩
      rw [World.putObj_heap_other (by omega)]
      exact g1

/-- A function's body. -/
theorem body_sound {f n : Nat} {pu : Bool} {c : AC} {res : List ResA} {args : List Av} {H : List AO} {T : List Nat} {x : Xit} {s : St} {r : Av} (hd : DefOK P G f (.fn pu n c res)) (hn : args.length ≤ n)
    (hc : Snd P G F (.code c ⟨enter 0 args, H, T⟩) (.code x s)) (hx : ∀ id, x ≠ .ex id) (hr : resA s res = some r) : SC P G (.fn f) args H T r s.H s.T := by
  intro w V vs hsim hrel
  obtain ⟨pf, conc, B, hf, hname, hb, hnt, hcode, hres⟩ := hd
  refine .inr ⟨run_callFunc' hf hname hb vs w, ?_⟩
  refine (callsIn_fw (ro := none) (n := 0)).1 (callsIn_of_wp_marks hf hb trivial ?_ rfl)
  have hpre : Pre G n w.heap.size { tmps := vs ++ Array.replicate (pf.ntmps - vs.size) undef, defers := [] } w V ⟨enter 0 args, H, T⟩ := by
    refine ⟨hsim, fun k => ?_, .nil w V, ?_, Nat.le_refl _⟩
    · rw [getE_enter]
      simp only [Nat.zero_le, if_true, Nat.sub_zero]
      rcases Nat.lt_or_ge k vs.size with g | g
      · have ga : k < args.length := by rw [← hrel.1]; exact g
        have e1 : (vs ++ Array.replicate (pf.ntmps - vs.size) undef).getD k undef = vs[k] := by
          simp [Array.getD_eq_getD_getElem?, Array.getElem?_append, g]
        have e2 : args.getD k .top = args[k] := by simp [List.getD_eq_getElem?_getD, ga]
        rw [e1, e2]
        exact hrel.2 k _ _ (Array.getElem?_eq_getElem g) (List.getElem?_eq_getElem ga)
      · have ga : args.length ≤ k := by rw [← hrel.1]; exact g
        have e2 : args.getD k .top = .top := by simp [List.getD_eq_getElem?_getD, ga]
        rw [e2]; exact .top _
    · have h1 := hrel.1
      simp only [Array.size_append, Array.size_replicate]
      omega
  refine cwp_wp (hc none n w.heap.size B conc (.inl rfl) hcode _ w V hpre _ fun a' w' hl => ?_)
  obtain ⟨V', q1, q2, q3⟩ := hl
  have hpost : LeavesInM (fw none) 0 P pf a'.tmps (fun e w' => ∃ v, e = .returned v ∧ ∃ V', V.Le V' ∧ Keep w V w' V' ∧ Sim G w' V' s.H s.T ∧ RelV V' v r) a'.defers .returning w' := by
    obtain ⟨rs, m1, m2, m3⟩ := q3.defers
    rw [m2]
    refine leaves_marks (w0 := w) (V0 := V) (V := V') (H := s.H) (T := s.T) (fun w2 hs2 hk2 => ?_) rs w' m1 m3 q3.sim q2
    have hp2 : Pre G n w.heap.size { tmps := a'.tmps, defers := [] } w2 V' s := ⟨hs2, q3.env, .nil _ _, q3.size, hk2.size⟩
    obtain ⟨v, k1, k2⟩ := res_sound hp2 hres hr
    exact ⟨v, k1, v, rfl, V', q1, hk2, hs2, k2⟩
  cases x with
  | nrm => exact hpost
  | ret => exact hpost
  | ex id => exact absurd rfl (hx id)

theorem code_rfn {B : Nat → Bool} {N : Nat} {conc : Code} {f : Od} {ps : List Nat} {A Bd : AC} (h : codeC P G B N conc = .rfn none f ps A Bd) :
    ∃ o pa x y, conc = .rangeFunc o pa x y ∧ odC G o = some f ∧ (∀ p ∈ ps, p < N) ∧ pa.toList = ps ∧ codeC P G B N x = A ∧ codeC P G B N y = Bd := by
  cases conc <;> simp only [codeC] at h
  case rangeFunc o pa x y =>
    split at h
    · rename_i c' hc
      split at h
      · rename_i hall
        cases h
        refine ⟨o, pa, x, y, rfl, hc, fun p hp => ?_, rfl, rfl, rfl⟩
        have := Array.all_eq_true_iff_forall_mem.1 hall p (by simpa using hp)
        simpa using this
      · cases h
    · cases h
  all_goals first | (split at h <;> cases h; done) | (split at h <;> first | (cases h; done) | (split at h <;> cases h; done)) | (cases h; done)

/-- The record of a range over a function is turned. -/
theorem sim_loop {w : World} {V : View} {H : List AO} {T : List Nat} (hs : Sim G w V H T) {b c k : Nat} {r : Loop} (hb : V.blk b = some (c, 0, 0, k)) (hw : w.heap[c]? = some (.loop r)) (hrd : ∀ o, V.rd c o = none) (r' : Loop) (o' : AO)
    (hok : ∀ V', V.Le V' → V'.blk b = some (c, 0, 0, k) → (∀ o, V'.rd c o = none) → (w.putObj c (.loop r')).heap[c]? = some (.loop r') → BlkOk G (w.putObj c (.loop r')) V' b o') :
    ∃ V', V.Le V' ∧ Keep w V (w.putObj c (.loop r')) V' ∧ Sim G (w.putObj c (.loop r')) V' (H.set b o') T ∧ V'.blk b = some (c, 0, 0, k) := by
  have hlt := heap_lt hw
  have hVle : V.Le (V.setBlk b c 0 0 k) := by
    refine ⟨fun _ _ _ e => e, fun i c' z m t e => ?_, fun i m c hh t e => ⟨m, c, hh, t, e, Nat.le_refl _, fun _ => ⟨rfl, rfl, rfl⟩⟩⟩
    by_cases hi : i = b
    · subst hi; rw [hb] at e; cases e; exact ⟨_, _, _, by simp [View.setBlk], Nat.le_refl _, fun _ => ⟨rfl, rfl⟩⟩
    · exact ⟨c', m, t, by simp only [View.setBlk]; rw [if_neg hi]; exact e, Nat.le_refl _, fun _ => ⟨rfl, rfl⟩⟩
  obtain ⟨q1, q2, q3⟩ := hs.turn (w' := w.putObj c (.loop r')) (o' := o') hb (Nat.le_refl _) (fun _ => ⟨rfl, rfl⟩) (.inl rfl) (by rw [World.putObj_size]; exact hlt) (by rw [World.putObj_size]; exact Nat.le_refl _)
    (fun j _ hj => World.putObj_heap_other hj) hrd rfl rfl rfl
    (hok _ hVle (by simp [View.setBlk]) hrd (World.putObj_heap_same hlt))
  exact ⟨_, q1, q2, q3, by simp [View.setBlk]⟩

theorem loop_blk {w : World} {V : View} {H : List AO} {T : List Nat} (hs : Sim G w V H T) {b : Nat} {ps : List Nat} {e : Env} {A Bd : AC} {st : Nat} {pend : Option Xit} (hb : H[b]? = some (.lrec ps e A Bd st pend)) :
    ∃ c k r, V.blk b = some (c, 0, 0, k) ∧ w.heap[c]? = some (.loop r) ∧ LoopOk G V r ps e A Bd st pend ∧ ∀ o, V.rd c o = none := hs.blk b _ hb

theorem blk_same {V V' : View} (h : V.Le V') {b c n k c' n' k' : Nat} (h1 : V.blk b = some (c, 0, n, k)) (h2 : V'.blk b = some (c', 0, n', k')) : c' = c := by
  obtain ⟨c2, n2, k2, e, _, q⟩ := h.blk _ _ _ _ _ h1
  rw [h2] at e
  cases e
  exact (q (.inr rfl)).1.symm

theorem fold_set {N : Nat} : ∀ (ps : List Nat) (vs : List Value) (args : List Av) (tmps : Array Value) (e : Env) (V : View), vs.length = args.length → (∀ (i : Nat) v a, vs[i]? = some v → args[i]? = some a → RelV V v a) → (∀ p ∈ ps, p < N) → tmps.size = N → RelE V tmps e →
    RelE V ((ps.zip vs).foldl (fun tmps (t, a) => tmps.setIfInBounds t a) tmps) (setPs ps args e) ∧ ((ps.zip vs).foldl (fun tmps (t, a) => tmps.setIfInBounds t a) tmps).size = N
  | [], vs, args, tmps, e, V, _, _, _, hs, he => by
    cases args <;> exact ⟨by simpa [setPs] using he, by simpa using hs⟩
  | p :: ps, [], args, tmps, e, V, hl, _, _, hs, he => by
    have : args = [] := List.eq_nil_of_length_eq_zero hl.symm
    subst this
    exact ⟨by simpa [setPs] using he, by simpa using hs⟩
  | p :: ps, v :: vs, [], tmps, e, V, hl, _, _, _, _ => by simp at hl
  | p :: ps, v :: vs, a :: args, tmps, e, V, hl, hr, hp, hs, he => by
    have h1 : RelE V (tmps.setIfInBounds p v) (setE p a e) := by
      intro k
      rw [getE_setE]
      have hpl : p < tmps.size := by rw [hs]; exact hp p (by simp)
      by_cases hk : k = p
      · subst hk
        rw [if_pos rfl]
        have : (tmps.setIfInBounds k v).getD k undef = v := by simp [Array.getD_eq_getD_getElem?, hpl]
        rw [this]
        exact hr 0 v a rfl rfl
      · rw [if_neg hk]
        have : (tmps.setIfInBounds p v).getD k undef = tmps.getD k undef := by
          simp [Array.getD_eq_getD_getElem?, Array.getElem?_setIfInBounds, Ne.symm hk]
        rw [this]
        exact he k
    exact fold_set ps vs args _ _ V (by simpa using hl) (fun i v' a' h1 h2 => hr (i + 1) v' a' (by simpa using h1) (by simpa using h2)) (fun q hq => hp q (by simp [hq])) (by simpa using hs) h1

theorem code_skip {B : Nat → Bool} {N : Nat} {conc : Code} (h : codeC P G B N conc = .skip) : conc = .skip := by
  cases conc <;> simp only [codeC] at h <;> first | rfl | (split at h <;> cases h; done) | (split at h <;> first | (cases h; done) | (split at h <;> cases h; done)) | cases h

theorem code_reg {B : Nat → Bool} {N : Nat} {conc : Code} {d : Option (List (List Nat))} {rs : List AR} (h : codeC P G B N conc = .reg d rs) :
    ∃ id ops dr, conc = .region id ops dr ∧ ops.all (dstOk N) = true ∧ d = (if dr then some (ops.toList.map aftC) else none) ∧ rs = ops.toList.map (rowC P G B ops) := by
  cases conc <;> simp only [codeC] at h
  case region id ops dr =>
    split at h
    · rename_i hN
      cases h
      exact ⟨id, ops, dr, rfl, hN, rfl, rfl⟩
    · cases h
  all_goals first | (split at h <;> cases h; done) | (split at h <;> first | (cases h; done) | (split at h <;> cases h; done)) | (cases h; done)

theorem code_seq {B : Nat → Bool} {N : Nat} {conc : Code} {a b : AC} (h : codeC P G B N conc = .seq none a b) : ∃ x y, conc = .seq x y ∧ codeC P G B N x = a ∧ codeC P G B N y = b := by
  cases conc <;> simp only [codeC] at h
  case seq x y => cases h; exact ⟨x, y, rfl, rfl, rfl⟩
  all_goals first | (split at h <;> cases h; done) | (split at h <;> first | (cases h; done) | (split at h <;> cases h; done)) | (cases h; done)

theorem code_cond {B : Nat → Bool} {N : Nat} {conc : Code} {c : Od} {a b : AC} (h : codeC P G B N conc = .cond c a b) : ∃ o x y, conc = .cond o x y ∧ odC G o = some c ∧ codeC P G B N x = a ∧ codeC P G B N y = b := by
  cases conc <;> simp only [codeC] at h
  case cond o x y =>
    split at h
    · rename_i c' hc
      cases h; exact ⟨o, x, y, rfl, hc, rfl, rfl⟩
    · cases h
  all_goals first | (split at h <;> cases h; done) | (split at h <;> first | (cases h; done) | (split at h <;> cases h; done)) | (cases h; done)

theorem code_block {B : Nat → Bool} {N : Nat} {conc : Code} {id : Nat} {a : AC} (h : codeC P G B N conc = .block id a) : ∃ x, conc = .block id x ∧ codeC P G B N x = a := by
  cases conc <;> simp only [codeC] at h
  case block i x => cases h; exact ⟨x, rfl, rfl⟩
  all_goals first | (split at h <;> cases h; done) | (split at h <;> first | (cases h; done) | (split at h <;> cases h; done)) | (cases h; done)

theorem code_loop {B : Nat → Bool} {N : Nat} {conc : Code} {a : AC} (h : codeC P G B N conc = .loop none a) : ∃ x, conc = .loop x ∧ codeC P G B N x = a := by
  cases conc <;> simp only [codeC] at h
  case loop x => cases h; exact ⟨x, rfl, rfl⟩
  all_goals first | (split at h <;> cases h; done) | (split at h <;> first | (cases h; done) | (split at h <;> cases h; done)) | (cases h; done)

theorem code_exit {B : Nat → Bool} {N : Nat} {conc : Code} {id : Nat} (h : codeC P G B N conc = .exit id) : conc = .exit id := by
  cases conc <;> simp only [codeC] at h
  case exit i => cases h; rfl
  all_goals first | (split at h <;> cases h; done) | (split at h <;> first | (cases h; done) | (split at h <;> cases h; done)) | (cases h; done)

theorem code_ret {B : Nat → Bool} {N : Nat} {conc : Code} (h : codeC P G B N conc = .ret) : conc = .ret := by
  cases conc <;> simp only [codeC] at h
  case ret => rfl
  all_goals first | (split at h <;> cases h; done) | (split at h <;> first | (cases h; done) | (split at h <;> cases h; done)) | (cases h; done)

theorem Lands.refl {N D : Nat} {w : World} {V : View} {s : St} {a : Act} (h : Pre G N D a w V s) : Lands G N D w V s a w := ⟨V, .refl V, .refl w V, h⟩

theorem Pre.keepO {N D : Nat} {w : World} {V : View} {s : St} {a : Act} (k : Option (List Nat)) (h : Pre G N D a w V s) : Pre G N D a w V (keepO k s) := by
  cases k with
  | none => exact h
  | some ks => exact ⟨h.sim, h.env.keep ks, h.defers, h.size, h.base⟩

theorem Lands.keepO {N D : Nat} {w w' : World} {V : View} {s : St} {a : Act} (k : Option (List Nat)) (h : Lands G N D w V s a w') : Lands G N D w V (keepO k s) a w' := by
  obtain ⟨V', q1, q2, q3⟩ := h
  refine ⟨V', q1, q2, ?_⟩
  cases k with
  | none => exact q3
  | some ks => exact ⟨q3.sim, q3.env.keep ks, q3.defers, q3.size, q3.base⟩

theorem noRfn_seq {k : Option (List Nat)} {a b : AC} {ro : Option Nat} (h : ro = none ∨ noRfn (.seq k a b) = true) : (ro = none ∨ noRfn a = true) ∧ (ro = none ∨ noRfn b = true) := by
  rcases h with h | h
  · exact ⟨.inl h, .inl h⟩
  · simp only [noRfn, Bool.and_eq_true] at h; exact ⟨.inr h.1, .inr h.2⟩

theorem round_pf (hGP : G.P = P) {b : Nat} {ps ps1 ps2 : List Nat} {e e1 e2 : Env} {A Bd A1 B1 A2 B2 : AC} {st2 : Nat} {p p1 p2 : Option Xit} {args : List Av} {H : List AO} {T : List Nat} {x : Xit} {s1 s2 : St} (hb : H[b]? = some (.lrec ps e A Bd 0 p))
    (hlen : args.length = ps.length) (hA : noRfn A = true) (hB : noRfn Bd = true) (ihA : Snd P G F (.code A ⟨setPs ps args e, H, T⟩) (.code .nrm s1)) (hb1 : s1.H[b]? = some (.lrec ps1 e1 A1 B1 0 p1))
    (ihB : Snd P G F (.code Bd ⟨s1.e, s1.H.set b (.lrec ps1 e1 A1 B1 1 none), s1.T⟩) (.code x s2)) (hb2 : s2.H[b]? = some (.lrec ps2 e2 A2 B2 st2 p2)) :
    SC P G (.yld b) args H T (.bool x.isNrm) (s2.H.set b (.lrec ps2 e2 A2 B2 (if x.isNrm then 0 else 2) (some x))) s2.T := by
  intro w V vs c n k hsim hblk hrel
  obtain ⟨c', k', r, g1, g2, g3, g4⟩ := loop_blk hsim hb
  rw [hblk] at g1
  cases g1
  obtain ⟨B, hcA, hcB⟩ := g3.code
  rw [hGP] at hcA hcB
  have hsz : vs.size = r.params.size := by rw [hrel.1, hlen, ← g3.prm]; simp
  refine ⟨r.fn, _, r.assign, r.body, run_yield g2 hsz, ?_⟩
  have hfold := fold_set (N := r.tmps.size) ps vs.toList args r.tmps e V (by simpa using hrel.1) (fun i v a h1 h2 => hrel.2 i v a (by simpa using h1) h2) g3.low rfl g3.env
  have hzip : (r.params.zip vs).foldl (fun tmps (t, a) => tmps.setIfInBounds t a) r.tmps = (ps.zip vs.toList).foldl (fun tmps (t, a) => tmps.setIfInBounds t a) r.tmps := by
    rw [← Array.foldl_toList, Array.toList_zip, g3.prm]
  rw [hzip]
  refine roundIn_of_wpIn (F := Fence.wide) trivial ?_
  have hpre : Pre G r.tmps.size w.heap.size { tmps := (ps.zip vs.toList).foldl (fun tmps (t, a) => tmps.setIfInBounds t a) r.tmps, defers := [] } w V ⟨setPs ps args e, H, T⟩ := ⟨hsim, hfold.1, .nil _ _, hfold.2, Nat.le_refl _⟩
  refine cwp_wp (ro := some c) (ihA (some c) r.tmps.size w.heap.size B r.assign (.inr hA) hcA _ w V hpre _ fun a1 w1 hl => ?_)
  obtain ⟨V1, q1, q2, q3⟩ := hl
  obtain ⟨c1, k1, r1, m1, m2, m3, m4⟩ := loop_blk q3.sim hb1
  have := blk_same q1 hblk m1
  subst this
  refine ⟨_, run_beginRound m2 m3.st.1, ?_⟩
  obtain ⟨V2, t1, t2, t3, t4⟩ := sim_loop q3.sim m1 m2 m4 { r1 with state := .busy } (.lrec ps1 e1 A1 B1 1 none) (fun V' hle hb' hrd hh => ⟨c1, k1, _, hb', hh, ⟨m3.prm, m3.low, m3.code, m3.env.mono hle, rfl⟩, hrd⟩)
  have hpre2 : Pre G r.tmps.size w.heap.size a1 (w1.putObj c1 (.loop { r1 with state := .busy })) V2 ⟨s1.e, s1.H.set b (.lrec ps1 e1 A1 B1 1 none), s1.T⟩ :=
    ⟨t3, q3.env.mono t1, q3.defers.keep t2, q3.size, by rw [World.putObj_size]; exact q3.base⟩
  refine cwp_wp (ro := some c1) (ihB (some c1) r.tmps.size w.heap.size B r.body (.inr hB) hcB _ _ V2 hpre2 _ fun a3 w3 hl => ?_)
  obtain ⟨V3, u1, u2, u3⟩ := hl
  obtain ⟨c3, k3, r3, z1, z2, z3, z4⟩ := loop_blk u3.sim hb2
  have := blk_same (q1.trans (t1.trans u1)) hblk z1
  subst this
  have fin : ∀ (j : Option Code), j = xitCode x → ∃ v w', (Instr.endRound c3 j).run P w3 = .ok v w' ∧ ∃ v', Ending.returned v = .returned v' ∧ ∃ V', V.Le V' ∧ Keep w V w' V' ∧ Sim G w' V' (s2.H.set b (.lrec ps2 e2 A2 B2 (if x.isNrm then 0 else 2) (some x))) s2.T ∧ RelV V' v' (.bool x.isNrm) := by
    intro j hj
    refine ⟨_, _, run_endRound j z2, _, rfl, ?_⟩
    have hst : StOk { r3 with state := if j.isNone then .ready else .done, pending := j } (if x.isNrm then 0 else 2) (some x) := by
      subst hj
      cases x <;> exact ⟨rfl, rfl⟩
    obtain ⟨V4, y1, y2, y3, _⟩ := sim_loop u3.sim z1 z2 z4 { r3 with state := if j.isNone then .ready else .done, pending := j } (.lrec ps2 e2 A2 B2 (if x.isNrm then 0 else 2) (some x)) (fun V' hle hb' hrd hh => ⟨c3, k3, _, hb', hh, ⟨z3.prm, z3.low, z3.code, z3.env.mono hle, hst⟩, hrd⟩)
    refine ⟨V4, q1.trans (t1.trans (u1.trans y1)), q2.trans (t2.trans (u2.trans y2)), y3, ?_⟩
    have : j.isNone = x.isNrm := by subst hj; cases x <;> rfl
    rw [this]
    exact .bool _
  cases x with
  | nrm => exact fin none rfl
  | ex id => exact fin (some (.exit id)) rfl
  | ret => exact fin (some .ret) rfl

theorem rfn_pf (hT : TabOK P G F) (hGP : G.P = P) {k : Option (List Nat)} {f : Od} {ps : List Nat} {A Bd : AC} {s : St} {g : Nat} {caps : List Av} {v : Av} {H2 : List AO} {T2 : List Nat} {ps' : List Nat} {e' : Env} {A' Bd' : AC} {st : Nat} {pend : Option Xit} (hf : f.ev s.e = .fn g caps)
    (hcall : SC P G (.fn g) (.yld s.H.length :: caps) (s.H ++ [.lrec ps (keepO k s).e A Bd 0 none]) s.T v H2 T2) (hb : H2[s.H.length]? = some (.lrec ps' e' A' Bd' st pend)) (hst : st = 0 ∨ st = 2) (hfn : isFn F g = true) :
    Snd P G F (.code (.rfn k f ps A Bd) s) (.code (pend.getD .nrm) ⟨s.e, H2.set s.H.length .dead, T2⟩) := by
  intro ro N D B conc hro hc a w V hp Q hQ
  have hro : ro = none := by
    rcases hro with q | q
    · exact q
    · cases q
  subst hro
  obtain ⟨o, pa, cx, cy, rfl, ho, hlow, hpa, hcx, hcy⟩ := code_rfn hc
  have hrf := od_sound hp.sim hp.env ho
  rw [hf] at hrf
  obtain ⟨vsc, hv, hcaps⟩ := relFn hrf
  show (Code.rangeFunc o pa cx cy).wpIn (fw none) 0 P Q a w
  refine wpIn_rangeFunc (F := fw none) (n := 0) fun fn _ => ?_
  obtain ⟨j1, j2⟩ := hp.sim.junk (.deferred (some []))
  have hle0 : V.Le V := .refl V
  let r0 : Loop := { state := .ready, pending := none, fn, tmps := a.tmps, params := pa, assign := cx, body := cy, defers := w.heap.size }
  have hsz1 : (w.alloc (.deferred (some []))).heap.size = w.heap.size + 1 := by simp
  have hblkok : BlkOk G ((w.alloc (.deferred (some []))).alloc (.loop r0)) (V.push s.H.length (w.alloc (.deferred (some []))).heap.size 0 0 0) s.H.length (.lrec ps (keepO k s).e A Bd 0 none) := by
    refine ⟨_, 0, r0, by simp [View.push], heap_alloc_new _ _, ⟨hpa, ?_, ⟨B, ?_, ?_⟩, ?_, ⟨rfl, rfl⟩⟩, fun y => j1.rd_new (Nat.le_refl _) y⟩
    · intro q hq
      show q < a.tmps.size
      rw [hp.size]; exact hlow q hq
    · rw [hGP]; show codeC P G B a.tmps.size cx = _; rw [hp.size]; exact hcx
    · rw [hGP]; show codeC P G B a.tmps.size cy = _; rw [hp.size]; exact hcy
    · have henv : RelE V a.tmps (keepO k s).e := by
        cases k with
        | none => exact hp.env
        | some ks => exact hp.env.keep ks
      have hle1 : V.Le (V.push s.H.length (w.alloc (.deferred (some []))).heap.size 0 0 0) := by
        refine ⟨fun _ _ _ e => e, fun i c z m t e => ⟨c, m, t, ?_, Nat.le_refl _, fun _ => ⟨rfl, rfl⟩⟩, fun i m c hh t e => ⟨m, c, hh, t, e, Nat.le_refl _, fun _ => ⟨rfl, rfl, rfl⟩⟩⟩
        have := hp.sim.domB _ _ e
        simp only [View.push]
        rw [if_neg (by omega)]
        exact e
      exact henv.mono hle1
  obtain ⟨p1, p2, p3⟩ := j1.push (.lrec ps (keepO k s).e A Bd 0 none) (.loop r0) 0 0 0 hblkok
  generalize hw1 : (w.alloc (.deferred (some []))).alloc (.loop r0) = w1 at p2 p3
  generalize hV1 : V.push s.H.length (w.alloc (.deferred (some []))).heap.size 0 0 0 = V1 at p1 p2 p3
  have hblk1 : V1.blk s.H.length = some (w.heap.size + 1, 0, 0, 0) := by rw [← hV1]; simp [View.push]
  have hent : (Instr.enterLoop fn a.tmps pa cx cy (fw none).round).run P w = .ok (w.heap.size + 1, [{ target := .collected w.heap.size, args := #[] }]) w1 := by
    rw [← hw1]
    exact run_enterLoop_outer fn a.tmps pa cx cy
  obtain ⟨ys, hys⟩ : ∃ ys : Array Value, ys = #[.func (.yield (w.heap.size + 1)) #[] #[]] := ⟨_, rfl⟩
  have hdoes := hcall w1 V1 (ys ++ vsc) p3 ⟨by rw [hys]; simp [hcaps.1, Nat.add_comm], fun i v y hv hy => by
    rw [hys] at hv
    rw [Array.getElem?_append] at hv
    match i with
    | 0 => simp at hv hy; subst hv; subst hy; exact .yld _ _ _ _ hblk1
    | i + 1 =>
      simp at hv hy
      exact (hcaps.2 i v y hv hy).mono p1⟩
  have henter : (callFunc g (ys ++ vsc)).run P w1 = .ok (.enter g (ys ++ vsc)) w1 := by
    unfold isFn at hfn
    split at hfn
    · rename_i pu n c res hd
      obtain ⟨pf, conc, B, hf, hname, hb, _⟩ := hT _ _ hd
      exact run_callFunc' hf hname hb _ _
    · cases hfn
  have hcalls : Calls P g (ys ++ vsc) w1 (fun e w' => ∃ v0, e = .returned v0 ∧ ∃ V', V1.Le V' ∧ Keep w1 V1 w' V' ∧ Sim G w' V' H2 T2 ∧ RelV V' v0 v) := by
    rcases hdoes with ⟨v0, w', h1, _⟩ | ⟨_, h2⟩
    · rw [henter] at h1; cases h1
    · exact h2
  refine ⟨w.heap.size + 1, [{ target := .collected w.heap.size, args := #[] }], w1, { target := .fn (.func g) vsc, args := ys }, w1, g, ys ++ vsc, w1, hent, ?_, fun _ _ => trivial, (by show (callFunc g (ys ++ vsc)).run P w1 = _; exact henter), fun h => (by cases h), (callsIn_fw.2 hcalls).mono ?_⟩
  · subst hys
    simp [resolve, rangeCall, hv, Deferred.ofValue]
    rfl
  · rintro e w3 ⟨v0, rfl, V3, u1, u2, u3, _⟩
    obtain ⟨c3, k3, r3, z1, z2, z3, z4⟩ := loop_blk u3 hb
    have := blk_same u1 hblk1 z1
    subst this
    have hnb : r3.state ≠ .busy := by
      rcases hst with rfl | rfl
      · rw [z3.st.1]; simp
      · rw [z3.st.1]; simp
    have hpend : r3.pending = pend.bind xitCode := by
      rcases hst with rfl | rfl
      · exact z3.st.2
      · exact z3.st.2
    obtain ⟨V4, y1, y2, y3, _⟩ := sim_loop u3 z1 z2 z4 { r3 with state := .exhausted } .dead (fun _ _ _ _ _ => trivial)
    have hkd : Keep (w.alloc (.deferred (some []))) V _ V4 := p2.trans (u2.trans y2)
    have hmarks : Marks D (w3.putObj (w.heap.size + 1) (.loop { r3 with state := .exhausted })) V4 ({ target := .collected w.heap.size, args := #[] } :: a.defers) := by
      refine Marks.keep ?_ hkd
      obtain ⟨rs, m1, m2, m3⟩ := hp.defers
      refine ⟨w.heap.size :: rs, ?_, by rw [m2]; rfl, ?_⟩
      · rw [List.nodup_cons]
        exact ⟨fun q => by have := (m3 _ q).2.1; omega, m1⟩
      · intro r hr
        rcases List.mem_cons.1 hr with rfl | hr
        · refine ⟨hp.base, by rw [hsz1]; omega, heap_alloc_new _ _, fun q => ?_⟩
          have := hp.sim.owned_lt q
          omega
        · obtain ⟨g1, g2, g3, g4⟩ := m3 r hr
          exact ⟨g1, by rw [hsz1]; omega, (alloc_old' w _ r g2).trans g3, g4⟩
    have hland : Lands G N D w V ⟨s.e, H2.set s.H.length .dead, T2⟩ { a with defers := { target := .collected w.heap.size, args := #[] } :: a.defers } (w3.putObj (w.heap.size + 1) (.loop { r3 with state := .exhausted })) := by
      have hle : V.Le V4 := p1.trans (u1.trans y1)
      have hk : Keep w V _ V4 := j2.trans hkd
      exact ⟨V4, hle, hk, y3, hp.env.mono hle, hmarks, hp.size, Nat.le_trans hp.base hk.size⟩
    have hq := hQ _ _ hland
    refine ⟨_, _, run_endLoop z2 hnb, ?_⟩
    generalize w3.putObj (w.heap.size + 1) (.loop { r3 with state := .exhausted }) = w4 at hq ⊢
    rw [hpend]
    cases pend with
    | none => exact hq
    | some x =>
      cases x with
      | nrm => exact hq
      | ex id => exact wpIn_exit hq
      | ret => exact wpIn_ret hq

theorem ev_sound (hmix : P.follows .mixedOrders = true) (hGP : G.P = P) (hT : TabOK P G F) {cfg : Cfg} {out : Out} (h : Ev F cfg out) : Snd P G F cfg out := by
  induction h with
  | nil => exact .nil _
  | @skip r rs s o h1 _ ih =>
    cases o with
    | rows s' => exact .cons ⟨_, _, _, .skip h1, rfl⟩ ih
    | _ => exact ih.elim
  | @op r rs s o l h1 h2 h3 _ ih =>
    cases o with
    | rows s' => exact .cons ⟨_, _, _, .op l h1 h2 h3, rfl⟩ ih
    | _ => exact ih.elim
  | @call r rs s o f args v H' T' h1 h2 h3 hp hh hev _ ihc ih =>
    cases o with
    | rows s' => exact .cons ⟨_, _, _, .call f args v H' T' h1 h2 h3 (fun q => mc_pure (hp q) ihc) (fun q => (ev_tok hev).2 (hh q)) ihc, rfl⟩ ih
    | _ => exact ih.elim
  | @ext f args args' g v H T h1 h2 h3 =>
    have hs := ext_sound (hT f _ h1) h2 h3
    exact ⟨hs H T, fun _ => ⟨rfl, rfl, hs⟩⟩
  | @pure f args args' n c res x s r v H T h1 h2 h3 _ h4 h5 h6 ih =>
    have hlen := (stripA_get h2).1
    have hb := body_sound (F := F) (hT f _ h1) (by omega) ih h4 h5
    have hs : ∀ H T, SC P G (.fn f) args H T v H T := by
      intro H T w V vs hsim hrel
      have hh := hb w V.pu vs (iso_in hsim) (relL_strip hrel h2)
      have fin : ∀ r' w', (∃ V', V.pu.Le V' ∧ Keep w V.pu w' V' ∧ Sim G w' V' s.H s.T ∧ RelV V' r' r) → ∃ V', V.Le V' ∧ Keep w V w' V' ∧ Sim G w' V' H T ∧ RelV V' r' v := by
        rintro r' w' ⟨V', q1, q2, q3, q4⟩
        exact iso_froz hsim q1 q2 q3 q4 h6
      rcases hh with ⟨r', w', g1, g2⟩ | ⟨g1, g2⟩
      · exact .inl ⟨r', w', g1, fin r' w' g2⟩
      · exact .inr ⟨g1, g2.mono fun e w' ⟨r', he, hr⟩ => ⟨r', he, fin r' w' hr⟩⟩
    exact ⟨hs H T, fun _ => ⟨rfl, rfl, hs⟩⟩
  | @shared f args n c res x s r H T h1 h2 _ h3 h4 ih =>
    refine ⟨body_sound (F := F) (hT f _ h1) h2 ih h3 h4, fun hp => ?_⟩
    simp [isPureT, isPure, h1] at hp
  | @shr f args p n c res x s r H T h1 h2 _ h3 h4 ih =>
    exact ⟨body_sound (F := F) (hT f _ h1) h2 ih h3 h4, fun hp => by cases hp⟩
  | @round b ps ps1 ps2 e e1 e2 A Bd A1 B1 A2 B2 st2 p p1 p2 args H T x s1 s2 hb hlen hA hB _ hb1 _ hb2 ihA ihB =>
    exact ⟨round_pf hGP hb hlen hA hB ihA hb1 ihB hb2, fun h => by cases h⟩
  | @rfn k f ps A Bd s g caps v H2 T2 ps' e' A' Bd' st pend hf _ hb hst hfn ihc =>
    exact rfn_pf hT hGP hf ihc.1 hb hst hfn
  | @skipc s =>
    intro ro N D B conc hro hc a w V hp Q hQ
    have := code_skip hc
    subst this
    exact wpIn_skip (hQ a w (.refl hp))
  | @reg rs s s' _ ih =>
    intro ro N D B conc hro hc a w V hp Q hQ
    obtain ⟨id, ops, dr, rfl, hN, hd, hrs⟩ := code_reg hc
    cases dr with
    | true => simp at hd
    | false =>
      refine wpIn_region ?_
      have ih := chain_bare sc_shr (chain_mono (fun _ _ _ _ _ _ _ q => q.1) ih)
      rw [hrs, rows_range] at ih
      exact chain_sound hN (fun a' w' hl => hQ a' w' hl) (List.range ops.size) (fun i hi => by simpa using hi) ih hp (.refl V) (.refl w V)
  | @draw aft rs s s' h1 _ ih =>
    intro ro N D B conc hro hc a w V hp Q hQ
    obtain ⟨id, ops, dr, rfl, hN, hd, hrs⟩ := code_reg hc
    cases dr with
    | false => simp at hd
    | true =>
      simp only [if_true, Option.some.injEq] at hd
      subst hd
      refine wpIn_region_draw fun t => ?_
      have hsch : Region.schedule (P.follows .mixedOrders) ops t = Region.linearise .any ops t := by simp [Region.schedule, hmix]
      rw [hsch]
      have hlen : rs.length = ops.size := by
        have := congrArg List.length hrs
        simpa using this
      obtain ⟨u, m1, m2, m3⟩ := draw_chain mc_pures hlen h1 ih t
      have m1 := chain_bare sc_shr (chain_mono (fun _ _ _ _ _ _ _ q => q.1) m1)
      have hmap : ((Region.linearise .any ops t).map fun i => rs.getD i noRow).map AR.bare = (Region.linearise .any ops t).map fun i => rowC P G B ops (ops.getD i default) := by
        rw [List.map_map]
        apply List.map_congr_left
        intro i hi
        have hi' := m3 i hi
        have e1 : (rs.map AR.bare)[i]? = (ops.toList.map (rowC P G B ops))[i]? := by rw [hrs]
        have hir : i < rs.length := by omega
        simp only [List.getElem?_map, Array.getElem?_toList, Array.getElem?_eq_getElem hi', List.getElem?_eq_getElem hir, Option.map_some, Option.some.injEq] at e1
        simp only [Function.comp, List.getD_eq_getElem?_getD, List.getElem?_eq_getElem hir, Option.getD_some, Array.getD_eq_getD_getElem?, Array.getElem?_eq_getElem hi']
        exact e1
      rw [hmap] at m1
      refine chain_sound hN (fun a' w' hl => hQ a' w' (hl.same m2)) _ m3 m1 ⟨hp.sim.heap rfl, hp.env, hp.defers.keep (Keep.heap rfl rfl rfl rfl), hp.size, hp.base⟩ (.refl V) (Keep.heap rfl rfl rfl rfl)
  | @seq k x y s s1 o _ _ iha ihb =>
    cases o with
    | code xx s2 =>
      intro ro N D B conc hro hc a w V hp Q hQ
      obtain ⟨cx, cy, rfl, hcx, hcy⟩ := code_seq hc
      refine wpIn_seq (cwp_wp (iha ro N D B cx (noRfn_seq hro).1 hcx a w V hp _ fun a' w' hl => ?_))
      obtain ⟨V', q1, q2, q3⟩ := hl.keepO k
      exact cwp_wp (ihb ro N D B cy (noRfn_seq hro).2 hcy a' w' V' q3 Q fun a2 w2 hl2 => hQ a2 w2 (hl2.trans q1 q2))
    | _ => exact ihb.elim
  | @seqx k x y s s1 xx _ hne iha =>
    intro ro N D B conc hro hc a w V hp Q hQ
    obtain ⟨cx, cy, rfl, hcx, hcy⟩ := code_seq hc
    refine wpIn_seq (cwp_wp (iha ro N D B cx (noRfn_seq hro).1 hcx a w V hp _ fun a' w' hl => ?_))
    cases xx with
    | nrm => exact absurd rfl hne
    | ex id => exact hQ a' w' hl
    | ret => exact hQ a' w' hl
  | @cond c x y s t o hc0 _ ih =>
    cases o with
    | code xx s2 =>
      intro ro N D B conc hro hc a w V hp Q hQ
      obtain ⟨oc, cx, cy, rfl, ho, hcx, hcy⟩ := code_cond hc
      have hr := od_sound hp.sim hp.env ho
      rw [hc0] at hr
      refine wpIn_cond (relBool hr) (cwp_wp ?_)
      cases t with
      | true => exact ih ro N D B cx (hro.imp id fun q => by simp only [noRfn, Bool.and_eq_true] at q; exact q.1) hcx a w V hp Q hQ
      | false => exact ih ro N D B cy (hro.imp id fun q => by simp only [noRfn, Bool.and_eq_true] at q; exact q.2) hcy a w V hp Q hQ
    | _ => exact ih.elim
  | @block id x s s1 xx _ ih =>
    intro ro N D B conc hro hc a w V hp Q hQ
    obtain ⟨cx, rfl, hcx⟩ := code_block hc
    refine wpIn_block (cwp_wp (ih ro N D B cx hro hcx a w V hp _ fun a' w' hl => ?_))
    have hQ' := hQ a' w' hl
    cases xx with
    | nrm => exact hQ'
    | ret => exact hQ'
    | ex i =>
      simp only [toExit, Exit.inBlock]
      by_cases hi : i = id
      · subst hi; rw [if_pos rfl] at hQ' ⊢; exact hQ'
      · rw [if_neg (fun q => hi (Xit.ex.inj q))] at hQ'
        rw [if_neg hi]; exact hQ'
  | @loop k x s s1 o _ _ iha ihb =>
    cases o with
    | code xx s2 =>
      intro ro N D B conc hro hc a w V hp Q hQ
      obtain ⟨cx, rfl, hcx⟩ := code_loop hc
      refine loopWp_unroll (cwp_wp (iha ro N D B cx hro hcx a w V (hp.keepO k) _ fun a' w' hl => ?_))
      obtain ⟨V', q1, q2, q3⟩ := hl
      exact ihb ro N D B (.loop cx) hro hc a' w' V' q3 Q fun a2 w2 hl2 => hQ a2 w2 (hl2.trans q1 q2)
    | _ => exact ihb.elim
  | @loopx k x s s1 xx _ hne iha =>
    intro ro N D B conc hro hc a w V hp Q hQ
    obtain ⟨cx, rfl, hcx⟩ := code_loop hc
    refine loopWp_unroll (cwp_wp (iha ro N D B cx hro hcx a w V (hp.keepO k) _ fun a' w' hl => ?_))
    cases xx with
    | nrm => exact absurd rfl hne
    | ex id => exact hQ a' w' hl
    | ret => exact hQ a' w' hl
  | @exit id s =>
    intro ro N D B conc hro hc a w V hp Q hQ
    have := code_exit hc
    subst this
    exact wpIn_exit (hQ a w (.refl hp))
  | @ret s =>
    intro ro N D B conc hro hc a w V hp Q hQ
    have := code_ret hc
    subst this
    exact wpIn_ret (hQ a w (.refl hp))

end
end Go.Am
