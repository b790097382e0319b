/- Each abstract operation does what the concrete one does. Generic: no program in sight. -/
import Derived.Test.YtfhilbdpejljdaaGreatDoorA1
import Derived.Laws.Slices
import Derived.Laws.IdiomCopy
import Derived.Laws.Tables
import Derived.Laws.Strings
import Derived.Laws.CopyRow
set_option linter.all false
namespace Go.Am
open Go

theorem RelE.put {V : View} {a : Act} {e : Env} {d : Option Nat} {v : Value} {x : Av} (h : RelE V a.tmps e) (hv : RelV V v x) (hd : ∀ k, d = some k → k < a.tmps.size) :
    RelE V (a.put d v).tmps (putE d x e) := by
  cases d with
  | none => exact h
  | some d =>
    have := hd d rfl
    intro k
    simp only [Act.put, putE, getE_setE]
    by_cases hk : k = d
    · subst hk
      rw [if_pos rfl]
      have : (a.tmps.setIfInBounds k v).getD k undef = v := by
        simp [Array.getD_eq_getD_getElem?, Array.getElem?_setIfInBounds, this]
      rw [this]; exact hv
    · rw [if_neg hk]
      have : (a.tmps.setIfInBounds d v).getD k undef = a.tmps.getD k undef := by
        simp [Array.getD_eq_getD_getElem?, Array.getElem?_setIfInBounds, Ne.symm hk]
      rw [this]; exact h k

theorem RelE.keep {V : View} {tmps : Array Value} {e : Env} (ks : List Nat) (h : RelE V tmps e) : RelE V tmps (keepE ks e) := by
  intro k
  rcases getE_keepE ks k e with q | q
  · rw [q]; exact h k
  · rw [q]; exact .top _

theorem mapM_some {α β : Type} (f : α → Option β) : ∀ (l : List α) (ys : List β), l.mapM f = some ys → ys.length = l.length ∧ ∀ (i : Nat) x, l[i]? = some x → ∃ y, ys[i]? = some y ∧ f x = some y
  | [], ys, h => by
    simp at h; subst h
    exact ⟨rfl, fun i x hx => by simp at hx⟩
  | a :: l, ys, h => by
    rw [List.mapM_cons] at h
    cases ha : f a with
    | none => rw [ha] at h; simp at h
    | some b =>
      rw [ha] at h
      cases hl : l.mapM f with
      | none => rw [hl] at h; simp at h
      | some bs =>
        rw [hl] at h
        simp at h; subst h
        obtain ⟨q1, q2⟩ := mapM_some f l bs hl
        refine ⟨by simp [q1], fun i x hx => ?_⟩
        cases i with
        | zero => simp at hx; subst hx; exact ⟨b, rfl, ha⟩
        | succ i => simp at hx; obtain ⟨y, h1, h2⟩ := q2 i x hx; exact ⟨y, by simpa using h1, h2⟩

theorem avC_rel (V : View) {v : Value} {a : Av} (h : avC v = some a) : RelV V v a ∧ v.oneCell' = true := by
  unfold avC at h
  split at h
  · split at h <;> cases h
    rename_i q; exact ⟨.int _ _ q, rfl⟩
  · cases h; exact ⟨.bool _, rfl⟩
  · split at h <;> cases h
    rename_i s q; exact ⟨.str _ _ rfl (by simpa using q), rfl⟩
  · cases h; exact ⟨.nilptr, rfl⟩
  · cases h; exact ⟨.slnil, rfl⟩
  · cases h; exact ⟨.nilfn, rfl⟩
  · cases h; exact ⟨.nilif, rfl⟩
  · cases h; exact ⟨.top _, rfl⟩
  · cases h

theorem cells_rel (V : View) {vs : Array Value} {cs : List Av} (h : vs.toList.mapM avC = some cs) : vs.size = cs.length ∧ ∀ (i : Nat) v a, (vs[i]? : Option Value) = some v → cs[i]? = some a → RelV V v a ∧ v.oneCell' = true := by
  obtain ⟨q1, q2⟩ := mapM_some _ _ _ h
  refine ⟨by simpa using q1.symm, fun i v a hv ha => ?_⟩
  obtain ⟨y, h1, h2⟩ := q2 i v (by simpa using hv)
  rw [ha] at h1; cases h1
  exact avC_rel V h2

theorem avV_rel (V : View) {v : Value} {a : Av} (h : avV v = some a) : RelV V v a := by
  unfold avV at h
  split at h
  · rename_i vs
    cases hc : vs.toList.mapM avC with
    | none => rw [hc] at h; cases h
    | some cs =>
      rw [hc] at h; cases h
      obtain ⟨q1, q2⟩ := cells_rel V hc
      refine .agg _ _ q1 (fun i v hv => ?_) (fun i v a hv ha => (q2 i v a hv ha).1)
      have hi : i < cs.length := by
        rw [← q1]
        rcases Nat.lt_or_ge i vs.size with z | z
        · exact z
        · rw [Array.getElem?_eq_none z] at hv; cases hv
      exact (q2 i v cs[i] hv (List.getElem?_eq_getElem hi)).2
  · exact (avC_rel V h).1

section
variable {P : Program} {G : Glo} {B : Nat → Bool} {w : World} {V : View} {s : St} {a : Act}

theorem od_sound {x : Operand} {od : Od} (hs : Sim G w V s.H s.T) (hE : RelE V a.tmps s.e) (h : odC G x = some od) : RelV V (a.eval x) (od.ev s.e) := by
  cases x with
  | tmp t => simp [odC] at h; subst h; exact hE t
  | const v =>
    simp only [odC] at h
    cases hv : avV v with
    | none => rw [hv] at h; cases h
    | some y => rw [hv] at h; cases h; exact avV_rel V hv
  | global g =>
    simp only [odC] at h
    cases hg : G g with
    | none => rw [hg] at h; cases h
    | some cs =>
      rw [hg] at h; cases h
      have q := hs.glob g cs hg
      refine .cptr g 0 cs 0 (fun j => (V.rd g j).getD undef) (Nat.le_refl _) ?_ ?_
      · intro j c hc
        obtain ⟨v, h1, h2, _⟩ := q j c hc
        simp [h1, h2]
      · intro j c hc
        obtain ⟨v, h1, _, h3⟩ := q j c hc
        simp [h1, h3]
  | func f =>
    simp [odC] at h; subst h
    exact .fn f #[] [] rfl (fun i v a hv => by simp at hv)

theorem ods_sound {xs : Array Operand} {os : List Od} (hs : Sim G w V s.H s.T) (hE : RelE V a.tmps s.e) (h : odsC G xs = some os) :
    xs.size = os.length ∧ ∀ (i : Nat) v x, ((xs.map a.eval)[i]? : Option Value) = some v → (os.map (·.ev s.e))[i]? = some x → RelV V v x := by
  obtain ⟨q1, q2⟩ := mapM_some _ _ _ h
  refine ⟨by simpa using q1.symm, fun i v x hv hx => ?_⟩
  simp only [Array.getElem?_map, List.getElem?_map, Option.map_eq_some_iff] at hv hx
  obtain ⟨o, ho, rfl⟩ := hv
  obtain ⟨d, hd, rfl⟩ := hx
  obtain ⟨y, h1, h2⟩ := q2 i o (by simpa using ho)
  rw [hd] at h1; cases h1
  exact od_sound hs hE h2

/-- The concrete operation comes to what its label says. -/
def OpSat (P : Program) (G : Glo) (w : World) (V : View) (s : St) (a : Act) (o : Oper) (l : Lab) : Prop :=
  ∃ cv w' V', ((execOp a.eval o).run P w = .ok (.value cv) w' ∨ ((execOp a.eval o).run P w = .ok .skip w' ∧ cv = undef)) ∧
    V.Le V' ∧ Keep w V w' V' ∧ Sim G w' V' (l.d.on s.H) (l.T.getD s.T) ∧ RelV V' cv l.v

/-- An operation that turns nothing. -/
theorem OpSat.pure {o : Oper} {v : Av} {cv : Value} (hs : Sim G w V s.H s.T) (hr : (execOp a.eval o).run P w = .ok (.value cv) w) (hv : RelV V cv v) : OpSat P G w V s a o { v := v } :=
  ⟨cv, w, V, .inl hr, .refl V, .refl w V, hs, hv⟩

theorem run_info {t : TypeId} {i : TypeInfo} (h : P.info? t = some i) : (typeInfo t).run P w = .ok i w := by
  simp [typeInfo, h]

theorem run_sizeOf {t : TypeId} {n : Nat} (h : szT P t = some n) : (sizeOf t).run P w = .ok n w := by
  simp only [szT, Option.map_eq_some_iff] at h
  obtain ⟨i, hi, rfl⟩ := h
  simp [sizeOf, run_info hi]

theorem run_zero {t : TypeId} {z : List Av} (h : zeroC P t = some z) : ∃ v, (zeroValue t).run P w = .ok v w ∧ v.cells.size = z.length ∧ ∀ (V : View) (i : Nat) c x, (v.cells[i]? : Option Value) = some c → z[i]? = some x → RelV V c x ∧ c.oneCell' = true := by
  simp only [zeroC, Option.bind_eq_bind, Option.bind_eq_some_iff] at h
  obtain ⟨i, hi, v, hv, h⟩ := h
  refine ⟨v, by simp [zeroValue, run_info hi, hv], ?_, fun V => ?_⟩
  · exact (cells_rel ⟨fun _ _ => none, fun _ => none, fun _ => none⟩ h).1
  · exact (cells_rel V h).2

theorem run_isAgg {t : TypeId} {n : Option Nat} (h : aggW P t = some n) :
    (isAgg t).run P w = .ok n.isSome w ∧ (∀ k, n = some k → szT P t = some k) := by
  unfold aggW at h
  split at h
  · rename_i fs hu
    simp only [Option.map_eq_some_iff] at h
    obtain ⟨k, hk, rfl⟩ := h
    exact ⟨by simp [isAgg, run_underlying hu], fun j hj => by cases hj; exact hk⟩
  · rename_i fs e hu
    simp only [Option.map_eq_some_iff] at h
    obtain ⟨k, hk, rfl⟩ := h
    exact ⟨by simp [isAgg, run_underlying hu], fun j hj => by cases hj; exact hk⟩
  · rename_i d h1 h2 hu
    cases h
    refine ⟨?_, fun j hj => by cases hj⟩
    simp only [isAgg, Sem.run_bind, run_underlying hu, Result.andThen_ok]
    cases d <;> first | rfl | exact absurd hu (h1 _) | exact absurd hu (h2 _ _)
  · cases h

/-- Cells at an address hold abstract cells. -/
def CellsAt (w : World) (V : View) (c o : Nat) (cs : List Av) : Prop :=
  ∀ (j : Nat) x, cs[j]? = some x → ∃ v, w.cell? ⟨c, o + j, none⟩ = some v ∧ v.oneCell' = true ∧ RelV V v x

theorem addr_add (c o n : Nat) : (⟨c, o, none⟩ : Addr).add n = ⟨c, o + n, none⟩ := by
  unfold Addr.add; split
  · simp [*]
  · rfl

theorem run_loadVar {t : TypeId} {n : Option Nat} {c o : Nat} {cs : List Av} {x : Av} (h : aggW P t = some n) (hc : CellsAt w V c o cs) (hl : cs.length = width n) (hx : ofCells n cs = some x) :
    ∃ v, (loadVar t ⟨c, o, none⟩).run P w = .ok v w ∧ RelV V v x := by
  obtain ⟨h1, h2⟩ := run_isAgg (w := w) h
  cases n with
  | none =>
    simp only [ofCells] at hx
    split at hx
    · rename_i y
      cases hx
      obtain ⟨v, hv, _, hr⟩ := hc 0 _ rfl
      refine ⟨v, ?_, hr⟩
      have hv' : w.cell? ⟨c, o, none⟩ = some v := by simpa using hv
      simp [loadVar, h1, hv']
    · cases hx
  | some k =>
    simp only [ofCells] at hx
    cases hx
    have hk : cs.length = k := hl
    have hcell : ∀ j, j < k → ∃ v, w.cell? ((⟨c, o, none⟩ : Addr).add j) = some v ∧ v.oneCell' = true ∧ ∃ y, cs[j]? = some y ∧ RelV V v y := by
      intro j hj
      have hj' : j < cs.length := by omega
      obtain ⟨v, q1, q2, q3⟩ := hc j cs[j] (List.getElem?_eq_getElem hj')
      exact ⟨v, by rw [addr_add]; exact q1, q2, cs[j], List.getElem?_eq_getElem hj', q3⟩
    let f : Nat → Value := fun j => (w.cell? ((⟨c, o, none⟩ : Addr).add j)).getD undef
    have hf : ∀ j, j < k → w.cell? ((⟨c, o, none⟩ : Addr).add j) = some (f j) := fun j hj => by
      obtain ⟨v, q, _⟩ := hcell j hj
      simp [f, q]
    have hrun := run_loadCells (P := P) w ⟨c, o, none⟩ k f hf
    refine ⟨.agg _, by simp [loadVar, h1, run_sizeOf (w := w) (h2 k rfl), hrun]; rfl, .agg _ _ (by simp [hk]) ?_ ?_⟩
    · intro i v hv
      simp only [List.getElem?_toArray, List.getElem?_map, Option.map_eq_some_iff] at hv
      obtain ⟨j, hj, rfl⟩ := hv
      have hjk : j < k := by
        have := List.mem_of_getElem? hj
        simpa using this
      obtain ⟨u, q1, q2, _⟩ := hcell j hjk
      have : f j = u := by simp [f, q1]
      rw [this]; exact q2
    · intro i v x hv hx
      simp only [List.getElem?_toArray, List.getElem?_map, Option.map_eq_some_iff] at hv
      obtain ⟨j, hj, rfl⟩ := hv
      have hij : j = i := by
        rw [List.getElem?_eq_some_iff] at hj
        obtain ⟨q, rfl⟩ := hj
        simp
      subst hij
      have hjk : j < k := by
        have := List.mem_of_getElem? hj
        simpa using this
      obtain ⟨u, q1, _, y, q3, q4⟩ := hcell j hjk
      have : f j = u := by simp [f, q1]
      rw [hx] at q3; cases q3
      rw [this]; exact q4

end
end Go.Am

namespace Go.Am
open Go

section
variable {P : Program} {G : Glo} {B : Nat → Bool} {w : World} {V : View} {s : St} {a : Act} {o : Oper} {l : Lab}

theorem lab_pure {x : Option Av} (h : (x.map fun a => ({ v := a } : Lab)) = some l) : ∃ y, x = some y ∧ l = { v := y } := by
  cases x with
  | none => cases h
  | some y => cases h; exact ⟨y, rfl, rfl⟩

theorem relInt {v : Value} {k : IntKind} {n : Int} (h : RelV V v (.int k n)) : v = .int k n ∧ k.has n := by cases h; exact ⟨rfl, by assumption⟩
theorem relBool {v : Value} {b : Bool} (h : RelV V v (.bool b)) : v = .bool b := by cases h; rfl
theorem relStr {v : Value} {b : List UInt8} (h : RelV V v (.str b)) : ∃ x : ByteArray, v = .string x ∧ x.data.toList = b ∧ b.length ≤ maxL := by cases h; exact ⟨_, rfl, by assumption, by assumption⟩

theorem ba_toList (x : ByteArray) : x.toList = x.data.toList := Go.ByteArray.toList_eq x

theorem ba_size (x : ByteArray) : x.size = x.data.toList.length := by rw [Array.length_toList]; rfl

theorem wrap_has (k : IntKind) (n : Int) : k.has (k.wrap n) := by
  unfold IntKind.has IntKind.wrap IntKind.min IntKind.max
  cases k
  all_goals
    simp only [IntKind.bits, IntKind.signed, Bool.true_and, Bool.false_and, if_true, Bool.false_eq_true, if_false]
    first
      | (split <;> rename_i q <;> simp only [ge_iff_le, decide_eq_true_eq] at q <;> constructor <;> omega)
      | (constructor <;> omega)

theorem sat_mov (hs : Sim G w V s.H s.T) (hE : RelE V a.tmps s.e) {x : Operand} {od : Od} (ho : o.op = .move x ∨ o.op = .assign x) (hx : odC G x = some od)
    (h : evalOp (.mov od) s = some l) : OpSat P G w V s a o l := by
  simp only [evalOp] at h
  obtain ⟨y, hy, rfl⟩ := lab_pure h
  cases hy
  refine .pure hs ?_ (od_sound hs hE hx)
  rcases ho with ho | ho <;> simp [execOp, ho]

theorem sat_pick (hs : Sim G w V s.H s.T) (hE : RelE V a.tmps s.e) {c x y : Operand} {dc dx dy : Od} (ho : o.op = .pick c x y) (hc : odC G c = some dc) (hx : odC G x = some dx) (hy : odC G y = some dy)
    (h : evalOp (.pick dc dx dy) s = some l) : OpSat P G w V s a o l := by
  have rc := od_sound hs hE hc
  simp only [evalOp] at h
  cases hv : dc.ev s.e with
  | bool t =>
    rw [hv] at h rc
    obtain ⟨z, hz, rfl⟩ := lab_pure h
    cases hz
    have e := relBool rc
    cases t
    · refine .pure hs ?_ (od_sound hs hE hy)
      simp [execOp, ho, e, asBool]
    · refine .pure hs ?_ (od_sound hs hE hx)
      simp [execOp, ho, e, asBool]
  | _ => rw [hv] at h; cases h

/-- A value's cells. -/
theorem cells_of {v : Value} {x : Av} {cs : List Av} (hr : RelV V v x) (hc : cellsA x = some cs) :
    v.cells.size = cs.length ∧ ∀ (i : Nat) u y, (v.cells[i]? : Option Value) = some u → cs[i]? = some y → RelV V u y ∧ u.oneCell' = true := by
  cases x with
  | agg as =>
    cases hc
    cases hr with
    | agg vs _ q1 q2 q3 => exact ⟨q1, fun i u y hu hy => ⟨q3 i u y hu hy, q2 i u hu⟩⟩
  | tup => cases hc
  | top => cases hc
  | _ =>
    cases hc
    have h1 : v.cells = #[v] ∧ v.oneCell' = true := by
      cases hr
      all_goals first
        | exact ⟨rfl, rfl⟩
        | (rename_i q; obtain ⟨_, _, _, _, _, _, _, _, rfl, _⟩ := q; exact ⟨rfl, rfl⟩)
        | (rename_i q; obtain ⟨_, _, _, _, _, _, _, _, rfl, _⟩ := q; exact ⟨rfl, rfl⟩)
    rw [h1.1]
    refine ⟨rfl, fun i u y hu hy => ?_⟩
    cases i with
    | zero => simp at hu hy; subst hu; subst hy; exact ⟨hr, h1.2⟩
    | succ i => simp at hu

theorem rows1 {cells : Array Value} {cs : List Av} (h1 : cells.size = cs.length) (h2 : ∀ (i : Nat) u y, (cells[i]? : Option Value) = some u → cs[i]? = some y → RelV V u y ∧ u.oneCell' = true) :
    RowsIn V cells cs.length [cs] := by
  refine ⟨fun r hr => by simp at hr; rw [hr], fun i j r x hr hx => ?_⟩
  cases i with
  | zero =>
    simp at hr; subst hr
    have hj : j < cells.size := by
      rw [h1]
      rcases Nat.lt_or_ge j cs.length with q | q
      · exact q
      · rw [List.getElem?_eq_none q] at hx; cases hx
    have := h2 j cells[j] x (Array.getElem?_eq_getElem hj) hx
    exact ⟨cells[j], by simp [hj], this.2, this.1⟩
  | succ i => simp at hr

/-- A new block that holds rows. -/
theorem sat_push (hs : Sim G w V s.H s.T) {cells : Array Value} {E : TypeId} {sz : Nat} {rs : List (List Av)} (hrows : RowsIn V cells sz rs) :
    let V' := V.push s.H.length w.heap.size sz 0 cells.size
    V.Le V' ∧ Keep w V (w.alloc (.cells cells E)) V' ∧ Sim G (w.alloc (.cells cells E)) V' (s.H ++ [.rows sz rs 0]) s.T ∧ V'.blk s.H.length = some (w.heap.size, sz, 0, cells.size) := by
  intro V'
  have hle : V.Le V' := by
    refine ⟨fun _ _ _ e => e, fun b c z m t e => ⟨c, m, t, ?_, Nat.le_refl _, fun _ => ⟨rfl, rfl⟩⟩, fun i m c hh t e => ⟨m, c, hh, t, e, Nat.le_refl _, fun _ => ⟨rfl, rfl, rfl⟩⟩⟩
    have := hs.domB _ _ e
    simp only [V', View.push]; rw [if_neg (by omega)]; exact e
  have hb : V'.blk s.H.length = some (w.heap.size, sz, 0, cells.size) := by simp [V', View.push]
  obtain ⟨q1, q2, q3⟩ := hs.push (.rows sz rs 0) (.cells cells E) sz 0 cells.size ⟨w.heap.size, cells.size, cells, E, hb, heap_alloc_new w _, rfl, hrows.mono hle, fun x => hs.rd_new (Nat.le_refl _) x⟩
  exact ⟨q1, q2, q3, hb⟩

theorem sat_alloc (hs : Sim G w V s.H s.T) {t : TypeId} {z : List Av} (ho : o.op = .alloc t) (hz : zeroC P t = some z)
    (h : evalOp (.alloc z) s = some l) : OpSat P G w V s a o l := by
  simp only [evalOp] at h
  cases h
  obtain ⟨v, hv, h1, h2⟩ := run_zero (w := w) hz
  have hrun : (execOp a.eval o).run P w = .ok (.value (.pointer (some ⟨w.heap.size, 0, none⟩))) (w.alloc (.cells v.cells t)) := by
    simp [execOp, ho, Instr.alloc, newVar, newRow, hv]
  obtain ⟨q1, q2, q3, q4⟩ := sat_push (s := s) (E := t) hs (rows1 (V := V) h1 (h2 V))
  exact ⟨_, _, _, .inl hrun, q1, q2, q3, .ptr _ _ _ _ _ ⟨_, _, _, _, q4, Nat.le_refl _, _, _, rfl, fun _ => ⟨rfl, by simp⟩⟩⟩

theorem sat_box (hs : Sim G w V s.H s.T) (hE : RelE V a.tmps s.e) {t : TypeId} {n : Nat} {x : Operand} {dx : Od} (ho : o.op = .box t x) (hx : odC G x = some dx)
    (h : evalOp (.box n dx) s = some l) : OpSat P G w V s a o l := by
  simp only [evalOp] at h
  split at h
  · rename_i cs hcs
    split at h
    · rename_i hn
      cases h
      obtain ⟨h1, h2⟩ := cells_of (od_sound hs hE hx) hcs
      have hrun : (execOp a.eval o).run P w = .ok (.value (.pointer (some ⟨w.heap.size, 0, none⟩))) (w.alloc (.cells (a.eval x).cells t)) := by
        simp [execOp, ho, Instr.box, newVar, newRow]
      obtain ⟨q1, q2, q3, q4⟩ := sat_push (s := s) (E := t) hs (rows1 (V := V) h1 h2)
      subst hn
      exact ⟨_, _, _, .inl hrun, q1, q2, q3, .ptr _ _ _ _ _ ⟨_, _, _, _, q4, Nat.le_refl _, _, _, rfl, fun _ => ⟨rfl, by simp⟩⟩⟩
    · cases h
  · cases h

theorem sat_nck (hs : Sim G w V s.H s.T) (hE : RelE V a.tmps s.e) {x : Operand} {dx : Od} (ho : o.op = .nilCheck x) (hx : odC G x = some dx)
    (h : evalOp (.nck dx) s = some l) : OpSat P G w V s a o l := by
  have rx := od_sound hs hE hx
  simp only [evalOp] at h
  split at h
  · rename_i b ver row off hv
    rw [hv] at rx
    obtain ⟨y, hy, rfl⟩ := lab_pure h
    cases hy
    refine .pure hs (cv := a.eval x) ?_ rx
    generalize hq : a.eval x = u at rx
    cases rx with
    | ptr v b ver row off q =>
      obtain ⟨c, sz, now, t, e, hl, p1, p2, hp, _⟩ := q
      simp [execOp, ho, hq, hp]
  · rename_i r off hv
    rw [hv] at rx
    obtain ⟨y, hy, rfl⟩ := lab_pure h
    cases hy
    refine .pure hs (cv := a.eval x) ?_ rx
    generalize hq : a.eval x = u at rx
    cases rx with
    | cptr => simp [execOp, ho, hq]
  · cases h

theorem sat_fad (hs : Sim G w V s.H s.T) (hE : RelE V a.tmps s.e) {t : TypeId} {x : Operand} {f : Nat} {fs : Array Field} {fl : Field} {n : Nat} {dx : Od} (ho : o.op = .fieldAddr t x f)
    (hu : P.underlying t = some (.struct fs)) (hf : fs[f]? = some fl) (hn : szT P fl.type = some n) (hn0 : n ≠ 0) (hx : odC G x = some dx)
    (h : evalOp (.fad fl.offset dx) s = some l) : OpSat P G w V s a o l := by
  have rx := od_sound hs hE hx
  simp only [evalOp] at h
  have hrun : ∀ c k, a.eval x = .pointer (some ⟨c, k, none⟩) → (execOp a.eval o).run P w = .ok (.value (.pointer (some ⟨c, k + fl.offset, none⟩))) w := by
    intro c k e
    simp [execOp, ho, e, Instr.fieldAt, run_underlying hu, hf, Instr.sureAddr, fieldPlace, run_sizeOf (w := w) hn, hn0, addr_add]
  split at h
  · rename_i b ver row off hv
    rw [hv] at rx
    obtain ⟨y, hy, rfl⟩ := lab_pure h
    cases hy
    generalize hq : a.eval x = u at rx
    cases rx with
    | ptr v b ver row off q =>
      obtain ⟨c, sz, now, t, e, hl, p1, p2, hp, q⟩ := q
      refine .pure hs (hrun p1 p2 (hq.trans hp)) (.ptr _ _ _ _ _ ⟨c, sz, now, t, e, hl, _, _, rfl, fun hh => ?_⟩)
      obtain ⟨rfl, rfl⟩ := q hh
      exact ⟨rfl, by omega⟩
  · rename_i r off hv
    rw [hv] at rx
    obtain ⟨y, hy, rfl⟩ := lab_pure h
    cases hy
    generalize hq : a.eval x = u at rx
    cases rx with
    | cptr c k cs off f h0 h1 h2 =>
      refine .pure hs (hrun _ _ hq) (.cptr _ _ _ _ f (by omega) ?_ h2)
      intro j x hj
      have : k + fl.offset - (off + fl.offset) + j = k - off + j := by omega
      rw [this]; exact h1 j x hj
  · cases h

theorem sat_un (hs : Sim G w V s.H s.T) (hE : RelE V a.tmps s.e) {op : UnOp} {t : TypeId} {x : Operand} {dx : Od} (ho : o.op = .unOp op t x) (hx : odC G x = some dx)
    (h : evalOp (.un op dx) s = some l) : OpSat P G w V s a o l := by
  have rx := od_sound hs hE hx
  simp only [evalOp] at h
  obtain ⟨y, hy, rfl⟩ := lab_pure h
  unfold unA at hy
  split at hy
  · rename_i b hv
    cases hy
    rw [hv] at rx
    refine .pure hs (cv := .bool !b) ?_ (.bool _)
    simp [execOp, ho, relBool rx, Op.unary]
  · rename_i k n hv
    cases hy
    rw [hv] at rx
    refine .pure hs (cv := .int k (k.wrap (0 - n))) ?_ (.int _ _ (wrap_has _ _))
    simp [execOp, ho, (relInt rx).1, Op.unary, Op.intArith]
  · rename_i k n hv
    rw [hv] at rx
    simp only [binInt, Option.some.injEq] at hy
    subst hy
    refine .pure hs ?_ (.int _ _ (wrap_has _ _))
    simp [execOp, ho, (relInt rx).1, Op.unary, Op.intBits]
  · cases hy

theorem sat_cvt (hs : Sim G w V s.H s.T) (hE : RelE V a.tmps s.e) {k k' : IntKind} {t u : TypeId} {x : Operand} {dx : Od} (ho : o.op = .convert t u x) (ht : P.underlying t = some (.int k')) (hu : P.underlying u = some (.int k)) (hx : odC G x = some dx)
    (h : evalOp (.cvt k dx) s = some l) : OpSat P G w V s a o l := by
  have rx := od_sound hs hE hx
  simp only [evalOp] at h
  split at h
  · rename_i kk n hv
    rw [hv] at rx
    obtain ⟨y, hy, rfl⟩ := lab_pure h
    cases hy
    refine .pure hs (cv := .int k (k.wrap n)) ?_ (.int _ _ (wrap_has _ _))
    simp [execOp, ho, (relInt rx).1, convert, run_underlying ht, run_underlying hu, Conv.intToInt]
  · cases h

theorem sat_cvs (hs : Sim G w V s.H s.T) (hE : RelE V a.tmps s.e) {t u : TypeId} {x : Operand} {dx : Od} (ho : o.op = .convert t u x) (ht : P.underlying t = some .string) (hu : P.underlying u = some .string) (hx : odC G x = some dx)
    (hstr : ∃ l, dx.ev s.e = .str l) (h : evalOp (.mov dx) s = some l) : OpSat P G w V s a o l := by
  have rx := od_sound hs hE hx
  simp only [evalOp] at h
  obtain ⟨y, hy, rfl⟩ := lab_pure h
  cases hy
  obtain ⟨b, hb⟩ := hstr
  refine .pure hs (cv := a.eval x) ?_ rx
  rw [hb] at rx
  obtain ⟨z, hz, _⟩ := relStr rx
  simp [execOp, ho, hz, convert, run_underlying ht, run_underlying hu]

theorem sat_fnc (hs : Sim G w V s.H s.T) (hE : RelE V a.tmps s.e) {f : FuncId} {first caps : Array Operand} {ds : List Od} (ho : o.op = .makeFunc (.func f) first caps) (h0 : first.size = 0) (hx : odsC G caps = some ds)
    (h : evalOp (.fnc f ds) s = some l) : OpSat P G w V s a o l := by
  simp only [evalOp] at h
  obtain ⟨y, hy, rfl⟩ := lab_pure h
  cases hy
  obtain ⟨q1, q2⟩ := ods_sound hs hE hx
  have hf : first = #[] := by simpa using h0
  refine .pure hs (cv := .func (.func f) #[] (caps.map a.eval)) ?_ (.fn _ _ _ (by simpa using q1) q2)
  simp [execOp, ho, Instr.makeFunc, hf]

theorem sat_ext (hs : Sim G w V s.H s.T) (hE : RelE V a.tmps s.e) {x : Operand} {i : Nat} {dx : Od} (ho : o.op = .extract x i) (hx : odC G x = some dx)
    (h : evalOp (.ext dx i) s = some l) : OpSat P G w V s a o l := by
  have rx := od_sound hs hE hx
  simp only [evalOp] at h
  split at h
  · rename_i vs hv
    rw [hv] at rx
    obtain ⟨y, hy, rfl⟩ := lab_pure h
    generalize hq : a.eval x = u at rx
    cases rx with
    | tup us _ q1 q2 =>
      have hi : i < us.size := by
        rw [q1]
        rcases Nat.lt_or_ge i vs.length with z | z
        · exact z
        · rw [List.getElem?_eq_none z] at hy; cases hy
      refine .pure hs (cv := us[i]) ?_ (q2 i _ _ (Array.getElem?_eq_getElem hi) hy)
      simp [execOp, ho, hq, Instr.extract, hi]
  · cases h

end
end Go.Am

namespace Go.Am
open Go

section
variable {P : Program} {G : Glo} {B : Nat → Bool} {w : World} {V : View} {s : St} {a : Act} {o : Oper} {l : Lab}

theorem window_spec {row : List Av} {off n : Nat} {cs : List Av} (h : window row off n = some cs) : off + n ≤ row.length ∧ cs.length = n ∧ ∀ (j : Nat) x, cs[j]? = some x → row[off + j]? = some x := by
  unfold window at h
  split at h
  · rename_i q
    cases h
    refine ⟨q, by simp; omega, fun j x hx => ?_⟩
    rw [List.getElem?_take] at hx
    split at hx
    · rwa [List.getElem?_drop] at hx
    · cases hx
  · cases h

theorem ofCells_len {n : Option Nat} {cs : List Av} {x : Av} (h : ofCells n cs = some x) (hn : ∀ k, n = some k → cs.length = k) : cs.length = width n := by
  cases n with
  | some k => exact hn k rfl
  | none =>
    simp only [ofCells] at h
    split at h
    · rfl
    · cases h

theorem rowsOf_ok (hs : Sim G w V s.H s.T) {b ver sz : Nat} {rs : List (List Av)} (h : rowsOf s.H b ver = some (sz, rs)) :
    ∃ (c k : Nat) (cells : Array Value) (E : TypeId), V.blk b = some (c, sz, ver, k) ∧ w.heap[c]? = some (.cells cells E (0, 0)) ∧ cells.size = k ∧ RowsIn V cells sz rs := by
  unfold rowsOf at h
  split at h
  · rename_i sz' rs' v hb
    split at h <;> cases h
    rename_i hv
    subst hv
    obtain ⟨c, k, cells, E, h1, h2, h3, h4, _⟩ := hs.blk b _ hb
    exact ⟨c, k, cells, E, h1, h2, h3, h4⟩
  · rename_i sz' rs' v hb
    split at h <;> cases h
    rename_i hv
    subst hv
    obtain ⟨c, k, cells, E, h1, h2, h3, h4, _⟩ := hs.blk b _ hb
    exact ⟨c, k, cells, E, h1, h2, h3, h4⟩
  · cases h

/-- Cells of a row of a block. -/
theorem cellsAt_row {c sz : Nat} {cells : Array Value} {E : TypeId} {rs : List (List Av)} {fz : Nat × Nat} (hw : w.heap[c]? = some (.cells cells E fz)) (hr : RowsIn V cells sz rs) {row off n : Nat} {r cs : List Av}
    (h : rs[row]? = some r) (hc : window r off n = some cs) : CellsAt w V c (row * sz + off) cs := by
  obtain ⟨_, _, q⟩ := window_spec hc
  intro j x hx
  obtain ⟨v, h1, h2, h3⟩ := hr.2 row (off + j) r x h (q j x hx)
  refine ⟨v, ?_, h2, h3⟩
  rw [cell_of_row w c _ cells E fz hw, Nat.add_assoc]
  exact h1

/-- What is loaded. -/
theorem ld_core (hs : Sim G w V s.H s.T) (hE : RelE V a.tmps s.e) {t : TypeId} {n : Option Nat} {x : Operand} {dx : Od} (hn : aggW P t = some n) (hx : odC G x = some dx)
    (h : evalOp (.ld n dx) s = some l) : ∃ c k v y, a.eval x = .pointer (some ⟨c, k, none⟩) ∧ (loadVar t ⟨c, k, none⟩).run P w = .ok v w ∧ l = { v := y } ∧ RelV V v y := by
  have rx := od_sound hs hE hx
  simp only [evalOp] at h
  have key : ∀ c k cs y, a.eval x = .pointer (some ⟨c, k, none⟩) → CellsAt w V c k cs → cs.length = width n → ofCells n cs = some y → l = { v := y } → ∃ c k v y, a.eval x = .pointer (some ⟨c, k, none⟩) ∧ (loadVar t ⟨c, k, none⟩).run P w = .ok v w ∧ l = { v := y } ∧ RelV V v y := by
    intro c k cs y e hc hl hy hly
    subst hly
    obtain ⟨v, hv, hr⟩ := run_loadVar hn hc hl hy
    exact ⟨c, k, v, y, e, hv, rfl, hr⟩
  split at h
  · rename_i b ver row off hv
    rw [hv] at rx
    split at h
    · rename_i sz rs hrows
      split at h
      · rename_i r hr
        obtain ⟨y, hy, rfl⟩ := lab_pure h
        rw [Option.bind_eq_some_iff] at hy
        obtain ⟨cs, hcs, hy⟩ := hy
        obtain ⟨c, k, cells, E, q1, q2, q3, q4⟩ := rowsOf_ok hs hrows
        generalize hq : a.eval x = u at rx
        cases rx with
        | ptr v b ver row off p =>
          obtain ⟨c', sz', now, t', e, hl, p1, p2, hp, p⟩ := p
          rw [q1] at e
          cases e
          obtain ⟨rfl, rfl⟩ := p rfl
          rw [← hq] at *; exact key _ _ cs y hp (cellsAt_row q2 q4 hr hcs) (window_spec hcs).2.1 hy rfl
      · cases h
    · cases h
  · rename_i r off hv
    rw [hv] at rx
    obtain ⟨y, hy, rfl⟩ := lab_pure h
    rw [Option.bind_eq_some_iff] at hy
    obtain ⟨cs, hcs, hy⟩ := hy
    generalize hq : a.eval x = u at rx
    cases rx with
    | cptr c k r off f h0 h1 h2 =>
      rw [← hq]; refine key _ _ cs y hq ?_ (window_spec hcs).2.1 hy rfl
      intro j z hz
      have hz' := (window_spec hcs).2.2 j z hz
      obtain ⟨e1, e2⟩ := h1 _ _ hz'
      refine ⟨f (off + j), ?_, e2, (h2 _ _ hz').mono V.pu_le⟩
      have : k - off + (off + j) = k + j := by omega
      rw [this] at e1
      exact seen_cell (hs.rd _ _ _ e1) e2
  · cases h

theorem sat_ld (hs : Sim G w V s.H s.T) (hE : RelE V a.tmps s.e) {t : TypeId} {n : Option Nat} {x : Operand} {dx : Od} (ho : o.op = .load t x) (hn : aggW P t = some n) (hx : odC G x = some dx)
    (h : evalOp (.ld n dx) s = some l) : OpSat P G w V s a o l := by
  obtain ⟨c, k, v, y, e, hv, rfl, hr⟩ := ld_core hs hE hn hx h
  refine .pure hs ?_ hr
  simp [execOp, ho, e, Instr.loadAt, Instr.sureAddr, hv]

theorem splice_get {r cs : List Av} {off : Nat} (h : off + cs.length ≤ r.length) : (splice r off cs).length = r.length ∧ ∀ j : Nat, (splice r off cs)[j]? = if off ≤ j ∧ j < off + cs.length then cs[j - off]? else r[j]? := by
  unfold splice
  refine ⟨by simp; omega, fun j => ?_⟩
  rw [List.getElem?_append, List.getElem?_append, List.getElem?_take]
  simp only [List.length_append, List.length_take]
  rw [Nat.min_eq_left (by omega : off ≤ r.length)]
  by_cases h1 : j < off
  · rw [if_pos (by omega), if_pos h1, if_pos h1, if_neg (by omega)]
  · by_cases h2 : j < off + cs.length
    · rw [if_pos (by omega), if_neg h1, if_pos (by omega)]
    · rw [if_neg (by omega), if_neg (by omega), List.getElem?_drop]
      congr 1
      omega

/-- Concrete cells after a store. -/
theorem store_cells {cells : Array Value} {vs : List Value} {k : Nat} (h : k + vs.length ≤ cells.size) :
    (cells.toList.take k ++ vs ++ cells.toList.drop (k + vs.length)).toArray.size = cells.size ∧
    ∀ j : Nat, ((cells.toList.take k ++ vs ++ cells.toList.drop (k + vs.length)).toArray[j]? : Option Value) = if k ≤ j ∧ j < k + vs.length then vs[j - k]? else cells[j]? := by
  refine ⟨by simp; omega, fun j => ?_⟩
  simp only [List.getElem?_toArray]
  rw [List.getElem?_append, List.getElem?_append, List.getElem?_take]
  simp only [List.length_append, List.length_take, Array.length_toList]
  rw [Nat.min_eq_left (by omega : k ≤ cells.size)]
  by_cases h1 : j < k
  · rw [if_pos (by omega), if_pos h1, if_pos h1, if_neg (by omega), Array.getElem?_toList]
  · by_cases h2 : j < k + vs.length
    · rw [if_pos (by omega), if_neg h1, if_pos (by omega)]
    · rw [if_neg (by omega), if_neg (by omega), List.getElem?_drop, Array.getElem?_toList]
      congr 1
      omega

theorem rows_set {cells cells' : Array Value} {sz row off : Nat} {rs : List (List Av)} {r cs : List Av} {vs : List Value} (hr : RowsIn V cells sz rs) (hrow : rs[row]? = some r) (hoff : off + cs.length ≤ r.length)
    (hv : vs.length = cs.length) (hrel : ∀ (i : Nat) u y, vs[i]? = some u → cs[i]? = some y → RelV V u y ∧ u.oneCell' = true)
    (hc : ∀ j : Nat, (cells'[j]? : Option Value) = if row * sz + off ≤ j ∧ j < row * sz + off + vs.length then vs[j - (row * sz + off)]? else cells[j]?) :
    RowsIn V cells' sz (rs.set row (splice r off cs)) := by
  have hlen : r.length = sz := hr.1 r (List.mem_of_getElem? hrow)
  obtain ⟨s1, s2⟩ := splice_get hoff
  have hrl : row < rs.length := (List.getElem?_eq_some_iff.1 hrow).1
  refine ⟨fun r' hr' => ?_, fun i j r' x hr' hx => ?_⟩
  · rcases List.mem_or_eq_of_mem_set hr' with q | q
    · exact hr.1 _ q
    · rw [q, s1, hlen]
  · rw [List.getElem?_set] at hr'
    by_cases hi : row = i
    · subst hi
      rw [if_pos rfl, if_pos hrl] at hr'
      cases hr'
      rw [s2] at hx
      by_cases hj : off ≤ j ∧ j < off + cs.length
      · rw [if_pos hj] at hx
        have hlt : j - off < vs.length := by omega
        obtain ⟨e1, e2⟩ := hrel (j - off) _ x (List.getElem?_eq_getElem hlt) hx
        refine ⟨vs[j - off], ?_, e2, e1⟩
        rw [hc, if_pos (by omega)]
        have : row * sz + j - (row * sz + off) = j - off := by omega
        rw [this]
        exact List.getElem?_eq_getElem hlt
      · rw [if_neg hj] at hx
        obtain ⟨v, e1, e2, e3⟩ := hr.2 row j r x hrow hx
        exact ⟨v, by rw [hc, if_neg (by omega)]; exact e1, e2, e3⟩
    · rw [if_neg hi] at hr'
      obtain ⟨v, e1, e2, e3⟩ := hr.2 i j r' x hr' hx
      refine ⟨v, ?_, e2, e3⟩
      rw [hc, if_neg]
      · exact e1
      · have hjl : j < sz := by
          rw [← hr.1 r' (List.mem_of_getElem? hr')]
          exact (List.getElem?_eq_some_iff.1 hx).1
        rintro ⟨q1, q2⟩
        rcases Nat.lt_or_gt_of_ne hi with z | z
        · have : (row + 1) * sz ≤ i * sz := Nat.mul_le_mul_right _ z
          rw [Nat.add_mul] at this
          omega
        · have : (i + 1) * sz ≤ row * sz := Nat.mul_le_mul_right _ z
          rw [Nat.add_mul] at this
          omega

/-- A block whose content is written, at its place and version. -/
theorem sim_setRow (hs : Sim G w V s.H s.T) {b c sz ver k : Nat} {cells cells' : Array Value} {E : TypeId} {o' : AO} (hb : V.blk b = some (c, sz, ver, k)) (hw : w.heap[c]? = some (.cells cells E (0, 0)))
    (hrd : ∀ x, V.rd c x = none) (hok : ∀ V' : View, V.Le V' → V'.blk b = some (c, sz, ver, k) → (∀ x, V'.rd c x = none) → (w.setRow c cells').heap[c]? = some (.cells cells' E (0, 0)) → BlkOk G (w.setRow c cells') V' b o') :
    ∃ V', V.Le V' ∧ Keep w V (w.setRow c cells') V' ∧ Sim G (w.setRow c cells') V' (s.H.set b o') s.T ∧ V'.rd = V.rd := by
  have hheap := setRow_heap w c cells cells' E (0, 0) hw
  have hlt := heap_lt hw
  have hVle : V.Le (V.setBlk b c sz ver k) := by
    refine ⟨fun _ _ _ e => e, fun i c' z m t e => ?_, fun i m c hh t e => ⟨m, c, hh, t, e, Nat.le_refl _, fun _ => ⟨rfl, rfl, rfl⟩⟩⟩
    by_cases hi : i = b
    · subst hi; rw [hb] at e; cases e; exact ⟨_, _, _, by simp [View.setBlk], Nat.le_refl _, fun _ => ⟨rfl, rfl⟩⟩
    · exact ⟨c', m, t, by simp only [View.setBlk]; rw [if_neg hi]; exact e, Nat.le_refl _, fun _ => ⟨rfl, rfl⟩⟩
  obtain ⟨q1, q2, q3⟩ := hs.turn (w' := w.setRow c cells') (o' := o') hb (Nat.le_refl _) (fun _ => ⟨rfl, rfl⟩) (.inl rfl) (by rw [setRow_size]; exact hlt) (by rw [setRow_size]; exact Nat.le_refl _)
    (fun j _ hj => setRow_other w c j cells' hj) hrd rfl rfl rfl (hok _ hVle (by simp [View.setBlk]) hrd hheap)
  exact ⟨_, q1, q2, q3, rfl⟩

theorem sat_st (hs : Sim G w V s.H s.T) (hE : RelE V a.tmps s.e) {t : TypeId} {n : Nat} {x y : Operand} {dx dy : Od} (ho : o.op = .store t x y) (hn : szT P t = some n) (hx : odC G x = some dx) (hy : odC G y = some dy)
    (h : evalOp (.st n dx dy) s = some l) : OpSat P G w V s a o l := by
  have rx := od_sound hs hE hx
  have ry := od_sound hs hE hy
  simp only [evalOp] at h
  split at h
  · rename_i b ver row off cs hv hcs
    split at h
    · rename_i sz rs v hb
      split at h
      · rename_i r hr
        split at h
        · rename_i hcond
          obtain ⟨rfl, hcn, hfit⟩ := hcond
          cases h
          rw [hv] at rx
          obtain ⟨c, k, cells, E, q1, q2, q3, q4, q5⟩ := hs.blk b _ hb
          obtain ⟨m1, m2⟩ := cells_of ry hcs
          generalize hq : a.eval x = u at rx
          cases rx with
          | ptr u b ver row off p =>
            obtain ⟨c', sz', now, t', e, hl, p1, p2, hp, p⟩ := p
            rw [q1] at e
            cases e
            obtain ⟨rfl, rfl⟩ := p rfl
            have hlen : r.length = sz := q4.1 r (List.mem_of_getElem? hr)
            have hvl : (a.eval y).cells.toList.length = cs.length := by simpa using m1
            have hfitc : row * sz + off + (a.eval y).cells.toList.length ≤ cells.size := by
              rw [hvl, hcn]
              rcases Nat.eq_zero_or_pos n with z | z
              · subst z
                rcases Nat.lt_or_ge (row * sz + off) (cells.size + 1) with g | g
                · omega
                · exfalso
                  rcases Nat.eq_zero_or_pos sz with zz | zz
                  · subst zz; simp at g hfit; omega
                  · obtain ⟨u, g1, _⟩ := q4.2 row (sz - 1) r r[sz - 1] hr (List.getElem?_eq_getElem (by omega))
                    have := (Array.getElem?_eq_some_iff.1 g1).1
                    omega
              · have hlt : off + n - 1 < r.length := by omega
                obtain ⟨u, g1, _⟩ := q4.2 row (off + n - 1) r r[off + n - 1] hr (List.getElem?_eq_getElem hlt)
                have := (Array.getElem?_eq_some_iff.1 g1).1
                omega
            have hone : ∀ z ∈ (a.eval y).cells.toList, z.oneCell' = true := by
              intro z hz
              obtain ⟨i, hi⟩ := List.getElem?_of_mem hz
              have hi' : i < cs.length := by rw [← hvl]; exact (List.getElem?_eq_some_iff.1 hi).1
              exact (m2 i z cs[i] (by simpa using hi) (List.getElem?_eq_getElem hi')).2
            have hst := run_storeCells_at (P := P) p1 (row * sz + off) E (a.eval y).cells.toList 0 cells w q2 (by simpa using hfitc) hone
            obtain ⟨z1, z2⟩ := store_cells hfitc
            have hrun : (execOp a.eval o).run P w = .ok .skip (w.setRow p1 (cells.toList.take (row * sz + off) ++ (a.eval y).cells.toList ++ cells.toList.drop (row * sz + off + (a.eval y).cells.toList.length)).toArray) := by
              have hsz : (a.eval y).cells.size = n := by rw [m1, hcn]
              simp only [Nat.add_zero] at hst
              simp [execOp, ho, hq, hp, Instr.storeAt, Instr.sureAddr, storeVar, run_sizeOf (w := w) hn, hsz, hst]
            obtain ⟨V', k1, k2, k3, _⟩ := sim_setRow (s := s) hs (cells' := (cells.toList.take (row * sz + off) ++ (a.eval y).cells.toList ++ cells.toList.drop (row * sz + off + (a.eval y).cells.toList.length)).toArray)
              (o' := .rows sz (rs.set row (splice r off cs)) v) q1 q2 q5 (fun V' hle hb' hrd' hh => ⟨p1, _, _, E, hb', hh, by rw [z1, q3], RowsIn.mono hle (rows_set q4 hr (by omega) hvl (fun i u y hu hy => m2 i u y (by simpa using hu) hy) z2), hrd'⟩)
            exact ⟨undef, _, V', .inr ⟨hrun, rfl⟩, k1, k2, k3, .top _⟩
        · cases h
      · cases h
    · cases h
  · cases h

end
end Go.Am

namespace Go.Am
open Go

section
variable {P : Program} {G : Glo} {B : Nat → Bool} {w : World} {V : View} {s : St} {a : Act} {o : Oper} {l : Lab}

theorem fold_cells (off : Nat) : ∀ (vs : List Value) (k : Nat) (cells : Array Value), off + k + vs.length ≤ cells.size →
    ((vs.zipIdx k).foldl (fun (cs : Array Value) (p : Value × Nat) => cs.setIfInBounds (off + p.2) p.1) cells).size = cells.size ∧
    ∀ j : Nat, (((vs.zipIdx k).foldl (fun (cs : Array Value) (p : Value × Nat) => cs.setIfInBounds (off + p.2) p.1) cells)[j]? : Option Value) = if off + k ≤ j ∧ j < off + k + vs.length then vs[j - (off + k)]? else cells[j]?
  | [], k, cells, _ => by
    refine ⟨rfl, fun j => ?_⟩
    simp only [List.zipIdx_nil, List.foldl_nil, List.length_nil]
    rw [if_neg (by omega)]
  | v :: vs, k, cells, h => by
    simp only [List.length_cons] at h
    obtain ⟨q1, q2⟩ := fold_cells off vs (k + 1) (cells.setIfInBounds (off + k) v) (by rw [Array.size_setIfInBounds]; omega)
    simp only [List.zipIdx_cons, List.foldl_cons]
    refine ⟨by rw [q1, Array.size_setIfInBounds], fun j => ?_⟩
    rw [q2]
    simp only [List.length_cons]
    by_cases h1 : off + (k + 1) ≤ j ∧ j < off + (k + 1) + vs.length
    · rw [if_pos h1, if_pos (by omega)]
      have : j - (off + k) = (j - (off + (k + 1))) + 1 := by omega
      rw [this, List.getElem?_cons_succ]
    · rw [if_neg h1, Array.getElem?_setIfInBounds]
      by_cases h2 : off + k = j
      · rw [if_pos h2, if_pos (by omega), if_pos (by omega)]
        have : j - (off + k) = 0 := by omega
        rw [this, List.getElem?_cons_zero]
      · rw [if_neg h2, if_neg (by omega)]

theorem fill_eq (off n : Nat) (v : Value) (cells : Array Value) (h1 : v.cells.size = n) (h2 : off + n ≤ cells.size) :
    let cs := v.cells.zipIdx.foldl (fun (cs : Array Value) (p : Value × Nat) => cs.setIfInBounds (off + p.2) p.1) cells
    cs.size = cells.size ∧ ∀ j : Nat, (cs[j]? : Option Value) = if off ≤ j ∧ j < off + n then v.cells[j - off]? else cells[j]? := by
  intro cs
  have e : cs = (v.cells.toList.zipIdx 0).foldl (fun (cs : Array Value) (p : Value × Nat) => cs.setIfInBounds (off + p.2) p.1) cells := by
    simp only [cs]
    rw [← Array.foldl_toList]
    simp
  have hl : v.cells.toList.length = n := by simpa using h1
  obtain ⟨q1, q2⟩ := fold_cells off v.cells.toList 0 cells (by omega)
  rw [e]
  refine ⟨q1, fun j => ?_⟩
  rw [q2, hl]
  simp

/-- Concrete cells stand for abstract ones. -/
def CellsRel (V : View) (cells : Array Value) (z : List Av) : Prop :=
  cells.size = z.length ∧ ∀ (i : Nat) c x, (cells[i]? : Option Value) = some c → z[i]? = some x → RelV V c x ∧ c.oneCell' = true

theorem fill_sound (hs : Sim G w V s.H s.T) (hE : RelE V a.tmps s.e) (place : Nat → Option (Nat × Nat)) : ∀ (ps : List (Nat × Operand)) (qs : List (Nat × Nat × Od)) (cells : Array Value) (z z' : List Av),
    ps.length = qs.length → (∀ (i : Nat) p q, ps[i]? = some p → qs[i]? = some q → place p.1 = some (q.1, q.2.1) ∧ odC G p.2 = some q.2.2) → CellsRel V cells z → fillA s.e z qs = some z' →
    ∃ cells', Instr.fill place cells (ps.map fun p => (p.1, a.eval p.2)) = some cells' ∧ CellsRel V cells' z'
  | [], [], cells, z, z', _, _, hc, h => by
    simp only [fillA, Option.some.injEq] at h
    subst h
    exact ⟨cells, rfl, hc⟩
  | p :: ps, q :: qs, cells, z, z', hlen, hpl, hc, h => by
    obtain ⟨off, n, od⟩ := q
    obtain ⟨h1, h2⟩ := hpl 0 p (off, n, od) rfl rfl
    simp only [fillA] at h
    split at h
    · rename_i cs hcs
      split at h
      · rename_i hcond
        obtain ⟨hn, hfit⟩ := hcond
        obtain ⟨m1, m2⟩ := cells_of (od_sound hs hE h2) hcs
        have hsz : (a.eval p.2).cells.size = n := by omega
        have hfit' : off + n ≤ cells.size := by rw [hc.1]; exact hfit
        obtain ⟨f1, f2⟩ := fill_eq off n (a.eval p.2) cells hsz hfit'
        obtain ⟨s1, s2⟩ := splice_get (r := z) (cs := cs) (off := off) (by omega)
        have hc' : CellsRel V ((a.eval p.2).cells.zipIdx.foldl (fun (cs : Array Value) (p : Value × Nat) => cs.setIfInBounds (off + p.2) p.1) cells) (splice z off cs) := by
          refine ⟨by rw [f1, s1, hc.1], fun i c x hi hx => ?_⟩
          rw [f2] at hi
          rw [s2, hn] at hx
          by_cases hj : off ≤ i ∧ i < off + n
          · rw [if_pos hj] at hi hx
            exact m2 _ _ _ hi hx
          · rw [if_neg hj] at hi hx
            exact hc.2 _ _ _ hi hx
        obtain ⟨cells', e1, e2⟩ := fill_sound hs hE place ps qs _ _ z' (by simpa using hlen) (fun i p' q' hp hq => hpl (i + 1) p' q' (by simpa using hp) (by simpa using hq)) hc' h
        refine ⟨cells', ?_, e2⟩
        simp only [List.map_cons, Instr.fill, h1]
        rw [if_neg]
        · exact e1
        · simp only [hsz, bne_iff_ne, ne_eq, not_true_eq_false, decide_eq_true_eq, Bool.or_eq_true, false_or]
          simp
          omega
      · cases h
    · cases h
  | [], _ :: _, _, _, _, hlen, _, _, _ => by simp at hlen
  | _ :: _, [], _, _, _, hlen, _, _, _ => by simp at hlen

theorem zero_rel {t : TypeId} {z : List Av} (h : zeroC P t = some z) : ∃ i v, P.info? t = some i ∧ i.zero = some v ∧ ∀ V : View, CellsRel V v.cells z := by
  simp only [zeroC, Option.bind_eq_bind, Option.bind_eq_some_iff] at h
  obtain ⟨i, hi, v, hv, h⟩ := h
  exact ⟨i, v, hi, hv, fun V => ⟨(cells_rel V h).1, (cells_rel V h).2⟩⟩

theorem agg_of {cells : Array Value} {z : List Av} (h : CellsRel V cells z) : RelV V (.agg cells) (.agg z) := by
  refine .agg _ _ h.1 (fun i v hv => ?_) (fun i v x hv hx => (h.2 i v x hv hx).1)
  have hi : i < z.length := by rw [← h.1]; exact (Array.getElem?_eq_some_iff.1 hv).1
  exact (h.2 i v z[i] hv (List.getElem?_eq_getElem hi)).2

theorem sat_build (hs : Sim G w V s.H s.T) (hE : RelE V a.tmps s.e) {t : TypeId} {ps : Array (Nat × Operand)} {z : List Av} {qs : List (Nat × Nat × Od)} (ho : o.op = .build t ps) (hz : zeroC P t = some z)
    (place : Nat → Option (Nat × Nat)) (hbuilt : ∀ v i parts, P.info? t = some i → i.zero = some v → P.built t parts = Instr.fill place v.cells parts)
    (hlen : ps.size = qs.length) (hpl : ∀ (i : Nat) p q, (ps[i]? : Option (Nat × Operand)) = some p → qs[i]? = some q → place p.1 = some (q.1, q.2.1) ∧ odC G p.2 = some q.2.2)
    (h : evalOp (.build z qs) s = some l) : OpSat P G w V s a o l := by
  simp only [evalOp] at h
  obtain ⟨y, hy, rfl⟩ := lab_pure h
  simp only [Option.map_eq_some_iff] at hy
  obtain ⟨z', hz', rfl⟩ := hy
  obtain ⟨i, v, hi, hv, hrel⟩ := zero_rel hz
  obtain ⟨cells', e1, e2⟩ := fill_sound hs hE place ps.toList qs v.cells z z' (by simpa using hlen) (fun i p q hp hq => hpl i p q (by simpa using hp) hq) (hrel V) hz'
  refine .pure hs (cv := .agg cells') ?_ (agg_of e2)
  have hb := run_build (P := P) w t (ps.map fun p => (p.1, a.eval p.2)) cells' (by rw [hbuilt v i _ hi hv]; simpa using e1)
  simp only [execOp, ho, Sem.run_bind, hb, Result.andThen_ok, Sem.run_pure]

theorem sat_buildStruct (hs : Sim G w V s.H s.T) (hE : RelE V a.tmps s.e) {t : TypeId} {fs : Array Field} {ps : Array (Nat × Operand)} {z : List Av} {qs : List (Nat × Nat × Od)} {zs : List Nat} (ho : o.op = .build t ps) (hz : zeroC P t = some z)
    (hu : P.underlying t = some (.struct fs)) (hq : ps.toList.mapM (fun (i, x) => do let f ← fs[i]?; pure (f.offset, ← szT P f.type, ← odC G x)) = some qs) (hfs : fs.toList.mapM (fun f => szT P f.type) = some zs)
    (h : evalOp (.build z qs) s = some l) : OpSat P G w V s a o l := by
  obtain ⟨q1, q2⟩ := mapM_some _ _ _ hq
  obtain ⟨f1, f2⟩ := mapM_some _ _ _ hfs
  have hplaces : ∃ places, fs.toList.mapM (fun f => (P.info? f.type).map fun i => (f.offset, i.size)) = some places ∧ places.length = fs.size ∧ ∀ (i : Nat) f n, fs[i]? = some f → szT P f.type = some n → places[i]? = some (f.offset, n) := by
    have gen : ∀ (l : List Field), (∀ f ∈ l, ∃ n, szT P f.type = some n) → ∃ places, l.mapM (fun f => (P.info? f.type).map fun i => (f.offset, i.size)) = some places ∧ places.length = l.length ∧ ∀ (i : Nat) f n, l[i]? = some f → szT P f.type = some n → places[i]? = some (f.offset, n) := by
      intro l
      induction l with
      | nil => intro _; exact ⟨[], rfl, rfl, fun i f n hi => by simp at hi⟩
      | cons f l ih =>
        intro hl
        obtain ⟨n, hn⟩ := hl f (by simp)
        obtain ⟨places, e1, e2, e3⟩ := ih (fun g hg => hl g (by simp [hg]))
        have hn' := hn
        simp only [szT, Option.map_eq_some_iff] at hn'
        obtain ⟨inf, hinf, rfl⟩ := hn'
        refine ⟨(f.offset, inf.size) :: places, by simp [List.mapM_cons, hinf, e1], by simp [e2], fun i g n hi hg => ?_⟩
        cases i with
        | zero => simp at hi; subst hi; rw [hn] at hg; cases hg; rfl
        | succ i => simp at hi; simpa using e3 i g n hi hg
    obtain ⟨places, e1, e2, e3⟩ := gen fs.toList (fun f hf => by
      obtain ⟨i, hi⟩ := List.getElem?_of_mem hf
      obtain ⟨n, _, hn⟩ := f2 i f hi
      exact ⟨n, hn⟩)
    exact ⟨places, e1, by simpa using e2, fun i f n hi hn => e3 i f n (by simpa using hi) hn⟩
  obtain ⟨places, p1, p2, p3⟩ := hplaces
  refine sat_build hs hE ho hz (fun i => places.toArray[i]?) ?_ (by simpa using q1.symm) ?_ h
  · intro v i parts hi hv
    simp [Program.built, hi, hu, hv, p1]
  · intro i p q hp hq'
    obtain ⟨y, e1, e2⟩ := q2 i p (by simpa using hp)
    rw [hq'] at e1; cases e1
    simp only [Option.bind_eq_bind, Option.bind_eq_some_iff, Option.pure_def, Option.some.injEq] at e2
    obtain ⟨f, hf, n, hn, od, hod, rfl⟩ := e2
    exact ⟨by simpa using p3 _ f n hf hn, hod⟩

theorem sat_buildArray (hs : Sim G w V s.H s.T) (hE : RelE V a.tmps s.e) {t e : TypeId} {k n : Nat} {ps : Array (Nat × Operand)} {z : List Av} {qs : List (Nat × Nat × Od)} (ho : o.op = .build t ps) (hz : zeroC P t = some z)
    (hu : P.underlying t = some (.array k e)) (hn : szT P e = some n) (hq : ps.toList.mapM (fun (i, x) => do pure (i * n, n, ← odC G x)) = some qs)
    (h : evalOp (.build z qs) s = some l) : OpSat P G w V s a o l := by
  obtain ⟨q1, q2⟩ := mapM_some _ _ _ hq
  simp only [szT, Option.map_eq_some_iff] at hn
  obtain ⟨ie, hie, rfl⟩ := hn
  refine sat_build hs hE ho hz (fun i => some (i * ie.size, ie.size)) ?_ (by simpa using q1.symm) ?_ h
  · intro v i parts hi hv
    simp [Program.built, hi, hu, hv, hie]
  · intro i p q hp hq'
    obtain ⟨y, e1, e2⟩ := q2 i p (by simpa using hp)
    rw [hq'] at e1; cases e1
    simp only [Option.bind_eq_bind, Option.bind_eq_some_iff, Option.pure_def, Option.some.injEq] at e2
    obtain ⟨od, hod, rfl⟩ := e2
    exact ⟨rfl, hod⟩

/-- Rows laid one by one. -/
theorem rows_sound (hs : Sim G w V s.H s.T) (hE : RelE V a.tmps s.e) (sz : Nat) : ∀ (ps : List (Nat × Operand)) (qs : List (Nat × Od)) (cells : Array Value) (rs rs' : List (List Av)),
    ps.length = qs.length → (∀ (i : Nat) p q, ps[i]? = some p → qs[i]? = some q → p.1 = q.1 ∧ odC G p.2 = some q.2) → RowsIn V cells sz rs → cells.size = rs.length * sz → rowsA s.e sz rs qs = some rs' →
    ∃ cells', Instr.fill (fun i => some (i * sz, sz)) cells (ps.map fun p => (p.1, a.eval p.2)) = some cells' ∧ RowsIn V cells' sz rs' ∧ cells'.size = rs'.length * sz ∧ rs'.length = rs.length
  | [], [], cells, rs, rs', _, _, hc, hsz, h => by
    simp only [rowsA, Option.some.injEq] at h
    subst h
    exact ⟨cells, rfl, hc, hsz, rfl⟩
  | p :: ps, q :: qs, cells, rs, rs', hlen, hpl, hc, hsz, h => by
    obtain ⟨i, od⟩ := q
    obtain ⟨h1, h2⟩ := hpl 0 p (i, od) rfl rfl
    simp only at h1
    simp only [rowsA] at h
    split at h
    · rename_i cs hcs
      split at h
      · rename_i hcond
        obtain ⟨hn, hfit⟩ := hcond
        obtain ⟨m1, m2⟩ := cells_of (od_sound hs hE h2) hcs
        have hcsz : (a.eval p.2).cells.size = sz := by omega
        have hi1 : (i + 1) * sz ≤ rs.length * sz := Nat.mul_le_mul_right _ hfit
        rw [Nat.add_mul, Nat.one_mul] at hi1
        obtain ⟨f1, f2⟩ := fill_eq (i * sz) sz (a.eval p.2) cells hcsz (by omega)
        have hrl : rs[i].length = sz := hc.1 _ (List.getElem_mem hfit)
        have hsp : splice rs[i] 0 cs = cs := by
          unfold splice
          rw [List.take_zero, List.nil_append, Nat.zero_add, List.drop_of_length_le (by omega), List.append_nil]
        have hc' := rows_set (cells' := (a.eval p.2).cells.zipIdx.foldl (fun (cs : Array Value) (p : Value × Nat) => cs.setIfInBounds (i * sz + p.2) p.1) cells) (vs := (a.eval p.2).cells.toList) (off := 0) hc (List.getElem?_eq_getElem hfit) (by omega) (by simpa using m1)
          (fun j u y hu hy => m2 j u y (by simpa using hu) hy) (fun j => by rw [f2]; simp only [Array.length_toList, hcsz, Nat.add_zero, Array.getElem?_toList])
        rw [hsp] at hc'
        obtain ⟨cells', e1, e2, e3, e4⟩ := rows_sound hs hE sz ps qs _ _ rs' (by simpa using hlen) (fun j p' q' hp hq => hpl (j + 1) p' q' (by simpa using hp) (by simpa using hq)) hc' (by rw [f1, List.length_set]; exact hsz) h
        refine ⟨cells', ?_, e2, e3, by rw [e4, List.length_set]⟩
        simp only [List.map_cons, Instr.fill, h1]
        rw [if_neg]
        · exact e1
        · simp [hcsz]
          omega
      · cases h
    · cases h
  | [], _ :: _, _, _, _, hlen, _, _, _, _ => by simp at hlen
  | _ :: _, [], _, _, _, hlen, _, _, _, _ => by simp at hlen

theorem rows_zero {cells : Array Value} {z : List Av} (h : CellsRel V cells z) (len : Nat) :
    RowsIn V ((Array.range (len * z.length)).map (cells[· % cells.size]!)) z.length (List.replicate len z) := by
  refine ⟨fun r hr => by rw [List.eq_of_mem_replicate hr], fun i j r x hr hx => ?_⟩
  rw [List.getElem?_replicate] at hr
  split at hr
  · rename_i hi
    cases hr
    have hj : j < z.length := (List.getElem?_eq_some_iff.1 hx).1
    have hi1 : (i + 1) * z.length ≤ len * z.length := Nat.mul_le_mul_right _ hi
    rw [Nat.add_mul, Nat.one_mul] at hi1
    have hjc : j < cells.size := by rw [h.1]; exact hj
    obtain ⟨e1, e2⟩ := h.2 j cells[j] x (Array.getElem?_eq_getElem hjc) hx
    refine ⟨cells[j], ?_, e2, e1⟩
    have hlt : i * z.length + j < len * z.length := by omega
    have hmod : (i * z.length + j) % cells.size = j := by
      rw [h.1, Nat.mul_comm, Nat.mul_add_mod]
      exact Nat.mod_eq_of_lt hj
    simp [hlt, hmod, hjc]
  · cases hr

/-- The cells of a slice's literal. -/
theorem lit_run (hs : Sim G w V s.H s.T) (hE : RelE V a.tmps s.e) {t e : TypeId} {len sz : Nat} {ps : Array (Nat × Operand)} {z : List Av} {qs : List (Nat × Od)} {rs : List (List Av)} (ho : o.op = .buildSlice t len ps) (hz : zeroC P e = some z)
    (hu : P.underlying t = some (.slice e)) (hn : szT P e = some sz) (hq : ps.toList.mapM (fun (i, x) => do pure (i, ← odC G x)) = some qs) (h1 : z.length = sz) (h2 : len * sz ≤ 16777216)
    (h : rowsA s.e sz (List.replicate len z) qs = some rs) :
    ∃ cells, (execOp a.eval o).run P w = .ok (.value (.slice (some ⟨w.heap.size, 0, none⟩) len len)) (w.alloc (.cells cells e)) ∧ RowsIn V cells sz rs ∧ cells.size = len * sz ∧ rs.length = len := by
  obtain ⟨q1, q2⟩ := mapM_some _ _ _ hq
  obtain ⟨i, v, hi, hv, hrel⟩ := zero_rel hz
  have hr := hrel V
  subst h1
  obtain ⟨cells, e1, e2, e3, e4⟩ := rows_sound (a := a) hs hE z.length ps.toList qs ((Array.range (len * z.length)).map (v.cells[· % v.cells.size]!)) (List.replicate len z) rs (by simpa using q1.symm)
    (fun j p q hp hq' => by
      obtain ⟨y, e1, e2⟩ := q2 j p hp
      rw [hq'] at e1; cases e1
      simp only [Option.bind_eq_bind, Option.bind_eq_some_iff, Option.pure_def, Option.some.injEq] at e2
      obtain ⟨od, hod, rfl⟩ := e2
      exact ⟨rfl, hod⟩) (rows_zero hr len) (by simp) h
  refine ⟨cells, ?_, e2, by rw [e3, e4]; simp, by rw [e4]; simp⟩
  have hzrun : (zeroValue e).run P w = .ok v w := by simp [zeroValue, run_info hi, hv]
  have hps : (ps.map fun p => (p.1, a.eval p.2)).toList = ps.toList.map fun p => (p.1, a.eval p.2) := by simp
  by_cases h0 : len * z.length = 0
  · have hfill : Instr.fill (fun i => some (i * z.length, z.length)) ((Array.range (len * z.length)).map ((#[] : Array Value)[· % (#[] : Array Value).size]!)) (ps.toList.map fun p => (p.1, a.eval p.2)) = some cells := by
      rw [← e1]; congr 1
      rw [h0]; simp
    have hnot : ¬ (16777216 < len * z.length) := by omega
    simp only [execOp, ho, Instr.buildSlice, Sem.run_bind, run_underlying hu, Result.andThen_ok, run_sizeOf (w := w) hn, hps]
    simp [h0, newRow]
    rw [h0] at hfill
    simp at hfill
    simp [hfill]
  · have hnot : ¬ (16777216 < len * z.length) := by omega
    simp only [execOp, ho, Instr.buildSlice, Sem.run_bind, run_underlying hu, Result.andThen_ok, run_sizeOf (w := w) hn, hps]
    simp [h0, hnot, newRow, hzrun, e1]

theorem sat_lit (hs : Sim G w V s.H s.T) (hE : RelE V a.tmps s.e) {t e : TypeId} {len sz : Nat} {ps : Array (Nat × Operand)} {z : List Av} {qs : List (Nat × Od)} (ho : o.op = .buildSlice t len ps) (hz : zeroC P e = some z)
    (hu : P.underlying t = some (.slice e)) (hn : szT P e = some sz) (hq : ps.toList.mapM (fun (i, x) => do pure (i, ← odC G x)) = some qs)
    (h : evalOp (.lit sz z len qs) s = some l) : OpSat P G w V s a o l := by
  simp only [evalOp] at h
  split at h
  · rename_i hcond
    obtain ⟨y, hy, rfl⟩ := lab_pure h
    simp only [Option.map_eq_some_iff, Option.bind_eq_some_iff] at hy
    obtain ⟨rs, ⟨rs0, hrs, hst⟩, rfl⟩ := hy
    obtain ⟨cells, e1, e2', e3, e4'⟩ := lit_run hs hE ho hz hu hn hq hcond.1 hcond.2.1 hrs
    have e2 := e2'.strip hst
    have e4 : rs.length = len := (stripR_get hst).1.trans e4'
    obtain ⟨k1, k2, k3⟩ := hs.data cells e cells.size
    refine ⟨_, _, _, .inl e1, k1, k2, k3, ?_⟩
    have hget : ∀ (i j : Nat) r c, rs[i]? = some r → r[j]? = some c → ∃ v, (cells[i * sz + j]? : Option Value) = some v ∧ v.oneCell' = true ∧ RelV V.pu v c := e2.2
    have hle : len ≤ maxL := by have := hcond.2.2; unfold maxL; omega
    refine .sl _ 0 len len rs .full sz (fun i j => (cells[i * sz + j]?).getD undef) none e4 (Nat.le_refl _) hle e2.1 ?_ ?_ rfl (fun _ => rfl)
    · intro i j r c hr hc
      obtain ⟨v, g1, g2, g3⟩ := hget i j r c hr hc
      have hlt := (Array.getElem?_eq_some_iff.1 g1).1
      refine ⟨?_, by simp only [g1, Option.getD_some]; exact g2⟩
      simp only [View.data, Nat.zero_add]
      rw [if_pos ⟨trivial, hlt⟩, g1]; exact nt_one g2
    · intro i j r c hr hc
      obtain ⟨v, g1, g2, g3⟩ := hget i j r c hr hc
      simp only [g1, Option.getD_some]
      exact g3.mono k1.pu
  · cases h

theorem sat_litB (hs : Sim G w V s.H s.T) (hE : RelE V a.tmps s.e) {t e : TypeId} {len sz : Nat} {ps : Array (Nat × Operand)} {z : List Av} {qs : List (Nat × Od)} (ho : o.op = .buildSlice t len ps) (hz : zeroC P e = some z)
    (hu : P.underlying t = some (.slice e)) (hn : szT P e = some sz) (hq : ps.toList.mapM (fun (i, x) => do pure (i, ← odC G x)) = some qs)
    (h : evalOp (.litB sz z len qs) s = some l) : OpSat P G w V s a o l := by
  simp only [evalOp] at h
  split at h
  · rename_i hcond
    simp only [Option.map_eq_some_iff] at h
    obtain ⟨rs, hrs, rfl⟩ := h
    obtain ⟨cells, e1, e2, e3, e4⟩ := lit_run hs hE ho hz hu hn hq hcond.1 hcond.2.1 hrs
    obtain ⟨k1, k2, k3, k4⟩ := sat_push (s := s) (E := e) hs e2
    refine ⟨_, _, _, .inl e1, k1, k2, k3, .bs _ _ _ _ _ _ ⟨_, _, _, k4, Nat.le_refl _, _, _, _, rfl, Nat.le_refl _, ?_, fun _ => ⟨rfl, fun _ => by simp, by simp; omega⟩⟩⟩
    have := hcond.2.2; unfold maxL; omega
  · cases h

end
end Go.Am

namespace Go.Am
open Go

section
variable {P : Program} {G : Glo} {B : Nat → Bool} {w : World} {V : View} {s : St} {a : Act} {o : Oper} {l : Lab}

/-- A bound, concrete and abstract. -/
def BoundIs (x : Option Value) (d n : Int) : Prop := (x = none ∧ n = d) ∨ ∃ k, x = some (.int k n)

theorem bound_sound (hs : Sim G w V s.H s.T) (hE : RelE V a.tmps s.e) {x : Option Operand} {dx : Option Od} {d n : Int} (hx : odO G x = some dx) (h : bound s.e d dx = some n) :
    BoundIs (x.map a.eval) d n ∧ dx.isSome = x.isSome := by
  cases x with
  | none =>
    cases hx
    simp only [bound, Option.some.injEq] at h
    exact ⟨.inl ⟨rfl, h.symm⟩, rfl⟩
  | some o =>
    simp only [odO, Option.map_eq_some_iff] at hx
    obtain ⟨od, hod, rfl⟩ := hx
    simp only [bound] at h
    have r := od_sound hs hE hod
    split at h
    · rename_i k m hv
      cases h
      rw [hv] at r
      exact ⟨.inr ⟨k, by simp [(relInt r).1]⟩, rfl⟩
    · cases h

theorem run_bounds {isSlice : Bool} {len cap : Nat} {lo hi mx : Option Value} {l h m : Int} (hl : BoundIs lo 0 l) (hh : BoundIs hi len h) (hm : BoundIs mx cap m) (h0 : 0 ≤ l) (h1 : l ≤ h) (h2 : h ≤ m) (h3 : m ≤ cap) (hx : mx.isSome = true → hi.isSome = true) :
    (Instr.sliceBounds isSlice len cap lo hi mx).run P w = .ok (l.toNat, h.toNat, m.toNat) w := by
  have hmm : ((m.toNat : Nat) : Int) = m := Int.toNat_of_nonneg (by omega)
  have hhh : ((h.toNat : Nat) : Int) = h := Int.toNat_of_nonneg (by omega)
  have e1 : ∀ k code, (Instr.sliceBound (.int k m) cap code).run P w = .ok m.toNat w := fun k code => run_sliceBound w k m cap code (by omega) (by omega)
  have e2 : ∀ k code, (Instr.sliceBound (.int k h) m.toNat code).run P w = .ok h.toNat w := fun k code => run_sliceBound w k h m.toNat code (by omega) (by omega)
  have e2' : ∀ k code, m = cap → (Instr.sliceBound (.int k h) cap code).run P w = .ok h.toNat w := fun k code q => run_sliceBound w k h cap code (by omega) (by omega)
  have e3 : ∀ k code, (Instr.sliceBound (.int k l) h.toNat code).run P w = .ok l.toNat w := fun k code => run_sliceBound w k l h.toNat code (by omega) (by omega)
  rcases hm with ⟨rfl, hm⟩ | ⟨km, rfl⟩
  · subst hm
    rcases hh with ⟨rfl, hh⟩ | ⟨kh, rfl⟩
    · subst hh
      rcases hl with ⟨rfl, hl⟩ | ⟨kl, rfl⟩
      · subst hl
        simp [Instr.sliceBounds]
      · simp [Instr.sliceBounds] at e3 ⊢
        simp [e3]
    · rcases hl with ⟨rfl, hl⟩ | ⟨kl, rfl⟩
      · subst hl
        simp [Instr.sliceBounds, e2' _ _ rfl]
      · simp [Instr.sliceBounds, e2' _ _ rfl, e3]
  · rcases hh with ⟨rfl, hh⟩ | ⟨kh, rfl⟩
    · simp at hx
    · rcases hl with ⟨rfl, hl⟩ | ⟨kl, rfl⟩
      · subst hl
        simp [Instr.sliceBounds, e1, e2]
      · simp [Instr.sliceBounds, e1, e2, e3]

theorem sat_slcStr (hs : Sim G w V s.H s.T) (hE : RelE V a.tmps s.e) {t : TypeId} {n : Nat} {x : Operand} {lo hi mx : Option Operand} {dx : Od} {dl dh dm : Option Od} (ho : o.op = .slice t x lo hi mx)
    (hu : P.underlying t = some .string) (hx : odC G x = some dx) (hl : odO G lo = some dl) (hh : odO G hi = some dh)
    (hm : odO G mx = some dm) (hstr : ∃ l, dx.ev s.e = .str l)
    (h : evalOp (.slc n dx dl dh dm) s = some l) : OpSat P G w V s a o l := by
  have rx := od_sound hs hE hx
  obtain ⟨b, hb⟩ := hstr
  simp only [evalOp, hb, fitA, if_true, slcA] at h
  rw [hb] at rx
  obtain ⟨z, hz, hzl, hzm⟩ := relStr rx
  obtain ⟨y, hy, rfl⟩ := lab_pure h
  split at hy
  · rename_i l' h' e1 e2
    split at hy
    · rename_i hc
      cases hy
      have hmx : mx = none := by
        cases mx with
        | none => rfl
        | some q => simp only [odO, Option.map_eq_some_iff] at hm; obtain ⟨_, _, hm⟩ := hm; cases hm
      subst hmx
      obtain ⟨b1, _⟩ := bound_sound (a := a) hs hE hl e1
      obtain ⟨b2, _⟩ := bound_sound (a := a) hs hE hh e2
      have hsz : z.size = b.length := by rw [ba_size, hzl]
      rw [← hsz] at b2
      have hrun := run_bounds (P := P) (w := w) (isSlice := false) (len := z.size) (cap := z.size) (mx := none) (m := z.size) b1 b2 (.inl ⟨rfl, rfl⟩) hc.1 hc.2.1 (by omega) (Int.le_refl _) (by simp)
      refine .pure hs (cv := .string (z.extract l'.toNat h'.toNat)) ?_ (.str _ _ ?_ ?_)
      · simp only [execOp, ho, Instr.sliceAt, Instr.slice, Sem.run_bind, run_underlying hu, Result.andThen_ok, hz, Option.map_none]
        simp [hrun]
      · rw [← hzl]
        simp only [ByteArray.data_extract, Array.toList_extract]
        rw [List.extract_eq_drop_take', List.drop_take] <;> simp
      · simp
        have : b.length ≤ maxL := hzm
        omega
    · cases hy
  · cases hy

theorem take_drop_get {α : Type} (xs : List α) (l h : Nat) (i : Nat) (y : α) (hy : ((xs.take h).drop l)[i]? = some y) : xs[l + i]? = some y := by
  rw [List.getElem?_drop, List.getElem?_take] at hy
  split at hy
  · exact hy
  · cases hy

theorem odO_some {x : Option Operand} {d : Option Od} (h : odO G x = some d) : d.isSome = x.isSome := by
  cases x with
  | none => cases h; rfl
  | some q => simp only [odO, Option.map_eq_some_iff] at h; obtain ⟨_, _, rfl⟩ := h; rfl

theorem sat_slc (hs : Sim G w V s.H s.T) (hE : RelE V a.tmps s.e) {t e : TypeId} {sz : Nat} {x : Operand} {lo hi mx : Option Operand} {dx : Od} {dl dh dm : Option Od} (ho : o.op = .slice t x lo hi mx)
    (hu : P.underlying t = some (.slice e)) (hn : szT P e = some sz) (hx : odC G x = some dx) (hl : odO G lo = some dl) (hh : odO G hi = some dh) (hm : odO G mx = some dm) (hmx : mx.isSome = true → hi.isSome = true)
    (hslc : (∃ xs tk, dx.ev s.e = .sl xs tk) ∨ ∃ b ver z off len, dx.ev s.e = .bs b ver z off len)
    (h : evalOp (.slc sz dx dl dh dm) s = some l) : OpSat P G w V s a o l := by
  have rx := od_sound hs hE hx
  have hgo : ∀ (base : Option Addr) (len cap : Nat) (l' h' m' : Int), a.eval x = .slice base len cap → BoundIs (lo.map a.eval) 0 l' → BoundIs (hi.map a.eval) len h' → BoundIs (mx.map a.eval) cap m' → 0 ≤ l' → l' ≤ h' → h' ≤ m' → m' ≤ cap →
      (execOp a.eval o).run P w = .ok (.value (.slice (if m'.toNat = l'.toNat then base else base.map (·.add (l'.toNat * sz))) (h'.toNat - l'.toNat) (m'.toNat - l'.toNat))) w := by
    intro base len cap l' h' m' e0 b1 b2 b3 c1 c2 c3 c4
    have hrun := run_bounds (P := P) (w := w) (isSlice := true) b1 b2 b3 c1 c2 c3 c4 (by simpa using hmx)
    simp only [execOp, ho, Instr.sliceAt, Instr.slice, Sem.run_bind, run_underlying hu, Result.andThen_ok, e0]
    simp [hrun, run_sizeOf (w := w) hn]
  obtain ⟨xs, tk, hv⟩ | ⟨b, ver, z0, off, len, hv⟩ := hslc
  · simp only [evalOp, hv, fitA, slcA] at h
    split at h
    case isFalse => cases h
    rename_i hw
    rw [hv] at rx
    obtain ⟨y, hy, rfl⟩ := lab_pure h
    split at hy
    · rename_i l' h' m' e1 e2 e3
      split at hy
      · rename_i hc
        cases hy
        obtain ⟨b1, _⟩ := bound_sound (a := a) hs hE hl e1
        obtain ⟨b2, _⟩ := bound_sound (a := a) hs hE hh e2
        obtain ⟨b3, _⟩ := bound_sound (a := a) hs hE hm e3
        generalize hq : a.eval x = u at rx
        have hnilcase : u = .slice none 0 0 → xs = [] → tk = .nil → OpSat P G w V s a o { v := .sl ((xs.take h'.toNat).drop l'.toNat) (match tk with | .nil => .nil | _ => if dm.isSome ∧ m' = h' then .full else .any) } := by
          rintro rfl rfl htk
          simp only [List.length_nil, Int.natCast_zero] at hc b2 b3
          have z1 : l' = 0 := by omega
          have z2 : h' = 0 := by omega
          have z3 : m' = 0 := by omega
          subst z1; subst z2; subst z3
          have hr := hgo none 0 0 0 0 0 hq b1 (by simpa using b2) (by simpa using b3) (by omega) (by omega) (by omega) (by simp)
          refine .pure hs (cv := .slice none 0 0) (by simpa using hr) ?_
          subst htk
          exact .slnil
        cases rx with
        | slnil => exact hnilcase rfl rfl rfl
        | sl c k len cap xs tk z f sp g1 g2 g3 g4 g5 g6 g7 g8 =>
          subst g1
          have hnn : tk ≠ .nil := fun e => by subst e; exact g7
          have hz : ∀ (i : Nat) (y : List Av), xs[i]? = some y → z = sz := by
            intro i y hy
            have h1 := g4 y (List.mem_of_getElem? hy)
            have h2 := (List.all_eq_true.1 hw) y (List.mem_of_getElem? hy)
            simp at h2
            omega
          -- the bound of the capacity: the concrete one may be greater than the length
          have hb3 : ∃ m'' : Int, BoundIs (mx.map a.eval) cap m'' ∧ h' ≤ m'' ∧ m'' ≤ cap ∧ (dm.isSome = true → m'' = m') := by
            rcases b3 with ⟨q1, q2⟩ | ⟨q, q1⟩
            · refine ⟨cap, .inl ⟨q1, rfl⟩, by omega, Int.le_refl _, fun q => ?_⟩
              have := odO_some hm
              rw [q] at this
              cases mx with
              | none => cases this
              | some _ => cases q1
            · exact ⟨m', .inr ⟨q, q1⟩, hc.2.2.1, by omega, fun _ => rfl⟩
          obtain ⟨m'', b3', c3, c4, hm'⟩ := hb3
          have hr := hgo _ _ _ l' h' m'' hq b1 b2 b3' hc.1 hc.2.1 c3 c4
          have hlen : ((xs.take h'.toNat).drop l'.toNat).length = h'.toNat - l'.toNat := by
            rw [List.length_drop, List.length_take]; omega
          have hbase : ∃ k' sp', (if m''.toNat = l'.toNat then some (⟨c, k, sp⟩ : Addr) else (some (⟨c, k, sp⟩ : Addr)).map (·.add (l'.toNat * sz))) = some ⟨c, k', sp'⟩ ∧ (l'.toNat < h'.toNat → k' = k + l'.toNat * sz) ∧ (0 < m''.toNat - l'.toNat → sp' = none) := by
            by_cases q : m''.toNat = l'.toNat
            · rw [if_pos q]; exact ⟨k, sp, rfl, fun _ => by omega, fun _ => by omega⟩
            · rw [if_neg q]
              have := g8 (by omega)
              subst this
              exact ⟨k + l'.toNat * sz, none, by simp [addr_add], fun _ => rfl, fun _ => rfl⟩
          obtain ⟨k', sp', hk', hk2, hsp'⟩ := hbase
          rw [hk'] at hr
          refine .pure hs hr (.sl c k' (h'.toNat - l'.toNat) (m''.toNat - l'.toNat) _ _ z (fun i j => f (l'.toNat + i) j) sp' hlen (by omega) (by omega) (fun r hr => g4 r (List.mem_of_mem_take (List.mem_of_mem_drop hr))) ?_ ?_ ?_ hsp')
          · intro i j r x hr hx
            have hr' := take_drop_get _ _ _ _ _ hr
            have hi : i < h'.toNat - l'.toNat := by rw [← hlen]; exact (List.getElem?_eq_some_iff.1 hr).1
            obtain ⟨e1, e2⟩ := g5 _ j r x hr' hx
            refine ⟨?_, e2⟩
            rw [hk2 (by omega), ← hz _ _ hr', ← e1]
            congr 1
            rw [Nat.add_mul]; omega
          · intro i j r x hr hx
            exact g6 _ j r x (take_drop_get _ _ _ _ _ hr) hx
          · cases tk with
            | nil => exact absurd rfl hnn
            | _ =>
              show TkOk V _ _ _ _ (if dm.isSome = true ∧ m' = h' then Tk.full else Tk.any)
              split
              · rename_i q
                have := hm' q.1
                show m''.toNat - l'.toNat = h'.toNat - l'.toNat
                omega
              · trivial
      · cases hy
    · cases hy
  · simp only [evalOp, hv, fitA, slcA] at h
    split at h
    case isFalse => cases h
    rename_i hw
    obtain rfl : sz = z0 := (by simpa using hw : z0 = sz).symm
    rw [hv] at rx
    obtain ⟨y, hy, rfl⟩ := lab_pure h
    split at hy
    · rename_i l' h' m' e1 e2 e3
      split at hy
      · rename_i hc
        cases hy
        obtain ⟨b1, _⟩ := bound_sound (a := a) hs hE hl e1
        obtain ⟨b2, _⟩ := bound_sound (a := a) hs hE hh e2
        obtain ⟨b3, _⟩ := bound_sound (a := a) hs hE hm e3
        generalize hq : a.eval x = u at rx
        cases rx with
        | bs u b ver sz' off len p =>
          obtain ⟨c, now, k, p1, p2, x', o', cap, hp, p3, p4, p5⟩ := p
          have hb3 : ∃ m'' : Int, BoundIs (mx.map a.eval) cap m'' ∧ h' ≤ m'' ∧ m'' ≤ cap := by
            rcases b3 with ⟨q1, q2⟩ | ⟨q, q1⟩
            · exact ⟨cap, .inl ⟨q1, rfl⟩, by omega, Int.le_refl _⟩
            · exact ⟨m', .inr ⟨q, q1⟩, hc.2.2.1, by omega⟩
          obtain ⟨m'', b3', c3, c4⟩ := hb3
          have hr := hgo _ _ _ l' h' m'' (hq.trans hp) b1 b2 b3' hc.1 hc.2.1 c3 c4
          have hbase : ∃ k', (if m''.toNat = l'.toNat then some (⟨x', o', none⟩ : Addr) else (some (⟨x', o', none⟩ : Addr)).map (·.add (l'.toNat * sz))) = some ⟨x', k', none⟩ ∧ (m''.toNat ≠ l'.toNat → k' = o' + l'.toNat * sz) := by
            by_cases q : m''.toNat = l'.toNat
            · rw [if_pos q]; exact ⟨o', rfl, fun z => absurd q z⟩
            · rw [if_neg q]; exact ⟨o' + l'.toNat * sz, by simp [addr_add], fun _ => rfl⟩
          obtain ⟨k', hk', hk2⟩ := hbase
          rw [hk'] at hr
          refine .pure hs hr (.bs _ _ _ _ _ _ ⟨c, now, k, p1, p2, _, _, _, rfl, by omega, by omega, fun hh => ?_⟩)
          obtain ⟨rfl, p6, p7⟩ := p5 hh
          refine ⟨rfl, fun z => ?_, ?_⟩
          · rw [hk2 (by omega), p6 (by omega), Nat.add_mul]
          · have : (off + l'.toNat + (m''.toNat - l'.toNat)) * sz ≤ (off + cap) * sz := Nat.mul_le_mul_right _ (by omega)
            omega
      · cases hy
    · cases hy

end
end Go.Am

namespace Go.Am
open Go

section
variable {P : Program} {G : Glo} {B : Nat → Bool} {w : World} {V : View} {s : St} {a : Act} {o : Oper} {l : Lab}

theorem wide_mem {sz : Nat} {xs : List (List Av)} (h : wide sz xs = true) {x : List Av} (hx : x ∈ xs) : x.length = sz := by
  have := (List.all_eq_true.1 h) x hx
  simpa using this

theorem sat_ixs (hs : Sim G w V s.H s.T) (hE : RelE V a.tmps s.e) {t e : TypeId} {sz : Nat} {x i : Operand} {dx di : Od} (ho : o.op = .indexAddr t x i) (hu : P.underlying t = some (.slice e)) (hn : szT P e = some sz)
    (hx : odC G x = some dx) (hi : odC G i = some di) (h : evalOp (.ixs sz dx di) s = some l) : OpSat P G w V s a o l := by
  have rx := od_sound hs hE hx
  have ri := od_sound hs hE hi
  have key : ∀ (b k : Nat) (len cap : Nat) (kk : IntKind) (n : Int), a.eval x = .slice (some ⟨b, k, none⟩) len cap → a.eval i = .int kk n → 0 ≤ n → n < len →
      (execOp a.eval o).run P w = .ok (.value (.pointer (some ⟨b, k + n.toNat * sz, none⟩))) w := by
    intro b k len cap kk n e1 e2 h1 h2
    simp [execOp, ho, Instr.indexAt, asIntOf, e1, e2, run_underlying hu, h1, h2, run_sizeOf (w := w) hn, addr_add]
  simp only [evalOp] at h
  split at h
  · rename_i xs tk kk n hv hv'
    rw [hv] at rx
    rw [hv'] at ri
    split at h
    · rename_i hc
      split at h
      · rename_i r hr
        obtain ⟨y, hy, rfl⟩ := lab_pure h
        cases hy
        generalize hq : a.eval x = u at rx
        cases rx with
        | slnil => simp at hc; omega
        | sl c k len cap xs tk z f sp g1 g2 g3 g4 g5 g6 g7 g8 =>
          have := g8 (by omega)
          subst this
          have hrm := List.mem_of_getElem? hr
          have hz : z = sz := by rw [← g4 r hrm]; exact wide_mem hc.2.2 hrm
          subst hz
          refine .pure hs (key c k len cap kk n hq (relInt ri).1 hc.1 (by omega)) (.cptr _ _ _ _ (fun j => f n.toNat j) (Nat.zero_le _) ?_ ?_)
          · intro j y hj
            rw [Nat.sub_zero]
            exact g5 _ _ _ _ hr hj
          · intro j y hj
            exact g6 _ _ _ _ hr hj
      · cases h
    · cases h
  · rename_i b ver s' off len kk n hv hv'
    rw [hv] at rx
    rw [hv'] at ri
    split at h
    · rename_i hc
      obtain ⟨y, hy, rfl⟩ := lab_pure h
      cases hy
      obtain ⟨c1, c2, rfl⟩ := hc
      generalize hq : a.eval x = u at rx
      cases rx with
      | bs u b ver sz off len p =>
        obtain ⟨c, now, k, p1, p2, x', o', cap, hp, p3, p4, p5⟩ := p
        refine .pure hs (key _ _ _ _ kk n (hq.trans hp) (relInt ri).1 c1 c2) (.ptr _ _ _ _ _ ⟨c, s', now, k, p1, p2, _, _, rfl, fun hh => ?_⟩)
        obtain ⟨rfl, p6, _⟩ := p5 hh
        refine ⟨rfl, ?_⟩
        rw [p6 (by omega), Nat.add_mul, Nat.add_zero]
    · cases h
  · cases h

theorem sat_ixa (hs : Sim G w V s.H s.T) (hE : RelE V a.tmps s.e) {t e : TypeId} {sz len : Nat} {x i : Operand} {dx di : Od} (ho : o.op = .indexAddr t x i) (hu : P.underlying t = some (.array len e)) (hn : szT P e = some sz)
    (hx : odC G x = some dx) (hi : odC G i = some di) (h : evalOp (.ixa len sz dx di) s = some l) : OpSat P G w V s a o l := by
  have rx := od_sound hs hE hx
  have ri := od_sound hs hE hi
  have key : ∀ (b k : Nat) (kk : IntKind) (n : Int), a.eval x = .pointer (some ⟨b, k, none⟩) → a.eval i = .int kk n → 0 ≤ n → n < len →
      (execOp a.eval o).run P w = .ok (.value (.pointer (some ⟨b, k + n.toNat * sz, none⟩))) w := by
    intro b k kk n e1 e2 h1 h2
    simp [execOp, ho, Instr.indexAt, Instr.sureAddr, asIntOf, e1, e2, run_underlying hu, h1, h2, run_sizeOf (w := w) hn, addr_add]
  simp only [evalOp] at h
  split at h
  · rename_i b ver row off kk n hv hv'
    rw [hv] at rx
    rw [hv'] at ri
    split at h
    · rename_i hc
      obtain ⟨y, hy, rfl⟩ := lab_pure h
      cases hy
      generalize hq : a.eval x = u at rx
      cases rx with
      | ptr v b ver row off q =>
        obtain ⟨c, sz', now, t', e', hl, p1, p2, hp, q⟩ := q
        refine .pure hs (key _ _ kk n (hq.trans hp) (relInt ri).1 hc.1 hc.2) (.ptr _ _ _ _ _ ⟨c, sz', now, t', e', hl, _, _, rfl, fun hh => ?_⟩)
        obtain ⟨rfl, rfl⟩ := q hh
        exact ⟨rfl, by omega⟩
    · cases h
  · rename_i r off kk n hv hv'
    rw [hv] at rx
    rw [hv'] at ri
    split at h
    · rename_i hc
      obtain ⟨y, hy, rfl⟩ := lab_pure h
      cases hy
      generalize hq : a.eval x = u at rx
      cases rx with
      | cptr c k cs off f h0 h1 h2 =>
        refine .pure hs (key _ _ kk n hq (relInt ri).1 hc.1 hc.2) (.cptr _ _ _ _ f (by omega) ?_ h2)
        intro j x hj
        have : k + n.toNat * sz - (off + n.toNat * sz) + j = k - off + j := by omega
        rw [this]; exact h1 j x hj
    · cases h
  · cases h

/-- A part of a struct's or an array's cells. -/
theorem part_sound {t : TypeId} {n : Option Nat} {vs : Array Value} {cs ws : List Av} {off : Nat} {y : Av} (hn : aggW P t = some n) (hr : CellsRel V vs cs) (hw : window cs off (width n) = some ws) (hy : ofCells n ws = some y) :
    ∃ v, (part t vs off).run P w = .ok v w ∧ RelV V v y := by
  obtain ⟨h1, h2⟩ := run_isAgg (w := w) hn
  obtain ⟨w1, w2, w3⟩ := window_spec hw
  cases n with
  | none =>
    simp only [ofCells] at hy
    split at hy
    · rename_i z
      cases hy
      have hz := w3 0 _ rfl
      rw [Nat.add_zero] at hz
      have hlt : off < vs.size := by rw [hr.1]; exact (List.getElem?_eq_some_iff.1 hz).1
      refine ⟨vs[off], by simp [part, h1, hlt], (hr.2 off _ _ (Array.getElem?_eq_getElem hlt) hz).1⟩
    · cases hy
  | some k =>
    simp only [ofCells] at hy
    cases hy
    have hk : ws.length = k := w2
    have w1' : off + k ≤ cs.length := w1
    refine ⟨.agg (vs.extract off (off + k)), by simp [part, h1, run_sizeOf (w := w) (h2 k rfl)], agg_of ⟨?_, ?_⟩⟩
    · rw [Array.size_extract, hr.1]; omega
    · intro i c x hc hx
      have hi : i < k := by rw [← hk]; exact (List.getElem?_eq_some_iff.1 hx).1
      rw [Array.getElem?_extract] at hc
      have hx' := w3 i x hx
      split at hc
      · exact hr.2 _ _ _ hc hx'
      · cases hc

theorem agg_inv {v : Value} {cs : List Av} (h : RelV V v (.agg cs)) : ∃ vs, v = .agg vs ∧ CellsRel V vs cs := by
  cases h with
  | agg vs _ q1 q2 q3 => exact ⟨vs, rfl, q1, fun i c x hc hx => ⟨q3 i c x hc hx, q2 i c hc⟩⟩

theorem sat_fld (hs : Sim G w V s.H s.T) (hE : RelE V a.tmps s.e) {t : TypeId} {x : Operand} {f : Nat} {fs : Array Field} {fl : Field} {n : Option Nat} {dx : Od} (ho : o.op = .field t x f)
    (hu : P.underlying t = some (.struct fs)) (hf : fs[f]? = some fl) (hn : aggW P fl.type = some n) (hx : odC G x = some dx)
    (h : evalOp (.fld n fl.offset dx) s = some l) : OpSat P G w V s a o l := by
  have rx := od_sound hs hE hx
  simp only [evalOp] at h
  split at h
  · rename_i cs hv
    rw [hv] at rx
    obtain ⟨y, hy, rfl⟩ := lab_pure h
    rw [Option.bind_eq_some_iff] at hy
    obtain ⟨ws, hws, hy⟩ := hy
    obtain ⟨vs, hvs, hr⟩ := agg_inv rx
    obtain ⟨v, e1, e2⟩ := part_sound (w := w) hn hr hws hy
    refine .pure hs ?_ e2
    simp [execOp, ho, Instr.field, run_underlying hu, hf, hvs, asAgg, e1]
  · cases h

theorem sat_ixv (hs : Sim G w V s.H s.T) (hE : RelE V a.tmps s.e) {t e : TypeId} {sz len : Nat} {n : Option Nat} {x i : Operand} {dx di : Od} (ho : o.op = .index t x i) (hu : P.underlying t = some (.array len e)) (hn : aggW P e = some n) (hz : szT P e = some sz)
    (hx : odC G x = some dx) (hi : odC G i = some di) (h : evalOp (.ixv len n sz dx di) s = some l) : OpSat P G w V s a o l := by
  have rx := od_sound hs hE hx
  have ri := od_sound hs hE hi
  simp only [evalOp] at h
  split at h
  · rename_i cs kk m hv hv'
    rw [hv] at rx
    rw [hv'] at ri
    split at h
    · rename_i hc
      obtain ⟨y, hy, rfl⟩ := lab_pure h
      rw [Option.bind_eq_some_iff] at hy
      obtain ⟨ws, hws, hy⟩ := hy
      obtain ⟨vs, hvs, hr⟩ := agg_inv rx
      obtain ⟨v, e1, e2⟩ := part_sound (w := w) hn hr hws hy
      refine .pure hs ?_ e2
      simp [execOp, ho, Instr.index, asIntOf, (relInt ri).1, run_underlying hu, hvs, hc.1, hc.2, run_sizeOf (w := w) hz, e1]
    · cases h
  · cases h

theorem sat_ixb (hs : Sim G w V s.H s.T) (hE : RelE V a.tmps s.e) {t : TypeId} {x i : Operand} {dx di : Od} (ho : o.op = .index t x i) (hu : P.underlying t = some .string)
    (hx : odC G x = some dx) (hi : odC G i = some di) (h : evalOp (.ixb dx di) s = some l) : OpSat P G w V s a o l := by
  have rx := od_sound hs hE hx
  have ri := od_sound hs hE hi
  simp only [evalOp] at h
  split at h
  · rename_i b kk m hv hv'
    rw [hv] at rx
    rw [hv'] at ri
    split at h
    · rename_i hc
      split at h
      · rename_i c hcc
        obtain ⟨y, hy, rfl⟩ := lab_pure h
        cases hy
        obtain ⟨z, hz, hzl, _⟩ := relStr rx
        have hlt : m.toNat < z.size := by rw [ba_size, hzl]; exact (List.getElem?_eq_some_iff.1 hcc).1
        have hget : z[m.toNat]? = some c := by
          rw [ByteArray.getElem?_lt' z _ hlt]
          congr 1
          have : z.data.toList[m.toNat]? = some c := by rw [hzl]; exact hcc
          rw [Array.getElem?_toList, Array.getElem?_eq_getElem hlt] at this
          cases this
          rfl
        refine .pure hs (cv := .int .u8 c.toNat) ?_ (.int _ _ ?_)
        · simp [execOp, ho, Instr.index, asIntOf, (relInt ri).1, run_underlying hu, hz, hc, hget]
        · have := c.toNat_lt
          unfold IntKind.has
          show (0 : Int) ≤ _ ∧ _ ≤ (255 : Int)
          omega
      · cases h
    · cases h
  · cases h

theorem len_int {n : Nat} (h : n ≤ maxL) : RelV V (goInt n) (.int .i64 n) := by
  refine .int _ _ ?_
  unfold IntKind.has
  show (-9223372036854775808 : Int) ≤ _ ∧ _ ≤ (9223372036854775807 : Int)
  unfold maxL at h
  omega

theorem sat_len (hs : Sim G w V s.H s.T) (hE : RelE V a.tmps s.e) {c : Call} {t : TypeId} {x : Operand} {dx : Od} (ho : o.op = .call c) (hc : c.callee = .builtin .len) (ha : c.args = #[x]) (hT : c.argTypes = #[t])
    (hu : (∃ e, P.underlying t = some (.slice e)) ∨ P.underlying t = some .string) (hx : odC G x = some dx) (hfit : P.underlying t = some .string ↔ ∃ l, dx.ev s.e = .str l)
    (h : evalOp (.len dx) s = some l) : OpSat P G w V s a o l := by
  have rx := od_sound hs hE hx
  have key : ∀ v, (Builtin.len_ #[t] o.type #[a.eval x]).run P w = .ok v w → (execOp a.eval o).run P w = .ok (.value v) w := by
    intro v hv
    simp [execOp, ho, resolve, hc, ha, hT, invoke, builtin, hv]
  simp only [evalOp] at h
  have hsl : ∀ (b : Option Addr) (n k : Nat) e, P.underlying t = some (.slice e) → a.eval x = .slice b n k → (Builtin.len_ #[t] o.type #[a.eval x]).run P w = .ok (goInt n) w := by
    intro b n k e he hq
    simp [Builtin.len_, run_underlying he, hq]
  split at h
  · rename_i xs tk hv
    rw [hv] at rx
    obtain ⟨y, hy, rfl⟩ := lab_pure h
    cases hy
    rcases hu with ⟨e, he⟩ | hu
    · generalize hq : a.eval x = u at rx
      cases rx with
      | slnil => exact .pure hs (key _ (hsl _ _ _ e he hq)) (len_int (by simp))
      | sl c' k len cap xs tk z f sp g1 g2 g3 g4 g5 g6 g7 g8 =>
        subst g1
        exact .pure hs (key _ (hsl _ _ _ e he hq)) (len_int (by omega))
    · obtain ⟨l', hl'⟩ := hfit.1 hu
      rw [hv] at hl'; cases hl'
  · rename_i b ver z off n hv
    rw [hv] at rx
    obtain ⟨y, hy, rfl⟩ := lab_pure h
    cases hy
    rcases hu with ⟨e, he⟩ | hu
    · generalize hq : a.eval x = u at rx
      cases rx with
      | bs u b ver sz off len p =>
        obtain ⟨c, now, k, p1, p2, x', o', cap, hp, p3, p4, p5⟩ := p
        exact .pure hs (key _ (hsl _ _ _ e he (hq.trans hp))) (len_int (by omega))
    · obtain ⟨l', hl'⟩ := hfit.1 hu
      rw [hv] at hl'; cases hl'
  · rename_i b hv
    rw [hv] at rx
    obtain ⟨y, hy, rfl⟩ := lab_pure h
    cases hy
    obtain ⟨z, hz, hzl, hzm⟩ := relStr rx
    have hu' := hfit.2 ⟨b, hv⟩
    refine .pure hs (key (goInt z.size) ?_) ?_
    · simp [Builtin.len_, run_underlying hu', hz]
    · rw [ba_size, hzl]; exact len_int hzm
  · cases h

/-- A map whose entries are known. -/
theorem map_ok (hs : Sim G w V s.H s.T) {v : Value} {m : Av} {kvs : List (Av × Av)} (h : RelV V v m) (hm : mapOf s.H m = some kvs) :
    ∃ c es clock, v = .map (some c) ∧ w.heap[c]? = some (.map es clock) ∧ MapIn V es kvs := by
  cases m
  case mp b =>
    simp only [mapOf] at hm
    split at hm
    · rename_i kvs' hb
      cases hm
      obtain ⟨c', n, k', es, clock, q1, q2, q3, _⟩ := hs.blk b _ hb
      cases h with
      | mp _ c now k e' =>
        rw [q1] at e'
        cases e'
        exact ⟨_, es, clock, rfl, q2, q3⟩
    · cases hm
  case cmap kvs' =>
    simp only [mapOf, Option.some.injEq] at hm
    subst hm
    cases h with
    | cmap c ps _ fk fv q1 q2 q3 q4 q5 q6 =>
      have hseen := hs.rd _ _ _ q1
      unfold seen' at hseen
      split at hseen
      · rename_i es clock hw
        simp only [if_true, Option.some.injEq, packE, Value.tuple.injEq] at hseen
        subst hseen
        refine ⟨c, es, clock, rfl, hw, ⟨by simpa using q2, q3⟩, fun i e p he hp => ?_⟩
        have := q4 i p hp
        simp [he] at this
        have h5 := q5 i p hp
        have h6 := q6 i p hp
        rw [← this.1] at h5
        rw [← this.2] at h6
        exact ⟨h5.mono V.pu_le, h6.mono V.pu_le⟩
      · have := nt_nt hseen
        cases this
  all_goals simp [mapOf] at hm

theorem sat_lenM (hs : Sim G w V s.H s.T) (hE : RelE V a.tmps s.e) {c : Call} {t k e : TypeId} {x : Operand} {dx : Od} (ho : o.op = .call c) (hc : c.callee = .builtin .len) (ha : c.args = #[x]) (hT : c.argTypes = #[t])
    (hu : P.underlying t = some (.map k e)) (hx : odC G x = some dx) (h : evalOp (.lenM dx) s = some l) : OpSat P G w V s a o l := by
  have rx := od_sound hs hE hx
  simp only [evalOp] at h
  split at h
  · rename_i kvs hb
    obtain ⟨y, hy, rfl⟩ := lab_pure h
    cases hy
    obtain ⟨c', es, clock, hq, q2, q3⟩ := map_ok hs rx hb
    refine .pure hs (cv := goInt es.size) ?_ (by rw [q3.1.1]; exact len_int q3.1.2)
    simp [execOp, ho, resolve, hc, ha, hT, invoke, builtin, Builtin.len_, run_underlying hu, hq, getObj, Sem.run, q2]
  · cases h

theorem sat_cap (hs : Sim G w V s.H s.T) (hE : RelE V a.tmps s.e) {c : Call} {t e : TypeId} {x : Operand} {dx : Od} (ho : o.op = .call c) (hc : c.callee = .builtin .cap) (ha : c.args = #[x]) (hT : c.argTypes = #[t])
    (hu : P.underlying t = some (.slice e)) (hx : odC G x = some dx) (h : evalOp (.cap dx) s = some l) : OpSat P G w V s a o l := by
  have rx := od_sound hs hE hx
  have key : ∀ (b : Option Addr) (n k : Nat), a.eval x = .slice b n k → (execOp a.eval o).run P w = .ok (.value (goInt k)) w := by
    intro b n k hq
    simp [execOp, ho, resolve, hc, ha, hT, invoke, builtin, Builtin.cap_, run_underlying hu, hq]
  simp only [evalOp] at h
  split at h
  · rename_i xs hv
    rw [hv] at rx
    obtain ⟨y, hy, rfl⟩ := lab_pure h
    cases hy
    generalize hq : a.eval x = u at rx
    cases rx with
    | sl c' k len cap xs tk z f sp g1 g2 g3 g4 g5 g6 g7 g8 =>
      have g7' : cap = len := g7
      subst g1; subst g7'
      exact .pure hs (key _ _ _ hq) (len_int g3)
  · rename_i xs hv
    rw [hv] at rx
    obtain ⟨y, hy, rfl⟩ := lab_pure h
    cases hy
    generalize hq : a.eval x = u at rx
    cases rx with
    | slnil => exact .pure hs (key _ _ _ hq) (len_int (by simp))
    | sl c' k len cap xs tk z f sp g1 g2 g3 g4 g5 g6 g7 g8 => exact absurd g7 id
  · cases h

theorem sat_min (hs : Sim G w V s.H s.T) (hE : RelE V a.tmps s.e) {c : Call} {x y : Operand} {dx dy : Od} (ho : o.op = .call c) (hc : c.callee = .builtin .min) (ha : c.args = #[x, y])
    (hx : odC G x = some dx) (hy : odC G y = some dy) (h : evalOp (.min dx dy) s = some l) : OpSat P G w V s a o l := by
  have rx := od_sound hs hE hx
  have ry := od_sound hs hE hy
  simp only [evalOp] at h
  split at h
  · rename_i k m k' n hv hv'
    rw [hv] at rx
    rw [hv'] at ry
    split at h
    · rename_i hk
      obtain ⟨z, hz, rfl⟩ := lab_pure h
      cases hz
      subst hk
      obtain ⟨e1, q1⟩ := relInt rx
      obtain ⟨e2, q2⟩ := relInt ry
      refine .pure hs (cv := .int k (if n < m then n else m)) ?_ (.int _ _ (by split <;> assumption))
      simp [execOp, ho, resolve, hc, ha, invoke, builtin, Builtin.min_, Builtin.min2, e1, e2]
    · cases h
  · cases h

theorem sat_max (hs : Sim G w V s.H s.T) (hE : RelE V a.tmps s.e) {c : Call} {x y : Operand} {dx dy : Od} (ho : o.op = .call c) (hc : c.callee = .builtin .max) (ha : c.args = #[x, y])
    (hx : odC G x = some dx) (hy : odC G y = some dy) (h : evalOp (.max dx dy) s = some l) : OpSat P G w V s a o l := by
  have rx := od_sound hs hE hx
  have ry := od_sound hs hE hy
  simp only [evalOp] at h
  split at h
  · rename_i k m k' n hv hv'
    rw [hv] at rx
    rw [hv'] at ry
    split at h
    · rename_i hk
      obtain ⟨z, hz, rfl⟩ := lab_pure h
      cases hz
      subst hk
      obtain ⟨e1, q1⟩ := relInt rx
      obtain ⟨e2, q2⟩ := relInt ry
      refine .pure hs (cv := .int k (if n > m then n else m)) ?_ (.int _ _ (by split <;> assumption))
      simp [execOp, ho, resolve, hc, ha, invoke, builtin, Builtin.max_, Builtin.max2, e1, e2]
    · cases h
  · cases h

theorem relSl {v : Value} {xs : List (List Av)} {tk : Tk} (h : RelV V v (.sl xs tk)) : ∃ (b : Option Addr) (cap : Nat), v = .slice b xs.length cap := by
  cases h
  · exact ⟨_, _, rfl⟩
  · rename_i q _ _ _ _; subst q; exact ⟨_, _, rfl⟩

theorem has_zero (k : IntKind) : k.min ≤ 0 ∧ 0 ≤ k.max := by cases k <;> decide

theorem has_fdiv {k : IntKind} {m : Int} (h : k.has m) (n : Nat) : k.has (m.fdiv (2 ^ n)) := by
  have hp : (0 : Int) < 2 ^ n := Int.pow_pos (by decide)
  rw [Int.fdiv_eq_ediv_of_nonneg _ (Int.le_of_lt hp)]
  obtain ⟨z1, z2⟩ := has_zero k
  unfold IntKind.has at *
  by_cases q : m < 0
  · refine ⟨Int.le_trans h.1 ?_, Int.le_trans (Int.le_of_lt (Int.ediv_neg_of_neg_of_pos q hp)) z2⟩
    apply Int.le_ediv_of_mul_le hp
    have : m * 2 ^ n ≤ m * 1 := Int.mul_le_mul_of_nonpos_left (by omega) (by omega)
    omega
  · exact ⟨Int.le_trans z1 (Int.ediv_nonneg (by omega) (Int.le_of_lt hp)), Int.le_trans (Int.ediv_le_self _ (by omega)) h.2⟩

theorem tmod_le' (m n : Int) (h : 0 ≤ m) : m.tmod n ≤ m := by
  obtain ⟨a, rfl⟩ := Int.eq_ofNat_of_zero_le h
  cases n with
  | ofNat b => exact Int.ofNat_le.2 (Nat.mod_le a b)
  | negSucc b => exact Int.ofNat_le.2 (Nat.mod_le a (b + 1))

theorem has_tmod {k : IntKind} {m : Int} (h : k.has m) (n : Int) : k.has (m.tmod n) := by
  obtain ⟨z1, z2⟩ := has_zero k
  unfold IntKind.has at *
  by_cases q : m < 0
  · have e : m.tmod n = - ((-m).tmod n) := by rw [Int.neg_tmod, Int.neg_neg]
    have h1 : 0 ≤ (-m).tmod n := Int.tmod_nonneg _ (by omega)
    have h2 : (-m).tmod n ≤ -m := tmod_le' _ _ (by omega)
    omega
  · have h1 : 0 ≤ m.tmod n := Int.tmod_nonneg _ (by omega)
    have h2 : m.tmod n ≤ m := tmod_le' _ _ (by omega)
    omega

theorem sat_bin (hs : Sim G w V s.H s.T) (hE : RelE V a.tmps s.e) {op : BinOp} {t u : TypeId} {x y : Operand} {dx dy : Od} (ho : o.op = .binOp op t x y u) (hx : odC G x = some dx) (hy : odC G y = some dy)
    (h : evalOp (.bin op dx dy) s = some l) : OpSat P G w V s a o l := by
  have rx := od_sound hs hE hx
  have ry := od_sound hs hE hy
  simp only [evalOp] at h
  obtain ⟨z, hz, rfl⟩ := lab_pure h
  unfold binA at hz
  split at hz
  · rename_i k m k' n hv hv'
    rw [hv] at rx
    rw [hv'] at ry
    obtain ⟨e1, q1⟩ := relInt rx
    obtain ⟨e2, q2⟩ := relInt ry
    have hg : (eqGuard op t x y (.int k m) (.int k' n)).run P w = .ok () w := by unfold eqGuard; cases op <;> rfl
    have hex : ∀ r, (binOp op t (.int k m) (.int k' n)).run P w = .ok r w → (execOp a.eval o).run P w = .ok (.value r) w := by
      intro r hr
      simp [execOp, ho, e1, e2, hg, hr]
    split at hz
    · split at hz
      · cases hz
      · rename_i hn
        cases hz
        refine .pure hs (hex _ ?_) (.int _ _ (wrap_has _ _))
        simp [binOp, Op.shift, hn]
    · split at hz
      · cases hz
      · rename_i hn
        cases hz
        refine .pure hs (hex _ ?_) (.int _ _ ?_)
        · simp [binOp, Op.shift, hn]
        · exact has_fdiv q1 _
    · rename_i h1 h2
      split at hz
      · rename_i hk
        subst hk
        cases op
        all_goals first
          | (exact absurd rfl h1)
          | (exact absurd rfl h2)
          | (simp only [binInt, Option.some.injEq] at hz; subst hz; first
              | (refine .pure hs (hex _ ?_) (.int _ _ (wrap_has _ _)); simp [binOp, Op.intArith, Op.intBits])
              | (refine .pure hs (hex _ ?_) (.bool _); simp [binOp, Op.intCmp]))
          | (simp only [binInt] at hz
             split at hz
             · cases hz
             · rename_i hn
               cases hz
               first
                 | (refine .pure hs (hex _ ?_) (.int _ _ (wrap_has _ _)); simp [binOp, Op.intDiv, hn])
                 | (refine .pure hs (hex _ ?_) (.int _ _ (has_tmod q1 _)); simp [binOp, Op.intDiv, hn]))
      · cases hz
  · rename_i b c hv hv'
    rw [hv] at rx
    rw [hv'] at ry
    obtain ⟨x', e1, q1, q1'⟩ := relStr rx
    obtain ⟨y', e2, q2, q2'⟩ := relStr ry
    have hg : (eqGuard op t x y (.string x') (.string y')).run P w = .ok () w := by unfold eqGuard; cases op <;> rfl
    have hex : ∀ r, (binOp op t (.string x') (.string y')).run P w = .ok r w → (execOp a.eval o).run P w = .ok (.value r) w := by
      intro r hr
      simp [execOp, ho, e1, e2, hg, hr]
    have hx' : x'.toList = b := by rw [ba_toList, q1]
    have hy' : y'.toList = c := by rw [ba_toList, q2]
    have hsx : x'.size = b.length := by rw [ba_size, q1]
    have hsy : y'.size = c.length := by rw [ba_size, q2]
    cases op
    all_goals first
      | (cases hz; done)
      | (simp only [binStr, Option.some.injEq] at hz; subst hz
         refine .pure hs (hex _ ?_) (.bool _)
         simp [binOp, Op.stringOp, hx', hy']; done)
      | (simp only [binStr] at hz
         split at hz
         · rename_i hn
           cases hz
           refine .pure hs (hex (.string (x' ++ y')) ?_) (.str _ _ (by simp [q1, q2]) (by simpa using hn))
           have : ¬ ((9223372036854775807 : Int) < (x'.size : Int) + (y'.size : Int)) := by
             unfold maxL at hn; omega
           simp [binOp, Op.stringOp, IntKind.max, IntKind.signed, IntKind.bits, this]
         · cases hz)
  · cases hz

end
end Go.Am
