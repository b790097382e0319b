/- '==' of structs of numbers, bools and strings. Generic: no program in sight. -/
import Derived.Test.YtfhilbdpejljdaaGreatDoorA2
import Derived.Laws.StructEq
set_option linter.all false
namespace Go.Am
open Go

section
variable {P : Program} {G : Glo} {w : World} {V : View} {s : St} {a : Act} {o : Oper} {l : Lab}

theorem eqK_length : ∀ (ks : List KK) (A B : List Av) (r : Bool), eqK ks A B = some r → A.length = ks.length ∧ B.length = ks.length
  | [], [], [], _, _ => ⟨rfl, rfl⟩
  | k :: ks, x :: xs, y :: ys, r, h => by
    simp only [eqK] at h
    split at h
    · simp only [Option.map_eq_some_iff] at h
      obtain ⟨r', h, _⟩ := h
      obtain ⟨h1, h2⟩ := eqK_length ks xs ys r' h
      simp [h1, h2]
    · cases h
  | [], [], _ :: _, _, h => by simp [eqK] at h
  | [], _ :: _, _, _, h => by simp [eqK] at h
  | _ :: _, [], _, _, h => by simp [eqK] at h
  | _ :: _, _ :: _, [], _, h => by simp [eqK] at h

theorem eqK_append : ∀ (k1 k2 : List KK) (A B X Y : List Av) (r : Bool), A.length = k1.length → B.length = k1.length → eqK (k1 ++ k2) (A ++ X) (B ++ Y) = some r → ∃ r1 r2, eqK k1 A B = some r1 ∧ eqK k2 X Y = some r2 ∧ r = (r1 && r2)
  | [], k2, [], [], X, Y, r, _, _, h => ⟨true, r, rfl, h, by simp⟩
  | k :: k1, k2, x :: A, y :: B, X, Y, r, hA, hB, h => by
    simp only [List.cons_append, eqK] at h ⊢
    split at h
    · rename_i r0 h0
      simp only [Option.map_eq_some_iff] at h
      obtain ⟨r', h, rfl⟩ := h
      obtain ⟨r1, r2, e1, e2, rfl⟩ := eqK_append k1 k2 A B X Y r' (by simpa using hA) (by simpa using hB) h
      exact ⟨r0 && r1, r2, by simp [h0, e1], e2, by rw [Bool.and_assoc]⟩
    · cases h
  | [], _, _ :: _, _, _, _, _, hA, _, _ => by simp at hA
  | [], _, [], _ :: _, _, _, _, _, hB, _ => by simp at hB
  | _ :: _, _, [], _, _, _, _, hA, _, _ => by simp at hA
  | _ :: _, _, _ :: _, [], _, _, _, _, hB, _ => by simp at hB

theorem window_all {cs : List Av} {off n : Nat} (h : off + n ≤ cs.length) : window cs off n = some ((cs.drop off).take n) := by
  unfold window; rw [if_pos h]

theorem flatFs_len (P : Program) (g : TypeId → Option (List KK)) : ∀ (l : List Field) (off : Nat) (ks : List KK), flatFs P g l off = some ks → True
  | _, _, _, _ => trivial

theorem flat_eq : ∀ (d : Nat) (t : TypeId) (ks : List KK) (wd : Option Nat), flatT P d t = some ks → aggW P t = some wd → width wd = ks.length →
    ∀ (d' : Nat), d ≤ d' → ∀ (cx cy : List Av) (x y : Av) (vx vy : Value) (r : Bool), ofCells wd cx = some x → ofCells wd cy = some y → RelV V vx x → RelV V vy y → eqK ks cx cy = some r →
    (Op.equalIn d' t vx vy).run P w = .ok r w
  | 0, _, _, _, h, _, _, _, _, _, _, _, _, _, _, _, _, _, _, _, _ => by cases h
  | d + 1, t, ks, wd, h, hw, hwn, d', hd, cx, cy, x, y, vx, vy, r, hx, hy, rx, ry, he => by
    obtain ⟨d', rfl⟩ : ∃ k, d' = k + 1 := ⟨d' - 1, by omega⟩
    obtain ⟨hcx, hcy⟩ := eqK_length _ _ _ _ he
    simp only [flatT] at h
    have prim : ∀ k, ks = [k] → (∀ fs, P.underlying t ≠ some (.struct fs)) → (∀ k e, P.underlying t ≠ some (.array k e)) → eq1 k x y = some r := by
      intro k hk h1 h2
      subst hk
      have : wd = none := by
        unfold aggW at hw
        split at hw
        · rename_i hu; exact absurd hu (h1 _)
        · rename_i hu; exact absurd hu (h2 _ _)
        · cases hw; rfl
        · cases hw
      subst this
      simp only [ofCells] at hx hy
      split at hx
      · split at hy
        · cases hx; cases hy
          simp only [eqK] at he
          split at he
          · rename_i h0; simp at he; subst he; exact h0
          · cases he
        · cases hy
      · cases hx
    split at h
    · rename_i k hu
      cases h
      have e1 := prim _ rfl (by simp [hu]) (by simp [hu])
      unfold eq1 at e1
      split at e1
      · rename_i kk k1 x1 k2 y1 hk
        cases hk
        split at e1
        · rename_i q
          obtain ⟨q1, q2⟩ := q
          subst q1
          subst q2
          simp only [Option.some.injEq] at e1
          subst e1
          rw [(relInt rx).1, (relInt ry).1]
          exact run_equalIn_int w d' t _ _ _ _ hu
        · cases e1
      · rename_i h1; cases h1
      · rename_i h1; cases h1
      · cases e1
    · rename_i hu
      cases h
      have e1 := prim _ rfl (by simp [hu]) (by simp [hu])
      unfold eq1 at e1
      split at e1
      · rename_i h1; cases h1
      · cases e1
        rw [relBool rx, relBool ry]
        exact run_equalIn_bool' w d' t _ _ hu
      · rename_i h1; cases h1
      · cases e1
    · rename_i hu
      cases h
      have e1 := prim _ rfl (by simp [hu]) (by simp [hu])
      unfold eq1 at e1
      split at e1
      · rename_i h1; cases h1
      · rename_i h1; cases h1
      · cases e1
        obtain ⟨x', q1, q2, _⟩ := relStr rx
        obtain ⟨y', p1, p2, _⟩ := relStr ry
        rw [q1, p1, run_equalIn_string w d' t _ _ hu, ba_toList, ba_toList, q2, p2]
      · cases e1
    · rename_i fs hu
      split at h
      · cases h
      · rename_i hst
        have hwd : wd = some ks.length := by
          unfold aggW at hw
          rw [hu] at hw
          simp only [Option.map_eq_some_iff] at hw
          obtain ⟨m, _, rfl⟩ := hw
          simp only [width, Option.getD_some] at hwn
          rw [hwn]
        subst hwd
        simp only [ofCells, Option.some.injEq] at hx hy
        subst hx; subst hy
        obtain ⟨xs, rfl, crx⟩ := agg_inv rx
        obtain ⟨ys, rfl, cry⟩ := agg_inv ry
        have hf : P.fieldsOf t = fs := by simp [Program.fieldsOf, hu]
        rw [run_equalIn_struct w d' t xs ys (by rw [hf]; exact hu) (by simpa using hst), hf]
        have gen : ∀ (l : List Field) (off : Nat) (r : Bool) (k2 : List KK), flatFs P (flatT P d) l off = some k2 → off + k2.length = ks.length → eqK k2 (cx.drop off) (cy.drop off) = some r → (Op.eqFields d' xs ys l).run P w = .ok r w := by
          intro l
          induction l with
          | nil =>
            intro off r k2 h1 ho h2
            simp only [flatFs, Option.some.injEq] at h1
            subst h1
            simp only [List.length_nil] at ho
            rw [List.drop_of_length_le (by omega), List.drop_of_length_le (by omega)] at h2
            simp [eqK] at h2
            subst h2
            simp [Op.eqFields]
          | cons f l ih =>
            intro off r k2 h1 ho h2
            simp only [flatFs] at h1
            split at h1
            · rename_i hn
              split at h1
              · rename_i m wd' hm hwd'
                split at h1
                · rename_i hwm
                  simp only [Option.map_eq_some_iff] at h1
                  obtain ⟨k3, h1, rfl⟩ := h1
                  rw [List.length_append] at ho
                  have ex : cx.drop off = (cx.drop off).take m.length ++ cx.drop (off + m.length) := by rw [← List.drop_drop, List.take_append_drop]
                  have ey : cy.drop off = (cy.drop off).take m.length ++ cy.drop (off + m.length) := by rw [← List.drop_drop, List.take_append_drop]
                  rw [ex, ey] at h2
                  have lx : ((cx.drop off).take m.length).length = m.length := by simp; omega
                  have ly : ((cy.drop off).take m.length).length = m.length := by simp; omega
                  obtain ⟨r1, r2, q1, q2, rfl⟩ := eqK_append _ _ _ _ _ _ _ lx ly h2
                  have hof : ∀ ws : List Av, ws.length = m.length → ∃ z, ofCells wd' ws = some z := by
                    intro ws hws
                    cases wd' with
                    | some k => exact ⟨_, rfl⟩
                    | none =>
                      simp only [width, Option.getD_none] at hwm
                      match ws, hws with
                      | [z], _ => exact ⟨z, rfl⟩
                      | [], hws => simp at hws; omega
                      | _ :: _ :: _, hws => simp at hws; omega
                  obtain ⟨zx, hzx⟩ := hof _ lx
                  obtain ⟨zy, hzy⟩ := hof _ ly
                  obtain ⟨va, ea, ra⟩ := part_sound (w := w) (off := off) hwd' crx (by rw [hwm]; exact window_all (by omega)) hzx
                  obtain ⟨vb, eb, rb⟩ := part_sound (w := w) (off := off) hwd' cry (by rw [hwm]; exact window_all (by omega)) hzy
                  have hrec := flat_eq d f.type m wd' hm hwd' hwm d' (by omega) _ _ zx zy va vb r1 hzx hzy ra rb q1
                  simp only [Op.eqFields, if_pos hn.1, Sem.run_bind]
                  rw [hn.2, ea]
                  simp only [Result.andThen_ok]
                  rw [eb]
                  simp only [Result.andThen_ok]
                  rw [hrec]
                  simp only [Result.andThen_ok]
                  cases r1
                  · simp
                  · have := ih (off + m.length) r2 k3 h1 (by omega) q2
                    simpa using this
                · cases h1
              · cases h1
            · cases h1
        exact gen fs.toList 0 r ks h (by omega) (by simpa using he)
    · cases h

end
end Go.Am

namespace Go.Am
open Go

section
variable {P : Program} {G : Glo} {B : Nat → Bool} {w : World} {V : View} {s : St} {a : Act} {o : Oper} {l : Lab}

theorem keyT_spec {t : TypeId} {ag : Bool} {ks : List KK} (h : keyT P t = some (ag, ks)) :
    ∃ wd, flatT P 9 t = some ks ∧ aggW P t = some wd ∧ width wd = ks.length ∧ P.eqGuardType P.depth t = false ∧ wd.isSome = ag := by
  simp only [keyT, Option.bind_eq_bind, Option.bind_eq_some_iff] at h
  obtain ⟨ks', h1, wd, h2, h⟩ := h
  split at h
  · rename_i q
    simp only [Option.some.injEq, Prod.mk.injEq] at h
    obtain ⟨rfl, rfl⟩ := h
    exact ⟨wd, h1, h2, q.1, q.2, rfl⟩
  · cases h

/-- Equality of two values of a type that is compared. -/
theorem eqVals_run {t : TypeId} {ag : Bool} {ks : List KK} (h : keyT P t = some (ag, ks)) {x y : Av} {vx vy : Value} {r : Bool} (rx : RelV V vx x) (ry : RelV V vy y) (he : eqVals ag ks x y = some r) :
    (Op.equal t vx vy).run P w = .ok r w := by
  obtain ⟨wd, h1, h2, h3, _, h5⟩ := keyT_spec h
  have key : ∀ cx cy, ofCells wd cx = some x → ofCells wd cy = some y → eqK ks cx cy = some r → (Op.equal t vx vy).run P w = .ok r w := by
    intro cx cy e1 e2 e3
    exact flat_eq 9 t ks wd h1 h2 h3 10000 (by omega) cx cy x y vx vy r e1 e2 rx ry e3
  unfold eqVals at he
  split at he
  · cases wd with
    | none => cases h5
    | some n => exact key _ _ rfl rfl he
  · cases wd with
    | none => exact key _ _ rfl rfl he
    | some n => cases h5
  · cases he

theorem sat_eqA (hs : Sim G w V s.H s.T) (hE : RelE V a.tmps s.e) {op : BinOp} {t u : TypeId} {x y : Operand} {dx dy : Od} {ks : List KK} {neg : Bool} (ho : o.op = .binOp op t x y u) (hop : (op = .eql ∧ neg = false) ∨ (op = .neq ∧ neg = true))
    (hk : keyT P t = some (true, ks)) (hx : odC G x = some dx) (hy : odC G y = some dy) (h : evalOp (.eqA neg ks dx dy) s = some l) : OpSat P G w V s a o l := by
  have rx := od_sound hs hE hx
  have ry := od_sound hs hE hy
  simp only [evalOp] at h
  obtain ⟨z, hz, rfl⟩ := lab_pure h
  simp only [Option.map_eq_some_iff] at hz
  obtain ⟨r, hr, rfl⟩ := hz
  have hrun := eqVals_run (w := w) hk rx ry hr
  have hag : ∃ xs ys, dx.ev s.e = .agg xs ∧ dy.ev s.e = .agg ys := by
    unfold eqVals at hr
    split at hr
    · rename_i h1 h2; exact ⟨_, _, by assumption, by assumption⟩
    · contradiction
    · cases hr
  obtain ⟨xs, ys, e1, e2⟩ := hag
  rw [e1] at rx
  rw [e2] at ry
  obtain ⟨vx, ex, _⟩ := agg_inv rx
  obtain ⟨vy, ey, _⟩ := agg_inv ry
  obtain ⟨_, _, _, _, hg, _⟩ := keyT_spec hk
  have hguard := run_eqGuard_agg (P := P) w op t x y vx vy hg
  rw [ex, ey] at hrun
  refine .pure hs (cv := .bool (r != neg)) ?_ (.bool _)
  rcases hop with ⟨rfl, rfl⟩ | ⟨rfl, rfl⟩
  · simp only [Bool.bne_false]
    simp [execOp, ho, ex, ey, hguard, binOp, hrun]
  · simp only [Bool.bne_true]
    simp [execOp, ho, ex, ey, hguard, binOp, hrun]

theorem sat_binB (hs : Sim G w V s.H s.T) (hE : RelE V a.tmps s.e) {op : BinOp} {t u : TypeId} {x y : Operand} {dx dy : Od} {neg : Bool} (ho : o.op = .binOp op t x y u) (hop : (op = .eql ∧ neg = false) ∨ (op = .neq ∧ neg = true))
    (hu : P.underlying t = some .bool) (hx : odC G x = some dx) (hy : odC G y = some dy) (h : evalOp (.binB neg dx dy) s = some l) : OpSat P G w V s a o l := by
  have rx := od_sound hs hE hx
  have ry := od_sound hs hE hy
  simp only [evalOp] at h
  obtain ⟨z, hz, rfl⟩ := lab_pure h
  unfold binBA at hz
  split at hz
  · rename_i b c hv hv'
    cases hz
    rw [hv] at rx
    rw [hv'] at ry
    have hg : (eqGuard op t x y (.bool b) (.bool c)).run P w = .ok () w := by unfold eqGuard; cases op <;> rfl
    have he : (Op.equal t (.bool b) (.bool c)).run P w = .ok (b == c) w := run_equalIn_bool' w 9999 t b c hu
    refine .pure hs (cv := .bool ((b == c) != neg)) ?_ (.bool _)
    rcases hop with ⟨rfl, rfl⟩ | ⟨rfl, rfl⟩
    · simp only [Bool.bne_false]
      simp [execOp, ho, relBool rx, relBool ry, hg, binOp, he]
    · simp only [Bool.bne_true]
      simp [execOp, ho, relBool rx, relBool ry, hg, binOp, he]
  · cases hz

/-- A slice or a pointer whose being nil is known. -/
def NilIs (v : Value) (b : Bool) : Prop := (∃ x n c, v = .slice x n c ∧ x.isNone = b) ∨ (∃ x, v = .pointer x ∧ x.isNone = b) ∨ (∃ f x y, v = .func f x y ∧ b = false) ∨ (v = .nilFunc ∧ b = true)

theorem nil_sound {v : Value} {x : Av} {b : Bool} (h : RelV V v x) (hb : nilA x = some b) : NilIs v b := by
  unfold nilA at hb
  split at hb
  · cases hb
    cases h
    exact .inl ⟨_, _, _, rfl, rfl⟩
  · cases hb
    cases h
    · exact .inl ⟨_, _, _, rfl, rfl⟩
    · rename_i q; exact absurd q id
  · rename_i hne
    cases hb
    cases h
    · exact absurd rfl hne
    · exact .inl ⟨_, _, _, rfl, rfl⟩
  · cases hb
    cases h with
    | bs v b ver sz off len p =>
      obtain ⟨c, now, k, p1, p2, x', o', cap, rfl, _⟩ := p
      exact .inl ⟨_, _, _, rfl, rfl⟩
  · cases hb
    cases h with
    | ptr v b ver row off p =>
      obtain ⟨c, sz, now, k, p1, p2, x', o', rfl, _⟩ := p
      exact .inr (.inl ⟨_, rfl, rfl⟩)
  · cases hb
    cases h
    exact .inr (.inl ⟨_, rfl, rfl⟩)
  · cases hb
    cases h
    exact .inr (.inl ⟨_, rfl, rfl⟩)
  · cases hb
    cases h
    exact .inr (.inr (.inl ⟨_, _, _, rfl, rfl⟩))
  · cases hb
    cases h
    exact .inr (.inr (.inr ⟨rfl, rfl⟩))
  · cases hb

theorem eqSlice (d : Nat) {t e : TypeId} (he : P.underlying t = some (.slice e)) (p p' : Option Addr) (n k n' k' : Nat) (h : p = none ∨ p' = none) :
    (Op.equalIn (d + 1) t (.slice p n k) (.slice p' n' k')).run P w = .ok (p.isNone && p'.isNone) w := by
  rcases h with rfl | rfl
  · cases p' <;> simp [Op.equalIn, run_underlying he]
  · cases p <;> simp [Op.equalIn, run_underlying he]

theorem eqPointer (d : Nat) {t e : TypeId} (he : P.underlying t = some (.pointer e)) (p p' : Option Addr) (h : p = none ∨ p' = none) :
    (Op.equalIn (d + 1) t (.pointer p) (.pointer p')).run P w = .ok (p.isNone && p'.isNone) w := by
  rcases h with rfl | rfl
  · cases p' <;> simp [Op.equalIn, run_underlying he]
  · cases p <;> simp [Op.equalIn, run_underlying he]

theorem sat_binN (hs : Sim G w V s.H s.T) (hE : RelE V a.tmps s.e) {op : BinOp} {t u : TypeId} {x y : Operand} {dx dy : Od} {neg : Bool} (ho : o.op = .binOp op t x y u) (hop : (op = .eql ∧ neg = false) ∨ (op = .neq ∧ neg = true))
    (hu : (∃ e, P.underlying t = some (.slice e)) ∨ ∃ e, P.underlying t = some (.pointer e)) (hx : odC G x = some dx) (hy : odC G y = some dy) (hfit : (∃ e, P.underlying t = some (.slice e)) → ∃ b n c b' n' c', a.eval x = .slice b n c ∧ a.eval y = .slice b' n' c')
    (hfit2 : (∃ e, P.underlying t = some (.pointer e)) → ∃ b b', a.eval x = .pointer b ∧ a.eval y = .pointer b')
    (h : evalOp (.binN neg dx dy) s = some l) : OpSat P G w V s a o l := by
  have rx := od_sound hs hE hx
  have ry := od_sound hs hE hy
  simp only [evalOp] at h
  obtain ⟨z, hz, rfl⟩ := lab_pure h
  have fin : ∀ (r : Bool), (Op.equal t (a.eval x) (a.eval y)).run P w = .ok r w → (∀ (m n : IntKind) p q, ¬ (a.eval x = .int m p ∧ a.eval y = .int n q)) → z = .bool (r != neg) → OpSat P G w V s a o { v := z } := by
    intro r hr _ hz'
    subst hz'
    refine .pure hs (cv := .bool (r != neg)) ?_ (.bool _)
    rcases hu with ⟨e, he⟩ | ⟨e, he⟩
    · obtain ⟨b, n, c, b', n', c', e1, e2⟩ := hfit ⟨e, he⟩
      rw [e1, e2] at hr
      have hg : (eqGuard op t x y (.slice b n c) (.slice b' n' c')).run P w = .ok () w := by unfold eqGuard; cases op <;> rfl
      rcases hop with ⟨rfl, rfl⟩ | ⟨rfl, rfl⟩
      · simp only [Bool.bne_false]
        simp [execOp, ho, e1, e2, hg, binOp, hr]
      · simp only [Bool.bne_true]
        simp [execOp, ho, e1, e2, hg, binOp, hr]
    · obtain ⟨b, b', e1, e2⟩ := hfit2 ⟨e, he⟩
      rw [e1, e2] at hr
      have hg : (eqGuard op t x y (.pointer b) (.pointer b')).run P w = .ok () w := by unfold eqGuard; cases op <;> rfl
      rcases hop with ⟨rfl, rfl⟩ | ⟨rfl, rfl⟩
      · simp only [Bool.bne_false]
        simp [execOp, ho, e1, e2, hg, binOp, hr]
      · simp only [Bool.bne_true]
        simp [execOp, ho, e1, e2, hg, binOp, hr]
  have eqs : ∀ (b c : Bool), NilIs (a.eval x) b → NilIs (a.eval y) c → (c = true → (Op.equal t (a.eval x) (a.eval y)).run P w = .ok b w) ∧ (b = true → (Op.equal t (a.eval x) (a.eval y)).run P w = .ok c w) := by
    intro b c h1 h2
    rcases hu with ⟨e, he⟩ | ⟨e, he⟩
    · obtain ⟨p, n, k, p', n', k', e1, e2⟩ := hfit ⟨e, he⟩
      rw [e1] at h1 ⊢
      rw [e2] at h2 ⊢
      have hb : p.isNone = b := by
        rcases h1 with ⟨_, _, _, q, r⟩ | ⟨_, q, _⟩ | ⟨_, _, _, q, _⟩ | ⟨q, _⟩
        · cases q; exact r
        · cases q
        · cases q
        · cases q
      have hc : p'.isNone = c := by
        rcases h2 with ⟨_, _, _, q, r⟩ | ⟨_, q, _⟩ | ⟨_, _, _, q, _⟩ | ⟨q, _⟩
        · cases q; exact r
        · cases q
        · cases q
        · cases q
      subst hb; subst hc
      constructor
      · intro hn
        cases p' with
        | some _ => cases hn
        | none => exact (eqSlice (w := w) 9999 he p none n k n' k' (.inr rfl)).trans (by simp)
      · intro hn
        cases p with
        | some _ => cases hn
        | none => exact (eqSlice (w := w) 9999 he none p' n k n' k' (.inl rfl)).trans (by simp)
    · obtain ⟨p, p', e1, e2⟩ := hfit2 ⟨e, he⟩
      rw [e1] at h1 ⊢
      rw [e2] at h2 ⊢
      have hb : p.isNone = b := by
        rcases h1 with ⟨_, _, _, q, _⟩ | ⟨_, q, r⟩ | ⟨_, _, _, q, _⟩ | ⟨q, _⟩
        · cases q
        · cases q; exact r
        · cases q
        · cases q
      have hc : p'.isNone = c := by
        rcases h2 with ⟨_, _, _, q, _⟩ | ⟨_, q, r⟩ | ⟨_, _, _, q, _⟩ | ⟨q, _⟩
        · cases q
        · cases q; exact r
        · cases q
        · cases q
      subst hb; subst hc
      constructor
      · intro hn
        cases p' with
        | some _ => cases hn
        | none => exact (eqPointer (w := w) 9999 he p none (.inr rfl)).trans (by simp)
      · intro hn
        cases p with
        | some _ => cases hn
        | none => exact (eqPointer (w := w) 9999 he none p' (.inl rfl)).trans (by simp)
  have nint : ∀ (m n : IntKind) p q, ¬ (a.eval x = .int m p ∧ a.eval y = .int n q) := by
    rintro m n p q ⟨e1, e2⟩
    rcases hu with hu | hu
    · obtain ⟨_, _, _, _, _, _, q1, _⟩ := hfit hu; rw [e1] at q1; cases q1
    · obtain ⟨_, _, q1, _⟩ := hfit2 hu; rw [e1] at q1; cases q1
  unfold binNA at hz
  split at hz
  · rename_i b h1 h2
    simp only [Option.some.injEq] at hz
    exact fin b ((eqs b true (nil_sound rx h1) (nil_sound ry h2)).1 rfl) nint hz.symm
  · rename_i b _ h1 h2
    simp only [Option.some.injEq] at hz
    exact fin b ((eqs true b (nil_sound rx h1) (nil_sound ry h2)).2 rfl) nint hz.symm
  · cases hz

/-- What a map's entries are searched for. -/
theorem find_run {kt : TypeId} {ag : Bool} {ks : List KK} (hk : keyT P kt = some (ag, ks)) {x : Av} {vx : Value} (rx : RelV V vx x) : ∀ (kvs : List (Av × Av)) (es : List MapEntry) (i : Nat) (r : Option (Nat × Av)),
    es.length = kvs.length → (∀ (j : Nat) e p, es[j]? = some e → kvs[j]? = some p → RelV V e.key p.1 ∧ RelV V e.val p.2) → findA ag ks x kvs i = some r →
    ∃ rv, (Instr.findAsking kt vx es i).run P w = .ok rv w ∧ (match r, rv with
      | none, none => True
      | some (j, y), some (j', v) => j = j' ∧ RelV V v y
      | _, _ => False) ∧ (∀ j y, r = some (j, y) → i ≤ j ∧ ∃ e p, es[j - i]? = some e ∧ kvs[j - i]? = some p ∧ eqVals ag ks x p.1 = some true)
  | [], [], i, r, _, _, h => by
    simp only [findA, Option.some.injEq] at h
    subst h
    exact ⟨none, by simp [Instr.findAsking], trivial, fun _ _ e => by cases e⟩
  | p :: kvs, e :: es, i, r, hl, hr, h => by
    obtain ⟨k', v'⟩ := p
    obtain ⟨r1, r2⟩ := hr 0 e (k', v') rfl rfl
    simp only [findA] at h
    split at h
    · rename_i he
      simp only [Option.some.injEq] at h
      subst h
      have := eqVals_run (w := w) hk rx r1 he
      exact ⟨some (i, e.val), by simp [Instr.findAsking, this], ⟨rfl, r2⟩, fun j y q => by cases q; exact ⟨Nat.le_refl _, e, (k', v'), by simp, by simp, he⟩⟩
    · rename_i he
      have := eqVals_run (w := w) hk rx r1 he
      obtain ⟨rv, q1, q2, q3⟩ := find_run hk rx kvs es (i + 1) r (by simpa using hl) (fun j e' p' he' hp' => hr (j + 1) e' p' (by simpa using he') (by simpa using hp')) h
      refine ⟨rv, by simp [Instr.findAsking, this, q1], q2, fun j y q => ?_⟩
      obtain ⟨g1, e', p', g2, g3, g4⟩ := q3 j y q
      have : j - i = (j - (i + 1)) + 1 := by omega
      exact ⟨by omega, e', p', by rw [this]; simpa using g2, by rw [this]; simpa using g3, g4⟩
    · cases h
  | [], _ :: _, _, _, hl, _, _ => by simp at hl
  | _ :: _, [], _, _, hl, _, _ => by simp at hl

end
end Go.Am

namespace Go.Am
open Go

section
variable {P : Program} {G : Glo} {B : Nat → Bool} {w : World} {V : View} {s : St} {a : Act} {o : Oper} {l : Lab}

theorem ofCells_of {wd : Option Nat} {ws : List Av} (h : ws.length = width wd) : ∃ z, ofCells wd ws = some z := by
  cases wd with
  | some k => exact ⟨_, rfl⟩
  | none =>
    simp only [width, Option.getD_none] at h
    match ws, h with
    | [z], _ => exact ⟨z, rfl⟩

theorem check_run (em : Bool) : ∀ (d : Nat) (t : TypeId) (ks : List KK) (wd : Option Nat), flatT P d t = some ks → aggW P t = some wd → width wd = ks.length →
    ∀ (d' : Nat), d ≤ d' → ∀ (cx : List Av) (x : Av) (vx : Value), cx.length = ks.length → ofCells wd cx = some x → RelV V vx x → (Instr.checkKey em d' t vx).run P w = .ok () w
  | 0, _, _, _, h, _, _, _, _, _, _, _, _, _, _ => by cases h
  | d + 1, t, ks, wd, h, hw, hwn, d', hd, cx, x, vx, hcx, hx, rx => by
    obtain ⟨d', rfl⟩ : ∃ k, d' = k + 1 := ⟨d' - 1, by omega⟩
    simp only [flatT] at h
    split at h
    · rename_i k hu; simp only [Instr.checkKey, Sem.run_bind, run_underlying hu, Result.andThen_ok]; rfl
    · rename_i hu; simp only [Instr.checkKey, Sem.run_bind, run_underlying hu, Result.andThen_ok]; rfl
    · rename_i hu; simp only [Instr.checkKey, Sem.run_bind, run_underlying hu, Result.andThen_ok]; rfl
    · rename_i fs hu
      split at h
      · cases h
      · have hwd : wd = some ks.length := by
          unfold aggW at hw
          rw [hu] at hw
          simp only [Option.map_eq_some_iff] at hw
          obtain ⟨m, _, rfl⟩ := hw
          simp only [width, Option.getD_some] at hwn
          rw [hwn]
        subst hwd
        simp only [ofCells, Option.some.injEq] at hx
        subst hx
        obtain ⟨xs, rfl, crx⟩ := agg_inv rx
        have gen : ∀ (l : List Field) (off : Nat) (k2 : List KK), flatFs P (flatT P d) l off = some k2 → off + k2.length = ks.length →
            (forIn (m := Sem) l PUnit.unit (fun f _ => if f.name ≠ "_" then (do Instr.checkKey em d' f.type (← part f.type xs f.offset); pure (ForInStep.yield PUnit.unit)) else pure (ForInStep.yield PUnit.unit))).run P w = .ok PUnit.unit w := by
          intro l
          induction l with
          | nil => intro off k2 _ _; simp
          | cons f l ih =>
            intro off k2 h1 ho
            simp only [flatFs] at h1
            split at h1
            · rename_i hn
              split at h1
              · rename_i m wd' hm hwd'
                split at h1
                · rename_i hwm
                  simp only [Option.map_eq_some_iff] at h1
                  obtain ⟨k3, h1, rfl⟩ := h1
                  rw [List.length_append] at ho
                  have lx : ((cx.drop off).take m.length).length = m.length := by simp; omega
                  obtain ⟨zx, hzx⟩ := ofCells_of (wd := wd') (lx.trans hwm.symm)
                  obtain ⟨va, ea, ra⟩ := part_sound (w := w) (off := off) hwd' crx (by rw [hwm]; exact window_all (by omega)) hzx
                  have hrec := check_run em d f.type m wd' hm hwd' hwm d' (by omega) _ zx va lx hzx ra
                  simp only [List.forIn_cons, if_pos hn.1, Sem.run_bind]
                  rw [hn.2, ea]
                  simp only [Result.andThen_ok]
                  rw [hrec]
                  simp only [Result.andThen_ok, Sem.run_pure]
                  exact ih (off + m.length) k3 h1 (by omega)
                · cases h1
              · cases h1
            · cases h1
        have := gen fs.toList 0 ks h (by omega)
        simp only [Instr.checkKey, Sem.run_bind, run_underlying hu, Result.andThen_ok]
        rw [← Array.forIn_toList]
        simp only [ne_eq, ite_not] at this ⊢
        rw [this]
        rfl
    · cases h

/-- A key is checked. -/
theorem check_key (em : Bool) {kt : TypeId} {ag : Bool} {ks : List KK} (hk : keyT P kt = some (ag, ks)) {x : Av} {vx : Value} (rx : RelV V vx x) (hf : keyFit ag ks x = true) : (Instr.checkKey em 10000 kt vx).run P w = .ok () w := by
  obtain ⟨wd, h1, h2, h3, _, h5⟩ := keyT_spec hk
  cases wd with
  | some n =>
    simp only [Option.isSome_some] at h5
    subst h5
    unfold keyFit at hf
    split at hf
    · rename_i cs
      simp only [Bool.true_and, beq_iff_eq] at hf
      exact check_run em 9 kt ks _ h1 h2 h3 10000 (by omega) cs _ vx hf rfl rx
    · cases hf
  | none =>
    simp only [Option.isSome_none] at h5
    subst h5
    have hl : ks.length = 1 := by simpa [width] using h3.symm
    exact check_run em 9 kt ks none h1 h2 h3 10000 (by omega) [x] x vx (by simp [hl]) rfl rx

/-- What a search among the entries comes to. -/
def FoundOk (V : View) (ag : Bool) (ks : List KK) (x : Av) (kvs : List (Av × Av)) (es : List MapEntry) (i : Nat) (r : Option (Nat × Av)) (rv : Option (Nat × Value)) : Prop :=
  (match r, rv with
    | none, none => True
    | some (j, y), some (j', v) => j = j' ∧ RelV V v y
    | _, _ => False) ∧ (∀ j y, r = some (j, y) → i ≤ j ∧ ∃ e p, es[j - i]? = some e ∧ kvs[j - i]? = some p ∧ eqVals ag ks x p.1 = some true)

theorem now_run {ks : List KK} {desc : TypeDesc} {k : KK} (hks : ks = [k]) (hdesc : (∃ q, k = .i q ∧ desc = .int q) ∨ (k = .b ∧ desc = .bool) ∨ (k = .s ∧ desc = .string)) {x : Av} {vx : Value} (rx : RelV V vx x) : ∀ (kvs : List (Av × Av)) (es : List MapEntry) (i : Nat) (r : Option (Nat × Av)),
    es.length = kvs.length → (∀ (j : Nat) e p, es[j]? = some e → kvs[j]? = some p → RelV V e.key p.1 ∧ RelV V e.val p.2) → findA false ks x kvs i = some r →
    ∃ rv, Instr.findNow desc vx es i = some rv ∧ FoundOk V false ks x kvs es i r rv
  | [], [], i, r, _, _, h => by
    simp only [findA, Option.some.injEq] at h
    subst h
    exact ⟨none, rfl, trivial, fun _ _ e => by cases e⟩
  | p :: kvs, e :: es, i, r, hl, hr, h => by
    obtain ⟨k', v'⟩ := p
    obtain ⟨r1, r2⟩ := hr 0 e (k', v') rfl rfl
    have hsame : ∀ b, eqVals false ks x k' = some b → Instr.sameNow desc vx e.key = some b := by
      intro b hb
      subst hks
      simp only [eqVals, eqK] at hb
      split at hb
      · rename_i b0 hb0
        simp at hb
        subst hb
        unfold eq1 at hb0
        split at hb0
        · rename_i q k1 x1 k2 y1
          split at hb0
          · rename_i hk
            obtain ⟨rfl, rfl⟩ := hk
            cases hb0
            rcases hdesc with ⟨q, hq, rfl⟩ | ⟨hq, rfl⟩ | ⟨hq, rfl⟩
            · rw [(relInt rx).1, (relInt r1).1]; simp [Instr.sameNow]
            · cases hq
            · cases hq
          · cases hb0
        · cases hb0
          rcases hdesc with ⟨q, hq, rfl⟩ | ⟨hq, rfl⟩ | ⟨hq, rfl⟩
          · cases hq
          · rw [relBool rx, relBool r1]; simp [Instr.sameNow]
          · cases hq
        · cases hb0
          rcases hdesc with ⟨q, hq, rfl⟩ | ⟨hq, rfl⟩ | ⟨hq, rfl⟩
          · cases hq
          · cases hq
          · obtain ⟨x', q1, q2, _⟩ := relStr rx
            obtain ⟨y', p1, p2, _⟩ := relStr r1
            rw [q1, p1]; simp [Instr.sameNow, beq_toListBytes, ba_toList, q2, p2]
        · cases hb0
      · cases hb
    simp only [findA] at h
    split at h
    · rename_i he
      simp only [Option.some.injEq] at h
      subst h
      exact ⟨some (i, e.val), by simp [Instr.findNow, hsame _ he], ⟨rfl, r2⟩, fun j y q => by cases q; exact ⟨Nat.le_refl _, e, (k', v'), by simp, by simp, he⟩⟩
    · rename_i he
      obtain ⟨rv, q1, q2, q3⟩ := now_run hks hdesc rx kvs es (i + 1) r (by simpa using hl) (fun j e' p' he' hp' => hr (j + 1) e' p' (by simpa using he') (by simpa using hp')) h
      refine ⟨rv, by simp [Instr.findNow, hsame _ he, q1], q2, fun j y q => ?_⟩
      obtain ⟨g1, e', p', g2, g3, g4⟩ := q3 j y q
      have : j - i = (j - (i + 1)) + 1 := by omega
      exact ⟨by omega, e', p', by rw [this]; simpa using g2, by rw [this]; simpa using g3, g4⟩
    · cases h
  | [], _ :: _, _, _, hl, _, _ => by simp at hl
  | _ :: _, [], _, _, hl, _, _ => by simp at hl

theorem findKey_run {kt : TypeId} {ag : Bool} {ks : List KK} (hk : keyT P kt = some (ag, ks)) {x : Av} {vx : Value} (rx : RelV V vx x) {kvs : List (Av × Av)} {es : List MapEntry} {r : Option (Nat × Av)}
    (hl : es.length = kvs.length) (hr : ∀ (j : Nat) e p, es[j]? = some e → kvs[j]? = some p → RelV V e.key p.1 ∧ RelV V e.val p.2) (h : findA ag ks x kvs 0 = some r) :
    ∃ rv, (Instr.findKey kt vx es).run P w = .ok rv w ∧ FoundOk V ag ks x kvs es 0 r rv := by
  obtain ⟨wd, h1, h2, h3, _, h5⟩ := keyT_spec hk
  have h1' := h1
  simp only [flatT] at h1'
  have prim : ∀ desc k, P.underlying kt = some desc → ks = [k] → wd = none → ((∃ q, k = .i q ∧ desc = .int q) ∨ (k = .b ∧ desc = .bool) ∨ (k = .s ∧ desc = .string)) → ∃ rv, (Instr.findKey kt vx es).run P w = .ok rv w ∧ FoundOk V ag ks x kvs es 0 r rv := by
    intro desc k hu hks hwd hd
    subst hwd
    simp only [Option.isSome_none] at h5
    subst h5
    obtain ⟨rv, q1, q2⟩ := now_run hks hd rx kvs es 0 r hl hr h
    exact ⟨rv, by simp [Instr.findKey, run_underlying hu, q1], q2⟩
  have hwd : (∀ fs, P.underlying kt ≠ some (.struct fs)) → (∀ k e, P.underlying kt ≠ some (.array k e)) → wd = none := by
    intro n1 n2
    unfold aggW at h2
    split at h2
    · rename_i hu; exact absurd hu (n1 _)
    · rename_i hu; exact absurd hu (n2 _ _)
    · cases h2; rfl
    · cases h2
  split at h1'
  · rename_i k hu; cases h1'; exact prim _ _ hu rfl (hwd (by simp [hu]) (by simp [hu])) (.inl ⟨k, rfl, rfl⟩)
  · rename_i hu; cases h1'; exact prim _ _ hu rfl (hwd (by simp [hu]) (by simp [hu])) (.inr (.inl ⟨rfl, rfl⟩))
  · rename_i hu; cases h1'; exact prim _ _ hu rfl (hwd (by simp [hu]) (by simp [hu])) (.inr (.inr ⟨rfl, rfl⟩))
  · rename_i fs hu
    obtain ⟨rv, q1, q2, q3⟩ := find_run (w := w) hk rx kvs es 0 r hl hr h
    refine ⟨rv, ?_, q2, q3⟩
    cases es with
    | nil =>
      cases kvs with
      | nil =>
        simp [Instr.findAsking] at q1
        subst q1
        simp [Instr.findKey, run_underlying hu, Instr.findNow]
      | cons => simp at hl
    | cons e es =>
      have : Instr.findNow (.struct fs) vx (e :: es) 0 = none := by simp [Instr.findNow, Instr.sameNow]
      simp [Instr.findKey, run_underlying hu, this, q1]
  · cases h1'

theorem run_getMap {c : Nat} {es : Array MapEntry} {clock : Nat} (h : w.heap[c]? = some (.map es clock)) : (getObj c).run P w = .ok (.map es clock) w := by
  simp [getObj, Sem.run, h]

theorem sat_look (hs : Sim G w V s.H s.T) (hE : RelE V a.tmps s.e) {t kt et : TypeId} {x i : Operand} {ok ag : Bool} {ks : List KK} {inf : TypeInfo} {zv : Value} {z : Av} {dx di : Od} (ho : o.op = .lookup t x i ok)
    (hu : P.underlying t = some (.map kt et)) (hk : keyT P kt = some (ag, ks)) (hi0 : P.info? et = some inf) (hz : inf.zero = some zv) (hzv : avV zv = some z) (hx : odC G x = some dx) (hi : odC G i = some di)
    (h : evalOp (.look ag ks z ok dx di) s = some l) : OpSat P G w V s a o l := by
  have rx := od_sound hs hE hx
  have ri := od_sound hs hE hi
  simp only [evalOp] at h
  split at h
  · rename_i kvs hb
    · split at h
      · rename_i hfit
        obtain ⟨c', es, clock, hq, q2, q3⟩ := map_ok hs rx hb
        · skip
          have hck := check_key (w := w) es.isEmpty hk ri hfit
          have hz0 : (zeroValue et).run P w = .ok zv w := by simp [zeroValue, run_info hi0, hz]
          have go : ∀ r, findA ag ks (di.ev s.e) kvs 0 = some r → ∃ rv, (Instr.findKey kt (a.eval i) es.toList).run P w = .ok rv w ∧ FoundOk V ag ks (di.ev s.e) kvs es.toList 0 r rv :=
            fun r hr => findKey_run hk ri (by simpa using q3.1.1) (fun j e p he hp => q3.2 j e p (by simpa using he) hp) hr
          split at h
          · rename_i j y hf
            obtain ⟨y', hy', rfl⟩ := lab_pure h
            cases hy'
            obtain ⟨rv, g1, g2, _⟩ := go _ hf
            match rv, g2 with
            | some (j', v), g2 =>
              refine .pure hs (cv := if ok then .tuple #[v, .bool true] else v) ?_ ?_
              · simp [execOp, ho, Instr.lookup, run_underlying hu, hq, run_getMap q2, hck, g1]
              · cases ok
                · exact g2.2
                · refine .tup _ _ rfl (fun m u q hu hq => ?_)
                  match m with
                  | 0 => simp at hu hq; subst hu; subst hq; exact g2.2
                  | 1 => simp at hu hq; subst hu; subst hq; exact .bool _
                  | m + 2 => simp at hq
          · rename_i hf
            obtain ⟨y', hy', rfl⟩ := lab_pure h
            cases hy'
            obtain ⟨rv, g1, g2, _⟩ := go _ hf
            match rv, g2 with
            | none, g2 =>
              refine .pure hs (cv := if ok then .tuple #[zv, .bool false] else zv) ?_ ?_
              · simp [execOp, ho, Instr.lookup, run_underlying hu, hq, run_getMap q2, hck, g1, hz0]
              · cases ok
                · exact avV_rel V hzv
                · refine .tup _ _ rfl (fun m u q hu hq => ?_)
                  match m with
                  | 0 => simp at hu hq; subst hu; subst hq; exact avV_rel V hzv
                  | 1 => simp at hu hq; subst hu; subst hq; exact .bool _
                  | m + 2 => simp at hq
          · cases h
      · cases h
  · cases h

end
end Go.Am

namespace Go.Am
open Go

section
variable {P : Program} {G : Glo} {B : Nat → Bool} {w : World} {V : View} {s : St} {a : Act} {o : Oper} {l : Lab}

theorem sameBits1 {k : KK} {x y : Av} {vx vy : Value} (rx : RelV V vx x) (ry : RelV V vy y) (h : eq1 k x y = some true) (n : Nat) : Instr.sameBits n vx vy = true := by
  unfold eq1 at h
  split at h
  · split at h
    · rename_i q
      obtain ⟨rfl, rfl⟩ := q
      rw [(relInt rx).1, (relInt ry).1]
      simp only [Option.some.injEq, beq_iff_eq] at h
      subst h
      unfold Instr.sameBits; simp
    · cases h
  · rw [relBool rx, relBool ry]
    simp only [Option.some.injEq, beq_iff_eq] at h
    subst h
    unfold Instr.sameBits; simp
  · obtain ⟨x', q1, q2, _⟩ := relStr rx
    obtain ⟨y', p1, p2, _⟩ := relStr ry
    simp only [Option.some.injEq, beq_iff_eq] at h
    subst h
    have : x' = y' := by
      cases x'; cases y'; congr 1
      apply Array.ext'
      exact q2.trans p2.symm
    subst this
    rw [q1, p1]
    unfold Instr.sameBits
    rw [beq_toListBytes]
    simp
  · cases h

theorem sameBitsK (n : Nat) : ∀ (ks : List KK) (xs ys : List Av) (vs us : List Value), vs.length = xs.length → us.length = ys.length → (∀ (i : Nat) v x, vs[i]? = some v → xs[i]? = some x → RelV V v x) → (∀ (i : Nat) v x, us[i]? = some v → ys[i]? = some x → RelV V v x) →
    eqK ks xs ys = some true → (vs.zip us).all (fun (x, y) => Instr.sameBits n x y) = true ∧ vs.length = us.length
  | [], [], [], vs, us, h1, h2, _, _, _ => by
    have e1 : vs = [] := List.eq_nil_of_length_eq_zero h1
    have e2 : us = [] := List.eq_nil_of_length_eq_zero h2
    subst e1; subst e2
    exact ⟨rfl, rfl⟩
  | k :: ks, x :: xs, y :: ys, v :: vs, u :: us, h1, h2, r1, r2, h => by
    simp only [eqK] at h
    split at h
    · rename_i b hb
      simp only [Option.map_eq_some_iff, Bool.and_eq_true] at h
      obtain ⟨b', h, q1, q2⟩ := h
      subst q1; subst q2
      obtain ⟨g1, g2⟩ := sameBitsK n ks xs ys vs us (by simpa using h1) (by simpa using h2) (fun i v' x' hv hx => r1 (i + 1) v' x' (by simpa using hv) (by simpa using hx)) (fun i v' x' hv hx => r2 (i + 1) v' x' (by simpa using hv) (by simpa using hx)) h
      have := sameBits1 (r1 0 v x rfl rfl) (r2 0 u y rfl rfl) hb n
      refine ⟨?_, by simp [g2]⟩
      simp only [List.zip_cons_cons, List.all_cons, this, Bool.true_and]
      exact g1
    · cases h
  | _, _ :: _, _, [], _, h1, _, _, _, _ => by simp at h1
  | _, _, _ :: _, _, [], _, h2, _, _, _ => by simp at h2
  | [], _ :: _, _, _, _, _, _, _, _, h => by simp [eqK] at h
  | [], [], _ :: _, _, _, _, _, _, _, h => by simp [eqK] at h
  | _ :: _, [], _, _, _, _, _, _, _, h => by simp [eqK] at h
  | _ :: _, _ :: _, [], _, _, _, _, _, _, h => by simp [eqK] at h

theorem sameBits_run {ag : Bool} {ks : List KK} {x y : Av} {vx vy : Value} (rx : RelV V vx x) (ry : RelV V vy y) (h : eqVals ag ks x y = some true) : Instr.sameBits 10000 vx vy = true := by
  unfold eqVals at h
  split at h
  · obtain ⟨vs, rfl, c1, c2⟩ := agg_inv rx
    obtain ⟨us, rfl, d1, d2⟩ := agg_inv ry
    obtain ⟨g1, g2⟩ := sameBitsK (V := V) 9999 ks _ _ vs.toList us.toList (by simpa using c1) (by simpa using d1) (fun i v x hv hx => (c2 i v x (by simpa using hv) hx).1) (fun i v x hv hx => (d2 i v x (by simpa using hv) hx).1) h
    show Instr.sameBits (9999 + 1) (.agg vs) (.agg us) = true
    rw [Instr.sameBits]
    simp only [Bool.and_eq_true, beq_iff_eq]
    exact ⟨by simpa using g2, g1⟩
  · match ks, h with
    | [k], h =>
      simp only [eqK] at h
      split at h
      · rename_i b hb
        simp at h
        subst h
        exact sameBits1 rx ry hb _
      · cases h
    | [], h => simp [eqK] at h
    | _ :: _ :: _, h =>
      simp only [eqK] at h
      split at h <;> simp at h
  · cases h

theorem eq1_comm (k : KK) (x y : Av) : eq1 k x y = some true → eq1 k y x = some true := by
  intro h
  unfold eq1 at h
  split at h
  · split at h
    · rename_i q
      simp only [Option.some.injEq, beq_iff_eq] at h
      subst h
      obtain ⟨rfl, rfl⟩ := q
      simp [eq1]
    · cases h
  · simp only [Option.some.injEq, beq_iff_eq] at h; subst h; simp [eq1]
  · simp only [Option.some.injEq, beq_iff_eq] at h; subst h; simp [eq1]
  · cases h

theorem eqK_comm : ∀ (ks : List KK) (xs ys : List Av), eqK ks xs ys = some true → eqK ks ys xs = some true
  | [], [], [], _ => rfl
  | k :: ks, x :: xs, y :: ys, h => by
    simp only [eqK] at h ⊢
    split at h
    · rename_i b hb
      simp only [Option.map_eq_some_iff, Bool.and_eq_true] at h
      obtain ⟨b', h, q1, q2⟩ := h
      subst q1; subst q2
      rw [eq1_comm k x y hb]
      simp [eqK_comm ks xs ys h]
    · cases h
  | [], _ :: _, _, h => by simp [eqK] at h
  | [], [], _ :: _, h => by simp [eqK] at h
  | _ :: _, [], _, h => by simp [eqK] at h
  | _ :: _, _ :: _, [], h => by simp [eqK] at h

theorem eqVals_comm {ag : Bool} {ks : List KK} {x y : Av} (h : eqVals ag ks x y = some true) : eqVals ag ks y x = some true := by
  unfold eqVals at h ⊢
  split at h
  · exact eqK_comm _ _ _ h
  · exact eqK_comm _ _ _ h
  · cases h

/-- The world with another object in a block. -/
def setO (w : World) (c : Nat) (x : Obj) : World := { w with heap := w.heap.setIfInBounds c x }

theorem run_setMap {c : Nat} {es : Array MapEntry} {clock : Nat} {x : Obj} (h : w.heap[c]? = some (.map es clock)) : (setObj c x).run P w = .ok () (setO w c x) := by
  simp [setObj, Sem.run, h, setO]

theorem sim_setMap (hs : Sim G w V s.H s.T) {b c n k : Nat} {es es' : Array MapEntry} {clock clock' : Nat} {kvs' : List (Av × Av)} (hb : V.blk b = some (c, 0, n, k)) (hw : w.heap[c]? = some (.map es clock)) (hrd : ∀ x, V.rd c x = none)
    (hm : MapIn V es' kvs') : ∃ V', V.Le V' ∧ Keep w V (setO w c (.map es' clock')) V' ∧ Sim G (setO w c (.map es' clock')) V' (s.H.set b (.mapo kvs')) s.T := by
  have hlt := heap_lt hw
  have hVle : V.Le (V.setBlk b c 0 n k) := by
    refine ⟨fun _ _ _ e => e, fun i c' z m t e => ?_, fun i m c hh t e => ⟨m, c, hh, t, e, Nat.le_refl _, fun _ => ⟨rfl, rfl, rfl⟩⟩⟩
    by_cases hi : i = b
    · subst hi; rw [hb] at e; cases e; exact ⟨_, _, _, by simp [View.setBlk], Nat.le_refl _, fun _ => ⟨rfl, rfl⟩⟩
    · exact ⟨c', m, t, by simp only [View.setBlk]; rw [if_neg hi]; exact e, Nat.le_refl _, fun _ => ⟨rfl, rfl⟩⟩
  obtain ⟨q1, q2, q3⟩ := hs.turn (w' := setO w c (.map es' clock')) (o' := .mapo kvs') hb (Nat.le_refl _) (fun _ => ⟨rfl, rfl⟩) (.inl rfl) (by simp [setO]; exact hlt) (by simp [setO])
    (fun j _ hj => by simp only [setO]; rw [Array.getElem?_setIfInBounds, if_neg (Ne.symm hj)]) hrd rfl rfl rfl
    ⟨c, n, k, es', clock', by simp [View.setBlk], by simp [setO, hlt], hm.mono hVle, hrd⟩
  exact ⟨_, q1, q2, q3⟩

theorem sat_mset (hs : Sim G w V s.H s.T) (hE : RelE V a.tmps s.e) {t kt et : TypeId} {x i y : Operand} {ag : Bool} {ks : List KK} {dx di dy : Od} (ho : o.op = .mapUpdate t x i y ∨ o.op = .insert t x i y)
    (hu : P.underlying t = some (.map kt et)) (hk : keyT P kt = some (ag, ks)) (hx : odC G x = some dx) (hi : odC G i = some di) (hy : odC G y = some dy)
    (h : evalOp (.mset ag ks dx di dy) s = some l) : OpSat P G w V s a o l := by
  have rx := od_sound hs hE hx
  have ri := od_sound hs hE hi
  have ry := od_sound hs hE hy
  simp only [evalOp] at h
  split at h
  · rename_i b hv
    rw [hv] at rx
    split at h
    · rename_i kvs hb
      split at h
      · rename_i hfit
        obtain ⟨c', n, k', es, clock, q1, q2, q3, q4⟩ := hs.blk b _ hb
        generalize hq : a.eval x = u at rx
        cases rx with
        | mp b c'' now s'' e' =>
          rw [q1] at e'
          cases e'
          have hck := check_key (w := w) false hk ri hfit
          have go : ∀ r, findA ag ks (di.ev s.e) kvs 0 = some r → ∃ rv, (Instr.findKey kt (a.eval i) es.toList).run P w = .ok rv w ∧ FoundOk V ag ks (di.ev s.e) kvs es.toList 0 r rv :=
            fun r hr => findKey_run hk ri (by simpa using q3.1.1) (fun j e p he hp => q3.2 j e p (by simpa using he) hp) hr
          have fin : ∀ (es' : Array MapEntry) (clock' : Nat) (kvs' : List (Av × Av)), (execOp a.eval o).run P w = .ok .skip (setO w c' (.map es' clock')) → MapIn V es' kvs' → l = { v := .top, d := .set b (.mapo kvs') } → OpSat P G w V s a o l := by
            intro es' clock' kvs' hr hm hl
            subst hl
            obtain ⟨V', k1, k2, k3⟩ := sim_setMap (s := s) (clock' := clock') hs q1 q2 q4 hm
            exact ⟨undef, _, V', .inr ⟨hr, rfl⟩, k1, k2, k3, .top _⟩
          split at h
          · rename_i j y' hf
            cases h
            obtain ⟨rv, g1, g2, g3⟩ := go _ hf
            obtain ⟨_, e, p, z1, z2, z3⟩ := g3 _ _ rfl
            simp only [Nat.sub_zero] at z1 z2
            match rv, g2 with
            | some (j', v), g2 =>
              obtain ⟨rfl, _⟩ := g2
              have hje : j < es.size := by simpa using (List.getElem?_eq_some_iff.1 z1).1
              have z1' : es[j]? = some e := by simpa using z1
              have hbits : Instr.sameBits 10000 e.key (a.eval i) = true := sameBits_run (q3.2 j e p z1' z2).1 ri (eqVals_comm z3)
              refine fin (es.modify j fun e => { e with key := a.eval i, val := a.eval y }) clock _ ?_ ?_ rfl
              · rcases ho with ho | ho <;>
                  simp [execOp, ho, Instr.mapUpdate, run_underlying hu, hq, run_getMap q2, hck, g1, z1', Instr.keyThatStays, hbits, run_setMap q2]
              · refine ⟨⟨by simp [q3.1.1], by simpa using q3.1.2⟩, fun m e' p' he' hp' => ?_⟩
                rw [Array.getElem?_modify] at he'
                rw [List.getElem?_set] at hp'
                by_cases hm : j = m
                · subst hm
                  have hjk : j < kvs.length := (List.getElem?_eq_some_iff.1 z2).1
                  rw [if_pos rfl] at he'
                  rw [if_pos rfl, if_pos hjk] at hp'
                  rw [z1'] at he'
                  simp only [Option.map_some, Option.some.injEq] at he' hp'
                  subst he'; subst hp'
                  exact ⟨ri, ry⟩
                · rw [if_neg hm] at he' hp'
                  exact q3.2 m e' p' he' hp'
          · rename_i hf
            split at h
            · rename_i hlen
              cases h
              obtain ⟨rv, g1, g2, _⟩ := go _ hf
              match rv, g2 with
              | none, g2 =>
                refine fin (es.push { key := a.eval i, val := a.eval y, born := clock }) (clock + 1) _ ?_ ?_ rfl
                · rcases ho with ho | ho <;>
                    simp [execOp, ho, Instr.mapUpdate, run_underlying hu, hq, run_getMap q2, hck, g1, run_setMap q2]
                · refine ⟨⟨by simp [q3.1.1], by simp; omega⟩, fun m e' p' he' hp' => ?_⟩
                  rw [Array.getElem?_push] at he'
                  rw [List.getElem?_append] at hp'
                  by_cases hm : m = es.size
                  · rw [if_pos hm] at he'
                    have : ¬ m < kvs.length := by rw [← q3.1.1]; omega
                    rw [if_neg this] at hp'
                    have : m - kvs.length = 0 := by rw [← q3.1.1]; omega
                    rw [this] at hp'
                    simp only [Option.some.injEq, List.getElem?_cons_zero] at he' hp'
                    subst he'; subst hp'
                    exact ⟨ri, ry⟩
                  · rw [if_neg hm] at he'
                    have hlt := (Array.getElem?_eq_some_iff.1 he').1
                    rw [if_pos (by rw [← q3.1.1]; exact hlt)] at hp'
                    exact q3.2 m e' p' he' hp'
            · cases h
          · cases h
      · cases h
    · cases h
  · cases h

theorem sat_mkmap (hs : Sim G w V s.H s.T) {t : TypeId} (ho : o.op = .makeMap t none) (h : evalOp .mkmap s = some l) : OpSat P G w V s a o l := by
  simp only [evalOp] at h
  cases h
  have hle : V.Le (V.push s.H.length w.heap.size 0 0 0) := by
    refine ⟨fun _ _ _ e => e, fun b c z m t e => ⟨c, m, t, ?_, Nat.le_refl _, fun _ => ⟨rfl, rfl⟩⟩, fun i m c hh t e => ⟨m, c, hh, t, e, Nat.le_refl _, fun _ => ⟨rfl, rfl, rfl⟩⟩⟩
    have := hs.domB _ _ e
    simp only [View.push]; rw [if_neg (by omega)]; exact e
  have hb : (V.push s.H.length w.heap.size 0 0 0).blk s.H.length = some (w.heap.size, 0, 0, 0) := by simp [View.push]
  obtain ⟨q1, q2, q3⟩ := hs.push (.mapo []) (.map #[] 0) 0 0 0 ⟨w.heap.size, 0, 0, #[], 0, hb, heap_alloc_new w _, ⟨⟨rfl, by simp⟩, fun i e p he => by simp at he⟩, fun x => hs.rd_new (Nat.le_refl _) x⟩
  exact ⟨.map (some w.heap.size), _, _, .inl (by simp [execOp, ho, Instr.makeMap]), q1, q2, q3, .mp _ _ _ _ hb⟩

end
end Go.Am

namespace Go.Am
open Go

section
variable {P : Program} {G : Glo} {B : Nat → Bool} {w : World} {V : View} {s : St} {a : Act} {o : Oper} {l : Lab}

/-- A slice or a string whose cells can be read: how many elements, which cells. -/
structure Src (P : Program) (w : World) (V : View) (x : Value) (sz : Nat) (ys : List (List Av)) (news : List Value) : Prop where
  len : ∀ W : World, W.heap = w.heap → (Builtin.lenOf x).run P W = .ok ys.length W
  cells : ∀ W : World, W.heap = w.heap → (Builtin.firstCells sz ys.length x).run P W = .ok news.toArray W
  part : ∀ n, n ≤ ys.length → (Builtin.firstCells sz n x).run P w = .ok (news.take (n * sz)).toArray w
  size : news.length = ys.length * sz
  rows : ∀ (i j : Nat) r c, ys[i]? = some r → r[j]? = some c → ∃ v, news[i * sz + j]? = some v ∧ v.oneCell' = true ∧ RelV V v c
  one : ∀ v ∈ news, v.oneCell' = true
  wide : ∀ r ∈ ys, r.length = sz

/-- Rows as cells behind an address. -/
theorem src_cells {c k : Nat} {sz cap : Nat} {ys : List (List Av)} (hw : ∀ r ∈ ys, r.length = sz) (h : ∀ (i j : Nat) r y, ys[i]? = some r → r[j]? = some y → ∃ v, w.cell? ⟨c, k + i * sz + j, none⟩ = some v ∧ v.oneCell' = true ∧ RelV V v y) :
    ∃ news, Src P w V (.slice (some ⟨c, k, none⟩) ys.length cap) sz ys news := by
  have hcell : ∀ m, m < ys.length * sz → ∃ v, w.cell? ⟨c, k + m, none⟩ = some v ∧ v.oneCell' = true := by
    intro m hm
    have hsz : 0 < sz := by
      rcases Nat.eq_zero_or_pos sz with z | z
      · subst z; simp at hm
      · exact z
    have hi : m / sz < ys.length := (Nat.div_lt_iff_lt_mul hsz).2 hm
    have hj : m % sz < (ys[m / sz]).length := by rw [hw _ (List.getElem_mem hi)]; exact Nat.mod_lt _ hsz
    obtain ⟨v, q1, q2, _⟩ := h (m / sz) (m % sz) _ _ (List.getElem?_eq_getElem hi) (List.getElem?_eq_getElem hj)
    refine ⟨v, ?_, q2⟩
    have : k + m / sz * sz + m % sz = k + m := by
      have := Nat.div_add_mod m sz
      rw [Nat.mul_comm] at this
      omega
    rw [this] at q1
    exact q1
  let f : Nat → Value := fun m => (w.cell? ⟨c, k + m, none⟩).getD undef
  refine ⟨(List.range (ys.length * sz)).map f, fun W _ => rfl, ?_, ?_, by simp, ?_, ?_, hw⟩
  · intro W hW
    simp only [Builtin.firstCells]
    refine run_loadCells (P := P) W _ _ f (fun m hm => ?_)
    obtain ⟨v, q, _⟩ := hcell m hm
    rw [addr_add]
    have : W.cell? ⟨c, k + m, none⟩ = w.cell? ⟨c, k + m, none⟩ := cell?_of_heap (by rw [hW])
    rw [this, q]
    simp [f, q]
  · intro n hn
    have hle : n * sz ≤ ys.length * sz := Nat.mul_le_mul_right _ hn
    simp only [Builtin.firstCells]
    rw [← List.map_take, List.take_range, Nat.min_eq_left hle]
    refine run_loadCells (P := P) w _ _ f (fun m hm => ?_)
    obtain ⟨v, q, _⟩ := hcell m (by omega)
    rw [addr_add, q]
    simp [f, q]
  · intro i j r y hr hy
    obtain ⟨v, q1, q2, q3⟩ := h i j r y hr hy
    have hi : i < ys.length := (List.getElem?_eq_some_iff.1 hr).1
    have hj : j < sz := by rw [← hw r (List.mem_of_getElem? hr)]; exact (List.getElem?_eq_some_iff.1 hy).1
    have hlt : i * sz + j < ys.length * sz := by
      have : (i + 1) * sz ≤ ys.length * sz := Nat.mul_le_mul_right _ hi
      rw [Nat.add_mul] at this
      omega
    refine ⟨v, ?_, q2, q3⟩
    rw [List.getElem?_map, List.getElem?_range hlt]
    simp only [Option.map_some, f]
    rw [← Nat.add_assoc, q1]
    rfl
  · intro v hv
    simp only [List.mem_map, List.mem_range] at hv
    obtain ⟨m, hm, rfl⟩ := hv
    obtain ⟨u, q, q2⟩ := hcell m hm
    simp only [f, q]
    exact q2

theorem Src.mono {V' : View} {x : Value} {sz : Nat} {ys : List (List Av)} {news : List Value} (h : Src P w V x sz ys news) (k : V.Le V') : Src P w V' x sz ys news :=
  ⟨h.len, h.cells, h.part, h.size, fun i j r c hr hc => let ⟨v, e1, e2, e3⟩ := h.rows i j r c hr hc; ⟨v, e1, e2, e3.mono k⟩, h.one, h.wide⟩

theorem src_nil {sz : Nat} : Src P w V (.slice none 0 0) sz [] [] :=
  ⟨fun _ _ => rfl, fun W _ => by simp [Builtin.firstCells], fun n hn => by simp [Builtin.firstCells], by simp, fun i j r c h => by simp at h, fun _ h => by simp at h, fun _ h => by simp at h⟩

theorem src_empty {sz : Nat} {a : Addr} {cap : Nat} : Src P w V (.slice (some a) 0 cap) sz [] [] :=
  ⟨fun _ _ => rfl, fun W _ => by simp [Builtin.firstCells, loadCells, loadCellsFrom], fun n hn => by simp at hn; subst hn; simp [Builtin.firstCells, loadCells, loadCellsFrom], by simp, fun i j r c h => by simp at h, fun _ h => by simp at h, fun _ h => by simp at h⟩

theorem src_sl (hs : Sim G w V s.H s.T) {x : Value} {xs : List (List Av)} {tk : Tk} {sz : Nat} (rx : RelV V x (.sl xs tk)) (hw : wide sz xs = true) : ∃ news, Src P w V.pu x sz xs news := by
  cases rx with
  | slnil => exact ⟨_, src_nil⟩
  | sl c k len cap xs tk z f sp g1 g2 g3 g4 g5 g6 g7 g8 =>
    subst g1
    by_cases hx0 : xs = []
    · subst hx0
      exact ⟨_, src_empty⟩
    have hpos : 0 < xs.length := List.length_pos_iff.2 hx0
    have := g8 (by omega)
    subst this
    refine src_cells (fun r hr => wide_mem hw hr) (fun i j r y hr hy => ?_)
    have hrm := List.mem_of_getElem? hr
    have hz : z = sz := by rw [← g4 r hrm]; exact wide_mem hw hrm
    subst hz
    obtain ⟨q1, q2⟩ := g5 i j r y hr hy
    exact ⟨f i j, seen_cell (hs.rd _ _ _ q1) q2, q2, g6 i j r y hr hy⟩

theorem src_bs (hs : Sim G w V s.H s.T) {x : Value} {b ver sz off len : Nat} {rs : List (List Av)} (rx : RelV V x (.bs b ver sz off len)) (hr : rowsOf s.H b ver = some (sz, rs)) (hl : off + len ≤ rs.length) :
    ∃ news, Src P w V x sz ((rs.drop off).take len) news := by
  obtain ⟨c, k, cells, E, q1, q2, q3, q4⟩ := rowsOf_ok hs hr
  cases rx with
  | bs u b ver sz off len p =>
    obtain ⟨c', now, k', p1, p2, x', o', cap, rfl, p3, p4, p5⟩ := p
    rw [q1] at p1
    cases p1
    obtain ⟨rfl, p6, _⟩ := p5 rfl
    have hlen : ((rs.drop off).take len).length = len := by simp; omega
    rcases Nat.eq_zero_or_pos cap with z | z
    · have : len = 0 := by omega
      subst this
      have e : (rs.drop off).take 0 = [] := by simp
      rw [e]
      exact ⟨[], fun W _ => rfl, fun W _ => by simp [Builtin.firstCells, loadCells, loadCellsFrom], fun n hn => by
        have : n = 0 := by simpa using hn
        subst this; simp [Builtin.firstCells, loadCells, loadCellsFrom], by simp, fun i j r c h => by simp at h, fun _ h => by simp at h, fun _ h => by simp at h⟩
    · have hget : ∀ (i : Nat) r, ((rs.drop off).take len)[i]? = some r → rs[off + i]? = some r := by
        intro i r h
        rw [List.getElem?_take] at h
        split at h
        · rwa [List.getElem?_drop] at h
        · cases h
      have key := src_cells (P := P) (w := w) (V := V) (c := x') (k := o') (sz := sz) (cap := cap) (ys := (rs.drop off).take len) (fun r h => q4.1 r (List.mem_of_mem_drop (List.mem_of_mem_take h))) (fun i j r y hr' hy => by
        obtain ⟨v, e1, e2, e3⟩ := q4.2 (off + i) j r y (hget i r hr') hy
        refine ⟨v, ?_, e2, e3⟩
        rw [cell_of_row w x' _ cells E (0, 0) q2, p6 z]
        have : off * sz + i * sz + j = (off + i) * sz + j := by rw [Nat.add_mul]
        rw [this]
        exact e1)
      rw [hlen] at key
      exact key

theorem byte_rel (c : UInt8) : RelV V (.int .u8 c.toNat) (.int .u8 c.toNat) := by
  refine .int _ _ ?_
  have := c.toNat_lt
  unfold IntKind.has
  show (0 : Int) ≤ _ ∧ _ ≤ (255 : Int)
  omega

theorem news_sound (hs : Sim G w V s.H s.T) {x : Value} {y : Av} {sz : Nat} {ys : List (List Av)} (rx : RelV V x y) (h : newsOf s.H sz y = some ys) : ∃ news, Src P w V x sz ys news := by
  unfold newsOf at h
  split at h
  · split at h
    · rename_i hw
      cases h
      obtain ⟨news, hn⟩ := src_sl (P := P) hs rx hw
      exact ⟨news, hn.mono V.pu_le⟩
    · cases h
  · split at h
    · rename_i b ver z off len _ s' rs hr
      split at h
      · rename_i hc
        cases h
        obtain ⟨rfl, hc2⟩ := hc
        have hz : z = s' := by
          obtain ⟨c, k, cells, E, q1, _⟩ := rowsOf_ok hs hr
          cases rx with
          | bs u b ver sz off len p =>
            obtain ⟨c', now, k', p1, _⟩ := p
            rw [q1] at p1; cases p1; rfl
        subst hz
        exact src_bs hs rx hr hc2
      · cases h
    · cases h
  · split at h
    · rename_i l hz
      cases h
      subst hz
      obtain ⟨z, rfl, q1, q2⟩ := relStr rx
      have hsz : z.size = l.length := by rw [ba_size, q1]
      have hpart : ∀ (n : Nat) (W : World), n ≤ l.length → (Builtin.firstCells 1 n (.string z)).run P W = .ok ((l.map fun c : UInt8 => Value.int .u8 c.toNat).take n).toArray W := by
        intro n W hn
        simp only [Builtin.firstCells, Sem.run_pure]
        congr 1
        apply Array.ext'
        rw [← q1]
        simp
      refine ⟨l.map fun c => .int .u8 c.toNat, fun W _ => by simp [Builtin.lenOf, hsz], fun W _ => ?_, fun n hn => by rw [Nat.mul_one]; exact hpart n w (by simpa using hn), by simp, ?_, ?_, ?_⟩
      · have := hpart l.length W (Nat.le_refl _)
        rw [List.take_of_length_le (by simp)] at this
        simpa using this
      · intro i j r c hr hc
        rw [List.getElem?_map, Option.map_eq_some_iff] at hr
        obtain ⟨b, hb, rfl⟩ := hr
        match j with
        | 0 =>
          simp at hc
          subst hc
          exact ⟨.int .u8 b.toNat, by simp [hb], rfl, byte_rel b⟩
        | j + 1 => simp at hc
      · intro v hv
        simp only [List.mem_map] at hv
        obtain ⟨b, _, rfl⟩ := hv
        rfl
      · intro r hr
        simp only [List.mem_map] at hr
        obtain ⟨b, _, rfl⟩ := hr
        rfl
    · cases h
  · cases h

theorem Src.strip {x : Value} {sz : Nat} {ys zs : List (List Av)} {news : List Value} (h : Src P w V x sz ys news) (hz : stripR ys = some zs) : Src P w V.pu x sz zs news := by
  obtain ⟨q1, q2⟩ := stripR_get hz
  have key : ∀ (i : Nat) r', zs[i]? = some r' → ∃ r, ys[i]? = some r ∧ stripL r = some r' := by
    intro i r' hi
    have hlt : i < ys.length := by rw [← q1]; exact (List.getElem?_eq_some_iff.1 hi).1
    exact ⟨ys[i], List.getElem?_eq_getElem hlt, q2 i _ _ (List.getElem?_eq_getElem hlt) hi⟩
  refine ⟨fun W hW => by rw [q1]; exact h.len W hW, fun W hW => by rw [q1]; exact h.cells W hW, fun n hn => h.part n (by omega), by rw [q1]; exact h.size, fun i j r' a hr' ha => ?_, h.one, fun r' hm => ?_⟩
  · obtain ⟨r, h1, h2⟩ := key i r' hr'
    obtain ⟨g1, g2⟩ := stripL_get h2
    have hlt : j < r.length := by rw [← g1]; exact (List.getElem?_eq_some_iff.1 ha).1
    obtain ⟨v, e1, e2, e3⟩ := h.rows i j r r[j] h1 (List.getElem?_eq_getElem hlt)
    exact ⟨v, e1, e2, strip1_sound e3 (g2 j _ a (List.getElem?_eq_getElem hlt) ha)⟩
  · obtain ⟨i, hi⟩ := List.getElem?_of_mem hm
    obtain ⟨r, h1, h2⟩ := key i r' hi
    rw [(stripL_get h2).1]
    exact h.wide r (List.mem_of_getElem? h1)

theorem newsP_sound (hs : Sim G w V s.H s.T) {x : Value} {y : Av} {sz : Nat} {ys : List (List Av)} (rx : RelV V x y) (h : newsP s.H sz y = some ys) : ∃ news, Src P w V.pu x sz ys news := by
  unfold newsP at h
  split at h
  · split at h
    · rename_i hw
      cases h
      exact src_sl hs rx hw
    · cases h
  · split at h
    · rename_i b ver z off len _ s' rs hr
      split at h
      · rename_i hc
        obtain ⟨rfl, hc2⟩ := hc
        have hz : z = s' := by
          obtain ⟨c, k, cells, E, q1, _⟩ := rowsOf_ok hs hr
          cases rx with
          | bs u b ver sz off len p =>
            obtain ⟨c', now, k', p1, _⟩ := p
            rw [q1] at p1; cases p1; rfl
        subst hz
        obtain ⟨news, hn⟩ := src_bs (P := P) hs rx hr hc2
        exact ⟨news, hn.strip h⟩
      · cases h
    · cases h
  · split at h
    · rename_i l hz
      cases h
      subst hz
      obtain ⟨z, rfl, q1, q2⟩ := relStr rx
      have hsz : z.size = l.length := by rw [ba_size, q1]
      have hpart : ∀ (n : Nat) (W : World), n ≤ l.length → (Builtin.firstCells 1 n (.string z)).run P W = .ok ((l.map fun c : UInt8 => Value.int .u8 c.toNat).take n).toArray W := by
        intro n W hn
        simp only [Builtin.firstCells, Sem.run_pure]
        congr 1
        apply Array.ext'
        rw [← q1]
        simp
      refine ⟨l.map fun c => .int .u8 c.toNat, fun W _ => by simp [Builtin.lenOf, hsz], fun W _ => ?_, fun n hn => by rw [Nat.mul_one]; exact hpart n w (by simpa using hn), by simp, ?_, ?_, ?_⟩
      · have := hpart l.length W (Nat.le_refl _)
        rw [List.take_of_length_le (by simp)] at this
        simpa using this
      · intro i j r c hr hc
        rw [List.getElem?_map, Option.map_eq_some_iff] at hr
        obtain ⟨b, hb, rfl⟩ := hr
        match j with
        | 0 =>
          simp at hc
          subst hc
          exact ⟨.int .u8 b.toNat, by simp [hb], rfl, byte_rel b⟩
        | j + 1 => simp at hc
      · intro v hv
        simp only [List.mem_map] at hv
        obtain ⟨b, _, rfl⟩ := hv
        rfl
      · intro r hr
        simp only [List.mem_map] at hr
        obtain ⟨b, _, rfl⟩ := hr
        rfl
    · cases h
  · cases h

/-- The argument of an append that is no count of zeros. -/
def Plain (P : Program) (u : TypeId) : Prop := ∃ d, P.underlying u = some d ∧ ∀ k, d ≠ .int k

theorem append_same {t u ty e : TypeId} {sz : Nat} {base : Option Addr} {n k : Nat} {x : Value} {ys : List (List Av)} {news : List Value} (ht : P.underlying t = some (.slice e)) (hu : Plain P u) (hz : szT P e = some sz) (hx : Src P w V x sz ys news)
    (h0 : ys.length = 0) (hk : n ≤ k) : (Builtin.append_ #[t, u] ty #[.slice base n k, x]).run P w = .ok (.slice base n k) w := by
  obtain ⟨d, hd, hd'⟩ := hu
  have h1 := hx.len w rfl
  have h2 := hx.cells w rfl
  rw [h0] at h1 h2
  have hn : news = [] := by
    have := hx.size
    rw [h0, Nat.zero_mul] at this
    exact List.eq_nil_of_length_eq_zero this
  subst hn
  have hni : (match d with | .int _ => true | _ => false) = false := by cases d <;> first | rfl | exact absurd rfl (hd' _)
  cases base with
  | none => simp [Builtin.append_, run_underlying ht, run_underlying hd, run_sizeOf (w := w) hz, hni, h1, h2, hk]
  | some b => simp [Builtin.append_, run_underlying ht, run_underlying hd, run_sizeOf (w := w) hz, hni, h1, h2, hk, storeCells]

theorem append_room {t u ty e : TypeId} {sz : Nat} {c p : Nat} {n k : Nat} {x : Value} {ys : List (List Av)} {news : List Value} {cur : Array Value} {E : TypeId} (ht : P.underlying t = some (.slice e)) (hu : Plain P u) (hz : szT P e = some sz) (hx : Src P w V x sz ys news)
    (hk : n + ys.length ≤ k) (hw : w.heap[c]? = some (.cells cur E (0, 0))) (hfit : p + n * sz + news.length ≤ cur.size) :
    (Builtin.append_ #[t, u] ty #[.slice (some ⟨c, p, none⟩) n k, x]).run P w = .ok (.slice (some ⟨c, p, none⟩) (n + ys.length) k)
      (w.setRow c (cur.toList.take (p + n * sz) ++ news ++ cur.toList.drop (p + n * sz + news.length)).toArray) := by
  obtain ⟨d, hd, hd'⟩ := hu
  have h1 := hx.len w rfl
  have h2 := hx.cells w rfl
  have hni : (match d with | .int _ => true | _ => false) = false := by cases d <;> first | rfl | exact absurd rfl (hd' _)
  have hst := run_storeCells_at (P := P) c (p + n * sz) E news 0 cur w hw (by simpa using hfit) hx.one
  simp only [Nat.add_zero] at hst
  simp [Builtin.append_, run_underlying ht, run_underlying hd, run_sizeOf (w := w) hz, hni, h1, h2, hk, addr_add, hst]

theorem append_grow {t u ty e : TypeId} {i : TypeInfo} {zv : Value} {base : Option Addr} {n k : Nat} {x : Value} {xs ys : List (List Av)} {olds news : List Value} (ht : P.underlying t = some (.slice e)) (hu : Plain P u) (hi : P.info? e = some i) (hzv : i.zero = some zv)
    (hs' : Src P w V (.slice base n k) i.size xs olds) (hn : xs.length = n) (hx : Src P w V x i.size ys news) (hk : k < n + ys.length) (hroom : (n + ys.length) * (i.bytes + 1) ≤ room) :
    ∃ cap', n + ys.length ≤ cap' ∧ cap' ≤ maxL ∧ (Builtin.append_ #[t, u] ty #[.slice base n k, x]).run P w = .ok (.slice (some ⟨w.heap.size, 0, none⟩) (n + ys.length) cap')
      (w.drew.alloc (.cells (olds.toArray ++ news.toArray ++ Builtin.zeroCells zv.cells (cap' - (n + ys.length))) e)) := by
  obtain ⟨d, hd, hd'⟩ := hu
  have hni : (match d with | .int _ => true | _ => false) = false := by cases d <;> first | rfl | exact absurd rfl (hd' _)
  subst hn
  have h1 := hx.len w rfl
  have h2 := hx.cells w.drew rfl
  have h3 := hs'.cells w.drew rfl
  have hb : (xs.length + ys.length) * i.bytes ≤ room ∧ xs.length + ys.length ≤ room := by
    rw [Nat.mul_add, Nat.mul_one] at hroom
    constructor <;> omega
  have hfit := growslice_fits (need := xs.length + ys.length) (old := k) (bytes := i.bytes) hk hb.1
  have hn1 : ¬ (xs.length + ys.length ≤ k) := by omega
  have h63' : ¬ (9223372036854775807 < ((xs.length : Int) + (ys.length : Int))) := by have := hb.2; unfold room at this; omega
  have h48' : ¬ (281474976710656 < Builtin.nextslicecap (xs.length + ys.length) k * i.bytes) := by omega
  refine ⟨grownCap w (xs.length + ys.length) k e, ?_, ?_, ?_⟩
  · unfold grownCap Question.cut
    exact Nat.le_add_right _ _
  · unfold grownCap Question.cut
    have hb2 := hb.2
    unfold room at hb2
    have hm := Nat.mod_lt (w.tape w.drawn (.appendCap (xs.length + ys.length) k e)) (y := 9223372036854775808 - (xs.length + ys.length)) (by omega)
    show xs.length + ys.length + w.tape w.drawn (.appendCap (xs.length + ys.length) k e) % (9223372036854775808 - (xs.length + ys.length)) ≤ 9223372036854775807
    omega
  · simp [Builtin.append_, run_underlying ht, run_underlying hd, sizeOf, typeInfo, zeroValue, hi, hzv, hni, h1, h2, h3, hn1, h63', h48', Question.forced, newRow, grownCap]
    congr 2
    apply Array.ext'
    simp [List.append_assoc]

end
end Go.Am
