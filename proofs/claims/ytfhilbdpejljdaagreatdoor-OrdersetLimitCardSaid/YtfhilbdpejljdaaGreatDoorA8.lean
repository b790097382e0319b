/- Steps through abstract code. Generic: no program in sight. -/
import Derived.Test.YtfhilbdpejljdaaGreatDoorA7
set_option linter.all false
namespace Go.Am
open Go

theorem wide_nil {sz : Nat} : wide sz [] = true := rfl
theorem wide_cons {sz : Nat} {x : List Av} {xs : List (List Av)} : wide sz (x :: xs) = (x.length == sz && wide sz xs) := rfl
theorem wide_map {α : Type} {sz : Nat} {f : α → List Av} {xs : List α} (h : ∀ x, (f x).length = sz) : wide sz (xs.map f) = true := by
  simp [wide, h]
theorem wide_append {sz : Nat} {xs ys : List (List Av)} : wide sz (xs ++ ys) = (wide sz xs && wide sz ys) := by
  simp [wide]

/-- May the holder of this token append? -/
def AppOk (T : List Nat) (tk : Tk) (n : Nat) : Prop := tk = .nil ∨ tk = .full ∨ ∃ id, tk = .own id ∧ T[id]? = some n ∧ n ≠ 0

theorem AppOk.nil (T : List Nat) (n : Nat) : AppOk T .nil n := .inl rfl
theorem AppOk.full (T : List Nat) (n : Nat) : AppOk T .full n := .inr (.inl rfl)

/-- Two tokens that are not the same. -/
def Apart (a b : Tk) : Prop := ∀ id, a = .own id → b ≠ .own id

theorem appTok_ok {T : List Nat} {tk : Tk} {n k : Nat} (h : AppOk T tk n) (hk : 0 < k) : ∃ tk' T', appTok T n k tk = some (tk', T') ∧ AppOk T' tk' (n + k) ∧
    ∀ t m, AppOk T t m → Apart t tk → AppOk T' t m ∧ Apart t tk' := by
  have hk0 : k ≠ 0 := by omega
  have grow : AppOk (T ++ [n + k]) (.own T.length) (n + k) ∧ ∀ t m, AppOk T t m → AppOk (T ++ [n + k]) t m ∧ Apart t (.own T.length) := by
    refine ⟨.inr (.inr ⟨_, rfl, by simp, by omega⟩), fun t m ht => ?_⟩
    rcases ht with rfl | rfl | ⟨id, rfl, h1, h2⟩
    · exact ⟨.inl rfl, fun id h => (by cases h)⟩
    · exact ⟨.inr (.inl rfl), fun id h => (by cases h)⟩
    · have hlt := (List.getElem?_eq_some_iff.1 h1).1
      refine ⟨.inr (.inr ⟨id, rfl, by rw [List.getElem?_append_left hlt]; exact h1, h2⟩), fun i hi hj => ?_⟩
      cases hi; cases hj; omega
  rcases h with rfl | rfl | ⟨id, rfl, h1, h2⟩
  · exact ⟨_, _, (by simp only [appTok, if_neg hk0]), grow.1, fun t m ht _ => grow.2 t m ht⟩
  · exact ⟨_, _, (by simp only [appTok, if_neg hk0]), grow.1, fun t m ht _ => grow.2 t m ht⟩
  · refine ⟨.own id, T.set id (n + k), (by simp [appTok, hk0, h1, h2]), ?_, fun t m ht ha => ⟨?_, ha⟩⟩
    · exact .inr (.inr ⟨id, rfl, by simp [(List.getElem?_eq_some_iff.1 h1).1], by omega⟩)
    · rcases ht with rfl | rfl | ⟨j, rfl, g1, g2⟩
      · exact .inl rfl
      · exact .inr (.inl rfl)
      · have hne : id ≠ j := fun q => ha j rfl (by rw [q])
        exact .inr (.inr ⟨j, rfl, by rw [List.getElem?_set_ne hne]; exact g1, g2⟩)

theorem appTok_any {T : List Nat} {tk : Tk} {n k : Nat} {tk' : Tk} {T' : List Nat} (hk : 0 < k) (h : appTok T n k tk = some (tk', T')) : tk'.pu = .any := by
  have hk0 : k ≠ 0 := by omega
  unfold appTok at h
  split at h
  · rw [if_neg hk0] at h; cases h; rfl
  · rw [if_neg hk0] at h; cases h; rfl
  · rw [if_neg hk0] at h
    split at h
    · cases h; rfl
    · cases h
  · rw [if_neg hk0] at h; cases h

theorem wrap_hasT {k : IntKind} {n : Int} (h : k.has n) : k.wrap n = n := by
  unfold IntKind.has at h
  cases k <;> simp [IntKind.wrap, IntKind.signed, IntKind.bits, IntKind.min, IntKind.max] at h ⊢ <;> omega

theorem wrap64 {n : Int} (h1 : -9223372036854775808 ≤ n) (h2 : n ≤ 9223372036854775807) : IntKind.i64.wrap n = n := by
  simp [IntKind.wrap, IntKind.signed, IntKind.bits]; omega

theorem beq_ft : (false == true) = false := rfl
theorem beq_tf : (true == false) = false := rfl
theorem beq_ff : (false == false) = true := rfl
theorem beq_tt : (true == true) = true := rfl

theorem getD_map {α : Type} (f : α → List Av) (l : List α) (i : Nat) (hi : i < l.length) : (l.map f).getD i [] = f l[i] := by
  simp [List.getD_eq_getElem?_getD, hi]

theorem getD_self {α : Type} (l : List α) (d : α) (i : Nat) (hi : i < l.length) : l.getD i d = l[i] := by
  simp [List.getD_eq_getElem?_getD, hi]

theorem rowsOf_cons_zero {o : AO} {H : List AO} {ver : Nat} : rowsOf (o :: H) 0 ver = match o with | .rows sz rs v => if v = ver then some (sz, rs) else none | .froz sz rs v => if v = ver then some (sz, rs) else none | _ => none := by
  cases o <;> rfl

theorem rowsOf_cons_succ {o : AO} {H : List AO} {b ver : Nat} : rowsOf (o :: H) (b + 1) ver = rowsOf H b ver := by
  simp only [rowsOf, List.getElem?_cons_succ]

attribute [go_sem] vcRows vcOp bindL_some bindL_none bindL_ite onB onG gOn getE putE setE Od.ev List.all AR.ok AR.pur AR.hk AR.shr AR.tgt Bool.false_eq_true Bool.and_self List.any Bool.not_false Bool.true_or
  kdOk mkOk Bool.and_true Bool.true_and St.upd DH.on Option.getD Option.map Option.bind evalOp fillA rowsA cellsA splice binA binInt slcA bound unA binBA binNA nilA newsP thenQ blockQ keepO keepE stripR stripL strip1
  List.take List.drop List.append List.length_cons List.length_nil List.set List.replicate window width ofCells List.cons_append List.nil_append List.map ite_true ite_false if_true if_false enter wide_nil wide_cons
  beq_self_eq_true Nat.zero_mul Nat.zero_add Nat.zero_le and_self true_and and_true Int.natCast_nonneg Int.ofNat_lt Int.ofNat_le List.length_map Int.toNat_natCast rowsOf List.getElem?_cons_zero List.getElem?_cons_succ
  beq_ft beq_tf beq_ff beq_tt Bool.not_true binStr getD_map getD_self List.getElem_map

end Go.Am

namespace Go.Am
open Go
variable {F : Tab}

theorem ret_of_wpP {f n : Nat} {c : AC} {res : List ResA} {args args' : List Av} {P : Av → Prop} (hf : F f = some (.fn true n c res)) (hs : stripA args = some args') (hn : args.length ≤ n)
    (h : ∀ K : Xit → St → Prop, (∀ x s r v, (∀ id, x ≠ .ex id) → resA s res = some r → freezeT s.H r = some v → P v → K x s) → Wp F c K ⟨enter 0 args', [], []⟩) : ∃ v, P v ∧ Ret F f args v := by
  obtain ⟨x, s, h1, h2, r, v, h3, h4, h5⟩ := h (fun x s => (∀ id, x ≠ .ex id) ∧ ∃ r v, resA s res = some r ∧ freezeT s.H r = some v ∧ P v) fun x s r v a b c d => ⟨a, r, v, b, c, d⟩
  exact ⟨v, h5, fun H T => .pure hf hs hn h1 h2 h3 h4⟩

def isB (v : Av) : Prop := ∃ b, v = .bool b

/-- A loop that counts up to `n`, and holds what depends on the count and on `ι` alone. -/
theorem wp_for {ι : Type} {k : Option (List Nat)} {a : AC} {Q : Xit → St → Prop} {s : St} (n : Nat) (e : Nat → ι → St) (x0 : ι) (h0 : keepO k s = e 0 x0)
    (step : ∀ i x, i ≤ n → ∀ K : St → Prop, (∀ s', (i < n ∧ ∃ y, keepO k s' = e (i + 1) y) → K s') → Wp F a (thenQ K Q) (e i x)) : Wp F (.loop k a) Q s := by
  refine wp_loop' (ι := Nat × ι) (fun p s => p.1 ≤ n ∧ s = e p.1 p.2) (fun p => n - p.1) (0, x0) ⟨Nat.zero_le _, h0⟩ ?_
  rintro ⟨i, x⟩ s ⟨hi, rfl⟩
  refine (step i x hi _ fun s' hs => hs).mono ?_
  intro y s' hq
  cases y with
  | nrm =>
    obtain ⟨h1, y, h2⟩ := hq
    exact ⟨(i + 1, y), ⟨by omega, h2⟩, by simp only; omega⟩
  | ex id => exact hq
  | ret => exact hq

/-- A loop that counts up to `n`, with what is known of its state. -/
theorem wp_forI {ι : Type} {k : Option (List Nat)} {a : AC} {Q : Xit → St → Prop} {s : St} (n : Nat) (e : Nat → ι → St) (I : Nat → ι → Prop) (x0 : ι) (h0 : keepO k s = e 0 x0) (hI : I 0 x0)
    (step : ∀ i x, i ≤ n → I i x → ∀ K : St → Prop, (∀ s', (i < n ∧ ∃ y, I (i + 1) y ∧ keepO k s' = e (i + 1) y) → K s') → Wp F a (thenQ K Q) (e i x)) : Wp F (.loop k a) Q s := by
  refine wp_loop' (ι := Nat × ι) (fun p s => p.1 ≤ n ∧ I p.1 p.2 ∧ s = e p.1 p.2) (fun p => n - p.1) (0, x0) ⟨Nat.zero_le _, hI, h0⟩ ?_
  rintro ⟨i, x⟩ s ⟨hi, hI, rfl⟩
  refine (step i x hi hI _ fun s' hs => hs).mono ?_
  intro y s' hq
  cases y with
  | nrm =>
    obtain ⟨h1, y, h2, h3⟩ := hq
    exact ⟨(i + 1, y), ⟨by omega, h2, h3⟩, by simp only; omega⟩
  | ex id => exact hq
  | ret => exact hq

/-- A row that is guarded: both ways. -/
theorem vc_gd {rs : List AR} {K : St → Prop} {s : St} {b : Bool} (g : Nat) (_ : getE g s.e = .bool b) (h1 : b = true → vcRows F rs K s) (h0 : b = false → vcRows F rs K s) : vcRows F rs K s := by
  cases b
  · exact h0 rfl
  · exact h1 rfl

/-- A state that is put in order first. -/
theorem wp_norm {a : AC} {Q : Xit → St → Prop} {s : St} (h : ∀ J : St → Prop, (∀ s, Wp F a Q s → J s) → J s) : Wp F a Q s := h _ fun _ h => h

/-- Slots that a round puts. -/
def setMs : List (Nat × Av) → Env → Env
  | [], e => e
  | (k, v) :: us, e => setMs us (setE k v e)

attribute [go_sem] setMs

/-- A loop that counts up to `n`: the slots that it turns, the heap and the tokens depend on the count and on `ι`. -/
theorem wp_forU {ι : Type} {ks : List Nat} {a : AC} {Q : Xit → St → Prop} {e0 : Env} {H0 : List AO} {T0 : List Nat} (n : Nat) (ups : Nat → ι → List (Nat × Av)) (HH : Nat → ι → List AO) (TT : Nat → ι → List Nat) (I : Nat → ι → Prop) (x0 : ι)
    (h0 : keepE ks e0 = setMs (ups 0 x0) (keepE ks e0)) (hH : H0 = HH 0 x0) (hT : T0 = TT 0 x0) (hI : I 0 x0)
    (step : ∀ i x, i ≤ n → I i x → ∀ K : St → Prop, (∀ e' H' T', (i < n ∧ ∃ y, I (i + 1) y ∧ keepE ks e' = setMs (ups (i + 1) y) (keepE ks e0) ∧ H' = HH (i + 1) y ∧ T' = TT (i + 1) y) → K ⟨e', H', T'⟩) → Wp F a (thenQ K Q) ⟨setMs (ups i x) (keepE ks e0), HH i x, TT i x⟩) :
    Wp F (.loop (some ks) a) Q ⟨e0, H0, T0⟩ := by
  subst hH; subst hT
  refine wp_forI (ι := ι) n (fun i x => ⟨setMs (ups i x) (keepE ks e0), HH i x, TT i x⟩) I x0 ?_ hI ?_
  · simp only [keepO, ← h0]
  · intro i x hi hx K hK
    refine step i x hi hx K ?_
    rintro e' H' T' ⟨h1, y, h2, h3, rfl, rfl⟩
    exact hK _ ⟨h1, y, h2, by simp only [keepO, h3]⟩

/-- Any loop, with a measure. -/
theorem wp_whileU {ι : Type} {ks : List Nat} {a : AC} {Q : Xit → St → Prop} {e0 : Env} {H0 : List AO} {T0 : List Nat} (μ : ι → Nat) (ups : ι → List (Nat × Av)) (HH : ι → List AO) (TT : ι → List Nat) (I : ι → Prop) (x0 : ι)
    (h0 : keepE ks e0 = setMs (ups x0) (keepE ks e0)) (hH : H0 = HH x0) (hT : T0 = TT x0) (hI : I x0)
    (step : ∀ x, I x → ∀ K : St → Prop, (∀ e' H' T', (∃ y, μ y < μ x ∧ I y ∧ keepE ks e' = setMs (ups y) (keepE ks e0) ∧ H' = HH y ∧ T' = TT y) → K ⟨e', H', T'⟩) → Wp F a (thenQ K Q) ⟨setMs (ups x) (keepE ks e0), HH x, TT x⟩) :
    Wp F (.loop (some ks) a) Q ⟨e0, H0, T0⟩ := by
  subst hH; subst hT
  refine wp_loop' (ι := ι) (fun x s => I x ∧ s = ⟨setMs (ups x) (keepE ks e0), HH x, TT x⟩) μ x0 ⟨hI, by simp only [keepO, ← h0]⟩ ?_
  rintro x s ⟨hx, rfl⟩
  refine (step x hx (fun s' => ∃ y, μ y < μ x ∧ I y ∧ keepE ks s'.e = setMs (ups y) (keepE ks e0) ∧ s'.H = HH y ∧ s'.T = TT y) fun e' H' T' hs => hs).mono ?_
  intro y s' hq
  cases y with
  | nrm =>
    obtain ⟨y, h1, h2, h3, h4, h5⟩ := hq
    exact ⟨y, ⟨h2, by cases s'; simp only at h3 h4 h5; simp only [keepO, h3, h4, h5]⟩, h1⟩
  | ex id => exact hq
  | ret => exact hq

/-- Rows whose one kept outcome is a bool: what comes behind them is shown once. -/
theorem vc_merge {rs : List AR} {ks : List Nat} {d : Nat} {K : St → Prop} {e0 : Env} {H0 : List AO} {T0 : List Nat} (Φ : Bool → Prop) (h : ∀ b, Φ b → K ⟨keepE ks (setE d (.bool b) e0), H0, T0⟩)
    (h2 : ∀ K' : St → Prop, (∀ b e, Φ b → keepE ks e = keepE ks (setE d (.bool b) e0) → K' ⟨e, H0, T0⟩) → vcRows F rs K' ⟨e0, H0, T0⟩) : vcRows F rs (fun s => K (keepO (some ks) s)) ⟨e0, H0, T0⟩ :=
  h2 _ fun b e hb he => by simp only [keepO, he]; exact h b hb

theorem runT_ret {f : Nat} {args : List Av} {v : Av} (h : Ret F f args v) {H : List AO} {T : List Nat} {Q : Av → List AO → List Nat → Prop} (hq : Q v H T) : RunT F (.fn f) args H T Q := ⟨v, H, T, h H T, hq⟩

end Go.Am
