/- Rules for what abstract code comes to. Generic: no program in sight. -/
import Derived.Test.YtfhilbdpejljdaaGreatDoorA5
set_option linter.all false
namespace Go.Am
open Go

section
variable {F : Tab}

/-- The code comes to an end that `Q` takes. -/
def Wp (F : Tab) (c : AC) (Q : Xit → St → Prop) (s : St) : Prop := ∃ x s', Ev F (.code c s) (.code x s') ∧ Q x s'

/-- The call returns what `Q` takes. -/
def RunT (F : Tab) (t : Tgt) (args : List Av) (H : List AO) (T : List Nat) (Q : Av → List AO → List Nat → Prop) : Prop := ∃ v H' T', Ev F (.call t args H T) (.val v H' T') ∧ Q v H' T'

/-- The call returns what `Q` takes. -/
def Run (F : Tab) (f : Nat) (args : List Av) (H : List AO) (T : List Nat) (Q : Av → List AO → List Nat → Prop) : Prop := ∃ v H' T', Ev F (.call (.fn f) args H T) (.val v H' T') ∧ Q v H' T'

/-- The call returns this value, and touches nothing. -/
def Ret (F : Tab) (f : Nat) (args : List Av) (v : Av) : Prop := ∀ H T, Ev F (.call (.fn f) args H T) (.val v H T)

theorem Run.mono {f : Nat} {args : List Av} {H : List AO} {T : List Nat} {Q Q' : Av → List AO → List Nat → Prop} (h : Run F f args H T Q) (hq : ∀ v H T, Q v H T → Q' v H T) : Run F f args H T Q' := by
  obtain ⟨v, H', T', h1, h2⟩ := h; exact ⟨v, H', T', h1, hq _ _ _ h2⟩

theorem Ret.run {f : Nat} {args : List Av} {v : Av} (h : Ret F f args v) {H : List AO} {T : List Nat} {Q : Av → List AO → List Nat → Prop} (hq : Q v H T) : Run F f args H T Q := ⟨v, H, T, h H T, hq⟩

theorem Wp.mono {c : AC} {Q Q' : Xit → St → Prop} {s : St} (h : Wp F c Q s) (hq : ∀ x s, Q x s → Q' x s) : Wp F c Q' s := by
  obtain ⟨x, s', h1, h2⟩ := h; exact ⟨x, s', h1, hq _ _ h2⟩

def thenQ (K : St → Prop) (Q : Xit → St → Prop) : Xit → St → Prop
  | .nrm, s => K s
  | x, s => Q x s

def blockQ (id : Nat) (Q : Xit → St → Prop) : Xit → St → Prop
  | .ex i, s => if i = id then Q .nrm s else Q (.ex i) s
  | x, s => Q x s

theorem wp_skip' {Q : Xit → St → Prop} {s : St} (h : Q .nrm s) : Wp F .skip Q s := ⟨_, _, .skipc, h⟩
theorem wp_exit' {id : Nat} {Q : Xit → St → Prop} {s : St} (h : Q (.ex id) s) : Wp F (.exit id) Q s := ⟨_, _, .exit, h⟩
theorem wp_ret' {Q : Xit → St → Prop} {s : St} (h : Q .ret s) : Wp F .ret Q s := ⟨_, _, .ret, h⟩

theorem wp_seq' {k : Option (List Nat)} {a b : AC} {Q : Xit → St → Prop} {s : St} (h : Wp F a (thenQ (fun s => Wp F b Q (keepO k s)) Q) s) : Wp F (.seq k a b) Q s := by
  obtain ⟨x, s1, h1, h2⟩ := h
  cases x with
  | nrm => obtain ⟨y, s2, h3, h4⟩ := h2; exact ⟨y, s2, .seq h1 h3, h4⟩
  | ex id => exact ⟨_, _, .seqx h1 (by simp), h2⟩
  | ret => exact ⟨_, _, .seqx h1 (by simp), h2⟩

/-- Behind code, with what comes next held shut. -/
theorem wp_seq_k' {k : Option (List Nat)} {a b : AC} {Q : Xit → St → Prop} {s : St} (h : ∀ K : St → Prop, (∀ s, Wp F b Q s → K s) → Wp F a (thenQ (fun s => K (keepO k s)) Q) s) : Wp F (.seq k a b) Q s := wp_seq' (h _ fun _ q => q)

theorem wp_cond' {c : Od} {a b : AC} {t : Bool} {Q : Xit → St → Prop} {s : St} (hc : c.ev s.e = .bool t) (h1 : t = true → Wp F a Q s) (h2 : t = false → Wp F b Q s) : Wp F (.cond c a b) Q s := by
  cases t with
  | true => obtain ⟨x, s', q1, q2⟩ := h1 rfl; exact ⟨x, s', .cond hc q1, q2⟩
  | false => obtain ⟨x, s', q1, q2⟩ := h2 rfl; exact ⟨x, s', .cond hc q1, q2⟩

theorem wp_block' {id : Nat} {a : AC} {Q : Xit → St → Prop} {s : St} (h : Wp F a (blockQ id Q) s) : Wp F (.block id a) Q s := by
  obtain ⟨x, s', h1, h2⟩ := h
  refine ⟨_, s', .block h1, ?_⟩
  cases x with
  | nrm => exact h2
  | ret => exact h2
  | ex i =>
    simp only [blockQ] at h2
    by_cases hi : i = id
    · subst hi; rw [if_pos rfl] at h2 ⊢; exact h2
    · rw [if_neg hi] at h2
      rw [if_neg (fun q => hi (Xit.ex.inj q))]; exact h2

theorem wp_loop' {ι : Type} (I : ι → St → Prop) (μ : ι → Nat) {k : Option (List Nat)} {a : AC} {Q : Xit → St → Prop} {s : St} (i : ι) (h0 : I i (keepO k s))
    (round : ∀ i s, I i s → Wp F a (thenQ (fun s' => ∃ j, I j (keepO k s') ∧ μ j < μ i) Q) s) : Wp F (.loop k a) Q s := by
  have key : ∀ n i s, μ i = n → I i (keepO k s) → Wp F (.loop k a) Q s := by
    intro n
    induction n using Nat.strongRecOn with
    | _ n ih =>
      intro i s hn hI
      obtain ⟨x, s1, h1, h2⟩ := round i _ hI
      cases x with
      | nrm =>
        obtain ⟨j, hj, hlt⟩ := h2
        obtain ⟨y, s2, h3, h4⟩ := ih (μ j) (hn ▸ hlt) j s1 rfl hj
        exact ⟨y, s2, .loop h1 h3, h4⟩
      | ex id => exact ⟨_, _, .loopx h1 (by simp), h2⟩
      | ret => exact ⟨_, _, .loopx h1 (by simp), h2⟩
  exact key _ i s rfl h0

def bindL (x : Option Lab) (K : Lab → Prop) : Prop :=
  match x with
  | some l => K l
  | none => False

def onB (b : Bool) (p : Prop) : Prop :=
  match b with
  | true => p
  | false => False

theorem bindL_ite {c : Prop} [Decidable c] {x : Option Lab} {K : Lab → Prop} : bindL (if c then x else none) K = (c ∧ bindL x K) := by
  by_cases h : c <;> simp [h, bindL]

theorem bindL_some {l : Lab} {K : Lab → Prop} : bindL (some l) K = K l := rfl
theorem bindL_none {K : Lab → Prop} : bindL none K = False := rfl
theorem onB_true {p : Prop} : onB true p = p := rfl

theorem onB_inv {b : Bool} {p : Prop} (h : onB b p) : b = true ∧ p := by
  cases b with
  | true => exact ⟨rfl, h⟩
  | false => exact h.elim

theorem bindL_sound {x : Option Lab} {K : Lab → Prop} (h : bindL x K) : ∃ l, x = some l ∧ K l := by
  cases x with
  | none => exact h.elim
  | some l => exact ⟨l, rfl, h⟩

/-- What an operation needs, and what comes behind it. -/
def vcOp (o : AOp) (s : St) (K : Lab → Prop) : Prop :=
  let e := s.e
  match o with
  | .mov x => K { v := x.ev e }
  | .pick c a b => match c.ev e with
    | .bool t => K { v := if t then a.ev e else b.ev e }
    | _ => False
  | .ixs sz x i => match x.ev e, i.ev e with
    | .sl xs _, .int _ i => (0 ≤ i ∧ i < xs.length) ∧ wide sz xs = true ∧ K { v := .cptr (xs.getD i.toNat []) 0 }
    | .bs b ver s' off len, .int _ i => (0 ≤ i ∧ i < len) ∧ s' = sz ∧ K { v := .ptr b ver (off + i.toNat) 0 }
    | _, _ => False
  | .ixb x i => match x.ev e, i.ev e with
    | .str l, .int _ i => (0 ≤ i ∧ i < l.length) ∧ K { v := .int .u8 (l.getD i.toNat 0).toNat }
    | _, _ => False
  | .len x => match x.ev e with
    | .sl xs _ => K { v := .int .i64 xs.length }
    | .bs _ _ _ _ len => K { v := .int .i64 len }
    | .str l => K { v := .int .i64 l.length }
    | _ => False
  | .app sz by_ x y => match x.ev e, newsP s.H sz (y.ev e) with
    | .sl xs tk, some ys => wide sz xs = true ∧ (xs.length + ys.length) * (by_ + 1) ≤ room ∧ ∃ tk' T', appTok s.T xs.length ys.length tk = some (tk', T') ∧ K { v := .sl (xs ++ ys) tk', T := some T' }
    | _, _ => False
  | o => bindL (evalOp o s) K

theorem vcOp_sound {o : AOp} {s : St} {K : Lab → Prop} (h : vcOp o s K) : ∃ l, evalOp o s = some l ∧ K l := by
  unfold vcOp at h
  simp only at h
  split at h
  · exact ⟨_, rfl, h⟩
  · split at h
    · rename_i hc; exact ⟨_, by simp only [evalOp, hc]; rfl, h⟩
    · exact h.elim
  · rename_i sz x i
    split at h
    · rename_i xs tk k n hx hi
      obtain ⟨⟨h1, h2⟩, h3, h4⟩ := h
      refine ⟨_, ?_, h4⟩
      have hlt : n.toNat < xs.length := by omega
      simp only [evalOp, hx, hi]
      rw [if_pos ⟨h1, h2, h3⟩, List.getElem?_eq_getElem hlt]
      simp [List.getD_eq_getElem?_getD, hlt]
    · rename_i b ver s' off len k n hx hi
      obtain ⟨⟨h1, h2⟩, h3, h4⟩ := h
      refine ⟨_, ?_, h4⟩
      simp only [evalOp, hx, hi]
      rw [if_pos ⟨h1, h2, h3⟩]; rfl
    · exact h.elim
  · rename_i x i
    split at h
    · rename_i l k n hx hi
      obtain ⟨⟨h1, h2⟩, h4⟩ := h
      refine ⟨_, ?_, h4⟩
      have hlt : n.toNat < l.length := by omega
      simp only [evalOp, hx, hi]
      rw [if_pos h1, List.getElem?_eq_getElem hlt]
      simp [List.getD_eq_getElem?_getD, hlt]
    · exact h.elim
  · rename_i x
    split at h
    · rename_i hx; exact ⟨_, by simp only [evalOp, hx]; rfl, h⟩
    · rename_i hx; exact ⟨_, by simp only [evalOp, hx]; rfl, h⟩
    · rename_i hx; exact ⟨_, by simp only [evalOp, hx]; rfl, h⟩
    · exact h.elim
  · rename_i sz by_ x y
    split at h
    · rename_i xs tk ys hx hy
      obtain ⟨h1, h2, tk', T', h3, h4⟩ := h
      refine ⟨_, ?_, h4⟩
      simp only [evalOp, appA, hx, hy]
      rw [if_pos ⟨h1, h2⟩, h3]
    · exact h.elim
  · exact bindL_sound h

def onG (g : Option Bool) (K : Bool → Prop) : Prop :=
  match g with
  | some b => K b
  | none => False

/-- What rows need, and what comes behind them. -/
def vcRows (F : Tab) : List AR → (St → Prop) → St → Prop
  | [], K, s => K s
  | r :: rs, K, s => onG (gOn r.g s.e) fun b =>
    match b with
    | true => onB (r.ok s.e) (match r.o with
      | .call f xs => onB ((!r.pur || isPureT F (r.tgt (.fn f))) && (!r.hk || tokFn F (r.tgt (.fn f)))) (RunT F (r.tgt (.fn f)) (xs.map (·.ev s.e)) s.H s.T fun v H T => vcRows F rs K ⟨putE r.d v s.e, H, T⟩)
      | .calld x xs => match x.ev s.e with
        | .fn f caps => onB ((!r.pur || isPureT F (r.tgt (.fn f))) && (!r.hk || tokFn F (r.tgt (.fn f)))) (RunT F (r.tgt (.fn f)) (xs.map (·.ev s.e) ++ caps) s.H s.T fun v H T => vcRows F rs K ⟨putE r.d v s.e, H, T⟩)
        | _ => False
      | o => vcOp o s fun l => vcRows F rs K (s.upd r.d l))
    | false => vcRows F rs K { s with e := putE r.d (.tup []) s.e }

theorem vcRows_sound : ∀ {rs : List AR} {K : St → Prop} {s : St}, vcRows F rs K s → ∃ s', Ev F (.rows rs s) (.rows s') ∧ K s'
  | [], K, s, h => ⟨s, .nil, h⟩
  | r :: rs, K, s, h => by
    simp only [vcRows] at h
    unfold onG at h
    split at h
    · rename_i b hg
      cases b with
      | true =>
        have hk : r.ok s.e = true := by
          cases hh : r.ok s.e with
          | true => rfl
          | false => rw [hh] at h; exact h.elim
        simp only [hk, onB_true] at h
        split at h
        · rename_i f xs ho
          obtain ⟨hp, v, H', T', h1, h2⟩ := onB_inv h
          obtain ⟨s', h3, h4⟩ := vcRows_sound h2
          exact ⟨s', .call hg hk (by rw [ho]; rfl) (fun q => by simp [q] at hp; exact hp.1) (fun q => by simp [q] at hp; exact hp.2) h1 h3, h4⟩
        · rename_i x xs ho
          split at h
          · rename_i f caps hx
            obtain ⟨hp, v, H', T', h1, h2⟩ := onB_inv h
            obtain ⟨s', h3, h4⟩ := vcRows_sound h2
            exact ⟨s', .call hg hk (by rw [ho]; simp only [callee, hx]) (fun q => by simp [q] at hp; exact hp.1) (fun q => by simp [q] at hp; exact hp.2) h1 h3, h4⟩
          · exact h.elim
        · obtain ⟨l, h1, h2⟩ := vcOp_sound h
          obtain ⟨s', h3, h4⟩ := vcRows_sound h2
          exact ⟨s', .op hg hk h1 h3, h4⟩
      | false =>
        simp only at h
        obtain ⟨s', h3, h4⟩ := vcRows_sound h
        exact ⟨s', .skip hg h3, h4⟩
    · exact h.elim

/-- One row, with what comes behind it held shut. -/
theorem vc_step {r : AR} {rs : List AR} {K : St → Prop} {s : St} (h : ∀ J : St → Prop, (∀ s, vcRows F rs K s → J s) → vcRows F [r] J s) : vcRows F (r :: rs) K s :=
  h (fun s => vcRows F rs K s) fun _ h => h

theorem vc_nil {K : St → Prop} {s : St} (h : K s) : vcRows F [] K s := h

theorem wp_reg' {rs : List AR} {Q : Xit → St → Prop} {s : St} (h : vcRows F rs (Q .nrm) s) : Wp F (.reg none rs) Q s := by
  obtain ⟨s', h1, h2⟩ := vcRows_sound h
  exact ⟨_, _, .reg h1, h2⟩

theorem wp_draw' {aft : List (List Nat)} {rs : List AR} {Q : Xit → St → Prop} {s : St} (hd : drawOk (isPure F) aft rs = true) (h : vcRows F rs (Q .nrm) s) : Wp F (.reg (some aft) rs) Q s := by
  obtain ⟨s', h1, h2⟩ := vcRows_sound h
  exact ⟨_, _, .draw hd h1, h2⟩

/-- A pure function. -/
theorem ret_of_wp {f n : Nat} {c : AC} {res : List ResA} {args args' : List Av} {v : Av} (hf : F f = some (.fn true n c res)) (hs : stripA args = some args') (hn : args.length ≤ n)
    (h : Wp F c (fun x s => (∀ id, x ≠ .ex id) ∧ ∃ r, resA s res = some r ∧ freezeT s.H r = some v) ⟨enter 0 args', [], []⟩) : Ret F f args v := by
  intro H T
  obtain ⟨x, s, h1, h2, r, h3, h4⟩ := h
  exact .pure hf hs hn h1 h2 h3 h4

/-- A function that shares its caller's heap. -/
theorem run_of_wp {f n : Nat} {c : AC} {res : List ResA} {args : List Av} {H : List AO} {T : List Nat} {Q : Av → List AO → List Nat → Prop} (hf : F f = some (.fn false n c res)) (hn : args.length ≤ n)
    (h : Wp F c (fun x s => (∀ id, x ≠ .ex id) ∧ ∃ r, resA s res = some r ∧ Q r s.H s.T) ⟨enter 0 args, H, T⟩) : Run F f args H T Q := by
  obtain ⟨x, s, h1, h2, r, h3, h4⟩ := h
  exact ⟨r, s.H, s.T, .shared hf hn h1 h2 h3, h4⟩

end
attribute [irreducible] vcRows
end Go.Am

namespace Go.Am
open Go

def exec (F : Tab) (O : Nat → List Av → Option Av) : Nat → Cfg → Option Out
  | 0, _ => none
  | n + 1, .rows rs s =>
    match rs with
    | [] => some (.rows s)
    | r :: rs =>
      match gOn r.g s.e with
      | some false => exec F O n (.rows rs { s with e := putE r.d (.tup []) s.e })
      | some true =>
        match r.ok s.e with
        | true =>
          match callee r.o s.e with
          | some (f, args) =>
            match (r.pur && !(isPureT F (r.tgt f))) || (r.hk && !(tokFn F (r.tgt f))) with
            | true => none
            | false => match exec F O n (.call (r.tgt f) args s.H s.T) with
              | some (.val v H' T') => exec F O n (.rows rs ⟨putE r.d v s.e, H', T'⟩)
              | _ => none
          | none =>
            match evalOp r.o s with
            | some l => exec F O n (.rows rs (s.upd r.d l))
            | none => none
        | false => none
      | none => none
  | n + 1, .call (.fn f) args H T =>
    match O f args with
    | some v => some (.val v H T)
    | none => match F f with
    | some (.ext g) =>
      match stripA args with
      | some args' => match g args' with
        | some v => some (.val v H T)
        | none => none
      | none => none
    | some (.fn true m c res) =>
      match stripA args with
      | some args' =>
        match args.length.ble m with
        | true =>
          match exec F O n (.code c ⟨enter 0 args', [], []⟩) with
          | some (.code (.ex _) _) => none
          | some (.code _ s) => match resA s res with
            | some r => match freezeT s.H r with
              | some v => some (.val v H T)
              | none => none
            | none => none
          | _ => none
        | false => none
      | none => none
    | some (.fn false m c res) =>
      match args.length.ble m with
      | true =>
        match exec F O n (.code c ⟨enter 0 args, H, T⟩) with
        | some (.code (.ex _) _) => none
        | some (.code _ s) => match resA s res with
          | some r => some (.val r s.H s.T)
          | none => none
        | _ => none
      | false => none
    | none => none
  | n + 1, .call (.shr f) args H T =>
    match F f with
    | some (.fn _ m c res) =>
      match args.length.ble m with
      | true =>
        match exec F O n (.code c ⟨enter 0 args, H, T⟩) with
        | some (.code (.ex _) _) => none
        | some (.code _ s) => match resA s res with
          | some r => some (.val r s.H s.T)
          | none => none
        | _ => none
      | false => none
    | _ => none
  | n + 1, .call (.yld b) args H T =>
    match H[b]? with
    | some (.lrec ps e A Bd 0 _) =>
      match Nat.beq args.length ps.length && noRfn A && noRfn Bd with
      | true => match exec F O n (.code A ⟨setPs ps args e, H, T⟩) with
        | some (.code .nrm s1) => match s1.H[b]? with
          | some (.lrec ps1 e1 A1 B1 0 _) => match exec F O n (.code Bd ⟨s1.e, s1.H.set b (.lrec ps1 e1 A1 B1 1 none), s1.T⟩) with
            | some (.code x s2) => match s2.H[b]? with
              | some (.lrec ps2 e2 A2 B2 _ _) => some (.val (.bool x.isNrm) (s2.H.set b (.lrec ps2 e2 A2 B2 (if x.isNrm then 0 else 2) (some x))) s2.T)
              | _ => none
            | _ => none
          | _ => none
        | _ => none
      | false => none
    | _ => none
  | n + 1, .code c s =>
    match c with
    | .skip => some (.code .nrm s)
    | .reg none rs => match exec F O n (.rows rs s) with
      | some (.rows s') => some (.code .nrm s')
      | _ => none
    | .reg (some aft) rs =>
      match drawOk (isPure F) aft rs with
      | true => match exec F O n (.rows rs s) with
        | some (.rows s') => some (.code .nrm s')
        | _ => none
      | false => none
    | .seq k a b => match exec F O n (.code a s) with
      | some (.code .nrm s1) => exec F O n (.code b (keepO k s1))
      | some (.code x s1) => some (.code x s1)
      | _ => none
    | .cond c a b => match c.ev s.e with
      | .bool true => exec F O n (.code a s)
      | .bool false => exec F O n (.code b s)
      | _ => none
    | .block id a => match exec F O n (.code a s) with
      | some (.code (.ex i) s1) => match Nat.beq i id with
        | true => some (.code .nrm s1)
        | false => some (.code (.ex i) s1)
      | some (.code x s1) => some (.code x s1)
      | _ => none
    | .loop k a => match exec F O n (.code a (keepO k s)) with
      | some (.code .nrm s1) => exec F O n (.code (.loop k a) s1)
      | some (.code x s1) => some (.code x s1)
      | _ => none
    | .rfn k f ps A Bd => match f.ev s.e with
      | .fn g caps => match isFn F g with | false => none | true => match exec F O n (.call (.fn g) (.yld s.H.length :: caps) (s.H ++ [.lrec ps (keepO k s).e A Bd 0 none]) s.T) with
        | some (.val _ H2 T2) => match H2[s.H.length]? with
          | some (.lrec _ _ _ _ 0 pend) => some (.code (pend.getD .nrm) ⟨s.e, H2.set s.H.length .dead, T2⟩)
          | some (.lrec _ _ _ _ 2 pend) => some (.code (pend.getD .nrm) ⟨s.e, H2.set s.H.length .dead, T2⟩)
          | _ => none
        | _ => none
      | _ => none
    | .exit id => some (.code (.ex id) s)
    | .ret => some (.code .ret s)
    | .bad => none

theorem exec_sound (F : Tab) (O : Nat → List Av → Option Av) (hO : ∀ f args v, O f args = some v → Ret F f args v) : ∀ (n : Nat) (cfg : Cfg) (out : Out), exec F O n cfg = some out → Ev F cfg out := by
  intro n
  induction n with
  | zero => intro cfg out h; cases h
  | succ n ih =>
    intro cfg out h
    cases cfg with
    | rows rs s =>
      cases rs with
      | nil => simp only [exec, Option.some.injEq] at h; subst h; exact .nil
      | cons r rs =>
        simp only [exec] at h
        split at h
        · rename_i hg; exact .skip hg (ih _ _ h)
        · rename_i hg
          split at h
          · rename_i hk
            split at h
            · rename_i f args hc
              split at h
              · cases h
              · rename_i hpu
                split at h
                · rename_i v H' T' he
                  exact .call hg hk hc (fun hp => by simp [hp] at hpu; exact hpu.1) (fun hp => by simp [hp] at hpu; exact hpu.2) (ih _ _ he) (ih _ _ h)
                · cases h
            · split at h
              · rename_i l hl; exact .op hg hk hl (ih _ _ h)
              · cases h
          · cases h
        · cases h
    | call t args H T =>
      cases t with
      | shr f =>
        simp only [exec] at h
        split at h
        · rename_i p m c res hf
          split at h
          · rename_i hb
            split at h
            · cases h
            · rename_i x s hne he
              split at h
              · rename_i r hr
                cases h
                exact .shr hf (Nat.le_of_ble_eq_true hb) (ih _ _ he) (fun id q => hne id (by rw [q])) hr
              · cases h
            · cases h
          · cases h
        · cases h
      | yld b =>
        simp only [exec] at h
        split at h
        · rename_i ps e A Bd p hb
          split at h
          · rename_i hc
            simp only [Bool.and_eq_true] at hc
            split at h
            · rename_i s1 hA
              split at h
              · rename_i ps1 e1 A1 B1 p1 hb1
                split at h
                · rename_i x s2 hB
                  split at h
                  · rename_i ps2 e2 A2 B2 st2 p2 hb2
                    cases h
                    exact .round hb (Nat.eq_of_beq_eq_true hc.1.1) hc.1.2 hc.2 (ih _ _ hA) hb1 (ih _ _ hB) hb2
                  · cases h
                · cases h
              · cases h
            · cases h
          · cases h
        · cases h
      | fn f =>
      simp only [exec] at h
      split at h
      · rename_i v hv
        cases h
        exact hO _ _ _ hv _ _
      split at h
      · rename_i g hf
        split at h
        · rename_i args' hs
          split at h
          · rename_i v hg; cases h; exact .ext hf hs hg
          · cases h
        · cases h
      · rename_i m c res hf
        split at h
        · rename_i args' hs
          split at h
          · rename_i hb
            split at h
            · cases h
            · rename_i x s hne he
              split at h
              · rename_i r hr
                split at h
                · rename_i v hv
                  cases h
                  exact .pure hf hs (Nat.le_of_ble_eq_true hb) (ih _ _ he) (fun id q => hne id (by rw [q])) hr hv
                · cases h
              · cases h
            · cases h
          · cases h
        · cases h
      · rename_i m c res hf
        split at h
        · rename_i hb
          split at h
          · cases h
          · rename_i x s hne he
            split at h
            · rename_i r hr
              cases h
              exact .shared hf (Nat.le_of_ble_eq_true hb) (ih _ _ he) (fun id q => hne id (by rw [q])) hr
            · cases h
          · cases h
        · cases h
      · cases h
    | code c s =>
      cases c with
      | skip => simp only [exec, Option.some.injEq] at h; subst h; exact .skipc
      | reg d rs =>
        cases d with
        | none =>
          simp only [exec] at h
          split at h
          · rename_i s' he; cases h; exact .reg (ih _ _ he)
          · cases h
        | some aft =>
          simp only [exec] at h
          split at h
          · rename_i hd
            split at h
            · rename_i s' he; cases h; exact .draw hd (ih _ _ he)
            · cases h
          · cases h
      | seq k a b =>
        simp only [exec] at h
        split at h
        · rename_i s1 he; exact .seq (ih _ _ he) (ih _ _ h)
        · rename_i x s1 hne he; cases h; exact .seqx (ih _ _ he) (fun q => hne (by rw [q]))
        · cases h
      | cond c a b =>
        simp only [exec] at h
        split at h
        · rename_i hc; exact .cond (t := true) hc (ih _ _ h)
        · rename_i hc; exact .cond (t := false) hc (ih _ _ h)
        · cases h
      | block id a =>
        simp only [exec] at h
        split at h
        · rename_i i s1 he
          have hb := Ev.block (id := id) (ih _ _ he)
          split at h
          · rename_i hi
            cases h
            have : i = id := Nat.eq_of_beq_eq_true hi
            subst this
            simpa using hb
          · rename_i hi
            cases h
            have : i ≠ id := fun q => by subst q; rw [Nat.beq_refl] at hi; cases hi
            simpa [this] using hb
        · rename_i x s1 hne he
          cases h
          have hb := Ev.block (id := id) (ih _ _ he)
          have : x ≠ .ex id := fun q => hne id (by rw [q])
          simpa [this] using hb
        · cases h
      | loop k a =>
        simp only [exec] at h
        split at h
        · rename_i s1 he; exact .loop (ih _ _ he) (ih _ _ h)
        · rename_i x s1 hne he; cases h; exact .loopx (ih _ _ he) (fun q => hne (by rw [q]))
        · cases h
      | rfn k f ps A Bd =>
        simp only [exec] at h
        split at h
        · rename_i g caps hf
          split at h
          · cases h
          rename_i hfn
          split at h
          · rename_i v H2 T2 he
            split at h
            · rename_i hb; cases h; exact .rfn hf (ih _ _ he) hb (.inl rfl) hfn
            · rename_i hb; cases h; exact .rfn hf (ih _ _ he) hb (.inr rfl) hfn
            · cases h
          · cases h
        · cases h
      | exit id => simp only [exec, Option.some.injEq] at h; subst h; exact .exit
      | ret => simp only [exec, Option.some.injEq] at h; subst h; exact .ret
      | bad => cases h

end Go.Am

namespace Go.Am
open Go

def allB {α : Type} (p : α → α → Bool) : List α → List α → Bool
  | [], [] => true
  | x :: xs, y :: ys => match p x y with
    | true => allB p xs ys
    | false => false
  | _, _ => false

theorem allB_sound {α : Type} {p : α → α → Bool} (hp : ∀ x y, p x y = true → x = y) : ∀ xs ys, allB p xs ys = true → xs = ys
  | [], [], _ => rfl
  | x :: xs, y :: ys, h => by
    simp only [allB] at h
    split at h
    · rename_i q; rw [hp x y q, allB_sound hp xs ys h]
    · cases h
  | [], _ :: _, h => by cases h
  | _ :: _, [], h => by cases h

def beqTk : Tk → Tk → Bool
  | .nil, .nil => true
  | .full, .full => true
  | .any, .any => true
  | _, _ => false

theorem beqTk_sound {a b : Tk} (h : beqTk a b = true) : a = b := by
  unfold beqTk at h
  split at h <;> first | rfl | cases h

def beqInt : Int → Int → Bool
  | .ofNat a, .ofNat b => Nat.beq a b
  | .negSucc a, .negSucc b => Nat.beq a b
  | _, _ => false

theorem beqInt_sound {a b : Int} (h : beqInt a b = true) : a = b := by
  unfold beqInt at h
  split at h
  · rw [Nat.eq_of_beq_eq_true h]
  · rw [Nat.eq_of_beq_eq_true h]
  · cases h

def beqK : IntKind → IntKind → Bool := fun a b => decide (a = b)

/-- Are two values of data the same? -/
def beqA : Nat → Av → Av → Bool
  | 0, _, _ => false
  | n + 1, a, b => match a, b with
    | .int k x, .int k' y => beqK k k' && beqInt x y
    | .bool x, .bool y => x == y
    | .str x, .str y => allB (fun (c d : UInt8) => Nat.beq c.toNat d.toNat) x y
    | .agg xs, .agg ys => allB (beqA n) xs ys
    | .tup xs, .tup ys => allB (beqA n) xs ys
    | .sl xs t, .sl ys t' => beqTk t t' && allB (allB (beqA n)) xs ys
    | .cptr xs o, .cptr ys o' => Nat.beq o o' && allB (beqA n) xs ys
    | .nilptr, .nilptr => true
    | .cmap xs, .cmap ys => allB (fun p q => beqA n p.1 q.1 && beqA n p.2 q.2) xs ys
    | .fn f xs, .fn g ys => Nat.beq f g && allB (beqA n) xs ys
    | .nilfn, .nilfn => true
    | .nilif, .nilif => true
    | .top, .top => true
    | _, _ => false

theorem beqA_sound : ∀ (n : Nat) (a b : Av), beqA n a b = true → a = b := by
  intro n
  induction n with
  | zero => intro a b h; cases h
  | succ n ih =>
    intro a b h
    have hl := allB_sound ih
    unfold beqA at h
    split at h
    · simp only [Bool.and_eq_true, beqK, decide_eq_true_eq] at h
      rw [h.1, beqInt_sound h.2]
    · simp at h; rw [h]
    · refine congrArg _ (allB_sound (fun c d q => ?_) _ _ h)
      exact UInt8.toNat_inj.1 (Nat.eq_of_beq_eq_true q)
    · rw [hl _ _ h]
    · rw [hl _ _ h]
    · simp only [Bool.and_eq_true] at h
      rw [beqTk_sound h.1, allB_sound hl _ _ h.2]
    · simp only [Bool.and_eq_true] at h
      rw [Nat.eq_of_beq_eq_true h.1, hl _ _ h.2]
    · rfl
    · refine congrArg _ (allB_sound (fun p q r => ?_) _ _ h)
      simp only [Bool.and_eq_true] at r
      exact Prod.ext (ih _ _ r.1) (ih _ _ r.2)
    · simp only [Bool.and_eq_true] at h
      rw [Nat.eq_of_beq_eq_true h.1, hl _ _ h.2]
    · rfl
    · rfl
    · rfl
    · cases h

/-- Calls that are known: the function, what it is given, what it returns. -/
abbrev Memo := List (Nat × List Av × Av)

def Memo.get (m : Memo) (f : Nat) (args : List Av) : Option Av :=
  match m with
  | [] => none
  | (g, as, v) :: m => match Nat.beq f g with
    | true => match allB (beqA 30) args as with
      | true => some v
      | false => Memo.get m f args
    | false => Memo.get m f args

/-- All of them hold. -/
def Memo.Ok (F : Tab) (m : Memo) : Prop := ∀ f args v, Memo.get m f args = some v → Ret F f args v

theorem Memo.ok_nil (F : Tab) : Memo.Ok F [] := fun f args v h => by cases h

theorem Memo.ok_cons {F : Tab} {m : Memo} {f : Nat} {args : List Av} {v : Av} (h : Ret F f args v) (hm : Memo.Ok F m) : Memo.Ok F ((f, args, v) :: m) := by
  intro g as u hu
  simp only [Memo.get] at hu
  split at hu
  · rename_i hg
    split at hu
    · rename_i ha
      cases hu
      rw [Nat.eq_of_beq_eq_true hg, allB_sound (beqA_sound 30) _ _ ha]
      exact h
    · exact hm _ _ _ hu
  · exact hm _ _ _ hu

/-- Does a run of a pure function come to this value? -/
def runsTo (F : Tab) (m : Memo) (n f : Nat) (args : List Av) (v : Av) : Bool :=
  match isPure F f with
  | true => match exec F (Memo.get m) n (.call (.fn f) args [] []) with
    | some (.val u _ _) => beqA 30 u v
    | _ => false
  | false => false

/-- A pure function's run says what it returns, whatever the caller's heap is. -/
theorem ret_pure {F : Tab} {f : Nat} {args : List Av} {v : Av} {H : List AO} {T : List Nat} {H' : List AO} {T' : List Nat} (hp : isPure F f = true) (h : Ev F (.call (.fn f) args H T) (.val v H' T')) : Ret F f args v := by
  intro H2 T2
  cases h with
  | ext h1 h2 h3 => exact .ext h1 h2 h3
  | pure h1 h2 h3 h4 h5 h6 h7 => exact .pure h1 h2 h3 h4 h5 h6 h7
  | shared h1 => simp [isPure, h1] at hp

theorem runsTo_sound {F : Tab} {m : Memo} (hm : Memo.Ok F m) {n f : Nat} {args : List Av} {v : Av} (h : runsTo F m n f args v = true) : Ret F f args v := by
  unfold runsTo at h
  split at h
  · rename_i hp
    split at h
    · rename_i u H' T' he
      rw [← beqA_sound 30 _ _ h]
      exact ret_pure hp (exec_sound F _ hm n _ _ he)
    · cases h
  · cases h

theorem Memo.ok_run {F : Tab} {m : Memo} (hm : Memo.Ok F m) {f : Nat} {args : List Av} {v : Av} (n : Nat) (h : runsTo F m n f args v = true) : Memo.Ok F ((f, args, v) :: m) := Memo.ok_cons (runsTo_sound hm h) hm

end Go.Am

namespace Go.Am
open Go

inductive BT where
  | leaf (f : Nat) (d : Def)
  | node (k : Nat) (l r : BT)

def BT.get : BT → Nat → Option Def
  | .leaf g d, f => match Nat.beq f g with | true => some d | false => none
  | .node k l r, f => match k.ble f with | true => r.get f | false => l.get f

end Go.Am
