/- What abstract code comes to. Generic: no program in sight. -/
import Derived.Test.YtfhilbdpejljdaaGreatDoorA1
import Derived.Orders
set_option linter.all false
namespace Go.Am
open Go

/-- A result: a slot; what lies in a box that a slot leads to. -/
inductive ResA where
  | t (n : Nat)
  | c (wd : Option Nat) (n : Nat)

inductive Def where
  | ext (g : List Av → Option Av)
  | fn (pure : Bool) (n : Nat) (c : AC) (res : List ResA)

abbrev Tab := Nat → Option Def

def St.upd (s : St) (d : Option Nat) (l : Lab) : St := ⟨putE d l.v s.e, l.d.on s.H, l.T.getD s.T⟩

/-- Is a row carried out? -/
def gOn (g : Option (Nat × Bool)) (e : Env) : Option Bool :=
  match g with
  | none => some true
  | some (d, want) => match getE d e with
    | .bool b => some (b == want)
    | .tup [] => some false
    | _ => none

/-- What a call enters: a function; a function that is run on its caller's heap; a round of a range over a function. -/
inductive Tgt where
  | fn (f : Nat)
  | shr (f : Nat)
  | yld (b : Nat)

/-- What a call enters. -/
def callee (o : AOp) (e : Env) : Option (Tgt × List Av) :=
  match o with
  | .call f xs => some (.fn f, xs.map (·.ev e))
  | .calld x xs => match x.ev e with
    | .fn f caps => some (.fn f, xs.map (·.ev e) ++ caps)
    | .yld b => some (.yld b, xs.map (·.ev e))
    | _ => none
  | _ => none

def AR.tgt (r : AR) : Tgt → Tgt
  | .fn f => if r.shr then .shr f else .fn f
  | t => t

def setPs : List Nat → List Av → Env → Env
  | p :: ps, a :: as, e => setPs ps as (setE p a e)
  | _, _, e => e

/-- No range over a function stands in this code. -/
def noRfn : AC → Bool
  | .seq _ a b => noRfn a && noRfn b
  | .cond _ a b => noRfn a && noRfn b
  | .block _ a => noRfn a
  | .loop _ a => noRfn a
  | .rfn .. => false
  | _ => true

def Xit.isNrm : Xit → Bool
  | .nrm => true
  | _ => false

def stripA : List Av → Option (List Av)
  | [] => some []
  | a :: as => match strip a, stripA as with
    | some a, some as => some (a :: as)
    | _, _ => none

def mapO {α β : Type} (f : α → Option β) : List α → Option (List β)
  | [] => some []
  | a :: as => match f a, mapO f as with
    | some b, some bs => some (b :: bs)
    | _, _ => none

/-- A value as data alone, once the heap is left: what it leads to is never written again. -/
def frz (H : List AO) : Nat → Av → Option Av
  | 0, a => strip a
  | n + 1, a => match a with
    | .mp b => match H[b]? with
      | some (.mapo kvs) => (mapO (fun p => match frz H n p.1, frz H n p.2 with | some k, some v => some (k, v) | _, _ => none) kvs).map .cmap
      | _ => none
    | .bs b ver sz off len => match rowsOf H b ver with
      | some (s, rs) => if s = sz ∧ off + len ≤ rs.length then (mapO (mapO (frz H n)) ((rs.drop off).take len)).map fun rs => .sl rs .any else none
      | none => none
    | .ptr b ver row off => match rowsOf H b ver with
      | some (_, rs) => match rs[row]? with
        | some r => (mapO (frz H n) r).map fun r => .cptr r off
        | none => none
      | none => none
    | .agg cs => (mapO (frz H n) cs).map .agg
    | .fn f cs => (mapO (frz H n) cs).map (.fn f)
    | a => strip1 a

/-- A result as data alone. -/
def freezeT (H : List AO) : Av → Option Av
  | .tup vs => (mapO (frz H 40) vs).map .tup
  | a => frz H 40 a

def enter : Nat → List Av → Env
  | _, [] => []
  | i, a :: as => (i, a) :: enter (i + 1) as

def resA1 (s : St) : ResA → Option Av
  | .t n => some (getE n s.e)
  | .c wd n => (evalOp (.ld wd (.t n)) s).map (·.v)

def resAs (s : St) : List ResA → Option (List Av)
  | [] => some []
  | r :: rs => match resA1 s r, resAs s rs with
    | some a, some as => some (a :: as)
    | _, _ => none

def resA (s : St) (rs : List ResA) : Option Av :=
  match resAs s rs with
  | some [a] => some a
  | some as => some (.tup as)
  | none => none

def keepO (k : Option (List Nat)) (s : St) : St :=
  match k with
  | none => s
  | some ks => { s with e := keepE ks s.e }

/-- What an operation does to the heap and the tokens, for an order that is drawn: nothing; a new block; tokens alone; anything. -/
inductive Eff where
  | blind
  | idle
  | push
  | tok
  | any
  deriving DecidableEq

def effOp (pu : Nat → Bool) : AOp → Eff
  | .alloc _ => .push
  | .box .. => .push
  | .mkmap => .push
  | .rng _ => .push
  | .nxt _ => .any
  | .app .. => .tok
  | .call f _ => if pu f then .blind else .any
  | .ld .. => .idle
  | .look .. => .idle
  | .lenM .. => .idle
  | .litB .. => .any
  | .st .. => .any
  | .mkS .. => .any
  | .mset .. => .any
  | .calld .. => .any
  | .appB .. => .any
  | .copy .. => .any
  | _ => .blind

def Od.slots : Od → List Nat
  | .t n => [n]
  | .c _ => []

def oslots : Option Od → List Nat
  | some o => o.slots
  | none => []

/-- The slots that an operation reads. -/
def AOp.slots : AOp → List Nat
  | .mov x | .box _ x | .ld _ x | .nck x | .un _ x | .cvt _ x | .s2b x | .b2s x | .fad _ x | .fld _ _ x | .ext x _ | .len x | .lenM x | .cap x | .rng x | .nxt x => x.slots
  | .pick a b c => a.slots ++ b.slots ++ c.slots
  | .alloc _ | .mkmap | .bad => []
  | .build _ ps => ps.flatMap fun p => p.2.2.slots
  | .lit _ _ _ ps | .litB _ _ _ ps => ps.flatMap fun p => p.2.slots
  | .st _ x y | .bin _ x y | .binB _ x y | .binN _ x y | .eqA _ _ x y | .ixs _ x y | .ixa _ _ x y | .ixv _ _ _ x y | .ixb x y | .look _ _ _ _ x y | .app _ _ x y | .appB _ _ x y | .copy _ x y | .min x y | .max x y | .mkS _ _ _ x y => x.slots ++ y.slots
  | .fnc _ cs => cs.flatMap (·.slots)
  | .slc _ x lo hi mx => x.slots ++ oslots lo ++ oslots hi ++ oslots mx
  | .mset _ _ x y z => x.slots ++ y.slots ++ z.slots
  | .call _ xs => xs.flatMap (·.slots)
  | .calld x xs => x.slots ++ xs.flatMap (·.slots)

def AR.reads (r : AR) : List Nat := r.o.slots ++ (r.k.flatMap (fun p => p.2.slots) ++ r.m.flatMap Mk.slots) ++ (match r.g with | some (d, _) => [d] | none => [])
def AR.writes (r : AR) : List Nat := match r.d with | some d => [d] | none => []

def disj (xs ys : List Nat) : Bool := xs.all fun x => !ys.contains x

def effR (pu : Nat → Bool) (r : AR) : Eff :=
  match r.o with
  | .calld _ _ => if r.pur then .blind else if r.hk then .tok else .any
  | .call f _ => if pu f && !r.shr then .blind else if r.hk then .tok else .any
  | o => effOp pu o

/-- Do the marks say that two slots lead to two blocks? -/
def partedM (ma mb : List Mk) (x y : Nat) : Bool :=
  ma.any fun
    | .same x' k => x == x' && mb.any fun
      | .apart y' k' => k == k' && y == y'
      | _ => false
    | _ => false

/-- A load and a store, two stores, whose marks say that they touch two blocks. -/
def parted (a b : AR) : Bool :=
  match a.o, b.o with
  | .ld _ (.t x), .st _ (.t y) _ => partedM a.m b.m x y
  | .st _ (.t x) _, .st _ (.t y) _ => partedM a.m b.m x y
  | _, _ => false

/-- May these two rows, the first ahead of the second in the text, be carried out in either order? -/
def swapOk (pu : Nat → Bool) (a b : AR) : Bool :=
  disj a.writes b.reads && disj b.writes a.reads && disj a.writes b.writes &&
  (parted a b || match effR pu a, effR pu b with
  | .blind, _ => true
  | _, .blind => true
  | .idle, .idle => true
  | .idle, .push => true
  | .idle, .tok => true
  | .tok, .idle => true
  | _, _ => false)

/-- The rows ahead of each row in every order: all of them. -/
def closeA : List (List Nat) → List (List Nat) → List (List Nat)
  | acc, [] => acc
  | acc, a :: as => closeA (acc ++ [a ++ a.flatMap fun i => acc.getD i []]) as

/-- Every two rows that no order binds may be swapped. -/
def drawOk (pu : Nat → Bool) (aft : List (List Nat)) (rs : List AR) : Bool :=
  let cl := closeA [] aft
  aft.length == rs.length &&
  ((List.range rs.length).all fun j => (cl.getD j []).all fun i => (aft.getD j []).contains i || (aft.getD j []).any fun k => (cl.getD k []).contains i) &&
  (aft.zipIdx.all fun p => p.1.all fun i => i < p.2) &&
  (rs.zipIdx.all fun b => rs.zipIdx.all fun a => !(decide (a.2 < b.2)) || (cl.getD b.2 []).contains a.2 || swapOk pu a.1 b.1)

def isPure (F : Tab) (f : Nat) : Bool :=
  match F f with
  | some (.ext _) => true
  | some (.fn p _ _ _) => p
  | none => false

def isFn (F : Tab) (f : Nat) : Bool :=
  match F f with
  | some (.fn _ _ _ _) => true
  | _ => false

def isPureT (F : Tab) : Tgt → Bool
  | .fn f => isPure F f
  | .shr _ => false
  | .yld _ => false

/-- Rows that leave the heap as it is. -/
def tokR (pu : Nat → Bool) (r : AR) : Bool :=
  match r.o with
  | .calld _ _ => r.pur
  | .call f _ => pu f && !r.shr
  | o => match effOp pu o with
    | .blind => true
    | .idle => true
    | .tok => true
    | _ => false

def tokC (pu : Nat → Bool) : AC → Bool
  | .skip => true
  | .reg _ rs => rs.all (tokR pu)
  | .seq _ a b => tokC pu a && tokC pu b
  | .cond _ a b => tokC pu a && tokC pu b
  | .block _ a => tokC pu a
  | .loop _ a => tokC pu a
  | .rfn .. => false
  | .exit _ => true
  | .ret => true
  | .bad => true

def tokFn (F : Tab) : Tgt → Bool
  | .fn f => match F f with
    | some (.fn false _ c _) => tokC (isPure F) c
    | _ => false
  | .shr f => match F f with
    | some (.fn _ _ c _) => tokC (isPure F) c
    | _ => false
  | .yld _ => false

inductive Cfg where
  | code (c : AC) (s : St)
  | rows (rs : List AR) (s : St)
  | call (f : Tgt) (args : List Av) (H : List AO) (T : List Nat)

inductive Out where
  | code (x : Xit) (s : St)
  | rows (s : St)
  | val (v : Av) (H : List AO) (T : List Nat)

inductive Ev (F : Tab) : Cfg → Out → Prop
  | nil {s : St} : Ev F (.rows [] s) (.rows s)
  | skip {r : AR} {rs : List AR} {s : St} {o : Out} : gOn r.g s.e = some false → Ev F (.rows rs { s with e := putE r.d (.tup []) s.e }) o → Ev F (.rows (r :: rs) s) o
  | op {r : AR} {rs : List AR} {s : St} {o : Out} {l : Lab} : gOn r.g s.e = some true → r.ok s.e = true → evalOp r.o s = some l → Ev F (.rows rs (s.upd r.d l)) o → Ev F (.rows (r :: rs) s) o
  | call {r : AR} {rs : List AR} {s : St} {o : Out} {f : Tgt} {args : List Av} {v : Av} {H' : List AO} {T' : List Nat} : gOn r.g s.e = some true → r.ok s.e = true → callee r.o s.e = some (f, args) → (r.pur = true → isPureT F (r.tgt f) = true) → (r.hk = true → tokFn F (r.tgt f) = true) →
      Ev F (.call (r.tgt f) args s.H s.T) (.val v H' T') → Ev F (.rows rs ⟨putE r.d v s.e, H', T'⟩) o → Ev F (.rows (r :: rs) s) o
  | ext {f : Nat} {args args' : List Av} {g : List Av → Option Av} {v : Av} {H : List AO} {T : List Nat} : F f = some (.ext g) → stripA args = some args' → g args' = some v → Ev F (.call (.fn f) args H T) (.val v H T)
  | pure {f : Nat} {args args' : List Av} {n : Nat} {c : AC} {res : List ResA} {x : Xit} {s : St} {r v : Av} {H : List AO} {T : List Nat} : F f = some (.fn true n c res) → stripA args = some args' → args.length ≤ n →
      Ev F (.code c ⟨enter 0 args', [], []⟩) (.code x s) → (∀ id, x ≠ .ex id) → resA s res = some r → freezeT s.H r = some v → Ev F (.call (.fn f) args H T) (.val v H T)
  | shared {f : Nat} {args : List Av} {n : Nat} {c : AC} {res : List ResA} {x : Xit} {s : St} {r : Av} {H : List AO} {T : List Nat} : F f = some (.fn false n c res) → args.length ≤ n →
      Ev F (.code c ⟨enter 0 args, H, T⟩) (.code x s) → (∀ id, x ≠ .ex id) → resA s res = some r → Ev F (.call (.fn f) args H T) (.val r s.H s.T)
  | shr {f : Nat} {args : List Av} {p : Bool} {n : Nat} {c : AC} {res : List ResA} {x : Xit} {s : St} {r : Av} {H : List AO} {T : List Nat} : F f = some (.fn p n c res) → args.length ≤ n →
      Ev F (.code c ⟨enter 0 args, H, T⟩) (.code x s) → (∀ id, x ≠ .ex id) → resA s res = some r → Ev F (.call (.shr f) args H T) (.val r s.H s.T)
  | round {b : Nat} {ps ps1 ps2 : List Nat} {e e1 e2 : Env} {A Bd A1 B1 A2 B2 : AC} {st2 : Nat} {p p1 p2 : Option Xit} {args : List Av} {H : List AO} {T : List Nat} {x : Xit} {s1 s2 : St} : H[b]? = some (.lrec ps e A Bd 0 p) → args.length = ps.length → noRfn A = true → noRfn Bd = true →
      Ev F (.code A ⟨setPs ps args e, H, T⟩) (.code .nrm s1) → s1.H[b]? = some (.lrec ps1 e1 A1 B1 0 p1) → Ev F (.code Bd ⟨s1.e, s1.H.set b (.lrec ps1 e1 A1 B1 1 none), s1.T⟩) (.code x s2) →
      s2.H[b]? = some (.lrec ps2 e2 A2 B2 st2 p2) → Ev F (.call (.yld b) args H T) (.val (.bool x.isNrm) (s2.H.set b (.lrec ps2 e2 A2 B2 (if x.isNrm then 0 else 2) (some x))) s2.T)
  | skipc {s : St} : Ev F (.code .skip s) (.code .nrm s)
  | reg {rs : List AR} {s s' : St} : Ev F (.rows rs s) (.rows s') → Ev F (.code (.reg none rs) s) (.code .nrm s')
  | draw {aft : List (List Nat)} {rs : List AR} {s s' : St} : drawOk (isPure F) aft rs = true → Ev F (.rows rs s) (.rows s') → Ev F (.code (.reg (some aft) rs) s) (.code .nrm s')
  | seq {k : Option (List Nat)} {a b : AC} {s s1 : St} {o : Out} : Ev F (.code a s) (.code .nrm s1) → Ev F (.code b (keepO k s1)) o → Ev F (.code (.seq k a b) s) o
  | seqx {k : Option (List Nat)} {a b : AC} {s s1 : St} {x : Xit} : Ev F (.code a s) (.code x s1) → x ≠ .nrm → Ev F (.code (.seq k a b) s) (.code x s1)
  | cond {c : Od} {a b : AC} {s : St} {t : Bool} {o : Out} : c.ev s.e = .bool t → Ev F (.code (if t then a else b) s) o → Ev F (.code (.cond c a b) s) o
  | block {id : Nat} {a : AC} {s s1 : St} {x : Xit} : Ev F (.code a s) (.code x s1) → Ev F (.code (.block id a) s) (.code (if x = .ex id then .nrm else x) s1)
  | loop {k : Option (List Nat)} {a : AC} {s s1 : St} {o : Out} : Ev F (.code a (keepO k s)) (.code .nrm s1) → Ev F (.code (.loop k a) s1) o → Ev F (.code (.loop k a) s) o
  | loopx {k : Option (List Nat)} {a : AC} {s s1 : St} {x : Xit} : Ev F (.code a (keepO k s)) (.code x s1) → x ≠ .nrm → Ev F (.code (.loop k a) s) (.code x s1)
  | rfn {k : Option (List Nat)} {f : Od} {ps : List Nat} {A Bd : AC} {s : St} {g : Nat} {caps : List Av} {v : Av} {H2 : List AO} {T2 : List Nat} {ps' : List Nat} {e' : Env} {A' Bd' : AC} {st : Nat} {pend : Option Xit} : f.ev s.e = .fn g caps →
      Ev F (.call (.fn g) (.yld s.H.length :: caps) (s.H ++ [.lrec ps (keepO k s).e A Bd 0 none]) s.T) (.val v H2 T2) → H2[s.H.length]? = some (.lrec ps' e' A' Bd' st pend) → (st = 0 ∨ st = 2) → isFn F g = true →
      Ev F (.code (.rfn k f ps A Bd) s) (.code (pend.getD .nrm) ⟨s.e, H2.set s.H.length .dead, T2⟩)
  | exit {id : Nat} {s : St} : Ev F (.code (.exit id) s) (.code (.ex id) s)
  | ret {s : St} : Ev F (.code .ret s) (.code .ret s)

end Go.Am

namespace Go.Am
open Go

/-- Two states that agree on some slots. -/
def Agree (ks : List Nat) (e e' : Env) : Prop := ∀ k ∈ ks, getE k e = getE k e'

theorem Agree.mono {ks ks' : List Nat} {e e' : Env} (h : Agree ks e e') (hk : ∀ k ∈ ks', k ∈ ks) : Agree ks' e e' := fun k q => h k (hk k q)

theorem od_congr {x : Od} {e e' : Env} (h : Agree x.slots e e') : x.ev e = x.ev e' := by
  cases x with
  | t n => exact h n (by simp [Od.slots])
  | c a => rfl

theorem ods_congr {xs : List Od} {e e' : Env} (h : Agree (xs.flatMap (·.slots)) e e') : xs.map (·.ev e) = xs.map (·.ev e') := by
  apply List.map_congr_left
  intro x hx
  exact od_congr (h.mono fun k hk => List.mem_flatMap.2 ⟨x, hx, hk⟩)

theorem bound_congr {x : Option Od} {d : Int} {e e' : Env} (h : Agree (oslots x) e e') : bound e d x = bound e' d x := by
  cases x with
  | none => rfl
  | some x => simp only [bound]; rw [od_congr h]

theorem fill_congr {e e' : Env} : ∀ (ps : List (Nat × Nat × Od)) (z : List Av), Agree (ps.flatMap fun p => p.2.2.slots) e e' → fillA e z ps = fillA e' z ps
  | [], z, _ => rfl
  | (off, n, x) :: ps, z, h => by
    have h1 : x.ev e = x.ev e' := od_congr (h.mono fun k hk => by simp [hk])
    have h2 : Agree (ps.flatMap fun p => p.2.2.slots) e e' := h.mono fun k hk => by simp only [List.flatMap_cons, List.mem_append]; exact .inr hk
    simp only [fillA, h1]
    split
    · rw [fill_congr ps _ h2]
    · rfl

theorem rows_congr {e e' : Env} {sz : Nat} : ∀ (ps : List (Nat × Od)) (rs : List (List Av)), Agree (ps.flatMap fun p => p.2.slots) e e' → rowsA e sz rs ps = rowsA e' sz rs ps
  | [], z, _ => rfl
  | (i, x) :: ps, z, h => by
    have h1 : x.ev e = x.ev e' := od_congr (h.mono fun k hk => by simp [hk])
    have h2 : Agree (ps.flatMap fun p => p.2.slots) e e' := h.mono fun k hk => by simp only [List.flatMap_cons, List.mem_append]; exact .inr hk
    simp only [rowsA, h1]
    split
    · rw [rows_congr ps _ h2]
    · rfl

theorem slcA_congr {e e' : Env} {x : Av} {lo hi mx : Option Od} (h1 : Agree (oslots lo) e e') (h2 : Agree (oslots hi) e e') (h3 : Agree (oslots mx) e e') : slcA e x lo hi mx = slcA e' x lo hi mx := by
  unfold slcA
  split
  · rw [bound_congr h1, bound_congr h2]
  · rw [bound_congr h1, bound_congr h2, bound_congr h3]
  · rw [bound_congr h1, bound_congr h2, bound_congr h3]
  · rfl

theorem ag_l {a b : List Nat} {e e' : Env} (h : Agree (a ++ b) e e') : Agree a e e' := h.mono fun k hk => List.mem_append.2 (.inl hk)
theorem ag_r {a b : List Nat} {e e' : Env} (h : Agree (a ++ b) e e') : Agree b e e' := h.mono fun k hk => List.mem_append.2 (.inr hk)

theorem evalOp_congr {o : AOp} {e e' : Env} {H : List AO} {T : List Nat} (h : Agree o.slots e e') : evalOp o ⟨e, H, T⟩ = evalOp o ⟨e', H, T⟩ := by
  cases o <;> simp only [AOp.slots] at h
  all_goals first
    | rfl
    | (simp only [evalOp]; rw [od_congr h])
    | (simp only [evalOp]; rw [od_congr (ag_l h), od_congr (ag_r h)])
    | (simp only [evalOp]; rw [od_congr (ag_l (ag_l h)), od_congr (ag_r (ag_l h)), od_congr (ag_r h)])
    | (simp only [evalOp]; rw [fill_congr _ _ h])
    | (simp only [evalOp]; rw [rows_congr _ _ h])
    | (simp only [evalOp]; rw [ods_congr h])
    | (simp only [evalOp]; rw [od_congr (ag_l (ag_l (ag_l h))), slcA_congr (ag_r (ag_l (ag_l h))) (ag_r (ag_l h)) (ag_r h)])

theorem callee_congr {o : AOp} {e e' : Env} (h : Agree o.slots e e') : callee o e = callee o e' := by
  cases o <;> simp only [AOp.slots] at h
  all_goals first
    | rfl
    | (simp only [callee]; rw [ods_congr h])
    | (simp only [callee]; rw [od_congr (ag_l h), ods_congr (ag_r h)])

theorem rowsOf_app {H X : List AO} {b ver : Nat} {r : Nat × List (List Av)} (h : rowsOf H b ver = some r) : rowsOf (H ++ X) b ver = some r := by
  unfold rowsOf at h ⊢
  cases hb : H[b]? with
  | none => rw [hb] at h; cases h
  | some o =>
    have : (H ++ X)[b]? = some o := by rw [List.getElem?_append_left (List.getElem?_eq_some_iff.1 hb).1]; exact hb
    rw [this]; rw [hb] at h; exact h

theorem lab_idle {x : Option Av} {l : Lab} (h : (x.map fun a => ({ v := a } : Lab)) = some l) : l.d = .none ∧ l.T = none := by
  cases x with
  | none => cases h
  | some y => cases h; exact ⟨rfl, rfl⟩

theorem get_app {H X : List AO} {b : Nat} {o : AO} (h : H[b]? = some o) : (H ++ X)[b]? = some o := by
  rw [List.getElem?_append_left (List.getElem?_eq_some_iff.1 h).1]; exact h

theorem mapOf_app {H X : List AO} {a : Av} {kvs : List (Av × Av)} (h : mapOf H a = some kvs) : mapOf (H ++ X) a = some kvs := by
  unfold mapOf at h ⊢
  split at h
  · rename_i b
    split at h
    · rename_i kvs' hb
      simp only [get_app (X := X) hb]
      exact h
    · cases h
  · exact h
  · cases h

/-- An idle operation turns nothing, and is not touched by new blocks. -/
theorem idle_sound {pu : Nat → Bool} {o : AOp} {e : Env} {H X : List AO} {T T' : List Nat} {l : Lab} (hi : effOp pu o = .idle) (h : evalOp o ⟨e, H, T⟩ = some l) :
    l.d = .none ∧ l.T = none ∧ evalOp o ⟨e, H ++ X, T'⟩ = some l := by
  cases o
  case ld n a =>
    simp only [evalOp] at h ⊢
    split at h
    · rename_i b ver row off hv
      split at h
      · rename_i sz rs hr
        simp only [rowsOf_app (X := X) hr]
        split at h
        · rename_i r hrow
          try simp only [hrow]
          exact ⟨(lab_idle h).1, (lab_idle h).2, h⟩
        · cases h
      · cases h
    · rename_i r off hv
      exact ⟨(lab_idle h).1, (lab_idle h).2, h⟩
    · cases h
  case look ag ks z ok m k =>
    simp only [evalOp] at h ⊢
    split at h
    · rename_i kvs hr
      simp only [mapOf_app (X := X) hr]
      split at h
      · rename_i hk
        try simp only [hk, if_true]
        split at h
        · rename_i hf
          try simp only [hf]
          exact ⟨(lab_idle h).1, (lab_idle h).2, h⟩
        · rename_i hf
          try simp only [hf]
          exact ⟨(lab_idle h).1, (lab_idle h).2, h⟩
        · cases h
      · cases h
    · cases h
  case lenM m =>
    simp only [evalOp] at h ⊢
    split at h
    · rename_i kvs hr
      simp only [mapOf_app (X := X) hr]
      exact ⟨(lab_idle h).1, (lab_idle h).2, h⟩
    · cases h
  all_goals first
    | (simp only [effOp] at hi; cases hi; done)
    | (simp only [evalOp] at h; cases h; done)
    | (simp only [evalOp] at h ⊢; exact ⟨(lab_idle h).1, (lab_idle h).2, h⟩)
    | (refine ⟨?_, ?_, h⟩ <;> (simp only [evalOp] at h; repeat' (first | (cases h; done) | exact (lab_idle h).1 | exact (lab_idle h).2 | split at h)))

/-- A blind operation turns nothing, and sees neither heap nor tokens. -/
theorem blind_sound {pu : Nat → Bool} {o : AOp} {e : Env} {H H' : List AO} {T T' : List Nat} {l : Lab} (hi : effOp pu o = .blind) (h : evalOp o ⟨e, H, T⟩ = some l) :
    l.d = .none ∧ l.T = none ∧ evalOp o ⟨e, H', T'⟩ = some l := by
  cases o
  all_goals first
    | (simp only [effOp] at hi; cases hi; done)
    | (simp only [evalOp] at h; cases h; done)
    | (simp only [evalOp] at h ⊢; exact ⟨(lab_idle h).1, (lab_idle h).2, h⟩)
    | (refine ⟨?_, ?_, h⟩ <;> (simp only [evalOp] at h; repeat' (first | (cases h; done) | exact (lab_idle h).1 | exact (lab_idle h).2 | split at h)))

/-- A push turns the heap alone, whatever the tokens are. -/
theorem push_sound {pu : Nat → Bool} {o : AOp} {e : Env} {H : List AO} {T T' : List Nat} {l : Lab} (hi : effOp pu o = .push) (h : evalOp o ⟨e, H, T⟩ = some l) :
    (∃ x, l.d = .push x) ∧ l.T = none ∧ evalOp o ⟨e, H, T'⟩ = some l := by
  cases o
  all_goals first
    | (simp only [effOp] at hi; split at hi <;> cases hi; done)
    | (simp only [effOp] at hi; cases hi; done)
    | (simp only [evalOp] at h; cases h; exact ⟨⟨_, rfl⟩, rfl, rfl⟩)
    | skip
  case box n x =>
    refine ⟨?_, ?_, h⟩ <;> (simp only [evalOp] at h; repeat' (first | (cases h; first | exact ⟨_, rfl⟩ | rfl) | (cases h; done) | split at h))
  case rng x =>
    refine ⟨?_, ?_, h⟩ <;> (simp only [evalOp] at h; repeat' (first | (cases h; first | exact ⟨_, rfl⟩ | rfl) | (cases h; done) | split at h))

/-- An append to data turns the tokens alone. -/
theorem tok_sound {pu : Nat → Bool} {o : AOp} {e : Env} {H : List AO} {T : List Nat} {l : Lab} (hi : effOp pu o = .tok) (h : evalOp o ⟨e, H, T⟩ = some l) : l.d = .none := by
  cases o
  all_goals first
    | (simp only [effOp] at hi; split at hi <;> cases hi; done)
    | (simp only [effOp] at hi; cases hi; done)
    | skip
  simp only [evalOp, appA] at h
  repeat' (first | (cases h; first | rfl | done) | split at h)

abbrev CallP := Tgt → List Av → List AO → List Nat → Av → List AO → List Nat → Prop

/-- What one row comes to: its value, the heap and the tokens behind it. -/
inductive RV (C : CallP) (r : AR) (s : St) : Av → List AO → List Nat → Prop
  | skip : gOn r.g s.e = some false → RV C r s (.tup []) s.H s.T
  | op (l : Lab) : gOn r.g s.e = some true → r.ok s.e = true → evalOp r.o s = some l → RV C r s l.v (l.d.on s.H) (l.T.getD s.T)
  | call (f : Tgt) (args : List Av) (v : Av) (H' : List AO) (T' : List Nat) : gOn r.g s.e = some true → r.ok s.e = true → callee r.o s.e = some (f, args) → (r.pur = true → H' = s.H ∧ T' = s.T ∧ ∀ H2 T2, C (r.tgt f) args H2 T2 v H2 T2) → (r.hk = true → H' = s.H) → C (r.tgt f) args s.H s.T v H' T' → RV C r s v H' T'

def RS (C : CallP) (r : AR) (s s' : St) : Prop := ∃ v H' T', RV C r s v H' T' ∧ s' = ⟨putE r.d v s.e, H', T'⟩

inductive Chain (C : CallP) : List AR → St → St → Prop
  | nil (s : St) : Chain C [] s s
  | cons {r : AR} {rs : List AR} {s s1 s2 : St} : RS C r s s1 → Chain C rs s1 s2 → Chain C (r :: rs) s s2

structure Same (s t : St) : Prop where
  e : ∀ k, getE k s.e = getE k t.e
  H : s.H = t.H
  T : s.T = t.T

theorem Same.refl (s : St) : Same s s := ⟨fun _ => rfl, rfl, rfl⟩
theorem Same.symm {s t : St} (h : Same s t) : Same t s := ⟨fun k => (h.e k).symm, h.H.symm, h.T.symm⟩
theorem Same.trans {s t u : St} (h : Same s t) (k : Same t u) : Same s u := ⟨fun i => (h.e i).trans (k.e i), h.H.trans k.H, h.T.trans k.T⟩

theorem gOn_congr {g : Option (Nat × Bool)} {e e' : Env} (h : ∀ d b, g = some (d, b) → getE d e = getE d e') : gOn g e = gOn g e' := by
  unfold gOn
  split
  · rfl
  · rename_i d want
    rw [h d want rfl]

theorem kds_congr {ks : List (KD × Od)} {e e' : Env} (h : Agree (ks.flatMap fun p => p.2.slots) e e') : ks.all (kdOk e) = ks.all (kdOk e') := by
  induction ks with
  | nil => rfl
  | cons p ks ih =>
    have h1 : p.2.ev e = p.2.ev e' := od_congr (h.mono fun k hk => by simp [hk])
    have h2 : Agree (ks.flatMap fun p => p.2.slots) e e' := h.mono fun k hk => by simp only [List.flatMap_cons, List.mem_append]; exact .inr hk
    simp only [List.all_cons, ih h2]
    unfold kdOk
    rw [h1]

theorem mks_congr {ms : List Mk} {e e' : Env} (h : Agree (ms.flatMap Mk.slots) e e') : ms.all (mkOk e) = ms.all (mkOk e') := by
  induction ms with
  | nil => rfl
  | cons m ms ih =>
    have h2 : Agree (ms.flatMap Mk.slots) e e' := h.mono fun k hk => by simp only [List.flatMap_cons, List.mem_append]; exact .inr hk
    have h1 : mkOk e m = mkOk e' m := by
      cases m with
      | same x k => simp only [mkOk]; rw [h x (by simp [Mk.slots]), h k (by simp [Mk.slots])]
      | apart x k => simp only [mkOk]; rw [h x (by simp [Mk.slots]), h k (by simp [Mk.slots])]
      | pur => rfl
      | hk => rfl
      | shr => rfl
    simp only [List.all_cons, h1, ih h2]

theorem ok_congr {r : AR} {e e' : Env} (h : Agree (r.k.flatMap (fun p => p.2.slots) ++ r.m.flatMap Mk.slots) e e') : r.ok e = r.ok e' := by
  unfold AR.ok
  rw [kds_congr (ag_l h), mks_congr (ag_r h)]

theorem reads_o {r : AR} {e e' : Env} (h : Agree r.reads e e') : Agree r.o.slots e e' := ag_l (ag_l h)
theorem reads_k {r : AR} {e e' : Env} (h : Agree r.reads e e') : r.ok e = r.ok e' := ok_congr (ag_r (ag_l h))
theorem reads_g {r : AR} {e e' : Env} (h : Agree r.reads e e') : gOn r.g e = gOn r.g e' := by
  refine gOn_congr fun d b hd => ?_
  have := ag_r h
  rw [hd] at this
  exact this d (by simp)

section
variable {C : CallP} {pu : Nat → Bool}

def Pures (pu : Nat → Bool) (C : CallP) : Prop := ∀ f args H T v H' T', pu f = true → C (.fn f) args H T v H' T' → H' = H ∧ T' = T ∧ ∀ H2 T2, C (.fn f) args H2 T2 v H2 T2

theorem rv_congr {r : AR} {s t : St} {v : Av} {H' : List AO} {T' : List Nat} (ha : Agree r.reads s.e t.e) (hH : t.H = s.H) (hT : t.T = s.T) (h : RV C r s v H' T') : RV C r t v H' T' := by
  obtain ⟨e, H, T⟩ := s
  obtain ⟨e', H2, T2⟩ := t
  simp only at hH hT ha
  subst hH; subst hT
  cases h with
  | skip h1 => exact .skip (s := ⟨e', H2, T2⟩) ((reads_g ha).symm.trans h1)
  | op l h1 h2 h3 => exact .op (s := ⟨e', H2, T2⟩) l ((reads_g ha).symm.trans h1) ((reads_k ha).symm.trans h2) ((evalOp_congr (reads_o ha)).symm.trans h3)
  | call f args v H' T' h1 h2 h3 hp hh h4 => exact .call (s := ⟨e', H2, T2⟩) f args v H' T' ((reads_g ha).symm.trans h1) ((reads_k ha).symm.trans h2) ((callee_congr (reads_o ha)).symm.trans h3) hp hh h4

theorem effR_op {r : AR} {s : St} {l : Lab} {x : Eff} (hi : effR pu r = x) (h : evalOp r.o s = some l) : effOp pu r.o = x := by
  unfold effR at hi
  cases ho : r.o with
  | calld y ys => rw [ho] at h; cases h
  | call y ys => rw [ho] at h; cases h
  | _ => rw [ho] at hi; exact hi

theorem idle_rv {r : AR} {s : St} {v : Av} {H' : List AO} {T' : List Nat} (hi : effR pu r = .idle) (h : RV C r s v H' T') :
    H' = s.H ∧ T' = s.T ∧ ∀ (t : St) (X : List AO), Agree r.reads s.e t.e → t.H = s.H ++ X → RV C r t v t.H t.T := by
  obtain ⟨e, H, T⟩ := s
  cases h with
  | skip h1 => exact ⟨rfl, rfl, fun t X ha hH => .skip ((reads_g ha).symm.trans h1)⟩
  | op l h1 h2 h3 =>
    have hi := effR_op hi h3
    obtain ⟨q1, q2, _⟩ := idle_sound (X := []) (T' := T) hi h3
    refine ⟨by rw [q1]; rfl, by rw [q2]; rfl, fun t X ha hH => ?_⟩
    obtain ⟨e', H2, T2⟩ := t
    simp only at hH ha
    subst hH
    have h3' : evalOp r.o ⟨e', H, T⟩ = some l := (evalOp_congr (reads_o ha)).symm.trans h3
    obtain ⟨_, _, q3⟩ := idle_sound (X := X) (T' := T2) hi h3'
    have := RV.op (C := C) (r := r) (s := ⟨e', H ++ X, T2⟩) l ((reads_g ha).symm.trans h1) ((reads_k ha).symm.trans h2) q3
    rw [q1, q2] at this
    exact this
  | call f args v H' T' h1 h2 h3 hp hh h4 =>
    exfalso
    unfold effR at hi
    cases ho : r.o with
    | call g xs => rw [ho] at hi; simp only at hi; split at hi <;> first | cases hi; done | (split at hi <;> cases hi)
    | calld x xs => rw [ho] at hi; simp only at hi; split at hi <;> first | cases hi; done | (split at hi <;> cases hi)
    | _ => rw [ho] at h3; cases h3

theorem blind_rv (hC : Pures pu C) {r : AR} {s : St} {v : Av} {H' : List AO} {T' : List Nat} (hi : effR pu r = .blind) (h : RV C r s v H' T') :
    H' = s.H ∧ T' = s.T ∧ ∀ t : St, Agree r.reads s.e t.e → RV C r t v t.H t.T := by
  obtain ⟨e, H, T⟩ := s
  cases h with
  | skip h1 => exact ⟨rfl, rfl, fun t ha => .skip ((reads_g ha).symm.trans h1)⟩
  | op l h1 h2 h3 =>
    have hi := effR_op hi h3
    obtain ⟨q1, q2, _⟩ := blind_sound (H' := H) (T' := T) hi h3
    refine ⟨by rw [q1]; rfl, by rw [q2]; rfl, fun t ha => ?_⟩
    obtain ⟨e', H2, T2⟩ := t
    have h3' : evalOp r.o ⟨e', H, T⟩ = some l := (evalOp_congr (reads_o ha)).symm.trans h3
    obtain ⟨_, _, q3⟩ := blind_sound (H' := H2) (T' := T2) hi h3'
    have := RV.op (C := C) (r := r) (s := ⟨e', H2, T2⟩) l ((reads_g ha).symm.trans h1) ((reads_k ha).symm.trans h2) q3
    rw [q1, q2] at this
    exact this
  | call f args v H' T' h1 h2 h3 hp hh h4 =>
    have key : H' = H ∧ T' = T ∧ ∀ H2 T2, C (r.tgt f) args H2 T2 v H2 T2 := by
      unfold effR at hi
      cases ho : r.o with
      | call g xs =>
        rw [ho] at h3 hi
        simp only [callee, Option.some.injEq, Prod.mk.injEq] at h3
        simp only at hi
        obtain ⟨rfl, rfl⟩ := h3
        split at hi
        · rename_i hg
          simp only [Bool.and_eq_true, Bool.not_eq_true'] at hg
          have ht : r.tgt (.fn g) = .fn g := by simp [AR.tgt, hg.2]
          rw [ht] at h4 ⊢
          exact hC _ _ _ _ _ _ _ hg.1 h4
        · split at hi <;> cases hi
      | calld x xs =>
        rw [ho] at hi
        simp only at hi
        split at hi
        · rename_i hr; exact hp hr
        · split at hi <;> cases hi
      | _ => rw [ho] at h3; cases h3
    obtain ⟨q1, q2, q3⟩ := key
    exact ⟨q1, q2, fun t ha => .call f args v _ _ ((reads_g ha).symm.trans h1) ((reads_k ha).symm.trans h2) ((callee_congr (reads_o ha)).symm.trans h3) (fun _ => ⟨rfl, rfl, q3⟩) (fun _ => rfl) (q3 _ _)⟩

theorem push_rv {r : AR} {s : St} {v : Av} {H' : List AO} {T' : List Nat} (hi : effR pu r = .push) (h : RV C r s v H' T') :
    T' = s.T ∧ (∃ X, H' = s.H ++ X) ∧ ∀ t : St, Agree r.reads s.e t.e → t.H = s.H → RV C r t v H' t.T := by
  obtain ⟨e, H, T⟩ := s
  cases h with
  | skip h1 =>
    refine ⟨rfl, ⟨[], by simp⟩, fun t ha hH => ?_⟩
    have := RV.skip (C := C) (r := r) (s := t) ((reads_g ha).symm.trans h1)
    rw [hH] at this; exact this
  | op l h1 h2 h3 =>
    have hi := effR_op hi h3
    obtain ⟨⟨x, q1⟩, q2, _⟩ := push_sound (T' := T) hi h3
    refine ⟨by rw [q2]; rfl, ⟨[x], by rw [q1]; rfl⟩, fun t ha hH => ?_⟩
    obtain ⟨e', H2, T2⟩ := t
    simp only at hH ha
    subst hH
    have h3' : evalOp r.o ⟨e', H2, T⟩ = some l := (evalOp_congr (reads_o ha)).symm.trans h3
    obtain ⟨_, _, q3⟩ := push_sound (T' := T2) hi h3'
    have := RV.op (C := C) (r := r) (s := ⟨e', H2, T2⟩) l ((reads_g ha).symm.trans h1) ((reads_k ha).symm.trans h2) q3
    rw [q2] at this
    exact this
  | call f args v H' T' h1 h2 h3 hp hh h4 =>
    exfalso
    unfold effR at hi
    cases ho : r.o with
    | call g xs => rw [ho] at hi; simp only at hi; split at hi <;> first | cases hi; done | (split at hi <;> cases hi)
    | calld x xs => rw [ho] at hi; simp only at hi; split at hi <;> first | cases hi; done | (split at hi <;> cases hi)
    | _ => rw [ho] at h3; cases h3

theorem tok_rv {r : AR} {s : St} {v : Av} {H' : List AO} {T' : List Nat} (hi : effR pu r = .tok) (h : RV C r s v H' T') : H' = s.H := by
  cases h with
  | skip h1 => rfl
  | op l h1 h2 h3 =>
    obtain ⟨e, H, T⟩ := s
    rw [tok_sound (effR_op hi h3) h3]; rfl
  | call f args v H' T' h1 h2 h3 hp hh h4 =>
    unfold effR at hi
    cases ho : r.o with
    | call g xs =>
      rw [ho] at hi; simp only at hi
      split at hi
      · cases hi
      · split at hi
        · rename_i hr; exact hh hr
        · cases hi
    | calld x xs =>
      rw [ho] at hi; simp only at hi
      split at hi
      · cases hi
      · split at hi
        · rename_i hr; exact hh hr
        · cases hi
    | _ => rw [ho] at h3; cases h3

theorem getE_putE (k : Nat) (d : Option Nat) (v : Av) (e : Env) : getE k (putE d v e) = if d = some k then v else getE k e := by
  cases d with
  | none => simp [putE]
  | some d =>
    simp only [putE, getE_setE, Option.some.injEq]
    by_cases h : k = d
    · rw [if_pos h, if_pos h.symm]
    · rw [if_neg h, if_neg (fun q => h q.symm)]

theorem disj_sound {xs ys : List Nat} (h : disj xs ys = true) : ∀ k ∈ xs, k ∉ ys := by
  intro k hk hy
  have := List.all_eq_true.1 h k hk
  simp [hy] at this

theorem agree_put {a b : AR} (h : disj a.writes b.reads = true) (v : Av) (e : Env) : Agree b.reads e (putE a.d v e) := by
  intro k hk
  rw [getE_putE, if_neg]
  intro hd
  exact disj_sound h k (by simp [AR.writes, hd]) hk

theorem Agree.symm {ks : List Nat} {e e' : Env} (h : Agree ks e e') : Agree ks e' e := fun k hk => (h k hk).symm

theorem ld_set {n : Option Nat} {x : Nat} {e : Env} {H : List AO} {T T' : List Nat} {b : Nat} {o : AO} {l : Lab} (h : evalOp (.ld n (.t x)) ⟨e, H, T⟩ = some l) (hb : ∀ b' ver row off, getE x e = .ptr b' ver row off → b' ≠ b) :
    l.d = .none ∧ l.T = none ∧ evalOp (.ld n (.t x)) ⟨e, H.set b o, T'⟩ = some l := by
  simp only [evalOp, Od.ev] at h ⊢
  split at h
  · rename_i b' ver row off hv
    have hne := hb _ _ _ _ hv
    have hr : rowsOf (H.set b o) b' ver = rowsOf H b' ver := by
      unfold rowsOf
      rw [List.getElem?_set_ne (Ne.symm hne)]
    rw [hr]
    split at h
    · rename_i sz rs hrs
      split at h
      · rename_i r hrow
        try simp only [hrow]
        exact ⟨(lab_idle h).1, (lab_idle h).2, h⟩
      · cases h
    · cases h
  · exact ⟨(lab_idle h).1, (lab_idle h).2, h⟩
  · cases h

theorem st_set {n y : Nat} {z : Od} {s : St} {l : Lab} (h : evalOp (.st n (.t y) z) s = some l) : ∃ b ver row off o, getE y s.e = .ptr b ver row off ∧ l.d = .set b o ∧ l.T = none := by
  simp only [evalOp, Od.ev] at h
  split at h
  · rename_i b ver row off cs hv hc
    split at h
    · split at h
      · split at h
        · cases h; exact ⟨b, ver, row, off, _, hv, rfl, rfl⟩
        · cases h
      · cases h
    · cases h
  · cases h

theorem st_congrH {n y : Nat} {z : Od} {e : Env} {H H' : List AO} {T T' : List Nat} (h : ∀ b ver row off, getE y e = .ptr b ver row off → H'[b]? = H[b]?) : evalOp (.st n (.t y) z) ⟨e, H', T'⟩ = evalOp (.st n (.t y) z) ⟨e, H, T⟩ := by
  have hy' : Od.ev e (.t y) = getE y e := rfl
  simp only [evalOp, hy']
  generalize cellsA (z.ev e) = cz
  cases hy : getE y e with
  | ptr b ver row off =>
    have := h _ _ _ _ hy
    cases cz with
    | none => rfl
    | some cs => simp only [this]
  | _ => rfl

theorem partedM_ne {a b : AR} {e : Env} {x y : Nat} (hk : partedM a.m b.m x y = true) (ha : a.ok e = true) (hb : b.ok e = true) {b2 v2 r2 o2 : Nat} (hy : getE y e = .ptr b2 v2 r2 o2) {b1 v1 r1 o1 : Nat} (hx : getE x e = .ptr b1 v1 r1 o1) : b1 ≠ b2 := by
  simp only [partedM, List.any_eq_true] at hk
  obtain ⟨m1, hm1, hk⟩ := hk
  split at hk
  · rename_i x' k
    simp only [Bool.and_eq_true, beq_iff_eq, List.any_eq_true] at hk
    obtain ⟨rfl, m2, hm2, hk⟩ := hk
    split at hk
    · rename_i y' k'
      simp only [Bool.and_eq_true, beq_iff_eq] at hk
      obtain ⟨rfl, rfl⟩ := hk
      have hsa : mkOk e (.same x k) = true := by
        simp only [AR.ok, Bool.and_eq_true, List.all_eq_true] at ha
        exact ha.2 _ hm1
      have hap : mkOk e (.apart y k) = true := by
        simp only [AR.ok, Bool.and_eq_true, List.all_eq_true] at hb
        exact hb.2 _ hm2
      intro q
      subst q
      simp only [mkOk, hx, hy] at hsa hap
      cases hkk : getE k e <;> simp_all
    · cases hk
  · cases hk

theorem parted_rv {a b : AR} {s : St} {va vb : Av} {Ha Hb : List AO} {Ta Tb : List Nat} (hk : parted a b = true) (ab : Agree b.reads (putE a.d va s.e) s.e) (aa : Agree a.reads s.e (putE b.d vb s.e))
    (ra : RV C a s va Ha Ta) (rb : RV C b ⟨putE a.d va s.e, Ha, Ta⟩ vb Hb Tb) : ∃ H2 T2, RV C b s vb H2 T2 ∧ RV C a ⟨putE b.d vb s.e, H2, T2⟩ va Hb Tb := by
  unfold parted at hk
  split at hk
  · rename_i n x m y z hoa hob
    obtain ⟨e, H, T⟩ := s
    simp only at ab aa rb
    -- the load touches nothing
    have hl : Ha = H ∧ Ta = T := by
      cases ra with
      | skip h1 => exact ⟨rfl, rfl⟩
      | op l h1 h2 h3 =>
        rw [hoa] at h3
        obtain ⟨q1, q2, _⟩ := ld_set (b := H.length) (o := .dead) (T' := T) h3 (fun b' ver row off hv => by
          simp only [evalOp, Od.ev, hv] at h3
          intro q
          subst q
          simp [rowsOf] at h3)
        exact ⟨by rw [q1]; rfl, by rw [q2]; rfl⟩
      | call f args v H' T' h1 h2 h3 hp hh h4 => rw [hoa] at h3; cases h3
    obtain ⟨rfl, rfl⟩ := hl
    have g1 : RV C b ⟨e, Ha, Ta⟩ vb Hb Tb := rv_congr (s := ⟨putE a.d va e, Ha, Ta⟩) (t := ⟨e, Ha, Ta⟩) ab rfl rfl rb
    refine ⟨Hb, Tb, g1, ?_⟩
    cases g1 with
    | skip h1 => exact rv_congr (s := ⟨e, Ha, Ta⟩) (t := ⟨putE b.d (.tup []) e, Ha, Ta⟩) aa rfl rfl ra
    | op lb h1 h2 h3 =>
      rw [hob] at h3
      obtain ⟨bb, ver, row, off, o, hv, q1, q2⟩ := st_set h3
      simp only at hv h2
      rw [q1, q2]
      simp only [DH.on, Option.getD_none]
      have fin : ∀ v' H' T', RV C a ⟨e, Ha, Ta⟩ v' H' T' → RV C a ⟨putE b.d lb.v e, Ha.set bb o, Ta⟩ v' (Ha.set bb o) Ta := by
        intro v' H' T' ra
        cases ra with
        | skip h4 =>
          have := RV.skip (C := C) (r := a) (s := ⟨putE b.d lb.v e, Ha.set bb o, Ta⟩) ((reads_g aa).symm.trans h4)
          exact this
        | op la h4 h5 h6 =>
          rw [hoa] at h6
          have h6' : evalOp (.ld n (.t x)) ⟨putE b.d lb.v e, Ha, Ta⟩ = some la := by
            rw [← hoa] at h6 ⊢
            exact (evalOp_congr (reads_o aa)).symm.trans h6
          have hne' : ∀ b' ver row off, getE x (putE b.d lb.v e) = .ptr b' ver row off → b' ≠ bb := by
            intro b' ver' row' off' hx
            refine partedM_ne hk h5 h2 hv (b1 := b') (v1 := ver') (r1 := row') (o1 := off') ?_
            rw [← hx]
            exact aa x (by simp [AR.reads, hoa, AOp.slots, Od.slots])
          obtain ⟨r1, r2, r3⟩ := ld_set (b := bb) (o := o) (T' := Ta) h6' hne'
          rw [← hoa] at r3
          have := RV.op (C := C) (r := a) (s := ⟨putE b.d lb.v e, Ha.set bb o, Ta⟩) la ((reads_g aa).symm.trans h4) ((reads_k aa).symm.trans h5) r3
          rw [r1, r2] at this
          exact this
        | call f args v H' T' h1 h2 h3 hp hh h4 => rw [hoa] at h3; cases h3
      exact fin _ _ _ ra
    | call f args v H' T' h1 h2 h3 hp hh h4 => rw [hob] at h3; cases h3
  · rename_i n x u m y z hoa hob
    obtain ⟨e, H, T⟩ := s
    simp only at ab aa rb
    cases ra with
    | skip h1 =>
      have g1 : RV C b ⟨e, H, T⟩ vb Hb Tb := rv_congr (s := ⟨putE a.d (.tup []) e, H, T⟩) (t := ⟨e, H, T⟩) ab rfl rfl rb
      exact ⟨Hb, Tb, g1, .skip ((reads_g aa).symm.trans h1)⟩
    | call f args v H' T' h1 h2 h3 hp hh h4 => rw [hoa] at h3; cases h3
    | op la h1 h2 h3 =>
      rw [hoa] at h3
      obtain ⟨b1, ver1, row1, off1, o1, hv1, p1, p2⟩ := st_set h3
      simp only at hv1
      simp only [p1, p2, DH.on, Option.getD_none] at rb
      have g1 : RV C b ⟨e, H.set b1 o1, T⟩ vb Hb Tb := rv_congr (s := ⟨putE a.d la.v e, H.set b1 o1, T⟩) (t := ⟨e, H.set b1 o1, T⟩) ab rfl rfl rb
      cases g1 with
      | skip h4 =>
        refine ⟨H, T, .skip (s := ⟨e, H, T⟩) h4, ?_⟩
        have := RV.op (C := C) (r := a) (s := ⟨putE b.d (.tup []) e, H, T⟩) la ((reads_g aa).symm.trans h1) ((reads_k aa).symm.trans h2) (by rw [hoa]; rw [← hoa] at h3 ⊢; exact (evalOp_congr (reads_o aa)).symm.trans h3)
        rw [p1, p2] at this
        exact this
      | call f args v H' T' h1 h2 h3 hp hh h4 => rw [hob] at h3; cases h3
      | op lb h4 h5 h6 =>
        rw [hob] at h6
        obtain ⟨b2, ver2, row2, off2, o2, hv2, r1, r2⟩ := st_set h6
        simp only at hv2
        have hne : b1 ≠ b2 := partedM_ne hk h2 h5 hv2 hv1
        have h6' : evalOp (.st m (.t y) z) ⟨e, H, T⟩ = some lb := by
          rw [← h6]
          refine (st_congrH fun b' _ _ _ hb' => ?_).symm
          rw [hv2] at hb'
          cases hb'
          exact List.getElem?_set_ne hne
        refine ⟨H.set b2 o2, T, ?_, ?_⟩
        · rw [← hob] at h6'
          have := RV.op (C := C) (r := b) (s := ⟨e, H, T⟩) lb h4 h5 h6'
          rw [r1, r2] at this
          exact this
        · have h3' : evalOp (.st n (.t x) u) ⟨putE b.d lb.v e, H.set b2 o2, T⟩ = some la := by
            have e1 : evalOp (.st n (.t x) u) ⟨e, H.set b2 o2, T⟩ = some la := by
              rw [← h3]
              refine st_congrH fun b' _ _ _ hb' => ?_
              rw [hv1] at hb'
              cases hb'
              exact List.getElem?_set_ne (Ne.symm hne)
            rw [← hoa] at e1 ⊢
            exact (evalOp_congr (reads_o aa)).symm.trans e1
          rw [← hoa] at h3'
          have := RV.op (C := C) (r := a) (s := ⟨putE b.d lb.v e, H.set b2 o2, T⟩) la ((reads_g aa).symm.trans h1) ((reads_k aa).symm.trans h2) h3'
          rw [p1, p2] at this
          rw [r1, r2]
          simp only [DH.on, Option.getD_none] at this ⊢
          rw [List.set_comm _ _ hne]
          exact this
  · cases hk

theorem swap_rs (hC : Pures pu C) {a b : AR} {s s1 s2 : St} (hsw : swapOk pu a b = true) (h1 : RS C a s s1) (h2 : RS C b s1 s2) : ∃ t1 t2, RS C b s t1 ∧ RS C a t1 t2 ∧ Same t2 s2 := by
  simp only [swapOk, Bool.and_eq_true] at hsw
  obtain ⟨⟨⟨d1, d2⟩, d3⟩, hk⟩ := hsw
  rw [Bool.or_eq_true] at hk
  obtain ⟨va, Ha, Ta, ra, rfl⟩ := h1
  obtain ⟨vb, Hb, Tb, rb, rfl⟩ := h2
  have hne : ∀ k, a.d = some k → b.d ≠ some k := by
    intro k ha hb
    exact disj_sound d3 k (by simp [AR.writes, ha]) (by simp [AR.writes, hb])
  have hsame : ∀ k, getE k (putE a.d va (putE b.d vb s.e)) = getE k (putE b.d vb (putE a.d va s.e)) := by
    intro k
    rw [getE_putE, getE_putE, getE_putE, getE_putE]
    by_cases ha : a.d = some k
    · rw [if_pos ha, if_neg (hne k ha), if_pos ha]
    · rw [if_neg ha]
      by_cases hb : b.d = some k
      · rw [if_pos hb, if_pos hb]
      · rw [if_neg hb, if_neg hb, if_neg ha]
  have ab : Agree b.reads (putE a.d va s.e) s.e := (agree_put d1 va s.e).symm
  have aa : Agree a.reads s.e (putE b.d vb s.e) := agree_put d2 vb s.e
  have fin : ∀ H2 T2, RV C b s vb H2 T2 → RV C a ⟨putE b.d vb s.e, H2, T2⟩ va Hb Tb → ∃ t1 t2, RS C b s t1 ∧ RS C a t1 t2 ∧ Same t2 ⟨putE b.d vb (putE a.d va s.e), Hb, Tb⟩ :=
    fun H2 T2 g1 g2 => ⟨_, _, ⟨_, _, _, g1, rfl⟩, ⟨_, _, _, g2, rfl⟩, ⟨hsame, rfl, rfl⟩⟩
  rcases hk with hk | hk
  · obtain ⟨H2, T2, g1, g2⟩ := parted_rv hk ab aa ra rb
    exact fin H2 T2 g1 g2
  split at hk
  · rename_i ea
    obtain ⟨p1, p2, p3⟩ := blind_rv hC ea ra
    have g1 := rv_congr (t := s) ab p1.symm p2.symm rb
    exact fin Hb Tb g1 (p3 ⟨_, _, _⟩ aa)
  · rename_i eb _
    obtain ⟨q1, q2, q3⟩ := blind_rv hC eb rb
    simp only at q1 q2 q3
    have g2 := rv_congr (t := ⟨putE b.d vb s.e, s.H, s.T⟩) aa rfl rfl ra
    rw [q1, q2]; rw [q1, q2] at fin
    exact fin s.H s.T (q3 s ab) g2
  · rename_i ea eb
    obtain ⟨p1, p2, p3⟩ := idle_rv ea ra
    obtain ⟨q1, q2, q3⟩ := idle_rv eb rb
    simp only at q1 q2 q3
    rw [p1] at q3; rw [p1] at q1; rw [p2] at q2
    rw [q1, q2]
    rw [q1, q2] at fin
    exact fin s.H s.T (q3 s [] ab (by simp)) (p3 ⟨_, _, _⟩ [] aa (by simp))
  · rename_i ea eb
    obtain ⟨p1, p2, p3⟩ := idle_rv ea ra
    obtain ⟨q1, ⟨X, q2⟩, q3⟩ := push_rv eb rb
    simp only at q1 q2 q3
    rw [p2] at q1; rw [p1] at q2 q3
    have g1 := q3 s ab rfl
    have g2 := p3 ⟨putE b.d vb s.e, Hb, s.T⟩ X aa q2
    rw [q1]; rw [q1] at fin
    exact fin Hb s.T g1 g2
  · rename_i ea eb
    obtain ⟨p1, p2, p3⟩ := idle_rv ea ra
    have q1 := tok_rv eb rb
    simp only at q1
    have g1 := rv_congr (t := s) ab p1.symm p2.symm rb
    have g2 := p3 ⟨putE b.d vb s.e, Hb, Tb⟩ [] aa (by simp only [List.append_nil]; rw [q1, p1])
    exact fin Hb Tb g1 g2
  · rename_i ea eb
    have p1 := tok_rv ea ra
    obtain ⟨q1, q2, q3⟩ := idle_rv eb rb
    simp only at q1 q2 q3
    have g1 := q3 s [] ab (by simp only [List.append_nil]; exact p1.symm)
    have g2 := rv_congr (t := ⟨putE b.d vb s.e, s.H, s.T⟩) aa rfl rfl ra
    rw [q1, q2]; rw [q1, q2] at fin
    exact fin s.H s.T g1 g2
  · cases hk

theorem chain_congr : ∀ {rs : List AR} {s s' t : St}, Chain C rs s s' → Same s t → ∃ t', Chain C rs t t' ∧ Same s' t' := by
  intro rs s s' t h
  induction h generalizing t with
  | nil s => exact fun hs => ⟨t, .nil t, hs⟩
  | cons hr _ ih =>
    intro hs
    obtain ⟨v, H', T', rv, rfl⟩ := hr
    have rv' := rv_congr (t := t) (fun k _ => hs.e k) hs.H.symm hs.T.symm rv
    obtain ⟨t', k1, k2⟩ := ih (t := ⟨putE _ v t.e, H', T'⟩) ⟨fun k => by rw [getE_putE, getE_putE, hs.e k], rfl, rfl⟩
    exact ⟨t', .cons ⟨_, _, _, rv', rfl⟩ k1, k2⟩

theorem move_front (hC : Pures pu C) {a : AR} {L2 : List AR} : ∀ (L1 : List AR) {s s' : St}, (∀ b ∈ L1, swapOk pu a b = true) → Chain C (a :: (L1 ++ L2)) s s' → ∃ t, Chain C (L1 ++ a :: L2) s t ∧ Same t s'
  | [], s, s', _, h => ⟨s', h, .refl s'⟩
  | b :: L1, s, s', hb, h => by
    cases h with
    | cons h1 h =>
      cases h with
      | cons h2 h3 =>
        obtain ⟨t1, t2, g1, g2, g3⟩ := swap_rs hC (hb b (by simp)) h1 h2
        obtain ⟨u, k1, k2⟩ := chain_congr h3 g3.symm
        obtain ⟨x, m1, m2⟩ := move_front hC L1 (fun c hc => hb c (by simp [hc])) (.cons g2 k1)
        exact ⟨x, .cons g1 m1, m2.trans k2.symm⟩

/-- Any order that leaves bound pairs as they are comes to the same. -/
theorem perm_chain (hC : Pures pu C) (row : Nat → AR) : ∀ (L σ : List Nat) {s s' : St}, L.Pairwise (· < ·) → σ.Perm L → σ.Pairwise (fun j i => i < j → swapOk pu (row i) (row j) = true) → Chain C (L.map row) s s' →
    ∃ t, Chain C (σ.map row) s t ∧ Same t s'
  | [], σ, s, s', _, hp, _, h => by
    have : σ = [] := List.Perm.eq_nil hp
    subst this
    exact ⟨s', h, .refl s'⟩
  | i :: L, σ, s, s', hL, hp, hσ, h => by
    have hi : i ∈ σ := hp.symm.subset (by simp)
    obtain ⟨A, Bl, rfl⟩ := List.append_of_mem hi
    have hp' : (A ++ Bl).Perm L := by
      have : (i :: (A ++ Bl)).Perm (i :: L) := List.perm_middle.symm.trans hp
      exact List.Perm.cons_inv this
    rw [List.pairwise_cons] at hL
    rw [List.pairwise_append, List.pairwise_cons] at hσ
    obtain ⟨o1, ⟨o2, o3⟩, o4⟩ := hσ
    simp only [List.map_cons] at h
    cases h with
    | cons h1 h2 =>
      obtain ⟨t, k1, k2⟩ := perm_chain hC row L (A ++ Bl) hL.2 hp' (by
        rw [List.pairwise_append]
        exact ⟨o1, o3, fun x hx y hy => o4 x hx y (by simp [hy])⟩) h2
      rw [List.map_append] at k1
      obtain ⟨u, m1, m2⟩ := move_front hC (A.map row) (a := row i) (fun b hb => by
        obtain ⟨j, hj, rfl⟩ := List.mem_map.1 hb
        exact o4 j hj i (by simp) (hL.1 j (hp'.subset (by simp [hj])))) (.cons h1 k1)
      exact ⟨u, by simpa using m1, m2.trans k2⟩

end
end Go.Am

namespace Go.Am
open Go

section
variable {F : Tab}

def TokP (F : Tab) : Cfg → Out → Prop
  | .rows rs s, .rows s' => rs.all (tokR (isPure F)) = true → s'.H = s.H
  | .code c s, .code _ s' => tokC (isPure F) c = true → s'.H = s.H
  | .call t _ H _, .val _ H' _ => (isPureT F t = true → H' = H) ∧ (tokFn F t = true → H' = H)
  | _, _ => True

theorem keepO_H (k : Option (List Nat)) (s : St) : (keepO k s).H = s.H := by cases k <;> rfl

theorem ev_tok {cfg : Cfg} {out : Out} (h : Ev F cfg out) : TokP F cfg out := by
  induction h with
  | nil => exact fun _ => rfl
  | @skip r rs s o h1 _ ih =>
    cases o with
    | rows s' =>
      intro hp
      simp only [List.all_cons, Bool.and_eq_true] at hp
      exact ih hp.2
    | _ => trivial
  | @op r rs s o l h1 h2 h3 _ ih =>
    cases o with
    | rows s' =>
      intro hp
      simp only [List.all_cons, Bool.and_eq_true] at hp
      have hd : l.d = .none := by
        have ht := hp.1
        unfold tokR at ht
        split at ht
        · rename_i ho; rw [ho] at h3; cases h3
        · rename_i ho; rw [ho] at h3; cases h3
        · split at ht
          · rename_i he
            obtain ⟨e, H, T⟩ := s
            exact (blind_sound (H' := H) (T' := T) he h3).1
          · rename_i he
            obtain ⟨e, H, T⟩ := s
            exact (idle_sound (X := []) (T' := T) he h3).1
          · rename_i he
            obtain ⟨e, H, T⟩ := s
            exact tok_sound he h3
          · cases ht
      have := ih hp.2
      rw [this]
      simp [St.upd, hd, DH.on]
    | _ => trivial
  | @call r rs s o f args v H' T' h1 h2 h3 hp0 hh0 _ _ ihc ih =>
    cases o with
    | rows s' =>
      intro hp
      simp only [List.all_cons, Bool.and_eq_true] at hp
      have hH : H' = s.H := by
        have ht := hp.1
        unfold tokR at ht
        split at ht
        · exact ihc.1 (hp0 ht)
        · rename_i g xs ho
          rw [ho] at h3
          simp only [callee, Option.some.injEq, Prod.mk.injEq] at h3
          obtain ⟨rfl, _⟩ := h3
          simp only [Bool.and_eq_true, Bool.not_eq_true'] at ht
          have hg : r.tgt (.fn g) = .fn g := by simp [AR.tgt, ht.2]
          rw [hg] at ihc
          exact ihc.1 ht.1
        · exfalso
          rename_i ho1 ho2
          cases ho : r.o with
          | call g xs => exact ho2 _ _ ho
          | calld x xs => exact ho1 _ _ ho
          | _ => rw [ho] at h3; cases h3
      have := ih hp.2
      rw [this]
      exact hH
    | _ => trivial
  | ext => exact ⟨fun _ => rfl, fun _ => rfl⟩
  | pure => exact ⟨fun _ => rfl, fun _ => rfl⟩
  | @shared f args n c res x s r H T h1 _ _ _ _ ih =>
    refine ⟨fun hp => ?_, fun hp => ?_⟩
    · simp [isPureT, isPure, h1] at hp
    · simp only [tokFn, h1] at hp
      exact ih hp
  | @shr f args p n c res x s r H T h1 _ _ _ _ ih =>
    refine ⟨fun hp => (by cases hp), fun hp => ?_⟩
    simp only [tokFn, h1] at hp
    exact ih hp
  | round => exact ⟨fun h => (by cases h), fun h => (by cases h)⟩
  | skipc => exact fun _ => rfl
  | reg _ ih => exact fun hp => ih hp
  | draw _ _ ih => exact fun hp => ih hp
  | @seq k a b s s1 o _ _ iha ihb =>
    cases o with
    | code x s2 =>
      intro hp
      simp only [tokC, Bool.and_eq_true] at hp
      exact (ihb hp.2).trans ((keepO_H k s1).trans (iha hp.1))
    | _ => trivial
  | seqx _ _ ih =>
    intro hp
    simp only [tokC, Bool.and_eq_true] at hp
    exact ih hp.1
  | @cond c a b s t o _ _ ih =>
    cases o with
    | code x s2 =>
      intro hp
      simp only [tokC, Bool.and_eq_true] at hp
      cases t with
      | true => exact ih hp.1
      | false => exact ih hp.2
    | _ => trivial
  | block _ ih => exact fun hp => ih hp
  | @loop k a s s1 o _ _ iha ihb =>
    cases o with
    | code x s2 =>
      intro hp
      exact (ihb hp).trans ((iha hp).trans (keepO_H k s))
    | _ => trivial
  | @loopx k a s s1 x _ _ ih => exact fun hp => (ih hp).trans (keepO_H k s)
  | rfn => exact fun h => by cases h
  | exit => exact fun _ => rfl
  | ret => exact fun _ => rfl

end
end Go.Am

namespace Go.Am
open Go

section
variable {ops : Array Oper}

/-- The rows that are not listed. -/
def unl (n : Nat) (listed : Array Bool) : List Nat := (List.range n).filter fun i => !listed.getD i true

theorem unl_set {n i : Nat} {listed : Array Bool} (hs : listed.size = n) (hi : i ∈ unl n listed) : (unl n listed).Perm (i :: unl n (listed.setIfInBounds i true)) := by
  have hnd : (unl n listed).Nodup := List.Nodup.sublist List.filter_sublist List.nodup_range
  have he : unl n (listed.setIfInBounds i true) = (unl n listed).erase i := by
    rw [List.Nodup.erase_eq_filter hnd]
    unfold unl
    rw [List.filter_filter]
    apply List.filter_congr
    intro j hj
    have hjn : j < listed.size := by rw [hs]; simpa using hj
    by_cases h : j = i
    · subst h
      simp [Array.getD_eq_getD_getElem?, hjn]
    · have h' : ¬ i = j := fun q => h q.symm
      simp [Array.getD_eq_getD_getElem?, Array.getElem?_setIfInBounds, h, h']
  rw [he]
  exact List.perm_cons_erase hi

theorem mem_unl {n i : Nat} {listed : Array Bool} : i ∈ unl n listed ↔ i < n ∧ listed.getD i true = false := by
  simp [unl]

theorem getD_tf {listed : Array Bool} {i : Nat} (hi : i < listed.size) : listed.getD i true = listed.getD i false := by
  simp [Array.getD_eq_getD_getElem?, hi]

theorem mem_ready {listed : Array Bool} {i : Nat} : i ∈ Region.ready .any ops listed ↔ i ∈ unl ops.size listed ∧ ∃ o, ops[i]? = some o ∧ ∀ e ∈ aftC o, listed.getD e false = true := by
  unfold Region.ready unl
  simp only [List.mem_filter, List.mem_range, Bool.and_eq_true]
  constructor
  · rintro ⟨h1, h2, h3⟩
    refine ⟨⟨h1, h2⟩, ops[i], Array.getElem?_eq_getElem h1, ?_⟩
    simp only [Array.getElem?_eq_getElem h1, Option.map_some, Option.getD_some, Array.all_eq_true_iff_forall_mem, Bool.or_eq_true, Bool.not_eq_true'] at h3
    intro e he
    simp only [aftC, List.mem_map, List.mem_filter] at he
    obtain ⟨ed, ⟨h4, h5⟩, rfl⟩ := he
    rcases h3 ed (by simpa using h4) with h6 | h6
    · rw [h5] at h6; cases h6
    · exact h6
  · rintro ⟨⟨h1, h2⟩, o, ho, h3⟩
    refine ⟨h1, h2, ?_⟩
    simp only [ho, Option.map_some, Option.getD_some, Array.all_eq_true_iff_forall_mem, Bool.or_eq_true, Bool.not_eq_true']
    intro ed hed
    by_cases hb : Region.binds .any ed = true
    · right
      exact h3 _ (by simp only [aftC, List.mem_map, List.mem_filter]; exact ⟨ed, ⟨by simpa using hed, hb⟩, rfl⟩)
    · left; simpa using hb

theorem lin_go (hb : ∀ j o, ops[j]? = some o → ∀ i ∈ aftC o, i < j) : ∀ (fuel t : Nat) (listed : Array Bool), listed.size = ops.size → (unl ops.size listed).length = fuel →
    (Region.linearise.go .any ops fuel t listed []).Perm (unl ops.size listed) ∧
    ∀ A j Bl, Region.linearise.go .any ops fuel t listed [] = A ++ j :: Bl → ∀ o, ops[j]? = some o → ∀ i ∈ aftC o, listed.getD i false = true ∨ i ∈ A := by
  intro fuel
  induction fuel with
  | zero =>
    intro t listed hs hl
    have : unl ops.size listed = [] := List.eq_nil_of_length_eq_zero hl
    rw [this]
    refine ⟨by simp [Region.linearise.go], fun A j Bl h => ?_⟩
    simp [Region.linearise.go] at h
  | succ fuel ih =>
    intro t listed hs hl
    have hne : unl ops.size listed ≠ [] := by intro h; rw [h] at hl; simp at hl
    -- the first row that is not listed is ready
    have hready : Region.ready .any ops listed ≠ [] := by
      intro hr
      have key : ∀ m, ∀ j, j < m → j ∉ unl ops.size listed := by
        intro m
        induction m with
        | zero => intro j hj; omega
        | succ m ihm =>
          intro j hj hu
          rcases Nat.lt_or_ge j m with g | g
          · exact ihm j g hu
          · have hjm : j = m := by omega
            subst hjm
            have hjn := (mem_unl.1 hu).1
            have : j ∈ Region.ready .any ops listed := mem_ready.2 ⟨hu, ops[j], Array.getElem?_eq_getElem hjn, fun e he => by
              have hlt := hb j _ (Array.getElem?_eq_getElem hjn) e he
              have hnu := ihm e hlt
              rw [mem_unl] at hnu
              have hes : e < listed.size := by omega
              rw [← getD_tf hes]
              cases hg : listed.getD e true with
              | true => rfl
              | false => exact absurd ⟨by omega, hg⟩ hnu⟩
            rw [hr] at this
            cases this
      obtain ⟨x, hx⟩ := List.exists_mem_of_ne_nil _ hne
      exact key (x + 1) x (by omega) hx
    have hgo : Region.linearise.go .any ops (fuel + 1) t listed [] = match (Region.ready .any ops listed)[t % (Region.ready .any ops listed).length]? with
      | some i => Region.linearise.go .any ops fuel (t / (Region.ready .any ops listed).length) (listed.setIfInBounds i true) [i]
      | none => [] := by
      simp only [Region.linearise.go]
      rfl
    have hpos : 0 < (Region.ready .any ops listed).length := List.length_pos_iff.2 hready
    have hlt := Nat.mod_lt t hpos
    rw [List.getElem?_eq_getElem hlt] at hgo
    simp only at hgo
    generalize hi : (Region.ready .any ops listed)[t % (Region.ready .any ops listed).length] = i at hgo
    have him : i ∈ Region.ready .any ops listed := by rw [← hi]; exact List.getElem_mem _
    obtain ⟨hu, o, ho, haft⟩ := mem_ready.1 him
    have hp := unl_set hs hu
    obtain ⟨k1, k2⟩ := ih (t / (Region.ready .any ops listed).length) (listed.setIfInBounds i true) (by simpa using hs) (by
      have := hp.length_eq
      simp only [List.length_cons] at this
      omega)
    rw [linearise_go_acc .any ops fuel _ _ [i], List.reverse_singleton, List.singleton_append] at hgo
    rw [hgo]
    refine ⟨(List.Perm.cons i k1).trans hp.symm, fun A j Bl h o' ho' e he => ?_⟩
    cases A with
    | nil =>
      simp only [List.nil_append, List.cons.injEq] at h
      obtain ⟨rfl, _⟩ := h
      rw [ho] at ho'; cases ho'
      exact .inl (haft e he)
    | cons x A =>
      simp only [List.cons_append, List.cons.injEq] at h
      obtain ⟨rfl, h⟩ := h
      rcases k2 A j Bl h o' ho' e he with q | q
      · by_cases hei : e = i
        · subst hei; exact .inr (by simp)
        · left
          simpa [Array.getD_eq_getD_getElem?, Array.getElem?_setIfInBounds, Ne.symm hei] using q
      · exact .inr (by simp [q])

theorem lin_ok (hb : ∀ j o, ops[j]? = some o → ∀ i ∈ aftC o, i < j) (t : Nat) :
    (Region.linearise .any ops t).Perm (List.range ops.size) ∧ ∀ A j Bl, Region.linearise .any ops t = A ++ j :: Bl → ∀ o, ops[j]? = some o → ∀ i ∈ aftC o, i ∈ A := by
  have hu : unl ops.size (Array.replicate ops.size false) = List.range ops.size := by
    unfold unl
    rw [List.filter_eq_self]
    intro i hi
    simp only [List.mem_range] at hi
    simp [Array.getD_eq_getD_getElem?, Array.getElem?_replicate, hi]
  obtain ⟨k1, k2⟩ := lin_go (ops := ops) hb ops.size t (Array.replicate ops.size false) (by simp) (by rw [hu]; simp)
  rw [hu] at k1
  refine ⟨k1, fun A j Bl h o ho i hi => ?_⟩
  rcases k2 A j Bl h o ho i hi with q | q
  · exfalso
    rw [Array.getD_eq_getD_getElem?, Array.getElem?_replicate] at q
    split at q <;> simp at q
  · exact q

theorem idx_lt {σ : List Nat} (hn : σ.Nodup) {i j : Nat} (hj : j ∈ σ) (h : ∀ A Bl, σ = A ++ j :: Bl → i ∈ A) : σ.idxOf i < σ.idxOf j := by
  obtain ⟨A, Bl, hσ⟩ := List.append_of_mem hj
  have hi := h A Bl hσ
  have hjA : j ∉ A := by
    intro hA
    rw [hσ, List.nodup_append] at hn
    exact hn.2.2 j hA j (by simp) rfl
  have h1 : σ.idxOf j = A.length := by
    rw [hσ, List.idxOf_append]
    simp [hjA]
  have h2 : σ.idxOf i < A.length := by
    rw [hσ, List.idxOf_append, if_pos hi]
    exact List.idxOf_lt_length_of_mem hi
  omega

def noRow : AR := { d := none, o := .bad }

/-- Every order that a region may draw comes to what the text's order comes to. -/
theorem draw_chain {C : CallP} {pu : Nat → Bool} (hC : Pures pu C) {rs : List AR} (hlen : rs.length = ops.size) {s s' : St} (hd : drawOk pu (ops.toList.map aftC) rs = true)
    (h : Chain C rs s s') (t : Nat) :
    ∃ u, Chain C ((Region.linearise .any ops t).map fun i => rs.getD i noRow) s u ∧ Same u s' ∧ ∀ i ∈ Region.linearise .any ops t, i < ops.size := by
  simp only [drawOk, Bool.and_eq_true, List.all_eq_true, beq_iff_eq, decide_eq_true_eq] at hd
  obtain ⟨⟨⟨h1, h2⟩, h3⟩, h4⟩ := hd
  generalize hcl : closeA [] (ops.toList.map aftC) = cl at h2 h4
  have hb : ∀ j o, ops[j]? = some o → ∀ i ∈ aftC o, i < j := by
    intro j o ho i hi
    have := h3 (aftC o, j) (by
      rw [List.mem_zipIdx_iff_getElem?]
      simp [ho]) i hi
    simpa using this
  obtain ⟨k1, k2⟩ := lin_ok hb t
  generalize hσ : Region.linearise .any ops t = σ at k1 k2
  have hnd : σ.Nodup := (k1.nodup_iff).2 List.nodup_range
  have hmem : ∀ i, i ∈ σ ↔ i < ops.size := fun i => by rw [k1.mem_iff]; simp
  have haft : ∀ j, j < ops.size → ∀ i ∈ (ops.toList.map aftC).getD j [], σ.idxOf i < σ.idxOf j ∧ i < j := by
    intro j hj i hi
    have ho : ops[j]? = some ops[j] := Array.getElem?_eq_getElem hj
    have hi' : i ∈ aftC ops[j] := by
      simpa [List.getD_eq_getElem?_getD, ho] using hi
    exact ⟨idx_lt hnd ((hmem j).2 hj) fun A Bl q => k2 A j Bl q _ ho i hi', hb j _ ho i hi'⟩
  have hclose : ∀ m j, j < m → j < ops.size → ∀ i ∈ cl.getD j [], σ.idxOf i < σ.idxOf j := by
    intro m
    induction m with
    | zero => intro j hj; omega
    | succ m ih =>
      intro j hj hjn i hi
      have := h2 j (by simpa [hlen] using hjn) i hi
      simp only [Bool.or_eq_true, List.contains_iff_mem, List.any_eq_true] at this
      rcases this with q | ⟨k, hk, q⟩
      · exact (haft j hjn i q).1
      · obtain ⟨g1, g2⟩ := haft j hjn k hk
        have := ih k (by omega) (by omega) i q
        omega
  have hpw : σ.Pairwise (fun j i => i < j → swapOk pu (rs.getD i noRow) (rs.getD j noRow) = true) := by
    rw [List.pairwise_iff_getElem]
    intro p q hp hq hpq hlt
    have hin : σ[q] < ops.size := (hmem _).1 (List.getElem_mem hq)
    have hjn : σ[p] < ops.size := (hmem _).1 (List.getElem_mem hp)
    have hr : ∀ k (hk : k < ops.size), (rs.getD k noRow, k) ∈ rs.zipIdx := by
      intro k hk
      rw [List.mem_zipIdx_iff_getElem?]
      simp [List.getD_eq_getElem?_getD, hlen, hk]
    have := h4 _ (hr _ hjn) _ (hr _ hin)
    simp only [Bool.or_eq_true, Bool.not_eq_true', decide_eq_false_iff_not] at this
    rcases this with (g | g) | g
    · exact absurd hlt g
    · exfalso
      have := hclose _ σ[p] (Nat.lt_succ_self _) hjn σ[q] (by simpa using g)
      rw [List.Nodup.idxOf_getElem hnd, List.Nodup.idxOf_getElem hnd] at this
      omega
    · exact g
  have hmap : rs = (List.range ops.size).map fun i => rs.getD i noRow := by
    apply List.ext_getElem?
    intro i
    simp only [List.getElem?_map]
    rcases Nat.lt_or_ge i ops.size with g | g
    · simp [List.getD_eq_getElem?_getD, g, hlen]
    · have g' : rs.length ≤ i := by omega
      simp [g, g']
  have h' : Chain C ((List.range ops.size).map fun i => rs.getD i noRow) s s' := hmap ▸ h
  obtain ⟨u, m1, m2⟩ := perm_chain hC (fun i => rs.getD i noRow) (List.range ops.size) σ List.pairwise_lt_range k1 hpw h'
  exact ⟨u, m1, m2, fun i hi => (hmem i).1 hi⟩

end
end Go.Am
