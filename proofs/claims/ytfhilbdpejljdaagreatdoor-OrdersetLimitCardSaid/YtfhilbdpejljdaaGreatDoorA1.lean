/- The abstract values of a call of a Go function over the model, and when a concrete value stands for one. Generic: no program in sight. -/
import Derived.Calls
import Derived.Laws.Sem
import Derived.Laws.Cells
import Derived.Laws.World
import Derived.Laws.Entries
import Derived.Laws.Rows
import Derived.Laws.Append
set_option linter.all false
namespace Go.Am
open Go

/-- Who may append in place to a slice: nil; nobody (`any`: nothing is known, but it is not nil); no room (`full`; not nil); the holder of a token. -/
inductive Tk where
  | nil | full | any | own (id : Nat)

/-- Abstract values. `sl`: a slice of data that is never written again; `bs`: a slice into a block of the abstract heap; `ptr`: a pointer into such a block; `cptr`: a pointer into cells that are never written. -/
inductive Av where
  | int (k : IntKind) (n : Int)
  | bool (b : Bool)
  | str (s : List UInt8)
  | agg (cs : List Av)
  | tup (vs : List Av)
  | sl (xs : List (List Av)) (tk : Tk)
  | bs (b ver sz off len : Nat)
  | ptr (b ver row off : Nat)
  | cptr (cs : List Av) (off : Nat)
  | nilptr
  | mp (b : Nat)
  | cmap (kvs : List (Av × Av))
  | fn (f : Nat) (caps : List Av)
  | yld (b : Nat)
  | nilfn
  | nilif
  | top

/-- What concrete values are held against: cells that are never written again; the blocks of the abstract heap (concrete block, cells of a row, version now, size of the concrete block); the tokens (length now, block, first free cell, size of the block). -/
structure View where
  rd : Nat → Nat → Option Value
  blk : Nat → Option (Nat × Nat × Nat × Nat)
  own : Nat → Option (Nat × Nat × Nat × Nat)

def maxL : Nat := 9223372036854775807

/-- What the token of a slice says of its concrete address, length and capacity (`sz`: cells of an element). -/
def TkOk (V : View) (a : Addr) (len cap sz : Nat) : Tk → Prop
  | .nil => False
  | .full => cap = len
  | .any => True
  | .own id => ∃ n c hw s, V.own id = some (n, c, hw, s) ∧ len ≤ n ∧ (len = n → a.block = c ∧ a.off + len * sz = hw ∧ a.off + cap * sz ≤ s)

/-- The address that a slice or a pointer into an abstract block has, if its version is the one of now. -/
def BsOk (V : View) (v : Value) (b ver sz off len : Nat) : Prop :=
  ∃ c now s, V.blk b = some (c, sz, now, s) ∧ ver ≤ now ∧ ∃ x o cap, v = .slice (some ⟨x, o, none⟩) len cap ∧ len ≤ cap ∧ cap ≤ maxL ∧ (ver = now → x = c ∧ (0 < cap → o = off * sz) ∧ (off + cap) * sz ≤ s)

def PtrOk (V : View) (v : Value) (b ver row off : Nat) : Prop :=
  ∃ c sz now s, V.blk b = some (c, sz, now, s) ∧ ver ≤ now ∧ ∃ x o, v = .pointer (some ⟨x, o, none⟩) ∧ (ver = now → x = c ∧ o = row * sz + off)

/-- What a view says of data alone: cells that are never written again. -/
def View.pu (V : View) : View := { rd := V.rd, blk := fun _ => none, own := fun _ => none }

theorem View.pu_pu (V : View) : V.pu.pu = V.pu := rfl

inductive RelV : View → Value → Av → Prop
  | top {V : View} (v : Value) : RelV V v .top
  | int {V : View} (k : IntKind) (n : Int) : k.has n → RelV V (.int k n) (.int k n)
  | bool {V : View} (b : Bool) : RelV V (.bool b) (.bool b)
  | str {V : View} (s : ByteArray) (l : List UInt8) : s.data.toList = l → l.length ≤ maxL → RelV V (.string s) (.str l)
  | agg {V : View} (vs : Array Value) (as : List Av) : vs.size = as.length → (∀ (i : Nat) (v : Value), (vs[i]? : Option Value) = some v → v.oneCell' = true) → (∀ (i : Nat) (v : Value) (a : Av), (vs[i]? : Option Value) = some v → as[i]? = some a → RelV V v a) → RelV V (.agg vs) (.agg as)
  | tup {V : View} (vs : Array Value) (as : List Av) : vs.size = as.length → (∀ (i : Nat) (v : Value) (a : Av), (vs[i]? : Option Value) = some v → as[i]? = some a → RelV V v a) → RelV V (.tuple vs) (.tup as)
  | slnil {V : View} : RelV V (.slice none 0 0) (.sl [] .nil)
  | sl {V : View} (b o len cap : Nat) (xs : List (List Av)) (tk : Tk) (sz : Nat) (f : Nat → Nat → Value) (sp : Option Nat) :
      xs.length = len → len ≤ cap → cap ≤ maxL → (∀ x ∈ xs, x.length = sz) →
      (∀ i j x c, xs[i]? = some x → x[j]? = some c → V.rd b (o + i * sz + j) = some (f i j) ∧ (f i j).oneCell' = true) →
      (∀ i j x c, xs[i]? = some x → x[j]? = some c → RelV V.pu (f i j) c) →
      TkOk V ⟨b, o, none⟩ len cap sz tk → (0 < cap → sp = none) → RelV V (.slice (some ⟨b, o, sp⟩) len cap) (.sl xs tk)
  | bs {V : View} (v : Value) (b ver sz off len : Nat) : BsOk V v b ver sz off len → RelV V v (.bs b ver sz off len)
  | ptr {V : View} (v : Value) (b ver row off : Nat) : PtrOk V v b ver row off → RelV V v (.ptr b ver row off)
  | cptr {V : View} (b o : Nat) (cs : List Av) (off : Nat) (f : Nat → Value) : off ≤ o →
      (∀ j c, cs[j]? = some c → V.rd b (o - off + j) = some (f j) ∧ (f j).oneCell' = true) → (∀ j c, cs[j]? = some c → RelV V.pu (f j) c) →
      RelV V (.pointer (some ⟨b, o, none⟩)) (.cptr cs off)
  | nilptr {V : View} : RelV V (.pointer none) .nilptr
  | mp {V : View} (b c now s : Nat) : V.blk b = some (c, 0, now, s) → RelV V (.map (some c)) (.mp b)
  | cmap {V : View} (c : Nat) (ps : Array Value) (kvs : List (Av × Av)) (fk fv : Nat → Value) : V.rd c 0 = some (.tuple ps) → ps.size = kvs.length → kvs.length ≤ maxL →
      (∀ (i : Nat) p, kvs[i]? = some p → ps[i]? = some (.tuple #[fk i, fv i])) → (∀ (i : Nat) p, kvs[i]? = some p → RelV V.pu (fk i) p.1) → (∀ (i : Nat) p, kvs[i]? = some p → RelV V.pu (fv i) p.2) →
      RelV V (.map (some c)) (.cmap kvs)
  | fn {V : View} (f : Nat) (vs : Array Value) (as : List Av) : vs.size = as.length → (∀ (i : Nat) (v : Value) (a : Av), (vs[i]? : Option Value) = some v → as[i]? = some a → RelV V v a) → RelV V (.func (.func f) #[] vs) (.fn f as)
  | yld {V : View} (b c now s : Nat) : V.blk b = some (c, 0, now, s) → RelV V (.func (.yield c) #[] #[]) (.yld b)
  | nilfn {V : View} : RelV V .nilFunc .nilfn
  | nilif {V : View} : RelV V .nilIface .nilif

/-- A later view: what was readable reads as it did; blocks and tokens of the same version lie where they lay. -/
structure View.Le (V V' : View) : Prop where
  rd : ∀ c o v, V.rd c o = some v → V'.rd c o = some v
  blk : ∀ b c sz n s, V.blk b = some (c, sz, n, s) → ∃ c' n' s', V'.blk b = some (c', sz, n', s') ∧ n ≤ n' ∧ (n = n' ∨ sz = 0 → c = c' ∧ s = s')
  own : ∀ i n c h s, V.own i = some (n, c, h, s) → ∃ n' c' h' s', V'.own i = some (n', c', h', s') ∧ n ≤ n' ∧ (n = n' → c = c' ∧ h = h' ∧ s = s')

theorem View.Le.refl (V : View) : V.Le V :=
  ⟨fun _ _ _ h => h, fun _ c _ n s h => ⟨c, n, s, h, Nat.le_refl _, fun _ => ⟨rfl, rfl⟩⟩, fun _ n c h s e => ⟨n, c, h, s, e, Nat.le_refl _, fun _ => ⟨rfl, rfl, rfl⟩⟩⟩

theorem View.Le.trans {A B C : View} (h : A.Le B) (k : B.Le C) : A.Le C := by
  refine ⟨fun c o v e => k.rd _ _ _ (h.rd _ _ _ e), ?_, ?_⟩
  · intro b c sz n s e
    obtain ⟨c1, n1, s1, e1, l1, q1⟩ := h.blk _ _ _ _ _ e
    obtain ⟨c2, n2, s2, e2, l2, q2⟩ := k.blk _ _ _ _ _ e1
    refine ⟨c2, n2, s2, e2, by omega, fun hn => ?_⟩
    obtain ⟨rfl, rfl⟩ := q1 (by omega)
    exact q2 (by omega)
  · intro i n c hh s e
    obtain ⟨n1, c1, h1, s1, e1, l1, q1⟩ := h.own _ _ _ _ _ e
    obtain ⟨n2, c2, h2, s2, e2, l2, q2⟩ := k.own _ _ _ _ _ e1
    refine ⟨n2, c2, h2, s2, e2, by omega, fun hn => ?_⟩
    obtain ⟨rfl, rfl, rfl⟩ := q1 (by omega)
    exact q2 (by omega)

theorem TkOk.mono {V V' : View} (h : V.Le V') {a : Addr} {len cap sz : Nat} {tk : Tk} (k : TkOk V a len cap sz tk) : TkOk V' a len cap sz tk := by
  cases tk with
  | nil => exact k
  | full => exact k
  | any => trivial
  | own id =>
    obtain ⟨n, c, hw, s, e, hl, q⟩ := k
    obtain ⟨n', c', h', s', e', hn, q'⟩ := h.own _ _ _ _ _ e
    refine ⟨n', c', h', s', e', by omega, fun hh => ?_⟩
    obtain ⟨rfl, rfl, rfl⟩ := q' (by omega)
    exact q (by omega)

theorem BsOk.mono {V V' : View} (h : V.Le V') {v : Value} {b ver sz off len : Nat} (k : BsOk V v b ver sz off len) : BsOk V' v b ver sz off len := by
  obtain ⟨c, now, s, e, hl, x, o, cap, hv, h1, h2, q⟩ := k
  obtain ⟨c', n', s', e', hn, q'⟩ := h.blk _ _ _ _ _ e
  refine ⟨c', n', s', e', by omega, x, o, cap, hv, h1, h2, fun hh => ?_⟩
  obtain ⟨rfl, rfl⟩ := q' (by omega)
  exact q (by omega)

theorem PtrOk.mono {V V' : View} (h : V.Le V') {v : Value} {b ver row off : Nat} (k : PtrOk V v b ver row off) : PtrOk V' v b ver row off := by
  obtain ⟨c, sz, now, s, e, hl, x, o, hv, q⟩ := k
  obtain ⟨c', n', s', e', hn, q'⟩ := h.blk _ _ _ _ _ e
  refine ⟨c', sz, n', s', e', by omega, x, o, hv, fun hh => ?_⟩
  obtain ⟨rfl, rfl⟩ := q' (by omega)
  exact q (by omega)

theorem View.Le.pu {V V' : View} (h : V.Le V') : V.pu.Le V'.pu :=
  ⟨h.rd, fun _ _ _ _ _ e => (by cases e), fun _ _ _ _ _ e => (by cases e)⟩

theorem View.pu_le (V : View) : V.pu.Le V := ⟨fun _ _ _ h => h, fun _ _ _ _ _ e => (by cases e), fun _ _ _ _ _ e => (by cases e)⟩

theorem RelV.mono {V V' : View} (h : V.Le V') {v : Value} {a : Av} (k : RelV V v a) : RelV V' v a := by
  induction k generalizing V' with
  | top v => exact .top v
  | int k n q => exact .int k n q
  | bool b => exact .bool b
  | str s l q1 q2 => exact .str s l q1 q2
  | agg vs as q q1 _ ih => exact .agg vs as q q1 fun i v a h1 h2 => ih i v a h1 h2 h
  | tup vs as q _ ih => exact .tup vs as q fun i v a h1 h2 => ih i v a h1 h2 h
  | slnil => exact .slnil
  | sl b o len cap xs tk sz f sp h1 h2 h3 h4 h5 _ h7 h8 ih =>
    exact .sl b o len cap xs tk sz f sp h1 h2 h3 h4 (fun i j x c hx hc => ⟨h.rd _ _ _ (h5 i j x c hx hc).1, (h5 i j x c hx hc).2⟩) (fun i j x c hx hc => ih i j x c hx hc h.pu) (h7.mono h) h8
  | bs v b ver sz off len q => exact .bs v b ver sz off len (q.mono h)
  | ptr v b ver row off q => exact .ptr v b ver row off (q.mono h)
  | cptr b o cs off f h0 h1 _ ih => exact .cptr b o cs off f h0 (fun j c hc => ⟨h.rd _ _ _ (h1 j c hc).1, (h1 j c hc).2⟩) (fun j c hc => ih j c hc h.pu)
  | nilptr => exact .nilptr
  | mp b c now s q =>
    obtain ⟨c', n', s', e', _, q'⟩ := h.blk _ _ _ _ _ q
    obtain ⟨rfl, rfl⟩ := q' (.inr rfl)
    exact .mp b _ n' _ e'
  | cmap c ps kvs fk fv q1 q2 q3 q4 _ _ ih1 ih2 => exact .cmap c ps kvs fk fv (h.rd _ _ _ q1) q2 q3 q4 (fun i p hp => ih1 i p hp h.pu) (fun i p hp => ih2 i p hp h.pu)
  | fn f vs as q _ ih => exact .fn f vs as q fun i v a h1 h2 => ih i v a h1 h2 h
  | yld b c now s q =>
    obtain ⟨c', n', s', e', _, q'⟩ := h.blk _ _ _ _ _ q
    obtain ⟨rfl, rfl⟩ := q' (.inr rfl)
    exact .yld b _ n' _ e'
  | nilfn => exact .nilfn
  | nilif => exact .nilif

/-- What data alone says of a slice's room. -/
def Tk.pu : Tk → Tk
  | .own _ => .any
  | tk => tk

/-- A value of one cell as data alone: what no block and no token of the abstract heap is met from. -/
def strip1 : Av → Option Av
  | .int k n => some (.int k n)
  | .bool b => some (.bool b)
  | .str s => some (.str s)
  | .sl xs tk => some (.sl xs tk.pu)
  | .cptr cs off => some (.cptr cs off)
  | .nilptr => some .nilptr
  | .cmap kvs => some (.cmap kvs)
  | .fn f [] => some (.fn f [])
  | .nilfn => some .nilfn
  | .nilif => some .nilif
  | .top => some .top
  | _ => none

def stripL : List Av → Option (List Av)
  | [] => some []
  | a :: as => match strip1 a, stripL as with
    | some a, some as => some (a :: as)
    | _, _ => none

def stripR : List (List Av) → Option (List (List Av))
  | [] => some []
  | r :: rs => match stripL r, stripR rs with
    | some r, some rs => some (r :: rs)
    | _, _ => none

theorem stripR_get : ∀ {xs ys : List (List Av)}, stripR xs = some ys → ys.length = xs.length ∧ ∀ (i : Nat) x y, xs[i]? = some x → ys[i]? = some y → stripL x = some y
  | [], ys, h => by
    simp only [stripR, Option.some.injEq] at h
    subst h
    exact ⟨rfl, fun i x y h => by simp at h⟩
  | a :: as, ys, h => by
    simp only [stripR] at h
    split at h
    · rename_i a' as' h1 h2
      cases h
      obtain ⟨q1, q2⟩ := stripR_get h2
      refine ⟨by simp [q1], fun i x y hx hy => ?_⟩
      match i with
      | 0 => simp at hx hy; subst hx; subst hy; exact h1
      | i + 1 => simp at hx hy; exact q2 i x y hx hy
    · cases h

/-- A value as data alone. -/
def strip : Av → Option Av
  | .agg cs => (stripL cs).map .agg
  | a => strip1 a

theorem TkOk.pu {V : View} {a : Addr} {len cap sz : Nat} {tk : Tk} (h : TkOk V a len cap sz tk) : TkOk V.pu a len cap sz tk.pu := by
  cases tk <;> first | exact h | trivial

theorem strip1_sound {V : View} {v : Value} {x y : Av} (h : RelV V v x) (hs : strip1 x = some y) : RelV V.pu v y := by
  cases h <;> simp only [strip1, Option.some.injEq, reduceCtorEq] at hs
  case top => subst hs; exact .top _
  case int k n q => subst hs; exact .int k n q
  case bool b => subst hs; exact .bool b
  case str s l q1 q2 => subst hs; exact .str s l q1 q2
  case slnil => subst hs; exact .slnil
  case sl => subst hs; exact .sl _ _ _ _ _ _ _ _ _ (by assumption) (by assumption) (by assumption) (by assumption) (by assumption) (by assumption) (TkOk.pu (by assumption)) (by assumption)
  case cptr b o cs off f h0 h1 h2 => subst hs; exact .cptr b o cs off f h0 h1 h2
  case nilptr => subst hs; exact .nilptr
  case fn f vs as q1 q2 =>
    cases as with
    | nil => simp only [strip1, Option.some.injEq] at hs; subst hs; exact .fn f vs [] q1 (fun i v a _ h => by simp at h)
    | cons _ _ => simp [strip1] at hs
  case cmap => subst hs; exact .cmap _ _ _ _ _ (by assumption) (by assumption) (by assumption) (by assumption) (by assumption) (by assumption)
  case nilfn => subst hs; exact .nilfn
  case nilif => subst hs; exact .nilif

theorem stripL_get : ∀ {xs ys : List Av}, stripL xs = some ys → ys.length = xs.length ∧ ∀ (i : Nat) x y, xs[i]? = some x → ys[i]? = some y → strip1 x = some y
  | [], ys, h => by
    simp only [stripL, Option.some.injEq] at h
    subst h
    exact ⟨rfl, fun i x y h => by simp at h⟩
  | a :: as, ys, h => by
    simp only [stripL] at h
    split at h
    · rename_i a' as' h1 h2
      cases h
      obtain ⟨q1, q2⟩ := stripL_get h2
      refine ⟨by simp [q1], fun i x y hx hy => ?_⟩
      match i with
      | 0 => simp at hx hy; subst hx; subst hy; exact h1
      | i + 1 => simp at hx hy; exact q2 i x y hx hy
    · cases h

theorem strip_sound {V : View} {v : Value} {x y : Av} (h : RelV V v x) (hs : strip x = some y) : RelV V.pu v y := by
  cases x with
  | agg cs =>
    simp only [strip, Option.map_eq_some_iff] at hs
    obtain ⟨ds, hd, rfl⟩ := hs
    obtain ⟨q1, q2⟩ := stripL_get hd
    cases h with
    | agg vs as h1 h2 h3 =>
      refine .agg vs ds (h1.trans q1.symm) h2 fun i v y hv hy => ?_
      have hi : i < cs.length := by rw [← q1]; exact (List.getElem?_eq_some_iff.1 hy).1
      exact strip1_sound (h3 i v cs[i] hv (List.getElem?_eq_getElem hi)) (q2 i _ y (List.getElem?_eq_getElem hi) hy)
  | _ => exact strip1_sound h hs

end Go.Am

namespace Go.Am
open Go

abbrev Env := List (Nat × Av)

def getE (k : Nat) : Env → Av
  | [] => .top
  | (k', v) :: e => if k = k' then v else getE k e

def setE (k : Nat) (v : Av) : Env → Env
  | [] => [(k, v)]
  | (k', v') :: e => if k < k' then (k, v) :: (k', v') :: e else if k = k' then (k, v) :: e else (k', v') :: setE k v e

theorem getE_setE (k k' : Nat) (v : Av) (e : Env) : getE k (setE k' v e) = if k = k' then v else getE k e := by
  induction e with
  | nil => simp [setE, getE]
  | cons p e ih =>
    obtain ⟨k1, v1⟩ := p
    simp only [setE]
    by_cases h1 : k' < k1
    · rw [if_pos h1]; simp only [getE]
    · rw [if_neg h1]
      by_cases h2 : k' = k1
      · subst h2; simp only [if_true, getE]; by_cases h3 : k = k' <;> simp [h3]
      · rw [if_neg h2]; simp only [getE, ih]
        by_cases h3 : k = k1
        · subst h3; rw [if_pos rfl]; rw [if_neg (fun h => h2 h.symm), if_pos rfl]
        · rw [if_neg h3]; by_cases h4 : k = k'
          · rw [if_pos h4, if_pos h4]
          · rw [if_neg h4, if_neg h4, if_neg h3]

/-- Keep only the slots of a list, in its order. -/
def keepE (ks : List Nat) (e : Env) : Env :=
  match ks with
  | [] => []
  | k :: ks => (k, getE k e) :: keepE ks e

theorem getE_keepE (ks : List Nat) (k : Nat) (e : Env) : getE k (keepE ks e) = getE k e ∨ getE k (keepE ks e) = .top := by
  induction ks with
  | nil => exact .inr rfl
  | cons k1 ks ih =>
    simp only [keepE, getE]
    by_cases h : k = k1
    · rw [if_pos h, h]; exact .inl rfl
    · rw [if_neg h]; exact ih

/-- Operands: a slot, a constant. -/
inductive Od where
  | t (n : Nat)
  | c (a : Av)

def Od.ev (e : Env) : Od → Av
  | .t n => getE n e
  | .c a => a

instance (n : Nat) : OfNat Od n := ⟨.t n⟩

/-- Kinds of cells that are compared. -/
inductive KK where
  | i (k : IntKind)
  | b
  | s
  deriving DecidableEq

inductive AOp where
  | mov (x : Od)
  | pick (c a b : Od)
  | alloc (z : List Av)
  | box (n : Nat) (x : Od)
  | build (z : List Av) (ps : List (Nat × Nat × Od))
  | lit (sz : Nat) (z : List Av) (len : Nat) (ps : List (Nat × Od))
  | litB (sz : Nat) (z : List Av) (len : Nat) (ps : List (Nat × Od))
  | ld (n : Option Nat) (a : Od)
  | st (n : Nat) (a x : Od)
  | nck (x : Od)
  | bin (op : BinOp) (x y : Od)
  | binB (neg : Bool) (x y : Od)
  | binN (neg : Bool) (x y : Od)
  | eqA (neg : Bool) (ks : List KK) (x y : Od)
  | un (op : UnOp) (x : Od)
  | cvt (k : IntKind) (x : Od)
  | s2b (x : Od)
  | b2s (x : Od)
  | fnc (f : Nat) (caps : List Od)
  | mkmap
  | mkS (sz by_ : Nat) (z : List Av) (l c : Od)
  | slc (sz : Nat) (x : Od) (lo hi mx : Option Od)
  | fad (off : Nat) (x : Od)
  | fld (n : Option Nat) (off : Nat) (x : Od)
  | ixs (sz : Nat) (x i : Od)
  | ixa (len sz : Nat) (x i : Od)
  | ixv (len : Nat) (n : Option Nat) (sz : Nat) (x i : Od)
  | ixb (x i : Od)
  | look (ag : Bool) (ks : List KK) (z : Av) (ok : Bool) (m k : Od)
  | mset (ag : Bool) (ks : List KK) (m k v : Od)
  | ext (x : Od) (i : Nat)
  | call (f : Nat) (xs : List Od)
  | calld (f : Od) (xs : List Od)
  | len (x : Od)
  | lenM (x : Od)
  | cap (x : Od)
  | app (sz by_ : Nat) (x y : Od)
  | appB (sz by_ : Nat) (x y : Od)
  | copy (sz : Nat) (x y : Od)
  | min (x y : Od)
  | max (x y : Od)
  | rng (x : Od)
  | nxt (x : Od)
  | bad


/-- Kinds of values that an operation needs: a slice, a string, a pointer. -/
inductive KD where
  | sl
  | st
  | pt

def kdOk (e : Env) (p : KD × Od) : Bool :=
  match p.1, p.2.ev e with
  | .sl, .sl _ _ => true
  | .sl, .bs .. => true
  | .st, .str _ => true
  | .pt, .ptr .. => true
  | .pt, .cptr .. => true
  | .pt, .nilptr => true
  | _, _ => false

/-- Marks of a row, which the code does not show: a slot's pointer leads to the block of another slot's; to another block; what is called is pure; leaves the heap as it is; is to be run on its caller's heap. -/
inductive Mk where
  | same (x k : Nat)
  | apart (x k : Nat)
  | pur
  | hk
  | shr

def mkOk (e : Env) : Mk → Bool
  | .same x k => match getE x e, getE k e with
    | .ptr b _ _ _, .ptr b' _ _ _ => b == b'
    | .ptr b _ _ _, .bs b' _ _ _ _ => b == b'
    | .cptr _ _, .cptr _ _ => true
    | _, _ => false
  | .apart x k => match getE x e, getE k e with
    | .ptr b _ _ _, .ptr b' _ _ _ => b != b'
    | .ptr b _ _ _, .bs b' _ _ _ _ => b != b'
    | .ptr _ _ _ _, .cptr _ _ => true
    | _, _ => false
  | .pur => true
  | .hk => true
  | .shr => true

def Mk.slots : Mk → List Nat
  | .same x k => [x, k]
  | .apart x k => [x, k]
  | .pur => []
  | .hk => []
  | .shr => []

/-- A row of a region: where it puts what it comes to; whether it is guarded; the kinds of its operands; its marks. -/
structure AR where
  d : Option Nat
  o : AOp
  k : List (KD × Od) := []
  g : Option (Nat × Bool) := none
  m : List Mk := []

def AR.ok (r : AR) (e : Env) : Bool := r.k.all (kdOk e) && r.m.all (mkOk e)

def AR.pur (r : AR) : Bool := r.m.any fun
  | .pur => true
  | _ => false

def AR.hk (r : AR) : Bool := r.m.any fun
  | .hk => true
  | _ => false

def AR.shr (r : AR) : Bool := r.m.any fun
  | .shr => true
  | _ => false

def AR.bare (r : AR) : AR := { r with m := [] }

def putE (d : Option Nat) (v : Av) (e : Env) : Env :=
  match d with
  | some d => setE d v e
  | none => e

inductive AC where
  | skip
  | reg (draw : Option (List (List Nat))) (ops : List AR)
  | seq (keep : Option (List Nat)) (a b : AC)
  | cond (c : Od) (a b : AC)
  | block (id : Nat) (a : AC)
  | loop (keep : Option (List Nat)) (a : AC)
  | rfn (keep : Option (List Nat)) (f : Od) (ps : List Nat) (A Bd : AC)
  | exit (id : Nat)
  | ret
  | bad

def AC.erase : AC → AC
  | .reg d rs => .reg d (rs.map AR.bare)
  | .seq _ a b => .seq none a.erase b.erase
  | .cond c a b => .cond c a.erase b.erase
  | .block i a => .block i a.erase
  | .loop _ a => .loop none a.erase
  | .rfn _ f ps A Bd => .rfn none f ps A.erase Bd.erase
  | c => c

/-- How code is left: at its end, to a block's end, out of the function. -/
inductive Xit where
  | nrm
  | ex (id : Nat)
  | ret
  deriving DecidableEq

/-- Blocks of the abstract heap: rows of `sz` cells (a version grows with each append); rows that are never written again; a map; the place of a string's reading; the record of a range over a function (0: ready, 1: busy, 2: done, 3: over). -/
inductive AO where
  | rows (sz : Nat) (rs : List (List Av)) (ver : Nat)
  | froz (sz : Nat) (rs : List (List Av)) (ver : Nat)
  | mapo (kvs : List (Av × Av))
  | siter (s : List UInt8) (pos : Nat)
  | lrec (ps : List Nat) (e : Env) (A Bd : AC) (st : Nat) (pend : Option Xit)
  | dead

structure St where
  e : Env
  H : List AO
  T : List Nat

/-- The cells of a value that is known. -/
def cellsA : Av → Option (List Av)
  | .agg cs => some cs
  | .tup _ => none
  | .top => none
  | a => some [a]

/-- A value out of `n` cells (a struct or an array), or out of one. -/
def ofCells (n : Option Nat) (cs : List Av) : Option Av :=
  match n with
  | some _ => some (.agg cs)
  | none => match cs with
    | [a] => some a
    | _ => none

def width (n : Option Nat) : Nat := n.getD 1

/-- `n` cells from `off` on. -/
def window (row : List Av) (off n : Nat) : Option (List Av) :=
  if off + n ≤ row.length then some ((row.drop off).take n) else none

/-- The rows of a block, if they can be read. -/
def rowsOf (H : List AO) (b ver : Nat) : Option (Nat × List (List Av)) :=
  match H[b]? with
  | some (.rows sz rs v) => if v = ver then some (sz, rs) else none
  | some (.froz sz rs v) => if v = ver then some (sz, rs) else none
  | _ => none

def splice (row : List Av) (off : Nat) (cs : List Av) : List Av := row.take off ++ cs ++ row.drop (off + cs.length)

/-- Parts laid into cells. -/
def fillA (e : Env) : List Av → List (Nat × Nat × Od) → Option (List Av)
  | z, [] => some z
  | z, (off, n, x) :: ps =>
    match cellsA (x.ev e) with
    | some cs => if cs.length = n ∧ off + n ≤ z.length then fillA e (splice z off cs) ps else none
    | none => none

/-- The rows of a literal. -/
def rowsA (e : Env) (sz : Nat) : List (List Av) → List (Nat × Od) → Option (List (List Av))
  | rs, [] => some rs
  | rs, (i, x) :: ps =>
    match cellsA (x.ev e) with
    | some cs => if cs.length = sz ∧ i < rs.length then rowsA e sz (rs.set i cs) ps else none
    | none => none

def eq1 : KK → Av → Av → Option Bool
  | .i k, .int k1 x, .int k2 y => if k1 = k ∧ k2 = k then some (x == y) else none
  | .b, .bool x, .bool y => some (x == y)
  | .s, .str x, .str y => some (x == y)
  | _, _, _ => none

def eqK : List KK → List Av → List Av → Option Bool
  | [], [], [] => some true
  | k :: ks, x :: xs, y :: ys => match eq1 k x y with
    | some r => (eqK ks xs ys).map (r && ·)
    | none => none
  | _, _, _ => none

/-- Equality of two structs (`ag`), or of two values of one cell, whose cells are numbers, bools and strings. -/
def eqVals (ag : Bool) (ks : List KK) (x y : Av) : Option Bool :=
  match ag, x, y with
  | true, .agg xs, .agg ys => eqK ks xs ys
  | false, x, y => eqK ks [x] [y]
  | _, _, _ => none

/-- Has a key the shape of its type? -/
def keyFit (ag : Bool) (ks : List KK) : Av → Bool
  | .agg cs => ag && cs.length == ks.length
  | _ => !ag

/-- Is a slice, a pointer, a function nil? -/
def nilA : Av → Option Bool
  | .sl (_ :: _) _ => some false
  | .sl [] .nil => some true
  | .sl [] _ => some false
  | .bs .. => some false
  | .ptr .. => some false
  | .cptr .. => some false
  | .nilptr => some true
  | .fn .. => some false
  | .nilfn => some true
  | _ => none

def binInt (op : BinOp) (k : IntKind) (x y : Int) : Option Av :=
  match op with
  | .add => some (.int k (k.wrap (x + y)))
  | .sub => some (.int k (k.wrap (x - y)))
  | .mul => some (.int k (k.wrap (x * y)))
  | .quo => if y = 0 then none else some (.int k (k.wrap (x.tdiv y)))
  | .rem => if y = 0 then none else some (.int k (x.tmod y))
  | .and => some (.int k (k.wrap (BitVec.ofInt k.bits x &&& BitVec.ofInt k.bits y).toNat))
  | .or => some (.int k (k.wrap (BitVec.ofInt k.bits x ||| BitVec.ofInt k.bits y).toNat))
  | .xor => some (.int k (k.wrap (BitVec.ofInt k.bits x ^^^ BitVec.ofInt k.bits y).toNat))
  | .andNot => some (.int k (k.wrap (BitVec.ofInt k.bits x &&& ~~~BitVec.ofInt k.bits y).toNat))
  | .eql => some (.bool (x == y))
  | .neq => some (.bool (x != y))
  | .lss => some (.bool (x < y))
  | .leq => some (.bool (x ≤ y))
  | .gtr => some (.bool (x > y))
  | .geq => some (.bool (x ≥ y))
  | _ => none

def binStr (op : BinOp) (x y : List UInt8) : Option Av :=
  match op with
  | .add => if x.length + y.length ≤ maxL then some (.str (x ++ y)) else none
  | .eql => some (.bool (x == y))
  | .neq => some (.bool (!(x == y)))
  | .lss => some (.bool (Op.bytesLess x y))
  | .leq => some (.bool (Op.bytesLess x y || x == y))
  | .gtr => some (.bool (!(Op.bytesLess x y || x == y)))
  | .geq => some (.bool (!Op.bytesLess x y))
  | _ => none

def binA (op : BinOp) (x y : Av) : Option Av :=
  match x, y with
  | .int k a, .int k' b =>
    match op with
    | .shl => if b < 0 then none else some (.int k (k.wrap (a * 2 ^ (min b.toNat k.bits))))
    | .shr => if b < 0 then none else some (.int k (a.fdiv (2 ^ (min b.toNat k.bits))))
    | _ => if k = k' then binInt op k a b else none
  | .str a, .str b => binStr op a b
  | _, _ => none

/-- '==' of two bools; of a slice, a pointer, a function with nil. -/
def binBA (neg : Bool) (x y : Av) : Option Av :=
  match x, y with
  | .bool a, .bool b => some (.bool ((a == b) != neg))
  | _, _ => none

def binNA (neg : Bool) (x y : Av) : Option Av :=
  match nilA x, nilA y with
  | some a, some true => some (.bool (a != neg))
  | some true, some b => some (.bool (b != neg))
  | _, _ => none

def unA (op : UnOp) (x : Av) : Option Av :=
  match op, x with
  | .not, .bool b => some (.bool !b)
  | .neg, .int k n => some (.int k (k.wrap (0 - n)))
  | .xor, .int k n => binInt .xor k (if k.signed then -1 else k.max) n
  | _, _ => none

/-- A bound that is an int, or is not there. -/
def bound (e : Env) (d : Int) : Option Od → Option Int
  | none => some d
  | some x => match x.ev e with
    | .int _ n => some n
    | _ => none

def slcA (e : Env) (x : Av) (lo hi mx : Option Od) : Option Av :=
  match x with
  | .str s =>
    match mx, bound e 0 lo, bound e s.length hi with
    | none, some l, some h => if 0 ≤ l ∧ l ≤ h ∧ h ≤ s.length then some (.str ((s.take h.toNat).drop l.toNat)) else none
    | _, _, _ => none
  | .sl xs tk =>
    match bound e 0 lo, bound e xs.length hi, bound e xs.length mx with
    | some l, some h, some m =>
      if 0 ≤ l ∧ l ≤ h ∧ h ≤ m ∧ m ≤ xs.length then
        some (.sl ((xs.take h.toNat).drop l.toNat) (match tk with | .nil => .nil | _ => if mx.isSome ∧ m = h then .full else .any))
      else none
    | _, _, _ => none
  | .bs b ver sz off len =>
    match bound e 0 lo, bound e len hi, bound e len mx with
    | some l, some h, some m => if 0 ≤ l ∧ l ≤ h ∧ h ≤ m ∧ m ≤ len then some (.bs b ver sz (off + l.toNat) (h.toNat - l.toNat)) else none
    | _, _, _ => none
  | _ => none

/-- Do all rows have this many cells? -/
def wide (sz : Nat) (xs : List (List Av)) : Bool := xs.all fun x => x.length == sz

/-- Do the elements of a slice have this many cells? -/
def fitA (sz : Nat) : Av → Bool
  | .sl xs _ => wide sz xs
  | .bs _ _ s _ _ => s == sz
  | _ => true

/-- The token of a slice to which is appended. -/
def appTok (T : List Nat) (n k : Nat) : Tk → Option (Tk × List Nat)
  | .nil => if k = 0 then some (.nil, T) else some (.own T.length, T ++ [n + k])
  | .full => if k = 0 then some (.full, T) else some (.own T.length, T ++ [n + k])
  | .own id => if k = 0 then some (.own id, T) else if T[id]? = some n ∧ n ≠ 0 then some (.own id, T.set id (n + k)) else none
  | .any => if k = 0 then some (.any, T) else none

/-- What an append takes in. -/
def newsOf (H : List AO) (sz : Nat) : Av → Option (List (List Av))
  | .sl ys _ => if wide sz ys = true then some ys else none
  | .bs b ver _ off len => match rowsOf H b ver with
    | some (s, rs) => if s = sz ∧ off + len ≤ rs.length then some ((rs.drop off).take len) else none
    | none => none
  | .str l => if sz = 1 then some (l.map fun c => [.int .u8 c.toNat]) else none
  | _ => none

/-- What an append to data takes in: data alone. -/
def newsP (H : List AO) (sz : Nat) : Av → Option (List (List Av))
  | .sl ys _ => if wide sz ys = true then some ys else none
  | .bs b ver _ off len => match rowsOf H b ver with
    | some (s, rs) => if s = sz ∧ off + len ≤ rs.length then stripR ((rs.drop off).take len) else none
    | none => none
  | .str l => if sz = 1 then some (l.map fun c => [.int .u8 c.toNat]) else none
  | _ => none

/-- The entries of a map. -/
def mapOf (H : List AO) : Av → Option (List (Av × Av))
  | .mp b => match H[b]? with
    | some (.mapo kvs) => some kvs
    | _ => none
  | .cmap kvs => some kvs
  | _ => none

/-- What an operation does to the abstract heap. -/
inductive DH where
  | none
  | push (o : AO)
  | set (b : Nat) (o : AO)

def DH.on (d : DH) (H : List AO) : List AO :=
  match d with
  | .none => H
  | .push o => H ++ [o]
  | .set b o => H.set b o

/-- What an operation comes to: its value, what it does to the heap, the tokens behind it if it turns them. -/
structure Lab where
  v : Av
  d : DH := .none
  T : Option (List Nat) := none

def room : Nat := 140737488355328

def appA (H : List AO) (T : List Nat) (sz by_ : Nat) (x y : Av) : Option Lab :=
  match x, newsP H sz y with
  | .sl xs tk, some ys =>
    if wide sz xs = true ∧ (xs.length + ys.length) * (by_ + 1) ≤ room then
      match appTok T xs.length ys.length tk with
      | some (tk', T') => some { v := .sl (xs ++ ys) tk', T := some T' }
      | none => none
    else none
  | _, _ => none

def appBA (H : List AO) (sz by_ : Nat) (x y : Av) : Option Lab :=
  match x, newsOf H sz y with
  | .sl xs tk, some ys =>
    if wide sz xs = true ∧ (xs.length + ys.length) * (by_ + 1) ≤ room then
      match tk with
      | .nil => if ys.length = 0 then some { v := .sl xs tk } else some { v := .bs H.length 0 sz 0 (xs.length + ys.length), d := .push (.rows sz (xs ++ ys) 0) }
      | .full => if ys.length = 0 then some { v := .sl xs tk } else some { v := .bs H.length 0 sz 0 (xs.length + ys.length), d := .push (.rows sz (xs ++ ys) 0) }
      | _ => none
    else none
  | .bs b ver _ off len, some ys =>
    match H[b]? with
    | some (.rows s rs v) =>
      if off = 0 ∧ v = ver ∧ s = sz ∧ 0 < sz ∧ len ≤ rs.length ∧ (len + ys.length) * (by_ + 1) ≤ room then
        if ys.length = 0 then some { v := .bs b ver sz off len }
        else some { v := .bs b (ver + 1) sz 0 (len + ys.length), d := .set b (.rows s (rs.take len ++ ys) (ver + 1)) }
      else none
    | _ => none
  | _, _ => none

def findA (ag : Bool) (ks : List KK) (k : Av) : List (Av × Av) → Nat → Option (Option (Nat × Av))
  | [], _ => some none
  | (k', v) :: kvs, i => match eqVals ag ks k k' with
    | some true => some (some (i, v))
    | some false => findA ag ks k kvs (i + 1)
    | none => none

/-- The character at a place of a string, and its width. -/
def decL (l : List UInt8) (pos : Nat) : Nat × Nat := Utf8.decode ⟨l.toArray⟩ pos

def evalOp (o : AOp) (s : St) : Option Lab :=
  let e := s.e
  let pure (a : Option Av) : Option Lab := a.map fun a => { v := a }
  match o with
  | .mov x => pure (some (x.ev e))
  | .pick c a b => match c.ev e with
    | .bool t => pure (some (if t then a.ev e else b.ev e))
    | _ => none
  | .alloc z => some { v := .ptr s.H.length 0 0 0, d := .push (.rows z.length [z] 0) }
  | .box n x => match cellsA (x.ev e) with
    | some cs => if cs.length = n then some { v := .ptr s.H.length 0 0 0, d := .push (.rows n [cs] 0) } else none
    | none => none
  | .build z ps => pure ((fillA e z ps).map .agg)
  | .lit sz z len ps => if z.length = sz ∧ len * sz ≤ 16777216 ∧ len ≤ 16777216 then pure (((rowsA e sz (List.replicate len z) ps).bind stripR).map fun rs => .sl rs .full) else none
  | .litB sz z len ps => if z.length = sz ∧ len * sz ≤ 16777216 ∧ len ≤ 16777216 then (rowsA e sz (List.replicate len z) ps).map fun rs => { v := .bs s.H.length 0 sz 0 len, d := .push (.rows sz rs 0) } else none
  | .ld n a => match a.ev e with
    | .ptr b ver row off => match rowsOf s.H b ver with
      | some (_, rs) => match rs[row]? with
        | some r => pure ((window r off (width n)).bind (ofCells n))
        | none => none
      | none => none
    | .cptr r off => pure ((window r off (width n)).bind (ofCells n))
    | _ => none
  | .st n a x => match a.ev e, cellsA (x.ev e) with
    | .ptr b ver row off, some cs => match s.H[b]? with
      | some (.rows sz rs v) => match rs[row]? with
        | some r => if v = ver ∧ cs.length = n ∧ off + n ≤ r.length then some { v := .top, d := .set b (.rows sz (rs.set row (splice r off cs)) v) } else none
        | none => none
      | _ => none
    | _, _ => none
  | .nck x => match x.ev e with
    | .ptr b ver row off => pure (some (.ptr b ver row off))
    | .cptr r off => pure (some (.cptr r off))
    | _ => none
  | .bin op x y => pure (binA op (x.ev e) (y.ev e))
  | .binB neg x y => pure (binBA neg (x.ev e) (y.ev e))
  | .binN neg x y => pure (binNA neg (x.ev e) (y.ev e))
  | .eqA neg ks x y => pure ((eqVals true ks (x.ev e) (y.ev e)).map fun b => .bool (b != neg))
  | .un op x => pure (unA op (x.ev e))
  | .cvt k x => match x.ev e with
    | .int _ n => pure (some (.int k (k.wrap n)))
    | _ => none
  | .s2b x => match x.ev e with
    | .str t => if t.length ≤ room then pure (some (.sl (t.map fun c => [.int .u8 c.toNat]) .any)) else none
    | _ => none
  | .fnc f caps => pure (some (.fn f (caps.map (·.ev e))))
  | .mkmap => some { v := .mp s.H.length, d := .push (.mapo []) }
  | .mkS sz by_ z l c => match l.ev e, c.ev e with
    | .int _ l, .int _ c => if z.length = sz ∧ 0 ≤ l ∧ l ≤ c ∧ c.toNat ≤ maxL ∧ c.toNat * by_ ≤ room then
        some { v := .bs s.H.length 0 sz 0 l.toNat, d := .push (.rows sz (List.replicate l.toNat z) 0) } else none
    | _, _ => none
  | .slc sz x lo hi mx => if fitA sz (x.ev e) = true then pure (slcA e (x.ev e) lo hi mx) else none
  | .fad off x => match x.ev e with
    | .ptr b ver row o => pure (some (.ptr b ver row (o + off)))
    | .cptr r o => pure (some (.cptr r (o + off)))
    | _ => none
  | .fld n off x => match x.ev e with
    | .agg cs => pure ((window cs off (width n)).bind (ofCells n))
    | _ => none
  | .ixs sz x i => match x.ev e, i.ev e with
    | .sl xs _, .int _ i => if 0 ≤ i ∧ i < xs.length ∧ wide sz xs = true then (match xs[i.toNat]? with | some r => pure (some (.cptr r 0)) | none => none) else none
    | .bs b ver s' off len, .int _ i => if 0 ≤ i ∧ i < len ∧ s' = sz then pure (some (.ptr b ver (off + i.toNat) 0)) else none
    | _, _ => none
  | .ixa len sz x i => match x.ev e, i.ev e with
    | .ptr b ver row o, .int _ i => if 0 ≤ i ∧ i < len then pure (some (.ptr b ver row (o + i.toNat * sz))) else none
    | .cptr r o, .int _ i => if 0 ≤ i ∧ i < len then pure (some (.cptr r (o + i.toNat * sz))) else none
    | _, _ => none
  | .ixv len n sz x i => match x.ev e, i.ev e with
    | .agg cs, .int _ i => if 0 ≤ i ∧ i < len then pure ((window cs (i.toNat * sz) (width n)).bind (ofCells n)) else none
    | _, _ => none
  | .ixb x i => match x.ev e, i.ev e with
    | .str l, .int _ i => if 0 ≤ i then (match l[i.toNat]? with | some c => pure (some (.int .u8 c.toNat)) | none => none) else none
    | _, _ => none
  | .look ag ks z ok m k => match mapOf s.H (m.ev e) with
    | some kvs => if keyFit ag ks (k.ev e) = true then match findA ag ks (k.ev e) kvs 0 with
      | some (some (_, v)) => pure (some (if ok then .tup [v, .bool true] else v))
      | some none => pure (some (if ok then .tup [z, .bool false] else z))
      | none => none
      else none
    | none => none
  | .mset ag ks m k v => match m.ev e with
    | .mp b => match s.H[b]? with
      | some (.mapo kvs) => if keyFit ag ks (k.ev e) = true then match findA ag ks (k.ev e) kvs 0 with
        | some (some (i, _)) => some { v := .top, d := .set b (.mapo (kvs.set i (k.ev e, v.ev e))) }
        | some none => if kvs.length < maxL then some { v := .top, d := .set b (.mapo (kvs ++ [(k.ev e, v.ev e)])) } else none
        | none => none
        else none
      | _ => none
    | _ => none
  | .ext x i => match x.ev e with
    | .tup vs => pure vs[i]?
    | _ => none
  | .call .. => none
  | .calld .. => none
  | .rng x => match x.ev e with
    | .str t => some { v := .ptr s.H.length 0 0 0, d := .push (.siter t 0) }
    | _ => none
  | .nxt x => match x.ev e with
    | .ptr b 0 0 0 => match s.H[b]? with
      | some (.siter t pos) => if pos < t.length then some { v := .tup [.bool true, .int .i64 pos, .int .i32 (decL t pos).1], d := .set b (.siter t (pos + (decL t pos).2)) } else some { v := .tup [.bool false] }
      | _ => none
    | _ => none
  | .len x => match x.ev e with
    | .sl xs _ => pure (some (.int .i64 xs.length))
    | .bs _ _ _ _ len => pure (some (.int .i64 len))
    | .str l => pure (some (.int .i64 l.length))
    | _ => none
  | .lenM x => match mapOf s.H (x.ev e) with
    | some kvs => pure (some (.int .i64 kvs.length))
    | none => none
  | .cap x => match x.ev e with
    | .sl xs .full => pure (some (.int .i64 xs.length))
    | .sl xs .nil => pure (some (.int .i64 xs.length))
    | _ => none
  | .app sz by_ x y => appA s.H s.T sz by_ (x.ev e) (y.ev e)
  | .appB sz by_ x y => appBA s.H sz by_ (x.ev e) (y.ev e)
  | .copy sz x y => match x.ev e, newsOf s.H sz (y.ev e) with
    | .bs b ver _ off len, some ys => match s.H[b]? with
      | some (.rows s' rs v) => if v = ver ∧ s' = sz ∧ off + len ≤ rs.length then
          some { v := .int .i64 (min ys.length len : Nat), d := .set b (.rows s' (rs.take off ++ ys.take len ++ rs.drop (off + min ys.length len)) v) } else none
      | _ => none
    | .sl [] _, some _ => pure (some (.int .i64 0))
    | _, _ => none
  | .min x y => match x.ev e, y.ev e with
    | .int k a, .int k' b => if k = k' then pure (some (.int k (if b < a then b else a))) else none
    | _, _ => none
  | .max x y => match x.ev e, y.ev e with
    | .int k a, .int k' b => if k = k' then pure (some (.int k (if b > a then b else a))) else none
    | _, _ => none
  | _ => none

end Go.Am

namespace Go.Am
open Go

/-- Constants of one cell. -/
def avC : Value → Option Av
  | .int k n => if k.min ≤ n ∧ n ≤ k.max then some (.int k n) else none
  | .bool b => some (.bool b)
  | .string s => if s.size ≤ maxL then some (.str s.data.toList) else none
  | .pointer none => some .nilptr
  | .slice none 0 0 => some (.sl [] .nil)
  | .nilFunc => some .nilfn
  | .nilIface => some .nilif
  | .map none => some .top
  | _ => none

def avV : Value → Option Av
  | .agg cs => (cs.toList.mapM avC).map .agg
  | v => avC v

section
variable (P : Program) (G : Nat → Option (List Av)) (B : Nat → Bool)

def odC : Operand → Option Od
  | .tmp t => some (.t t)
  | .const v => (avV v).map .c
  | .global g => (G g).map fun cs => .c (.cptr cs 0)
  | .func f => some (.c (.fn f []))

def odO : Option Operand → Option (Option Od)
  | none => some none
  | some o => (odC G o).map some

def szT (t : TypeId) : Option Nat := (P.info? t).map (·.size)
def byT (t : TypeId) : Option Nat := (P.info? t).map (·.bytes)

/-- The cells of a zero value. -/
def zeroC (t : TypeId) : Option (List Av) := do
  let i ← P.info? t
  let z ← i.zero
  z.cells.toList.mapM avC

/-- How many cells a load takes: a struct's or an array's, or one. -/
def aggW (t : TypeId) : Option (Option Nat) :=
  match P.underlying t with
  | some (.struct _) => (szT P t).map some
  | some (.array _ _) => (szT P t).map some
  | some _ => some none
  | none => none

def flatFs (g : TypeId → Option (List KK)) : List Field → Nat → Option (List KK)
  | [], _ => some []
  | f :: fs, off =>
    if f.name ≠ "_" ∧ f.offset = off then
      match g f.type, aggW P f.type with
      | some ks, some wd => if width wd = ks.length then (flatFs g fs (off + ks.length)).map (ks ++ ·) else none
      | _, _ => none
    else none

/-- The kinds of the cells of a type that is made of numbers, bools and strings alone. -/
def flatT : Nat → TypeId → Option (List KK)
  | 0, _ => none
  | d + 1, t =>
    match P.underlying t with
    | some (.int k) => some [.i k]
    | some .bool => some [.b]
    | some .string => some [.s]
    | some (.struct fs) => if P.stoodInHeld t then none else flatFs P (flatT d) fs.toList 0
    | _ => none

/-- The kinds of the cells of a type that is compared; whether its values are structs. -/
def keyT (t : TypeId) : Option (Bool × List KK) := do
  let ks ← flatT P 9 t
  let wd ← aggW P t
  if width wd = ks.length ∧ P.eqGuardType P.depth t = false then some (wd.isSome, ks) else none

def odsC (xs : Array Operand) : Option (List Od) := xs.toList.mapM (odC G)

/-- An append, to data or (`b`) to a block. -/
def appC (b : Bool) (e : TypeId) (x y : Operand) : Option AOp := do
  let n ← szT P e
  let k ← byT P e
  let z ← zeroC P e
  if z.length = n then (if b then return .appB n k (← odC G x) (← odC G y) else return .app n k (← odC G x) (← odC G y)) else none

def opC (dst : Option Nat) (o : Op) : Option AOp :=
  match o with
  | .move x => return .mov (← odC G x)
  | .assign x => return .mov (← odC G x)
  | .pick c a b => return .pick (← odC G c) (← odC G a) (← odC G b)
  | .alloc t => do
    let z ← zeroC P t
    let n ← szT P t
    if z.length = n then some (.alloc z) else none
  | .box t x => return .box (← szT P t) (← odC G x)
  | .build t ps => do
    let z ← zeroC P t
    match P.underlying t with
    | some (.struct fs) => do
      let qs ← ps.toList.mapM fun (i, x) => do
        let f ← fs[i]?
        pure (f.offset, ← szT P f.type, ← odC G x)
      let _ ← fs.toList.mapM fun f => szT P f.type
      pure (.build z qs)
    | some (.array _ e) => do
      let n ← szT P e
      let qs ← ps.toList.mapM fun (i, x) => do pure (i * n, n, ← odC G x)
      pure (.build z qs)
    | _ => none
  | .buildSlice t len ps => do
    match P.underlying t with
    | some (.slice e) => do
      let sz ← szT P e
      let z ← zeroC P e
      let qs ← ps.toList.mapM fun (i, x) => do pure (i, ← odC G x)
      if B (dst.getD 0) then pure (.litB sz z len qs) else pure (.lit sz z len qs)
    | _ => none
  | .load t a => return .ld (← aggW P t) (← odC G a)
  | .store t a x => return .st (← szT P t) (← odC G a) (← odC G x)
  | .nilCheck x => return .nck (← odC G x)
  | .binOp op t x y _ => do
    let a ← odC G x
    let b ← odC G y
    match P.underlying t with
    | some (.int _) => some (.bin op a b)
    | some .string => some (.bin op a b)
    | some .bool => match op with
      | .eql => some (.binB false a b)
      | .neq => some (.binB true a b)
      | _ => none
    | some (.slice _) => match op with
      | .eql => some (.binN false a b)
      | .neq => some (.binN true a b)
      | _ => none
    | some (.pointer _) => match op with
      | .eql => some (.binN false a b)
      | .neq => some (.binN true a b)
      | _ => none
    | some (.struct _) => do
      let (ag, ks) ← keyT P t
      if ag then
        match op with
        | .eql => some (.eqA false ks a b)
        | .neq => some (.eqA true ks a b)
        | _ => none
      else none
    | _ => none
  | .unOp op _ x => return .un op (← odC G x)
  | .convert s d x => do
    let a ← odC G x
    match P.underlying s, P.underlying d with
    | some (.int _), some (.int k) => some (.cvt k a)
    | some .string, some .string => some (.mov a)
    | some .string, some (.slice e) => match P.underlying e with
      | some (.int .u8) => some (.s2b a)
      | _ => none
    | _, _ => none
  | .makeFunc (.func f) first caps => if first.size = 0 then return .fnc f (← odsC G caps) else none
  | .makeMap _ none => some .mkmap
  | .makeSlice t l c => do
    match P.underlying t with
    | some (.slice e) => return .mkS (← szT P e) (← byT P e) (← zeroC P e) (← odC G l) (← odC G c)
    | _ => none
  | .slice t x lo hi mx => do
    let a ← odC G x
    let l ← odO G lo
    let h ← odO G hi
    let m ← odO G mx
    if mx.isSome && hi.isNone then none else
    match P.underlying t with
    | some (.slice e) => return .slc (← szT P e) a l h m
    | some .string => some (.slc 0 a l h m)
    | _ => none
  | .fieldAddr t x f => do
    match P.underlying t with
    | some (.struct fs) => do
      let fl ← fs[f]?
      let n ← szT P fl.type
      if n = 0 then none else return .fad fl.offset (← odC G x)
    | _ => none
  | .field t x f => do
    match P.underlying t with
    | some (.struct fs) => do
      let fl ← fs[f]?
      return .fld (← aggW P fl.type) fl.offset (← odC G x)
    | _ => none
  | .indexAddr t x i => do
    match P.underlying t with
    | some (.slice e) => return .ixs (← szT P e) (← odC G x) (← odC G i)
    | some (.array n e) => return .ixa n (← szT P e) (← odC G x) (← odC G i)
    | _ => none
  | .index t x i => do
    match P.underlying t with
    | some (.array n e) => return .ixv n (← aggW P e) (← szT P e) (← odC G x) (← odC G i)
    | some .string => return .ixb (← odC G x) (← odC G i)
    | _ => none
  | .lookup t x i ok => do
    match P.underlying t with
    | some (.map k e) => do
      let inf ← P.info? e
      let z ← inf.zero
      let (ag, ks) ← keyT P k
      return .look ag ks (← avV z) ok (← odC G x) (← odC G i)
    | _ => none
  | .mapUpdate t m k v => do
    match P.underlying t with
    | some (.map kt _) =>
      let (ag, ks) ← keyT P kt
      return .mset ag ks (← odC G m) (← odC G k) (← odC G v)
    | _ => none
  | .insert t m k v => do
    match P.underlying t with
    | some (.map kt _) =>
      let (ag, ks) ← keyT P kt
      return .mset ag ks (← odC G m) (← odC G k) (← odC G v)
    | _ => none
  | .extract x i => return .ext (← odC G x) i
  | .call c =>
    match c.callee with
    | .value (.func f) => return .call f (← odsC G c.args)
    | .value x => return .calld (← odC G x) (← odsC G c.args)
    | .invoke _ _ => none
    | .builtin b =>
      match b, c.args.toList, c.argTypes.toList with
      | .len, [x], [t] => do
        match P.underlying t with
        | some (.slice _) => return .len (← odC G x)
        | some .string => return .len (← odC G x)
        | some (.map _ _) => return .lenM (← odC G x)
        | _ => none
      | .cap, [x], [t] => do
        match P.underlying t with
        | some (.slice _) => return .cap (← odC G x)
        | _ => none
      | .append, [x, y], [t, u] => do
        match P.underlying t, P.underlying u with
        | some (.slice e), some (.slice _) =>
          appC P G (B (dst.getD 0)) e x y
        | some (.slice e), some .string =>
          appC P G (B (dst.getD 0)) e x y
        | _, _ => none
      | .copy, [x, y], [t, _] => do
        match P.underlying t with
        | some (.slice e) => return .copy (← szT P e) (← odC G x) (← odC G y)
        | _ => none
      | .min, [x, y], _ => return .min (← odC G x) (← odC G y)
      | .max, [x, y], _ => return .max (← odC G x) (← odC G y)
      | _, _, _ => none
  | .range t x => do
    match P.underlying t with
    | some .string => return .rng (← odC G x)
    | _ => none
  | .next x true => return .nxt (← odC G x)
  | _ => none

/-- The kinds that an operation's operands must have. -/
def kdC (o : Op) : Option (List (KD × Od)) :=
  match o with
  | .slice t x _ _ _ => match P.underlying t with
    | some .string => (odC G x).map fun a => [(.st, a)]
    | _ => (odC G x).map fun a => [(.sl, a)]
  | .convert s _ x => match P.underlying s with
    | some .string => (odC G x).map fun a => [(.st, a)]
    | _ => some []
  | .binOp _ t x y _ => match P.underlying t with
    | some (.slice _) => do pure [(.sl, ← odC G x), (.sl, ← odC G y)]
    | some (.pointer _) => do pure [(.pt, ← odC G x), (.pt, ← odC G y)]
    | _ => some []
  | .call c => match c.callee, c.args.toList, c.argTypes.toList with
    | .builtin .len, [x], [t] => match P.underlying t with
      | some .string => (odC G x).map fun a => [(.st, a)]
      | some (.slice _) => (odC G x).map fun a => [(.sl, a)]
      | _ => some []
    | _, _, _ => some []
  | _ => some []

/-- The slot that a guard looks at. -/
def guardC (ops : Array Oper) (o : Oper) : Option (Option (Nat × Bool)) :=
  match o.guard with
  | none => some none
  | some (j, want) => match (ops[j]?).bind (·.dst) with
    | some d => some (some (d, want))
    | none => none

def rowC (ops : Array Oper) (o : Oper) : AR :=
  match opC P G B o.dst o.op, kdC P G o.op, guardC ops o with
  | some op, some ks, some g => { d := o.dst, o := op, k := ks, g := g }
  | _, _, _ => { d := o.dst, o := .bad }

/-- The rows that a row comes behind in every order. -/
def aftC (o : Oper) : List Nat := (o.after.toList.filter fun e => Region.binds .any e).map (·.on)

/-- Every destination lies in the frame; each guard names an earlier row that puts its answer somewhere. -/
def dstOk (N : Nat) (o : Oper) : Bool := match o.dst with | some d => d < N | none => true

def codeC (N : Nat) : Code → AC
  | .skip => .skip
  | .region _ ops d => if ops.all (dstOk N) then .reg (if d then some (ops.toList.map aftC) else none) (ops.toList.map (rowC P G B ops)) else .bad
  | .seq a b => .seq none (codeC N a) (codeC N b)
  | .cond c a b => match odC G c with
    | some c => .cond c (codeC N a) (codeC N b)
    | none => .bad
  | .block i a => .block i (codeC N a)
  | .loop a => .loop none (codeC N a)
  | .rangeFunc f ps a c => match odC G f with
    | some f => if ps.all (· < N) then .rfn none f ps.toList (codeC N a) (codeC N c) else .bad
    | none => .bad
  | .exit i => .exit i
  | .ret => .ret
  | _ => .bad
end

end Go.Am

namespace Go.Am
open Go

/-- The program; the cells of its variables that are never written. -/
structure Glo where
  P : Program
  g : Nat → Option (List Av)

instance : CoeFun Glo (fun _ => Nat → Option (List Av)) := ⟨Glo.g⟩
instance : CoeOut Glo (Nat → Option (List Av)) := ⟨Glo.g⟩

def RelE (V : View) (tmps : Array Value) (e : Env) : Prop := ∀ k, RelV V (tmps.getD k undef) (getE k e)

theorem RelE.mono {V V' : View} (h : V.Le V') {tmps : Array Value} {e : Env} (k : RelE V tmps e) : RelE V' tmps e := fun i => (k i).mono h

/-- A jump as the loaded code has it. -/
def xitCode : Xit → Option Code
  | .nrm => none
  | .ex id => some (.exit id)
  | .ret => some .ret

def StOk (r : Loop) (st : Nat) (pend : Option Xit) : Prop :=
  match st with
  | 0 => r.state = .ready ∧ r.pending = pend.bind xitCode
  | 1 => r.state = .busy
  | 2 => r.state = .done ∧ r.pending = pend.bind xitCode
  | _ => r.state = .exhausted

/-- The concrete record of a range over a function. -/
structure LoopOk (G : Glo) (V : View) (r : Loop) (ps : List Nat) (e : Env) (A Bd : AC) (st : Nat) (pend : Option Xit) : Prop where
  prm : r.params.toList = ps
  low : ∀ p ∈ ps, p < r.tmps.size
  code : ∃ B, codeC G.P G B r.tmps.size r.assign = A.erase ∧ codeC G.P G B r.tmps.size r.body = Bd.erase
  env : RelE V r.tmps e
  st : StOk r st pend

theorem LoopOk.mono {G : Glo} {V V' : View} (h : V.Le V') {r : Loop} {ps : List Nat} {e : Env} {A Bd : AC} {st : Nat} {pend : Option Xit} (k : LoopOk G V r ps e A Bd st pend) : LoopOk G V' r ps e A Bd st pend :=
  ⟨k.prm, k.low, k.code, k.env.mono h, k.st⟩

theorem cell?_of_heap {w w' : World} {a : Addr} (h : w'.heap[a.block]? = w.heap[a.block]?) : w'.cell? a = w.cell? a := by
  unfold World.cell?; rw [h]

/-- Concrete cells hold abstract rows. -/
def RowsIn (V : View) (cells : Array Value) (sz : Nat) (rs : List (List Av)) : Prop :=
  (∀ r ∈ rs, r.length = sz) ∧ ∀ (i j : Nat) (r : List Av) (a : Av), rs[i]? = some r → r[j]? = some a →
    ∃ v, (cells[i * sz + j]? : Option Value) = some v ∧ v.oneCell' = true ∧ RelV V v a

theorem RowsIn.mono {V V' : View} (h : V.Le V') {cells : Array Value} {sz : Nat} {rs : List (List Av)} (k : RowsIn V cells sz rs) : RowsIn V' cells sz rs :=
  ⟨k.1, fun i j r a hr ha => let ⟨v, h1, h2, h3⟩ := k.2 i j r a hr ha; ⟨v, h1, h2, h3.mono h⟩⟩

/-- Rows as data alone. -/
theorem RowsIn.strip {V : View} {cells : Array Value} {sz : Nat} {rs rs' : List (List Av)} (h : RowsIn V cells sz rs) (hr : stripR rs = some rs') : RowsIn V.pu cells sz rs' := by
  obtain ⟨q1, q2⟩ := stripR_get hr
  have key : ∀ (i : Nat) r', rs'[i]? = some r' → ∃ r, rs[i]? = some r ∧ stripL r = some r' := by
    intro i r' hi
    have hlt : i < rs.length := by rw [← q1]; exact (List.getElem?_eq_some_iff.1 hi).1
    exact ⟨rs[i], List.getElem?_eq_getElem hlt, q2 i _ _ (List.getElem?_eq_getElem hlt) hi⟩
  refine ⟨fun r' hm => ?_, fun i j r' a hr' ha => ?_⟩
  · obtain ⟨i, hi⟩ := List.getElem?_of_mem hm
    obtain ⟨r, h1, h2⟩ := key i r' hi
    rw [(stripL_get h2).1]
    exact h.1 r (List.mem_of_getElem? h1)
  · obtain ⟨r, h1, h2⟩ := key i r' hr'
    obtain ⟨g1, g2⟩ := stripL_get h2
    have hlt : j < r.length := by rw [← g1]; exact (List.getElem?_eq_some_iff.1 ha).1
    obtain ⟨v, e1, e2, e3⟩ := h.2 i j r r[j] h1 (List.getElem?_eq_getElem hlt)
    exact ⟨v, e1, e2, strip1_sound e3 (g2 j _ a (List.getElem?_eq_getElem hlt) ha)⟩

/-- The entries of a map. -/
def MapIn (V : View) (es : Array MapEntry) (kvs : List (Av × Av)) : Prop :=
  (es.size = kvs.length ∧ kvs.length ≤ maxL) ∧ ∀ (i : Nat) (e : MapEntry) (p : Av × Av), (es[i]? : Option MapEntry) = some e → kvs[i]? = some p → RelV V e.key p.1 ∧ RelV V e.val p.2

theorem MapIn.mono {V V' : View} (h : V.Le V') {es : Array MapEntry} {kvs : List (Av × Av)} (k : MapIn V es kvs) : MapIn V' es kvs :=
  ⟨k.1, fun i e p he hp => ⟨(k.2 i e p he hp).1.mono h, (k.2 i e p he hp).2.mono h⟩⟩

def BlkOk (G : Glo) (w : World) (V : View) (b : Nat) : AO → Prop
  | .rows sz rs ver => ∃ (c s : Nat) (cells : Array Value) (E : TypeId), V.blk b = some (c, sz, ver, s) ∧ w.heap[c]? = some (.cells cells E (0, 0)) ∧ cells.size = s ∧ RowsIn V cells sz rs ∧ ∀ o, V.rd c o = none
  | .froz sz rs ver => ∃ (c s : Nat) (cells : Array Value) (E : TypeId), V.blk b = some (c, sz, ver, s) ∧ w.heap[c]? = some (.cells cells E (0, 0)) ∧ cells.size = s ∧ RowsIn V cells sz rs ∧ ∀ o v, (cells[o]? : Option Value) = some v → V.rd c o = some v
  | .mapo kvs => ∃ (c n s : Nat) (es : Array MapEntry) (clock : Nat), V.blk b = some (c, 0, n, s) ∧ w.heap[c]? = some (.map es clock) ∧ MapIn V es kvs ∧ ∀ o, V.rd c o = none
  | .siter l pos => ∃ (c s : Nat) (x : ByteArray), V.blk b = some (c, 0, 0, s) ∧ w.heap[c]? = some (.stringIter x pos) ∧ x.data.toList = l ∧ l.length ≤ maxL ∧ ∀ o, V.rd c o = none
  | .lrec ps e A Bd st pend => ∃ (c s : Nat) (r : Loop), V.blk b = some (c, 0, 0, s) ∧ w.heap[c]? = some (.loop r) ∧ LoopOk G V r ps e A Bd st pend ∧ ∀ o, V.rd c o = none
  | .dead => True

def TokOk (w : World) (V : View) (i n : Nat) : Prop :=
  ∃ (c h s : Nat) (cells : Array Value) (E : TypeId), V.own i = some (n, c, h, s) ∧ w.heap[c]? = some (.cells cells E (0, 0)) ∧ cells.size = s ∧ h ≤ s ∧ ∀ o, h ≤ o → V.rd c o = none

/-- A map's entries as one value. -/
def packE (es : List MapEntry) : Value := .tuple (es.map fun e => Value.tuple #[e.key, e.val]).toArray

/-- A cell that is no tuple. -/
def nt : Option Value → Option Value
  | some (.tuple _) => none
  | x => x

theorem nt_some {x : Option Value} {v : Value} (h : nt x = some v) : x = some v := by
  unfold nt at h
  split at h
  · cases h
  · exact h

theorem nt_one {v : Value} (h : v.oneCell' = true) : nt (some v) = some v := by
  cases v <;> first | rfl | simp [Value.oneCell'] at h

theorem nt_nt {x : Option Value} {v : Value} (h : nt x = some v) : nt (some v) = some v := by
  have := nt_some h
  subst this
  exact h

/-- What lies at an address: a cell; the entries of a map. -/
def seen' (w : World) (c o : Nat) : Option Value :=
  match w.heap[c]? with
  | some (.map es _) => if o = 0 then some (packE es.toList) else none
  | _ => nt (w.cell? ⟨c, o, none⟩)

theorem seen_of_heap {w w' : World} {c o : Nat} (h : w'.heap[c]? = w.heap[c]?) : seen' w' c o = seen' w c o := by
  unfold seen'
  rw [h]
  split
  · rfl
  · rw [cell?_of_heap (w := w) (w' := w') (a := ⟨c, o, none⟩) h]

theorem seen_cells {w : World} {c o : Nat} {cells : Array Value} {E : TypeId} {fz : Nat × Nat} (h : w.heap[c]? = some (.cells cells E fz)) : seen' w c o = nt (w.cell? ⟨c, o, none⟩) := by
  unfold seen'; rw [h]

theorem seen_cell {w : World} {c o : Nat} {v : Value} (h : seen' w c o = some v) (h1 : v.oneCell' = true) : w.cell? ⟨c, o, none⟩ = some v := by
  unfold seen' at h
  split at h
  · split at h
    · simp only [Option.some.injEq] at h
      subst h
      simp [packE, Value.oneCell'] at h1
    · cases h
  · exact nt_some h

theorem seen_lt {w : World} {c o : Nat} {v : Value} (h : seen' w c o = some v) : c < w.heap.size := by
  rcases Nat.lt_or_ge c w.heap.size with q | q
  · exact q
  · unfold seen' at h
    rw [Array.getElem?_eq_none q] at h
    exact World.block_lt_of_cell? w ⟨c, o, none⟩ (nt_some h)

structure Sim (G : Glo) (w : World) (V : View) (H : List AO) (T : List Nat) : Prop where
  rd : ∀ c o v, V.rd c o = some v → seen' w c o = some v
  blk : ∀ b o, H[b]? = some o → BlkOk G w V b o
  tok : ∀ i n, T[i]? = some n → TokOk w V i n
  inj : ∀ b b' c sz n s sz' n' s', V.blk b = some (c, sz, n, s) → V.blk b' = some (c, sz', n', s') → b = b'
  tinj : ∀ i i' c n h s n' h' s', V.own i = some (n, c, h, s) → V.own i' = some (n', c, h', s') → i = i'
  apart : ∀ b i c sz n s n' h' s', V.blk b = some (c, sz, n, s) → V.own i ≠ some (n', c, h', s')
  lt : ∀ b c sz n s, V.blk b = some (c, sz, n, s) → c < w.heap.size
  domB : ∀ b x, V.blk b = some x → b < H.length
  domT : ∀ i x, V.own i = some x → i < T.length
  glob : ∀ g cs, G g = some cs → ∀ (j : Nat) a, cs[j]? = some a → ∃ v, V.rd g j = some v ∧ v.oneCell' = true ∧ RelV V.pu v a

/-- The concrete blocks that the abstract heap and its tokens hold. -/
def Owned (V : View) (c : Nat) : Prop := (∃ b sz n s, V.blk b = some (c, sz, n, s)) ∨ ∃ i n h s, V.own i = some (n, c, h, s)

/-- What is kept from one world to a later one. -/
structure Keep (w : World) (V : View) (w' : World) (V' : View) : Prop where
  os : w'.os = w.os
  tape : w'.tape = w.tape
  output : w'.output = w.output
  size : w.heap.size ≤ w'.heap.size
  same : ∀ c, c < w.heap.size → ¬ Owned V c → w'.heap[c]? = w.heap[c]? ∧ ∀ o, V'.rd c o = V.rd c o
  owned : ∀ c, Owned V' c → Owned V c ∨ w.heap.size ≤ c

theorem Keep.refl (w : World) (V : View) : Keep w V w V := ⟨rfl, rfl, rfl, Nat.le_refl _, fun _ _ _ => ⟨rfl, fun _ => rfl⟩, fun _ h => .inl h⟩

theorem Keep.trans {w w1 w2 : World} {V V1 V2 : View} (h : Keep w V w1 V1) (k : Keep w1 V1 w2 V2) : Keep w V w2 V2 := by
  refine ⟨k.os.trans h.os, k.tape.trans h.tape, k.output.trans h.output, Nat.le_trans h.size k.size, ?_, ?_⟩
  · intro c hc ho
    obtain ⟨a1, a2⟩ := h.same c hc ho
    have ho1 : ¬ Owned V1 c := fun q => by
      rcases h.owned c q with q | q
      · exact ho q
      · omega
    obtain ⟨b1, b2⟩ := k.same c (Nat.lt_of_lt_of_le hc h.size) ho1
    exact ⟨b1.trans a1, fun o => (b2 o).trans (a2 o)⟩
  · intro c hc
    rcases k.owned c hc with q | q
    · rcases h.owned c q with q | q
      · exact .inl q
      · exact .inr q
    · right; have := h.size; omega

/-- A block that has not turned. -/
theorem BlkOk.keep {G : Glo} {w w' : World} {V V' : View} {b : Nat} {o : AO} (h : BlkOk G w V b o) (hle : V.Le V') (hb : V'.blk b = V.blk b)
    (hw : ∀ c sz n s, V.blk b = some (c, sz, n, s) → w'.heap[c]? = w.heap[c]? ∧ ∀ x, V.rd c x = none → V'.rd c x = none) : BlkOk G w' V' b o := by
  cases o with
  | rows sz rs ver =>
    obtain ⟨c, s, cells, E, h1, h2, h3, h4, h5⟩ := h
    obtain ⟨a1, a2⟩ := hw _ _ _ _ h1
    exact ⟨c, s, cells, E, hb.trans h1, a1.trans h2, h3, h4.mono hle, fun x => a2 _ (h5 x)⟩
  | froz sz rs ver =>
    obtain ⟨c, s, cells, E, h1, h2, h3, h4, h5⟩ := h
    obtain ⟨a1, a2⟩ := hw _ _ _ _ h1
    exact ⟨c, s, cells, E, hb.trans h1, a1.trans h2, h3, h4.mono hle, fun x v hx => hle.rd _ _ _ (h5 x v hx)⟩
  | mapo kvs =>
    obtain ⟨c, n, s, es, clock, h1, h2, h4, h5⟩ := h
    obtain ⟨a1, a2⟩ := hw _ _ _ _ h1
    exact ⟨c, n, s, es, clock, hb.trans h1, a1.trans h2, h4.mono hle, fun x => a2 _ (h5 x)⟩
  | siter l pos =>
    obtain ⟨c, s, x, h1, h2, h4, h6, h5⟩ := h
    obtain ⟨a1, a2⟩ := hw _ _ _ _ h1
    exact ⟨c, s, x, hb.trans h1, a1.trans h2, h4, h6, fun y => a2 _ (h5 y)⟩
  | lrec ps e A Bd st pend =>
    obtain ⟨c, s, r, h1, h2, h4, h5⟩ := h
    obtain ⟨a1, a2⟩ := hw _ _ _ _ h1
    exact ⟨c, s, r, hb.trans h1, a1.trans h2, h4.mono hle, fun y => a2 _ (h5 y)⟩
  | dead => trivial

theorem TokOk.keep {w w' : World} {V V' : View} {i n : Nat} (h : TokOk w V i n) (hb : V'.own i = V.own i)
    (hw : ∀ n c h s, V.own i = some (n, c, h, s) → w'.heap[c]? = w.heap[c]? ∧ ∀ x, V.rd c x = none → V'.rd c x = none) : TokOk w' V' i n := by
  obtain ⟨c, hh, s, cells, E, h1, h2, h3, h4, h5⟩ := h
  obtain ⟨a1, a2⟩ := hw _ _ _ _ h1
  exact ⟨c, hh, s, cells, E, hb.trans h1, a1.trans h2, h3, h4, fun x hx => a2 _ (h5 x hx)⟩

theorem Sim.rd_lt {G : Glo} {w : World} {V : View} {H : List AO} {T : List Nat} (h : Sim G w V H T) {c o : Nat} {v : Value} (hr : V.rd c o = some v) : c < w.heap.size :=
  seen_lt (h.rd _ _ _ hr)

theorem Sim.rd_new {G : Glo} {w : World} {V : View} {H : List AO} {T : List Nat} (h : Sim G w V H T) {c : Nat} (hc : w.heap.size ≤ c) (o : Nat) : V.rd c o = none := by
  cases hr : V.rd c o with
  | none => rfl
  | some v => have := h.rd_lt hr; omega

theorem heap_lt {w : World} {c : Nat} {o : Obj} (h : w.heap[c]? = some o) : c < w.heap.size := by
  rcases Nat.lt_or_ge c w.heap.size with q | q
  · exact q
  · rw [Array.getElem?_eq_none q] at h; cases h

theorem Sim.olt {G : Glo} {w : World} {V : View} {H : List AO} {T : List Nat} (h : Sim G w V H T) {i n c hh s : Nat} (ho : V.own i = some (n, c, hh, s)) : c < w.heap.size := by
  have hi := h.domT _ _ ho
  obtain ⟨c', h', s', cells, E, h1, h2, _⟩ := h.tok i T[i] (List.getElem?_eq_getElem hi)
  rw [ho] at h1
  cases h1
  exact heap_lt h2

theorem Sim.owned_lt {G : Glo} {w : World} {V : View} {H : List AO} {T : List Nat} (h : Sim G w V H T) {c : Nat} (ho : Owned V c) : c < w.heap.size := by
  rcases ho with ⟨b, sz, n, s, hb⟩ | ⟨i, n, hh, s, hb⟩
  · exact h.lt _ _ _ _ _ hb
  · exact h.olt hb

/-- The world has another count of draws. -/
theorem Sim.heap {G : Glo} {w w' : World} {V : View} {H : List AO} {T : List Nat} (h : Sim G w V H T) (hw : w'.heap = w.heap) : Sim G w' V H T := by
  have hc : ∀ a, w'.cell? a = w.cell? a := fun a => by unfold World.cell?; rw [hw]
  refine ⟨fun c o v hr => by rw [seen_of_heap (w := w) (w' := w') (by rw [hw])]; exact h.rd _ _ _ hr, fun b o hb => (h.blk b o hb).keep (View.Le.refl V) rfl (fun _ _ _ _ _ => ⟨by rw [hw], fun _ q => q⟩),
    fun i n hi => (h.tok i n hi).keep rfl (fun _ _ _ _ _ => ⟨by rw [hw], fun _ q => q⟩), h.inj, h.tinj, h.apart, fun b c sz n s e => by rw [hw]; exact h.lt _ _ _ _ _ e, h.domB, h.domT, h.glob⟩

theorem Keep.heap {w w' : World} {V : View} (hw : w'.heap = w.heap) (h1 : w'.os = w.os) (h2 : w'.tape = w.tape) (h3 : w'.output = w.output) : Keep w V w' V :=
  ⟨h1, h2, h3, by rw [hw]; exact Nat.le_refl _, fun _ _ _ => ⟨by rw [hw], fun _ => rfl⟩, fun _ q => .inl q⟩

/-- One new block of the abstract heap over one new concrete block. -/
def View.push (V : View) (b c sz n s : Nat) : View := { V with blk := fun i => if i = b then some (c, sz, n, s) else V.blk i }

theorem Sim.push {G : Glo} {w : World} {V : View} {H : List AO} {T : List Nat} (h : Sim G w V H T) (o : AO) (x : Obj) (sz n s : Nat)
    (hb : BlkOk G (w.alloc x) (V.push H.length w.heap.size sz n s) H.length o) :
    V.Le (V.push H.length w.heap.size sz n s) ∧ Keep w V (w.alloc x) (V.push H.length w.heap.size sz n s) ∧ Sim G (w.alloc x) (V.push H.length w.heap.size sz n s) (H ++ [o]) T := by
  have hnew : ∀ i y, V.blk i = some y → i ≠ H.length := fun i y hi e => by have := h.domB _ _ hi; omega
  have hold : ∀ i y, V.blk i = some y → (V.push H.length w.heap.size sz n s).blk i = some y := fun i y hi => by
    simp only [View.push, if_neg (hnew i y hi)]; exact hi
  have hle : V.Le (V.push H.length w.heap.size sz n s) :=
    ⟨fun _ _ _ e => e, fun b c z m t e => ⟨c, m, t, hold _ _ e, Nat.le_refl _, fun _ => ⟨rfl, rfl⟩⟩, fun i m c hh t e => ⟨m, c, hh, t, e, Nat.le_refl _, fun _ => ⟨rfl, rfl, rfl⟩⟩⟩
  have hheap : ∀ c, c < w.heap.size → (w.alloc x).heap[c]? = w.heap[c]? := fun c hc => heap_alloc_old w x c hc
  have hinv : ∀ i c z m t, (V.push H.length w.heap.size sz n s).blk i = some (c, z, m, t) → (i = H.length ∧ c = w.heap.size) ∨ V.blk i = some (c, z, m, t) := by
    intro i c z m t e
    simp only [View.push] at e
    by_cases hi : i = H.length
    · rw [if_pos hi] at e; simp only [Option.some.injEq, Prod.mk.injEq] at e; exact .inl ⟨hi, e.1.symm⟩
    · rw [if_neg hi] at e; exact .inr e
  refine ⟨hle, ⟨rfl, rfl, rfl, by simp, fun c hc _ => ⟨hheap c hc, fun _ => rfl⟩, ?_⟩, ?_⟩
  · rintro c (⟨i, z, m, t, e⟩ | ⟨i, m, hh, t, e⟩)
    · rcases hinv _ _ _ _ _ e with ⟨_, e⟩ | e
      · right; omega
      · exact .inl (.inl ⟨_, _, _, _, e⟩)
    · exact .inl (.inr ⟨_, _, _, _, e⟩)
  · refine ⟨?_, ?_, ?_, ?_, h.tinj, ?_, ?_, ?_, h.domT, ?_⟩
    · intro c k v e
      have hlt : c < w.heap.size := h.rd_lt e
      rw [seen_of_heap (hheap c hlt)]
      exact h.rd _ _ _ e
    · intro b y hy
      rw [List.getElem?_append] at hy
      by_cases hlt : b < H.length
      · rw [if_pos hlt] at hy
        refine (h.blk b y hy).keep hle ?_ ?_
        · simp only [View.push]; rw [if_neg (by omega)]
        · intro c z m t e
          exact ⟨hheap c (h.lt _ _ _ _ _ e), fun _ q => q⟩
      · rw [if_neg hlt] at hy
        have hb0 : b = H.length := by
          rcases Nat.eq_zero_or_pos (b - H.length) with q | q
          · omega
          · rw [List.getElem?_eq_none (by simp; omega)] at hy; cases hy
        subst hb0
        simp at hy
        subst hy
        exact hb
    · intro i m hi
      refine (h.tok i m hi).keep rfl ?_
      intro m c hh t e
      exact ⟨hheap c (h.olt e), fun _ q => q⟩
    · intro b b' c z m t z' m' t' e e'
      rcases hinv _ _ _ _ _ e with ⟨q1, q2⟩ | q <;> rcases hinv _ _ _ _ _ e' with ⟨r1, r2⟩ | r
      · omega
      · have := h.lt _ _ _ _ _ r; omega
      · have := h.lt _ _ _ _ _ q; omega
      · exact h.inj _ _ _ _ _ _ _ _ _ q r
    · intro b i c z m t m' hh t' e e'
      rcases hinv _ _ _ _ _ e with ⟨q1, q2⟩ | q
      · have := h.olt e'; omega
      · exact h.apart _ _ _ _ _ _ _ _ _ q e'
    · intro b c z m t e
      rw [World.size_alloc]
      rcases hinv _ _ _ _ _ e with ⟨q1, q2⟩ | q
      · omega
      · have := h.lt _ _ _ _ _ q; omega
    · intro b y e
      obtain ⟨c, z, m, t⟩ := y
      rw [List.length_append, List.length_singleton]
      rcases hinv _ _ _ _ _ e with ⟨q1, q2⟩ | q
      · omega
      · have := h.domB _ _ q; omega
    · intro g cs hg j a ha
      obtain ⟨v, h1, h2, h3⟩ := h.glob g cs hg j a ha
      exact ⟨v, h1, h2, h3.mono hle.pu⟩

/-- A new concrete block whose first cells are never written again; a token may hold the cells behind them. -/
def View.data (V : View) (c : Nat) (cells : Array Value) (k : Nat) : View := { V with rd := fun c' o => if c' = c ∧ o < k then nt cells[o]? else V.rd c' o }

theorem Sim.dataF {G : Glo} {w : World} {V : View} {H : List AO} {T : List Nat} (h : Sim G w V H T) (cells : Array Value) (E : TypeId) (fz : Nat × Nat) (k : Nat) :
    V.Le (V.data w.heap.size cells k) ∧ Keep w V (w.alloc (.cells cells E fz)) (V.data w.heap.size cells k) ∧ Sim G (w.alloc (.cells cells E fz)) (V.data w.heap.size cells k) H T := by
  have hle : V.Le (V.data w.heap.size cells k) := by
    refine ⟨?_, fun b c z m t e => ⟨c, m, t, e, Nat.le_refl _, fun _ => ⟨rfl, rfl⟩⟩, fun i m c hh t e => ⟨m, c, hh, t, e, Nat.le_refl _, fun _ => ⟨rfl, rfl, rfl⟩⟩⟩
    intro c o v e
    have := h.rd_lt e
    simp only [View.data]
    rw [if_neg (by omega)]
    exact e
  have hheap : ∀ c, c < w.heap.size → (w.alloc (.cells cells E fz)).heap[c]? = w.heap[c]? := fun c hc => heap_alloc_old w _ c hc
  have hsame : ∀ c o, c < w.heap.size → (V.data w.heap.size cells k).rd c o = V.rd c o := by
    intro c o hc
    simp only [View.data]
    rw [if_neg (by omega)]
  refine ⟨hle, ⟨rfl, rfl, rfl, by simp, fun c hc _ => ⟨hheap c hc, fun o => hsame c o hc⟩, fun c hc => .inl hc⟩, ?_⟩
  refine ⟨?_, ?_, ?_, h.inj, h.tinj, h.apart, ?_, h.domB, h.domT, ?_⟩
  · intro c o v e
    simp only [View.data] at e
    by_cases hc : c = w.heap.size ∧ o < k
    · rw [if_pos hc] at e
      obtain ⟨rfl, _⟩ := hc
      rw [seen_cells (heap_alloc_new w _)]
      simp only [World.cell?, heap_alloc_new w (.cells cells E fz)]
      exact e
    · rw [if_neg hc] at e
      have hlt := h.rd_lt e
      rw [seen_of_heap (hheap c hlt)]
      exact h.rd _ _ _ e
  · intro b y hy
    refine (h.blk b y hy).keep hle rfl ?_
    intro c z m t e
    have hlt := h.lt _ _ _ _ _ e
    exact ⟨hheap c hlt, fun x q => (hsame c x hlt).trans q⟩
  · intro i m hi
    refine (h.tok i m hi).keep rfl ?_
    intro m c hh t e
    have hlt := h.olt e
    exact ⟨hheap c hlt, fun x q => (hsame c x hlt).trans q⟩
  · intro b c z m t e
    rw [World.size_alloc]
    have := h.lt _ _ _ _ _ e
    omega
  · intro g cs hg j a ha
    obtain ⟨v, h1, h2, h3⟩ := h.glob g cs hg j a ha
    exact ⟨v, hle.rd _ _ _ h1, h2, h3.mono hle.pu⟩

theorem Sim.data {G : Glo} {w : World} {V : View} {H : List AO} {T : List Nat} (h : Sim G w V H T) (cells : Array Value) (E : TypeId) (k : Nat) :
    V.Le (V.data w.heap.size cells k) ∧ Keep w V (w.alloc (.cells cells E)) (V.data w.heap.size cells k) ∧ Sim G (w.alloc (.cells cells E)) (V.data w.heap.size cells k) H T :=
  h.dataF cells E (0, 0) k

/-- A block of the abstract heap lies elsewhere now, or holds something else. -/
def View.setBlk (V : View) (b c sz n s : Nat) : View := { V with blk := fun i => if i = b then some (c, sz, n, s) else V.blk i }

theorem Sim.turn {G : Glo} {w w' : World} {V : View} {H : List AO} {T : List Nat} (h : Sim G w V H T) {b c sz n s c' n' s' : Nat} {o' : AO}
    (hold : V.blk b = some (c, sz, n, s)) (hn : n ≤ n') (hnn : n = n' ∨ sz = 0 → c = c' ∧ s = s') (hc : c' = c ∨ c' = w.heap.size) (hlt : c' < w'.heap.size)
    (hsize : w.heap.size ≤ w'.heap.size) (hsame : ∀ k, k < w.heap.size → k ≠ c → w'.heap[k]? = w.heap[k]?) (hrd : ∀ o, V.rd c o = none)
    (hos : w'.os = w.os) (htape : w'.tape = w.tape) (hout : w'.output = w.output) (hok : BlkOk G w' (V.setBlk b c' sz n' s') b o') :
    V.Le (V.setBlk b c' sz n' s') ∧ Keep w V w' (V.setBlk b c' sz n' s') ∧ Sim G w' (V.setBlk b c' sz n' s') (H.set b o') T := by
  have hle : V.Le (V.setBlk b c' sz n' s') := by
    refine ⟨fun _ _ _ e => e, ?_, fun i m c hh t e => ⟨m, c, hh, t, e, Nat.le_refl _, fun _ => ⟨rfl, rfl, rfl⟩⟩⟩
    intro i k z m t e
    by_cases hi : i = b
    · subst hi
      rw [hold] at e
      cases e
      exact ⟨c', n', s', by simp [View.setBlk], hn, hnn⟩
    · exact ⟨k, m, t, by simp only [View.setBlk]; rw [if_neg hi]; exact e, Nat.le_refl _, fun _ => ⟨rfl, rfl⟩⟩
  have hinv : ∀ i k z m t, (V.setBlk b c' sz n' s').blk i = some (k, z, m, t) → (i = b ∧ k = c') ∨ (i ≠ b ∧ V.blk i = some (k, z, m, t)) := by
    intro i k z m t e
    simp only [View.setBlk] at e
    by_cases hi : i = b
    · rw [if_pos hi] at e; simp only [Option.some.injEq, Prod.mk.injEq] at e; exact .inl ⟨hi, e.1.symm⟩
    · rw [if_neg hi] at e; exact .inr ⟨hi, e⟩
  have hcl := h.lt _ _ _ _ _ hold
  refine ⟨hle, ⟨hos, htape, hout, hsize, ?_, ?_⟩, ?_⟩
  · intro k hk ho
    exact ⟨hsame k hk (fun e => ho (.inl ⟨b, sz, n, s, e ▸ hold⟩)), fun _ => rfl⟩
  · rintro k (⟨i, z, m, t, e⟩ | ⟨i, m, hh, t, e⟩)
    · rcases hinv _ _ _ _ _ e with ⟨_, e⟩ | ⟨_, e⟩
      · rcases hc with q | q
        · exact .inl (.inl ⟨b, sz, n, s, by rw [e, q]; exact hold⟩)
        · right; omega
      · exact .inl (.inl ⟨_, _, _, _, e⟩)
    · exact .inl (.inr ⟨_, _, _, _, e⟩)
  · refine ⟨?_, ?_, ?_, ?_, h.tinj, ?_, ?_, ?_, h.domT, ?_⟩
    · intro k x v e
      have e' : V.rd k x = some v := e
      have hk : k ≠ c := fun q => by rw [q, hrd] at e'; cases e'
      have hlt := h.rd_lt e'
      rw [seen_of_heap (hsame k hlt hk)]
      exact h.rd _ _ _ e'
    · intro i y hy
      rw [List.getElem?_set] at hy
      by_cases hi : b = i
      · subst hi
        rw [if_pos rfl] at hy
        have := h.domB _ _ hold
        rw [if_pos this] at hy
        cases hy
        exact hok
      · rw [if_neg hi] at hy
        refine (h.blk i y hy).keep hle ?_ ?_
        · simp only [View.setBlk]; rw [if_neg (fun q => hi q.symm)]
        · intro k z m t e
          exact ⟨hsame k (h.lt _ _ _ _ _ e) (fun q => hi (h.inj _ _ _ _ _ _ _ _ _ hold (q ▸ e))), fun _ q => q⟩
    · intro i m hi
      refine (h.tok i m hi).keep rfl ?_
      intro m k hh t e
      exact ⟨hsame k (h.olt e) (fun q => h.apart _ _ _ _ _ _ _ _ _ hold (q ▸ e)), fun _ q => q⟩
    · intro i j k z m t z' m' t' e e'
      rcases hinv _ _ _ _ _ e with ⟨q1, q2⟩ | ⟨q0, q⟩ <;> rcases hinv _ _ _ _ _ e' with ⟨r1, r2⟩ | ⟨r0, r⟩
      · omega
      · exfalso
        rcases hc with hc | hc
        · exact r0 (h.inj _ _ _ _ _ _ _ _ _ r (by rw [q2, hc]; exact hold))
        · have := h.lt _ _ _ _ _ r; omega
      · exfalso
        rcases hc with hc | hc
        · exact q0 (h.inj _ _ _ _ _ _ _ _ _ q (by rw [r2, hc]; exact hold))
        · have := h.lt _ _ _ _ _ q; omega
      · exact h.inj _ _ _ _ _ _ _ _ _ q r
    · intro i j k z m t m' hh t' e e'
      rcases hinv _ _ _ _ _ e with ⟨q1, q2⟩ | ⟨_, q⟩
      · rcases hc with hc | hc
        · exact h.apart _ _ _ _ _ _ _ _ _ hold (by rw [← hc, ← q2]; exact e')
        · have := h.olt e'; omega
      · exact h.apart _ _ _ _ _ _ _ _ _ q e'
    · intro i k z m t e
      rcases hinv _ _ _ _ _ e with ⟨q1, q2⟩ | ⟨_, q⟩
      · omega
      · have := h.lt _ _ _ _ _ q; omega
    · intro i y e
      obtain ⟨k, z, m, t⟩ := y
      rw [List.length_set]
      rcases hinv _ _ _ _ _ e with ⟨q1, q2⟩ | ⟨_, q⟩
      · rw [q1]; exact h.domB _ _ hold
      · exact h.domB _ _ q
    · intro g cs hg j a ha
      obtain ⟨v, h1, h2, h3⟩ := h.glob g cs hg j a ha
      exact ⟨v, h1, h2, h3.mono hle.pu⟩

/-- A token holds the free cells of a block, from now on or anew. -/
def View.token (V : View) (rd' : Nat → Nat → Option Value) (i n c h s : Nat) : View := { V with rd := rd', own := fun j => if j = i then some (n, c, h, s) else V.own j }

theorem Sim.token {G : Glo} {w w' : World} {V : View} {H : List AO} {T T' : List Nat} (h : Sim G w V H T) {i n' c' h' s' : Nat} {rd' : Nat → Nat → Option Value}
    (hi : (i = T.length ∧ T' = T ++ [n']) ∨ ∃ n c hh s, V.own i = some (n, c, hh, s) ∧ n ≤ n' ∧ (n = n' → c = c' ∧ hh = h' ∧ s = s') ∧ T' = T.set i n')
    (hc : c' = w.heap.size ∨ ∃ n hh s, V.own i = some (n, c', hh, s))
    (hrd : ∀ c o v, V.rd c o = some v → rd' c o = some v) (hrd' : ∀ c o, c ≠ c' → rd' c o = V.rd c o) (hcell : ∀ o v, rd' c' o = some v → nt (w'.cell? ⟨c', o, none⟩) = some v)
    (hsize : w.heap.size ≤ w'.heap.size) (hsame : ∀ k, k < w.heap.size → k ≠ c' → w'.heap[k]? = w.heap[k]?)
    (hos : w'.os = w.os) (htape : w'.tape = w.tape) (hout : w'.output = w.output)
    (hnew : ∃ (cells : Array Value) (E : TypeId), w'.heap[c']? = some (.cells cells E (0, 0)) ∧ cells.size = s' ∧ h' ≤ s' ∧ ∀ o, h' ≤ o → rd' c' o = none) :
    V.Le (V.token rd' i n' c' h' s') ∧ Keep w V w' (V.token rd' i n' c' h' s') ∧ Sim G w' (V.token rd' i n' c' h' s') H T' := by
  have hown : ∀ j x, V.own j = some x → j < T.length := h.domT
  have hle : V.Le (V.token rd' i n' c' h' s') := by
    refine ⟨hrd, fun b k z m t e => ⟨k, m, t, e, Nat.le_refl _, fun _ => ⟨rfl, rfl⟩⟩, ?_⟩
    intro j m k hh t e
    by_cases hj : j = i
    · subst hj
      rcases hi with ⟨q, _⟩ | ⟨n, c, hh', s, e', q1, q2, _⟩
      · have := hown _ _ e; omega
      · rw [e] at e'
        cases e'
        exact ⟨n', c', h', s', by simp [View.token], q1, q2⟩
    · exact ⟨m, k, hh, t, by simp only [View.token]; rw [if_neg hj]; exact e, Nat.le_refl _, fun _ => ⟨rfl, rfl, rfl⟩⟩
  have hinv : ∀ j m k hh t, (V.token rd' i n' c' h' s').own j = some (m, k, hh, t) → (j = i ∧ k = c' ∧ m = n') ∨ (j ≠ i ∧ V.own j = some (m, k, hh, t)) := by
    intro j m k hh t e
    simp only [View.token] at e
    by_cases hj : j = i
    · rw [if_pos hj] at e; simp only [Option.some.injEq, Prod.mk.injEq] at e; exact .inl ⟨hj, e.2.1.symm, e.1.symm⟩
    · rw [if_neg hj] at e; exact .inr ⟨hj, e⟩
  have hnew' := hnew
  obtain ⟨cells, E, hw1, hw2, hw3, hw4⟩ := hnew
  have hlt' : c' < w'.heap.size := heap_lt hw1
  have hblkne : ∀ b k z m t, V.blk b = some (k, z, m, t) → k ≠ c' := by
    intro b k z m t e q
    rcases hc with hc | ⟨n, hh, s, hc⟩
    · have := h.lt _ _ _ _ _ e; omega
    · exact h.apart _ _ _ _ _ _ _ _ _ e (q ▸ hc)
  refine ⟨hle, ⟨hos, htape, hout, hsize, ?_, ?_⟩, ?_⟩
  · intro k hk ho
    have hk' : k ≠ c' := by
      rintro rfl
      rcases hc with hc | ⟨n, hh, s, hc⟩
      · omega
      · exact ho (.inr ⟨_, _, _, _, hc⟩)
    exact ⟨hsame k hk hk', fun x => hrd' k x hk'⟩
  · rintro k (⟨j, z, m, t, e⟩ | ⟨j, m, hh, t, e⟩)
    · exact .inl (.inl ⟨_, _, _, _, e⟩)
    · rcases hinv _ _ _ _ _ e with ⟨_, rfl, _⟩ | ⟨_, e⟩
      · rcases hc with hc | ⟨n, hh, s, hc⟩
        · right; omega
        · exact .inl (.inr ⟨_, _, _, _, hc⟩)
      · exact .inl (.inr ⟨_, _, _, _, e⟩)
  · refine ⟨?_, ?_, ?_, h.inj, ?_, ?_, ?_, h.domB, ?_, ?_⟩
    · intro k x v e
      by_cases hk : k = c'
      · subst hk; obtain ⟨cells, E, hw1, _⟩ := hnew'; rw [seen_cells hw1]; exact hcell _ _ e
      · have e' : V.rd k x = some v := by rw [← hrd' k x hk]; exact e
        rw [seen_of_heap (hsame k (h.rd_lt e') hk)]
        exact h.rd _ _ _ e'
    · intro b y hy
      refine (h.blk b y hy).keep hle rfl ?_
      intro k z m t e
      have hk := hblkne _ _ _ _ _ e
      exact ⟨hsame k (h.lt _ _ _ _ _ e) hk, fun x q => (hrd' k x hk).trans q⟩
    · intro j m hj
      by_cases hji : j = i
      · subst hji
        have hm : m = n' := by
          rcases hi with ⟨q, rfl⟩ | ⟨n, c, hh, s, e, _, _, rfl⟩
          · rw [q] at hj; simp at hj; exact hj.symm
          · rw [List.getElem?_set, if_pos rfl, if_pos (hown _ _ e)] at hj; cases hj; rfl
        subst hm
        exact ⟨c', h', s', cells, E, by simp [View.token], hw1, hw2, hw3, hw4⟩
      · have hj' : T[j]? = some m := by
          rcases hi with ⟨q, rfl⟩ | ⟨n, c, hh, s, e, _, _, rfl⟩
          · rw [List.getElem?_append] at hj
            by_cases hlt : j < T.length
            · rw [if_pos hlt] at hj; exact hj
            · rw [if_neg hlt] at hj
              rcases Nat.eq_zero_or_pos (j - T.length) with z | z
              · omega
              · rw [List.getElem?_eq_none (by simp; omega)] at hj; cases hj
          · rw [List.getElem?_set, if_neg (fun q => hji q.symm)] at hj; exact hj
        refine (h.tok j m hj').keep (by simp only [View.token]; rw [if_neg hji]) ?_
        intro m k hh t e
        have hk : k ≠ c' := by
          rintro rfl
          rcases hc with hc | ⟨n, hh', s, hc⟩
          · have := h.olt e; omega
          · exact hji (h.tinj _ _ _ _ _ _ _ _ _ e hc)
        exact ⟨hsame k (h.olt e) hk, fun x q => (hrd' k x hk).trans q⟩
    · intro j j' k m hh t m' hh' t' e e'
      rcases hinv _ _ _ _ _ e with ⟨q1, q2, _⟩ | ⟨q0, q⟩ <;> rcases hinv _ _ _ _ _ e' with ⟨r1, r2, _⟩ | ⟨r0, r⟩
      · omega
      · exfalso
        rcases hc with hc | ⟨n, hh', s, hc⟩
        · have := h.olt r; omega
        · exact r0 (h.tinj _ _ _ _ _ _ _ _ _ r (q2 ▸ hc))
      · exfalso
        rcases hc with hc | ⟨n, hh', s, hc⟩
        · have := h.olt q; omega
        · exact q0 (h.tinj _ _ _ _ _ _ _ _ _ q (r2 ▸ hc))
      · exact h.tinj _ _ _ _ _ _ _ _ _ q r
    · intro b j k z m t m' hh t' e e'
      rcases hinv _ _ _ _ _ e' with ⟨q1, q2, _⟩ | ⟨_, q⟩
      · exact hblkne _ _ _ _ _ e q2
      · exact h.apart _ _ _ _ _ _ _ _ _ e q
    · intro b k z m t e
      have := h.lt _ _ _ _ _ e
      omega
    · intro j x e
      obtain ⟨m, k, hh, t⟩ := x
      have hlen : T.length ≤ T'.length ∧ i < T'.length := by
        rcases hi with ⟨q, rfl⟩ | ⟨n, c, hh, s, e, _, _, rfl⟩
        · simp; omega
        · rw [List.length_set]; exact ⟨Nat.le_refl _, hown _ _ e⟩
      rcases hinv _ _ _ _ _ e with ⟨q1, q2, _⟩ | ⟨_, q⟩
      · omega
      · have := hown _ _ q; omega
    · intro g cs hg j a ha
      obtain ⟨v, h1, h2, h3⟩ := h.glob g cs hg j a ha
      exact ⟨v, hle.rd _ _ _ h1, h2, h3.mono hle.pu⟩

end Go.Am
