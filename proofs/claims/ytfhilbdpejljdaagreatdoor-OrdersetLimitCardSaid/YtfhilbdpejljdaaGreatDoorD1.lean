/- The data of the program's types, and their cells. -/
import Derived.Test.YtfhilbdpejljdaaGreatDoorA8
set_option linter.all false
namespace Go.Am
open Go

/-- How a data slice lies. -/
inductive TD where
  | nil | full | any

def TD.tk : TD → Tk
  | .nil => .nil
  | .full => .full
  | .any => .any

theorem TD.pu (t : TD) : t.tk.pu = t.tk := by cases t <;> rfl

theorem TD.of (tk : Tk) : ∃ t : TD, tk.pu = t.tk := by
  cases tk
  · exact ⟨.nil, rfl⟩
  · exact ⟨.full, rfl⟩
  · exact ⟨.any, rfl⟩
  · exact ⟨.any, rfl⟩

theorem strip1_sl (xs : List (List Av)) (t : TD) : strip1 (.sl xs t.tk) = some (.sl xs t.tk) := by simp [strip1, TD.pu]

/-- A word with its mark. -/
structure Wd where
  s : List UInt8
  a : Int
  b : Int
  c : Int

def Wd.cs (w : Wd) : List Av := [.str w.s, .int .i64 w.a, .int .i64 w.b, .int .i64 w.c]

/-- A step of an address. -/
structure Stp where
  k : Int
  l : List UInt8

def Stp.cs (s : Stp) : List Av := [.int .i64 s.k, .str s.l]

def strC (s : List UInt8) : List Av := [.str s]
def intC (n : Int) : List Av := [.int .i64 n]

inductive Un where
  | mk (a b c kind : Int) (label : List UInt8) (t1 : TD) (head : List Wd) (t2 : TD) (words : List Wd) (t3 : TD) (kids : List Un)

namespace Un
def a : Un → Int | .mk a _ _ _ _ _ _ _ _ _ _ => a
def b : Un → Int | .mk _ b _ _ _ _ _ _ _ _ _ => b
def c : Un → Int | .mk _ _ c _ _ _ _ _ _ _ _ => c
def kind : Un → Int | .mk _ _ _ k _ _ _ _ _ _ _ => k
def label : Un → List UInt8 | .mk _ _ _ _ l _ _ _ _ _ _ => l
def t1 : Un → TD | .mk _ _ _ _ _ t _ _ _ _ _ => t
def head : Un → List Wd | .mk _ _ _ _ _ _ h _ _ _ _ => h
def t2 : Un → TD | .mk _ _ _ _ _ _ _ t _ _ _ => t
def words : Un → List Wd | .mk _ _ _ _ _ _ _ _ w _ _ => w
def t3 : Un → TD | .mk _ _ _ _ _ _ _ _ _ t _ => t
def kids : Un → List Un | .mk _ _ _ _ _ _ _ _ _ _ k => k
end Un

def Un.cs : Un → List Av
  | .mk a b c kind label t1 head t2 words t3 kids => [.int .i64 a, .int .i64 b, .int .i64 c, .int .i64 kind, .str label, .sl (head.map Wd.cs) t1.tk, .sl (words.map Wd.cs) t2.tk, .sl (kids.attach.map fun ⟨k, _⟩ => k.cs) t3.tk]

theorem Un.cs_eq (u : Un) : u.cs = [.int .i64 u.a, .int .i64 u.b, .int .i64 u.c, .int .i64 u.kind, .str u.label, .sl (u.head.map Wd.cs) u.t1.tk, .sl (u.words.map Wd.cs) u.t2.tk, .sl (u.kids.map Un.cs) u.t3.tk] := by
  cases u
  simp [Un.cs, Un.a, Un.b, Un.c, Un.kind, Un.label, Un.head, Un.words, Un.kids, Un.t1, Un.t2, Un.t3]

abbrev Un.lit (u : Un) : List Av := [.int .i64 u.a, .int .i64 u.b, .int .i64 u.c, .int .i64 u.kind, .str u.label, .sl (u.head.map Wd.cs) u.t1.tk, .sl (u.words.map Wd.cs) u.t2.tk, .sl (u.kids.map Un.cs) u.t3.tk]
theorem Un.cs_lit (u : Un) : u.cs = u.lit := Un.cs_eq u

theorem Un.kid_lt {u k : Un} (h : k ∈ u.kids) : SizeOf.sizeOf k < SizeOf.sizeOf u := by
  cases u
  simp only [Un.kids] at h
  have := List.sizeOf_lt_of_mem h
  simp
  omega

inductive It where
  | mk (kind : Int) (t1 : TD) (at_ : List Stp) (t2 : TD) (to_ : List Stp) (wh nth : Int) (u : Un) (t3 : TD) (old : List (List UInt8)) (t4 : TD) (new : List (List UInt8)) (label for_ : List UInt8) (sk sd : Int) (se : List UInt8)
      (act item day : Int) (ev : List UInt8) (t5 : TD) (by_ : List It)

namespace It
def kind : It → Int | .mk x _ _ _ _ _ _ _ _ _ _ _ _ _ _ _ _ _ _ _ _ _ _ => x
def t1 : It → TD | .mk _ x _ _ _ _ _ _ _ _ _ _ _ _ _ _ _ _ _ _ _ _ _ => x
def at_ : It → List Stp | .mk _ _ x _ _ _ _ _ _ _ _ _ _ _ _ _ _ _ _ _ _ _ _ => x
def t2 : It → TD | .mk _ _ _ x _ _ _ _ _ _ _ _ _ _ _ _ _ _ _ _ _ _ _ => x
def to_ : It → List Stp | .mk _ _ _ _ x _ _ _ _ _ _ _ _ _ _ _ _ _ _ _ _ _ _ => x
def wh : It → Int | .mk _ _ _ _ _ x _ _ _ _ _ _ _ _ _ _ _ _ _ _ _ _ _ => x
def nth : It → Int | .mk _ _ _ _ _ _ x _ _ _ _ _ _ _ _ _ _ _ _ _ _ _ _ => x
def u : It → Un | .mk _ _ _ _ _ _ _ x _ _ _ _ _ _ _ _ _ _ _ _ _ _ _ => x
def t3 : It → TD | .mk _ _ _ _ _ _ _ _ x _ _ _ _ _ _ _ _ _ _ _ _ _ _ => x
def old : It → List (List UInt8) | .mk _ _ _ _ _ _ _ _ _ x _ _ _ _ _ _ _ _ _ _ _ _ _ => x
def t4 : It → TD | .mk _ _ _ _ _ _ _ _ _ _ x _ _ _ _ _ _ _ _ _ _ _ _ => x
def new : It → List (List UInt8) | .mk _ _ _ _ _ _ _ _ _ _ _ x _ _ _ _ _ _ _ _ _ _ _ => x
def label : It → List UInt8 | .mk _ _ _ _ _ _ _ _ _ _ _ _ x _ _ _ _ _ _ _ _ _ _ => x
def for_ : It → List UInt8 | .mk _ _ _ _ _ _ _ _ _ _ _ _ _ x _ _ _ _ _ _ _ _ _ => x
def sk : It → Int | .mk _ _ _ _ _ _ _ _ _ _ _ _ _ _ x _ _ _ _ _ _ _ _ => x
def sd : It → Int | .mk _ _ _ _ _ _ _ _ _ _ _ _ _ _ _ x _ _ _ _ _ _ _ => x
def se : It → List UInt8 | .mk _ _ _ _ _ _ _ _ _ _ _ _ _ _ _ _ x _ _ _ _ _ _ => x
def act : It → Int | .mk _ _ _ _ _ _ _ _ _ _ _ _ _ _ _ _ _ x _ _ _ _ _ => x
def item : It → Int | .mk _ _ _ _ _ _ _ _ _ _ _ _ _ _ _ _ _ _ x _ _ _ _ => x
def day : It → Int | .mk _ _ _ _ _ _ _ _ _ _ _ _ _ _ _ _ _ _ _ x _ _ _ => x
def ev : It → List UInt8 | .mk _ _ _ _ _ _ _ _ _ _ _ _ _ _ _ _ _ _ _ _ x _ _ => x
def t5 : It → TD | .mk _ _ _ _ _ _ _ _ _ _ _ _ _ _ _ _ _ _ _ _ _ x _ => x
def by_ : It → List It | .mk _ _ _ _ _ _ _ _ _ _ _ _ _ _ _ _ _ _ _ _ _ _ x => x
end It

def It.cs : It → List Av
  | .mk kind t1 at_ t2 to_ wh nth u t3 old t4 new label for_ sk sd se act item day ev t5 by_ =>
    [.int .i64 kind, .sl (at_.map Stp.cs) t1.tk, .sl (to_.map Stp.cs) t2.tk, .int .i64 wh, .int .i64 nth,
     .int .i64 u.a, .int .i64 u.b, .int .i64 u.c, .int .i64 u.kind, .str u.label, .sl (u.head.map Wd.cs) u.t1.tk, .sl (u.words.map Wd.cs) u.t2.tk, .sl (u.kids.map Un.cs) u.t3.tk,
     .sl (old.map strC) t3.tk, .sl (new.map strC) t4.tk, .str label, .str for_, .int .i64 sk, .int .i64 sd, .str se, .int .i64 act, .int .i64 item, .int .i64 day, .str ev, .sl (by_.attach.map fun ⟨k, _⟩ => k.cs) t5.tk]

theorem It.cs_eq (x : It) : x.cs =
    [.int .i64 x.kind, .sl (x.at_.map Stp.cs) x.t1.tk, .sl (x.to_.map Stp.cs) x.t2.tk, .int .i64 x.wh, .int .i64 x.nth,
     .int .i64 x.u.a, .int .i64 x.u.b, .int .i64 x.u.c, .int .i64 x.u.kind, .str x.u.label, .sl (x.u.head.map Wd.cs) x.u.t1.tk, .sl (x.u.words.map Wd.cs) x.u.t2.tk, .sl (x.u.kids.map Un.cs) x.u.t3.tk,
     .sl (x.old.map strC) x.t3.tk, .sl (x.new.map strC) x.t4.tk, .str x.label, .str x.for_, .int .i64 x.sk, .int .i64 x.sd, .str x.se, .int .i64 x.act, .int .i64 x.item, .int .i64 x.day, .str x.ev, .sl (x.by_.map It.cs) x.t5.tk] := by
  cases x
  simp [It.cs, It.kind, It.t1, It.at_, It.t2, It.to_, It.wh, It.nth, It.u, It.t3, It.old, It.t4, It.new, It.label, It.for_, It.sk, It.sd, It.se, It.act, It.item, It.day, It.ev, It.t5, It.by_]

theorem It.by_lt {x k : It} (h : k ∈ x.by_) : SizeOf.sizeOf k < SizeOf.sizeOf x := by
  cases x
  simp only [It.by_] at h
  have := List.sizeOf_lt_of_mem h
  simp
  omega

structure Ac where
  num : Int
  title : List UInt8
  day : Int
  sk : Int
  sd : Int
  se : List UInt8
  t : TD
  items : List It

def Ac.cs (x : Ac) : List Av := [.int .i64 x.num, .str x.title, .int .i64 x.day, .int .i64 x.sk, .int .i64 x.sd, .str x.se, .sl (x.items.map It.cs) x.t.tk]

theorem wide_W (l : List Wd) : wide 4 (l.map Wd.cs) = true := wide_map fun _ => rfl
theorem wide_U (l : List Un) : wide 8 (l.map Un.cs) = true := wide_map fun u => by rw [Un.cs_eq]; rfl
theorem wide_S (l : List Stp) : wide 2 (l.map Stp.cs) = true := wide_map fun _ => rfl
theorem wide_C (l : List (List UInt8)) : wide 1 (l.map strC) = true := wide_map fun _ => rfl
theorem wide_Z (l : List Int) : wide 1 (l.map intC) = true := wide_map fun _ => rfl
theorem wide_I (l : List It) : wide 25 (l.map It.cs) = true := wide_map fun u => by rw [It.cs_eq]; rfl
theorem wide_A (l : List Ac) : wide 7 (l.map Ac.cs) = true := wide_map fun _ => rfl

theorem strip_int (k : IntKind) (n : Int) : strip (.int k n) = some (.int k n) := rfl
theorem strip_bool (b : Bool) : strip (.bool b) = some (.bool b) := rfl
theorem strip_str (b : List UInt8) : strip (.str b) = some (.str b) := rfl
theorem strip_sl (xs : List (List Av)) (t : TD) : strip (.sl xs t.tk) = some (.sl xs t.tk) := strip1_sl xs t
theorem strip_sk (xs : List (List Av)) (tk : Tk) : strip (.sl xs tk) = some (.sl xs tk.pu) := rfl
theorem strip_U (u : Un) : strip (.agg u.cs) = some (.agg u.cs) := by
  rw [Un.cs_eq]; simp only [strip, stripL, strip1_sl, Option.map]; simp only [strip1]
theorem strip_I (u : It) : strip (.agg u.cs) = some (.agg u.cs) := by
  rw [It.cs_eq]; simp only [strip, stripL, strip1_sl, Option.map]; simp only [strip1]
theorem strip_A (u : Ac) : strip (.agg u.cs) = some (.agg u.cs) := by
  unfold Ac.cs; simp only [strip, stripL, strip1_sl, Option.map]; simp only [strip1]

/-- All lengths can be counted. -/
inductive Un.Ok : Un → Prop
  | mk {u : Un} : u.label.length ≤ maxL → u.head.length ≤ maxL → u.words.length ≤ maxL → u.kids.length ≤ maxL → (∀ w ∈ u.head, w.s.length ≤ maxL) → (∀ w ∈ u.words, w.s.length ≤ maxL) → (∀ k ∈ u.kids, Un.Ok k) → Un.Ok u

inductive It.Ok : It → Prop
  | mk {x : It} : x.at_.length ≤ maxL → x.to_.length ≤ maxL → (∀ s ∈ x.at_, s.l.length ≤ maxL) → (∀ s ∈ x.to_, s.l.length ≤ maxL) → Un.Ok x.u → x.old.length ≤ maxL → x.new.length ≤ maxL → (∀ s ∈ x.old, s.length ≤ maxL) → (∀ s ∈ x.new, s.length ≤ maxL) →
      x.label.length ≤ maxL → x.for_.length ≤ maxL → x.se.length ≤ maxL → x.ev.length ≤ maxL → x.by_.length ≤ maxL → (∀ k ∈ x.by_, It.Ok k) → It.Ok x

def Ac.Ok (x : Ac) : Prop := x.title.length ≤ maxL ∧ x.se.length ≤ maxL ∧ x.items.length ≤ maxL ∧ ∀ k ∈ x.items, It.Ok k

theorem Un.ind {P : Un → Prop} (h : ∀ u, (∀ k ∈ u.kids, P k) → P u) : ∀ u, P u := by
  have key : ∀ (n : Nat) (u : Un), SizeOf.sizeOf u ≤ n → P u := by
    intro n
    induction n with
    | zero => intro u hu; cases u; simp at hu
    | succ n ih => exact fun u hu => h u fun k hk => ih k (by have := Un.kid_lt hk; omega)
  exact fun u => key _ u (Nat.le_refl _)

theorem It.ind {P : It → Prop} (h : ∀ u, (∀ k ∈ u.by_, P k) → P u) : ∀ u, P u := by
  have key : ∀ (n : Nat) (u : It), SizeOf.sizeOf u ≤ n → P u := by
    intro n
    induction n with
    | zero => intro u hu; cases u; simp at hu
    | succ n ih => exact fun u hu => h u fun k hk => ih k (by have := It.by_lt hk; omega)
  exact fun u => key _ u (Nat.le_refl _)

def isI (v : Av) : Prop := ∃ n, v = .int .i64 n

theorem Un.Ok.kids {u : Un} (h : u.Ok) : ∀ k ∈ u.kids, k.Ok := by cases h; assumption
theorem Un.Ok.len {u : Un} (h : u.Ok) : u.label.length ≤ maxL ∧ u.head.length ≤ maxL ∧ u.words.length ≤ maxL ∧ u.kids.length ≤ maxL := by cases h; exact ⟨by assumption, by assumption, by assumption, by assumption⟩

/-- Units in a tree. -/
def Un.cnt : Un → Nat
  | .mk _ _ _ _ _ _ _ _ _ _ kids => 1 + (kids.attach.map fun ⟨k, _⟩ => k.cnt).sum

theorem Un.cnt_eq (u : Un) : u.cnt = 1 + (u.kids.map Un.cnt).sum := by cases u; simp [Un.cnt, Un.kids]

/-- Units below the first kids. -/
def Un.pre (u : Un) (i : Nat) : Nat := ((u.kids.take i).map Un.cnt).sum

theorem Un.pre_zero (u : Un) : u.pre 0 = 0 := by simp [Un.pre]
theorem Un.pre_succ (u : Un) (i : Nat) (h : i < u.kids.length) : u.pre (i + 1) = u.pre i + (u.kids[i]).cnt := by
  rw [Un.pre, Un.pre, List.take_add_one, List.getElem?_eq_getElem h, List.map_append, List.sum_append]; simp only [Option.toList, List.map_cons, List.map_nil, List.sum_cons, List.sum_nil, Nat.add_zero]
theorem Un.pre_all (u : Un) : u.pre u.kids.length + 1 = u.cnt := by rw [Un.cnt_eq]; simp [Un.pre]; omega
theorem Un.pre_le (u : Un) : ∀ i, u.pre i + 1 ≤ u.cnt := by
  intro i
  rw [Un.cnt_eq, Un.pre]
  have h : ((u.kids.take i).map Un.cnt).sum + ((u.kids.drop i).map Un.cnt).sum = (u.kids.map Un.cnt).sum := by
    rw [← List.sum_append, ← List.map_append, List.take_append_drop]
  omega
theorem Un.kid_cnt (u : Un) (i : Nat) (h : i < u.kids.length) : u.pre i + (u.kids[i]).cnt + 1 ≤ u.cnt := by
  have h1 := u.pre_succ i h; have h2 := u.pre_le (i + 1); omega
theorem Un.cnt_pos (u : Un) : 0 < u.cnt := by rw [Un.cnt_eq]; omega

/-- An ID. -/
structure IdD where
  a : Int
  b : Int
  c : Int
def IdD.cs (x : IdD) : List Av := [.int .i64 x.a, .int .i64 x.b, .int .i64 x.c]
theorem wide_D (l : List IdD) : wide 3 (l.map IdD.cs) = true := wide_map fun _ => rfl

theorem Un.Ok.words {u : Un} (h : u.Ok) : (∀ w ∈ u.head, w.s.length ≤ maxL) ∧ (∀ w ∈ u.words, w.s.length ≤ maxL) := by cases h; exact ⟨by assumption, by assumption⟩
theorem It.Ok.kids {u : It} (h : u.Ok) : ∀ k ∈ u.by_, k.Ok := by cases h; assumption
theorem It.Ok.un {u : It} (h : u.Ok) : u.u.Ok := by cases h; assumption

/-- The IDs of a tree. -/
def Un.id (u : Un) : IdD := ⟨u.a, u.b, u.c⟩
def Un.ids : Un → List IdD
  | .mk a b c _ _ _ _ _ _ _ kids => ⟨a, b, c⟩ :: (kids.attach.flatMap fun ⟨k, _⟩ => k.ids)

theorem Un.ids_eq (u : Un) : u.ids = u.id :: u.kids.flatMap Un.ids := by
  cases u
  simp [Un.ids, Un.id, Un.a, Un.b, Un.c, Un.kids]

def Un.pids (u : Un) (i : Nat) : List IdD := u.id :: (u.kids.take i).flatMap Un.ids

theorem Un.ids_len (u : Un) : u.ids.length = u.cnt := by
  revert u
  refine Un.ind fun u ih => ?_
  rw [Un.ids_eq, Un.cnt_eq, List.length_cons, List.length_flatMap]
  have h : u.kids.map (fun k => k.ids.length) = u.kids.map Un.cnt := List.map_congr_left ih
  rw [h]
  omega

theorem Un.pids_zero (u : Un) : u.pids 0 = [u.id] := by simp [Un.pids]
theorem Un.pids_succ (u : Un) (i : Nat) (h : i < u.kids.length) : u.pids (i + 1) = u.pids i ++ (u.kids[i]).ids := by
  rw [Un.pids, Un.pids, List.take_add_one, List.getElem?_eq_getElem h, List.flatMap_append]; simp
theorem Un.pids_all (u : Un) : u.pids u.kids.length = u.ids := by rw [Un.ids_eq, Un.pids, List.take_length]
theorem Un.pids_len (u : Un) (i : Nat) : (u.pids i).length = 1 + u.pre i := by
  rw [Un.pids, Un.pre, List.length_cons, List.length_flatMap]
  have h : (u.kids.take i).map (fun k => k.ids.length) = (u.kids.take i).map Un.cnt := List.map_congr_left fun k _ => k.ids_len
  rw [h]
  omega
theorem Un.ids_pos (u : Un) : 0 < u.ids.length := by rw [Un.ids_len]; exact u.cnt_pos

theorem It.Ok.len {x : It} (h : x.Ok) : x.at_.length ≤ maxL ∧ x.to_.length ≤ maxL ∧ x.old.length ≤ maxL ∧ x.new.length ≤ maxL ∧ x.label.length ≤ maxL ∧ x.for_.length ≤ maxL ∧ x.se.length ≤ maxL ∧ x.ev.length ≤ maxL ∧ x.by_.length ≤ maxL := by
  cases h; exact ⟨by assumption, by assumption, by assumption, by assumption, by assumption, by assumption, by assumption, by assumption, by assumption⟩

attribute [go_sem] wide_W wide_U wide_S wide_C wide_Z wide_I wide_A wide_D Wd.cs Stp.cs strC intC IdD.cs Un.cs_eq It.cs_eq Ac.cs

end Go.Am

namespace Go.Am
/-- The numbers below `n`. -/
def givenA (n : Nat) : List (List Av) := (List.range n).map fun (i : Nat) => [.int .i64 (Int.ofNat i)]
theorem givenA_succ (n : Nat) : givenA (n + 1) = givenA n ++ [[.int .i64 (n : Int)]] := by
  rw [givenA, givenA, List.range_succ, List.map_append]; rfl
theorem givenA_len (n : Nat) : (givenA n).length = n := by simp [givenA]
theorem wide_G (n : Nat) : wide 1 (givenA n) = true := by simp [wide, givenA]
end Go.Am
