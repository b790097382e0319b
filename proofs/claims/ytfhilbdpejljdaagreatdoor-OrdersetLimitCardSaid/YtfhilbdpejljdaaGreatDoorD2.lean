/- What a call is handed, as the program's data. -/
import Derived.Test.YtfhilbdpejljdaaGreatDoorA9
import Derived.Test.YtfhilbdpejljdaaGreatDoorD1
import Derived.Test.YtfhilbdpejljdaaGreatDoorProg
set_option linter.all false
namespace Go.Am
open Go

section
variable {P : Program}

theorem fits_int {t : TypeId} {k : IntKind} {av : List Av} (hu : P.underlying t = some (.int k)) (h : Fits P t av) : ∃ n, av = [.int k n] := by
  cases h with
  | int n q _ => rw [hu] at q; cases q; exact ⟨n, rfl⟩
  | bool b q => rw [hu] at q; cases q
  | str l q _ => rw [hu] at q; cases q
  | snil q => rw [hu] at q; cases q
  | sl xs q _ _ => rw [hu] at q; cases q
  | struct ass q _ _ => rw [hu] at q; cases q

theorem fits_str {t : TypeId} {av : List Av} (hu : P.underlying t = some .string) (h : Fits P t av) : ∃ l, av = [.str l] ∧ l.length ≤ maxL := by
  cases h with
  | int n q _ => rw [hu] at q; cases q
  | bool b q => rw [hu] at q; cases q
  | str l q h => exact ⟨l, rfl, h⟩
  | snil q => rw [hu] at q; cases q
  | sl xs q _ _ => rw [hu] at q; cases q
  | struct ass q _ _ => rw [hu] at q; cases q

theorem fits_sl {t e : TypeId} {av : List Av} (hu : P.underlying t = some (.slice e)) (h : Fits P t av) : ∃ (xs : List (List Av)) (td : TD), av = [.sl xs td.tk] ∧ xs.length ≤ maxL ∧ ∀ x ∈ xs, Fits P e x := by
  cases h with
  | int n q _ => rw [hu] at q; cases q
  | bool b q => rw [hu] at q; cases q
  | str l q _ => rw [hu] at q; cases q
  | snil q => rw [hu] at q; cases q; exact ⟨[], .nil, rfl, by simp, by simp⟩
  | sl xs q h1 h2 => rw [hu] at q; cases q; exact ⟨xs, .any, rfl, h1, h2⟩
  | struct ass q _ _ => rw [hu] at q; cases q

theorem fits_struct {t : TypeId} {fs : Array Field} {av : List Av} (hu : P.underlying t = some (.struct fs)) (h : Fits P t av) : ∃ ass : List (List Av), av = ass.flatten ∧ ass.length = fs.size ∧ ∀ (i : Nat) f a, fs[i]? = some f → ass[i]? = some a → Fits P f.type a := by
  cases h with
  | int n q _ => rw [hu] at q; cases q
  | bool b q => rw [hu] at q; cases q
  | str l q _ => rw [hu] at q; cases q
  | snil q => rw [hu] at q; cases q
  | sl xs q _ _ => rw [hu] at q; cases q
  | struct ass q h1 h2 => rw [hu] at q; cases q; exact ⟨ass, rfl, h1, h2⟩

theorem list_map {α : Type} {f : α → List Av} {Q : α → Prop} : ∀ {xs : List (List Av)}, (∀ x ∈ xs, ∃ a, x = f a ∧ Q a) → ∃ l : List α, xs = l.map f ∧ ∀ a ∈ l, Q a
  | [], _ => ⟨[], rfl, by simp⟩
  | x :: xs, h => by
    obtain ⟨a, rfl, h1⟩ := h x (by simp)
    obtain ⟨l, rfl, h2⟩ := list_map (xs := xs) fun y hy => h y (by simp [hy])
    refine ⟨a :: l, rfl, fun b hb => ?_⟩
    rcases List.mem_cons.1 hb with rfl | hb
    · exact h1
    · exact h2 b hb
end

open Go.Proofs

theorem fit_id {av : List Av} (h : Fits Tryz.prog 23 av) : ∃ a b c, av = [.int .i64 a, .int .i64 b, .int .i64 c] := by
  obtain ⟨ass, rfl, hl, hf⟩ := fits_struct Tryz.underlying23 h
  match ass, hl, hf with
  | [a0, a1, a2], _, hf =>
    obtain ⟨a, rfl⟩ := fits_int Tryz.underlying3 (hf 0 _ _ rfl rfl)
    obtain ⟨b, rfl⟩ := fits_int Tryz.underlying3 (hf 1 _ _ rfl rfl)
    obtain ⟨c, rfl⟩ := fits_int Tryz.underlying3 (hf 2 _ _ rfl rfl)
    exact ⟨a, b, c, rfl⟩

theorem fit_mark {av : List Av} (h : Fits Tryz.prog 86 av) : ∃ a b c, av = [.int .i64 a, .int .i64 b, .int .i64 c] := by
  obtain ⟨ass, rfl, hl, hf⟩ := fits_struct Tryz.underlying86 h
  match ass, hl, hf with
  | [a0, a1, a2], _, hf =>
    obtain ⟨a, rfl⟩ := fits_int Tryz.underlying3 (hf 0 _ _ rfl rfl)
    obtain ⟨b, rfl⟩ := fits_int Tryz.underlying3 (hf 1 _ _ rfl rfl)
    obtain ⟨c, rfl⟩ := fits_int Tryz.underlying3 (hf 2 _ _ rfl rfl)
    exact ⟨a, b, c, rfl⟩

theorem fit_word {av : List Av} (h : Fits Tryz.prog 88 av) : ∃ w : Wd, av = w.cs ∧ w.s.length ≤ maxL := by
  obtain ⟨ass, rfl, hl, hf⟩ := fits_struct Tryz.underlying88 h
  match ass, hl, hf with
  | [a0, a1], _, hf =>
    obtain ⟨s, rfl, hs⟩ := fits_str Tryz.underlying9 (hf 0 _ _ rfl rfl)
    obtain ⟨a, b, c, rfl⟩ := fit_mark (hf 1 _ _ rfl rfl)
    exact ⟨⟨s, a, b, c⟩, rfl, hs⟩

theorem fit_words {av : List Av} (h : Fits Tryz.prog 24 av) : ∃ (l : List Wd) (t : TD), av = [.sl (l.map Wd.cs) t.tk] ∧ l.length ≤ maxL ∧ ∀ w ∈ l, w.s.length ≤ maxL := by
  obtain ⟨xs, t, rfl, hl, hx⟩ := fits_sl Tryz.underlying24 h
  obtain ⟨l, rfl, hq⟩ := list_map (f := Wd.cs) fun x h => fit_word (hx x h)
  exact ⟨l, t, rfl, by simpa using hl, hq⟩

theorem fit_step {av : List Av} (h : Fits Tryz.prog 91 av) : ∃ s : Stp, av = s.cs ∧ s.l.length ≤ maxL := by
  obtain ⟨ass, rfl, hl, hf⟩ := fits_struct Tryz.underlying91 h
  match ass, hl, hf with
  | [a0, a1], _, hf =>
    obtain ⟨k, rfl⟩ := fits_int Tryz.underlying3 (hf 0 _ _ rfl rfl)
    obtain ⟨s, rfl, hs⟩ := fits_str Tryz.underlying9 (hf 1 _ _ rfl rfl)
    exact ⟨⟨k, s⟩, rfl, hs⟩

theorem fit_steps {av : List Av} (h : Fits Tryz.prog 61 av) : ∃ (l : List Stp) (t : TD), av = [.sl (l.map Stp.cs) t.tk] ∧ l.length ≤ maxL ∧ ∀ w ∈ l, w.l.length ≤ maxL := by
  obtain ⟨xs, t, rfl, hl, hx⟩ := fits_sl Tryz.underlying61 h
  obtain ⟨l, rfl, hq⟩ := list_map (f := Stp.cs) fun x h => fit_step (hx x h)
  exact ⟨l, t, rfl, by simpa using hl, hq⟩

theorem fit_strs {av : List Av} (h : Fits Tryz.prog 62 av) : ∃ (l : List (List UInt8)) (t : TD), av = [.sl (l.map strC) t.tk] ∧ l.length ≤ maxL ∧ ∀ w ∈ l, w.length ≤ maxL := by
  obtain ⟨xs, t, rfl, hl, hx⟩ := fits_sl Tryz.underlying62 h
  obtain ⟨l, rfl, hq⟩ := list_map (f := strC) fun x h => fits_str Tryz.underlying9 (hx x h)
  exact ⟨l, t, rfl, by simpa using hl, hq⟩

theorem fit_ints {av : List Av} (h : Fits Tryz.prog 39 av) : ∃ (l : List Int) (t : TD), av = [.sl (l.map intC) t.tk] ∧ l.length ≤ maxL := by
  obtain ⟨xs, t, rfl, hl, hx⟩ := fits_sl Tryz.underlying39 h
  obtain ⟨l, rfl, hq⟩ := list_map (f := intC) (Q := fun _ => True) fun x h => by
    obtain ⟨n, rfl⟩ := fits_int Tryz.underlying3 (hx x h)
    exact ⟨n, rfl, trivial⟩
  exact ⟨l, t, rfl, by simpa using hl⟩

theorem fit_start {av : List Av} (h : Fits Tryz.prog 29 av) : ∃ k d e, av = [.int .i64 k, .int .i64 d, .str e] ∧ e.length ≤ maxL := by
  obtain ⟨ass, rfl, hl, hf⟩ := fits_struct Tryz.underlying29 h
  match ass, hl, hf with
  | [a0, a1, a2], _, hf =>
    obtain ⟨a, rfl⟩ := fits_int Tryz.underlying3 (hf 0 _ _ rfl rfl)
    obtain ⟨b, rfl⟩ := fits_int Tryz.underlying3 (hf 1 _ _ rfl rfl)
    obtain ⟨c, rfl, hc⟩ := fits_str Tryz.underlying9 (hf 2 _ _ rfl rfl)
    exact ⟨a, b, c, rfl, hc⟩

theorem sl_size {xs : List (List Av)} {tk : Tk} {x : List Av} (h : x ∈ xs) : SizeOf.sizeOf x < SizeOf.sizeOf (Av.sl xs tk) := by
  have := List.sizeOf_lt_of_mem h
  simp
  omega

theorem kid_le {L : List Av} {xs : List (List Av)} {tk : Tk} {x : List Av} {n : Nat} (hm : Av.sl xs tk ∈ L) (hn : SizeOf.sizeOf L ≤ n + 1) (h : x ∈ xs) : SizeOf.sizeOf x ≤ n := by
  have h1 := sl_size (tk := tk) h
  have h2 := List.sizeOf_lt_of_mem hm
  omega

theorem fit_unit : ∀ (n : Nat) (av : List Av), SizeOf.sizeOf av ≤ n → Fits Tryz.prog 27 av → ∃ u : Un, av = u.cs ∧ u.Ok := by
  intro n
  induction n with
  | zero => intro av hn; cases av <;> simp at hn
  | succ n ih =>
    intro av hn h
    obtain ⟨ass, rfl, hl, hf⟩ := fits_struct Tryz.underlying27 h
    match ass, hl, hf with
    | [a0, a1, a2, a3, a4, a5], _, hf =>
      obtain ⟨a, b, c, rfl⟩ := fit_id (hf 0 _ _ rfl rfl)
      obtain ⟨k, rfl⟩ := fits_int Tryz.underlying3 (hf 1 _ _ rfl rfl)
      obtain ⟨s, rfl, hs⟩ := fits_str Tryz.underlying9 (hf 2 _ _ rfl rfl)
      obtain ⟨w1, t1, rfl, h1, h1w⟩ := fit_words (hf 3 _ _ rfl rfl)
      obtain ⟨w2, t2, rfl, h2, h2w⟩ := fit_words (hf 4 _ _ rfl rfl)
      obtain ⟨xs, t3, rfl, h3, hx⟩ := fits_sl Tryz.underlying25 (hf 5 _ _ rfl rfl)
      obtain ⟨l, rfl, hq⟩ := list_map (f := Un.cs) fun x h => ih x (kid_le (tk := t3.tk) (xs := xs) (by simp) hn h) (hx x h)
      refine ⟨.mk a b c k s t1 w1 t2 w2 t3 l, ?_, ?_⟩
      · rw [Un.cs_eq]; rfl
      · exact .mk hs h1 h2 (by show l.length ≤ maxL; simpa using h3) h1w h2w hq

theorem fit_item : ∀ (n : Nat) (av : List Av), SizeOf.sizeOf av ≤ n → Fits Tryz.prog 64 av → ∃ u : It, av = u.cs ∧ u.Ok := by
  intro n
  induction n with
  | zero => intro av hn; cases av <;> simp at hn
  | succ n ih =>
    intro av hn h
    obtain ⟨ass, rfl, hl, hf⟩ := fits_struct Tryz.underlying64 h
    match ass, hl, hf with
    | [a0, a1, a2, a3, a4, a5, a6, a7, a8, a9, a10, a11, a12, a13, a14, a15], _, hf =>
      obtain ⟨k, rfl⟩ := fits_int Tryz.underlying3 (hf 0 _ _ rfl rfl)
      obtain ⟨p1, t1, rfl, h1, h1w⟩ := fit_steps (hf 1 _ _ rfl rfl)
      obtain ⟨p2, t2, rfl, h2, h2w⟩ := fit_steps (hf 2 _ _ rfl rfl)
      obtain ⟨wh, rfl⟩ := fits_int Tryz.underlying3 (hf 3 _ _ rfl rfl)
      obtain ⟨nth, rfl⟩ := fits_int Tryz.underlying3 (hf 4 _ _ rfl rfl)
      obtain ⟨u, rfl, hu⟩ := fit_unit _ _ (Nat.le_refl _) (hf 5 _ _ rfl rfl)
      obtain ⟨l1, t3, rfl, h3, h3w⟩ := fit_strs (hf 6 _ _ rfl rfl)
      obtain ⟨l2, t4, rfl, h4, h4w⟩ := fit_strs (hf 7 _ _ rfl rfl)
      obtain ⟨s1, rfl, h5⟩ := fits_str Tryz.underlying9 (hf 8 _ _ rfl rfl)
      obtain ⟨s2, rfl, h6⟩ := fits_str Tryz.underlying9 (hf 9 _ _ rfl rfl)
      obtain ⟨sk, sd, se, rfl, h7⟩ := fit_start (hf 10 _ _ rfl rfl)
      obtain ⟨n1, rfl⟩ := fits_int Tryz.underlying3 (hf 11 _ _ rfl rfl)
      obtain ⟨n2, rfl⟩ := fits_int Tryz.underlying3 (hf 12 _ _ rfl rfl)
      obtain ⟨n3, rfl⟩ := fits_int Tryz.underlying3 (hf 13 _ _ rfl rfl)
      obtain ⟨s3, rfl, h8⟩ := fits_str Tryz.underlying9 (hf 14 _ _ rfl rfl)
      obtain ⟨xs, t5, rfl, h9, hx⟩ := fits_sl Tryz.underlying30 (hf 15 _ _ rfl rfl)
      obtain ⟨l, rfl, hq⟩ := list_map (f := It.cs) fun x h => ih x (kid_le (tk := t5.tk) (xs := xs) (by simp) hn h) (hx x h)
      refine ⟨.mk k t1 p1 t2 p2 wh nth u t3 l1 t4 l2 s1 s2 sk sd se n1 n2 n3 s3 t5 l, ?_, ?_⟩
      · rw [It.cs_eq, Un.cs_eq]; rfl
      · exact .mk h1 h2 h1w h2w hu h3 h4 h3w h4w h5 h6 h7 h8 (by show l.length ≤ maxL; simpa using h9) hq

theorem fit_act {av : List Av} (h : Fits Tryz.prog 32 av) : ∃ u : Ac, av = u.cs ∧ u.Ok := by
  obtain ⟨ass, rfl, hl, hf⟩ := fits_struct Tryz.underlying32 h
  match ass, hl, hf with
  | [a0, a1, a2, a3, a4], _, hf =>
    obtain ⟨n1, rfl⟩ := fits_int Tryz.underlying3 (hf 0 _ _ rfl rfl)
    obtain ⟨s1, rfl, h5⟩ := fits_str Tryz.underlying9 (hf 1 _ _ rfl rfl)
    obtain ⟨n2, rfl⟩ := fits_int Tryz.underlying3 (hf 2 _ _ rfl rfl)
    obtain ⟨sk, sd, se, rfl, h7⟩ := fit_start (hf 3 _ _ rfl rfl)
    obtain ⟨xs, t5, rfl, h9, hx⟩ := fits_sl Tryz.underlying30 (hf 4 _ _ rfl rfl)
    obtain ⟨l, rfl, hq⟩ := list_map (f := It.cs) fun x h => fit_item _ x (Nat.le_refl _) (hx x h)
    exact ⟨⟨n1, s1, n2, sk, sd, se, t5, l⟩, rfl, h5, h7, by simpa using h9, hq⟩

end Go.Am
