/- Each abstract operation does what the concrete one does: append, second part. Generic: no program in sight. -/
import Derived.Test.YtfhilbdpejljdaaGreatDoorA3
import Derived.Laws.RangeAny
import Derived.Laws.IdiomStrings
set_option linter.all false
namespace Go.Am
open Go

section
variable {P : Program} {G : Glo} {B : Nat → Bool} {w : World} {V : View} {s : St} {a : Act} {o : Oper} {l : Lab}

theorem zeroCells_size (z : Array Value) (n : Nat) : (Builtin.zeroCells z n).size = n * z.size := by simp [Builtin.zeroCells]

/-- The cells of a grown block. -/
theorem grown_get {sz n m k : Nat} {olds news : List Value} {zs : Array Value} (h1 : olds.length = n * sz) (h2 : news.length = m * sz) (h3 : zs.size = k) :
    (olds.toArray ++ news.toArray ++ zs).size = (n + m) * sz + k ∧ ∀ j, j < (n + m) * sz → ((olds.toArray ++ news.toArray ++ zs)[j]? : Option Value) = (olds ++ news)[j]? := by
  refine ⟨by simp [h1, h2, h3, Nat.add_mul], fun j hj => ?_⟩
  rw [Nat.add_mul] at hj
  rw [Array.getElem?_append, if_pos (by simp [h1, h2]; omega)]
  simp

/-- Rows behind rows. -/
theorem rows_append {xs ys : List (List Av)} {sz : Nat} {olds news : List Value} {x y : Value} (hx : Src P w V x sz xs olds) (hy : Src P w V y sz ys news) :
    (∀ r ∈ xs ++ ys, r.length = sz) ∧ ∀ (i j : Nat) r c, (xs ++ ys)[i]? = some r → r[j]? = some c → i * sz + j < (xs.length + ys.length) * sz ∧ ∃ v, (olds ++ news)[i * sz + j]? = some v ∧ v.oneCell' = true ∧ RelV V v c := by
  refine ⟨fun r hr => ?_, fun i j r c hr hc => ?_⟩
  · rcases List.mem_append.1 hr with q | q
    · exact hx.wide r q
    · exact hy.wide r q
  · have hj : j < sz := by
      have hm := List.mem_of_getElem? hr
      have : r.length = sz := by
        rcases List.mem_append.1 hm with q | q
        · exact hx.wide r q
        · exact hy.wide r q
      rw [← this]; exact (List.getElem?_eq_some_iff.1 hc).1
    have hi : i < xs.length + ys.length := by
      have := (List.getElem?_eq_some_iff.1 hr).1
      simpa using this
    have hlt : i * sz + j < (xs.length + ys.length) * sz := by
      have : (i + 1) * sz ≤ (xs.length + ys.length) * sz := Nat.mul_le_mul_right _ hi
      rw [Nat.add_mul, Nat.one_mul] at this
      omega
    refine ⟨hlt, ?_⟩
    rw [List.getElem?_append] at hr
    by_cases q : i < xs.length
    · rw [if_pos q] at hr
      obtain ⟨v, e1, e2, e3⟩ := hx.rows i j r c hr hc
      have hlt2 : i * sz + j < olds.length := (List.getElem?_eq_some_iff.1 e1).1
      exact ⟨v, by rw [List.getElem?_append_left hlt2]; exact e1, e2, e3⟩
    · rw [if_neg q] at hr
      obtain ⟨v, e1, e2, e3⟩ := hy.rows (i - xs.length) j r c hr hc
      refine ⟨v, ?_, e2, e3⟩
      have hge : xs.length * sz ≤ i * sz := Nat.mul_le_mul_right _ (by omega)
      rw [List.getElem?_append_right (by rw [hx.size]; omega), hx.size]
      have : i * sz + j - xs.length * sz = (i - xs.length) * sz + j := by rw [Nat.sub_mul]; omega
      rw [this]
      exact e1

theorem app_run {c : Call} {t u : TypeId} {x y : Operand} (ho : o.op = .call c) (hc : c.callee = .builtin .append) (ha : c.args = #[x, y]) (hT : c.argTypes = #[t, u]) {v : Value} {w' : World}
    (h : (Builtin.append_ #[t, u] o.type #[a.eval x, a.eval y]).run P w = .ok v w') : (execOp a.eval o).run P w = .ok (.value v) w' := by
  simp [execOp, ho, resolve, hc, ha, hT, invoke, builtin, h]

theorem getD_some {α : Type} {x : Option α} {d y : α} (h : x = some y) : x.getD d = y := by subst h; rfl

/-- What a slice of data is. -/
theorem sl_inv {base : Option Addr} {n cap : Nat} {x : Value} {xs : List (List Av)} {tk : Tk} (h : RelV V x (.sl xs tk)) (hx : x = .slice base n cap) :
    n ≤ cap ∧ cap ≤ maxL ∧ (tk = .nil ∨ tk = .full → cap = xs.length) ∧ ∀ id, tk = .own id → 0 < n → ∃ b o sz, base = some ⟨b, o, none⟩ ∧ (∀ x ∈ xs, x.length = sz) ∧
      (∃ f : Nat → Nat → Value, (∀ i j x c, xs[i]? = some x → x[j]? = some c → V.rd b (o + i * sz + j) = some (f i j) ∧ (f i j).oneCell' = true) ∧ ∀ i j x c, xs[i]? = some x → x[j]? = some c → RelV V.pu (f i j) c) ∧
      ∃ m c hw s, V.own id = some (m, c, hw, s) ∧ n ≤ m ∧ (n = m → b = c ∧ o + n * sz = hw ∧ o + cap * sz ≤ s) := by
  cases h with
  | slnil => cases hx; exact ⟨Nat.le_refl _, Nat.zero_le _, fun _ => rfl, fun id h => by cases h⟩
  | sl b o len cap xs tk sz f sp h1 h2 h3 h4 h5 h6 h7 h8 =>
    cases hx
    refine ⟨h2, h3, ?_, ?_⟩
    · rintro (rfl | rfl)
      · exact h7.elim
      · exact (show cap = _ from h7).trans h1.symm
    · rintro id rfl hn
      have := h8 (by omega)
      subst this
      exact ⟨b, o, sz, rfl, h4, ⟨f, h5, h6⟩, h7⟩

theorem sat_app (hs : Sim G w V s.H s.T) (hE : RelE V a.tmps s.e) {c : Call} {t u e : TypeId} {sz by_ : Nat} {x y : Operand} {z : List Av} {dx dy : Od} (ho : o.op = .call c) (hc : c.callee = .builtin .append) (ha : c.args = #[x, y]) (hT : c.argTypes = #[t, u])
    (ht : P.underlying t = some (.slice e)) (hu : Plain P u) (hz : szT P e = some sz) (hb : byT P e = some by_) (hzero : zeroC P e = some z) (hzl : z.length = sz) (hx : odC G x = some dx) (hy : odC G y = some dy)
    (h : evalOp (.app sz by_ dx dy) s = some l) : OpSat P G w V s a o l := by
  have rx := od_sound hs hE hx
  have ry := od_sound hs hE hy
  obtain ⟨inf, zv, hinf, hzv, hzc⟩ := zero_rel hzero
  have hsz : inf.size = sz := by simp only [szT, hinf, Option.map_some, Option.some.injEq] at hz; exact hz
  have hby : inf.bytes = by_ := by simp only [byT, hinf, Option.map_some, Option.some.injEq] at hb; exact hb
  have hzsz : zv.cells.size = sz := by rw [← hzl]; exact (hzc V).1
  simp only [evalOp, appA] at h
  split at h
  · rename_i xs tk ys hv hn
    split at h
    · rename_i hcond
      obtain ⟨hwide, hroom⟩ := hcond
      split at h
      · rename_i tk' T' htok
        cases h
        rw [hv] at rx
        obtain ⟨news, hnews⟩ := newsP_sound (P := P) hs ry hn
        obtain ⟨olds, holds⟩ := src_sl (P := P) hs rx hwide
        obtain ⟨base, cap, hval⟩ := relSl rx
        obtain ⟨hcap1, hcap2, hfull, hown⟩ := sl_inv rx hval
        by_cases h0 : ys.length = 0
        · -- nothing is appended
          have hys : ys = [] := List.eq_nil_of_length_eq_zero h0
          subst hys
          have htk : tk' = tk ∧ T' = s.T := by
            unfold appTok at htok
            simp only [List.length_nil, if_true] at htok
            split at htok <;> (simp only [Option.some.injEq, Prod.mk.injEq] at htok; exact ⟨htok.1.symm, htok.2.symm⟩)
          obtain ⟨rfl, rfl⟩ := htk
          have hrun := append_same (ty := o.type) (P := P) (w := w) (V := V.pu) (base := base) (n := xs.length) (k := cap) ht hu hz hnews rfl hcap1
          rw [← hval] at hrun
          refine ⟨_, w, V, .inl (app_run ho hc ha hT hrun), .refl V, .refl w V, hs, ?_⟩
          rw [List.append_nil]
          exact rx
        · -- a new block, or the old one's free cells
          have hgrow : cap < xs.length + ys.length → ∀ (i : Nat), ((i = s.T.length ∧ T' = s.T ++ [xs.length + ys.length]) ∨ ∃ n c hh s', V.own i = some (n, c, hh, s') ∧ n ≤ xs.length + ys.length ∧ n ≠ xs.length + ys.length ∧ T' = s.T.set i (xs.length + ys.length)) → tk' = .own i →
              OpSat P G w V s a o { v := .sl (xs ++ ys) tk', T := some T' } := by
            intro hlt i hi htk
            subst htk
            rw [← hsz] at holds hnews hzsz
            rw [hval] at holds
            obtain ⟨cap', c1, c2, hrun⟩ := append_grow (ty := o.type) (w := w) (V := V.pu) ht hu hinf hzv holds rfl hnews hlt (by rw [hby]; exact hroom)
            rw [← hval] at hrun
            obtain ⟨g1, g2⟩ := grown_get (zs := Builtin.zeroCells zv.cells (cap' - (xs.length + ys.length))) holds.size hnews.size rfl
            obtain ⟨r1, r2⟩ := rows_append holds hnews
            rw [zeroCells_size, hzsz] at g1
            generalize hcells : olds.toArray ++ news.toArray ++ Builtin.zeroCells zv.cells (cap' - (xs.length + ys.length)) = cells at hrun g1 g2
            have hnewcell : ∀ j, ((w.drew).alloc (.cells cells e)).cell? ⟨w.heap.size, j, none⟩ = cells[j]? := fun j => World.cell?_alloc_new w.drew cells e j
            have hsize : cap' * inf.size = cells.size := by rw [g1, ← Nat.add_mul]; congr 1; omega
            have hsize' : (xs.length + ys.length) * inf.size ≤ cells.size := by rw [g1]; exact Nat.le_add_right _ _
            obtain ⟨k1, k2, k3⟩ := hs.token (w' := (w.drew).alloc (.cells cells e)) (i := i) (n' := xs.length + ys.length) (c' := w.heap.size) (h' := (xs.length + ys.length) * inf.size) (s' := cells.size) (T' := T')
              (rd' := fun c' o' => if c' = w.heap.size ∧ o' < (xs.length + ys.length) * inf.size then nt cells[o']? else V.rd c' o')
              (by
                rcases hi with hi | ⟨n, c, hh, s', e1, e2, e3, e4⟩
                · exact .inl hi
                · exact .inr ⟨n, c, hh, s', e1, e2, fun q => absurd q e3, e4⟩)
              (.inl rfl)
              (fun c' o' v hv => by have := hs.rd_lt hv; show (if _ then _ else _) = _; rw [if_neg (by omega)]; exact hv)
              (fun c' o' hne => by show (if _ then _ else _) = _; rw [if_neg (by omega)])
              (fun o' v hv => by
                simp only at hv
                by_cases q : o' < (xs.length + ys.length) * inf.size
                · rw [if_pos ⟨trivial, q⟩] at hv; rw [hnewcell]; exact hv
                · rw [if_neg (by omega)] at hv; have := hs.rd_lt hv; omega)
              (by simp) (fun k hk _ => heap_alloc_old w.drew _ k hk) rfl rfl rfl
              ⟨cells, e, heap_alloc_new w.drew _, rfl, hsize', fun o' ho' => by show (if _ then _ else _) = _; rw [if_neg (by omega)]; exact hs.rd_new (Nat.le_refl _) _⟩
            refine ⟨_, _, _, .inl (app_run ho hc ha hT hrun), k1, k2, k3, ?_⟩
            refine .sl _ 0 _ _ _ _ inf.size (fun i j => ((olds ++ news)[i * inf.size + j]?).getD undef) none (by simp) c1 c2 r1 ?_ ?_ ?_ (fun _ => rfl)
            · intro i' j r c' hr hc'
              obtain ⟨q1, v, q2, q3, q4⟩ := r2 i' j r c' hr hc'
              refine ⟨?_, by rw [getD_some q2]; exact q3⟩
              show (if _ then _ else _) = _
              rw [Nat.zero_add, if_pos ⟨rfl, q1⟩, g2 _ q1, q2]; exact nt_one q3
            · intro i' j r c' hr hc'
              obtain ⟨q1, v, q2, q3, q4⟩ := r2 i' j r c' hr hc'
              show RelV _ (((olds ++ news)[i' * inf.size + j]?).getD undef) c'
              rw [getD_some q2]
              exact q4.mono k1.pu
            · exact ⟨xs.length + ys.length, w.heap.size, (xs.length + ys.length) * inf.size, cells.size, by simp [View.token], Nat.le_refl _, fun _ => ⟨rfl, by simp, by simp [hsize]⟩⟩
          have h0' : 0 < ys.length := Nat.pos_of_ne_zero h0
          cases tk with
          | any => simp [appTok, h0] at htok
          | nil =>
            simp only [appTok, if_neg h0, Option.some.injEq, Prod.mk.injEq] at htok
            have := hfull (.inl rfl)
            exact hgrow (by omega) _ (.inl ⟨rfl, htok.2.symm⟩) htok.1.symm
          | full =>
            simp only [appTok, if_neg h0, Option.some.injEq, Prod.mk.injEq] at htok
            have := hfull (.inr rfl)
            exact hgrow (by omega) _ (.inl ⟨rfl, htok.2.symm⟩) htok.1.symm
          | own id =>
            simp only [appTok, if_neg h0] at htok
            split at htok
            · rename_i hid
              obtain ⟨hid, hne⟩ := hid
              simp only [Option.some.injEq, Prod.mk.injEq] at htok
              obtain ⟨rfl, rfl⟩ := htok
              obtain ⟨b, p, sz', rfl, q1, ⟨f, q2, q2'⟩, m, c', hw, S, q3, q4, q5⟩ := hown id rfl (Nat.pos_of_ne_zero hne)
              obtain ⟨c'', hw', S', cur, E, t1, t2, t3, t4, t5⟩ := hs.tok id _ hid
              rw [q3] at t1
              cases t1
              obtain ⟨rfl, rfl, q6⟩ := q5 rfl
              have hsz' : sz' = sz := by
                obtain ⟨r, hr⟩ : ∃ r, r ∈ xs := by
                  cases xs with
                  | nil => exact absurd rfl hne
                  | cons r _ => exact ⟨r, by simp⟩
                rw [← q1 r hr]; exact wide_mem hwide hr
              subst hsz'
              by_cases hlt : cap < xs.length + ys.length
              · exact hgrow hlt id (.inr ⟨_, _, _, _, q3, by omega, by omega, rfl⟩) rfl
              · have hle : xs.length + ys.length ≤ cap := by omega
                have hfit : p + xs.length * sz' + news.length ≤ cur.size := by
                  rw [hnews.size, t3]
                  have : (xs.length + ys.length) * sz' ≤ cap * sz' := Nat.mul_le_mul_right _ hle
                  rw [Nat.add_mul] at this
                  omega
                have hrun := append_room (ty := o.type) (P := P) (V := V.pu) ht hu hz hnews hle t2 hfit
                rw [← hval] at hrun
                have hfit' : p + xs.length * sz' + ys.length * sz' ≤ cur.size := by rw [← hnews.size]; exact hfit
                obtain ⟨cur', hcur'⟩ : ∃ cur' : Array Value, cur' = (cur.toList.take (p + xs.length * sz') ++ news ++ cur.toList.drop (p + xs.length * sz' + news.length)).toArray := ⟨_, rfl⟩
                rw [← hcur'] at hrun
                obtain ⟨s1, s2⟩ := store_cells (cells := cur) (vs := news) (k := p + xs.length * sz') hfit
                rw [← hcur'] at s1 s2
                have hnews' : ∀ j, j < news.length → cur'[p + xs.length * sz' + j]? = news[j]? := fun j hj => by
                  rw [s2, if_pos (by omega)]; congr 1; omega
                have hold' : ∀ j, j < p + xs.length * sz' → cur'[j]? = cur[j]? := fun j hj => by rw [s2, if_neg (by omega)]
                have hlt' : b < w.heap.size := heap_lt t2
                have hcellnew : ∀ j, (w.setRow b cur').cell? ⟨b, j, none⟩ = cur'[j]? := fun j => by
                  have := setRow_heap w b cur cur' E (0, 0) t2
                  simp [World.cell?, this]
                obtain ⟨k1, k2, k3⟩ := hs.token (w' := w.setRow b cur') (i := id) (n' := xs.length + ys.length) (c' := b) (h' := p + (xs.length + ys.length) * sz') (s' := S) (T' := s.T.set id (xs.length + ys.length))
                  (rd' := fun c' o' => if c' = b ∧ p + xs.length * sz' ≤ o' ∧ o' < p + (xs.length + ys.length) * sz' then nt cur'[o']? else V.rd c' o')
                  (.inr ⟨_, _, _, _, q3, by omega, fun q => by omega, rfl⟩)
                  (.inr ⟨_, _, _, q3⟩)
                  (fun c' o' v hv => by
                    show (if _ then _ else _) = _
                    rw [if_neg]
                    · exact hv
                    · rintro ⟨rfl, g1, g2⟩
                      rw [t5 _ g1] at hv; cases hv)
                  (fun c' o' hne => by show (if _ then _ else _) = _; rw [if_neg (fun q => hne q.1)])
                  (fun o' v hv => by
                    simp only at hv
                    rw [hcellnew]
                    split at hv
                    · exact hv
                    · rename_i hq
                      have hlo : o' < p + xs.length * sz' := by
                        rcases Nat.lt_or_ge o' (p + xs.length * sz') with g | g
                        · exact g
                        · rw [t5 _ g] at hv; cases hv
                      rw [hold' _ hlo]
                      have := hs.rd _ _ _ hv
                      rw [seen_cells t2] at this
                      simpa [World.cell?, t2] using this)
                  (by rw [setRow_size]; exact Nat.le_refl _) (fun k hk hne => setRow_other w b k cur' hne) rfl rfl rfl
                  ⟨cur', E, setRow_heap w b cur cur' E (0, 0) t2, by rw [s1, t3], by rw [← t3, Nat.add_mul]; omega, fun o' ho' => by
                    show (if _ then _ else _) = _
                    rw [if_neg (by omega)]
                    refine t5 _ ?_
                    rw [Nat.add_mul] at ho'
                    omega⟩
                refine ⟨_, _, _, .inl (app_run ho hc ha hT hrun), k1, k2, k3, ?_⟩
                refine .sl _ p _ _ _ _ sz' (fun i j => if i < xs.length then f i j else (news[(i - xs.length) * sz' + j]?).getD undef) none (by simp) hle hcap2 ?_ ?_ ?_ ?_ (fun _ => rfl)
                · intro r hr
                  rcases List.mem_append.1 hr with g | g
                  · exact q1 r g
                  · exact hnews.wide r g
                · intro i j r c' hr hc'
                  by_cases hi : i < xs.length
                  · simp only [if_pos hi]
                    rw [List.getElem?_append_left hi] at hr
                    obtain ⟨e1, e2⟩ := q2 i j r c' hr hc'
                    exact ⟨k1.rd _ _ _ e1, e2⟩
                  · simp only [if_neg hi]
                    rw [List.getElem?_append_right (by omega)] at hr
                    obtain ⟨v, e1, e2, e3⟩ := hnews.rows _ j r c' hr hc'
                    rw [getD_some e1]
                    refine ⟨?_, e2⟩
                    have hlt2 := (List.getElem?_eq_some_iff.1 e1).1
                    have hpos : p + i * sz' + j = p + xs.length * sz' + ((i - xs.length) * sz' + j) := by
                      have : xs.length * sz' + (i - xs.length) * sz' = i * sz' := by rw [← Nat.add_mul]; congr 1; omega
                      omega
                    show (if _ then _ else _) = _
                    rw [hpos, if_pos ⟨rfl, by omega, by rw [Nat.add_mul, ← hnews.size]; omega⟩, hnews' _ hlt2, e1]; exact nt_one e2
                · intro i j r c' hr hc'
                  by_cases hi : i < xs.length
                  · simp only [if_pos hi]
                    rw [List.getElem?_append_left hi] at hr
                    exact (q2' i j r c' hr hc').mono k1.pu
                  · simp only [if_neg hi]
                    rw [List.getElem?_append_right (by omega)] at hr
                    obtain ⟨v, e1, e2, e3⟩ := hnews.rows _ j r c' hr hc'
                    rw [getD_some e1]
                    exact e3.mono k1.pu
                · exact ⟨xs.length + ys.length, b, p + (xs.length + ys.length) * sz', S, by simp [View.token], Nat.le_refl _, fun _ => ⟨rfl, rfl, q6⟩⟩
            · cases htok
      · cases h
    · cases h
  · cases h

end
end Go.Am

namespace Go.Am
open Go

section
variable {P : Program} {G : Glo} {B : Nat → Bool} {w : World} {V : View} {s : St} {a : Act} {o : Oper} {l : Lab}

theorem relBs {x : Value} {b ver sz off len : Nat} (h : RelV V x (.bs b ver sz off len)) : BsOk V x b ver sz off len := by
  cases h; assumption

theorem sat_appB (hs : Sim G w V s.H s.T) (hE : RelE V a.tmps s.e) {c : Call} {t u e : TypeId} {sz by_ : Nat} {x y : Operand} {z : List Av} {dx dy : Od} (ho : o.op = .call c) (hc : c.callee = .builtin .append) (ha : c.args = #[x, y]) (hT : c.argTypes = #[t, u])
    (ht : P.underlying t = some (.slice e)) (hu : Plain P u) (hz : szT P e = some sz) (hb : byT P e = some by_) (hzero : zeroC P e = some z) (hzl : z.length = sz) (hx : odC G x = some dx) (hy : odC G y = some dy)
    (h : evalOp (.appB sz by_ dx dy) s = some l) : OpSat P G w V s a o l := by
  have rx := od_sound hs hE hx
  have ry := od_sound hs hE hy
  obtain ⟨inf, zv, hinf, hzv, hzc⟩ := zero_rel hzero
  have hsz : inf.size = sz := by simp only [szT, hinf, Option.map_some, Option.some.injEq] at hz; exact hz
  have hby : inf.bytes = by_ := by simp only [byT, hinf, Option.map_some, Option.some.injEq] at hb; exact hb
  have hzsz : zv.cells.size = sz := by rw [← hzl]; exact (hzc V).1
  -- a new block
  have hnew : ∀ {base : Option Addr} {n cap : Nat} {xs ys : List (List Av)} {olds news : List Value}, a.eval x = .slice base n cap → xs.length = n → Src P w V (a.eval x) sz xs olds → Src P w V (a.eval y) sz ys news → cap < n + ys.length → (n + ys.length) * (by_ + 1) ≤ room →
      ∃ cells cap', n + ys.length ≤ cap' ∧ cap' ≤ maxL ∧ cap' * sz = cells.size ∧ (∀ V' : View, V.Le V' → RowsIn V' cells sz (xs ++ ys)) ∧ (execOp a.eval o).run P w = .ok (.value (.slice (some ⟨w.heap.size, 0, none⟩) (n + ys.length) cap')) ((w.drew).alloc (.cells cells e)) := by
    intro base n cap xs ys olds news hval hn holds hnews hlt hroom
    subst hn
    rw [← hsz] at holds hnews hzsz
    rw [hval] at holds
    obtain ⟨cap', c1, c2, hrun⟩ := append_grow (ty := o.type) (w := w) (V := V) ht hu hinf hzv holds rfl hnews hlt (by rw [hby]; exact hroom)
    rw [← hval] at hrun
    obtain ⟨g1, g2⟩ := grown_get (zs := Builtin.zeroCells zv.cells (cap' - (xs.length + ys.length))) holds.size hnews.size rfl
    obtain ⟨r1, r2⟩ := rows_append holds hnews
    rw [zeroCells_size, hzsz] at g1
    refine ⟨_, cap', c1, c2, ?_, ?_, app_run ho hc ha hT hrun⟩
    · rw [g1, ← Nat.add_mul, ← hsz]; congr 1; omega
    · intro V' hle
      rw [← hsz]
      refine ⟨r1, fun i j r c' hr hc' => ?_⟩
      obtain ⟨q1, v, q2, q3, q4⟩ := r2 i j r c' hr hc'
      exact ⟨v, by rw [g2 _ q1]; exact q2, q3, q4.mono hle⟩
  simp only [evalOp, appBA] at h
  split at h
  · -- to data
    rename_i xs tk ys hv hn
    split at h
    · rename_i hcond
      obtain ⟨hwide, hroom⟩ := hcond
      rw [hv] at rx
      obtain ⟨news, hnews⟩ := news_sound (P := P) hs ry hn
      obtain ⟨olds, holds0⟩ := src_sl (P := P) hs rx hwide
      have holds := holds0.mono V.pu_le
      obtain ⟨base, cap, hval⟩ := relSl rx
      obtain ⟨hcap1, hcap2, hfull, _⟩ := sl_inv rx hval
      have key : (tk = .nil ∨ tk = .full) → (if ys.length = 0 then some ({ v := .sl xs tk } : Lab) else some { v := .bs s.H.length 0 sz 0 (xs.length + ys.length), d := .push (.rows sz (xs ++ ys) 0) }) = some l → OpSat P G w V s a o l := by
        intro htk h
        by_cases h0 : ys.length = 0
        · rw [if_pos h0] at h
          cases h
          have hrun := append_same (ty := o.type) (P := P) (w := w) (V := V) (base := base) (n := xs.length) (k := cap) ht hu hz hnews h0 hcap1
          rw [← hval] at hrun
          exact ⟨_, w, V, .inl (app_run ho hc ha hT hrun), .refl V, .refl w V, hs, rx⟩
        · rw [if_neg h0] at h
          cases h
          have h0' : 0 < ys.length := Nat.pos_of_ne_zero h0
          have hf := hfull htk
          obtain ⟨cells, cap', d1, d2, d3, d4, d5⟩ := hnew hval rfl holds hnews (by omega) hroom
          have hs' : Sim G w.drew V s.H s.T := hs.heap rfl
          obtain ⟨k1, k2, k3, k4⟩ := sat_push (s := s) (E := e) hs' (d4 V (.refl V))
          refine ⟨_, _, _, .inl d5, k1, Keep.trans (w1 := w.drew) (V1 := V) (Keep.heap rfl rfl rfl rfl) k2, k3, .bs _ _ _ _ _ _ ⟨_, _, _, k4, Nat.le_refl _, _, _, _, rfl, d1, d2, fun _ => ⟨rfl, fun _ => by simp, by simp [d3]⟩⟩⟩
      cases tk with
      | nil => exact key (.inl rfl) h
      | full => exact key (.inr rfl) h
      | any => cases h
      | own id => cases h
    · cases h
  · -- to a block
    rename_i b ver z' off len ys hv hn
    split at h
    · rename_i s' rs v hH
      split at h
      · rename_i hcond
        obtain ⟨rfl, rfl, rfl, hpos, hlen, hroom⟩ := hcond
        rw [hv] at rx
        obtain ⟨news, hnews⟩ := news_sound (P := P) hs ry hn
        have hrows : rowsOf s.H b v = some (s', rs) := by simp [rowsOf, hH]
        obtain ⟨c1, now, S1, p1, p2, x', o', cap, hval, p3, p4, p5⟩ := relBs rx
        obtain ⟨c2, S2, cells, E, t1, t2, t3, t4, t5⟩ := hs.blk b _ hH
        rw [t1] at p1
        have hz' : z' = s' := by simp only [Option.some.injEq, Prod.mk.injEq] at p1; exact p1.2.1.symm
        subst hz'
        simp only [Option.some.injEq, Prod.mk.injEq, true_and] at p1
        obtain ⟨rfl, rfl, rfl⟩ := p1
        obtain ⟨rfl, p6, p7⟩ := p5 rfl
        obtain ⟨olds, holds⟩ := src_bs (P := P) hs rx hrows (by omega)
        rw [Nat.zero_add] at p7
        simp only [Nat.zero_mul] at p6
        have hol : (List.take len (List.drop 0 rs)).length = len := by simp; omega
        by_cases h0 : ys.length = 0
        · rw [if_pos h0] at h
          cases h
          have hrun := append_same (ty := o.type) (P := P) (w := w) (V := V) (base := some ⟨x', o', none⟩) (n := len) (k := cap) ht hu hz hnews h0 p3
          rw [← hval] at hrun
          exact ⟨_, w, V, .inl (app_run ho hc ha hT hrun), .refl V, .refl w V, hs, rx⟩
        · rw [if_neg h0] at h
          cases h
          have h0' : 0 < ys.length := Nat.pos_of_ne_zero h0
          by_cases hlt : cap < len + ys.length
          · -- a new concrete block
            obtain ⟨cells', cap', d1, d2, d3, d4, d5⟩ := hnew hval hol holds hnews hlt hroom
            have hle : V.Le (V.setBlk b w.heap.size z' (v + 1) cells'.size) := by
              refine ⟨fun _ _ _ e => e, fun i c' z m t' e => ?_, fun i m c hh t' e => ⟨m, c, hh, t', e, Nat.le_refl _, fun _ => ⟨rfl, rfl, rfl⟩⟩⟩
              by_cases hi : i = b
              · subst hi; rw [t1] at e; cases e; exact ⟨w.heap.size, v + 1, cells'.size, by simp [View.setBlk], by omega, fun q => by omega⟩
              · exact ⟨c', m, t', by simp only [View.setBlk]; rw [if_neg hi]; exact e, Nat.le_refl _, fun _ => ⟨rfl, rfl⟩⟩
            obtain ⟨q1, q2, q3⟩ := hs.turn (w' := (w.drew).alloc (.cells cells' e)) (o' := .rows z' (rs.take len ++ ys) (v + 1)) t1 (n' := v + 1) (c' := w.heap.size) (s' := cells'.size) (by omega) (fun q => by omega) (.inr rfl)
              (by simp) (by simp) (fun k hk _ => heap_alloc_old w.drew _ k hk) t5 rfl rfl rfl
              ⟨w.heap.size, cells'.size, cells', e, by simp [View.setBlk], heap_alloc_new w.drew _, rfl, by simpa using d4 _ hle, fun x => hs.rd_new (Nat.le_refl _) x⟩
            refine ⟨_, _, _, .inl d5, q1, q2, q3, .bs _ _ _ _ _ _ ⟨w.heap.size, v + 1, cells'.size, by simp [View.setBlk], Nat.le_refl _, _, _, _, rfl, d1, d2, fun _ => ⟨rfl, fun _ => by simp, by rw [Nat.zero_add, d3]; exact Nat.le_refl _⟩⟩⟩
          · -- in place
            have hle : len + ys.length ≤ cap := by omega
            have ho' : o' = 0 := p6 (by omega)
            subst ho'
            have hfit : 0 + len * z' + news.length ≤ cells.size := by
              rw [hnews.size, t3]
              have : (len + ys.length) * z' ≤ cap * z' := Nat.mul_le_mul_right _ hle
              rw [Nat.add_mul] at this
              omega
            have hrun := append_room (ty := o.type) (P := P) (V := V) ht hu hz hnews hle t2 hfit
            rw [← hval] at hrun
            obtain ⟨cur', hcur'⟩ : ∃ cur' : Array Value, cur' = (cells.toList.take (0 + len * z') ++ news ++ cells.toList.drop (0 + len * z' + news.length)).toArray := ⟨_, rfl⟩
            rw [← hcur'] at hrun
            obtain ⟨s1, s2⟩ := store_cells (cells := cells) (vs := news) (k := 0 + len * z') hfit
            rw [← hcur'] at s1 s2
            have hheap := setRow_heap w x' cells cur' E (0, 0) t2
            have hrowsIn : ∀ V' : View, V.Le V' → RowsIn V' cur' z' (rs.take len ++ ys) := by
              intro V' hV
              refine ⟨fun r hr => ?_, fun i j r c' hr hc' => ?_⟩
              · rcases List.mem_append.1 hr with g | g
                · exact t4.1 r (List.mem_of_mem_take g)
                · exact hnews.wide r g
              · have hjz : j < z' := by
                  have hm := List.mem_of_getElem? hr
                  have : r.length = z' := by
                    rcases List.mem_append.1 hm with g | g
                    · exact t4.1 r (List.mem_of_mem_take g)
                    · exact hnews.wide r g
                  rw [← this]; exact (List.getElem?_eq_some_iff.1 hc').1
                have htl : (rs.take len).length = len := by simp; omega
                by_cases hi : i < len
                · rw [List.getElem?_append_left (by omega), List.getElem?_take, if_pos hi] at hr
                  obtain ⟨u', e1, e2, e3⟩ := t4.2 i j r c' hr hc'
                  refine ⟨u', ?_, e2, e3.mono hV⟩
                  have : (i + 1) * z' ≤ len * z' := Nat.mul_le_mul_right _ hi
                  rw [Nat.add_mul] at this
                  rw [s2, if_neg (by omega)]
                  exact e1
                · rw [List.getElem?_append_right (by omega), htl] at hr
                  obtain ⟨u', e1, e2, e3⟩ := hnews.rows _ j r c' hr hc'
                  refine ⟨u', ?_, e2, e3.mono hV⟩
                  have hlt2 := (List.getElem?_eq_some_iff.1 e1).1
                  have hadd : len * z' + (i - len) * z' = i * z' := by rw [← Nat.add_mul]; congr 1; omega
                  rw [s2, if_pos (by omega), ← e1]
                  congr 1
                  omega
            have hVle : V.Le (V.setBlk b x' z' (v + 1) S2) := by
              refine ⟨fun _ _ _ e => e, fun i c' z m t' e => ?_, fun i m c hh t' e => ⟨m, c, hh, t', e, Nat.le_refl _, fun _ => ⟨rfl, rfl, rfl⟩⟩⟩
              by_cases hi : i = b
              · subst hi; rw [t1] at e; cases e; exact ⟨x', v + 1, S2, by simp [View.setBlk], by omega, fun _ => ⟨rfl, rfl⟩⟩
              · exact ⟨c', m, t', by simp only [View.setBlk]; rw [if_neg hi]; exact e, Nat.le_refl _, fun _ => ⟨rfl, rfl⟩⟩
            obtain ⟨q1, q2, q3⟩ := hs.turn (w' := w.setRow x' cur') (o' := .rows z' (rs.take len ++ ys) (v + 1)) t1 (n' := v + 1) (c' := x') (s' := S2) (by omega) (fun _ => ⟨rfl, rfl⟩) (.inl rfl)
              (by rw [setRow_size]; exact heap_lt t2) (by rw [setRow_size]; exact Nat.le_refl _) (fun k _ hk => setRow_other w x' k cur' hk) t5 rfl rfl rfl
              ⟨x', S2, cur', E, by simp [View.setBlk], hheap, by rw [s1, t3], hrowsIn _ hVle, t5⟩
            refine ⟨_, _, _, .inl (app_run ho hc ha hT hrun), q1, q2, q3, .bs _ _ _ _ _ _ ⟨x', v + 1, S2, by simp [View.setBlk], Nat.le_refl _, _, _, _, rfl, hle, p4, fun _ => ⟨rfl, fun _ => by simp, by rw [Nat.zero_add]; exact p7⟩⟩⟩
      · cases h
    · cases h
  · cases h

end
end Go.Am

namespace Go.Am
open Go

section
variable {P : Program} {G : Glo} {B : Nat → Bool} {w : World} {V : View} {s : St} {a : Act} {o : Oper} {l : Lab}

theorem copy_run {c : Call} {t u : TypeId} {x y : Operand} (ho : o.op = .call c) (hc : c.callee = .builtin .copy) (ha : c.args = #[x, y]) (hT : c.argTypes = #[t, u]) {v : Value} {w' : World}
    (h : (Builtin.copy_ #[t, u] o.type #[a.eval x, a.eval y]).run P w = .ok v w') : (execOp a.eval o).run P w = .ok (.value v) w' := by
  simp [execOp, ho, resolve, hc, ha, hT, invoke, builtin, h]

/-- Rows laid over rows. -/
theorem rows_over {cells cells' : Array Value} {sz off n : Nat} {rs ys : List (List Av)} {news : List Value} (hr : RowsIn V cells sz rs) (hoff : off + ys.length ≤ rs.length) (hn : ys.length = n) (hlen : news.length = n * sz)
    (hw : ∀ r ∈ ys, r.length = sz) (hy : ∀ (i j : Nat) r c, ys[i]? = some r → r[j]? = some c → ∃ v, news[i * sz + j]? = some v ∧ v.oneCell' = true ∧ RelV V v c)
    (hc : ∀ j : Nat, (cells'[j]? : Option Value) = if off * sz ≤ j ∧ j < off * sz + news.length then news[j - off * sz]? else cells[j]?) :
    RowsIn V cells' sz (rs.take off ++ ys ++ rs.drop (off + n)) := by
  subst hn
  have htl : (rs.take off).length = off := by simp; omega
  refine ⟨fun r hr' => ?_, fun i j r c hr' hc' => ?_⟩
  · rcases List.mem_append.1 hr' with g | g
    · rcases List.mem_append.1 g with g | g
      · exact hr.1 r (List.mem_of_mem_take g)
      · exact hw r g
    · exact hr.1 r (List.mem_of_mem_drop g)
  · have hjz : j < sz := by
      have hm := List.mem_of_getElem? hr'
      have : r.length = sz := by
        rcases List.mem_append.1 hm with g | g
        · rcases List.mem_append.1 g with g | g
          · exact hr.1 r (List.mem_of_mem_take g)
          · exact hw r g
        · exact hr.1 r (List.mem_of_mem_drop g)
      rw [← this]; exact (List.getElem?_eq_some_iff.1 hc').1
    by_cases h1 : i < off
    · rw [List.append_assoc, List.getElem?_append_left (by omega), List.getElem?_take, if_pos h1] at hr'
      obtain ⟨u, e1, e2, e3⟩ := hr.2 i j r c hr' hc'
      refine ⟨u, ?_, e2, e3⟩
      have : (i + 1) * sz ≤ off * sz := Nat.mul_le_mul_right _ h1
      rw [Nat.add_mul] at this
      rw [hc, if_neg (by omega)]
      exact e1
    · by_cases h2 : i < off + ys.length
      · rw [List.append_assoc, List.getElem?_append_right (by omega), List.getElem?_append_left (by omega), htl] at hr'
        obtain ⟨u, e1, e2, e3⟩ := hy _ j r c hr' hc'
        refine ⟨u, ?_, e2, e3⟩
        have hlt2 := (List.getElem?_eq_some_iff.1 e1).1
        have hadd : off * sz + (i - off) * sz = i * sz := by rw [← Nat.add_mul]; congr 1; omega
        rw [hc, if_pos (by omega), ← e1]
        congr 1
        omega
      · rw [List.getElem?_append_right (by simp; omega), List.getElem?_drop] at hr'
        have hidx : off + ys.length + (i - (rs.take off ++ ys).length) = i := by simp; omega
        rw [hidx] at hr'
        obtain ⟨u, e1, e2, e3⟩ := hr.2 i j r c hr' hc'
        refine ⟨u, ?_, e2, e3⟩
        have : (off + ys.length) * sz ≤ i * sz := Nat.mul_le_mul_right _ (by omega)
        rw [Nat.add_mul] at this
        rw [hc, if_neg (by omega)]
        exact e1

theorem sat_copy (hs : Sim G w V s.H s.T) (hE : RelE V a.tmps s.e) {c : Call} {t u e : TypeId} {sz : Nat} {x y : Operand} {dx dy : Od} (ho : o.op = .call c) (hc : c.callee = .builtin .copy) (ha : c.args = #[x, y]) (hT : c.argTypes = #[t, u])
    (ht : P.underlying t = some (.slice e)) (hz : szT P e = some sz) (hx : odC G x = some dx) (hy : odC G y = some dy)
    (h : evalOp (.copy sz dx dy) s = some l) : OpSat P G w V s a o l := by
  have rx := od_sound hs hE hx
  have ry := od_sound hs hE hy
  simp only [evalOp] at h
  split at h
  · rename_i b ver z' off len ys hv hn
    split at h
    · rename_i s' rs v hH
      split at h
      · rename_i hcond
        obtain ⟨rfl, rfl, hfit⟩ := hcond
        cases h
        rw [hv] at rx
        obtain ⟨news, hnews⟩ := news_sound (P := P) hs ry hn
        obtain ⟨c1, now, S1, p1, p2, x', o', cap, hval, p3, p4, p5⟩ := relBs rx
        obtain ⟨c2, S2, cells, E, t1, t2, t3, t4, t5⟩ := hs.blk b _ hH
        rw [t1] at p1
        have hz' : z' = s' := by simp only [Option.some.injEq, Prod.mk.injEq] at p1; exact p1.2.1.symm
        subst hz'
        simp only [Option.some.injEq, Prod.mk.injEq, true_and] at p1
        obtain ⟨rfl, rfl, rfl⟩ := p1
        obtain ⟨rfl, p6, p7⟩ := p5 rfl
        have h1 := hnews.len w rfl
        obtain ⟨n, hnn⟩ : ∃ n, n = min ys.length len := ⟨_, rfl⟩
        have hnn' : Nat.min ys.length len = n := hnn.symm
        rw [← hnn]
        have h2 := hnews.part n (by omega)
        have htk : ys.take len = ys.take n := by rw [hnn, List.take_eq_take_iff]; omega
        rw [htk]
        have hmax : n ≤ maxL := by omega
        rcases Nat.eq_zero_or_pos n with hn0 | hn0
        · -- nothing is copied
          subst hn0
          have hrs : rs.take off ++ ys.take 0 ++ rs.drop (off + 0) = rs := by simp
          rw [hrs]
          have hset : s.H.set b (.rows z' rs v) = s.H := by
            apply List.ext_getElem?
            intro i
            rw [List.getElem?_set]
            split
            · rename_i hi; subst hi; split
              · exact hH.symm
              · rename_i hq; rw [List.getElem?_eq_none (by omega)]
            · rfl
          have hrun : (Builtin.copy_ #[t, u] o.type #[a.eval x, a.eval y]).run P w = .ok (goInt 0) w := by
            rw [hval]
            simp only [Nat.zero_mul, List.take_zero] at h2
            simp [Builtin.copy_, run_underlying ht, run_sizeOf (w := w) hz, h1, hnn', h2, storeCells]
          refine ⟨_, w, V, .inl (copy_run ho hc ha hT hrun), .refl V, .refl w V, ?_, len_int hmax⟩
          show Sim G w V (s.H.set b (.rows z' rs v)) s.T
          rw [hset]; exact hs
        · have ho' := p6 (by omega)
          subst ho'
          have hnl : (news.take (n * z')).length = n * z' := by
            rw [List.length_take, hnews.size, Nat.min_eq_left]
            exact Nat.mul_le_mul_right _ (by omega)
          have hfitc : off * z' + (news.take (n * z')).length ≤ cells.size := by
            rw [hnl, t3, ← Nat.add_mul]
            refine Nat.le_trans ?_ p7
            exact Nat.mul_le_mul_right _ (by omega)
          have hst := run_storeCells_at (P := P) x' (off * z') E (news.take (n * z')) 0 cells w t2 (by simpa using hfitc) (fun v hv => hnews.one v (List.mem_of_mem_take hv))
          simp only [Nat.add_zero] at hst
          have hrun : (Builtin.copy_ #[t, u] o.type #[a.eval x, a.eval y]).run P w = .ok (goInt n) (w.setRow x' (cells.toList.take (off * z') ++ news.take (n * z') ++ cells.toList.drop (off * z' + (news.take (n * z')).length)).toArray) := by
            rw [hval]
            simp [Builtin.copy_, run_underlying ht, run_sizeOf (w := w) hz, h1, hnn', h2, hst]
          obtain ⟨z1, z2⟩ := store_cells hfitc
          have hrows := rows_over (cells' := (cells.toList.take (off * z') ++ news.take (n * z') ++ cells.toList.drop (off * z' + (news.take (n * z')).length)).toArray) (ys := ys.take n) t4 (by simp; omega) (n := n) (by simp; omega) hnl
            (fun r hr => hnews.wide r (List.mem_of_mem_take hr)) (fun i j r c hr hc => by
              rw [List.getElem?_take] at hr
              split at hr
              · rename_i hi
                obtain ⟨u', e1, e2, e3⟩ := hnews.rows i j r c hr hc
                refine ⟨u', ?_, e2, e3⟩
                have hj : j < z' := by rw [← hnews.wide r (List.mem_of_getElem? hr)]; exact (List.getElem?_eq_some_iff.1 hc).1
                have : (i + 1) * z' ≤ n * z' := Nat.mul_le_mul_right _ hi
                rw [Nat.add_mul] at this
                rw [List.getElem?_take, if_pos (by omega)]
                exact e1
              · cases hr) z2
          obtain ⟨V', k1, k2, k3, _⟩ := sim_setRow (s := s) hs (cells' := (cells.toList.take (off * z') ++ news.take (n * z') ++ cells.toList.drop (off * z' + (news.take (n * z')).length)).toArray)
            (o' := .rows z' (rs.take off ++ ys.take n ++ rs.drop (off + n)) v) t1 t2 t5 (fun V' hle hb' hrd' hh => ⟨x', _, _, E, hb', hh, by rw [z1, t3], RowsIn.mono hle hrows, hrd'⟩)
          exact ⟨_, _, V', .inl (copy_run ho hc ha hT hrun), k1, k2, k3, len_int hmax⟩
      · cases h
    · cases h
  · rename_i tk ys hv hn
    cases h
    rw [hv] at rx
    obtain ⟨news, hnews⟩ := news_sound (P := P) hs ry hn
    obtain ⟨base, cap, hval⟩ := relSl rx
    have h1 := hnews.len w rfl
    have h2 := hnews.part 0 (by omega)
    simp only [Nat.zero_mul, List.take_zero] at h2
    have hmin : Nat.min ys.length 0 = 0 := Nat.min_zero _
    have hrun : (Builtin.copy_ #[t, u] o.type #[a.eval x, a.eval y]).run P w = .ok (goInt 0) w := by
      rw [hval]
      cases base <;> simp [Builtin.copy_, run_underlying ht, run_sizeOf (w := w) hz, h1, hmin, h2, storeCells]
    exact ⟨_, w, V, .inl (copy_run ho hc ha hT hrun), .refl V, .refl w V, hs, len_int (Nat.zero_le _)⟩
  · cases h

theorem sat_mkS (hs : Sim G w V s.H s.T) (hE : RelE V a.tmps s.e) {t e : TypeId} {sz by_ : Nat} {x y : Operand} {z : List Av} {dx dy : Od} (ho : o.op = .makeSlice t x y)
    (ht : P.underlying t = some (.slice e)) (hz : szT P e = some sz) (hb : byT P e = some by_) (hzero : zeroC P e = some z) (hx : odC G x = some dx) (hy : odC G y = some dy)
    (h : evalOp (.mkS sz by_ z dx dy) s = some l) : OpSat P G w V s a o l := by
  have rx := od_sound hs hE hx
  have ry := od_sound hs hE hy
  obtain ⟨inf, zv, hinf, hzv, hzc⟩ := zero_rel hzero
  have hsz : inf.size = sz := by simp only [szT, hinf, Option.map_some, Option.some.injEq] at hz; exact hz
  have hby : inf.bytes = by_ := by simp only [byT, hinf, Option.map_some, Option.some.injEq] at hb; exact hb
  simp only [evalOp] at h
  split at h
  · rename_i k1 n k2 m hn hm
    split at h
    · rename_i hcond
      cases h
      obtain ⟨rfl, g1, g2, g3, g4⟩ := hcond
      rw [hn] at rx
      rw [hm] at ry
      obtain ⟨e1, _⟩ := relInt rx
      obtain ⟨e2, _⟩ := relInt ry
      unfold maxL at g3
      have w1 : IntKind.i64.wrap n = n := by simp [IntKind.wrap, IntKind.signed, IntKind.bits]; omega
      have w2 : IntKind.i64.wrap m = m := by simp [IntKind.wrap, IntKind.signed, IntKind.bits]; omega
      obtain ⟨C, rfl⟩ : ∃ C : Nat, m = C := ⟨m.toNat, by omega⟩
      obtain ⟨L, rfl⟩ : ∃ L : Nat, n = L := ⟨n.toNat, by omega⟩
      simp only [Int.toNat_natCast] at *
      have hroom : C * by_ ≤ 140737488355328 := by unfold room at g4; exact g4
      have htoo : ∀ k : Nat, k ≤ C → (decide ((k : Int) < 0) || decide ((281474976710656 : Int) < (by_ : Int) * k)) = false := by
        intro k hk
        have h2 : by_ * k ≤ 140737488355328 := Nat.le_trans (Nat.mul_le_mul_left _ hk) (by rw [Nat.mul_comm]; exact hroom)
        have h3 : ((by_ * k : Nat) : Int) ≤ 140737488355328 := by omega
        rw [Int.natCast_mul] at h3
        simp only [Bool.or_eq_false_iff, decide_eq_false_iff_not]
        omega
      obtain ⟨cells, hcells⟩ : ∃ cells : Array Value, cells = (Array.range (C * z.length)).map (zv.cells[· % zv.cells.size]!) := ⟨_, rfl⟩
      have hrun : (execOp a.eval o).run P w = .ok (.value (.slice (some ⟨w.heap.size, 0, none⟩) L C)) (w.alloc (.cells cells e)) := by
        have hzr : (zeroValue e).run P w = .ok zv w := by simp [zeroValue, run_info hinf, hzv]
        have hroom' : ¬ (140737488355328 < C * by_) := by omega
        have q0 : ¬ ((L : Int) < 0) := by omega
        have q1 : ¬ ((C : Int) < (L : Int)) := by omega
        have q2 : ¬ ((281474976710656 : Int) < (by_ : Int) * (C : Int)) := by
          have := htoo C (Nat.le_refl _)
          simp only [Bool.or_eq_false_iff, decide_eq_false_iff_not] at this
          exact this.2
        have q3 : ¬ ((C : Int) < 0) := by omega
        by_cases h0 : C * z.length = 0
        · simp [execOp, ho, Instr.makeSlice, run_underlying ht, e1, e2, asInt, asIntOf, run_info hinf, hby, hsz, w1, w2, q0, q1, q2, q3, askRoom, roomBytes, hroom', run_sizeOf (w := w) hz, h0, newRow, hcells]
          congr 2
          apply Array.ext <;> simp
        · simp [execOp, ho, Instr.makeSlice, run_underlying ht, e1, e2, asInt, asIntOf, run_info hinf, hby, hsz, w1, w2, q0, q1, q2, q3, askRoom, roomBytes, hroom', run_sizeOf (w := w) hz, h0, newRow, hzr, hcells]
      have hrows : RowsIn V cells z.length (List.replicate L z) := by
        have := rows_zero (V := V) (hzc V) C
        rw [← hcells] at this
        refine ⟨fun r hr => by rw [List.eq_of_mem_replicate hr], fun i j r c hr hc => this.2 i j r c ?_ hc⟩
        rw [List.getElem?_replicate] at hr ⊢
        split at hr
        · rename_i hi
          rw [if_pos (by omega)]; exact hr
        · cases hr
      obtain ⟨k1, k2, k3, k4⟩ := sat_push (s := s) (E := e) hs hrows
      refine ⟨_, _, _, .inl hrun, k1, k2, k3, .bs _ _ _ _ _ _ ⟨_, _, _, k4, Nat.le_refl _, _, _, _, rfl, by omega, by unfold maxL; omega, fun _ => ⟨rfl, fun _ => by simp, by rw [hcells]; simp⟩⟩⟩
    · cases h
  · cases h

end
end Go.Am

namespace Go.Am
open Go

section
variable {P : Program} {G : Glo} {B : Nat → Bool} {w : World} {V : View} {s : St} {a : Act} {o : Oper} {l : Lab}

theorem ba_eq {x : ByteArray} {l : List UInt8} (h : x.data.toList = l) : x = ⟨l.toArray⟩ := by
  subst h; cases x; simp

theorem sat_rng (hs : Sim G w V s.H s.T) (hE : RelE V a.tmps s.e) {t : TypeId} {x : Operand} {dx : Od} (ho : o.op = .range t x) (hu : P.underlying t = some .string) (hx : odC G x = some dx)
    (h : evalOp (.rng dx) s = some l) : OpSat P G w V s a o l := by
  have rx := od_sound hs hE hx
  simp only [evalOp] at h
  split at h
  · rename_i tt hv
    rw [hv] at rx
    cases h
    obtain ⟨z, hz, hzl, hzm⟩ := relStr rx
    obtain ⟨q1, q2, q3⟩ := hs.push (.siter tt 0) (.stringIter z 0) 0 0 0 ⟨w.heap.size, 0, z, by simp [View.push], heap_alloc_new w _, hzl, hzm, fun y => hs.rd_new (Nat.le_refl _) y⟩
    refine ⟨.pointer (some ⟨w.heap.size, 0, none⟩), _, _, .inl ?_, q1, q2, q3, .ptr _ _ _ _ _ ⟨w.heap.size, 0, 0, 0, by simp [View.push], Nat.le_refl _, _, _, rfl, fun _ => ⟨rfl, by simp⟩⟩⟩
    have := run_range_string (P := P) w t z hu
    simp [execOp, ho, hz, this, World.iter]
  · cases h

theorem sat_s2b (hs : Sim G w V s.H s.T) (hE : RelE V a.tmps s.e) {t u e : TypeId} {x : Operand} {dx : Od} (ho : o.op = .convert t u x) (h1 : P.underlying t = some .string) (h2 : P.underlying u = some (.slice e))
    (h3 : P.underlying e = some (.int .u8)) (hx : odC G x = some dx) (h : evalOp (.s2b dx) s = some l) : OpSat P G w V s a o l := by
  have rx := od_sound hs hE hx
  simp only [evalOp] at h
  split at h
  · rename_i tt hv
    rw [hv] at rx
    split at h
    · rename_i hroom
      obtain ⟨y, hy, rfl⟩ := lab_pure h
      cases hy
      obtain ⟨z, hz, hzl, hzm⟩ := relStr rx
      have hzs : z.size = tt.length := by rw [← hzl, Array.length_toList]; rfl
      have hrun := run_bytes_of_string (P := P) w t u e z h1 h2 h3
      have hcap1 := grownCap_ge w z.size 0 e
      have hcap2 := grownCap_le_maxLen w z.size 0 e (by rw [hzs]; unfold room at hroom; unfold maxLen; omega)
      generalize grownCap w z.size 0 e = cap at hrun hcap1 hcap2
      have hd : Sim G w.drew V s.H s.T := hs.heap rfl
      obtain ⟨k1, k2, k3⟩ := hd.dataF (bytesRow z cap) e ((bytesRow z cap).size, (bytesRow z cap).size + 1) (bytesRow z cap).size
      have hk : Keep w V w.drew V := Keep.heap rfl rfl rfl rfl
      have hcell : ∀ (i : Nat) (c : UInt8), tt[i]? = some c → ((bytesRow z cap)[i]? : Option Value) = some (.int .u8 c.toNat) := by
        intro i c hc
        have hi : i < z.data.size := by
          have := (List.getElem?_eq_some_iff.1 hc).1
          have h0 : z.data.size = z.size := rfl
          omega
        unfold bytesRow
        rw [Array.getElem?_append_left (by simpa using hi)]
        have : z.data[i]? = some c := by rw [← Array.getElem?_toList, hzl]; exact hc
        simp [this]
      refine ⟨.slice (some ⟨w.heap.size, 0, none⟩) z.size cap, _, _, .inl ?_, k1, hk.trans k2, k3, ?_⟩
      · simp [execOp, ho, hz, hrun]
      · have hlen : z.size = (tt.map fun c => [Av.int .u8 c.toNat]).length := by simp [hzs]
        have key : ∀ (i j : Nat) r c, (tt.map fun c => [Av.int .u8 c.toNat])[i]? = some r → r[j]? = some c → j = 0 ∧ ∃ b : UInt8, ((bytesRow z cap)[i]? : Option Value) = some (.int .u8 b.toNat) ∧ c = .int .u8 b.toNat := by
          intro i j r c hr hc
          simp only [List.getElem?_map, Option.map_eq_some_iff] at hr
          obtain ⟨b, hb, rfl⟩ := hr
          match j, hc with
          | 0, hc => simp at hc; exact ⟨rfl, b, hcell i b hb, hc.symm⟩
          | j + 1, hc => simp at hc
        refine .sl _ 0 z.size cap _ .any 1 (fun i j => ((bytesRow z cap)[i]? : Option Value).getD undef) none hlen.symm hcap1 (by unfold maxLen at hcap2; unfold maxL; omega) (by simp) ?_ ?_ trivial (fun _ => rfl)
        · intro i j r c hr hc
          obtain ⟨rfl, b, hb, rfl⟩ := key i j r c hr hc
          have hlt := (Array.getElem?_eq_some_iff.1 hb).1
          refine ⟨?_, by simp [hb, Value.oneCell']⟩
          show (if _ then _ else _) = _
          rw [if_pos ⟨rfl, by omega⟩]
          have : 0 + i * 1 + 0 = i := by omega
          rw [this, hb]
          rfl
        · intro i j r c hr hc
          obtain ⟨rfl, b, hb, rfl⟩ := key i j r c hr hc
          simp only [hb, Option.getD_some]
          refine .int _ _ ?_
          have := b.toNat_lt
          unfold IntKind.has
          simp [IntKind.signed, IntKind.bits, IntKind.min, IntKind.max]
          omega
    · cases h
  · cases h

theorem sat_nxt (hs : Sim G w V s.H s.T) (hE : RelE V a.tmps s.e) {x : Operand} {dx : Od} (ho : o.op = .next x true) (hx : odC G x = some dx)
    (h : evalOp (.nxt dx) s = some l) : OpSat P G w V s a o l := by
  have rx := od_sound hs hE hx
  simp only [evalOp] at h
  split at h
  · rename_i b hv
    rw [hv] at rx
    split at h
    · rename_i t pos hb
      obtain ⟨c, k, z, q1, q2, q3, q4, q5⟩ := hs.blk b _ hb
      generalize hq : a.eval x = u at rx
      cases rx with
      | ptr _ _ _ _ _ hp =>
        obtain ⟨c', sz, now, k', e1, e2, xb, xo, rfl, e3⟩ := hp
        rw [q1] at e1
        cases e1
        obtain ⟨rfl, rfl⟩ := e3 rfl
        have hzs : z.size = t.length := by rw [← q3, Array.length_toList]; rfl
        have hz := ba_eq q3
        split at h
        · rename_i hlt
          cases h
          have hlt' : pos < z.size := by rw [hzs]; exact hlt
          have hcl := heap_lt q2
          obtain ⟨k1, k2, k3⟩ := hs.turn (w' := setO w xb (.stringIter z (pos + (decL t pos).2))) (o' := .siter t (pos + (decL t pos).2)) q1 (Nat.le_refl _) (fun _ => ⟨rfl, rfl⟩) (.inl rfl) (by simp [setO]; exact hcl) (by simp [setO])
            (fun j _ hj => by simp only [setO]; rw [Array.getElem?_setIfInBounds, if_neg (Ne.symm hj)]) q5 rfl rfl rfl
            ⟨xb, k, z, by simp [View.setBlk], by simp [setO, hcl], q3, q4, q5⟩
          refine ⟨.tuple #[.bool true, .int .i64 pos, .int .i32 (decL t pos).1], _, _, .inl ?_, k1, k2, k3, ?_⟩
          · have hd : Utf8.decode z pos = decL t pos := by rw [hz]; rfl
            simp [execOp, ho, hq, Instr.next, getObj, setObj, Sem.run, q2, Result.andThen, hlt', hd, setO, goInt]
          · have h1 : (decL t pos).1 ≤ 2147483647 := decode_le _ _
            refine .tup _ _ rfl (fun m v y hm hy => ?_)
            match m with
            | 0 => simp at hm hy; subst hm; subst hy; exact .bool _
            | 1 => simp at hm hy; subst hm; subst hy; exact len_int (by omega)
            | 2 =>
              simp at hm hy; subst hm; subst hy
              refine .int _ _ ?_
              unfold IntKind.has
              simp [IntKind.signed, IntKind.bits, IntKind.min, IntKind.max]
              omega
            | m + 3 => simp at hy
        · rename_i hlt
          cases h
          have hlt' : ¬ pos < z.size := by rw [hzs]; exact hlt
          refine .pure hs (cv := .tuple #[.bool false]) ?_ (.tup _ _ rfl (fun m v y hm hy => ?_))
          · simp [execOp, ho, hq, Instr.next, getObj, Sem.run, q2, hlt']
          · match m with
            | 0 => simp at hm hy; subst hm; subst hy; exact .bool _
            | m + 1 => simp at hy
    · cases h
  · cases h

end
end Go.Am

namespace Go.Am
open Go

section
variable {P : Program} {G : Glo} {B : Nat → Bool} {w : World} {V : View} {s : St} {a : Act} {o : Oper} {l : Lab}

theorem kd_sl {e : Env} {x : Od} (h : kdOk e (.sl, x) = true) : (∃ xs tk, x.ev e = .sl xs tk) ∨ ∃ b ver z off len, x.ev e = .bs b ver z off len := by
  unfold kdOk at h
  cases hx : x.ev e <;> simp [hx] at h ⊢

theorem kd_st {e : Env} {x : Od} (h : kdOk e (.st, x) = true) : ∃ l, x.ev e = .str l := by
  unfold kdOk at h
  cases hx : x.ev e <;> simp [hx] at h ⊢

theorem relSlice {v : Value} {x : Av} (h : RelV V v x) (hx : (∃ xs tk, x = .sl xs tk) ∨ ∃ b ver z off len, x = .bs b ver z off len) : ∃ b n c, v = .slice b n c := by
  rcases hx with ⟨xs, tk, rfl⟩ | ⟨b, ver, z, off, len, rfl⟩
  · obtain ⟨b, c, rfl⟩ := relSl h; exact ⟨_, _, _, rfl⟩
  · obtain ⟨_, _, _, _, _, x', o', cap, rfl, _⟩ := relBs h; exact ⟨_, _, _, rfl⟩

theorem kd_pt {v : Value} {e : Env} {x : Od} (h : kdOk e (.pt, x) = true) (hr : RelV V v (x.ev e)) : ∃ b, v = .pointer b := by
  unfold kdOk at h
  cases hx : x.ev e <;> simp [hx] at h
  · rw [hx] at hr
    cases hr with
    | ptr _ _ _ _ _ p => obtain ⟨_, _, _, _, _, _, x, o, rfl, _⟩ := p; exact ⟨_, rfl⟩
  · rw [hx] at hr
    cases hr; exact ⟨_, rfl⟩
  · rw [hx] at hr
    cases hr; exact ⟨_, rfl⟩

theorem appC_inv {b : Bool} {e : TypeId} {x y : Operand} {op : AOp} (h : appC P G b e x y = some op) :
    ∃ n k z dx dy, szT P e = some n ∧ byT P e = some k ∧ zeroC P e = some z ∧ z.length = n ∧ odC G x = some dx ∧ odC G y = some dy ∧ op = if b then .appB n k dx dy else .app n k dx dy := by
  simp only [appC, Option.bind_eq_bind, Option.bind_eq_some_iff] at h
  obtain ⟨n, h1, k, h2, z, h3, h⟩ := h
  split at h
  · rename_i hz
    cases b <;>
    · simp only [Bool.false_eq_true, if_false, if_true, Option.bind_eq_some_iff, Option.pure_def, Option.some.injEq] at h
      obtain ⟨dx, h4, dy, h5, rfl⟩ := h
      exact ⟨n, k, z, dx, dy, h1, h2, h3, hz, h4, h5, rfl⟩
  · cases h

theorem mapM_fs {f : Field → Option Nat} {fs : List Field} (h : (fs.mapM f).isSome = true) : ∃ zs, fs.mapM f = some zs := by
  cases hh : fs.mapM f with
  | none => rw [hh] at h; cases h
  | some z => exact ⟨z, rfl⟩

theorem plain_sl {u e : TypeId} (h : P.underlying u = some (.slice e)) : Plain P u := ⟨_, h, fun k hk => by cases hk⟩
theorem plain_st {u : TypeId} (h : P.underlying u = some .string) : Plain P u := ⟨_, h, fun k hk => by cases hk⟩

theorem arr1 {α : Type} {xs : Array α} {x : α} (h : xs.toList = [x]) : xs = #[x] := by apply Array.ext'; simpa using h
theorem arr2 {α : Type} {xs : Array α} {x y : α} (h : xs.toList = [x, y]) : xs = #[x, y] := by apply Array.ext'; simpa using h

theorem op_sound (hs : Sim G w V s.H s.T) (hE : RelE V a.tmps s.e) {op : AOp} {ks : List (KD × Od)} (hop : opC P G B o.dst o.op = some op) (hk : kdC P G o.op = some ks) (hks : ks.all (kdOk s.e) = true)
    (h : evalOp op s = some l) : OpSat P G w V s a o l := by
  generalize ho : o.op = oo at hop hk
  cases oo with
  | move x =>
    simp only [opC, Option.bind_eq_bind, Option.bind_eq_some_iff, Option.pure_def, Option.some.injEq] at hop
    obtain ⟨dx, hx, rfl⟩ := hop
    exact sat_mov hs hE (.inl ho) hx h
  | assign x =>
    simp only [opC, Option.bind_eq_bind, Option.bind_eq_some_iff, Option.pure_def, Option.some.injEq] at hop
    obtain ⟨dx, hx, rfl⟩ := hop
    exact sat_mov hs hE (.inr ho) hx h
  | pick c x y =>
    simp only [opC, Option.bind_eq_bind, Option.bind_eq_some_iff, Option.pure_def, Option.some.injEq] at hop
    obtain ⟨dc, hc, dx, hx, dy, hy, rfl⟩ := hop
    exact sat_pick hs hE ho hc hx hy h
  | alloc t =>
    simp only [opC, Option.bind_eq_bind, Option.bind_eq_some_iff] at hop
    obtain ⟨z, hz, n, hn, hop⟩ := hop
    split at hop
    · cases hop; exact sat_alloc hs ho hz h
    · cases hop
  | box t x =>
    simp only [opC, Option.bind_eq_bind, Option.bind_eq_some_iff, Option.pure_def, Option.some.injEq] at hop
    obtain ⟨n, hn, dx, hx, rfl⟩ := hop
    exact sat_box hs hE ho hx h
  | build t ps =>
    simp only [opC, Option.bind_eq_bind, Option.bind_eq_some_iff] at hop
    obtain ⟨z, hz, hop⟩ := hop
    split at hop
    · rename_i fs hu
      simp only [Option.bind_eq_some_iff] at hop
      obtain ⟨qs, hq, zs, hzs, hop⟩ := hop
      cases hop
      exact sat_buildStruct hs hE ho hz hu hq hzs h
    · rename_i k e hu
      simp only [Option.bind_eq_some_iff] at hop
      obtain ⟨n, hn, qs, hq, hop⟩ := hop
      cases hop
      exact sat_buildArray hs hE ho hz hu hn hq h
    · cases hop
  | buildSlice t len ps =>
    simp only [opC, Option.bind_eq_bind] at hop
    split at hop
    · rename_i e hu
      simp only [Option.bind_eq_some_iff] at hop
      obtain ⟨sz, hn, z, hz, qs, hq, hop⟩ := hop
      split at hop
      · cases hop; exact sat_litB hs hE ho hz hu hn hq h
      · cases hop; exact sat_lit hs hE ho hz hu hn hq h
    · cases hop
  | load t x =>
    simp only [opC, Option.bind_eq_bind, Option.bind_eq_some_iff, Option.pure_def, Option.some.injEq] at hop
    obtain ⟨n, hn, dx, hx, rfl⟩ := hop
    exact sat_ld hs hE ho hn hx h
  | store t x y =>
    simp only [opC, Option.bind_eq_bind, Option.bind_eq_some_iff, Option.pure_def, Option.some.injEq] at hop
    obtain ⟨n, hn, dx, hx, dy, hy, rfl⟩ := hop
    exact sat_st hs hE ho hn hx hy h
  | nilCheck x =>
    simp only [opC, Option.bind_eq_bind, Option.bind_eq_some_iff, Option.pure_def, Option.some.injEq] at hop
    obtain ⟨dx, hx, rfl⟩ := hop
    exact sat_nck hs hE ho hx h
  | binOp bop t x y u =>
    simp only [opC, Option.bind_eq_bind, Option.bind_eq_some_iff] at hop
    obtain ⟨dx, hx, dy, hy, hop⟩ := hop
    split at hop
    · cases hop; exact sat_bin hs hE ho hx hy h
    · cases hop; exact sat_bin hs hE ho hx hy h
    · rename_i hu
      split at hop
      · cases hop; exact sat_binB hs hE ho (.inl ⟨rfl, rfl⟩) hu hx hy h
      · cases hop; exact sat_binB hs hE ho (.inr ⟨rfl, rfl⟩) hu hx hy h
      · cases hop
    · rename_i e hu
      simp only [kdC, hu, hx, hy, Option.bind_eq_bind, Option.bind_some, Option.pure_def, Option.some.injEq] at hk
      subst hk
      simp only [List.all_cons, List.all_nil, Bool.and_true, Bool.and_eq_true] at hks
      obtain ⟨b, n, c, e1⟩ := relSlice (od_sound hs hE hx) (kd_sl hks.1)
      obtain ⟨b', n', c', e2⟩ := relSlice (od_sound hs hE hy) (kd_sl hks.2)
      split at hop
      · cases hop; exact sat_binN hs hE ho (.inl ⟨rfl, rfl⟩) (.inl ⟨_, hu⟩) hx hy (fun _ => ⟨_, _, _, _, _, _, e1, e2⟩) (fun ⟨_, q⟩ => by rw [hu] at q; cases q) h
      · cases hop; exact sat_binN hs hE ho (.inr ⟨rfl, rfl⟩) (.inl ⟨_, hu⟩) hx hy (fun _ => ⟨_, _, _, _, _, _, e1, e2⟩) (fun ⟨_, q⟩ => by rw [hu] at q; cases q) h
      · cases hop
    · rename_i e hu
      simp only [kdC, hu, hx, hy, Option.bind_eq_bind, Option.bind_some, Option.pure_def, Option.some.injEq] at hk
      subst hk
      simp only [List.all_cons, List.all_nil, Bool.and_true, Bool.and_eq_true] at hks
      obtain ⟨b, e1⟩ := kd_pt hks.1 (od_sound hs hE hx)
      obtain ⟨b', e2⟩ := kd_pt hks.2 (od_sound hs hE hy)
      split at hop
      · cases hop; exact sat_binN hs hE ho (.inl ⟨rfl, rfl⟩) (.inr ⟨_, hu⟩) hx hy (fun ⟨_, q⟩ => by rw [hu] at q; cases q) (fun _ => ⟨_, _, e1, e2⟩) h
      · cases hop; exact sat_binN hs hE ho (.inr ⟨rfl, rfl⟩) (.inr ⟨_, hu⟩) hx hy (fun ⟨_, q⟩ => by rw [hu] at q; cases q) (fun _ => ⟨_, _, e1, e2⟩) h
      · cases hop
    · rename_i fs hu
      simp only [Option.bind_eq_some_iff] at hop
      obtain ⟨⟨ag, kk⟩, hkt, hop⟩ := hop
      cases ag with
      | false => simp at hop
      | true =>
        simp only [if_true] at hop
        split at hop
        · cases hop; exact sat_eqA hs hE ho (.inl ⟨rfl, rfl⟩) hkt hx hy h
        · cases hop; exact sat_eqA hs hE ho (.inr ⟨rfl, rfl⟩) hkt hx hy h
        · cases hop
    · cases hop
  | unOp uop t x =>
    simp only [opC, Option.bind_eq_bind, Option.bind_eq_some_iff, Option.pure_def, Option.some.injEq] at hop
    obtain ⟨dx, hx, rfl⟩ := hop
    exact sat_un hs hE ho hx h
  | convert t u x =>
    simp only [opC, Option.bind_eq_bind, Option.bind_eq_some_iff] at hop
    obtain ⟨dx, hx, hop⟩ := hop
    split at hop
    · rename_i hs1 hs2
      cases hop; exact sat_cvt hs hE ho hs1 hs2 hx h
    · rename_i hs1 hs2
      cases hop
      simp only [kdC, hs1, hx, Option.map_some, Option.some.injEq] at hk
      subst hk
      simp only [List.all_cons, List.all_nil, Bool.and_true] at hks
      exact sat_cvs hs hE ho hs1 hs2 hx (kd_st hks) h
    · rename_i hs1 hs2
      split at hop
      · rename_i hs3
        cases hop; exact sat_s2b hs hE ho hs1 hs2 hs3 hx h
      · cases hop
    · cases hop
  | makeFunc fn first caps =>
    cases fn with
    | func f =>
      simp only [opC, Option.bind_eq_bind] at hop
      split at hop
      · rename_i h0
        simp only [Option.bind_eq_some_iff, Option.pure_def, Option.some.injEq] at hop
        obtain ⟨ds, hd, rfl⟩ := hop
        exact sat_fnc hs hE ho h0 hd h
      · cases hop
    | _ => simp [opC] at hop
  | makeMap t hint =>
    cases hint with
    | none => simp only [opC, Option.some.injEq] at hop; subst hop; exact sat_mkmap hs ho h
    | some x => simp [opC] at hop
  | makeSlice t x y =>
    simp only [opC, Option.bind_eq_bind] at hop
    split at hop
    · rename_i e hu
      simp only [Option.bind_eq_some_iff, Option.pure_def, Option.some.injEq] at hop
      obtain ⟨sz, hn, k, hb, z, hz, dx, hx, dy, hy, rfl⟩ := hop
      exact sat_mkS hs hE ho hu hn hb hz hx hy h
    · cases hop
  | slice t x lo hi mx =>
    simp only [opC, Option.bind_eq_bind, Option.bind_eq_some_iff] at hop
    obtain ⟨dx, hx, dl, hl, dh, hh, dm, hm, hop⟩ := hop
    split at hop
    · cases hop
    · rename_i hmx
      split at hop
      · rename_i e hu
        simp only [Option.bind_eq_some_iff, Option.pure_def, Option.some.injEq] at hop
        obtain ⟨sz, hn, rfl⟩ := hop
        simp only [kdC, hu, hx, Option.map_some, Option.some.injEq] at hk
        subst hk
        simp only [List.all_cons, List.all_nil, Bool.and_true] at hks
        refine sat_slc hs hE ho hu hn hx hl hh hm (fun q => ?_) (kd_sl hks) h
        cases hi with
        | none => simp [q] at hmx
        | some _ => rfl
      · rename_i hu
        cases hop
        simp only [kdC, hu, hx, Option.map_some, Option.some.injEq] at hk
        subst hk
        simp only [List.all_cons, List.all_nil, Bool.and_true] at hks
        exact sat_slcStr hs hE ho hu hx hl hh hm (kd_st hks) h
      · cases hop
  | fieldAddr t x f =>
    simp only [opC, Option.bind_eq_bind] at hop
    split at hop
    · rename_i fs hu
      simp only [Option.bind_eq_some_iff] at hop
      obtain ⟨fl, hf, n, hn, hop⟩ := hop
      split at hop
      · cases hop
      · rename_i hn0
        simp only [Option.bind_eq_some_iff, Option.pure_def, Option.some.injEq] at hop
        obtain ⟨dx, hx, rfl⟩ := hop
        exact sat_fad hs hE ho hu hf hn hn0 hx h
    · cases hop
  | field t x f =>
    simp only [opC, Option.bind_eq_bind] at hop
    split at hop
    · rename_i fs hu
      simp only [Option.bind_eq_some_iff, Option.pure_def, Option.some.injEq] at hop
      obtain ⟨fl, hf, n, hn, dx, hx, rfl⟩ := hop
      exact sat_fld hs hE ho hu hf hn hx h
    · cases hop
  | indexAddr t x i =>
    simp only [opC, Option.bind_eq_bind] at hop
    split at hop
    · rename_i e hu
      simp only [Option.bind_eq_some_iff, Option.pure_def, Option.some.injEq] at hop
      obtain ⟨sz, hn, dx, hx, di, hi, rfl⟩ := hop
      exact sat_ixs hs hE ho hu hn hx hi h
    · rename_i k e hu
      simp only [Option.bind_eq_some_iff, Option.pure_def, Option.some.injEq] at hop
      obtain ⟨sz, hn, dx, hx, di, hi, rfl⟩ := hop
      exact sat_ixa hs hE ho hu hn hx hi h
    · cases hop
  | index t x i =>
    simp only [opC, Option.bind_eq_bind] at hop
    split at hop
    · rename_i k e hu
      simp only [Option.bind_eq_some_iff, Option.pure_def, Option.some.injEq] at hop
      obtain ⟨n, hn, sz, hz, dx, hx, di, hi, rfl⟩ := hop
      exact sat_ixv hs hE ho hu hn hz hx hi h
    · rename_i hu
      simp only [Option.bind_eq_some_iff, Option.pure_def, Option.some.injEq] at hop
      obtain ⟨dx, hx, di, hi, rfl⟩ := hop
      exact sat_ixb hs hE ho hu hx hi h
    · cases hop
  | lookup t x i ok =>
    simp only [opC, Option.bind_eq_bind] at hop
    split at hop
    · rename_i kt et hu
      simp only [Option.bind_eq_some_iff, Option.pure_def, Option.some.injEq] at hop
      obtain ⟨inf, hi0, zv, hz, ⟨ag, kk⟩, hkt, z, hzv, dx, hx, di, hi, rfl⟩ := hop
      exact sat_look hs hE ho hu hkt hi0 hz hzv hx hi h
    · cases hop
  | mapUpdate t m k v =>
    simp only [opC, Option.bind_eq_bind] at hop
    split at hop
    · rename_i kt et hu
      simp only [Option.bind_eq_some_iff, Option.pure_def, Option.some.injEq] at hop
      obtain ⟨⟨ag, kk⟩, hkt, dx, hx, di, hi, dy, hy, rfl⟩ := hop
      exact sat_mset hs hE (.inl ho) hu hkt hx hi hy h
    · cases hop
  | insert t m k v =>
    simp only [opC, Option.bind_eq_bind] at hop
    split at hop
    · rename_i kt et hu
      simp only [Option.bind_eq_some_iff, Option.pure_def, Option.some.injEq] at hop
      obtain ⟨⟨ag, kk⟩, hkt, dx, hx, di, hi, dy, hy, rfl⟩ := hop
      exact sat_mset hs hE (.inr ho) hu hkt hx hi hy h
    · cases hop
  | extract x i =>
    simp only [opC, Option.bind_eq_bind, Option.bind_eq_some_iff, Option.pure_def, Option.some.injEq] at hop
    obtain ⟨dx, hx, rfl⟩ := hop
    exact sat_ext hs hE ho hx h
  | call c =>
    simp only [opC] at hop
    split at hop
    · simp only [Option.bind_eq_bind, Option.bind_eq_some_iff, Option.pure_def, Option.some.injEq] at hop
      obtain ⟨ds, _, rfl⟩ := hop
      cases h
    · simp only [Option.bind_eq_bind, Option.bind_eq_some_iff, Option.pure_def, Option.some.injEq] at hop
      obtain ⟨d, _, ds, _, rfl⟩ := hop
      cases h
    · cases hop
    · rename_i b hc
      split at hop
      · rename_i x t ha hT
        simp only [Option.bind_eq_bind] at hop
        split at hop
        · rename_i e hu
          simp only [Option.bind_eq_some_iff, Option.pure_def, Option.some.injEq] at hop
          obtain ⟨dx, hx, rfl⟩ := hop
          simp only [kdC, hc, ha, hT, hu, hx, Option.map_some, Option.some.injEq] at hk
          subst hk
          simp only [List.all_cons, List.all_nil, Bool.and_true] at hks
          refine sat_len hs hE ho hc (arr1 ha) (arr1 hT) (.inl ⟨_, hu⟩) hx ⟨fun q => (by rw [hu] at q; cases q), fun ⟨l', q⟩ => ?_⟩ h
          rcases kd_sl hks with ⟨_, _, q'⟩ | ⟨_, _, _, _, _, q'⟩ <;> (rw [q] at q'; cases q')
        · rename_i hu
          simp only [Option.bind_eq_some_iff, Option.pure_def, Option.some.injEq] at hop
          obtain ⟨dx, hx, rfl⟩ := hop
          simp only [kdC, hc, ha, hT, hu, hx, Option.map_some, Option.some.injEq] at hk
          subst hk
          simp only [List.all_cons, List.all_nil, Bool.and_true] at hks
          exact sat_len hs hE ho hc (arr1 ha) (arr1 hT) (.inr hu) hx ⟨fun _ => kd_st hks, fun _ => hu⟩ h
        · rename_i k e hu
          simp only [Option.bind_eq_some_iff, Option.pure_def, Option.some.injEq] at hop
          obtain ⟨dx, hx, rfl⟩ := hop
          exact sat_lenM hs hE ho hc (arr1 ha) (arr1 hT) hu hx h
        · cases hop
      · rename_i x t ha hT
        simp only [Option.bind_eq_bind] at hop
        split at hop
        · rename_i e hu
          simp only [Option.bind_eq_some_iff, Option.pure_def, Option.some.injEq] at hop
          obtain ⟨dx, hx, rfl⟩ := hop
          exact sat_cap hs hE ho hc (arr1 ha) (arr1 hT) hu hx h
        · cases hop
      · rename_i x y t u ha hT
        split at hop
        · rename_i e e' hu hu'
          obtain ⟨n, k, z, dx, dy, h1, h2, h3, h4, h5, h6, rfl⟩ := appC_inv hop
          cases hB : B (o.dst.getD 0) with
          | true => rw [hB] at h; exact sat_appB hs hE ho hc (arr2 ha) (arr2 hT) hu (plain_sl hu') h1 h2 h3 h4 h5 h6 h
          | false => rw [hB] at h; exact sat_app hs hE ho hc (arr2 ha) (arr2 hT) hu (plain_sl hu') h1 h2 h3 h4 h5 h6 h
        · rename_i e hu hu'
          obtain ⟨n, k, z, dx, dy, h1, h2, h3, h4, h5, h6, rfl⟩ := appC_inv hop
          cases hB : B (o.dst.getD 0) with
          | true => rw [hB] at h; exact sat_appB hs hE ho hc (arr2 ha) (arr2 hT) hu (plain_st hu') h1 h2 h3 h4 h5 h6 h
          | false => rw [hB] at h; exact sat_app hs hE ho hc (arr2 ha) (arr2 hT) hu (plain_st hu') h1 h2 h3 h4 h5 h6 h
        · cases hop
      · rename_i x y t u ha hT
        simp only [Option.bind_eq_bind] at hop
        split at hop
        · rename_i e hu
          simp only [Option.bind_eq_some_iff, Option.pure_def, Option.some.injEq] at hop
          obtain ⟨sz, hn, dx, hx, dy, hy, rfl⟩ := hop
          exact sat_copy hs hE ho hc (arr2 ha) (arr2 hT) hu hn hx hy h
        · cases hop
      · rename_i x y ha
        simp only [Option.bind_eq_bind, Option.bind_eq_some_iff, Option.pure_def, Option.some.injEq] at hop
        obtain ⟨dx, hx, dy, hy, rfl⟩ := hop
        exact sat_min hs hE ho hc (arr2 ha) hx hy h
      · rename_i x y ha
        simp only [Option.bind_eq_bind, Option.bind_eq_some_iff, Option.pure_def, Option.some.injEq] at hop
        obtain ⟨dx, hx, dy, hy, rfl⟩ := hop
        exact sat_max hs hE ho hc (arr2 ha) hx hy h
      · cases hop
  | range t x =>
    simp only [opC, Option.bind_eq_bind] at hop
    split at hop
    · simp only [Option.bind_eq_some_iff, Option.pure_def, Option.some.injEq] at hop
      obtain ⟨dx, hx, rfl⟩ := hop
      rename_i hu
      exact sat_rng hs hE ho hu hx h
    · cases hop
  | next x isStr =>
    cases isStr with
    | true =>
      simp only [opC, Option.bind_eq_bind, Option.bind_eq_some_iff, Option.pure_def, Option.some.injEq] at hop
      obtain ⟨dx, hx, rfl⟩ := hop
      exact sat_nxt hs hE ho hx h
    | false => simp [opC] at hop
  | _ => simp [opC] at hop

end
end Go.Am
