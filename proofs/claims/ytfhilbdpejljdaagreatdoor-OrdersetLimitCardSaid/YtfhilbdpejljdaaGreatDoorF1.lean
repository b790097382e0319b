/- Part of the proof. -/
import Derived.Test.YtfhilbdpejljdaaGreatDoorC3
import Derived.Test.YtfhilbdpejljdaaGreatDoorD1
set_option linter.all false
set_option maxHeartbeats 4000000
set_option maxRecDepth 100000
namespace Go.Am
open Go

theorem short (t : TD) (l : List Wd) (hl : l.length ≤ maxL) :
    ∃ v, (∃ (b : Bool), v = .bool b) ∧ Ret Fk n_pandectref06_short [.sl (l.map Wd.cs) t.tk] v := by
  refine ret_of_wpP (show Fk n_pandectref06_short = some (.fn true 20 c_pandectref06_short r_pandectref06_short) from rfl) (args' := [.sl (l.map Wd.cs) t.tk]) (by simp only [stripA, strip_int, strip_bool, strip_str, strip_sl, strip_U, strip_I, strip_A]) (Nat.le_of_ble_eq_true rfl) fun Z hZ => ?_
  unfold c_pandectref06_short
  refine wp_norm fun J hJ => ?_
  try simp only [go_sem, ↓reduceIte, reduceCtorEq, Nat.reduceEqDiff, Nat.reduceLT, Nat.reduceAdd, Nat.reduceMul, Nat.reduceLeDiff, Nat.reduceSub]
  refine hJ _ ?_
  clear hJ J
  unfold maxL at hl
  refine wp_seq_k' fun K1 hK1 => ?_
  refine wp_reg' ?_
  refine @vc_step Fk _ _ _ _ fun J hJ => ?_
  simp only [go_sem, ↓reduceIte, reduceCtorEq, Nat.reduceEqDiff, Nat.reduceLT, Nat.reduceAdd, Nat.reduceMul, Nat.reduceLeDiff, Nat.reduceSub]
  refine hJ _ ?_
  clear hJ J
  refine vc_nil ?_
  try simp only [go_sem, ↓reduceIte, reduceCtorEq, Nat.reduceEqDiff, Nat.reduceLT, Nat.reduceAdd, Nat.reduceMul, Nat.reduceLeDiff, Nat.reduceSub]
  try simp only [go_sem, ↓reduceIte, reduceCtorEq, Nat.reduceEqDiff, Nat.reduceLT, Nat.reduceAdd, Nat.reduceMul, Nat.reduceLeDiff, Nat.reduceSub]
  refine hK1 _ ?_
  refine wp_seq_k' fun K2 hK2 => ?_
  refine wp_seq_k' fun K3 hK3 => ?_
  refine wp_reg' ?_
  refine @vc_step Fk _ _ _ _ fun J hJ => ?_
  simp only [go_sem, ↓reduceIte, reduceCtorEq, Nat.reduceEqDiff, Nat.reduceLT, Nat.reduceAdd, Nat.reduceMul, Nat.reduceLeDiff, Nat.reduceSub]
  refine hJ _ ?_
  clear hJ J
  refine vc_nil ?_
  try simp only [go_sem, ↓reduceIte, reduceCtorEq, Nat.reduceEqDiff, Nat.reduceLT, Nat.reduceAdd, Nat.reduceMul, Nat.reduceLeDiff, Nat.reduceSub]
  try simp only [go_sem, ↓reduceIte, reduceCtorEq, Nat.reduceEqDiff, Nat.reduceLT, Nat.reduceAdd, Nat.reduceMul, Nat.reduceLeDiff, Nat.reduceSub]
  refine hK3 _ ?_
  refine wp_block' ?_
  refine wp_forU (ι := Unit) (l.length) (fun i1 x1 => [(3, .int .i64 (i1 : Nat))]) (fun i1 x1 => _) (fun i1 x1 => _) (fun i1 x1 => True) () (by rfl) rfl rfl (by trivial) fun i1 x1 hi1 hv1 K4 hK4 => ?_
  refine wp_norm fun J hJ => ?_
  try simp only [go_sem, ↓reduceIte, reduceCtorEq, Nat.reduceEqDiff, Nat.reduceLT, Nat.reduceAdd, Nat.reduceMul, Nat.reduceLeDiff, Nat.reduceSub]
  refine hJ _ ?_
  clear hJ J
  refine wp_seq_k' fun K5 hK5 => ?_
  refine wp_seq_k' fun K6 hK6 => ?_
  refine wp_reg' ?_
  iterate 4 (refine @vc_step Fk _ _ _ _ fun J hJ => ?_; simp only [go_sem, ↓reduceIte, reduceCtorEq, Nat.reduceEqDiff, Nat.reduceLT, Nat.reduceAdd, Nat.reduceMul, Nat.reduceLeDiff, Nat.reduceSub]; refine hJ _ ?_; clear hJ J)
  refine vc_nil ?_
  try simp only [go_sem, ↓reduceIte, reduceCtorEq, Nat.reduceEqDiff, Nat.reduceLT, Nat.reduceAdd, Nat.reduceMul, Nat.reduceLeDiff, Nat.reduceSub]
  try simp only [go_sem, ↓reduceIte, reduceCtorEq, Nat.reduceEqDiff, Nat.reduceLT, Nat.reduceAdd, Nat.reduceMul, Nat.reduceLeDiff, Nat.reduceSub]
  refine hK6 _ ?_
  refine wp_cond' rfl (fun hc1 => ?_) (fun hc1 => ?_)
  · skip
    try simp only [decide_eq_true_eq, decide_eq_false_iff_not, Bool.not_eq_true', Bool.not_eq_false', beq_iff_eq, bne_iff_ne, beq_eq_false_iff_ne, Int.ofNat_lt, Int.not_lt, Bool.and_eq_true, ne_eq, bne_eq_false_iff_eq] at hc1
    refine wp_skip' ?_
    try simp only [go_sem, ↓reduceIte, reduceCtorEq, Nat.reduceEqDiff, Nat.reduceLT, Nat.reduceAdd, Nat.reduceMul, Nat.reduceLeDiff, Nat.reduceSub, hc1]
    try simp only [go_sem, ↓reduceIte, reduceCtorEq, Nat.reduceEqDiff, Nat.reduceLT, Nat.reduceAdd, Nat.reduceMul, Nat.reduceLeDiff, Nat.reduceSub, hc1]
    refine hK5 _ ?_
    refine wp_seq_k' fun K7 hK7 => ?_
    refine wp_block' ?_
    refine wp_seq_k' fun K8 hK8 => ?_
    refine wp_reg' ?_
    iterate 2 (refine @vc_step Fk _ _ _ _ fun J hJ => ?_; simp only [go_sem, ↓reduceIte, reduceCtorEq, Nat.reduceEqDiff, Nat.reduceLT, Nat.reduceAdd, Nat.reduceMul, Nat.reduceLeDiff, Nat.reduceSub, hc1]; refine hJ _ ?_; clear hJ J)
    refine @vc_step Fk _ _ _ _ fun J hJ => ?_
    simp only [go_sem, ↓reduceIte, reduceCtorEq, Nat.reduceEqDiff, Nat.reduceLT, Nat.reduceAdd, Nat.reduceMul, Nat.reduceLeDiff, Nat.reduceSub, hc1]
    first | refine hJ _ ?_ | refine ⟨by first | assumption | omega | exact List.getElem_mem _, hJ _ ?_⟩ | refine ⟨by first | assumption | omega | exact List.getElem_mem _, by first | assumption | omega | exact List.getElem_mem _, hJ _ ?_⟩
    clear hJ J
    iterate 4 (refine @vc_step Fk _ _ _ _ fun J hJ => ?_; simp only [go_sem, ↓reduceIte, reduceCtorEq, Nat.reduceEqDiff, Nat.reduceLT, Nat.reduceAdd, Nat.reduceMul, Nat.reduceLeDiff, Nat.reduceSub, hc1]; refine hJ _ ?_; clear hJ J)
    refine vc_nil ?_
    try simp only [go_sem, ↓reduceIte, reduceCtorEq, Nat.reduceEqDiff, Nat.reduceLT, Nat.reduceAdd, Nat.reduceMul, Nat.reduceLeDiff, Nat.reduceSub, hc1]
    try simp only [go_sem, ↓reduceIte, reduceCtorEq, Nat.reduceEqDiff, Nat.reduceLT, Nat.reduceAdd, Nat.reduceMul, Nat.reduceLeDiff, Nat.reduceSub, hc1]
    refine hK8 _ ?_
    refine wp_cond' rfl (fun hc2 => ?_) (fun hc2 => ?_)
    · skip
      try simp only [decide_eq_true_eq, decide_eq_false_iff_not, Bool.not_eq_true', Bool.not_eq_false', beq_iff_eq, bne_iff_ne, beq_eq_false_iff_ne, Int.ofNat_lt, Int.not_lt, Bool.and_eq_true, ne_eq, bne_eq_false_iff_eq] at hc2
      refine wp_seq_k' fun K9 hK9 => ?_
      refine wp_reg' ?_
      refine @vc_step Fk _ _ _ _ fun J hJ => ?_
      simp only [go_sem, ↓reduceIte, reduceCtorEq, Nat.reduceEqDiff, Nat.reduceLT, Nat.reduceAdd, Nat.reduceMul, Nat.reduceLeDiff, Nat.reduceSub, hc1, hc2]
      refine hJ _ ?_
      clear hJ J
      refine vc_nil ?_
      try simp only [go_sem, ↓reduceIte, reduceCtorEq, Nat.reduceEqDiff, Nat.reduceLT, Nat.reduceAdd, Nat.reduceMul, Nat.reduceLeDiff, Nat.reduceSub, hc1, hc2]
      try simp only [go_sem, ↓reduceIte, reduceCtorEq, Nat.reduceEqDiff, Nat.reduceLT, Nat.reduceAdd, Nat.reduceMul, Nat.reduceLeDiff, Nat.reduceSub, hc1, hc2]
      refine hK9 _ ?_
      refine wp_ret' ?_
      try simp only [go_sem, ↓reduceIte, reduceCtorEq, Nat.reduceEqDiff, Nat.reduceLT, Nat.reduceAdd, Nat.reduceMul, Nat.reduceLeDiff, Nat.reduceSub, hc1, hc2]
      exact hZ _ _ _ _ (by simp) rfl rfl ⟨_, rfl⟩
    · skip
      try simp only [decide_eq_true_eq, decide_eq_false_iff_not, Bool.not_eq_true', Bool.not_eq_false', beq_iff_eq, bne_iff_ne, beq_eq_false_iff_ne, Int.ofNat_lt, Int.not_lt, Bool.and_eq_true, ne_eq, bne_eq_false_iff_eq] at hc2
      refine wp_skip' ?_
      try simp only [go_sem, ↓reduceIte, reduceCtorEq, Nat.reduceEqDiff, Nat.reduceLT, Nat.reduceAdd, Nat.reduceMul, Nat.reduceLeDiff, Nat.reduceSub, hc1, hc2]
      try simp only [go_sem, ↓reduceIte, reduceCtorEq, Nat.reduceEqDiff, Nat.reduceLT, Nat.reduceAdd, Nat.reduceMul, Nat.reduceLeDiff, Nat.reduceSub, hc1, hc2]
      refine hK7 _ ?_
      refine wp_reg' ?_
      iterate 3 (refine @vc_step Fk _ _ _ _ fun J hJ => ?_; simp only [go_sem, ↓reduceIte, reduceCtorEq, Nat.reduceEqDiff, Nat.reduceLT, Nat.reduceAdd, Nat.reduceMul, Nat.reduceLeDiff, Nat.reduceSub, hc1, hc2]; refine hJ _ ?_; clear hJ J)
      refine vc_nil ?_
      try simp only [go_sem, ↓reduceIte, reduceCtorEq, Nat.reduceEqDiff, Nat.reduceLT, Nat.reduceAdd, Nat.reduceMul, Nat.reduceLeDiff, Nat.reduceSub, hc1, hc2]
      refine hK4 _ _ _ ⟨by assumption, (), by trivial, ?_, rfl, rfl⟩
      rw [wrap64 (n := ((i1 : Nat) : Int) + 1) (by omega) (by omega)]
      rfl
  · skip
    try simp only [decide_eq_true_eq, decide_eq_false_iff_not, Bool.not_eq_true', Bool.not_eq_false', beq_iff_eq, bne_iff_ne, beq_eq_false_iff_ne, Int.ofNat_lt, Int.not_lt, Bool.and_eq_true, ne_eq, bne_eq_false_iff_eq] at hc1
    refine wp_exit' ?_
    try simp only [go_sem, ↓reduceIte, reduceCtorEq, Nat.reduceEqDiff, Nat.reduceLT, Nat.reduceAdd, Nat.reduceMul, Nat.reduceLeDiff, Nat.reduceSub, hc1]
    try simp only [go_sem, ↓reduceIte, reduceCtorEq, Nat.reduceEqDiff, Nat.reduceLT, Nat.reduceAdd, Nat.reduceMul, Nat.reduceLeDiff, Nat.reduceSub, hc1]
    refine hK2 _ ?_
    refine wp_seq_k' fun K10 hK10 => ?_
    refine wp_reg' ?_
    iterate 4 (refine @vc_step Fk _ _ _ _ fun J hJ => ?_; simp only [go_sem, ↓reduceIte, reduceCtorEq, Nat.reduceEqDiff, Nat.reduceLT, Nat.reduceAdd, Nat.reduceMul, Nat.reduceLeDiff, Nat.reduceSub, hc1]; refine hJ _ ?_; clear hJ J)
    refine vc_nil ?_
    try simp only [go_sem, ↓reduceIte, reduceCtorEq, Nat.reduceEqDiff, Nat.reduceLT, Nat.reduceAdd, Nat.reduceMul, Nat.reduceLeDiff, Nat.reduceSub, hc1]
    try simp only [go_sem, ↓reduceIte, reduceCtorEq, Nat.reduceEqDiff, Nat.reduceLT, Nat.reduceAdd, Nat.reduceMul, Nat.reduceLeDiff, Nat.reduceSub, hc1]
    refine hK10 _ ?_
    refine wp_ret' ?_
    try simp only [go_sem, ↓reduceIte, reduceCtorEq, Nat.reduceEqDiff, Nat.reduceLT, Nat.reduceAdd, Nat.reduceMul, Nat.reduceLeDiff, Nat.reduceSub, hc1]
    exact hZ _ _ _ _ (by simp) rfl rfl ⟨_, rfl⟩
theorem short_call {t : TD} {l : List Wd} (hl : l.length ≤ maxL) {H : List AO} {T : List Nat} {Q : Av → List AO → List Nat → Prop} (hq : ∀ (b : Bool), Q (.bool b) H T) : RunT Fk (.fn n_pandectref06_short) [.sl (l.map Wd.cs) t.tk] H T Q := by
  obtain ⟨_, ⟨b, rfl⟩, hr⟩ := short _ _ hl
  exact runT_ret hr (hq b)

theorem words_step (u : Un) (hu : u.Ok) (ih : ∀ k ∈ u.kids, ∃ v, (∃ (b : Bool), v = .bool b) ∧ Ret Fk n_pandectref06_words [.agg k.cs] v) :
    ∃ v, (∃ (b : Bool), v = .bool b) ∧ Ret Fk n_pandectref06_words [.agg u.cs] v := by
  refine ret_of_wpP (show Fk n_pandectref06_words = some (.fn true 34 c_pandectref06_words r_pandectref06_words) from rfl) (args' := [.agg u.cs]) (by simp only [stripA, strip_int, strip_bool, strip_str, strip_sl, strip_U, strip_I, strip_A]) (Nat.le_of_ble_eq_true rfl) fun Z hZ => ?_
  unfold c_pandectref06_words
  refine wp_norm fun J hJ => ?_
  try simp only [go_sem, ↓reduceIte, reduceCtorEq, Nat.reduceEqDiff, Nat.reduceLT, Nat.reduceAdd, Nat.reduceMul, Nat.reduceLeDiff, Nat.reduceSub]
  refine hJ _ ?_
  clear hJ J
  obtain ⟨hl1, hl2, hl3, hl4⟩ := hu.len
  obtain ⟨hw1, hw2⟩ := hu.words
  unfold maxL at hl1 hl2 hl3 hl4
  refine wp_seq_k' fun K1 hK1 => ?_
  refine wp_reg' ?_
  iterate 2 (refine @vc_step Fk _ _ _ _ fun J hJ => ?_; simp only [go_sem, ↓reduceIte, reduceCtorEq, Nat.reduceEqDiff, Nat.reduceLT, Nat.reduceAdd, Nat.reduceMul, Nat.reduceLeDiff, Nat.reduceSub]; refine hJ _ ?_; clear hJ J)
  refine vc_nil ?_
  try simp only [go_sem, ↓reduceIte, reduceCtorEq, Nat.reduceEqDiff, Nat.reduceLT, Nat.reduceAdd, Nat.reduceMul, Nat.reduceLeDiff, Nat.reduceSub]
  try simp only [go_sem, ↓reduceIte, reduceCtorEq, Nat.reduceEqDiff, Nat.reduceLT, Nat.reduceAdd, Nat.reduceMul, Nat.reduceLeDiff, Nat.reduceSub]
  refine hK1 _ ?_
  refine wp_seq_k' fun K2 hK2 => ?_
  refine wp_seq_k' fun K3 hK3 => ?_
  refine wp_reg' ?_
  refine vc_merge (K := K3) (ks := [1, 19]) (d := 19) (fun b19 => True) (fun b19 hb19 => ?_) fun M3 hM3 => ?_
  · skip
    try simp only [go_sem, ↓reduceIte, reduceCtorEq, Nat.reduceEqDiff, Nat.reduceLT, Nat.reduceAdd, Nat.reduceMul, Nat.reduceLeDiff, Nat.reduceSub]
    refine hK3 _ ?_
    refine wp_cond' rfl (fun hc1 => ?_) (fun hc1 => ?_)
    · skip
      try simp only [decide_eq_true_eq, decide_eq_false_iff_not, Bool.not_eq_true', Bool.not_eq_false', beq_iff_eq, bne_iff_ne, beq_eq_false_iff_ne, Int.ofNat_lt, Int.not_lt, Bool.and_eq_true, ne_eq, bne_eq_false_iff_eq] at hc1
      refine wp_seq_k' fun K4 hK4 => ?_
      refine wp_reg' ?_
      refine @vc_step Fk _ _ _ _ fun J hJ => ?_
      simp only [go_sem, ↓reduceIte, reduceCtorEq, Nat.reduceEqDiff, Nat.reduceLT, Nat.reduceAdd, Nat.reduceMul, Nat.reduceLeDiff, Nat.reduceSub]
      refine hJ _ ?_
      clear hJ J
      refine vc_nil ?_
      try simp only [go_sem, ↓reduceIte, reduceCtorEq, Nat.reduceEqDiff, Nat.reduceLT, Nat.reduceAdd, Nat.reduceMul, Nat.reduceLeDiff, Nat.reduceSub]
      try simp only [go_sem, ↓reduceIte, reduceCtorEq, Nat.reduceEqDiff, Nat.reduceLT, Nat.reduceAdd, Nat.reduceMul, Nat.reduceLeDiff, Nat.reduceSub]
      refine hK4 _ ?_
      refine wp_ret' ?_
      try simp only [go_sem, ↓reduceIte, reduceCtorEq, Nat.reduceEqDiff, Nat.reduceLT, Nat.reduceAdd, Nat.reduceMul, Nat.reduceLeDiff, Nat.reduceSub]
      exact hZ _ _ _ _ (by simp) rfl rfl ⟨_, rfl⟩
    · skip
      try simp only [decide_eq_true_eq, decide_eq_false_iff_not, Bool.not_eq_true', Bool.not_eq_false', beq_iff_eq, bne_iff_ne, beq_eq_false_iff_ne, Int.ofNat_lt, Int.not_lt, Bool.and_eq_true, ne_eq, bne_eq_false_iff_eq] at hc1
      refine wp_skip' ?_
      try simp only [go_sem, ↓reduceIte, reduceCtorEq, Nat.reduceEqDiff, Nat.reduceLT, Nat.reduceAdd, Nat.reduceMul, Nat.reduceLeDiff, Nat.reduceSub]
      try simp only [go_sem, ↓reduceIte, reduceCtorEq, Nat.reduceEqDiff, Nat.reduceLT, Nat.reduceAdd, Nat.reduceMul, Nat.reduceLeDiff, Nat.reduceSub]
      refine hK2 _ ?_
      refine wp_seq_k' fun K5 hK5 => ?_
      refine wp_seq_k' fun K6 hK6 => ?_
      refine wp_reg' ?_
      refine @vc_step Fk _ _ _ _ fun J hJ => ?_
      simp only [go_sem, ↓reduceIte, reduceCtorEq, Nat.reduceEqDiff, Nat.reduceLT, Nat.reduceAdd, Nat.reduceMul, Nat.reduceLeDiff, Nat.reduceSub]
      refine hJ _ ?_
      clear hJ J
      refine vc_nil ?_
      try simp only [go_sem, ↓reduceIte, reduceCtorEq, Nat.reduceEqDiff, Nat.reduceLT, Nat.reduceAdd, Nat.reduceMul, Nat.reduceLeDiff, Nat.reduceSub]
      try simp only [go_sem, ↓reduceIte, reduceCtorEq, Nat.reduceEqDiff, Nat.reduceLT, Nat.reduceAdd, Nat.reduceMul, Nat.reduceLeDiff, Nat.reduceSub]
      refine hK6 _ ?_
      refine wp_block' ?_
      refine wp_forU (ι := Unit) (u.kids.length) (fun i1 x1 => [(3, .int .i64 (i1 : Nat))]) (fun i1 x1 => _) (fun i1 x1 => _) (fun i1 x1 => True) () (by rfl) rfl rfl (by trivial) fun i1 x1 hi1 hv1 K7 hK7 => ?_
      refine wp_norm fun J hJ => ?_
      try simp only [go_sem, ↓reduceIte, reduceCtorEq, Nat.reduceEqDiff, Nat.reduceLT, Nat.reduceAdd, Nat.reduceMul, Nat.reduceLeDiff, Nat.reduceSub]
      refine hJ _ ?_
      clear hJ J
      refine wp_seq_k' fun K8 hK8 => ?_
      refine wp_seq_k' fun K9 hK9 => ?_
      refine wp_reg' ?_
      iterate 5 (refine @vc_step Fk _ _ _ _ fun J hJ => ?_; simp only [go_sem, ↓reduceIte, reduceCtorEq, Nat.reduceEqDiff, Nat.reduceLT, Nat.reduceAdd, Nat.reduceMul, Nat.reduceLeDiff, Nat.reduceSub]; refine hJ _ ?_; clear hJ J)
      refine vc_nil ?_
      try simp only [go_sem, ↓reduceIte, reduceCtorEq, Nat.reduceEqDiff, Nat.reduceLT, Nat.reduceAdd, Nat.reduceMul, Nat.reduceLeDiff, Nat.reduceSub]
      try simp only [go_sem, ↓reduceIte, reduceCtorEq, Nat.reduceEqDiff, Nat.reduceLT, Nat.reduceAdd, Nat.reduceMul, Nat.reduceLeDiff, Nat.reduceSub]
      refine hK9 _ ?_
      refine wp_cond' rfl (fun hc2 => ?_) (fun hc2 => ?_)
      · skip
        try simp only [decide_eq_true_eq, decide_eq_false_iff_not, Bool.not_eq_true', Bool.not_eq_false', beq_iff_eq, bne_iff_ne, beq_eq_false_iff_ne, Int.ofNat_lt, Int.not_lt, Bool.and_eq_true, ne_eq, bne_eq_false_iff_eq] at hc2
        refine wp_skip' ?_
        try simp only [go_sem, ↓reduceIte, reduceCtorEq, Nat.reduceEqDiff, Nat.reduceLT, Nat.reduceAdd, Nat.reduceMul, Nat.reduceLeDiff, Nat.reduceSub, hc2]
        try simp only [go_sem, ↓reduceIte, reduceCtorEq, Nat.reduceEqDiff, Nat.reduceLT, Nat.reduceAdd, Nat.reduceMul, Nat.reduceLeDiff, Nat.reduceSub, hc2]
        refine hK8 _ ?_
        refine wp_seq_k' fun K10 hK10 => ?_
        refine wp_block' ?_
        refine wp_seq_k' fun K11 hK11 => ?_
        refine wp_reg' ?_
        iterate 3 (refine @vc_step Fk _ _ _ _ fun J hJ => ?_; simp only [go_sem, ↓reduceIte, reduceCtorEq, Nat.reduceEqDiff, Nat.reduceLT, Nat.reduceAdd, Nat.reduceMul, Nat.reduceLeDiff, Nat.reduceSub, hc2]; refine hJ _ ?_; clear hJ J)
        refine @vc_step Fk _ _ _ _ fun J hJ => ?_
        simp only [go_sem, ↓reduceIte, reduceCtorEq, Nat.reduceEqDiff, Nat.reduceLT, Nat.reduceAdd, Nat.reduceMul, Nat.reduceLeDiff, Nat.reduceSub, hc2]
        first | refine hJ _ ?_ | refine ⟨by first | assumption | omega | exact List.getElem_mem _, hJ _ ?_⟩ | refine ⟨by first | assumption | omega | exact List.getElem_mem _, by first | assumption | omega | exact List.getElem_mem _, hJ _ ?_⟩
        clear hJ J
        refine @vc_step Fk _ _ _ _ fun J hJ => ?_
        simp only [go_sem, ↓reduceIte, reduceCtorEq, Nat.reduceEqDiff, Nat.reduceLT, Nat.reduceAdd, Nat.reduceMul, Nat.reduceLeDiff, Nat.reduceSub, hc2]
        refine hJ _ ?_
        clear hJ J
        refine @vc_step Fk _ _ _ _ fun J hJ => ?_
        simp only [go_sem, ↓reduceIte, reduceCtorEq, Nat.reduceEqDiff, Nat.reduceLT, Nat.reduceAdd, Nat.reduceMul, Nat.reduceLeDiff, Nat.reduceSub, hc2]
        obtain ⟨_, ⟨b, rfl⟩, hih⟩ := ih _ (List.getElem_mem ‹_›)
        simp only [Un.cs_eq] at hih
        refine runT_ret hih ?_
        try simp only [go_sem, ↓reduceIte, reduceCtorEq, Nat.reduceEqDiff, Nat.reduceLT, Nat.reduceAdd, Nat.reduceMul, Nat.reduceLeDiff, Nat.reduceSub, hc2]
        refine hJ _ ?_
        clear hJ J
        refine @vc_step Fk _ _ _ _ fun J hJ => ?_
        simp only [go_sem, ↓reduceIte, reduceCtorEq, Nat.reduceEqDiff, Nat.reduceLT, Nat.reduceAdd, Nat.reduceMul, Nat.reduceLeDiff, Nat.reduceSub, hc2]
        refine hJ _ ?_
        clear hJ J
        refine vc_nil ?_
        try simp only [go_sem, ↓reduceIte, reduceCtorEq, Nat.reduceEqDiff, Nat.reduceLT, Nat.reduceAdd, Nat.reduceMul, Nat.reduceLeDiff, Nat.reduceSub, hc2]
        try simp only [go_sem, ↓reduceIte, reduceCtorEq, Nat.reduceEqDiff, Nat.reduceLT, Nat.reduceAdd, Nat.reduceMul, Nat.reduceLeDiff, Nat.reduceSub, hc2]
        refine hK11 _ ?_
        refine wp_cond' rfl (fun hc3 => ?_) (fun hc3 => ?_)
        · skip
          try simp only [decide_eq_true_eq, decide_eq_false_iff_not, Bool.not_eq_true', Bool.not_eq_false', beq_iff_eq, bne_iff_ne, beq_eq_false_iff_ne, Int.ofNat_lt, Int.not_lt, Bool.and_eq_true, ne_eq, bne_eq_false_iff_eq] at hc3
          refine wp_seq_k' fun K12 hK12 => ?_
          refine wp_reg' ?_
          refine @vc_step Fk _ _ _ _ fun J hJ => ?_
          simp only [go_sem, ↓reduceIte, reduceCtorEq, Nat.reduceEqDiff, Nat.reduceLT, Nat.reduceAdd, Nat.reduceMul, Nat.reduceLeDiff, Nat.reduceSub, hc2]
          refine hJ _ ?_
          clear hJ J
          refine vc_nil ?_
          try simp only [go_sem, ↓reduceIte, reduceCtorEq, Nat.reduceEqDiff, Nat.reduceLT, Nat.reduceAdd, Nat.reduceMul, Nat.reduceLeDiff, Nat.reduceSub, hc2]
          try simp only [go_sem, ↓reduceIte, reduceCtorEq, Nat.reduceEqDiff, Nat.reduceLT, Nat.reduceAdd, Nat.reduceMul, Nat.reduceLeDiff, Nat.reduceSub, hc2]
          refine hK12 _ ?_
          refine wp_ret' ?_
          try simp only [go_sem, ↓reduceIte, reduceCtorEq, Nat.reduceEqDiff, Nat.reduceLT, Nat.reduceAdd, Nat.reduceMul, Nat.reduceLeDiff, Nat.reduceSub, hc2]
          exact hZ _ _ _ _ (by simp) rfl rfl ⟨_, rfl⟩
        · skip
          try simp only [decide_eq_true_eq, decide_eq_false_iff_not, Bool.not_eq_true', Bool.not_eq_false', beq_iff_eq, bne_iff_ne, beq_eq_false_iff_ne, Int.ofNat_lt, Int.not_lt, Bool.and_eq_true, ne_eq, bne_eq_false_iff_eq] at hc3
          refine wp_skip' ?_
          try simp only [go_sem, ↓reduceIte, reduceCtorEq, Nat.reduceEqDiff, Nat.reduceLT, Nat.reduceAdd, Nat.reduceMul, Nat.reduceLeDiff, Nat.reduceSub, hc2]
          try simp only [go_sem, ↓reduceIte, reduceCtorEq, Nat.reduceEqDiff, Nat.reduceLT, Nat.reduceAdd, Nat.reduceMul, Nat.reduceLeDiff, Nat.reduceSub, hc2]
          refine hK10 _ ?_
          refine wp_reg' ?_
          iterate 3 (refine @vc_step Fk _ _ _ _ fun J hJ => ?_; simp only [go_sem, ↓reduceIte, reduceCtorEq, Nat.reduceEqDiff, Nat.reduceLT, Nat.reduceAdd, Nat.reduceMul, Nat.reduceLeDiff, Nat.reduceSub, hc2]; refine hJ _ ?_; clear hJ J)
          refine vc_nil ?_
          try simp only [go_sem, ↓reduceIte, reduceCtorEq, Nat.reduceEqDiff, Nat.reduceLT, Nat.reduceAdd, Nat.reduceMul, Nat.reduceLeDiff, Nat.reduceSub, hc2]
          refine hK7 _ _ _ ⟨by assumption, (), by trivial, ?_, rfl, rfl⟩
          rw [wrap64 (n := ((i1 : Nat) : Int) + 1) (by omega) (by omega)]
          rfl
      · skip
        try simp only [decide_eq_true_eq, decide_eq_false_iff_not, Bool.not_eq_true', Bool.not_eq_false', beq_iff_eq, bne_iff_ne, beq_eq_false_iff_ne, Int.ofNat_lt, Int.not_lt, Bool.and_eq_true, ne_eq, bne_eq_false_iff_eq] at hc2
        refine wp_exit' ?_
        try simp only [go_sem, ↓reduceIte, reduceCtorEq, Nat.reduceEqDiff, Nat.reduceLT, Nat.reduceAdd, Nat.reduceMul, Nat.reduceLeDiff, Nat.reduceSub, hc2]
        try simp only [go_sem, ↓reduceIte, reduceCtorEq, Nat.reduceEqDiff, Nat.reduceLT, Nat.reduceAdd, Nat.reduceMul, Nat.reduceLeDiff, Nat.reduceSub, hc2]
        refine hK5 _ ?_
        refine wp_seq_k' fun K13 hK13 => ?_
        refine wp_reg' ?_
        refine @vc_step Fk _ _ _ _ fun J hJ => ?_
        simp only [go_sem, ↓reduceIte, reduceCtorEq, Nat.reduceEqDiff, Nat.reduceLT, Nat.reduceAdd, Nat.reduceMul, Nat.reduceLeDiff, Nat.reduceSub, hc2]
        refine hJ _ ?_
        clear hJ J
        refine vc_nil ?_
        try simp only [go_sem, ↓reduceIte, reduceCtorEq, Nat.reduceEqDiff, Nat.reduceLT, Nat.reduceAdd, Nat.reduceMul, Nat.reduceLeDiff, Nat.reduceSub, hc2]
        try simp only [go_sem, ↓reduceIte, reduceCtorEq, Nat.reduceEqDiff, Nat.reduceLT, Nat.reduceAdd, Nat.reduceMul, Nat.reduceLeDiff, Nat.reduceSub, hc2]
        refine hK13 _ ?_
        refine wp_ret' ?_
        try simp only [go_sem, ↓reduceIte, reduceCtorEq, Nat.reduceEqDiff, Nat.reduceLT, Nat.reduceAdd, Nat.reduceMul, Nat.reduceLeDiff, Nat.reduceSub, hc2]
        exact hZ _ _ _ _ (by simp) rfl rfl ⟨_, rfl⟩
  · skip
    iterate 5 (refine @vc_step Fk _ _ _ _ fun J hJ => ?_; simp only [go_sem, ↓reduceIte, reduceCtorEq, Nat.reduceEqDiff, Nat.reduceLT, Nat.reduceAdd, Nat.reduceMul, Nat.reduceLeDiff, Nat.reduceSub]; refine hJ _ ?_; clear hJ J)
    refine @vc_gd Fk _ _ _ _ 8 (by rfl) (fun hg1 => ?_) (fun hg1 => ?_)
    · skip
      have hg1n := hg1
      try simp only [decide_eq_true_eq, decide_eq_false_iff_not, Bool.not_eq_true', Bool.not_eq_false', beq_iff_eq, bne_iff_ne, beq_eq_false_iff_ne, Int.ofNat_lt, Int.not_lt, Bool.and_eq_true, ne_eq, bne_eq_false_iff_eq] at hg1n
      iterate 11 (refine @vc_step Fk _ _ _ _ fun J hJ => ?_; simp only [go_sem, ↓reduceIte, reduceCtorEq, Nat.reduceEqDiff, Nat.reduceLT, Nat.reduceAdd, Nat.reduceMul, Nat.reduceLeDiff, Nat.reduceSub, hg1]; refine hJ _ ?_; clear hJ J)
      refine vc_nil ?_
      exact hM3 _ _ (trivial) rfl
    · skip
      have hg1n := hg1
      try simp only [decide_eq_true_eq, decide_eq_false_iff_not, Bool.not_eq_true', Bool.not_eq_false', beq_iff_eq, bne_iff_ne, beq_eq_false_iff_ne, Int.ofNat_lt, Int.not_lt, Bool.and_eq_true, ne_eq, bne_eq_false_iff_eq] at hg1n
      iterate 2 (refine @vc_step Fk _ _ _ _ fun J hJ => ?_; simp only [go_sem, ↓reduceIte, reduceCtorEq, Nat.reduceEqDiff, Nat.reduceLT, Nat.reduceAdd, Nat.reduceMul, Nat.reduceLeDiff, Nat.reduceSub, hg1]; refine hJ _ ?_; clear hJ J)
      refine @vc_step Fk _ _ _ _ fun J hJ => ?_
      simp only [go_sem, ↓reduceIte, reduceCtorEq, Nat.reduceEqDiff, Nat.reduceLT, Nat.reduceAdd, Nat.reduceMul, Nat.reduceLeDiff, Nat.reduceSub, hg1]
      refine short_call  (by first | assumption | omega | exact List.getElem_mem _) fun b1 => ?_
      try simp only [go_sem, ↓reduceIte, reduceCtorEq, Nat.reduceEqDiff, Nat.reduceLT, Nat.reduceAdd, Nat.reduceMul, Nat.reduceLeDiff, Nat.reduceSub, hg1]
      refine hJ _ ?_
      clear hJ J
      iterate 3 (refine @vc_step Fk _ _ _ _ fun J hJ => ?_; simp only [go_sem, ↓reduceIte, reduceCtorEq, Nat.reduceEqDiff, Nat.reduceLT, Nat.reduceAdd, Nat.reduceMul, Nat.reduceLeDiff, Nat.reduceSub, hg1]; refine hJ _ ?_; clear hJ J)
      refine @vc_gd Fk _ _ _ _ 14 (by rfl) (fun hg2 => ?_) (fun hg2 => ?_)
      · skip
        have hg2n := hg2
        try simp only [decide_eq_true_eq, decide_eq_false_iff_not, Bool.not_eq_true', Bool.not_eq_false', beq_iff_eq, bne_iff_ne, beq_eq_false_iff_ne, Int.ofNat_lt, Int.not_lt, Bool.and_eq_true, ne_eq, bne_eq_false_iff_eq] at hg2n
        iterate 5 (refine @vc_step Fk _ _ _ _ fun J hJ => ?_; simp only [go_sem, ↓reduceIte, reduceCtorEq, Nat.reduceEqDiff, Nat.reduceLT, Nat.reduceAdd, Nat.reduceMul, Nat.reduceLeDiff, Nat.reduceSub, hg1, hg2]; refine hJ _ ?_; clear hJ J)
        refine vc_nil ?_
        exact hM3 _ _ (trivial) rfl
      · skip
        have hg2n := hg2
        try simp only [decide_eq_true_eq, decide_eq_false_iff_not, Bool.not_eq_true', Bool.not_eq_false', beq_iff_eq, bne_iff_ne, beq_eq_false_iff_ne, Int.ofNat_lt, Int.not_lt, Bool.and_eq_true, ne_eq, bne_eq_false_iff_eq] at hg2n
        iterate 2 (refine @vc_step Fk _ _ _ _ fun J hJ => ?_; simp only [go_sem, ↓reduceIte, reduceCtorEq, Nat.reduceEqDiff, Nat.reduceLT, Nat.reduceAdd, Nat.reduceMul, Nat.reduceLeDiff, Nat.reduceSub, hg1, hg2]; refine hJ _ ?_; clear hJ J)
        refine @vc_step Fk _ _ _ _ fun J hJ => ?_
        simp only [go_sem, ↓reduceIte, reduceCtorEq, Nat.reduceEqDiff, Nat.reduceLT, Nat.reduceAdd, Nat.reduceMul, Nat.reduceLeDiff, Nat.reduceSub, hg1, hg2]
        refine short_call  (by first | assumption | omega | exact List.getElem_mem _) fun b2 => ?_
        try simp only [go_sem, ↓reduceIte, reduceCtorEq, Nat.reduceEqDiff, Nat.reduceLT, Nat.reduceAdd, Nat.reduceMul, Nat.reduceLeDiff, Nat.reduceSub, hg1, hg2]
        refine hJ _ ?_
        clear hJ J
        iterate 2 (refine @vc_step Fk _ _ _ _ fun J hJ => ?_; simp only [go_sem, ↓reduceIte, reduceCtorEq, Nat.reduceEqDiff, Nat.reduceLT, Nat.reduceAdd, Nat.reduceMul, Nat.reduceLeDiff, Nat.reduceSub, hg1, hg2]; refine hJ _ ?_; clear hJ J)
        refine vc_nil ?_
        exact hM3 _ _ (trivial) rfl
theorem words : ∀ (u : Un) (hu : u.Ok), ∃ v, (∃ (b : Bool), v = .bool b) ∧ Ret Fk n_pandectref06_words [.agg u.cs] v :=
  Un.ind fun u ih hu => words_step u hu fun k hk => ih k hk (hu.kids k hk)

theorem words_call {u : Un} (hu : u.Ok) {H : List AO} {T : List Nat} {Q : Av → List AO → List Nat → Prop} (hq : ∀ (b : Bool), Q (.bool b) H T) : RunT Fk (.fn n_pandectref06_words) [.agg [.int .i64 u.a, .int .i64 u.b, .int .i64 u.c, .int .i64 u.kind, .str u.label, .sl (u.head.map Wd.cs) u.t1.tk, .sl (u.words.map Wd.cs) u.t2.tk, .sl (u.kids.map Un.cs) u.t3.tk]] H T Q := by
  obtain ⟨_, ⟨b, rfl⟩, hr⟩ := words _ hu
  simp only [Un.cs_eq, It.cs_eq, Ac.cs] at hr
  exact runT_ret hr (hq b)

end Go.Am

set_option maxHeartbeats 4000000
set_option maxRecDepth 100000
namespace Go.Am
open Go

theorem le_eq_of {a b : Nat} (h : b ≤ a) (h2 : a ≤ b) : a = b := Nat.le_antisymm h2 h

theorem size_step (u : Un) (d m : Nat) (hu : u.Ok) (hd : d ≤ 21) (hm : m ≤ 1000) (ih : ∀ k ∈ u.kids, ∀ d m : Nat, d ≤ 21 → m ≤ 1000 → ∃ v, (∃ n : Nat, 1 ≤ n ∧ n ≤ m + 1 ∧ (n ≤ m → n = k.cnt) ∧ v = .int .i64 n) ∧ Ret Fk n_pandectref06_size [.agg k.cs, .int .i64 d, .int .i64 m] v) :
    ∃ v, (∃ (n : Nat), (1 ≤ n) ∧ (n ≤ m + 1) ∧ (n ≤ m → n = u.cnt) ∧ v = .int .i64 n) ∧ Ret Fk n_pandectref06_size [.agg u.cs, .int .i64 d, .int .i64 m] v := by
  refine ret_of_wpP (show Fk n_pandectref06_size = some (.fn true 39 c_pandectref06_size r_pandectref06_size) from rfl) (args' := [.agg u.cs, .int .i64 d, .int .i64 m]) (by simp only [stripA, strip_int, strip_bool, strip_str, strip_sl, strip_U, strip_I, strip_A]) (Nat.le_of_ble_eq_true rfl) fun Z hZ => ?_
  unfold c_pandectref06_size
  refine wp_norm fun J hJ => ?_
  try simp only [go_sem, ↓reduceIte, reduceCtorEq, Nat.reduceEqDiff, Nat.reduceLT, Nat.reduceAdd, Nat.reduceMul, Nat.reduceLeDiff, Nat.reduceSub]
  refine hJ _ ?_
  clear hJ J
  obtain ⟨hl1, hl2, hl3, hl4⟩ := hu.len
  obtain ⟨hw1, hw2⟩ := hu.words
  unfold maxL at hl1 hl2 hl3 hl4
  refine wp_seq_k' fun K1 hK1 => ?_
  refine wp_reg' ?_
  iterate 2 (refine @vc_step Fk _ _ _ _ fun J hJ => ?_; simp only [go_sem, ↓reduceIte, reduceCtorEq, Nat.reduceEqDiff, Nat.reduceLT, Nat.reduceAdd, Nat.reduceMul, Nat.reduceLeDiff, Nat.reduceSub]; refine hJ _ ?_; clear hJ J)
  refine vc_nil ?_
  try simp only [go_sem, ↓reduceIte, reduceCtorEq, Nat.reduceEqDiff, Nat.reduceLT, Nat.reduceAdd, Nat.reduceMul, Nat.reduceLeDiff, Nat.reduceSub]
  try simp only [go_sem, ↓reduceIte, reduceCtorEq, Nat.reduceEqDiff, Nat.reduceLT, Nat.reduceAdd, Nat.reduceMul, Nat.reduceLeDiff, Nat.reduceSub]
  refine hK1 _ ?_
  refine wp_seq_k' fun K2 hK2 => ?_
  refine wp_seq_k' fun K3 hK3 => ?_
  refine wp_reg' ?_
  iterate 2 (refine @vc_step Fk _ _ _ _ fun J hJ => ?_; simp only [go_sem, ↓reduceIte, reduceCtorEq, Nat.reduceEqDiff, Nat.reduceLT, Nat.reduceAdd, Nat.reduceMul, Nat.reduceLeDiff, Nat.reduceSub]; refine hJ _ ?_; clear hJ J)
  refine vc_nil ?_
  try simp only [go_sem, ↓reduceIte, reduceCtorEq, Nat.reduceEqDiff, Nat.reduceLT, Nat.reduceAdd, Nat.reduceMul, Nat.reduceLeDiff, Nat.reduceSub]
  try simp only [go_sem, ↓reduceIte, reduceCtorEq, Nat.reduceEqDiff, Nat.reduceLT, Nat.reduceAdd, Nat.reduceMul, Nat.reduceLeDiff, Nat.reduceSub]
  refine hK3 _ ?_
  refine wp_cond' rfl (fun hc1 => ?_) (fun hc1 => ?_)
  · skip
    try simp only [decide_eq_true_eq, decide_eq_false_iff_not, Bool.not_eq_true', Bool.not_eq_false', beq_iff_eq, bne_iff_ne, beq_eq_false_iff_ne, Int.ofNat_lt, Int.not_lt, Bool.and_eq_true, ne_eq, bne_eq_false_iff_eq] at hc1
    refine wp_seq_k' fun K4 hK4 => ?_
    refine wp_reg' ?_
    iterate 3 (refine @vc_step Fk _ _ _ _ fun J hJ => ?_; simp only [go_sem, ↓reduceIte, reduceCtorEq, Nat.reduceEqDiff, Nat.reduceLT, Nat.reduceAdd, Nat.reduceMul, Nat.reduceLeDiff, Nat.reduceSub, hc1]; refine hJ _ ?_; clear hJ J)
    refine vc_nil ?_
    try simp only [go_sem, ↓reduceIte, reduceCtorEq, Nat.reduceEqDiff, Nat.reduceLT, Nat.reduceAdd, Nat.reduceMul, Nat.reduceLeDiff, Nat.reduceSub, hc1]
    try simp only [go_sem, ↓reduceIte, reduceCtorEq, Nat.reduceEqDiff, Nat.reduceLT, Nat.reduceAdd, Nat.reduceMul, Nat.reduceLeDiff, Nat.reduceSub, hc1]
    refine hK4 _ ?_
    refine wp_ret' ?_
    try simp only [go_sem, ↓reduceIte, reduceCtorEq, Nat.reduceEqDiff, Nat.reduceLT, Nat.reduceAdd, Nat.reduceMul, Nat.reduceLeDiff, Nat.reduceSub, hc1]
    exact hZ _ _ _ _ (by simp) rfl rfl ⟨m + 1, by omega, by omega, by omega, by rw [wrap64 (by omega) (by omega)]; rfl⟩
  · skip
    try simp only [decide_eq_true_eq, decide_eq_false_iff_not, Bool.not_eq_true', Bool.not_eq_false', beq_iff_eq, bne_iff_ne, beq_eq_false_iff_ne, Int.ofNat_lt, Int.not_lt, Bool.and_eq_true, ne_eq, bne_eq_false_iff_eq] at hc1
    have hd1 : d ≤ 20 := by have h : (d : Int) ≤ 20 := (by simpa using hc1); omega
    refine wp_skip' ?_
    try simp only [go_sem, ↓reduceIte, reduceCtorEq, Nat.reduceEqDiff, Nat.reduceLT, Nat.reduceAdd, Nat.reduceMul, Nat.reduceLeDiff, Nat.reduceSub]
    try simp only [go_sem, ↓reduceIte, reduceCtorEq, Nat.reduceEqDiff, Nat.reduceLT, Nat.reduceAdd, Nat.reduceMul, Nat.reduceLeDiff, Nat.reduceSub]
    refine hK2 _ ?_
    refine wp_seq_k' fun K5 hK5 => ?_
    refine wp_reg' ?_
    refine @vc_step Fk _ _ _ _ fun J hJ => ?_
    simp only [go_sem, ↓reduceIte, reduceCtorEq, Nat.reduceEqDiff, Nat.reduceLT, Nat.reduceAdd, Nat.reduceMul, Nat.reduceLeDiff, Nat.reduceSub]
    refine hJ _ ?_
    clear hJ J
    refine vc_nil ?_
    try simp only [go_sem, ↓reduceIte, reduceCtorEq, Nat.reduceEqDiff, Nat.reduceLT, Nat.reduceAdd, Nat.reduceMul, Nat.reduceLeDiff, Nat.reduceSub]
    try simp only [go_sem, ↓reduceIte, reduceCtorEq, Nat.reduceEqDiff, Nat.reduceLT, Nat.reduceAdd, Nat.reduceMul, Nat.reduceLeDiff, Nat.reduceSub]
    refine hK5 _ ?_
    refine wp_seq_k' fun K6 hK6 => ?_
    refine wp_seq_k' fun K7 hK7 => ?_
    refine wp_reg' ?_
    refine @vc_step Fk _ _ _ _ fun J hJ => ?_
    simp only [go_sem, ↓reduceIte, reduceCtorEq, Nat.reduceEqDiff, Nat.reduceLT, Nat.reduceAdd, Nat.reduceMul, Nat.reduceLeDiff, Nat.reduceSub]
    refine hJ _ ?_
    clear hJ J
    refine vc_nil ?_
    try simp only [go_sem, ↓reduceIte, reduceCtorEq, Nat.reduceEqDiff, Nat.reduceLT, Nat.reduceAdd, Nat.reduceMul, Nat.reduceLeDiff, Nat.reduceSub]
    try simp only [go_sem, ↓reduceIte, reduceCtorEq, Nat.reduceEqDiff, Nat.reduceLT, Nat.reduceAdd, Nat.reduceMul, Nat.reduceLeDiff, Nat.reduceSub]
    refine hK7 _ ?_
    refine wp_block' ?_
    refine wp_forU (ι := Nat) (u.kids.length) (fun i1 x1 => [(7, .int .i64 x1), (8, .int .i64 (i1 : Nat))]) (fun i1 x1 => _) (fun i1 x1 => _) (fun i1 x1 => 1 ≤ x1 ∧ x1 ≤ m + 1 ∧ (x1 ≤ m → x1 = 1 + u.pre i1)) 1 (by rfl) rfl rfl (by exact ⟨by omega, by omega, fun _ => by rw [Un.pre_zero]⟩) fun i1 x1 hi1 hv1 K8 hK8 => ?_
    refine wp_norm fun J hJ => ?_
    try simp only [go_sem, ↓reduceIte, reduceCtorEq, Nat.reduceEqDiff, Nat.reduceLT, Nat.reduceAdd, Nat.reduceMul, Nat.reduceLeDiff, Nat.reduceSub]
    refine hJ _ ?_
    clear hJ J
    refine wp_seq_k' fun K9 hK9 => ?_
    refine wp_seq_k' fun K10 hK10 => ?_
    refine wp_reg' ?_
    refine vc_merge (K := K10) (ks := [1, 2, 3, 7, 8, 22]) (d := 22) (fun b22 => (b22 = true → i1 < u.kids.length ∧ x1 ≤ m) ∧ (b22 = false → x1 ≤ m → i1 = u.kids.length)) (fun b22 hb22 => ?_) fun M10 hM10 => ?_
    · skip
      try simp only [go_sem, ↓reduceIte, reduceCtorEq, Nat.reduceEqDiff, Nat.reduceLT, Nat.reduceAdd, Nat.reduceMul, Nat.reduceLeDiff, Nat.reduceSub]
      refine hK10 _ ?_
      refine wp_cond' rfl (fun hc2 => ?_) (fun hc2 => ?_)
      · skip
        try simp only [decide_eq_true_eq, decide_eq_false_iff_not, Bool.not_eq_true', Bool.not_eq_false', beq_iff_eq, bne_iff_ne, beq_eq_false_iff_ne, Int.ofNat_lt, Int.not_lt, Bool.and_eq_true, ne_eq, bne_eq_false_iff_eq] at hc2
        subst hc2
        obtain ⟨q1, q2⟩ := hb22.1 rfl
        refine wp_skip' ?_
        try simp only [go_sem, ↓reduceIte, reduceCtorEq, Nat.reduceEqDiff, Nat.reduceLT, Nat.reduceAdd, Nat.reduceMul, Nat.reduceLeDiff, Nat.reduceSub, q1]
        try simp only [go_sem, ↓reduceIte, reduceCtorEq, Nat.reduceEqDiff, Nat.reduceLT, Nat.reduceAdd, Nat.reduceMul, Nat.reduceLeDiff, Nat.reduceSub, q1]
        refine hK9 _ ?_
        refine wp_seq_k' fun K11 hK11 => ?_
        refine wp_block' ?_
        obtain ⟨_, ⟨r, hr1, hr2, hr3, rfl⟩, hr⟩ := ih (u.kids[i1]'q1) (List.getElem_mem _) (d + 1) (m - x1) (by omega) (by omega)
        rw [Un.cs_eq] at hr
        have e1 : IntKind.i64.wrap ((d : Int) + 1) = ((d + 1 : Nat) : Int) := by rw [wrap64 (by omega) (by omega)]; rfl
        have e2 : IntKind.i64.wrap ((m : Int) - (x1 : Int)) = ((m - x1 : Nat) : Int) := by rw [wrap64 (by omega) (by omega)]; omega
        refine wp_reg' ?_
        iterate 4 (refine @vc_step Fk _ _ _ _ fun J hJ => ?_; simp only [go_sem, ↓reduceIte, reduceCtorEq, Nat.reduceEqDiff, Nat.reduceLT, Nat.reduceAdd, Nat.reduceMul, Nat.reduceLeDiff, Nat.reduceSub, q1, e1, e2]; refine hJ _ ?_; clear hJ J)
        refine @vc_step Fk _ _ _ _ fun J hJ => ?_
        simp only [go_sem, ↓reduceIte, reduceCtorEq, Nat.reduceEqDiff, Nat.reduceLT, Nat.reduceAdd, Nat.reduceMul, Nat.reduceLeDiff, Nat.reduceSub, q1, e1, e2]
        first | refine hJ _ ?_ | refine ⟨by first | assumption | omega | exact List.getElem_mem _, hJ _ ?_⟩ | refine ⟨by first | assumption | omega | exact List.getElem_mem _, by first | assumption | omega | exact List.getElem_mem _, hJ _ ?_⟩
        clear hJ J
        iterate 6 (refine @vc_step Fk _ _ _ _ fun J hJ => ?_; simp only [go_sem, ↓reduceIte, reduceCtorEq, Nat.reduceEqDiff, Nat.reduceLT, Nat.reduceAdd, Nat.reduceMul, Nat.reduceLeDiff, Nat.reduceSub, q1, e1, e2]; refine hJ _ ?_; clear hJ J)
        refine @vc_step Fk _ _ _ _ fun J hJ => ?_
        simp only [go_sem, ↓reduceIte, reduceCtorEq, Nat.reduceEqDiff, Nat.reduceLT, Nat.reduceAdd, Nat.reduceMul, Nat.reduceLeDiff, Nat.reduceSub, q1, e1, e2]
        refine runT_ret hr ?_
        try simp only [go_sem, ↓reduceIte, reduceCtorEq, Nat.reduceEqDiff, Nat.reduceLT, Nat.reduceAdd, Nat.reduceMul, Nat.reduceLeDiff, Nat.reduceSub, q1, e1, e2]
        refine hJ _ ?_
        clear hJ J
        iterate 2 (refine @vc_step Fk _ _ _ _ fun J hJ => ?_; simp only [go_sem, ↓reduceIte, reduceCtorEq, Nat.reduceEqDiff, Nat.reduceLT, Nat.reduceAdd, Nat.reduceMul, Nat.reduceLeDiff, Nat.reduceSub, q1, e1, e2]; refine hJ _ ?_; clear hJ J)
        refine vc_nil ?_
        try simp only [go_sem, ↓reduceIte, reduceCtorEq, Nat.reduceEqDiff, Nat.reduceLT, Nat.reduceAdd, Nat.reduceMul, Nat.reduceLeDiff, Nat.reduceSub, q1]
        try simp only [go_sem, ↓reduceIte, reduceCtorEq, Nat.reduceEqDiff, Nat.reduceLT, Nat.reduceAdd, Nat.reduceMul, Nat.reduceLeDiff, Nat.reduceSub, q1]
        refine hK11 _ ?_
        refine wp_reg' ?_
        iterate 3 (refine @vc_step Fk _ _ _ _ fun J hJ => ?_; simp only [go_sem, ↓reduceIte, reduceCtorEq, Nat.reduceEqDiff, Nat.reduceLT, Nat.reduceAdd, Nat.reduceMul, Nat.reduceLeDiff, Nat.reduceSub, q1]; refine hJ _ ?_; clear hJ J)
        refine vc_nil ?_
        try simp only [go_sem, ↓reduceIte, reduceCtorEq, Nat.reduceEqDiff, Nat.reduceLT, Nat.reduceAdd, Nat.reduceMul, Nat.reduceLeDiff, Nat.reduceSub, q1]
        refine hK8 _ _ _ ⟨q1, x1 + r, ⟨by omega, by omega, fun h => ?_⟩, ?_, rfl, rfl⟩
        · rw [Un.pre_succ _ _ q1]
          have g1 := hr3 (by omega)
          have g2 := hv1.2.2 (by omega)
          omega
        · have h4 : r ≤ m + 1 := by omega
          rw [wrap64 (n := ((i1 : Nat) : Int) + 1) (by omega) (by omega), wrap64 (n := ((x1 : Nat) : Int) + (r : Int)) (by omega) (by omega)]
          rfl
      · skip
        try simp only [decide_eq_true_eq, decide_eq_false_iff_not, Bool.not_eq_true', Bool.not_eq_false', beq_iff_eq, bne_iff_ne, beq_eq_false_iff_ne, Int.ofNat_lt, Int.not_lt, Bool.and_eq_true, ne_eq, bne_eq_false_iff_eq] at hc2
        subst hc2
        refine wp_exit' ?_
        try simp only [go_sem, ↓reduceIte, reduceCtorEq, Nat.reduceEqDiff, Nat.reduceLT, Nat.reduceAdd, Nat.reduceMul, Nat.reduceLeDiff, Nat.reduceSub]
        try simp only [go_sem, ↓reduceIte, reduceCtorEq, Nat.reduceEqDiff, Nat.reduceLT, Nat.reduceAdd, Nat.reduceMul, Nat.reduceLeDiff, Nat.reduceSub]
        refine hK6 _ ?_
        refine wp_seq_k' fun K12 hK12 => ?_
        refine wp_reg' ?_
        iterate 2 (refine @vc_step Fk _ _ _ _ fun J hJ => ?_; simp only [go_sem, ↓reduceIte, reduceCtorEq, Nat.reduceEqDiff, Nat.reduceLT, Nat.reduceAdd, Nat.reduceMul, Nat.reduceLeDiff, Nat.reduceSub]; refine hJ _ ?_; clear hJ J)
        refine vc_nil ?_
        try simp only [go_sem, ↓reduceIte, reduceCtorEq, Nat.reduceEqDiff, Nat.reduceLT, Nat.reduceAdd, Nat.reduceMul, Nat.reduceLeDiff, Nat.reduceSub]
        try simp only [go_sem, ↓reduceIte, reduceCtorEq, Nat.reduceEqDiff, Nat.reduceLT, Nat.reduceAdd, Nat.reduceMul, Nat.reduceLeDiff, Nat.reduceSub]
        refine hK12 _ ?_
        refine wp_ret' ?_
        try simp only [go_sem, ↓reduceIte, reduceCtorEq, Nat.reduceEqDiff, Nat.reduceLT, Nat.reduceAdd, Nat.reduceMul, Nat.reduceLeDiff, Nat.reduceSub]
        refine hZ _ _ _ _ (by simp) rfl rfl ⟨x1, hv1.1, hv1.2.1, fun h => ?_, rfl⟩
        have h2 := hv1.2.2 h
        rw [hb22.2 rfl h] at h2
        have h3 := u.pre_all
        omega
    · skip
      iterate 6 (refine @vc_step Fk _ _ _ _ fun J hJ => ?_; simp only [go_sem, ↓reduceIte, reduceCtorEq, Nat.reduceEqDiff, Nat.reduceLT, Nat.reduceAdd, Nat.reduceMul, Nat.reduceLeDiff, Nat.reduceSub]; refine hJ _ ?_; clear hJ J)
      refine @vc_gd Fk _ _ _ _ 18 (by rfl) (fun hg1 => ?_) (fun hg1 => ?_)
      · skip
        have hg1n := hg1
        try simp only [decide_eq_true_eq, decide_eq_false_iff_not, Bool.not_eq_true', Bool.not_eq_false', beq_iff_eq, bne_iff_ne, beq_eq_false_iff_ne, Int.ofNat_lt, Int.not_lt, Bool.and_eq_true, ne_eq, bne_eq_false_iff_eq] at hg1n
        iterate 4 (refine @vc_step Fk _ _ _ _ fun J hJ => ?_; simp only [go_sem, ↓reduceIte, reduceCtorEq, Nat.reduceEqDiff, Nat.reduceLT, Nat.reduceAdd, Nat.reduceMul, Nat.reduceLeDiff, Nat.reduceSub, hg1]; refine hJ _ ?_; clear hJ J)
        refine vc_nil ?_
        exact hM10 _ _ (⟨fun q => ⟨by simpa using hg1, by simpa using q⟩, fun q h => absurd h (by simpa using q)⟩) rfl
      · skip
        have hg1n := hg1
        try simp only [decide_eq_true_eq, decide_eq_false_iff_not, Bool.not_eq_true', Bool.not_eq_false', beq_iff_eq, bne_iff_ne, beq_eq_false_iff_ne, Int.ofNat_lt, Int.not_lt, Bool.and_eq_true, ne_eq, bne_eq_false_iff_eq] at hg1n
        iterate 4 (refine @vc_step Fk _ _ _ _ fun J hJ => ?_; simp only [go_sem, ↓reduceIte, reduceCtorEq, Nat.reduceEqDiff, Nat.reduceLT, Nat.reduceAdd, Nat.reduceMul, Nat.reduceLeDiff, Nat.reduceSub, hg1]; refine hJ _ ?_; clear hJ J)
        refine vc_nil ?_
        exact hM10 _ _ (⟨fun q => (by cases q), fun q h => le_eq_of (by simpa using hg1) hi1⟩) rfl
theorem size : ∀ (u : Un) (d m : Nat) (hu : u.Ok) (hd : d ≤ 21) (hm : m ≤ 1000), ∃ v, (∃ n : Nat, 1 ≤ n ∧ n ≤ m + 1 ∧ (n ≤ m → n = u.cnt) ∧ v = .int .i64 n) ∧ Ret Fk n_pandectref06_size [.agg u.cs, .int .i64 d, .int .i64 m] v := fun u d m hu => by
  revert d m
  revert u
  exact Un.ind fun u ih hu d m hd hm => size_step u d m hu hd hm fun k hk => ih k hk (hu.kids k hk)

theorem size_call {u : Un} {d m : Nat} (hu : u.Ok) (hd : d ≤ 21) (hm : m ≤ 1000) {H : List AO} {T : List Nat} {Q : Av → List AO → List Nat → Prop} (hq : ∀ (n : Nat), (1 ≤ n) → (n ≤ m + 1) → (n ≤ m → n = u.cnt) → Q (.int .i64 n) H T) : RunT Fk (.fn n_pandectref06_size) [.agg [.int .i64 u.a, .int .i64 u.b, .int .i64 u.c, .int .i64 u.kind, .str u.label, .sl (u.head.map Wd.cs) u.t1.tk, .sl (u.words.map Wd.cs) u.t2.tk, .sl (u.kids.map Un.cs) u.t3.tk], .int .i64 d, .int .i64 m] H T Q := by
  obtain ⟨_, ⟨n, hn1, hn2, hn3, rfl⟩, hr⟩ := size _ _ _ hu hd hm
  simp only [Un.cs_eq, It.cs_eq, Ac.cs] at hr
  exact runT_ret hr (hq n hn1 hn2 hn3)

theorem named_step (u : Un) (hu : u.Ok) (ih : ∀ k ∈ u.kids, ∃ v, (∃ (b : Bool), v = .bool b) ∧ Ret Fk n_pandectref08_named [.agg k.cs] v) :
    ∃ v, (∃ (b : Bool), v = .bool b) ∧ Ret Fk n_pandectref08_named [.agg u.cs] v := by
  refine ret_of_wpP (show Fk n_pandectref08_named = some (.fn true 27 c_pandectref08_named r_pandectref08_named) from rfl) (args' := [.agg u.cs]) (by simp only [stripA, strip_int, strip_bool, strip_str, strip_sl, strip_U, strip_I, strip_A]) (Nat.le_of_ble_eq_true rfl) fun Z hZ => ?_
  unfold c_pandectref08_named
  refine wp_norm fun J hJ => ?_
  try simp only [go_sem, ↓reduceIte, reduceCtorEq, Nat.reduceEqDiff, Nat.reduceLT, Nat.reduceAdd, Nat.reduceMul, Nat.reduceLeDiff, Nat.reduceSub, eqVals, eqK, eq1]
  refine hJ _ ?_
  clear hJ J
  obtain ⟨hl1, hl2, hl3, hl4⟩ := hu.len
  obtain ⟨hw1, hw2⟩ := hu.words
  unfold maxL at hl1 hl2 hl3 hl4
  refine wp_seq_k' fun K1 hK1 => ?_
  refine wp_reg' ?_
  iterate 2 (refine @vc_step Fk _ _ _ _ fun J hJ => ?_; simp only [go_sem, ↓reduceIte, reduceCtorEq, Nat.reduceEqDiff, Nat.reduceLT, Nat.reduceAdd, Nat.reduceMul, Nat.reduceLeDiff, Nat.reduceSub, eqVals, eqK, eq1]; refine hJ _ ?_; clear hJ J)
  refine vc_nil ?_
  try simp only [go_sem, ↓reduceIte, reduceCtorEq, Nat.reduceEqDiff, Nat.reduceLT, Nat.reduceAdd, Nat.reduceMul, Nat.reduceLeDiff, Nat.reduceSub, eqVals, eqK, eq1]
  try simp only [go_sem, ↓reduceIte, reduceCtorEq, Nat.reduceEqDiff, Nat.reduceLT, Nat.reduceAdd, Nat.reduceMul, Nat.reduceLeDiff, Nat.reduceSub, eqVals, eqK, eq1]
  refine hK1 _ ?_
  refine wp_seq_k' fun K2 hK2 => ?_
  refine wp_seq_k' fun K3 hK3 => ?_
  refine wp_reg' ?_
  refine vc_merge (K := K3) (ks := [1, 12]) (d := 12) (fun b12 => True) (fun b12 hb12 => ?_) fun M3 hM3 => ?_
  · skip
    try simp only [go_sem, ↓reduceIte, reduceCtorEq, Nat.reduceEqDiff, Nat.reduceLT, Nat.reduceAdd, Nat.reduceMul, Nat.reduceLeDiff, Nat.reduceSub, eqVals, eqK, eq1]
    refine hK3 _ ?_
    refine wp_cond' rfl (fun hc1 => ?_) (fun hc1 => ?_)
    · skip
      try simp only [decide_eq_true_eq, decide_eq_false_iff_not, Bool.not_eq_true', Bool.not_eq_false', beq_iff_eq, bne_iff_ne, beq_eq_false_iff_ne, Int.ofNat_lt, Int.not_lt, Bool.and_eq_true, ne_eq, bne_eq_false_iff_eq] at hc1
      refine wp_seq_k' fun K4 hK4 => ?_
      refine wp_reg' ?_
      refine @vc_step Fk _ _ _ _ fun J hJ => ?_
      simp only [go_sem, ↓reduceIte, reduceCtorEq, Nat.reduceEqDiff, Nat.reduceLT, Nat.reduceAdd, Nat.reduceMul, Nat.reduceLeDiff, Nat.reduceSub, eqVals, eqK, eq1]
      refine hJ _ ?_
      clear hJ J
      refine vc_nil ?_
      try simp only [go_sem, ↓reduceIte, reduceCtorEq, Nat.reduceEqDiff, Nat.reduceLT, Nat.reduceAdd, Nat.reduceMul, Nat.reduceLeDiff, Nat.reduceSub, eqVals, eqK, eq1]
      try simp only [go_sem, ↓reduceIte, reduceCtorEq, Nat.reduceEqDiff, Nat.reduceLT, Nat.reduceAdd, Nat.reduceMul, Nat.reduceLeDiff, Nat.reduceSub, eqVals, eqK, eq1]
      refine hK4 _ ?_
      refine wp_ret' ?_
      try simp only [go_sem, ↓reduceIte, reduceCtorEq, Nat.reduceEqDiff, Nat.reduceLT, Nat.reduceAdd, Nat.reduceMul, Nat.reduceLeDiff, Nat.reduceSub, eqVals, eqK, eq1]
      exact hZ _ _ _ _ (by simp) rfl rfl ⟨_, rfl⟩
    · skip
      try simp only [decide_eq_true_eq, decide_eq_false_iff_not, Bool.not_eq_true', Bool.not_eq_false', beq_iff_eq, bne_iff_ne, beq_eq_false_iff_ne, Int.ofNat_lt, Int.not_lt, Bool.and_eq_true, ne_eq, bne_eq_false_iff_eq] at hc1
      refine wp_skip' ?_
      try simp only [go_sem, ↓reduceIte, reduceCtorEq, Nat.reduceEqDiff, Nat.reduceLT, Nat.reduceAdd, Nat.reduceMul, Nat.reduceLeDiff, Nat.reduceSub, eqVals, eqK, eq1]
      try simp only [go_sem, ↓reduceIte, reduceCtorEq, Nat.reduceEqDiff, Nat.reduceLT, Nat.reduceAdd, Nat.reduceMul, Nat.reduceLeDiff, Nat.reduceSub, eqVals, eqK, eq1]
      refine hK2 _ ?_
      refine wp_seq_k' fun K5 hK5 => ?_
      refine wp_seq_k' fun K6 hK6 => ?_
      refine wp_reg' ?_
      refine @vc_step Fk _ _ _ _ fun J hJ => ?_
      simp only [go_sem, ↓reduceIte, reduceCtorEq, Nat.reduceEqDiff, Nat.reduceLT, Nat.reduceAdd, Nat.reduceMul, Nat.reduceLeDiff, Nat.reduceSub, eqVals, eqK, eq1]
      refine hJ _ ?_
      clear hJ J
      refine vc_nil ?_
      try simp only [go_sem, ↓reduceIte, reduceCtorEq, Nat.reduceEqDiff, Nat.reduceLT, Nat.reduceAdd, Nat.reduceMul, Nat.reduceLeDiff, Nat.reduceSub, eqVals, eqK, eq1]
      try simp only [go_sem, ↓reduceIte, reduceCtorEq, Nat.reduceEqDiff, Nat.reduceLT, Nat.reduceAdd, Nat.reduceMul, Nat.reduceLeDiff, Nat.reduceSub, eqVals, eqK, eq1]
      refine hK6 _ ?_
      refine wp_block' ?_
      refine wp_forU (ι := Unit) (u.kids.length) (fun i1 x1 => [(3, .int .i64 (i1 : Nat))]) (fun i1 x1 => _) (fun i1 x1 => _) (fun i1 x1 => True) () (by rfl) rfl rfl (by trivial) fun i1 x1 hi1 hv1 K7 hK7 => ?_
      refine wp_norm fun J hJ => ?_
      try simp only [go_sem, ↓reduceIte, reduceCtorEq, Nat.reduceEqDiff, Nat.reduceLT, Nat.reduceAdd, Nat.reduceMul, Nat.reduceLeDiff, Nat.reduceSub, eqVals, eqK, eq1]
      refine hJ _ ?_
      clear hJ J
      refine wp_seq_k' fun K8 hK8 => ?_
      refine wp_seq_k' fun K9 hK9 => ?_
      refine wp_reg' ?_
      iterate 5 (refine @vc_step Fk _ _ _ _ fun J hJ => ?_; simp only [go_sem, ↓reduceIte, reduceCtorEq, Nat.reduceEqDiff, Nat.reduceLT, Nat.reduceAdd, Nat.reduceMul, Nat.reduceLeDiff, Nat.reduceSub, eqVals, eqK, eq1]; refine hJ _ ?_; clear hJ J)
      refine vc_nil ?_
      try simp only [go_sem, ↓reduceIte, reduceCtorEq, Nat.reduceEqDiff, Nat.reduceLT, Nat.reduceAdd, Nat.reduceMul, Nat.reduceLeDiff, Nat.reduceSub, eqVals, eqK, eq1]
      try simp only [go_sem, ↓reduceIte, reduceCtorEq, Nat.reduceEqDiff, Nat.reduceLT, Nat.reduceAdd, Nat.reduceMul, Nat.reduceLeDiff, Nat.reduceSub, eqVals, eqK, eq1]
      refine hK9 _ ?_
      refine wp_cond' rfl (fun hc2 => ?_) (fun hc2 => ?_)
      · skip
        try simp only [decide_eq_true_eq, decide_eq_false_iff_not, Bool.not_eq_true', Bool.not_eq_false', beq_iff_eq, bne_iff_ne, beq_eq_false_iff_ne, Int.ofNat_lt, Int.not_lt, Bool.and_eq_true, ne_eq, bne_eq_false_iff_eq] at hc2
        refine wp_skip' ?_
        try simp only [go_sem, ↓reduceIte, reduceCtorEq, Nat.reduceEqDiff, Nat.reduceLT, Nat.reduceAdd, Nat.reduceMul, Nat.reduceLeDiff, Nat.reduceSub, eqVals, eqK, eq1, hc2]
        try simp only [go_sem, ↓reduceIte, reduceCtorEq, Nat.reduceEqDiff, Nat.reduceLT, Nat.reduceAdd, Nat.reduceMul, Nat.reduceLeDiff, Nat.reduceSub, eqVals, eqK, eq1, hc2]
        refine hK8 _ ?_
        refine wp_seq_k' fun K10 hK10 => ?_
        refine wp_block' ?_
        refine wp_seq_k' fun K11 hK11 => ?_
        refine wp_reg' ?_
        iterate 3 (refine @vc_step Fk _ _ _ _ fun J hJ => ?_; simp only [go_sem, ↓reduceIte, reduceCtorEq, Nat.reduceEqDiff, Nat.reduceLT, Nat.reduceAdd, Nat.reduceMul, Nat.reduceLeDiff, Nat.reduceSub, eqVals, eqK, eq1, hc2]; refine hJ _ ?_; clear hJ J)
        refine @vc_step Fk _ _ _ _ fun J hJ => ?_
        simp only [go_sem, ↓reduceIte, reduceCtorEq, Nat.reduceEqDiff, Nat.reduceLT, Nat.reduceAdd, Nat.reduceMul, Nat.reduceLeDiff, Nat.reduceSub, eqVals, eqK, eq1, hc2]
        first | refine hJ _ ?_ | refine ⟨by first | assumption | omega | exact List.getElem_mem _, hJ _ ?_⟩ | refine ⟨by first | assumption | omega | exact List.getElem_mem _, by first | assumption | omega | exact List.getElem_mem _, hJ _ ?_⟩
        clear hJ J
        refine @vc_step Fk _ _ _ _ fun J hJ => ?_
        simp only [go_sem, ↓reduceIte, reduceCtorEq, Nat.reduceEqDiff, Nat.reduceLT, Nat.reduceAdd, Nat.reduceMul, Nat.reduceLeDiff, Nat.reduceSub, eqVals, eqK, eq1, hc2]
        refine hJ _ ?_
        clear hJ J
        refine @vc_step Fk _ _ _ _ fun J hJ => ?_
        simp only [go_sem, ↓reduceIte, reduceCtorEq, Nat.reduceEqDiff, Nat.reduceLT, Nat.reduceAdd, Nat.reduceMul, Nat.reduceLeDiff, Nat.reduceSub, eqVals, eqK, eq1, hc2]
        obtain ⟨_, ⟨b, rfl⟩, hih⟩ := ih _ (List.getElem_mem ‹_›)
        simp only [Un.cs_eq] at hih
        refine runT_ret hih ?_
        try simp only [go_sem, ↓reduceIte, reduceCtorEq, Nat.reduceEqDiff, Nat.reduceLT, Nat.reduceAdd, Nat.reduceMul, Nat.reduceLeDiff, Nat.reduceSub, eqVals, eqK, eq1, hc2]
        refine hJ _ ?_
        clear hJ J
        refine @vc_step Fk _ _ _ _ fun J hJ => ?_
        simp only [go_sem, ↓reduceIte, reduceCtorEq, Nat.reduceEqDiff, Nat.reduceLT, Nat.reduceAdd, Nat.reduceMul, Nat.reduceLeDiff, Nat.reduceSub, eqVals, eqK, eq1, hc2]
        refine hJ _ ?_
        clear hJ J
        refine vc_nil ?_
        try simp only [go_sem, ↓reduceIte, reduceCtorEq, Nat.reduceEqDiff, Nat.reduceLT, Nat.reduceAdd, Nat.reduceMul, Nat.reduceLeDiff, Nat.reduceSub, eqVals, eqK, eq1, hc2]
        try simp only [go_sem, ↓reduceIte, reduceCtorEq, Nat.reduceEqDiff, Nat.reduceLT, Nat.reduceAdd, Nat.reduceMul, Nat.reduceLeDiff, Nat.reduceSub, eqVals, eqK, eq1, hc2]
        refine hK11 _ ?_
        refine wp_cond' rfl (fun hc3 => ?_) (fun hc3 => ?_)
        · skip
          try simp only [decide_eq_true_eq, decide_eq_false_iff_not, Bool.not_eq_true', Bool.not_eq_false', beq_iff_eq, bne_iff_ne, beq_eq_false_iff_ne, Int.ofNat_lt, Int.not_lt, Bool.and_eq_true, ne_eq, bne_eq_false_iff_eq] at hc3
          refine wp_seq_k' fun K12 hK12 => ?_
          refine wp_reg' ?_
          refine @vc_step Fk _ _ _ _ fun J hJ => ?_
          simp only [go_sem, ↓reduceIte, reduceCtorEq, Nat.reduceEqDiff, Nat.reduceLT, Nat.reduceAdd, Nat.reduceMul, Nat.reduceLeDiff, Nat.reduceSub, eqVals, eqK, eq1, hc2]
          refine hJ _ ?_
          clear hJ J
          refine vc_nil ?_
          try simp only [go_sem, ↓reduceIte, reduceCtorEq, Nat.reduceEqDiff, Nat.reduceLT, Nat.reduceAdd, Nat.reduceMul, Nat.reduceLeDiff, Nat.reduceSub, eqVals, eqK, eq1, hc2]
          try simp only [go_sem, ↓reduceIte, reduceCtorEq, Nat.reduceEqDiff, Nat.reduceLT, Nat.reduceAdd, Nat.reduceMul, Nat.reduceLeDiff, Nat.reduceSub, eqVals, eqK, eq1, hc2]
          refine hK12 _ ?_
          refine wp_ret' ?_
          try simp only [go_sem, ↓reduceIte, reduceCtorEq, Nat.reduceEqDiff, Nat.reduceLT, Nat.reduceAdd, Nat.reduceMul, Nat.reduceLeDiff, Nat.reduceSub, eqVals, eqK, eq1, hc2]
          exact hZ _ _ _ _ (by simp) rfl rfl ⟨_, rfl⟩
        · skip
          try simp only [decide_eq_true_eq, decide_eq_false_iff_not, Bool.not_eq_true', Bool.not_eq_false', beq_iff_eq, bne_iff_ne, beq_eq_false_iff_ne, Int.ofNat_lt, Int.not_lt, Bool.and_eq_true, ne_eq, bne_eq_false_iff_eq] at hc3
          refine wp_skip' ?_
          try simp only [go_sem, ↓reduceIte, reduceCtorEq, Nat.reduceEqDiff, Nat.reduceLT, Nat.reduceAdd, Nat.reduceMul, Nat.reduceLeDiff, Nat.reduceSub, eqVals, eqK, eq1, hc2]
          try simp only [go_sem, ↓reduceIte, reduceCtorEq, Nat.reduceEqDiff, Nat.reduceLT, Nat.reduceAdd, Nat.reduceMul, Nat.reduceLeDiff, Nat.reduceSub, eqVals, eqK, eq1, hc2]
          refine hK10 _ ?_
          refine wp_reg' ?_
          iterate 3 (refine @vc_step Fk _ _ _ _ fun J hJ => ?_; simp only [go_sem, ↓reduceIte, reduceCtorEq, Nat.reduceEqDiff, Nat.reduceLT, Nat.reduceAdd, Nat.reduceMul, Nat.reduceLeDiff, Nat.reduceSub, eqVals, eqK, eq1, hc2]; refine hJ _ ?_; clear hJ J)
          refine vc_nil ?_
          try simp only [go_sem, ↓reduceIte, reduceCtorEq, Nat.reduceEqDiff, Nat.reduceLT, Nat.reduceAdd, Nat.reduceMul, Nat.reduceLeDiff, Nat.reduceSub, eqVals, eqK, eq1, hc2]
          refine hK7 _ _ _ ⟨by assumption, (), by trivial, ?_, rfl, rfl⟩
          rw [wrap64 (n := ((i1 : Nat) : Int) + 1) (by omega) (by omega)]
          rfl
      · skip
        try simp only [decide_eq_true_eq, decide_eq_false_iff_not, Bool.not_eq_true', Bool.not_eq_false', beq_iff_eq, bne_iff_ne, beq_eq_false_iff_ne, Int.ofNat_lt, Int.not_lt, Bool.and_eq_true, ne_eq, bne_eq_false_iff_eq] at hc2
        refine wp_exit' ?_
        try simp only [go_sem, ↓reduceIte, reduceCtorEq, Nat.reduceEqDiff, Nat.reduceLT, Nat.reduceAdd, Nat.reduceMul, Nat.reduceLeDiff, Nat.reduceSub, eqVals, eqK, eq1, hc2]
        try simp only [go_sem, ↓reduceIte, reduceCtorEq, Nat.reduceEqDiff, Nat.reduceLT, Nat.reduceAdd, Nat.reduceMul, Nat.reduceLeDiff, Nat.reduceSub, eqVals, eqK, eq1, hc2]
        refine hK5 _ ?_
        refine wp_seq_k' fun K13 hK13 => ?_
        refine wp_reg' ?_
        refine @vc_step Fk _ _ _ _ fun J hJ => ?_
        simp only [go_sem, ↓reduceIte, reduceCtorEq, Nat.reduceEqDiff, Nat.reduceLT, Nat.reduceAdd, Nat.reduceMul, Nat.reduceLeDiff, Nat.reduceSub, eqVals, eqK, eq1, hc2]
        refine hJ _ ?_
        clear hJ J
        refine vc_nil ?_
        try simp only [go_sem, ↓reduceIte, reduceCtorEq, Nat.reduceEqDiff, Nat.reduceLT, Nat.reduceAdd, Nat.reduceMul, Nat.reduceLeDiff, Nat.reduceSub, eqVals, eqK, eq1, hc2]
        try simp only [go_sem, ↓reduceIte, reduceCtorEq, Nat.reduceEqDiff, Nat.reduceLT, Nat.reduceAdd, Nat.reduceMul, Nat.reduceLeDiff, Nat.reduceSub, eqVals, eqK, eq1, hc2]
        refine hK13 _ ?_
        refine wp_ret' ?_
        try simp only [go_sem, ↓reduceIte, reduceCtorEq, Nat.reduceEqDiff, Nat.reduceLT, Nat.reduceAdd, Nat.reduceMul, Nat.reduceLeDiff, Nat.reduceSub, eqVals, eqK, eq1, hc2]
        exact hZ _ _ _ _ (by simp) rfl rfl ⟨_, rfl⟩
  · skip
    iterate 4 (refine @vc_step Fk _ _ _ _ fun J hJ => ?_; simp only [go_sem, ↓reduceIte, reduceCtorEq, Nat.reduceEqDiff, Nat.reduceLT, Nat.reduceAdd, Nat.reduceMul, Nat.reduceLeDiff, Nat.reduceSub, eqVals, eqK, eq1]; refine hJ _ ?_; clear hJ J)
    refine @vc_gd Fk _ _ _ _ 7 (by rfl) (fun hg1 => ?_) (fun hg1 => ?_)
    · skip
      have hg1n := hg1
      try simp only [decide_eq_true_eq, decide_eq_false_iff_not, Bool.not_eq_true', Bool.not_eq_false', beq_iff_eq, bne_iff_ne, beq_eq_false_iff_ne, Int.ofNat_lt, Int.not_lt, Bool.and_eq_true, ne_eq, bne_eq_false_iff_eq] at hg1n
      iterate 5 (refine @vc_step Fk _ _ _ _ fun J hJ => ?_; simp only [go_sem, ↓reduceIte, reduceCtorEq, Nat.reduceEqDiff, Nat.reduceLT, Nat.reduceAdd, Nat.reduceMul, Nat.reduceLeDiff, Nat.reduceSub, eqVals, eqK, eq1, hg1]; refine hJ _ ?_; clear hJ J)
      refine vc_nil ?_
      exact hM3 _ _ (trivial) rfl
    · skip
      have hg1n := hg1
      try simp only [decide_eq_true_eq, decide_eq_false_iff_not, Bool.not_eq_true', Bool.not_eq_false', beq_iff_eq, bne_iff_ne, beq_eq_false_iff_ne, Int.ofNat_lt, Int.not_lt, Bool.and_eq_true, ne_eq, bne_eq_false_iff_eq] at hg1n
      iterate 5 (refine @vc_step Fk _ _ _ _ fun J hJ => ?_; simp only [go_sem, ↓reduceIte, reduceCtorEq, Nat.reduceEqDiff, Nat.reduceLT, Nat.reduceAdd, Nat.reduceMul, Nat.reduceLeDiff, Nat.reduceSub, eqVals, eqK, eq1, hg1]; refine hJ _ ?_; clear hJ J)
      refine vc_nil ?_
      exact hM3 _ _ (trivial) rfl
theorem named : ∀ (u : Un) (hu : u.Ok), ∃ v, (∃ (b : Bool), v = .bool b) ∧ Ret Fk n_pandectref08_named [.agg u.cs] v :=
  Un.ind fun u ih hu => named_step u hu fun k hk => ih k hk (hu.kids k hk)

theorem named_call {u : Un} (hu : u.Ok) {H : List AO} {T : List Nat} {Q : Av → List AO → List Nat → Prop} (hq : ∀ (b : Bool), Q (.bool b) H T) : RunT Fk (.fn n_pandectref08_named) [.agg [.int .i64 u.a, .int .i64 u.b, .int .i64 u.c, .int .i64 u.kind, .str u.label, .sl (u.head.map Wd.cs) u.t1.tk, .sl (u.words.map Wd.cs) u.t2.tk, .sl (u.kids.map Un.cs) u.t3.tk]] H T Q := by
  obtain ⟨_, ⟨b, rfl⟩, hr⟩ := named _ hu
  simp only [Un.cs_eq, It.cs_eq, Ac.cs] at hr
  exact runT_ret hr (hq b)

theorem depth_step (u : Un) (hu : u.Ok) (ih : ∀ k ∈ u.kids, ∃ v, (∃ (n : Int), v = .int .i64 n) ∧ Ret Fk n_pandectref06_Depth [.agg k.cs] v) :
    ∃ v, (∃ (n : Int), v = .int .i64 n) ∧ Ret Fk n_pandectref06_Depth [.agg u.cs] v := by
  refine ret_of_wpP (show Fk n_pandectref06_Depth = some (.fn true 22 c_pandectref06_Depth r_pandectref06_Depth) from rfl) (args' := [.agg u.cs]) (by simp only [stripA, strip_int, strip_bool, strip_str, strip_sl, strip_U, strip_I, strip_A]) (Nat.le_of_ble_eq_true rfl) fun Z hZ => ?_
  unfold c_pandectref06_Depth
  refine wp_norm fun J hJ => ?_
  try simp only [go_sem, ↓reduceIte, reduceCtorEq, Nat.reduceEqDiff, Nat.reduceLT, Nat.reduceAdd, Nat.reduceMul, Nat.reduceLeDiff, Nat.reduceSub]
  refine hJ _ ?_
  clear hJ J
  obtain ⟨hl1, hl2, hl3, hl4⟩ := hu.len
  obtain ⟨hw1, hw2⟩ := hu.words
  unfold maxL at hl1 hl2 hl3 hl4
  refine wp_seq_k' fun K1 hK1 => ?_
  refine wp_reg' ?_
  iterate 2 (refine @vc_step Fk _ _ _ _ fun J hJ => ?_; simp only [go_sem, ↓reduceIte, reduceCtorEq, Nat.reduceEqDiff, Nat.reduceLT, Nat.reduceAdd, Nat.reduceMul, Nat.reduceLeDiff, Nat.reduceSub]; refine hJ _ ?_; clear hJ J)
  refine vc_nil ?_
  try simp only [go_sem, ↓reduceIte, reduceCtorEq, Nat.reduceEqDiff, Nat.reduceLT, Nat.reduceAdd, Nat.reduceMul, Nat.reduceLeDiff, Nat.reduceSub]
  try simp only [go_sem, ↓reduceIte, reduceCtorEq, Nat.reduceEqDiff, Nat.reduceLT, Nat.reduceAdd, Nat.reduceMul, Nat.reduceLeDiff, Nat.reduceSub]
  refine hK1 _ ?_
  refine wp_seq_k' fun K2 hK2 => ?_
  refine wp_reg' ?_
  refine @vc_step Fk _ _ _ _ fun J hJ => ?_
  simp only [go_sem, ↓reduceIte, reduceCtorEq, Nat.reduceEqDiff, Nat.reduceLT, Nat.reduceAdd, Nat.reduceMul, Nat.reduceLeDiff, Nat.reduceSub]
  refine hJ _ ?_
  clear hJ J
  refine vc_nil ?_
  try simp only [go_sem, ↓reduceIte, reduceCtorEq, Nat.reduceEqDiff, Nat.reduceLT, Nat.reduceAdd, Nat.reduceMul, Nat.reduceLeDiff, Nat.reduceSub]
  try simp only [go_sem, ↓reduceIte, reduceCtorEq, Nat.reduceEqDiff, Nat.reduceLT, Nat.reduceAdd, Nat.reduceMul, Nat.reduceLeDiff, Nat.reduceSub]
  refine hK2 _ ?_
  refine wp_seq_k' fun K3 hK3 => ?_
  refine wp_seq_k' fun K4 hK4 => ?_
  refine wp_reg' ?_
  refine @vc_step Fk _ _ _ _ fun J hJ => ?_
  simp only [go_sem, ↓reduceIte, reduceCtorEq, Nat.reduceEqDiff, Nat.reduceLT, Nat.reduceAdd, Nat.reduceMul, Nat.reduceLeDiff, Nat.reduceSub]
  refine hJ _ ?_
  clear hJ J
  refine vc_nil ?_
  try simp only [go_sem, ↓reduceIte, reduceCtorEq, Nat.reduceEqDiff, Nat.reduceLT, Nat.reduceAdd, Nat.reduceMul, Nat.reduceLeDiff, Nat.reduceSub]
  try simp only [go_sem, ↓reduceIte, reduceCtorEq, Nat.reduceEqDiff, Nat.reduceLT, Nat.reduceAdd, Nat.reduceMul, Nat.reduceLeDiff, Nat.reduceSub]
  refine hK4 _ ?_
  refine wp_block' ?_
  refine wp_forU (ι := Int) (u.kids.length) (fun i1 x1 => [(3, .int .i64 x1), (4, .int .i64 (i1 : Nat))]) (fun i1 x1 => _) (fun i1 x1 => _) (fun i1 x1 => True) 0 (by rfl) rfl rfl (by trivial) fun i1 x1 hi1 hv1 K5 hK5 => ?_
  refine wp_norm fun J hJ => ?_
  try simp only [go_sem, ↓reduceIte, reduceCtorEq, Nat.reduceEqDiff, Nat.reduceLT, Nat.reduceAdd, Nat.reduceMul, Nat.reduceLeDiff, Nat.reduceSub]
  refine hJ _ ?_
  clear hJ J
  refine wp_seq_k' fun K6 hK6 => ?_
  refine wp_seq_k' fun K7 hK7 => ?_
  refine wp_reg' ?_
  iterate 5 (refine @vc_step Fk _ _ _ _ fun J hJ => ?_; simp only [go_sem, ↓reduceIte, reduceCtorEq, Nat.reduceEqDiff, Nat.reduceLT, Nat.reduceAdd, Nat.reduceMul, Nat.reduceLeDiff, Nat.reduceSub]; refine hJ _ ?_; clear hJ J)
  refine vc_nil ?_
  try simp only [go_sem, ↓reduceIte, reduceCtorEq, Nat.reduceEqDiff, Nat.reduceLT, Nat.reduceAdd, Nat.reduceMul, Nat.reduceLeDiff, Nat.reduceSub]
  try simp only [go_sem, ↓reduceIte, reduceCtorEq, Nat.reduceEqDiff, Nat.reduceLT, Nat.reduceAdd, Nat.reduceMul, Nat.reduceLeDiff, Nat.reduceSub]
  refine hK7 _ ?_
  refine wp_cond' rfl (fun hc1 => ?_) (fun hc1 => ?_)
  · skip
    try simp only [decide_eq_true_eq, decide_eq_false_iff_not, Bool.not_eq_true', Bool.not_eq_false', beq_iff_eq, bne_iff_ne, beq_eq_false_iff_ne, Int.ofNat_lt, Int.not_lt, Bool.and_eq_true, ne_eq, bne_eq_false_iff_eq] at hc1
    refine wp_skip' ?_
    try simp only [go_sem, ↓reduceIte, reduceCtorEq, Nat.reduceEqDiff, Nat.reduceLT, Nat.reduceAdd, Nat.reduceMul, Nat.reduceLeDiff, Nat.reduceSub, hc1]
    try simp only [go_sem, ↓reduceIte, reduceCtorEq, Nat.reduceEqDiff, Nat.reduceLT, Nat.reduceAdd, Nat.reduceMul, Nat.reduceLeDiff, Nat.reduceSub, hc1]
    refine hK6 _ ?_
    refine wp_seq_k' fun K8 hK8 => ?_
    refine wp_block' ?_
    refine wp_reg' ?_
    iterate 4 (refine @vc_step Fk _ _ _ _ fun J hJ => ?_; simp only [go_sem, ↓reduceIte, reduceCtorEq, Nat.reduceEqDiff, Nat.reduceLT, Nat.reduceAdd, Nat.reduceMul, Nat.reduceLeDiff, Nat.reduceSub, hc1]; refine hJ _ ?_; clear hJ J)
    refine @vc_step Fk _ _ _ _ fun J hJ => ?_
    simp only [go_sem, ↓reduceIte, reduceCtorEq, Nat.reduceEqDiff, Nat.reduceLT, Nat.reduceAdd, Nat.reduceMul, Nat.reduceLeDiff, Nat.reduceSub, hc1]
    first | refine hJ _ ?_ | refine ⟨by first | assumption | omega | exact List.getElem_mem _, hJ _ ?_⟩ | refine ⟨by first | assumption | omega | exact List.getElem_mem _, by first | assumption | omega | exact List.getElem_mem _, hJ _ ?_⟩
    clear hJ J
    refine @vc_step Fk _ _ _ _ fun J hJ => ?_
    simp only [go_sem, ↓reduceIte, reduceCtorEq, Nat.reduceEqDiff, Nat.reduceLT, Nat.reduceAdd, Nat.reduceMul, Nat.reduceLeDiff, Nat.reduceSub, hc1]
    refine hJ _ ?_
    clear hJ J
    refine @vc_step Fk _ _ _ _ fun J hJ => ?_
    simp only [go_sem, ↓reduceIte, reduceCtorEq, Nat.reduceEqDiff, Nat.reduceLT, Nat.reduceAdd, Nat.reduceMul, Nat.reduceLeDiff, Nat.reduceSub, hc1]
    obtain ⟨_, ⟨n, rfl⟩, hih⟩ := ih _ (List.getElem_mem ‹_›)
    simp only [Un.cs_eq] at hih
    refine runT_ret hih ?_
    try simp only [go_sem, ↓reduceIte, reduceCtorEq, Nat.reduceEqDiff, Nat.reduceLT, Nat.reduceAdd, Nat.reduceMul, Nat.reduceLeDiff, Nat.reduceSub, hc1]
    refine hJ _ ?_
    clear hJ J
    iterate 3 (refine @vc_step Fk _ _ _ _ fun J hJ => ?_; simp only [go_sem, ↓reduceIte, reduceCtorEq, Nat.reduceEqDiff, Nat.reduceLT, Nat.reduceAdd, Nat.reduceMul, Nat.reduceLeDiff, Nat.reduceSub, hc1]; refine hJ _ ?_; clear hJ J)
    refine vc_nil ?_
    try simp only [go_sem, ↓reduceIte, reduceCtorEq, Nat.reduceEqDiff, Nat.reduceLT, Nat.reduceAdd, Nat.reduceMul, Nat.reduceLeDiff, Nat.reduceSub, hc1]
    try simp only [go_sem, ↓reduceIte, reduceCtorEq, Nat.reduceEqDiff, Nat.reduceLT, Nat.reduceAdd, Nat.reduceMul, Nat.reduceLeDiff, Nat.reduceSub, hc1]
    refine hK8 _ ?_
    refine wp_reg' ?_
    iterate 3 (refine @vc_step Fk _ _ _ _ fun J hJ => ?_; simp only [go_sem, ↓reduceIte, reduceCtorEq, Nat.reduceEqDiff, Nat.reduceLT, Nat.reduceAdd, Nat.reduceMul, Nat.reduceLeDiff, Nat.reduceSub, hc1]; refine hJ _ ?_; clear hJ J)
    refine vc_nil ?_
    try simp only [go_sem, ↓reduceIte, reduceCtorEq, Nat.reduceEqDiff, Nat.reduceLT, Nat.reduceAdd, Nat.reduceMul, Nat.reduceLeDiff, Nat.reduceSub, hc1]
    refine hK5 _ _ _ ⟨by assumption, ?_⟩
    apply Exists.intro
    refine ⟨by trivial, ?_, rfl, rfl⟩
    rw [wrap64 (n := ((i1 : Nat) : Int) + 1) (by omega) (by omega)]
    rfl
  · skip
    try simp only [decide_eq_true_eq, decide_eq_false_iff_not, Bool.not_eq_true', Bool.not_eq_false', beq_iff_eq, bne_iff_ne, beq_eq_false_iff_ne, Int.ofNat_lt, Int.not_lt, Bool.and_eq_true, ne_eq, bne_eq_false_iff_eq] at hc1
    refine wp_exit' ?_
    try simp only [go_sem, ↓reduceIte, reduceCtorEq, Nat.reduceEqDiff, Nat.reduceLT, Nat.reduceAdd, Nat.reduceMul, Nat.reduceLeDiff, Nat.reduceSub, hc1]
    try simp only [go_sem, ↓reduceIte, reduceCtorEq, Nat.reduceEqDiff, Nat.reduceLT, Nat.reduceAdd, Nat.reduceMul, Nat.reduceLeDiff, Nat.reduceSub, hc1]
    refine hK3 _ ?_
    refine wp_seq_k' fun K9 hK9 => ?_
    refine wp_reg' ?_
    iterate 2 (refine @vc_step Fk _ _ _ _ fun J hJ => ?_; simp only [go_sem, ↓reduceIte, reduceCtorEq, Nat.reduceEqDiff, Nat.reduceLT, Nat.reduceAdd, Nat.reduceMul, Nat.reduceLeDiff, Nat.reduceSub, hc1]; refine hJ _ ?_; clear hJ J)
    refine vc_nil ?_
    try simp only [go_sem, ↓reduceIte, reduceCtorEq, Nat.reduceEqDiff, Nat.reduceLT, Nat.reduceAdd, Nat.reduceMul, Nat.reduceLeDiff, Nat.reduceSub, hc1]
    try simp only [go_sem, ↓reduceIte, reduceCtorEq, Nat.reduceEqDiff, Nat.reduceLT, Nat.reduceAdd, Nat.reduceMul, Nat.reduceLeDiff, Nat.reduceSub, hc1]
    refine hK9 _ ?_
    refine wp_ret' ?_
    try simp only [go_sem, ↓reduceIte, reduceCtorEq, Nat.reduceEqDiff, Nat.reduceLT, Nat.reduceAdd, Nat.reduceMul, Nat.reduceLeDiff, Nat.reduceSub, hc1]
    exact hZ _ _ _ _ (by simp) rfl rfl ⟨_, rfl⟩
theorem depth : ∀ (u : Un) (hu : u.Ok), ∃ v, (∃ (n : Int), v = .int .i64 n) ∧ Ret Fk n_pandectref06_Depth [.agg u.cs] v :=
  Un.ind fun u ih hu => depth_step u hu fun k hk => ih k hk (hu.kids k hk)

theorem depth_call {u : Un} (hu : u.Ok) {H : List AO} {T : List Nat} {Q : Av → List AO → List Nat → Prop} (hq : ∀ (n : Int), Q (.int .i64 n) H T) : RunT Fk (.fn n_pandectref06_Depth) [.agg [.int .i64 u.a, .int .i64 u.b, .int .i64 u.c, .int .i64 u.kind, .str u.label, .sl (u.head.map Wd.cs) u.t1.tk, .sl (u.words.map Wd.cs) u.t2.tk, .sl (u.kids.map Un.cs) u.t3.tk]] H T Q := by
  obtain ⟨_, ⟨n, rfl⟩, hr⟩ := depth _ hu
  simp only [Un.cs_eq, It.cs_eq, Ac.cs] at hr
  exact runT_ret hr (hq n)

theorem count_step (u : Un) (hu : u.Ok) (ih : ∀ k ∈ u.kids, ∃ v, (∃ (n : Int), v = .int .i64 n) ∧ Ret Fk n_pandectref06_Count [.agg k.cs] v) :
    ∃ v, (∃ (n : Int), v = .int .i64 n) ∧ Ret Fk n_pandectref06_Count [.agg u.cs] v := by
  refine ret_of_wpP (show Fk n_pandectref06_Count = some (.fn true 21 c_pandectref06_Count r_pandectref06_Count) from rfl) (args' := [.agg u.cs]) (by simp only [stripA, strip_int, strip_bool, strip_str, strip_sl, strip_U, strip_I, strip_A]) (Nat.le_of_ble_eq_true rfl) fun Z hZ => ?_
  unfold c_pandectref06_Count
  refine wp_norm fun J hJ => ?_
  try simp only [go_sem, ↓reduceIte, reduceCtorEq, Nat.reduceEqDiff, Nat.reduceLT, Nat.reduceAdd, Nat.reduceMul, Nat.reduceLeDiff, Nat.reduceSub]
  refine hJ _ ?_
  clear hJ J
  obtain ⟨hl1, hl2, hl3, hl4⟩ := hu.len
  obtain ⟨hw1, hw2⟩ := hu.words
  unfold maxL at hl1 hl2 hl3 hl4
  refine wp_seq_k' fun K1 hK1 => ?_
  refine wp_reg' ?_
  iterate 2 (refine @vc_step Fk _ _ _ _ fun J hJ => ?_; simp only [go_sem, ↓reduceIte, reduceCtorEq, Nat.reduceEqDiff, Nat.reduceLT, Nat.reduceAdd, Nat.reduceMul, Nat.reduceLeDiff, Nat.reduceSub]; refine hJ _ ?_; clear hJ J)
  refine vc_nil ?_
  try simp only [go_sem, ↓reduceIte, reduceCtorEq, Nat.reduceEqDiff, Nat.reduceLT, Nat.reduceAdd, Nat.reduceMul, Nat.reduceLeDiff, Nat.reduceSub]
  try simp only [go_sem, ↓reduceIte, reduceCtorEq, Nat.reduceEqDiff, Nat.reduceLT, Nat.reduceAdd, Nat.reduceMul, Nat.reduceLeDiff, Nat.reduceSub]
  refine hK1 _ ?_
  refine wp_seq_k' fun K2 hK2 => ?_
  refine wp_reg' ?_
  refine @vc_step Fk _ _ _ _ fun J hJ => ?_
  simp only [go_sem, ↓reduceIte, reduceCtorEq, Nat.reduceEqDiff, Nat.reduceLT, Nat.reduceAdd, Nat.reduceMul, Nat.reduceLeDiff, Nat.reduceSub]
  refine hJ _ ?_
  clear hJ J
  refine vc_nil ?_
  try simp only [go_sem, ↓reduceIte, reduceCtorEq, Nat.reduceEqDiff, Nat.reduceLT, Nat.reduceAdd, Nat.reduceMul, Nat.reduceLeDiff, Nat.reduceSub]
  try simp only [go_sem, ↓reduceIte, reduceCtorEq, Nat.reduceEqDiff, Nat.reduceLT, Nat.reduceAdd, Nat.reduceMul, Nat.reduceLeDiff, Nat.reduceSub]
  refine hK2 _ ?_
  refine wp_seq_k' fun K3 hK3 => ?_
  refine wp_seq_k' fun K4 hK4 => ?_
  refine wp_reg' ?_
  refine @vc_step Fk _ _ _ _ fun J hJ => ?_
  simp only [go_sem, ↓reduceIte, reduceCtorEq, Nat.reduceEqDiff, Nat.reduceLT, Nat.reduceAdd, Nat.reduceMul, Nat.reduceLeDiff, Nat.reduceSub]
  refine hJ _ ?_
  clear hJ J
  refine vc_nil ?_
  try simp only [go_sem, ↓reduceIte, reduceCtorEq, Nat.reduceEqDiff, Nat.reduceLT, Nat.reduceAdd, Nat.reduceMul, Nat.reduceLeDiff, Nat.reduceSub]
  try simp only [go_sem, ↓reduceIte, reduceCtorEq, Nat.reduceEqDiff, Nat.reduceLT, Nat.reduceAdd, Nat.reduceMul, Nat.reduceLeDiff, Nat.reduceSub]
  refine hK4 _ ?_
  refine wp_block' ?_
  refine wp_forU (ι := Int) (u.kids.length) (fun i1 x1 => [(3, .int .i64 x1), (4, .int .i64 (i1 : Nat))]) (fun i1 x1 => _) (fun i1 x1 => _) (fun i1 x1 => True) 1 (by rfl) rfl rfl (by trivial) fun i1 x1 hi1 hv1 K5 hK5 => ?_
  refine wp_norm fun J hJ => ?_
  try simp only [go_sem, ↓reduceIte, reduceCtorEq, Nat.reduceEqDiff, Nat.reduceLT, Nat.reduceAdd, Nat.reduceMul, Nat.reduceLeDiff, Nat.reduceSub]
  refine hJ _ ?_
  clear hJ J
  refine wp_seq_k' fun K6 hK6 => ?_
  refine wp_seq_k' fun K7 hK7 => ?_
  refine wp_reg' ?_
  iterate 5 (refine @vc_step Fk _ _ _ _ fun J hJ => ?_; simp only [go_sem, ↓reduceIte, reduceCtorEq, Nat.reduceEqDiff, Nat.reduceLT, Nat.reduceAdd, Nat.reduceMul, Nat.reduceLeDiff, Nat.reduceSub]; refine hJ _ ?_; clear hJ J)
  refine vc_nil ?_
  try simp only [go_sem, ↓reduceIte, reduceCtorEq, Nat.reduceEqDiff, Nat.reduceLT, Nat.reduceAdd, Nat.reduceMul, Nat.reduceLeDiff, Nat.reduceSub]
  try simp only [go_sem, ↓reduceIte, reduceCtorEq, Nat.reduceEqDiff, Nat.reduceLT, Nat.reduceAdd, Nat.reduceMul, Nat.reduceLeDiff, Nat.reduceSub]
  refine hK7 _ ?_
  refine wp_cond' rfl (fun hc1 => ?_) (fun hc1 => ?_)
  · skip
    try simp only [decide_eq_true_eq, decide_eq_false_iff_not, Bool.not_eq_true', Bool.not_eq_false', beq_iff_eq, bne_iff_ne, beq_eq_false_iff_ne, Int.ofNat_lt, Int.not_lt, Bool.and_eq_true, ne_eq, bne_eq_false_iff_eq] at hc1
    refine wp_skip' ?_
    try simp only [go_sem, ↓reduceIte, reduceCtorEq, Nat.reduceEqDiff, Nat.reduceLT, Nat.reduceAdd, Nat.reduceMul, Nat.reduceLeDiff, Nat.reduceSub, hc1]
    try simp only [go_sem, ↓reduceIte, reduceCtorEq, Nat.reduceEqDiff, Nat.reduceLT, Nat.reduceAdd, Nat.reduceMul, Nat.reduceLeDiff, Nat.reduceSub, hc1]
    refine hK6 _ ?_
    refine wp_seq_k' fun K8 hK8 => ?_
    refine wp_block' ?_
    refine wp_reg' ?_
    iterate 4 (refine @vc_step Fk _ _ _ _ fun J hJ => ?_; simp only [go_sem, ↓reduceIte, reduceCtorEq, Nat.reduceEqDiff, Nat.reduceLT, Nat.reduceAdd, Nat.reduceMul, Nat.reduceLeDiff, Nat.reduceSub, hc1]; refine hJ _ ?_; clear hJ J)
    refine @vc_step Fk _ _ _ _ fun J hJ => ?_
    simp only [go_sem, ↓reduceIte, reduceCtorEq, Nat.reduceEqDiff, Nat.reduceLT, Nat.reduceAdd, Nat.reduceMul, Nat.reduceLeDiff, Nat.reduceSub, hc1]
    first | refine hJ _ ?_ | refine ⟨by first | assumption | omega | exact List.getElem_mem _, hJ _ ?_⟩ | refine ⟨by first | assumption | omega | exact List.getElem_mem _, by first | assumption | omega | exact List.getElem_mem _, hJ _ ?_⟩
    clear hJ J
    refine @vc_step Fk _ _ _ _ fun J hJ => ?_
    simp only [go_sem, ↓reduceIte, reduceCtorEq, Nat.reduceEqDiff, Nat.reduceLT, Nat.reduceAdd, Nat.reduceMul, Nat.reduceLeDiff, Nat.reduceSub, hc1]
    refine hJ _ ?_
    clear hJ J
    refine @vc_step Fk _ _ _ _ fun J hJ => ?_
    simp only [go_sem, ↓reduceIte, reduceCtorEq, Nat.reduceEqDiff, Nat.reduceLT, Nat.reduceAdd, Nat.reduceMul, Nat.reduceLeDiff, Nat.reduceSub, hc1]
    obtain ⟨_, ⟨n, rfl⟩, hih⟩ := ih _ (List.getElem_mem ‹_›)
    simp only [Un.cs_eq] at hih
    refine runT_ret hih ?_
    try simp only [go_sem, ↓reduceIte, reduceCtorEq, Nat.reduceEqDiff, Nat.reduceLT, Nat.reduceAdd, Nat.reduceMul, Nat.reduceLeDiff, Nat.reduceSub, hc1]
    refine hJ _ ?_
    clear hJ J
    iterate 2 (refine @vc_step Fk _ _ _ _ fun J hJ => ?_; simp only [go_sem, ↓reduceIte, reduceCtorEq, Nat.reduceEqDiff, Nat.reduceLT, Nat.reduceAdd, Nat.reduceMul, Nat.reduceLeDiff, Nat.reduceSub, hc1]; refine hJ _ ?_; clear hJ J)
    refine vc_nil ?_
    try simp only [go_sem, ↓reduceIte, reduceCtorEq, Nat.reduceEqDiff, Nat.reduceLT, Nat.reduceAdd, Nat.reduceMul, Nat.reduceLeDiff, Nat.reduceSub, hc1]
    try simp only [go_sem, ↓reduceIte, reduceCtorEq, Nat.reduceEqDiff, Nat.reduceLT, Nat.reduceAdd, Nat.reduceMul, Nat.reduceLeDiff, Nat.reduceSub, hc1]
    refine hK8 _ ?_
    refine wp_reg' ?_
    iterate 3 (refine @vc_step Fk _ _ _ _ fun J hJ => ?_; simp only [go_sem, ↓reduceIte, reduceCtorEq, Nat.reduceEqDiff, Nat.reduceLT, Nat.reduceAdd, Nat.reduceMul, Nat.reduceLeDiff, Nat.reduceSub, hc1]; refine hJ _ ?_; clear hJ J)
    refine vc_nil ?_
    try simp only [go_sem, ↓reduceIte, reduceCtorEq, Nat.reduceEqDiff, Nat.reduceLT, Nat.reduceAdd, Nat.reduceMul, Nat.reduceLeDiff, Nat.reduceSub, hc1]
    refine hK5 _ _ _ ⟨by assumption, ?_⟩
    apply Exists.intro
    refine ⟨by trivial, ?_, rfl, rfl⟩
    rw [wrap64 (n := ((i1 : Nat) : Int) + 1) (by omega) (by omega)]
    rfl
  · skip
    try simp only [decide_eq_true_eq, decide_eq_false_iff_not, Bool.not_eq_true', Bool.not_eq_false', beq_iff_eq, bne_iff_ne, beq_eq_false_iff_ne, Int.ofNat_lt, Int.not_lt, Bool.and_eq_true, ne_eq, bne_eq_false_iff_eq] at hc1
    refine wp_exit' ?_
    try simp only [go_sem, ↓reduceIte, reduceCtorEq, Nat.reduceEqDiff, Nat.reduceLT, Nat.reduceAdd, Nat.reduceMul, Nat.reduceLeDiff, Nat.reduceSub, hc1]
    try simp only [go_sem, ↓reduceIte, reduceCtorEq, Nat.reduceEqDiff, Nat.reduceLT, Nat.reduceAdd, Nat.reduceMul, Nat.reduceLeDiff, Nat.reduceSub, hc1]
    refine hK3 _ ?_
    refine wp_seq_k' fun K9 hK9 => ?_
    refine wp_reg' ?_
    iterate 2 (refine @vc_step Fk _ _ _ _ fun J hJ => ?_; simp only [go_sem, ↓reduceIte, reduceCtorEq, Nat.reduceEqDiff, Nat.reduceLT, Nat.reduceAdd, Nat.reduceMul, Nat.reduceLeDiff, Nat.reduceSub, hc1]; refine hJ _ ?_; clear hJ J)
    refine vc_nil ?_
    try simp only [go_sem, ↓reduceIte, reduceCtorEq, Nat.reduceEqDiff, Nat.reduceLT, Nat.reduceAdd, Nat.reduceMul, Nat.reduceLeDiff, Nat.reduceSub, hc1]
    try simp only [go_sem, ↓reduceIte, reduceCtorEq, Nat.reduceEqDiff, Nat.reduceLT, Nat.reduceAdd, Nat.reduceMul, Nat.reduceLeDiff, Nat.reduceSub, hc1]
    refine hK9 _ ?_
    refine wp_ret' ?_
    try simp only [go_sem, ↓reduceIte, reduceCtorEq, Nat.reduceEqDiff, Nat.reduceLT, Nat.reduceAdd, Nat.reduceMul, Nat.reduceLeDiff, Nat.reduceSub, hc1]
    exact hZ _ _ _ _ (by simp) rfl rfl ⟨_, rfl⟩
theorem count : ∀ (u : Un) (hu : u.Ok), ∃ v, (∃ (n : Int), v = .int .i64 n) ∧ Ret Fk n_pandectref06_Count [.agg u.cs] v :=
  Un.ind fun u ih hu => count_step u hu fun k hk => ih k hk (hu.kids k hk)

theorem count_call {u : Un} (hu : u.Ok) {H : List AO} {T : List Nat} {Q : Av → List AO → List Nat → Prop} (hq : ∀ (n : Int), Q (.int .i64 n) H T) : RunT Fk (.fn n_pandectref06_Count) [.agg [.int .i64 u.a, .int .i64 u.b, .int .i64 u.c, .int .i64 u.kind, .str u.label, .sl (u.head.map Wd.cs) u.t1.tk, .sl (u.words.map Wd.cs) u.t2.tk, .sl (u.kids.map Un.cs) u.t3.tk]] H T Q := by
  obtain ⟨_, ⟨n, rfl⟩, hr⟩ := count _ hu
  simp only [Un.cs_eq, It.cs_eq, Ac.cs] at hr
  exact runT_ret hr (hq n)

end Go.Am
