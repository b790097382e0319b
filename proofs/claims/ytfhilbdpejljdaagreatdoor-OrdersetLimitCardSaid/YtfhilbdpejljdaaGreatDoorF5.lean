/- Part of the proof. -/
import Derived.Test.YtfhilbdpejljdaaGreatDoorF4
import Derived.Test.YtfhilbdpejljdaaGreatDoorD1
set_option linter.all false
set_option maxHeartbeats 4000000
set_option maxRecDepth 100000
namespace Go.Am
open Go

theorem few18 (x : Ac) (hx : x.Ok) :
    ∃ v, (∃ (b : Bool), v = .bool b) ∧ Ret Fk n_pandectref18_Few [.agg x.cs] v := by
  refine ret_of_wpP (show Fk n_pandectref18_Few = some (.fn true 35 c_pandectref18_Few r_pandectref18_Few) from rfl) (args' := [.agg x.cs]) (by simp only [stripA, strip_int, strip_bool, strip_str, strip_sl, strip_U, strip_I, strip_A]) (Nat.le_of_ble_eq_true rfl) fun Z hZ => ?_
  unfold c_pandectref18_Few
  refine wp_norm fun J hJ => ?_
  try simp only [go_sem, ↓reduceIte, reduceCtorEq, Nat.reduceEqDiff, Nat.reduceLT, Nat.reduceAdd, Nat.reduceMul, Nat.reduceLeDiff, Nat.reduceSub]
  refine hJ _ ?_
  clear hJ J
  obtain ⟨hl1, hl2, hl3, hl4⟩ := hx
  unfold maxL at hl1 hl2 hl3
  refine wp_seq_k' fun K1 hK1 => ?_
  refine wp_reg' ?_
  iterate 2 (refine @vc_step Fk _ _ _ _ fun J hJ => ?_; simp only [go_sem, ↓reduceIte, reduceCtorEq, Nat.reduceEqDiff, Nat.reduceLT, Nat.reduceAdd, Nat.reduceMul, Nat.reduceLeDiff, Nat.reduceSub]; refine hJ _ ?_; clear hJ J)
  refine vc_nil ?_
  try simp only [go_sem, ↓reduceIte, reduceCtorEq, Nat.reduceEqDiff, Nat.reduceLT, Nat.reduceAdd, Nat.reduceMul, Nat.reduceLeDiff, Nat.reduceSub]
  try simp only [go_sem, ↓reduceIte, reduceCtorEq, Nat.reduceEqDiff, Nat.reduceLT, Nat.reduceAdd, Nat.reduceMul, Nat.reduceLeDiff, Nat.reduceSub]
  refine hK1 _ ?_
  refine wp_seq_k' fun K2 hK2 => ?_
  refine wp_seq_k' fun K3 hK3 => ?_
  refine wp_reg' ?_
  refine vc_merge (K := K3) (ks := [1, 20]) (d := 20) (fun b20 => True) (fun b20 hb20 => ?_) fun M3 hM3 => ?_
  · skip
    try simp only [go_sem, ↓reduceIte, reduceCtorEq, Nat.reduceEqDiff, Nat.reduceLT, Nat.reduceAdd, Nat.reduceMul, Nat.reduceLeDiff, Nat.reduceSub]
    refine hK3 _ ?_
    refine wp_cond' rfl (fun hc1 => ?_) (fun hc1 => ?_)
    · skip
      try simp only [decide_eq_true_eq, decide_eq_false_iff_not, Bool.not_eq_true', Bool.not_eq_false', beq_iff_eq, bne_iff_ne, beq_eq_false_iff_ne, Int.ofNat_lt, Int.not_lt, Bool.and_eq_true, ne_eq, bne_eq_false_iff_eq] at hc1
      refine wp_seq_k' fun K4 hK4 => ?_
      refine wp_reg' ?_
      refine @vc_step Fk _ _ _ _ fun J hJ => ?_
      simp only [go_sem, ↓reduceIte, reduceCtorEq, Nat.reduceEqDiff, Nat.reduceLT, Nat.reduceAdd, Nat.reduceMul, Nat.reduceLeDiff, Nat.reduceSub]
      refine hJ _ ?_
      clear hJ J
      refine vc_nil ?_
      try simp only [go_sem, ↓reduceIte, reduceCtorEq, Nat.reduceEqDiff, Nat.reduceLT, Nat.reduceAdd, Nat.reduceMul, Nat.reduceLeDiff, Nat.reduceSub]
      try simp only [go_sem, ↓reduceIte, reduceCtorEq, Nat.reduceEqDiff, Nat.reduceLT, Nat.reduceAdd, Nat.reduceMul, Nat.reduceLeDiff, Nat.reduceSub]
      refine hK4 _ ?_
      refine wp_ret' ?_
      try simp only [go_sem, ↓reduceIte, reduceCtorEq, Nat.reduceEqDiff, Nat.reduceLT, Nat.reduceAdd, Nat.reduceMul, Nat.reduceLeDiff, Nat.reduceSub]
      exact hZ _ _ _ _ (by simp) rfl rfl ⟨_, rfl⟩
    · skip
      try simp only [decide_eq_true_eq, decide_eq_false_iff_not, Bool.not_eq_true', Bool.not_eq_false', beq_iff_eq, bne_iff_ne, beq_eq_false_iff_ne, Int.ofNat_lt, Int.not_lt, Bool.and_eq_true, ne_eq, bne_eq_false_iff_eq] at hc1
      refine wp_skip' ?_
      try simp only [go_sem, ↓reduceIte, reduceCtorEq, Nat.reduceEqDiff, Nat.reduceLT, Nat.reduceAdd, Nat.reduceMul, Nat.reduceLeDiff, Nat.reduceSub]
      try simp only [go_sem, ↓reduceIte, reduceCtorEq, Nat.reduceEqDiff, Nat.reduceLT, Nat.reduceAdd, Nat.reduceMul, Nat.reduceLeDiff, Nat.reduceSub]
      refine hK2 _ ?_
      refine wp_seq_k' fun K5 hK5 => ?_
      refine wp_seq_k' fun K6 hK6 => ?_
      refine wp_reg' ?_
      refine @vc_step Fk _ _ _ _ fun J hJ => ?_
      simp only [go_sem, ↓reduceIte, reduceCtorEq, Nat.reduceEqDiff, Nat.reduceLT, Nat.reduceAdd, Nat.reduceMul, Nat.reduceLeDiff, Nat.reduceSub]
      refine hJ _ ?_
      clear hJ J
      refine vc_nil ?_
      try simp only [go_sem, ↓reduceIte, reduceCtorEq, Nat.reduceEqDiff, Nat.reduceLT, Nat.reduceAdd, Nat.reduceMul, Nat.reduceLeDiff, Nat.reduceSub]
      try simp only [go_sem, ↓reduceIte, reduceCtorEq, Nat.reduceEqDiff, Nat.reduceLT, Nat.reduceAdd, Nat.reduceMul, Nat.reduceLeDiff, Nat.reduceSub]
      refine hK6 _ ?_
      refine wp_block' ?_
      refine wp_forU (ι := Unit) (x.items.length) (fun i1 x1 => [(3, .int .i64 (i1 : Nat))]) (fun i1 x1 => _) (fun i1 x1 => _) (fun i1 x1 => True) () (by rfl) rfl rfl (by trivial) fun i1 x1 hi1 hv1 K7 hK7 => ?_
      refine wp_norm fun J hJ => ?_
      try simp only [go_sem, ↓reduceIte, reduceCtorEq, Nat.reduceEqDiff, Nat.reduceLT, Nat.reduceAdd, Nat.reduceMul, Nat.reduceLeDiff, Nat.reduceSub]
      refine hJ _ ?_
      clear hJ J
      refine wp_seq_k' fun K8 hK8 => ?_
      refine wp_seq_k' fun K9 hK9 => ?_
      refine wp_reg' ?_
      iterate 5 (refine @vc_step Fk _ _ _ _ fun J hJ => ?_; simp only [go_sem, ↓reduceIte, reduceCtorEq, Nat.reduceEqDiff, Nat.reduceLT, Nat.reduceAdd, Nat.reduceMul, Nat.reduceLeDiff, Nat.reduceSub]; refine hJ _ ?_; clear hJ J)
      refine vc_nil ?_
      try simp only [go_sem, ↓reduceIte, reduceCtorEq, Nat.reduceEqDiff, Nat.reduceLT, Nat.reduceAdd, Nat.reduceMul, Nat.reduceLeDiff, Nat.reduceSub]
      try simp only [go_sem, ↓reduceIte, reduceCtorEq, Nat.reduceEqDiff, Nat.reduceLT, Nat.reduceAdd, Nat.reduceMul, Nat.reduceLeDiff, Nat.reduceSub]
      refine hK9 _ ?_
      refine wp_cond' rfl (fun hc2 => ?_) (fun hc2 => ?_)
      · skip
        try simp only [decide_eq_true_eq, decide_eq_false_iff_not, Bool.not_eq_true', Bool.not_eq_false', beq_iff_eq, bne_iff_ne, beq_eq_false_iff_ne, Int.ofNat_lt, Int.not_lt, Bool.and_eq_true, ne_eq, bne_eq_false_iff_eq] at hc2
        refine wp_skip' ?_
        try simp only [go_sem, ↓reduceIte, reduceCtorEq, Nat.reduceEqDiff, Nat.reduceLT, Nat.reduceAdd, Nat.reduceMul, Nat.reduceLeDiff, Nat.reduceSub, hc2]
        try simp only [go_sem, ↓reduceIte, reduceCtorEq, Nat.reduceEqDiff, Nat.reduceLT, Nat.reduceAdd, Nat.reduceMul, Nat.reduceLeDiff, Nat.reduceSub, hc2]
        refine hK8 _ ?_
        refine wp_seq_k' fun K10 hK10 => ?_
        refine wp_block' ?_
        refine wp_seq_k' fun K11 hK11 => ?_
        refine wp_reg' ?_
        iterate 3 (refine @vc_step Fk _ _ _ _ fun J hJ => ?_; simp only [go_sem, ↓reduceIte, reduceCtorEq, Nat.reduceEqDiff, Nat.reduceLT, Nat.reduceAdd, Nat.reduceMul, Nat.reduceLeDiff, Nat.reduceSub, hc2]; refine hJ _ ?_; clear hJ J)
        refine @vc_step Fk _ _ _ _ fun J hJ => ?_
        simp only [go_sem, ↓reduceIte, reduceCtorEq, Nat.reduceEqDiff, Nat.reduceLT, Nat.reduceAdd, Nat.reduceMul, Nat.reduceLeDiff, Nat.reduceSub, hc2]
        first | refine hJ _ ?_ | refine ⟨by first | assumption | omega | exact List.getElem_mem _ | exact hl4 _ (List.getElem_mem _), hJ _ ?_⟩ | refine ⟨by first | assumption | omega | exact List.getElem_mem _ | exact hl4 _ (List.getElem_mem _), by first | assumption | omega | exact List.getElem_mem _ | exact hl4 _ (List.getElem_mem _), hJ _ ?_⟩
        clear hJ J
        refine @vc_step Fk _ _ _ _ fun J hJ => ?_
        simp only [go_sem, ↓reduceIte, reduceCtorEq, Nat.reduceEqDiff, Nat.reduceLT, Nat.reduceAdd, Nat.reduceMul, Nat.reduceLeDiff, Nat.reduceSub, hc2]
        refine hJ _ ?_
        clear hJ J
        refine @vc_step Fk _ _ _ _ fun J hJ => ?_
        simp only [go_sem, ↓reduceIte, reduceCtorEq, Nat.reduceEqDiff, Nat.reduceLT, Nat.reduceAdd, Nat.reduceMul, Nat.reduceLeDiff, Nat.reduceSub, hc2]
        refine few17_call  (by first | assumption | omega | exact List.getElem_mem _ | exact hl4 _ (List.getElem_mem _)) fun b1 => ?_
        try simp only [go_sem, ↓reduceIte, reduceCtorEq, Nat.reduceEqDiff, Nat.reduceLT, Nat.reduceAdd, Nat.reduceMul, Nat.reduceLeDiff, Nat.reduceSub, hc2]
        refine hJ _ ?_
        clear hJ J
        refine @vc_step Fk _ _ _ _ fun J hJ => ?_
        simp only [go_sem, ↓reduceIte, reduceCtorEq, Nat.reduceEqDiff, Nat.reduceLT, Nat.reduceAdd, Nat.reduceMul, Nat.reduceLeDiff, Nat.reduceSub, hc2]
        refine hJ _ ?_
        clear hJ J
        refine vc_nil ?_
        try simp only [go_sem, ↓reduceIte, reduceCtorEq, Nat.reduceEqDiff, Nat.reduceLT, Nat.reduceAdd, Nat.reduceMul, Nat.reduceLeDiff, Nat.reduceSub, hc2]
        try simp only [go_sem, ↓reduceIte, reduceCtorEq, Nat.reduceEqDiff, Nat.reduceLT, Nat.reduceAdd, Nat.reduceMul, Nat.reduceLeDiff, Nat.reduceSub, hc2]
        refine hK11 _ ?_
        refine wp_cond' rfl (fun hc3 => ?_) (fun hc3 => ?_)
        · skip
          try simp only [decide_eq_true_eq, decide_eq_false_iff_not, Bool.not_eq_true', Bool.not_eq_false', beq_iff_eq, bne_iff_ne, beq_eq_false_iff_ne, Int.ofNat_lt, Int.not_lt, Bool.and_eq_true, ne_eq, bne_eq_false_iff_eq] at hc3
          refine wp_seq_k' fun K12 hK12 => ?_
          refine wp_reg' ?_
          refine @vc_step Fk _ _ _ _ fun J hJ => ?_
          simp only [go_sem, ↓reduceIte, reduceCtorEq, Nat.reduceEqDiff, Nat.reduceLT, Nat.reduceAdd, Nat.reduceMul, Nat.reduceLeDiff, Nat.reduceSub, hc2]
          refine hJ _ ?_
          clear hJ J
          refine vc_nil ?_
          try simp only [go_sem, ↓reduceIte, reduceCtorEq, Nat.reduceEqDiff, Nat.reduceLT, Nat.reduceAdd, Nat.reduceMul, Nat.reduceLeDiff, Nat.reduceSub, hc2]
          try simp only [go_sem, ↓reduceIte, reduceCtorEq, Nat.reduceEqDiff, Nat.reduceLT, Nat.reduceAdd, Nat.reduceMul, Nat.reduceLeDiff, Nat.reduceSub, hc2]
          refine hK12 _ ?_
          refine wp_ret' ?_
          try simp only [go_sem, ↓reduceIte, reduceCtorEq, Nat.reduceEqDiff, Nat.reduceLT, Nat.reduceAdd, Nat.reduceMul, Nat.reduceLeDiff, Nat.reduceSub, hc2]
          exact hZ _ _ _ _ (by simp) rfl rfl ⟨_, rfl⟩
        · skip
          try simp only [decide_eq_true_eq, decide_eq_false_iff_not, Bool.not_eq_true', Bool.not_eq_false', beq_iff_eq, bne_iff_ne, beq_eq_false_iff_ne, Int.ofNat_lt, Int.not_lt, Bool.and_eq_true, ne_eq, bne_eq_false_iff_eq] at hc3
          refine wp_skip' ?_
          try simp only [go_sem, ↓reduceIte, reduceCtorEq, Nat.reduceEqDiff, Nat.reduceLT, Nat.reduceAdd, Nat.reduceMul, Nat.reduceLeDiff, Nat.reduceSub, hc2]
          try simp only [go_sem, ↓reduceIte, reduceCtorEq, Nat.reduceEqDiff, Nat.reduceLT, Nat.reduceAdd, Nat.reduceMul, Nat.reduceLeDiff, Nat.reduceSub, hc2]
          refine hK10 _ ?_
          refine wp_reg' ?_
          iterate 3 (refine @vc_step Fk _ _ _ _ fun J hJ => ?_; simp only [go_sem, ↓reduceIte, reduceCtorEq, Nat.reduceEqDiff, Nat.reduceLT, Nat.reduceAdd, Nat.reduceMul, Nat.reduceLeDiff, Nat.reduceSub, hc2]; refine hJ _ ?_; clear hJ J)
          refine vc_nil ?_
          try simp only [go_sem, ↓reduceIte, reduceCtorEq, Nat.reduceEqDiff, Nat.reduceLT, Nat.reduceAdd, Nat.reduceMul, Nat.reduceLeDiff, Nat.reduceSub, hc2]
          refine hK7 _ _ _ ⟨by assumption, (), by trivial, ?_, rfl, rfl⟩
          rw [wrap64 (n := ((i1 : Nat) : Int) + 1) (by omega) (by omega)]
          rfl
      · skip
        try simp only [decide_eq_true_eq, decide_eq_false_iff_not, Bool.not_eq_true', Bool.not_eq_false', beq_iff_eq, bne_iff_ne, beq_eq_false_iff_ne, Int.ofNat_lt, Int.not_lt, Bool.and_eq_true, ne_eq, bne_eq_false_iff_eq] at hc2
        refine wp_exit' ?_
        try simp only [go_sem, ↓reduceIte, reduceCtorEq, Nat.reduceEqDiff, Nat.reduceLT, Nat.reduceAdd, Nat.reduceMul, Nat.reduceLeDiff, Nat.reduceSub, hc2]
        try simp only [go_sem, ↓reduceIte, reduceCtorEq, Nat.reduceEqDiff, Nat.reduceLT, Nat.reduceAdd, Nat.reduceMul, Nat.reduceLeDiff, Nat.reduceSub, hc2]
        refine hK5 _ ?_
        refine wp_seq_k' fun K13 hK13 => ?_
        refine wp_reg' ?_
        refine @vc_step Fk _ _ _ _ fun J hJ => ?_
        simp only [go_sem, ↓reduceIte, reduceCtorEq, Nat.reduceEqDiff, Nat.reduceLT, Nat.reduceAdd, Nat.reduceMul, Nat.reduceLeDiff, Nat.reduceSub, hc2]
        refine hJ _ ?_
        clear hJ J
        refine vc_nil ?_
        try simp only [go_sem, ↓reduceIte, reduceCtorEq, Nat.reduceEqDiff, Nat.reduceLT, Nat.reduceAdd, Nat.reduceMul, Nat.reduceLeDiff, Nat.reduceSub, hc2]
        try simp only [go_sem, ↓reduceIte, reduceCtorEq, Nat.reduceEqDiff, Nat.reduceLT, Nat.reduceAdd, Nat.reduceMul, Nat.reduceLeDiff, Nat.reduceSub, hc2]
        refine hK13 _ ?_
        refine wp_ret' ?_
        try simp only [go_sem, ↓reduceIte, reduceCtorEq, Nat.reduceEqDiff, Nat.reduceLT, Nat.reduceAdd, Nat.reduceMul, Nat.reduceLeDiff, Nat.reduceSub, hc2]
        exact hZ _ _ _ _ (by simp) rfl rfl ⟨_, rfl⟩
  · skip
    iterate 5 (refine @vc_step Fk _ _ _ _ fun J hJ => ?_; simp only [go_sem, ↓reduceIte, reduceCtorEq, Nat.reduceEqDiff, Nat.reduceLT, Nat.reduceAdd, Nat.reduceMul, Nat.reduceLeDiff, Nat.reduceSub]; refine hJ _ ?_; clear hJ J)
    refine @vc_gd Fk _ _ _ _ 8 (by rfl) (fun hg1 => ?_) (fun hg1 => ?_)
    · skip
      have hg1n := hg1
      try simp only [decide_eq_true_eq, decide_eq_false_iff_not, Bool.not_eq_true', Bool.not_eq_false', beq_iff_eq, bne_iff_ne, beq_eq_false_iff_ne, Int.ofNat_lt, Int.not_lt, Bool.and_eq_true, ne_eq, bne_eq_false_iff_eq] at hg1n
      iterate 12 (refine @vc_step Fk _ _ _ _ fun J hJ => ?_; simp only [go_sem, ↓reduceIte, reduceCtorEq, Nat.reduceEqDiff, Nat.reduceLT, Nat.reduceAdd, Nat.reduceMul, Nat.reduceLeDiff, Nat.reduceSub, hg1]; refine hJ _ ?_; clear hJ J)
      refine vc_nil ?_
      exact hM3 _ _ (trivial) rfl
    · skip
      have hg1n := hg1
      try simp only [decide_eq_true_eq, decide_eq_false_iff_not, Bool.not_eq_true', Bool.not_eq_false', beq_iff_eq, bne_iff_ne, beq_eq_false_iff_ne, Int.ofNat_lt, Int.not_lt, Bool.and_eq_true, ne_eq, bne_eq_false_iff_eq] at hg1n
      iterate 6 (refine @vc_step Fk _ _ _ _ fun J hJ => ?_; simp only [go_sem, ↓reduceIte, reduceCtorEq, Nat.reduceEqDiff, Nat.reduceLT, Nat.reduceAdd, Nat.reduceMul, Nat.reduceLeDiff, Nat.reduceSub, hg1]; refine hJ _ ?_; clear hJ J)
      refine @vc_gd Fk _ _ _ _ 14 (by rfl) (fun hg2 => ?_) (fun hg2 => ?_)
      · skip
        have hg2n := hg2
        try simp only [decide_eq_true_eq, decide_eq_false_iff_not, Bool.not_eq_true', Bool.not_eq_false', beq_iff_eq, bne_iff_ne, beq_eq_false_iff_ne, Int.ofNat_lt, Int.not_lt, Bool.and_eq_true, ne_eq, bne_eq_false_iff_eq] at hg2n
        iterate 6 (refine @vc_step Fk _ _ _ _ fun J hJ => ?_; simp only [go_sem, ↓reduceIte, reduceCtorEq, Nat.reduceEqDiff, Nat.reduceLT, Nat.reduceAdd, Nat.reduceMul, Nat.reduceLeDiff, Nat.reduceSub, hg1, hg2]; refine hJ _ ?_; clear hJ J)
        refine vc_nil ?_
        exact hM3 _ _ (trivial) rfl
      · skip
        have hg2n := hg2
        try simp only [decide_eq_true_eq, decide_eq_false_iff_not, Bool.not_eq_true', Bool.not_eq_false', beq_iff_eq, bne_iff_ne, beq_eq_false_iff_ne, Int.ofNat_lt, Int.not_lt, Bool.and_eq_true, ne_eq, bne_eq_false_iff_eq] at hg2n
        iterate 6 (refine @vc_step Fk _ _ _ _ fun J hJ => ?_; simp only [go_sem, ↓reduceIte, reduceCtorEq, Nat.reduceEqDiff, Nat.reduceLT, Nat.reduceAdd, Nat.reduceMul, Nat.reduceLeDiff, Nat.reduceSub, hg1, hg2]; refine hJ _ ?_; clear hJ J)
        refine vc_nil ?_
        exact hM3 _ _ (trivial) rfl
theorem few18_call {x : Ac} (hx : x.Ok) {H : List AO} {T : List Nat} {Q : Av → List AO → List Nat → Prop} (hq : ∀ (b : Bool), Q (.bool b) H T) : RunT Fk (.fn n_pandectref18_Few) [.agg [.int .i64 x.num, .str x.title, .int .i64 x.day, .int .i64 x.sk, .int .i64 x.sd, .str x.se, .sl (x.items.map It.cs) x.t.tk]] H T Q := by
  obtain ⟨_, ⟨b, rfl⟩, hr⟩ := few18 _ hx
  simp only [Un.cs_eq, It.cs_eq, Ac.cs] at hr
  exact runT_ret hr (hq b)

theorem few26 (u : Un) (hu : u.Ok) :
    ∃ v, (∃ (b : Bool), (b = true → u.cnt ≤ 60) ∧ v = .bool b) ∧ Ret Fk n_pandectref26_Few [.agg u.cs, .sl [] .nil, .int .i64 0] v := by
  refine ret_of_wpP (show Fk n_pandectref26_Few = some (.fn true 32 c_pandectref26_Few r_pandectref26_Few) from rfl) (args' := [.agg u.cs, .sl [] .nil, .int .i64 0]) (by simp only [stripA, strip_U]; rfl) (Nat.le_of_ble_eq_true rfl) fun Z hZ => ?_
  unfold c_pandectref26_Few
  refine wp_norm fun J hJ => ?_
  try simp only [go_sem, ↓reduceIte, reduceCtorEq, Nat.reduceEqDiff, Nat.reduceLT, Nat.reduceAdd, Nat.reduceMul, Nat.reduceLeDiff, Nat.reduceSub]
  refine hJ _ ?_
  clear hJ J
  obtain ⟨hl1, hl2, hl3, hl4⟩ := hu.len
  obtain ⟨hw1, hw2⟩ := hu.words
  unfold maxL at hl1 hl2 hl3 hl4
  refine wp_seq_k' fun K1 hK1 => ?_
  refine wp_reg' ?_
  iterate 2 (refine @vc_step Fk _ _ _ _ fun J hJ => ?_; simp only [go_sem, ↓reduceIte, reduceCtorEq, Nat.reduceEqDiff, Nat.reduceLT, Nat.reduceAdd, Nat.reduceMul, Nat.reduceLeDiff, Nat.reduceSub]; refine hJ _ ?_; clear hJ J)
  refine vc_nil ?_
  try simp only [go_sem, ↓reduceIte, reduceCtorEq, Nat.reduceEqDiff, Nat.reduceLT, Nat.reduceAdd, Nat.reduceMul, Nat.reduceLeDiff, Nat.reduceSub]
  try simp only [go_sem, ↓reduceIte, reduceCtorEq, Nat.reduceEqDiff, Nat.reduceLT, Nat.reduceAdd, Nat.reduceMul, Nat.reduceLeDiff, Nat.reduceSub]
  refine hK1 _ ?_
  refine wp_seq_k' fun K2 hK2 => ?_
  refine wp_seq_k' fun K3 hK3 => ?_
  refine wp_reg' ?_
  refine vc_merge (K := K3) (ks := [1, 16]) (d := 16) (fun b16 => b16 = false → u.cnt ≤ 60) (fun b16 hb16 => ?_) fun M3 hM3 => ?_
  · skip
    try simp only [go_sem, ↓reduceIte, reduceCtorEq, Nat.reduceEqDiff, Nat.reduceLT, Nat.reduceAdd, Nat.reduceMul, Nat.reduceLeDiff, Nat.reduceSub]
    refine hK3 _ ?_
    refine wp_cond' rfl (fun hc1 => ?_) (fun hc1 => ?_)
    · skip
      try simp only [decide_eq_true_eq, decide_eq_false_iff_not, Bool.not_eq_true', Bool.not_eq_false', beq_iff_eq, bne_iff_ne, beq_eq_false_iff_ne, Int.ofNat_lt, Int.not_lt, Bool.and_eq_true, ne_eq, bne_eq_false_iff_eq] at hc1
      refine wp_seq_k' fun K4 hK4 => ?_
      refine wp_reg' ?_
      refine @vc_step Fk _ _ _ _ fun J hJ => ?_
      simp only [go_sem, ↓reduceIte, reduceCtorEq, Nat.reduceEqDiff, Nat.reduceLT, Nat.reduceAdd, Nat.reduceMul, Nat.reduceLeDiff, Nat.reduceSub]
      refine hJ _ ?_
      clear hJ J
      refine vc_nil ?_
      try simp only [go_sem, ↓reduceIte, reduceCtorEq, Nat.reduceEqDiff, Nat.reduceLT, Nat.reduceAdd, Nat.reduceMul, Nat.reduceLeDiff, Nat.reduceSub]
      try simp only [go_sem, ↓reduceIte, reduceCtorEq, Nat.reduceEqDiff, Nat.reduceLT, Nat.reduceAdd, Nat.reduceMul, Nat.reduceLeDiff, Nat.reduceSub]
      refine hK4 _ ?_
      refine wp_ret' ?_
      try simp only [go_sem, ↓reduceIte, reduceCtorEq, Nat.reduceEqDiff, Nat.reduceLT, Nat.reduceAdd, Nat.reduceMul, Nat.reduceLeDiff, Nat.reduceSub]
      exact hZ _ _ _ _ (by simp) rfl rfl ⟨_, (fun h => by cases h), rfl⟩
    · skip
      try simp only [decide_eq_true_eq, decide_eq_false_iff_not, Bool.not_eq_true', Bool.not_eq_false', beq_iff_eq, bne_iff_ne, beq_eq_false_iff_ne, Int.ofNat_lt, Int.not_lt, Bool.and_eq_true, ne_eq, bne_eq_false_iff_eq] at hc1
      subst hc1
      have hu60 := hb16 rfl
      refine wp_skip' ?_
      try simp only [go_sem, ↓reduceIte, reduceCtorEq, Nat.reduceEqDiff, Nat.reduceLT, Nat.reduceAdd, Nat.reduceMul, Nat.reduceLeDiff, Nat.reduceSub]
      try simp only [go_sem, ↓reduceIte, reduceCtorEq, Nat.reduceEqDiff, Nat.reduceLT, Nat.reduceAdd, Nat.reduceMul, Nat.reduceLeDiff, Nat.reduceSub]
      refine hK2 _ ?_
      refine wp_seq_k' fun K5 hK5 => ?_
      refine wp_seq_k' fun K6 hK6 => ?_
      refine wp_reg' ?_
      refine @vc_step Fk _ _ _ _ fun J hJ => ?_
      simp only [go_sem, ↓reduceIte, reduceCtorEq, Nat.reduceEqDiff, Nat.reduceLT, Nat.reduceAdd, Nat.reduceMul, Nat.reduceLeDiff, Nat.reduceSub]
      refine hJ _ ?_
      clear hJ J
      refine vc_nil ?_
      try simp only [go_sem, ↓reduceIte, reduceCtorEq, Nat.reduceEqDiff, Nat.reduceLT, Nat.reduceAdd, Nat.reduceMul, Nat.reduceLeDiff, Nat.reduceSub]
      try simp only [go_sem, ↓reduceIte, reduceCtorEq, Nat.reduceEqDiff, Nat.reduceLT, Nat.reduceAdd, Nat.reduceMul, Nat.reduceLeDiff, Nat.reduceSub]
      refine hK6 _ ?_
      refine wp_block' ?_
      refine wp_forU (ι := Unit) (0) (fun i1 x1 => [(7, .int .i64 (i1 : Nat))]) (fun i1 x1 => _) (fun i1 x1 => _) (fun i1 x1 => True) () (by rfl) rfl rfl (by trivial) fun i1 x1 hi1 hv1 K7 hK7 => ?_
      refine wp_norm fun J hJ => ?_
      try simp only [go_sem, ↓reduceIte, reduceCtorEq, Nat.reduceEqDiff, Nat.reduceLT, Nat.reduceAdd, Nat.reduceMul, Nat.reduceLeDiff, Nat.reduceSub]
      refine hJ _ ?_
      clear hJ J
      refine wp_seq_k' fun K8 hK8 => ?_
      refine wp_seq_k' fun K9 hK9 => ?_
      refine wp_reg' ?_
      iterate 4 (refine @vc_step Fk _ _ _ _ fun J hJ => ?_; simp only [go_sem, ↓reduceIte, reduceCtorEq, Nat.reduceEqDiff, Nat.reduceLT, Nat.reduceAdd, Nat.reduceMul, Nat.reduceLeDiff, Nat.reduceSub]; refine hJ _ ?_; clear hJ J)
      refine vc_nil ?_
      try simp only [go_sem, ↓reduceIte, reduceCtorEq, Nat.reduceEqDiff, Nat.reduceLT, Nat.reduceAdd, Nat.reduceMul, Nat.reduceLeDiff, Nat.reduceSub]
      try simp only [go_sem, ↓reduceIte, reduceCtorEq, Nat.reduceEqDiff, Nat.reduceLT, Nat.reduceAdd, Nat.reduceMul, Nat.reduceLeDiff, Nat.reduceSub]
      refine hK9 _ ?_
      refine wp_cond' rfl (fun hc2 => ?_) (fun hc2 => ?_)
      · skip
        try simp only [decide_eq_true_eq, decide_eq_false_iff_not, Bool.not_eq_true', Bool.not_eq_false', beq_iff_eq, bne_iff_ne, beq_eq_false_iff_ne, Int.ofNat_lt, Int.not_lt, Bool.and_eq_true, ne_eq, bne_eq_false_iff_eq] at hc2
        exfalso
        simp at hc2
      · skip
        try simp only [decide_eq_true_eq, decide_eq_false_iff_not, Bool.not_eq_true', Bool.not_eq_false', beq_iff_eq, bne_iff_ne, beq_eq_false_iff_ne, Int.ofNat_lt, Int.not_lt, Bool.and_eq_true, ne_eq, bne_eq_false_iff_eq] at hc2
        refine wp_exit' ?_
        try simp only [go_sem, ↓reduceIte, reduceCtorEq, Nat.reduceEqDiff, Nat.reduceLT, Nat.reduceAdd, Nat.reduceMul, Nat.reduceLeDiff, Nat.reduceSub, hc2]
        try simp only [go_sem, ↓reduceIte, reduceCtorEq, Nat.reduceEqDiff, Nat.reduceLT, Nat.reduceAdd, Nat.reduceMul, Nat.reduceLeDiff, Nat.reduceSub, hc2]
        refine hK5 _ ?_
        refine wp_seq_k' fun K10 hK10 => ?_
        refine wp_reg' ?_
        refine @vc_step Fk _ _ _ _ fun J hJ => ?_
        simp only [go_sem, ↓reduceIte, reduceCtorEq, Nat.reduceEqDiff, Nat.reduceLT, Nat.reduceAdd, Nat.reduceMul, Nat.reduceLeDiff, Nat.reduceSub, hc2]
        refine hJ _ ?_
        clear hJ J
        refine vc_nil ?_
        try simp only [go_sem, ↓reduceIte, reduceCtorEq, Nat.reduceEqDiff, Nat.reduceLT, Nat.reduceAdd, Nat.reduceMul, Nat.reduceLeDiff, Nat.reduceSub, hc2]
        try simp only [go_sem, ↓reduceIte, reduceCtorEq, Nat.reduceEqDiff, Nat.reduceLT, Nat.reduceAdd, Nat.reduceMul, Nat.reduceLeDiff, Nat.reduceSub, hc2]
        refine hK10 _ ?_
        refine wp_ret' ?_
        try simp only [go_sem, ↓reduceIte, reduceCtorEq, Nat.reduceEqDiff, Nat.reduceLT, Nat.reduceAdd, Nat.reduceMul, Nat.reduceLeDiff, Nat.reduceSub, hc2]
        exact hZ _ _ _ _ (by simp) rfl rfl ⟨_, (fun _ => hu60), rfl⟩
  · skip
    refine @vc_step Fk _ _ _ _ fun J hJ => ?_
    simp only [go_sem, ↓reduceIte, reduceCtorEq, Nat.reduceEqDiff, Nat.reduceLT, Nat.reduceAdd, Nat.reduceMul, Nat.reduceLeDiff, Nat.reduceSub, Int.not_lt, Int.le_refl]
    refine hJ _ ?_
    clear hJ J
    have e60 : (60 : Int) = ((60 : Nat) : Int) := rfl
    refine @vc_step Fk _ _ _ _ fun J hJ => ?_
    simp only [go_sem, ↓reduceIte, reduceCtorEq, Nat.reduceEqDiff, Nat.reduceLT, Nat.reduceAdd, Nat.reduceMul, Nat.reduceLeDiff, Nat.reduceSub, Int.not_lt, Int.le_refl]
    rw [e60]
    refine few6_call (by assumption) (by omega) fun b1 hb1 => ?_
    try simp only [go_sem, ↓reduceIte, reduceCtorEq, Nat.reduceEqDiff, Nat.reduceLT, Nat.reduceAdd, Nat.reduceMul, Nat.reduceLeDiff, Nat.reduceSub, Int.not_lt, Int.le_refl]
    refine hJ _ ?_
    clear hJ J
    iterate 2 (refine @vc_step Fk _ _ _ _ fun J hJ => ?_; simp only [go_sem, ↓reduceIte, reduceCtorEq, Nat.reduceEqDiff, Nat.reduceLT, Nat.reduceAdd, Nat.reduceMul, Nat.reduceLeDiff, Nat.reduceSub, Int.not_lt, Int.le_refl]; refine hJ _ ?_; clear hJ J)
    refine @vc_gd Fk _ _ _ _ 11 (by rfl) (fun hg1 => ?_) (fun hg1 => ?_)
    · skip
      have hg1n := hg1
      try simp only [decide_eq_true_eq, decide_eq_false_iff_not, Bool.not_eq_true', Bool.not_eq_false', beq_iff_eq, bne_iff_ne, beq_eq_false_iff_ne, Int.ofNat_lt, Int.not_lt, Bool.and_eq_true, ne_eq, bne_eq_false_iff_eq] at hg1n
      iterate 5 (refine @vc_step Fk _ _ _ _ fun J hJ => ?_; simp only [go_sem, ↓reduceIte, reduceCtorEq, Nat.reduceEqDiff, Nat.reduceLT, Nat.reduceAdd, Nat.reduceMul, Nat.reduceLeDiff, Nat.reduceSub, hg1, hg1n, Int.not_lt, Int.le_refl]; refine hJ _ ?_; clear hJ J)
      refine vc_nil ?_
      exact hM3 _ _ (fun q => (by cases q)) rfl
    · skip
      have hg1n := hg1
      try simp only [decide_eq_true_eq, decide_eq_false_iff_not, Bool.not_eq_true', Bool.not_eq_false', beq_iff_eq, bne_iff_ne, beq_eq_false_iff_ne, Int.ofNat_lt, Int.not_lt, Bool.and_eq_true, ne_eq, bne_eq_false_iff_eq] at hg1n
      iterate 5 (refine @vc_step Fk _ _ _ _ fun J hJ => ?_; simp only [go_sem, ↓reduceIte, reduceCtorEq, Nat.reduceEqDiff, Nat.reduceLT, Nat.reduceAdd, Nat.reduceMul, Nat.reduceLeDiff, Nat.reduceSub, hg1, hg1n, Int.not_lt, Int.le_refl]; refine hJ _ ?_; clear hJ J)
      refine vc_nil ?_
      exact hM3 _ _ (fun _ => hb1 (by simpa using hg1)) rfl
theorem few26_call {u : Un} (hu : u.Ok) {H : List AO} {T : List Nat} {Q : Av → List AO → List Nat → Prop} (hq : ∀ (b : Bool), (b = true → u.cnt ≤ 60) → Q (.bool b) H T) : RunT Fk (.fn n_pandectref26_Few) [.agg [.int .i64 u.a, .int .i64 u.b, .int .i64 u.c, .int .i64 u.kind, .str u.label, .sl (u.head.map Wd.cs) u.t1.tk, .sl (u.words.map Wd.cs) u.t2.tk, .sl (u.kids.map Un.cs) u.t3.tk], .sl [] .nil, .int .i64 0] H T Q := by
  obtain ⟨_, ⟨b, hb, rfl⟩, hr⟩ := few26 _ hu
  simp only [Un.cs_eq, It.cs_eq, Ac.cs] at hr
  exact runT_ret hr (hq b hb)

theorem few38 (u : Un) (t : TD) (l : List Ac) (m : Int) (hu : u.Ok) (hl : l.length ≤ maxL) (ha : ∀ a ∈ l, a.Ok) :
    ∃ v, (∃ (b : Bool), v = .bool b) ∧ Ret Fk n_pandectref38_Few [.agg u.cs, .sl (l.map Ac.cs) t.tk, .int .i64 m] v := by
  refine ret_of_wpP (show Fk n_pandectref38_Few = some (.fn true 43 c_pandectref38_Few r_pandectref38_Few) from rfl) (args' := [.agg u.cs, .sl (l.map Ac.cs) t.tk, .int .i64 m]) (by simp only [stripA, strip_int, strip_bool, strip_str, strip_sl, strip_U, strip_I, strip_A]) (Nat.le_of_ble_eq_true rfl) fun Z hZ => ?_
  unfold c_pandectref38_Few
  refine wp_norm fun J hJ => ?_
  try simp only [go_sem, ↓reduceIte, reduceCtorEq, Nat.reduceEqDiff, Nat.reduceLT, Nat.reduceAdd, Nat.reduceMul, Nat.reduceLeDiff, Nat.reduceSub]
  refine hJ _ ?_
  clear hJ J
  obtain ⟨hl1, hl2, hl3, hl4⟩ := hu.len
  obtain ⟨hw1, hw2⟩ := hu.words
  unfold maxL at hl1 hl2 hl3 hl4
  unfold maxL at hl
  refine wp_seq_k' fun K1 hK1 => ?_
  refine wp_reg' ?_
  iterate 2 (refine @vc_step Fk _ _ _ _ fun J hJ => ?_; simp only [go_sem, ↓reduceIte, reduceCtorEq, Nat.reduceEqDiff, Nat.reduceLT, Nat.reduceAdd, Nat.reduceMul, Nat.reduceLeDiff, Nat.reduceSub]; refine hJ _ ?_; clear hJ J)
  refine vc_nil ?_
  try simp only [go_sem, ↓reduceIte, reduceCtorEq, Nat.reduceEqDiff, Nat.reduceLT, Nat.reduceAdd, Nat.reduceMul, Nat.reduceLeDiff, Nat.reduceSub]
  try simp only [go_sem, ↓reduceIte, reduceCtorEq, Nat.reduceEqDiff, Nat.reduceLT, Nat.reduceAdd, Nat.reduceMul, Nat.reduceLeDiff, Nat.reduceSub]
  refine hK1 _ ?_
  refine wp_seq_k' fun K2 hK2 => ?_
  refine wp_seq_k' fun K3 hK3 => ?_
  refine wp_reg' ?_
  refine vc_merge (K := K3) (ks := [1, 21]) (d := 21) (fun b21 => True) (fun b21 hb21 => ?_) fun M3 hM3 => ?_
  · skip
    try simp only [go_sem, ↓reduceIte, reduceCtorEq, Nat.reduceEqDiff, Nat.reduceLT, Nat.reduceAdd, Nat.reduceMul, Nat.reduceLeDiff, Nat.reduceSub]
    refine hK3 _ ?_
    refine wp_cond' rfl (fun hc1 => ?_) (fun hc1 => ?_)
    · skip
      try simp only [decide_eq_true_eq, decide_eq_false_iff_not, Bool.not_eq_true', Bool.not_eq_false', beq_iff_eq, bne_iff_ne, beq_eq_false_iff_ne, Int.ofNat_lt, Int.not_lt, Bool.and_eq_true, ne_eq, bne_eq_false_iff_eq] at hc1
      refine wp_seq_k' fun K4 hK4 => ?_
      refine wp_reg' ?_
      refine @vc_step Fk _ _ _ _ fun J hJ => ?_
      simp only [go_sem, ↓reduceIte, reduceCtorEq, Nat.reduceEqDiff, Nat.reduceLT, Nat.reduceAdd, Nat.reduceMul, Nat.reduceLeDiff, Nat.reduceSub]
      refine hJ _ ?_
      clear hJ J
      refine vc_nil ?_
      try simp only [go_sem, ↓reduceIte, reduceCtorEq, Nat.reduceEqDiff, Nat.reduceLT, Nat.reduceAdd, Nat.reduceMul, Nat.reduceLeDiff, Nat.reduceSub]
      try simp only [go_sem, ↓reduceIte, reduceCtorEq, Nat.reduceEqDiff, Nat.reduceLT, Nat.reduceAdd, Nat.reduceMul, Nat.reduceLeDiff, Nat.reduceSub]
      refine hK4 _ ?_
      refine wp_ret' ?_
      try simp only [go_sem, ↓reduceIte, reduceCtorEq, Nat.reduceEqDiff, Nat.reduceLT, Nat.reduceAdd, Nat.reduceMul, Nat.reduceLeDiff, Nat.reduceSub]
      exact hZ _ _ _ _ (by simp) rfl rfl ⟨_, rfl⟩
    · skip
      try simp only [decide_eq_true_eq, decide_eq_false_iff_not, Bool.not_eq_true', Bool.not_eq_false', beq_iff_eq, bne_iff_ne, beq_eq_false_iff_ne, Int.ofNat_lt, Int.not_lt, Bool.and_eq_true, ne_eq, bne_eq_false_iff_eq] at hc1
      refine wp_skip' ?_
      try simp only [go_sem, ↓reduceIte, reduceCtorEq, Nat.reduceEqDiff, Nat.reduceLT, Nat.reduceAdd, Nat.reduceMul, Nat.reduceLeDiff, Nat.reduceSub]
      try simp only [go_sem, ↓reduceIte, reduceCtorEq, Nat.reduceEqDiff, Nat.reduceLT, Nat.reduceAdd, Nat.reduceMul, Nat.reduceLeDiff, Nat.reduceSub]
      refine hK2 _ ?_
      refine wp_seq_k' fun K5 hK5 => ?_
      refine wp_seq_k' fun K6 hK6 => ?_
      refine wp_reg' ?_
      refine @vc_step Fk _ _ _ _ fun J hJ => ?_
      simp only [go_sem, ↓reduceIte, reduceCtorEq, Nat.reduceEqDiff, Nat.reduceLT, Nat.reduceAdd, Nat.reduceMul, Nat.reduceLeDiff, Nat.reduceSub]
      refine hJ _ ?_
      clear hJ J
      refine vc_nil ?_
      try simp only [go_sem, ↓reduceIte, reduceCtorEq, Nat.reduceEqDiff, Nat.reduceLT, Nat.reduceAdd, Nat.reduceMul, Nat.reduceLeDiff, Nat.reduceSub]
      try simp only [go_sem, ↓reduceIte, reduceCtorEq, Nat.reduceEqDiff, Nat.reduceLT, Nat.reduceAdd, Nat.reduceMul, Nat.reduceLeDiff, Nat.reduceSub]
      refine hK6 _ ?_
      refine wp_block' ?_
      refine wp_forU (ι := Unit) (l.length) (fun i1 x1 => [(7, .int .i64 (i1 : Nat))]) (fun i1 x1 => _) (fun i1 x1 => _) (fun i1 x1 => True) () (by rfl) rfl rfl (by trivial) fun i1 x1 hi1 hv1 K7 hK7 => ?_
      refine wp_norm fun J hJ => ?_
      try simp only [go_sem, ↓reduceIte, reduceCtorEq, Nat.reduceEqDiff, Nat.reduceLT, Nat.reduceAdd, Nat.reduceMul, Nat.reduceLeDiff, Nat.reduceSub]
      refine hJ _ ?_
      clear hJ J
      refine wp_seq_k' fun K8 hK8 => ?_
      refine wp_seq_k' fun K9 hK9 => ?_
      refine wp_reg' ?_
      iterate 4 (refine @vc_step Fk _ _ _ _ fun J hJ => ?_; simp only [go_sem, ↓reduceIte, reduceCtorEq, Nat.reduceEqDiff, Nat.reduceLT, Nat.reduceAdd, Nat.reduceMul, Nat.reduceLeDiff, Nat.reduceSub]; refine hJ _ ?_; clear hJ J)
      refine vc_nil ?_
      try simp only [go_sem, ↓reduceIte, reduceCtorEq, Nat.reduceEqDiff, Nat.reduceLT, Nat.reduceAdd, Nat.reduceMul, Nat.reduceLeDiff, Nat.reduceSub]
      try simp only [go_sem, ↓reduceIte, reduceCtorEq, Nat.reduceEqDiff, Nat.reduceLT, Nat.reduceAdd, Nat.reduceMul, Nat.reduceLeDiff, Nat.reduceSub]
      refine hK9 _ ?_
      refine wp_cond' rfl (fun hc2 => ?_) (fun hc2 => ?_)
      · skip
        try simp only [decide_eq_true_eq, decide_eq_false_iff_not, Bool.not_eq_true', Bool.not_eq_false', beq_iff_eq, bne_iff_ne, beq_eq_false_iff_ne, Int.ofNat_lt, Int.not_lt, Bool.and_eq_true, ne_eq, bne_eq_false_iff_eq] at hc2
        refine wp_skip' ?_
        try simp only [go_sem, ↓reduceIte, reduceCtorEq, Nat.reduceEqDiff, Nat.reduceLT, Nat.reduceAdd, Nat.reduceMul, Nat.reduceLeDiff, Nat.reduceSub, hc2]
        try simp only [go_sem, ↓reduceIte, reduceCtorEq, Nat.reduceEqDiff, Nat.reduceLT, Nat.reduceAdd, Nat.reduceMul, Nat.reduceLeDiff, Nat.reduceSub, hc2]
        refine hK8 _ ?_
        refine wp_seq_k' fun K10 hK10 => ?_
        refine wp_block' ?_
        refine wp_seq_k' fun K11 hK11 => ?_
        refine wp_reg' ?_
        refine vc_merge (K := K11) (ks := [1, 7, 42]) (d := 42) (fun b42 => True) (fun b42 hb42 => ?_) fun M11 hM11 => ?_
        · skip
          try simp only [go_sem, ↓reduceIte, reduceCtorEq, Nat.reduceEqDiff, Nat.reduceLT, Nat.reduceAdd, Nat.reduceMul, Nat.reduceLeDiff, Nat.reduceSub, hc2]
          refine hK11 _ ?_
          refine wp_cond' rfl (fun hc3 => ?_) (fun hc3 => ?_)
          · skip
            try simp only [decide_eq_true_eq, decide_eq_false_iff_not, Bool.not_eq_true', Bool.not_eq_false', beq_iff_eq, bne_iff_ne, beq_eq_false_iff_ne, Int.ofNat_lt, Int.not_lt, Bool.and_eq_true, ne_eq, bne_eq_false_iff_eq] at hc3
            refine wp_seq_k' fun K12 hK12 => ?_
            refine wp_reg' ?_
            refine @vc_step Fk _ _ _ _ fun J hJ => ?_
            simp only [go_sem, ↓reduceIte, reduceCtorEq, Nat.reduceEqDiff, Nat.reduceLT, Nat.reduceAdd, Nat.reduceMul, Nat.reduceLeDiff, Nat.reduceSub, hc2]
            refine hJ _ ?_
            clear hJ J
            refine vc_nil ?_
            try simp only [go_sem, ↓reduceIte, reduceCtorEq, Nat.reduceEqDiff, Nat.reduceLT, Nat.reduceAdd, Nat.reduceMul, Nat.reduceLeDiff, Nat.reduceSub, hc2]
            try simp only [go_sem, ↓reduceIte, reduceCtorEq, Nat.reduceEqDiff, Nat.reduceLT, Nat.reduceAdd, Nat.reduceMul, Nat.reduceLeDiff, Nat.reduceSub, hc2]
            refine hK12 _ ?_
            refine wp_ret' ?_
            try simp only [go_sem, ↓reduceIte, reduceCtorEq, Nat.reduceEqDiff, Nat.reduceLT, Nat.reduceAdd, Nat.reduceMul, Nat.reduceLeDiff, Nat.reduceSub, hc2]
            exact hZ _ _ _ _ (by simp) rfl rfl ⟨_, rfl⟩
          · skip
            try simp only [decide_eq_true_eq, decide_eq_false_iff_not, Bool.not_eq_true', Bool.not_eq_false', beq_iff_eq, bne_iff_ne, beq_eq_false_iff_ne, Int.ofNat_lt, Int.not_lt, Bool.and_eq_true, ne_eq, bne_eq_false_iff_eq] at hc3
            refine wp_skip' ?_
            try simp only [go_sem, ↓reduceIte, reduceCtorEq, Nat.reduceEqDiff, Nat.reduceLT, Nat.reduceAdd, Nat.reduceMul, Nat.reduceLeDiff, Nat.reduceSub, hc2]
            try simp only [go_sem, ↓reduceIte, reduceCtorEq, Nat.reduceEqDiff, Nat.reduceLT, Nat.reduceAdd, Nat.reduceMul, Nat.reduceLeDiff, Nat.reduceSub, hc2]
            refine hK10 _ ?_
            refine wp_reg' ?_
            iterate 3 (refine @vc_step Fk _ _ _ _ fun J hJ => ?_; simp only [go_sem, ↓reduceIte, reduceCtorEq, Nat.reduceEqDiff, Nat.reduceLT, Nat.reduceAdd, Nat.reduceMul, Nat.reduceLeDiff, Nat.reduceSub, hc2]; refine hJ _ ?_; clear hJ J)
            refine vc_nil ?_
            try simp only [go_sem, ↓reduceIte, reduceCtorEq, Nat.reduceEqDiff, Nat.reduceLT, Nat.reduceAdd, Nat.reduceMul, Nat.reduceLeDiff, Nat.reduceSub, hc2]
            refine hK7 _ _ _ ⟨by assumption, (), by trivial, ?_, rfl, rfl⟩
            rw [wrap64 (n := ((i1 : Nat) : Int) + 1) (by omega) (by omega)]
            rfl
        · skip
          iterate 2 (refine @vc_step Fk _ _ _ _ fun J hJ => ?_; simp only [go_sem, ↓reduceIte, reduceCtorEq, Nat.reduceEqDiff, Nat.reduceLT, Nat.reduceAdd, Nat.reduceMul, Nat.reduceLeDiff, Nat.reduceSub, hc2]; refine hJ _ ?_; clear hJ J)
          refine @vc_step Fk _ _ _ _ fun J hJ => ?_
          simp only [go_sem, ↓reduceIte, reduceCtorEq, Nat.reduceEqDiff, Nat.reduceLT, Nat.reduceAdd, Nat.reduceMul, Nat.reduceLeDiff, Nat.reduceSub, hc2]
          first | refine hJ _ ?_ | refine ⟨by first | assumption | omega | exact List.getElem_mem _ | exact ha _ (List.getElem_mem _), hJ _ ?_⟩ | refine ⟨by first | assumption | omega | exact List.getElem_mem _ | exact ha _ (List.getElem_mem _), by first | assumption | omega | exact List.getElem_mem _ | exact ha _ (List.getElem_mem _), hJ _ ?_⟩
          clear hJ J
          refine @vc_step Fk _ _ _ _ fun J hJ => ?_
          simp only [go_sem, ↓reduceIte, reduceCtorEq, Nat.reduceEqDiff, Nat.reduceLT, Nat.reduceAdd, Nat.reduceMul, Nat.reduceLeDiff, Nat.reduceSub, hc2]
          refine hJ _ ?_
          clear hJ J
          refine @vc_step Fk _ _ _ _ fun J hJ => ?_
          simp only [go_sem, ↓reduceIte, reduceCtorEq, Nat.reduceEqDiff, Nat.reduceLT, Nat.reduceAdd, Nat.reduceMul, Nat.reduceLeDiff, Nat.reduceSub, hc2]
          refine few18_call  (by first | assumption | omega | exact List.getElem_mem _ | exact ha _ (List.getElem_mem _)) fun b1 => ?_
          try simp only [go_sem, ↓reduceIte, reduceCtorEq, Nat.reduceEqDiff, Nat.reduceLT, Nat.reduceAdd, Nat.reduceMul, Nat.reduceLeDiff, Nat.reduceSub, hc2]
          refine hJ _ ?_
          clear hJ J
          iterate 2 (refine @vc_step Fk _ _ _ _ fun J hJ => ?_; simp only [go_sem, ↓reduceIte, reduceCtorEq, Nat.reduceEqDiff, Nat.reduceLT, Nat.reduceAdd, Nat.reduceMul, Nat.reduceLeDiff, Nat.reduceSub, hc2]; refine hJ _ ?_; clear hJ J)
          refine @vc_gd Fk _ _ _ _ 34 (by rfl) (fun hg1 => ?_) (fun hg1 => ?_)
          · skip
            have hg1n := hg1
            try simp only [decide_eq_true_eq, decide_eq_false_iff_not, Bool.not_eq_true', Bool.not_eq_false', beq_iff_eq, bne_iff_ne, beq_eq_false_iff_ne, Int.ofNat_lt, Int.not_lt, Bool.and_eq_true, ne_eq, bne_eq_false_iff_eq] at hg1n
            iterate 8 (refine @vc_step Fk _ _ _ _ fun J hJ => ?_; simp only [go_sem, ↓reduceIte, reduceCtorEq, Nat.reduceEqDiff, Nat.reduceLT, Nat.reduceAdd, Nat.reduceMul, Nat.reduceLeDiff, Nat.reduceSub, hc2, hg1, hg1n]; refine hJ _ ?_; clear hJ J)
            refine vc_nil ?_
            exact hM11 _ _ (trivial) rfl
          · skip
            have hg1n := hg1
            try simp only [decide_eq_true_eq, decide_eq_false_iff_not, Bool.not_eq_true', Bool.not_eq_false', beq_iff_eq, bne_iff_ne, beq_eq_false_iff_ne, Int.ofNat_lt, Int.not_lt, Bool.and_eq_true, ne_eq, bne_eq_false_iff_eq] at hg1n
            iterate 2 (refine @vc_step Fk _ _ _ _ fun J hJ => ?_; simp only [go_sem, ↓reduceIte, reduceCtorEq, Nat.reduceEqDiff, Nat.reduceLT, Nat.reduceAdd, Nat.reduceMul, Nat.reduceLeDiff, Nat.reduceSub, hc2, hg1, hg1n]; refine hJ _ ?_; clear hJ J)
            refine @vc_step Fk _ _ _ _ fun J hJ => ?_
            simp only [go_sem, ↓reduceIte, reduceCtorEq, Nat.reduceEqDiff, Nat.reduceLT, Nat.reduceAdd, Nat.reduceMul, Nat.reduceLeDiff, Nat.reduceSub, hc2, hg1, hg1n]
            first | refine hJ _ ?_ | refine ⟨by first | assumption | omega | exact List.getElem_mem _ | exact ha _ (List.getElem_mem _), hJ _ ?_⟩ | refine ⟨by first | assumption | omega | exact List.getElem_mem _ | exact ha _ (List.getElem_mem _), by first | assumption | omega | exact List.getElem_mem _ | exact ha _ (List.getElem_mem _), hJ _ ?_⟩
            clear hJ J
            iterate 5 (refine @vc_step Fk _ _ _ _ fun J hJ => ?_; simp only [go_sem, ↓reduceIte, reduceCtorEq, Nat.reduceEqDiff, Nat.reduceLT, Nat.reduceAdd, Nat.reduceMul, Nat.reduceLeDiff, Nat.reduceSub, hc2, hg1, hg1n]; refine hJ _ ?_; clear hJ J)
            refine vc_nil ?_
            exact hM11 _ _ (trivial) rfl
      · skip
        try simp only [decide_eq_true_eq, decide_eq_false_iff_not, Bool.not_eq_true', Bool.not_eq_false', beq_iff_eq, bne_iff_ne, beq_eq_false_iff_ne, Int.ofNat_lt, Int.not_lt, Bool.and_eq_true, ne_eq, bne_eq_false_iff_eq] at hc2
        refine wp_exit' ?_
        try simp only [go_sem, ↓reduceIte, reduceCtorEq, Nat.reduceEqDiff, Nat.reduceLT, Nat.reduceAdd, Nat.reduceMul, Nat.reduceLeDiff, Nat.reduceSub, hc2]
        try simp only [go_sem, ↓reduceIte, reduceCtorEq, Nat.reduceEqDiff, Nat.reduceLT, Nat.reduceAdd, Nat.reduceMul, Nat.reduceLeDiff, Nat.reduceSub, hc2]
        refine hK5 _ ?_
        refine wp_seq_k' fun K13 hK13 => ?_
        refine wp_reg' ?_
        refine @vc_step Fk _ _ _ _ fun J hJ => ?_
        simp only [go_sem, ↓reduceIte, reduceCtorEq, Nat.reduceEqDiff, Nat.reduceLT, Nat.reduceAdd, Nat.reduceMul, Nat.reduceLeDiff, Nat.reduceSub, hc2]
        refine hJ _ ?_
        clear hJ J
        refine vc_nil ?_
        try simp only [go_sem, ↓reduceIte, reduceCtorEq, Nat.reduceEqDiff, Nat.reduceLT, Nat.reduceAdd, Nat.reduceMul, Nat.reduceLeDiff, Nat.reduceSub, hc2]
        try simp only [go_sem, ↓reduceIte, reduceCtorEq, Nat.reduceEqDiff, Nat.reduceLT, Nat.reduceAdd, Nat.reduceMul, Nat.reduceLeDiff, Nat.reduceSub, hc2]
        refine hK13 _ ?_
        refine wp_ret' ?_
        try simp only [go_sem, ↓reduceIte, reduceCtorEq, Nat.reduceEqDiff, Nat.reduceLT, Nat.reduceAdd, Nat.reduceMul, Nat.reduceLeDiff, Nat.reduceSub, hc2]
        exact hZ _ _ _ _ (by simp) rfl rfl ⟨_, rfl⟩
  · skip
    refine @vc_step Fk _ _ _ _ fun J hJ => ?_
    simp only [go_sem, ↓reduceIte, reduceCtorEq, Nat.reduceEqDiff, Nat.reduceLT, Nat.reduceAdd, Nat.reduceMul, Nat.reduceLeDiff, Nat.reduceSub]
    refine hJ _ ?_
    clear hJ J
    refine @vc_step Fk _ _ _ _ fun J hJ => ?_
    simp only [go_sem, ↓reduceIte, reduceCtorEq, Nat.reduceEqDiff, Nat.reduceLT, Nat.reduceAdd, Nat.reduceMul, Nat.reduceLeDiff, Nat.reduceSub]
    refine few26_call  (by first | assumption | omega | exact List.getElem_mem _ | exact ha _ (List.getElem_mem _)) fun b2 hb2 => ?_
    try simp only [go_sem, ↓reduceIte, reduceCtorEq, Nat.reduceEqDiff, Nat.reduceLT, Nat.reduceAdd, Nat.reduceMul, Nat.reduceLeDiff, Nat.reduceSub]
    refine hJ _ ?_
    clear hJ J
    iterate 2 (refine @vc_step Fk _ _ _ _ fun J hJ => ?_; simp only [go_sem, ↓reduceIte, reduceCtorEq, Nat.reduceEqDiff, Nat.reduceLT, Nat.reduceAdd, Nat.reduceMul, Nat.reduceLeDiff, Nat.reduceSub]; refine hJ _ ?_; clear hJ J)
    refine @vc_gd Fk _ _ _ _ 11 (by rfl) (fun hg2 => ?_) (fun hg2 => ?_)
    · skip
      have hg2n := hg2
      try simp only [decide_eq_true_eq, decide_eq_false_iff_not, Bool.not_eq_true', Bool.not_eq_false', beq_iff_eq, bne_iff_ne, beq_eq_false_iff_ne, Int.ofNat_lt, Int.not_lt, Bool.and_eq_true, ne_eq, bne_eq_false_iff_eq] at hg2n
      iterate 10 (refine @vc_step Fk _ _ _ _ fun J hJ => ?_; simp only [go_sem, ↓reduceIte, reduceCtorEq, Nat.reduceEqDiff, Nat.reduceLT, Nat.reduceAdd, Nat.reduceMul, Nat.reduceLeDiff, Nat.reduceSub, hg2, hg2n]; refine hJ _ ?_; clear hJ J)
      refine vc_nil ?_
      exact hM3 _ _ (trivial) rfl
    · skip
      have hg2n := hg2
      try simp only [decide_eq_true_eq, decide_eq_false_iff_not, Bool.not_eq_true', Bool.not_eq_false', beq_iff_eq, bne_iff_ne, beq_eq_false_iff_ne, Int.ofNat_lt, Int.not_lt, Bool.and_eq_true, ne_eq, bne_eq_false_iff_eq] at hg2n
      have hu60 : u.cnt ≤ 1048576 := by have := hb2 (by simpa using hg2n); omega
      refine @vc_step Fk _ _ _ _ fun J hJ => ?_
      simp only [go_sem, ↓reduceIte, reduceCtorEq, Nat.reduceEqDiff, Nat.reduceLT, Nat.reduceAdd, Nat.reduceMul, Nat.reduceLeDiff, Nat.reduceSub, hg2, hg2n]
      refine hJ _ ?_
      clear hJ J
      refine @vc_step Fk _ _ _ _ fun J hJ => ?_
      simp only [go_sem, ↓reduceIte, reduceCtorEq, Nat.reduceEqDiff, Nat.reduceLT, Nat.reduceAdd, Nat.reduceMul, Nat.reduceLeDiff, Nat.reduceSub, hg2, hg2n]
      refine book26_call  (by first | assumption | omega | exact List.getElem_mem _ | exact ha _ (List.getElem_mem _)) (by first | assumption | omega | exact List.getElem_mem _ | exact ha _ (List.getElem_mem _)) fun b3 => ?_
      try simp only [go_sem, ↓reduceIte, reduceCtorEq, Nat.reduceEqDiff, Nat.reduceLT, Nat.reduceAdd, Nat.reduceMul, Nat.reduceLeDiff, Nat.reduceSub, hg2, hg2n]
      refine hJ _ ?_
      clear hJ J
      iterate 3 (refine @vc_step Fk _ _ _ _ fun J hJ => ?_; simp only [go_sem, ↓reduceIte, reduceCtorEq, Nat.reduceEqDiff, Nat.reduceLT, Nat.reduceAdd, Nat.reduceMul, Nat.reduceLeDiff, Nat.reduceSub, hg2, hg2n]; refine hJ _ ?_; clear hJ J)
      refine @vc_gd Fk _ _ _ _ 16 (by rfl) (fun hg3 => ?_) (fun hg3 => ?_)
      · skip
        have hg3n := hg3
        try simp only [decide_eq_true_eq, decide_eq_false_iff_not, Bool.not_eq_true', Bool.not_eq_false', beq_iff_eq, bne_iff_ne, beq_eq_false_iff_ne, Int.ofNat_lt, Int.not_lt, Bool.and_eq_true, ne_eq, bne_eq_false_iff_eq] at hg3n
        iterate 5 (refine @vc_step Fk _ _ _ _ fun J hJ => ?_; simp only [go_sem, ↓reduceIte, reduceCtorEq, Nat.reduceEqDiff, Nat.reduceLT, Nat.reduceAdd, Nat.reduceMul, Nat.reduceLeDiff, Nat.reduceSub, hg2, hg2n, hg3, hg3n]; refine hJ _ ?_; clear hJ J)
        refine vc_nil ?_
        exact hM3 _ _ (trivial) rfl
      · skip
        have hg3n := hg3
        try simp only [decide_eq_true_eq, decide_eq_false_iff_not, Bool.not_eq_true', Bool.not_eq_false', beq_iff_eq, bne_iff_ne, beq_eq_false_iff_ne, Int.ofNat_lt, Int.not_lt, Bool.and_eq_true, ne_eq, bne_eq_false_iff_eq] at hg3n
        iterate 5 (refine @vc_step Fk _ _ _ _ fun J hJ => ?_; simp only [go_sem, ↓reduceIte, reduceCtorEq, Nat.reduceEqDiff, Nat.reduceLT, Nat.reduceAdd, Nat.reduceMul, Nat.reduceLeDiff, Nat.reduceSub, hg2, hg2n, hg3, hg3n]; refine hJ _ ?_; clear hJ J)
        refine vc_nil ?_
        exact hM3 _ _ (trivial) rfl
theorem few38_call {u : Un} {t : TD} {l : List Ac} {m : Int} (hu : u.Ok) (hl : l.length ≤ maxL) (ha : ∀ a ∈ l, a.Ok) {H : List AO} {T : List Nat} {Q : Av → List AO → List Nat → Prop} (hq : ∀ (b : Bool), Q (.bool b) H T) : RunT Fk (.fn n_pandectref38_Few) [.agg [.int .i64 u.a, .int .i64 u.b, .int .i64 u.c, .int .i64 u.kind, .str u.label, .sl (u.head.map Wd.cs) u.t1.tk, .sl (u.words.map Wd.cs) u.t2.tk, .sl (u.kids.map Un.cs) u.t3.tk], .sl (l.map Ac.cs) t.tk, .int .i64 m] H T Q := by
  obtain ⟨_, ⟨b, rfl⟩, hr⟩ := few38 _ _ _ _ hu hl ha
  simp only [Un.cs_eq, It.cs_eq, Ac.cs] at hr
  exact runT_ret hr (hq b)

end Go.Am

set_option maxHeartbeats 4000000
set_option maxRecDepth 100000
namespace Go.Am
open Go

theorem min_many (u : Un) (xs : List (List Av)) (tk : Tk) (hn : 5 < xs.length) :
    ∃ v, (v = .tup [.sl [] .nil, .int .i64 6]) ∧ Ret Fk n_orderset_Minimum [.agg u.cs, .sl xs tk] v := by
  refine ret_of_wpP (show Fk n_orderset_Minimum = some (.fn true 77 c_orderset_Minimum r_orderset_Minimum) from rfl) (args' := [.agg u.cs, .sl xs tk.pu]) (by simp only [stripA, strip_U, strip_sk]) (Nat.le_of_ble_eq_true rfl) fun Z hZ => ?_
  unfold c_orderset_Minimum
  refine wp_norm fun J hJ => ?_
  try simp only [go_sem, ↓reduceIte, reduceCtorEq, Nat.reduceEqDiff, Nat.reduceLT, Nat.reduceAdd, Nat.reduceMul, Nat.reduceLeDiff, Nat.reduceSub]
  refine hJ _ ?_
  clear hJ J
  refine wp_seq_k' fun K1 hK1 => ?_
  refine wp_reg' ?_
  iterate 3 (refine @vc_step Fk _ _ _ _ fun J hJ => ?_; simp only [go_sem, ↓reduceIte, reduceCtorEq, Nat.reduceEqDiff, Nat.reduceLT, Nat.reduceAdd, Nat.reduceMul, Nat.reduceLeDiff, Nat.reduceSub]; refine hJ _ ?_; clear hJ J)
  refine vc_nil ?_
  try simp only [go_sem, ↓reduceIte, reduceCtorEq, Nat.reduceEqDiff, Nat.reduceLT, Nat.reduceAdd, Nat.reduceMul, Nat.reduceLeDiff, Nat.reduceSub]
  try simp only [go_sem, ↓reduceIte, reduceCtorEq, Nat.reduceEqDiff, Nat.reduceLT, Nat.reduceAdd, Nat.reduceMul, Nat.reduceLeDiff, Nat.reduceSub]
  refine hK1 _ ?_
  refine wp_seq_k' fun K2 hK2 => ?_
  refine wp_seq_k' fun K3 hK3 => ?_
  refine wp_reg' ?_
  iterate 3 (refine @vc_step Fk _ _ _ _ fun J hJ => ?_; simp only [go_sem, ↓reduceIte, reduceCtorEq, Nat.reduceEqDiff, Nat.reduceLT, Nat.reduceAdd, Nat.reduceMul, Nat.reduceLeDiff, Nat.reduceSub]; refine hJ _ ?_; clear hJ J)
  refine vc_nil ?_
  try simp only [go_sem, ↓reduceIte, reduceCtorEq, Nat.reduceEqDiff, Nat.reduceLT, Nat.reduceAdd, Nat.reduceMul, Nat.reduceLeDiff, Nat.reduceSub]
  try simp only [go_sem, ↓reduceIte, reduceCtorEq, Nat.reduceEqDiff, Nat.reduceLT, Nat.reduceAdd, Nat.reduceMul, Nat.reduceLeDiff, Nat.reduceSub]
  refine hK3 _ ?_
  refine wp_cond' rfl (fun hc1 => ?_) (fun hc1 => ?_)
  · skip
    try simp only [decide_eq_true_eq, decide_eq_false_iff_not, Bool.not_eq_true', Bool.not_eq_false', beq_iff_eq, bne_iff_ne, beq_eq_false_iff_ne, Int.ofNat_lt, Int.not_lt, Bool.and_eq_true, ne_eq, bne_eq_false_iff_eq] at hc1
    refine wp_seq_k' fun K4 hK4 => ?_
    refine wp_reg' ?_
    iterate 2 (refine @vc_step Fk _ _ _ _ fun J hJ => ?_; simp only [go_sem, ↓reduceIte, reduceCtorEq, Nat.reduceEqDiff, Nat.reduceLT, Nat.reduceAdd, Nat.reduceMul, Nat.reduceLeDiff, Nat.reduceSub]; refine hJ _ ?_; clear hJ J)
    refine vc_nil ?_
    try simp only [go_sem, ↓reduceIte, reduceCtorEq, Nat.reduceEqDiff, Nat.reduceLT, Nat.reduceAdd, Nat.reduceMul, Nat.reduceLeDiff, Nat.reduceSub]
    try simp only [go_sem, ↓reduceIte, reduceCtorEq, Nat.reduceEqDiff, Nat.reduceLT, Nat.reduceAdd, Nat.reduceMul, Nat.reduceLeDiff, Nat.reduceSub]
    refine hK4 _ ?_
    refine wp_ret' ?_
    try simp only [go_sem, ↓reduceIte, reduceCtorEq, Nat.reduceEqDiff, Nat.reduceLT, Nat.reduceAdd, Nat.reduceMul, Nat.reduceLeDiff, Nat.reduceSub]
    exact hZ _ _ _ _ (by simp) rfl rfl rfl
  · skip
    try simp only [decide_eq_true_eq, decide_eq_false_iff_not, Bool.not_eq_true', Bool.not_eq_false', beq_iff_eq, bne_iff_ne, beq_eq_false_iff_ne, Int.ofNat_lt, Int.not_lt, Bool.and_eq_true, ne_eq, bne_eq_false_iff_eq] at hc1
    exfalso
    omega
theorem min_many_call {u : Un} {xs : List (List Av)} {tk : Tk} (hn : 5 < xs.length) {H : List AO} {T : List Nat} {Q : Av → List AO → List Nat → Prop} (hq : Q (.tup [.sl [] .nil, .int .i64 6]) H T) : RunT Fk (.fn n_orderset_Minimum) [.agg [.int .i64 u.a, .int .i64 u.b, .int .i64 u.c, .int .i64 u.kind, .str u.label, .sl (u.head.map Wd.cs) u.t1.tk, .sl (u.words.map Wd.cs) u.t2.tk, .sl (u.kids.map Un.cs) u.t3.tk], .sl xs tk] H T Q := by
  obtain ⟨_, rfl, hr⟩ := min_many _ _ _ hn
  simp only [Un.cs_eq, It.cs_eq, Ac.cs] at hr
  exact runT_ret hr (hq )

theorem cnt_many (u : Un) (xs : List (List Av)) (tk : Tk) (hn : 5 < xs.length) :
    ∃ v, (v = .int .i64 0) ∧ Ret Fk n_orderset_CountOutcomes [.agg u.cs, .sl xs tk] v := by
  refine ret_of_wpP (show Fk n_orderset_CountOutcomes = some (.fn true 36 c_orderset_CountOutcomes r_orderset_CountOutcomes) from rfl) (args' := [.agg u.cs, .sl xs tk.pu]) (by simp only [stripA, strip_U, strip_sk]) (Nat.le_of_ble_eq_true rfl) fun Z hZ => ?_
  unfold c_orderset_CountOutcomes
  refine wp_norm fun J hJ => ?_
  try simp only [go_sem, ↓reduceIte, reduceCtorEq, Nat.reduceEqDiff, Nat.reduceLT, Nat.reduceAdd, Nat.reduceMul, Nat.reduceLeDiff, Nat.reduceSub]
  refine hJ _ ?_
  clear hJ J
  refine wp_seq_k' fun K1 hK1 => ?_
  refine wp_reg' ?_
  iterate 2 (refine @vc_step Fk _ _ _ _ fun J hJ => ?_; simp only [go_sem, ↓reduceIte, reduceCtorEq, Nat.reduceEqDiff, Nat.reduceLT, Nat.reduceAdd, Nat.reduceMul, Nat.reduceLeDiff, Nat.reduceSub]; refine hJ _ ?_; clear hJ J)
  refine vc_nil ?_
  try simp only [go_sem, ↓reduceIte, reduceCtorEq, Nat.reduceEqDiff, Nat.reduceLT, Nat.reduceAdd, Nat.reduceMul, Nat.reduceLeDiff, Nat.reduceSub]
  try simp only [go_sem, ↓reduceIte, reduceCtorEq, Nat.reduceEqDiff, Nat.reduceLT, Nat.reduceAdd, Nat.reduceMul, Nat.reduceLeDiff, Nat.reduceSub]
  refine hK1 _ ?_
  refine wp_seq_k' fun K2 hK2 => ?_
  refine wp_seq_k' fun K3 hK3 => ?_
  refine wp_reg' ?_
  iterate 3 (refine @vc_step Fk _ _ _ _ fun J hJ => ?_; simp only [go_sem, ↓reduceIte, reduceCtorEq, Nat.reduceEqDiff, Nat.reduceLT, Nat.reduceAdd, Nat.reduceMul, Nat.reduceLeDiff, Nat.reduceSub]; refine hJ _ ?_; clear hJ J)
  refine vc_nil ?_
  try simp only [go_sem, ↓reduceIte, reduceCtorEq, Nat.reduceEqDiff, Nat.reduceLT, Nat.reduceAdd, Nat.reduceMul, Nat.reduceLeDiff, Nat.reduceSub]
  try simp only [go_sem, ↓reduceIte, reduceCtorEq, Nat.reduceEqDiff, Nat.reduceLT, Nat.reduceAdd, Nat.reduceMul, Nat.reduceLeDiff, Nat.reduceSub]
  refine hK3 _ ?_
  refine wp_cond' rfl (fun hc1 => ?_) (fun hc1 => ?_)
  · skip
    try simp only [decide_eq_true_eq, decide_eq_false_iff_not, Bool.not_eq_true', Bool.not_eq_false', beq_iff_eq, bne_iff_ne, beq_eq_false_iff_ne, Int.ofNat_lt, Int.not_lt, Bool.and_eq_true, ne_eq, bne_eq_false_iff_eq] at hc1
    refine wp_seq_k' fun K4 hK4 => ?_
    refine wp_reg' ?_
    refine @vc_step Fk _ _ _ _ fun J hJ => ?_
    simp only [go_sem, ↓reduceIte, reduceCtorEq, Nat.reduceEqDiff, Nat.reduceLT, Nat.reduceAdd, Nat.reduceMul, Nat.reduceLeDiff, Nat.reduceSub]
    refine hJ _ ?_
    clear hJ J
    refine vc_nil ?_
    try simp only [go_sem, ↓reduceIte, reduceCtorEq, Nat.reduceEqDiff, Nat.reduceLT, Nat.reduceAdd, Nat.reduceMul, Nat.reduceLeDiff, Nat.reduceSub]
    try simp only [go_sem, ↓reduceIte, reduceCtorEq, Nat.reduceEqDiff, Nat.reduceLT, Nat.reduceAdd, Nat.reduceMul, Nat.reduceLeDiff, Nat.reduceSub]
    refine hK4 _ ?_
    refine wp_ret' ?_
    try simp only [go_sem, ↓reduceIte, reduceCtorEq, Nat.reduceEqDiff, Nat.reduceLT, Nat.reduceAdd, Nat.reduceMul, Nat.reduceLeDiff, Nat.reduceSub]
    exact hZ _ _ _ _ (by simp) rfl rfl rfl
  · skip
    try simp only [decide_eq_true_eq, decide_eq_false_iff_not, Bool.not_eq_true', Bool.not_eq_false', beq_iff_eq, bne_iff_ne, beq_eq_false_iff_ne, Int.ofNat_lt, Int.not_lt, Bool.and_eq_true, ne_eq, bne_eq_false_iff_eq] at hc1
    exfalso
    omega
theorem cnt_many_call {u : Un} {xs : List (List Av)} {tk : Tk} (hn : 5 < xs.length) {H : List AO} {T : List Nat} {Q : Av → List AO → List Nat → Prop} (hq : Q (.int .i64 0) H T) : RunT Fk (.fn n_orderset_CountOutcomes) [.agg [.int .i64 u.a, .int .i64 u.b, .int .i64 u.c, .int .i64 u.kind, .str u.label, .sl (u.head.map Wd.cs) u.t1.tk, .sl (u.words.map Wd.cs) u.t2.tk, .sl (u.kids.map Un.cs) u.t3.tk], .sl xs tk] H T Q := by
  obtain ⟨_, rfl, hr⟩ := cnt_many _ _ _ hn
  simp only [Un.cs_eq, It.cs_eq, Ac.cs] at hr
  exact runT_ret hr (hq )

theorem suf_many (u : Un) (ys : List (List Av)) (tk2 : Tk) (xs : List (List Av)) (tk : Tk) (hn : 5 < xs.length) :
    ∃ v, (v = .bool false) ∧ Ret Fk n_orderset_Sufficient [.agg u.cs, .sl ys tk2, .sl xs tk] v := by
  refine ret_of_wpP (show Fk n_orderset_Sufficient = some (.fn true 23 c_orderset_Sufficient r_orderset_Sufficient) from rfl) (args' := [.agg u.cs, .sl ys tk2.pu, .sl xs tk.pu]) (by simp only [stripA, strip_U, strip_sk]) (Nat.le_of_ble_eq_true rfl) fun Z hZ => ?_
  unfold c_orderset_Sufficient
  refine wp_norm fun J hJ => ?_
  try simp only [go_sem, ↓reduceIte, reduceCtorEq, Nat.reduceEqDiff, Nat.reduceLT, Nat.reduceAdd, Nat.reduceMul, Nat.reduceLeDiff, Nat.reduceSub]
  refine hJ _ ?_
  clear hJ J
  refine wp_seq_k' fun K1 hK1 => ?_
  refine wp_reg' ?_
  iterate 2 (refine @vc_step Fk _ _ _ _ fun J hJ => ?_; simp only [go_sem, ↓reduceIte, reduceCtorEq, Nat.reduceEqDiff, Nat.reduceLT, Nat.reduceAdd, Nat.reduceMul, Nat.reduceLeDiff, Nat.reduceSub]; refine hJ _ ?_; clear hJ J)
  refine vc_nil ?_
  try simp only [go_sem, ↓reduceIte, reduceCtorEq, Nat.reduceEqDiff, Nat.reduceLT, Nat.reduceAdd, Nat.reduceMul, Nat.reduceLeDiff, Nat.reduceSub]
  try simp only [go_sem, ↓reduceIte, reduceCtorEq, Nat.reduceEqDiff, Nat.reduceLT, Nat.reduceAdd, Nat.reduceMul, Nat.reduceLeDiff, Nat.reduceSub]
  refine hK1 _ ?_
  refine wp_seq_k' fun K2 hK2 => ?_
  refine wp_seq_k' fun K3 hK3 => ?_
  refine wp_reg' ?_
  iterate 3 (refine @vc_step Fk _ _ _ _ fun J hJ => ?_; simp only [go_sem, ↓reduceIte, reduceCtorEq, Nat.reduceEqDiff, Nat.reduceLT, Nat.reduceAdd, Nat.reduceMul, Nat.reduceLeDiff, Nat.reduceSub]; refine hJ _ ?_; clear hJ J)
  refine vc_nil ?_
  try simp only [go_sem, ↓reduceIte, reduceCtorEq, Nat.reduceEqDiff, Nat.reduceLT, Nat.reduceAdd, Nat.reduceMul, Nat.reduceLeDiff, Nat.reduceSub]
  try simp only [go_sem, ↓reduceIte, reduceCtorEq, Nat.reduceEqDiff, Nat.reduceLT, Nat.reduceAdd, Nat.reduceMul, Nat.reduceLeDiff, Nat.reduceSub]
  refine hK3 _ ?_
  refine wp_cond' rfl (fun hc1 => ?_) (fun hc1 => ?_)
  · skip
    try simp only [decide_eq_true_eq, decide_eq_false_iff_not, Bool.not_eq_true', Bool.not_eq_false', beq_iff_eq, bne_iff_ne, beq_eq_false_iff_ne, Int.ofNat_lt, Int.not_lt, Bool.and_eq_true, ne_eq, bne_eq_false_iff_eq] at hc1
    refine wp_seq_k' fun K4 hK4 => ?_
    refine wp_reg' ?_
    refine @vc_step Fk _ _ _ _ fun J hJ => ?_
    simp only [go_sem, ↓reduceIte, reduceCtorEq, Nat.reduceEqDiff, Nat.reduceLT, Nat.reduceAdd, Nat.reduceMul, Nat.reduceLeDiff, Nat.reduceSub]
    refine hJ _ ?_
    clear hJ J
    refine vc_nil ?_
    try simp only [go_sem, ↓reduceIte, reduceCtorEq, Nat.reduceEqDiff, Nat.reduceLT, Nat.reduceAdd, Nat.reduceMul, Nat.reduceLeDiff, Nat.reduceSub]
    try simp only [go_sem, ↓reduceIte, reduceCtorEq, Nat.reduceEqDiff, Nat.reduceLT, Nat.reduceAdd, Nat.reduceMul, Nat.reduceLeDiff, Nat.reduceSub]
    refine hK4 _ ?_
    refine wp_ret' ?_
    try simp only [go_sem, ↓reduceIte, reduceCtorEq, Nat.reduceEqDiff, Nat.reduceLT, Nat.reduceAdd, Nat.reduceMul, Nat.reduceLeDiff, Nat.reduceSub]
    exact hZ _ _ _ _ (by simp) rfl rfl rfl
  · skip
    try simp only [decide_eq_true_eq, decide_eq_false_iff_not, Bool.not_eq_true', Bool.not_eq_false', beq_iff_eq, bne_iff_ne, beq_eq_false_iff_ne, Int.ofNat_lt, Int.not_lt, Bool.and_eq_true, ne_eq, bne_eq_false_iff_eq] at hc1
    exfalso
    omega
theorem suf_many_call {u : Un} {ys : List (List Av)} {tk2 : Tk} {xs : List (List Av)} {tk : Tk} (hn : 5 < xs.length) {H : List AO} {T : List Nat} {Q : Av → List AO → List Nat → Prop} (hq : Q (.bool false) H T) : RunT Fk (.fn n_orderset_Sufficient) [.agg [.int .i64 u.a, .int .i64 u.b, .int .i64 u.c, .int .i64 u.kind, .str u.label, .sl (u.head.map Wd.cs) u.t1.tk, .sl (u.words.map Wd.cs) u.t2.tk, .sl (u.kids.map Un.cs) u.t3.tk], .sl ys tk2, .sl xs tk] H T Q := by
  obtain ⟨_, rfl, hr⟩ := suf_many _ _ _ _ _ hn
  simp only [Un.cs_eq, It.cs_eq, Ac.cs] at hr
  exact runT_ret hr (hq )

theorem given38 (n : Nat) (h1 : 0 < n) (h2 : n ≤ 1000) :
    ∃ v, (v = .sl (givenA n) .any) ∧ Ret Fk n_pandectref38_Given [.int .i64 n] v := by
  refine ret_of_wpP (show Fk n_pandectref38_Given = some (.fn true 16 c_pandectref38_Given r_pandectref38_Given) from rfl) (args' := [.int .i64 n]) (by simp only [stripA, strip_int, strip_bool, strip_str, strip_sl, strip_U, strip_I, strip_A]) (Nat.le_of_ble_eq_true rfl) fun Z hZ => ?_
  unfold c_pandectref38_Given
  refine wp_norm fun J hJ => ?_
  try simp only [go_sem, ↓reduceIte, reduceCtorEq, Nat.reduceEqDiff, Nat.reduceLT, Nat.reduceAdd, Nat.reduceMul, Nat.reduceLeDiff, Nat.reduceSub, wide_G, givenA_len]
  refine hJ _ ?_
  clear hJ J
  refine wp_seq_k' fun K1 hK1 => ?_
  refine wp_reg' ?_
  refine @vc_step Fk _ _ _ _ fun J hJ => ?_
  simp only [go_sem, ↓reduceIte, reduceCtorEq, Nat.reduceEqDiff, Nat.reduceLT, Nat.reduceAdd, Nat.reduceMul, Nat.reduceLeDiff, Nat.reduceSub, wide_G, givenA_len]
  refine hJ _ ?_
  clear hJ J
  refine vc_nil ?_
  try simp only [go_sem, ↓reduceIte, reduceCtorEq, Nat.reduceEqDiff, Nat.reduceLT, Nat.reduceAdd, Nat.reduceMul, Nat.reduceLeDiff, Nat.reduceSub, wide_G, givenA_len]
  try simp only [go_sem, ↓reduceIte, reduceCtorEq, Nat.reduceEqDiff, Nat.reduceLT, Nat.reduceAdd, Nat.reduceMul, Nat.reduceLeDiff, Nat.reduceSub, wide_G, givenA_len]
  refine hK1 _ ?_
  refine wp_seq_k' fun K2 hK2 => ?_
  refine wp_reg' ?_
  iterate 2 (refine @vc_step Fk _ _ _ _ fun J hJ => ?_; simp only [go_sem, ↓reduceIte, reduceCtorEq, Nat.reduceEqDiff, Nat.reduceLT, Nat.reduceAdd, Nat.reduceMul, Nat.reduceLeDiff, Nat.reduceSub, wide_G, givenA_len]; refine hJ _ ?_; clear hJ J)
  refine vc_nil ?_
  try simp only [go_sem, ↓reduceIte, reduceCtorEq, Nat.reduceEqDiff, Nat.reduceLT, Nat.reduceAdd, Nat.reduceMul, Nat.reduceLeDiff, Nat.reduceSub, wide_G, givenA_len]
  try simp only [go_sem, ↓reduceIte, reduceCtorEq, Nat.reduceEqDiff, Nat.reduceLT, Nat.reduceAdd, Nat.reduceMul, Nat.reduceLeDiff, Nat.reduceSub, wide_G, givenA_len]
  refine hK2 _ ?_
  refine wp_seq_k' fun K3 hK3 => ?_
  refine wp_seq_k' fun K4 hK4 => ?_
  refine wp_reg' ?_
  refine @vc_step Fk _ _ _ _ fun J hJ => ?_
  simp only [go_sem, ↓reduceIte, reduceCtorEq, Nat.reduceEqDiff, Nat.reduceLT, Nat.reduceAdd, Nat.reduceMul, Nat.reduceLeDiff, Nat.reduceSub, wide_G, givenA_len]
  refine hJ _ ?_
  clear hJ J
  refine vc_nil ?_
  try simp only [go_sem, ↓reduceIte, reduceCtorEq, Nat.reduceEqDiff, Nat.reduceLT, Nat.reduceAdd, Nat.reduceMul, Nat.reduceLeDiff, Nat.reduceSub, wide_G, givenA_len]
  try simp only [go_sem, ↓reduceIte, reduceCtorEq, Nat.reduceEqDiff, Nat.reduceLT, Nat.reduceAdd, Nat.reduceMul, Nat.reduceLeDiff, Nat.reduceSub, wide_G, givenA_len]
  refine hK4 _ ?_
  refine wp_block' ?_
  refine wp_forU (ι := Tk × List Nat) (n) (fun i1 x1 => [(3, .sl (givenA i1) x1.1), (4, .int .i64 (i1 : Nat))]) (fun i1 x1 => _) (fun i1 x1 => x1.2) (fun i1 x1 => AppOk x1.2 x1.1 i1 ∧ (0 < i1 → x1.1.pu = .any)) (.full, []) (by rfl) rfl rfl (by exact ⟨.full _ _, fun h => absurd h (by decide)⟩) fun i1 x1 hi1 hv1 K5 hK5 => ?_
  refine wp_norm fun J hJ => ?_
  try simp only [go_sem, ↓reduceIte, reduceCtorEq, Nat.reduceEqDiff, Nat.reduceLT, Nat.reduceAdd, Nat.reduceMul, Nat.reduceLeDiff, Nat.reduceSub, wide_G, givenA_len]
  refine hJ _ ?_
  clear hJ J
  refine wp_seq_k' fun K6 hK6 => ?_
  refine wp_seq_k' fun K7 hK7 => ?_
  refine wp_reg' ?_
  iterate 3 (refine @vc_step Fk _ _ _ _ fun J hJ => ?_; simp only [go_sem, ↓reduceIte, reduceCtorEq, Nat.reduceEqDiff, Nat.reduceLT, Nat.reduceAdd, Nat.reduceMul, Nat.reduceLeDiff, Nat.reduceSub, wide_G, givenA_len]; refine hJ _ ?_; clear hJ J)
  refine vc_nil ?_
  try simp only [go_sem, ↓reduceIte, reduceCtorEq, Nat.reduceEqDiff, Nat.reduceLT, Nat.reduceAdd, Nat.reduceMul, Nat.reduceLeDiff, Nat.reduceSub, wide_G, givenA_len]
  try simp only [go_sem, ↓reduceIte, reduceCtorEq, Nat.reduceEqDiff, Nat.reduceLT, Nat.reduceAdd, Nat.reduceMul, Nat.reduceLeDiff, Nat.reduceSub, wide_G, givenA_len]
  refine hK7 _ ?_
  refine wp_cond' rfl (fun hc1 => ?_) (fun hc1 => ?_)
  · skip
    try simp only [decide_eq_true_eq, decide_eq_false_iff_not, Bool.not_eq_true', Bool.not_eq_false', beq_iff_eq, bne_iff_ne, beq_eq_false_iff_ne, Int.ofNat_lt, Int.not_lt, Bool.and_eq_true, ne_eq, bne_eq_false_iff_eq] at hc1
    refine wp_skip' ?_
    try simp only [go_sem, ↓reduceIte, reduceCtorEq, Nat.reduceEqDiff, Nat.reduceLT, Nat.reduceAdd, Nat.reduceMul, Nat.reduceLeDiff, Nat.reduceSub, wide_G, givenA_len, hc1]
    try simp only [go_sem, ↓reduceIte, reduceCtorEq, Nat.reduceEqDiff, Nat.reduceLT, Nat.reduceAdd, Nat.reduceMul, Nat.reduceLeDiff, Nat.reduceSub, wide_G, givenA_len, hc1]
    refine hK6 _ ?_
    refine wp_seq_k' fun K8 hK8 => ?_
    refine wp_block' ?_
    refine wp_reg' ?_
    iterate 3 (refine @vc_step Fk _ _ _ _ fun J hJ => ?_; simp only [go_sem, ↓reduceIte, reduceCtorEq, Nat.reduceEqDiff, Nat.reduceLT, Nat.reduceAdd, Nat.reduceMul, Nat.reduceLeDiff, Nat.reduceSub, wide_G, givenA_len, hc1]; refine hJ _ ?_; clear hJ J)
    refine @vc_step Fk _ _ _ _ fun J hJ => ?_
    simp only [go_sem, ↓reduceIte, reduceCtorEq, Nat.reduceEqDiff, Nat.reduceLT, Nat.reduceAdd, Nat.reduceMul, Nat.reduceLeDiff, Nat.reduceSub, wide_G, givenA_len, hc1]
    obtain ⟨tk2, T2, g1, g2, -⟩ := appTok_ok (k := 1) hv1.1 (by decide)
    refine ⟨?_, tk2, T2, g1, ?_⟩
    · simp [room]; omega
    refine hJ _ ?_
    clear hJ J
    refine @vc_step Fk _ _ _ _ fun J hJ => ?_
    simp only [go_sem, ↓reduceIte, reduceCtorEq, Nat.reduceEqDiff, Nat.reduceLT, Nat.reduceAdd, Nat.reduceMul, Nat.reduceLeDiff, Nat.reduceSub, wide_G, givenA_len, hc1]
    refine hJ _ ?_
    clear hJ J
    refine vc_nil ?_
    try simp only [go_sem, ↓reduceIte, reduceCtorEq, Nat.reduceEqDiff, Nat.reduceLT, Nat.reduceAdd, Nat.reduceMul, Nat.reduceLeDiff, Nat.reduceSub, wide_G, givenA_len, hc1]
    try simp only [go_sem, ↓reduceIte, reduceCtorEq, Nat.reduceEqDiff, Nat.reduceLT, Nat.reduceAdd, Nat.reduceMul, Nat.reduceLeDiff, Nat.reduceSub, wide_G, givenA_len, hc1]
    refine hK8 _ ?_
    refine wp_reg' ?_
    iterate 3 (refine @vc_step Fk _ _ _ _ fun J hJ => ?_; simp only [go_sem, ↓reduceIte, reduceCtorEq, Nat.reduceEqDiff, Nat.reduceLT, Nat.reduceAdd, Nat.reduceMul, Nat.reduceLeDiff, Nat.reduceSub, wide_G, givenA_len, hc1]; refine hJ _ ?_; clear hJ J)
    refine vc_nil ?_
    try simp only [go_sem, ↓reduceIte, reduceCtorEq, Nat.reduceEqDiff, Nat.reduceLT, Nat.reduceAdd, Nat.reduceMul, Nat.reduceLeDiff, Nat.reduceSub, wide_G, givenA_len, hc1]
    refine hK5 _ _ _ ⟨hc1, (tk2, T2), ⟨g2, fun _ => appTok_any (by decide) g1⟩, ?_, rfl, rfl⟩
    rw [wrap64 (n := ((i1 : Nat) : Int) + 1) (by omega) (by omega), givenA_succ]
    rfl
  · skip
    try simp only [decide_eq_true_eq, decide_eq_false_iff_not, Bool.not_eq_true', Bool.not_eq_false', beq_iff_eq, bne_iff_ne, beq_eq_false_iff_ne, Int.ofNat_lt, Int.not_lt, Bool.and_eq_true, ne_eq, bne_eq_false_iff_eq] at hc1
    have hn : i1 = n := by omega
    subst hn
    refine wp_exit' ?_
    try simp only [go_sem, ↓reduceIte, reduceCtorEq, Nat.reduceEqDiff, Nat.reduceLT, Nat.reduceAdd, Nat.reduceMul, Nat.reduceLeDiff, Nat.reduceSub, wide_G, givenA_len]
    try simp only [go_sem, ↓reduceIte, reduceCtorEq, Nat.reduceEqDiff, Nat.reduceLT, Nat.reduceAdd, Nat.reduceMul, Nat.reduceLeDiff, Nat.reduceSub, wide_G, givenA_len]
    refine hK3 _ ?_
    refine wp_seq_k' fun K9 hK9 => ?_
    refine wp_reg' ?_
    iterate 2 (refine @vc_step Fk _ _ _ _ fun J hJ => ?_; simp only [go_sem, ↓reduceIte, reduceCtorEq, Nat.reduceEqDiff, Nat.reduceLT, Nat.reduceAdd, Nat.reduceMul, Nat.reduceLeDiff, Nat.reduceSub, wide_G, givenA_len]; refine hJ _ ?_; clear hJ J)
    refine vc_nil ?_
    try simp only [go_sem, ↓reduceIte, reduceCtorEq, Nat.reduceEqDiff, Nat.reduceLT, Nat.reduceAdd, Nat.reduceMul, Nat.reduceLeDiff, Nat.reduceSub, wide_G, givenA_len]
    try simp only [go_sem, ↓reduceIte, reduceCtorEq, Nat.reduceEqDiff, Nat.reduceLT, Nat.reduceAdd, Nat.reduceMul, Nat.reduceLeDiff, Nat.reduceSub, wide_G, givenA_len]
    refine hK9 _ ?_
    refine wp_ret' ?_
    try simp only [go_sem, ↓reduceIte, reduceCtorEq, Nat.reduceEqDiff, Nat.reduceLT, Nat.reduceAdd, Nat.reduceMul, Nat.reduceLeDiff, Nat.reduceSub, wide_G, givenA_len]
    exact hZ _ _ _ (.sl _ x1.1.pu) (by simp) rfl rfl (by rw [hv1.2 h1])
theorem given38_call {n : Nat} (h1 : 0 < n) (h2 : n ≤ 1000) {H : List AO} {T : List Nat} {Q : Av → List AO → List Nat → Prop} (hq : Q (.sl (givenA n) .any) H T) : RunT Fk (.fn n_pandectref38_Given) [.int .i64 n] H T Q := by
  obtain ⟨_, rfl, hr⟩ := given38 _ h1 h2
  exact runT_ret hr (hq )

end Go.Am
