/- Part of the proof. -/
import Derived.Test.YtfhilbdpejljdaaGreatDoorF2
set_option linter.all false
set_option maxHeartbeats 4000000
set_option maxRecDepth 100000
namespace Go.Am
open Go

theorem alone (u : Un) (hu : u.Ok) :
    ∃ v, (∃ (b : Bool), v = .bool b) ∧ Ret Fk n_pandectref06_alone [.agg u.cs] v := by
  refine ret_of_wpP (show Fk n_pandectref06_alone = some (.fn true 50 c_pandectref06_alone r_pandectref06_alone) from rfl) (args' := [.agg u.cs]) (by simp only [stripA, strip_int, strip_bool, strip_str, strip_sl, strip_U, strip_I, strip_A]) (Nat.le_of_ble_eq_true rfl) fun Z hZ => ?_
  unfold c_pandectref06_alone
  refine wp_norm fun J hJ => ?_
  try simp only [go_sem, ↓reduceIte, reduceCtorEq, Nat.reduceEqDiff, Nat.reduceLT, Nat.reduceAdd, Nat.reduceMul, Nat.reduceLeDiff, Nat.reduceSub, eqVals, eqK, eq1]
  refine hJ _ ?_
  clear hJ J
  obtain ⟨hl1, hl2, hl3, hl4⟩ := hu.len
  obtain ⟨hw1, hw2⟩ := hu.words
  unfold maxL at hl1 hl2 hl3 hl4
  refine wp_seq_k' fun K1 hK1 => ?_
  refine wp_reg' ?_
  iterate 2 (refine @vc_step Fk _ _ _ _ fun J hJ => ?_; simp only [go_sem, ↓reduceIte, reduceCtorEq, Nat.reduceEqDiff, Nat.reduceLT, Nat.reduceAdd, Nat.reduceMul, Nat.reduceLeDiff, Nat.reduceSub, eqVals, eqK, eq1]; refine hJ _ ?_; clear hJ J)
  refine vc_nil ?_
  try simp only [go_sem, ↓reduceIte, reduceCtorEq, Nat.reduceEqDiff, Nat.reduceLT, Nat.reduceAdd, Nat.reduceMul, Nat.reduceLeDiff, Nat.reduceSub, eqVals, eqK, eq1]
  try simp only [go_sem, ↓reduceIte, reduceCtorEq, Nat.reduceEqDiff, Nat.reduceLT, Nat.reduceAdd, Nat.reduceMul, Nat.reduceLeDiff, Nat.reduceSub, eqVals, eqK, eq1]
  refine hK1 _ ?_
  refine wp_seq_k' fun K2 hK2 => ?_
  refine wp_seq_k' fun K3 hK3 => ?_
  refine wp_reg' ?_
  refine vc_merge (K := K3) (ks := [1, 28]) (d := 28) (fun b28 => True) (fun b28 hb28 => ?_) fun M3 hM3 => ?_
  · skip
    try simp only [go_sem, ↓reduceIte, reduceCtorEq, Nat.reduceEqDiff, Nat.reduceLT, Nat.reduceAdd, Nat.reduceMul, Nat.reduceLeDiff, Nat.reduceSub, eqVals, eqK, eq1]
    refine hK3 _ ?_
    refine wp_cond' rfl (fun hc1 => ?_) (fun hc1 => ?_)
    · skip
      try simp only [decide_eq_true_eq, decide_eq_false_iff_not, Bool.not_eq_true', Bool.not_eq_false', beq_iff_eq, bne_iff_ne, beq_eq_false_iff_ne, Int.ofNat_lt, Int.not_lt, Bool.and_eq_true, ne_eq, bne_eq_false_iff_eq] at hc1
      refine wp_seq_k' fun K4 hK4 => ?_
      refine wp_reg' ?_
      refine @vc_step Fk _ _ _ _ fun J hJ => ?_
      simp only [go_sem, ↓reduceIte, reduceCtorEq, Nat.reduceEqDiff, Nat.reduceLT, Nat.reduceAdd, Nat.reduceMul, Nat.reduceLeDiff, Nat.reduceSub, eqVals, eqK, eq1]
      refine hJ _ ?_
      clear hJ J
      refine vc_nil ?_
      try simp only [go_sem, ↓reduceIte, reduceCtorEq, Nat.reduceEqDiff, Nat.reduceLT, Nat.reduceAdd, Nat.reduceMul, Nat.reduceLeDiff, Nat.reduceSub, eqVals, eqK, eq1]
      try simp only [go_sem, ↓reduceIte, reduceCtorEq, Nat.reduceEqDiff, Nat.reduceLT, Nat.reduceAdd, Nat.reduceMul, Nat.reduceLeDiff, Nat.reduceSub, eqVals, eqK, eq1]
      refine hK4 _ ?_
      refine wp_ret' ?_
      try simp only [go_sem, ↓reduceIte, reduceCtorEq, Nat.reduceEqDiff, Nat.reduceLT, Nat.reduceAdd, Nat.reduceMul, Nat.reduceLeDiff, Nat.reduceSub, eqVals, eqK, eq1]
      exact hZ _ _ _ _ (by simp) rfl rfl ⟨_, rfl⟩
    · skip
      try simp only [decide_eq_true_eq, decide_eq_false_iff_not, Bool.not_eq_true', Bool.not_eq_false', beq_iff_eq, bne_iff_ne, beq_eq_false_iff_ne, Int.ofNat_lt, Int.not_lt, Bool.and_eq_true, ne_eq, bne_eq_false_iff_eq] at hc1
      refine wp_skip' ?_
      try simp only [go_sem, ↓reduceIte, reduceCtorEq, Nat.reduceEqDiff, Nat.reduceLT, Nat.reduceAdd, Nat.reduceMul, Nat.reduceLeDiff, Nat.reduceSub, eqVals, eqK, eq1]
      try simp only [go_sem, ↓reduceIte, reduceCtorEq, Nat.reduceEqDiff, Nat.reduceLT, Nat.reduceAdd, Nat.reduceMul, Nat.reduceLeDiff, Nat.reduceSub, eqVals, eqK, eq1]
      refine hK2 _ ?_
      refine wp_seq_k' fun K5 hK5 => ?_
      refine wp_seq_k' fun K6 hK6 => ?_
      refine wp_reg' ?_
      iterate 3 (refine @vc_step Fk _ _ _ _ fun J hJ => ?_; simp only [go_sem, ↓reduceIte, reduceCtorEq, Nat.reduceEqDiff, Nat.reduceLT, Nat.reduceAdd, Nat.reduceMul, Nat.reduceLeDiff, Nat.reduceSub, eqVals, eqK, eq1]; refine hJ _ ?_; clear hJ J)
      refine vc_nil ?_
      try simp only [go_sem, ↓reduceIte, reduceCtorEq, Nat.reduceEqDiff, Nat.reduceLT, Nat.reduceAdd, Nat.reduceMul, Nat.reduceLeDiff, Nat.reduceSub, eqVals, eqK, eq1]
      try simp only [go_sem, ↓reduceIte, reduceCtorEq, Nat.reduceEqDiff, Nat.reduceLT, Nat.reduceAdd, Nat.reduceMul, Nat.reduceLeDiff, Nat.reduceSub, eqVals, eqK, eq1]
      refine hK6 _ ?_
      refine wp_cond' rfl (fun hc2 => ?_) (fun hc2 => ?_)
      · skip
        try simp only [decide_eq_true_eq, decide_eq_false_iff_not, Bool.not_eq_true', Bool.not_eq_false', beq_iff_eq, bne_iff_ne, beq_eq_false_iff_ne, Int.ofNat_lt, Int.not_lt, Bool.and_eq_true, ne_eq, bne_eq_false_iff_eq] at hc2
        refine wp_seq_k' fun K7 hK7 => ?_
        refine wp_reg' ?_
        refine vc_merge (K := K7) (ks := [2]) (d := 2) (fun b2 => True) (fun b2 hb2 => ?_) fun M7 hM7 => ?_
        · skip
          try simp only [go_sem, ↓reduceIte, reduceCtorEq, Nat.reduceEqDiff, Nat.reduceLT, Nat.reduceAdd, Nat.reduceMul, Nat.reduceLeDiff, Nat.reduceSub, eqVals, eqK, eq1]
          refine hK7 _ ?_
          refine wp_ret' ?_
          try simp only [go_sem, ↓reduceIte, reduceCtorEq, Nat.reduceEqDiff, Nat.reduceLT, Nat.reduceAdd, Nat.reduceMul, Nat.reduceLeDiff, Nat.reduceSub, eqVals, eqK, eq1]
          exact hZ _ _ _ _ (by simp) rfl rfl ⟨_, rfl⟩
        · skip
          iterate 4 (refine @vc_step Fk _ _ _ _ fun J hJ => ?_; simp only [go_sem, ↓reduceIte, reduceCtorEq, Nat.reduceEqDiff, Nat.reduceLT, Nat.reduceAdd, Nat.reduceMul, Nat.reduceLeDiff, Nat.reduceSub, eqVals, eqK, eq1]; refine hJ _ ?_; clear hJ J)
          refine @vc_gd Fk _ _ _ _ 35 (by rfl) (fun hg1 => ?_) (fun hg1 => ?_)
          · skip
            have hg1n := hg1
            try simp only [decide_eq_true_eq, decide_eq_false_iff_not, Bool.not_eq_true', Bool.not_eq_false', beq_iff_eq, bne_iff_ne, beq_eq_false_iff_ne, Int.ofNat_lt, Int.not_lt, Bool.and_eq_true, ne_eq, bne_eq_false_iff_eq] at hg1n
            iterate 6 (refine @vc_step Fk _ _ _ _ fun J hJ => ?_; simp only [go_sem, ↓reduceIte, reduceCtorEq, Nat.reduceEqDiff, Nat.reduceLT, Nat.reduceAdd, Nat.reduceMul, Nat.reduceLeDiff, Nat.reduceSub, eqVals, eqK, eq1, hg1]; refine hJ _ ?_; clear hJ J)
            refine @vc_gd Fk _ _ _ _ 41 (by rfl) (fun hg2 => ?_) (fun hg2 => ?_)
            · skip
              have hg2n := hg2
              try simp only [decide_eq_true_eq, decide_eq_false_iff_not, Bool.not_eq_true', Bool.not_eq_false', beq_iff_eq, bne_iff_ne, beq_eq_false_iff_ne, Int.ofNat_lt, Int.not_lt, Bool.and_eq_true, ne_eq, bne_eq_false_iff_eq] at hg2n
              iterate 6 (refine @vc_step Fk _ _ _ _ fun J hJ => ?_; simp only [go_sem, ↓reduceIte, reduceCtorEq, Nat.reduceEqDiff, Nat.reduceLT, Nat.reduceAdd, Nat.reduceMul, Nat.reduceLeDiff, Nat.reduceSub, eqVals, eqK, eq1, hg1, hg2]; refine hJ _ ?_; clear hJ J)
              refine vc_nil ?_
              exact hM7 _ _ (trivial) rfl
            · skip
              have hg2n := hg2
              try simp only [decide_eq_true_eq, decide_eq_false_iff_not, Bool.not_eq_true', Bool.not_eq_false', beq_iff_eq, bne_iff_ne, beq_eq_false_iff_ne, Int.ofNat_lt, Int.not_lt, Bool.and_eq_true, ne_eq, bne_eq_false_iff_eq] at hg2n
              iterate 6 (refine @vc_step Fk _ _ _ _ fun J hJ => ?_; simp only [go_sem, ↓reduceIte, reduceCtorEq, Nat.reduceEqDiff, Nat.reduceLT, Nat.reduceAdd, Nat.reduceMul, Nat.reduceLeDiff, Nat.reduceSub, eqVals, eqK, eq1, hg1, hg2]; refine hJ _ ?_; clear hJ J)
              refine vc_nil ?_
              exact hM7 _ _ (trivial) rfl
          · skip
            have hg1n := hg1
            try simp only [decide_eq_true_eq, decide_eq_false_iff_not, Bool.not_eq_true', Bool.not_eq_false', beq_iff_eq, bne_iff_ne, beq_eq_false_iff_ne, Int.ofNat_lt, Int.not_lt, Bool.and_eq_true, ne_eq, bne_eq_false_iff_eq] at hg1n
            iterate 12 (refine @vc_step Fk _ _ _ _ fun J hJ => ?_; simp only [go_sem, ↓reduceIte, reduceCtorEq, Nat.reduceEqDiff, Nat.reduceLT, Nat.reduceAdd, Nat.reduceMul, Nat.reduceLeDiff, Nat.reduceSub, eqVals, eqK, eq1, hg1]; refine hJ _ ?_; clear hJ J)
            refine vc_nil ?_
            exact hM7 _ _ (trivial) rfl
      · skip
        try simp only [decide_eq_true_eq, decide_eq_false_iff_not, Bool.not_eq_true', Bool.not_eq_false', beq_iff_eq, bne_iff_ne, beq_eq_false_iff_ne, Int.ofNat_lt, Int.not_lt, Bool.and_eq_true, ne_eq, bne_eq_false_iff_eq] at hc2
        refine wp_skip' ?_
        try simp only [go_sem, ↓reduceIte, reduceCtorEq, Nat.reduceEqDiff, Nat.reduceLT, Nat.reduceAdd, Nat.reduceMul, Nat.reduceLeDiff, Nat.reduceSub, eqVals, eqK, eq1]
        try simp only [go_sem, ↓reduceIte, reduceCtorEq, Nat.reduceEqDiff, Nat.reduceLT, Nat.reduceAdd, Nat.reduceMul, Nat.reduceLeDiff, Nat.reduceSub, eqVals, eqK, eq1]
        refine hK5 _ ?_
        refine wp_seq_k' fun K8 hK8 => ?_
        refine wp_reg' ?_
        iterate 2 (refine @vc_step Fk _ _ _ _ fun J hJ => ?_; simp only [go_sem, ↓reduceIte, reduceCtorEq, Nat.reduceEqDiff, Nat.reduceLT, Nat.reduceAdd, Nat.reduceMul, Nat.reduceLeDiff, Nat.reduceSub, eqVals, eqK, eq1]; refine hJ _ ?_; clear hJ J)
        refine @vc_step Fk _ _ _ _ fun J hJ => ?_
        simp only [go_sem, ↓reduceIte, reduceCtorEq, Nat.reduceEqDiff, Nat.reduceLT, Nat.reduceAdd, Nat.reduceMul, Nat.reduceLeDiff, Nat.reduceSub, eqVals, eqK, eq1]
        refine may3_call  (by first | assumption | omega | exact List.getElem_mem _) fun b1 => ?_
        try simp only [go_sem, ↓reduceIte, reduceCtorEq, Nat.reduceEqDiff, Nat.reduceLT, Nat.reduceAdd, Nat.reduceMul, Nat.reduceLeDiff, Nat.reduceSub, eqVals, eqK, eq1]
        refine hJ _ ?_
        clear hJ J
        refine @vc_step Fk _ _ _ _ fun J hJ => ?_
        simp only [go_sem, ↓reduceIte, reduceCtorEq, Nat.reduceEqDiff, Nat.reduceLT, Nat.reduceAdd, Nat.reduceMul, Nat.reduceLeDiff, Nat.reduceSub, eqVals, eqK, eq1]
        refine hJ _ ?_
        clear hJ J
        refine vc_nil ?_
        try simp only [go_sem, ↓reduceIte, reduceCtorEq, Nat.reduceEqDiff, Nat.reduceLT, Nat.reduceAdd, Nat.reduceMul, Nat.reduceLeDiff, Nat.reduceSub, eqVals, eqK, eq1]
        try simp only [go_sem, ↓reduceIte, reduceCtorEq, Nat.reduceEqDiff, Nat.reduceLT, Nat.reduceAdd, Nat.reduceMul, Nat.reduceLeDiff, Nat.reduceSub, eqVals, eqK, eq1]
        refine hK8 _ ?_
        refine wp_ret' ?_
        try simp only [go_sem, ↓reduceIte, reduceCtorEq, Nat.reduceEqDiff, Nat.reduceLT, Nat.reduceAdd, Nat.reduceMul, Nat.reduceLeDiff, Nat.reduceSub, eqVals, eqK, eq1]
        exact hZ _ _ _ _ (by simp) rfl rfl ⟨_, rfl⟩
  · skip
    iterate 4 (refine @vc_step Fk _ _ _ _ fun J hJ => ?_; simp only [go_sem, ↓reduceIte, reduceCtorEq, Nat.reduceEqDiff, Nat.reduceLT, Nat.reduceAdd, Nat.reduceMul, Nat.reduceLeDiff, Nat.reduceSub, eqVals, eqK, eq1]; refine hJ _ ?_; clear hJ J)
    refine @vc_gd Fk _ _ _ _ 6 (by rfl) (fun hg3 => ?_) (fun hg3 => ?_)
    · skip
      have hg3n := hg3
      try simp only [decide_eq_true_eq, decide_eq_false_iff_not, Bool.not_eq_true', Bool.not_eq_false', beq_iff_eq, bne_iff_ne, beq_eq_false_iff_ne, Int.ofNat_lt, Int.not_lt, Bool.and_eq_true, ne_eq, bne_eq_false_iff_eq] at hg3n
      iterate 22 (refine @vc_step Fk _ _ _ _ fun J hJ => ?_; simp only [go_sem, ↓reduceIte, reduceCtorEq, Nat.reduceEqDiff, Nat.reduceLT, Nat.reduceAdd, Nat.reduceMul, Nat.reduceLeDiff, Nat.reduceSub, eqVals, eqK, eq1, hg3]; refine hJ _ ?_; clear hJ J)
      refine vc_nil ?_
      exact hM3 _ _ (trivial) rfl
    · skip
      have hg3n := hg3
      try simp only [decide_eq_true_eq, decide_eq_false_iff_not, Bool.not_eq_true', Bool.not_eq_false', beq_iff_eq, bne_iff_ne, beq_eq_false_iff_ne, Int.ofNat_lt, Int.not_lt, Bool.and_eq_true, ne_eq, bne_eq_false_iff_eq] at hg3n
      iterate 5 (refine @vc_step Fk _ _ _ _ fun J hJ => ?_; simp only [go_sem, ↓reduceIte, reduceCtorEq, Nat.reduceEqDiff, Nat.reduceLT, Nat.reduceAdd, Nat.reduceMul, Nat.reduceLeDiff, Nat.reduceSub, eqVals, eqK, eq1, hg3]; refine hJ _ ?_; clear hJ J)
      refine @vc_gd Fk _ _ _ _ 11 (by rfl) (fun hg4 => ?_) (fun hg4 => ?_)
      · skip
        have hg4n := hg4
        try simp only [decide_eq_true_eq, decide_eq_false_iff_not, Bool.not_eq_true', Bool.not_eq_false', beq_iff_eq, bne_iff_ne, beq_eq_false_iff_ne, Int.ofNat_lt, Int.not_lt, Bool.and_eq_true, ne_eq, bne_eq_false_iff_eq] at hg4n
        iterate 17 (refine @vc_step Fk _ _ _ _ fun J hJ => ?_; simp only [go_sem, ↓reduceIte, reduceCtorEq, Nat.reduceEqDiff, Nat.reduceLT, Nat.reduceAdd, Nat.reduceMul, Nat.reduceLeDiff, Nat.reduceSub, eqVals, eqK, eq1, hg3, hg4]; refine hJ _ ?_; clear hJ J)
        refine vc_nil ?_
        exact hM3 _ _ (trivial) rfl
      · skip
        have hg4n := hg4
        try simp only [decide_eq_true_eq, decide_eq_false_iff_not, Bool.not_eq_true', Bool.not_eq_false', beq_iff_eq, bne_iff_ne, beq_eq_false_iff_ne, Int.ofNat_lt, Int.not_lt, Bool.and_eq_true, ne_eq, bne_eq_false_iff_eq] at hg4n
        iterate 6 (refine @vc_step Fk _ _ _ _ fun J hJ => ?_; simp only [go_sem, ↓reduceIte, reduceCtorEq, Nat.reduceEqDiff, Nat.reduceLT, Nat.reduceAdd, Nat.reduceMul, Nat.reduceLeDiff, Nat.reduceSub, eqVals, eqK, eq1, hg3, hg4]; refine hJ _ ?_; clear hJ J)
        refine @vc_gd Fk _ _ _ _ 17 (by rfl) (fun hg5 => ?_) (fun hg5 => ?_)
        · skip
          have hg5n := hg5
          try simp only [decide_eq_true_eq, decide_eq_false_iff_not, Bool.not_eq_true', Bool.not_eq_false', beq_iff_eq, bne_iff_ne, beq_eq_false_iff_ne, Int.ofNat_lt, Int.not_lt, Bool.and_eq_true, ne_eq, bne_eq_false_iff_eq] at hg5n
          iterate 11 (refine @vc_step Fk _ _ _ _ fun J hJ => ?_; simp only [go_sem, ↓reduceIte, reduceCtorEq, Nat.reduceEqDiff, Nat.reduceLT, Nat.reduceAdd, Nat.reduceMul, Nat.reduceLeDiff, Nat.reduceSub, eqVals, eqK, eq1, hg3, hg4, hg5]; refine hJ _ ?_; clear hJ J)
          refine vc_nil ?_
          exact hM3 _ _ (trivial) rfl
        · skip
          have hg5n := hg5
          try simp only [decide_eq_true_eq, decide_eq_false_iff_not, Bool.not_eq_true', Bool.not_eq_false', beq_iff_eq, bne_iff_ne, beq_eq_false_iff_ne, Int.ofNat_lt, Int.not_lt, Bool.and_eq_true, ne_eq, bne_eq_false_iff_eq] at hg5n
          iterate 2 (refine @vc_step Fk _ _ _ _ fun J hJ => ?_; simp only [go_sem, ↓reduceIte, reduceCtorEq, Nat.reduceEqDiff, Nat.reduceLT, Nat.reduceAdd, Nat.reduceMul, Nat.reduceLeDiff, Nat.reduceSub, eqVals, eqK, eq1, hg3, hg4, hg5]; refine hJ _ ?_; clear hJ J)
          refine @vc_step Fk _ _ _ _ fun J hJ => ?_
          simp only [go_sem, ↓reduceIte, reduceCtorEq, Nat.reduceEqDiff, Nat.reduceLT, Nat.reduceAdd, Nat.reduceMul, Nat.reduceLeDiff, Nat.reduceSub, eqVals, eqK, eq1, hg3, hg4, hg5]
          refine row_call  (by first | assumption | omega | exact List.getElem_mem _) (by first | assumption | omega | exact List.getElem_mem _) fun b2 => ?_
          try simp only [go_sem, ↓reduceIte, reduceCtorEq, Nat.reduceEqDiff, Nat.reduceLT, Nat.reduceAdd, Nat.reduceMul, Nat.reduceLeDiff, Nat.reduceSub, eqVals, eqK, eq1, hg3, hg4, hg5]
          refine hJ _ ?_
          clear hJ J
          iterate 3 (refine @vc_step Fk _ _ _ _ fun J hJ => ?_; simp only [go_sem, ↓reduceIte, reduceCtorEq, Nat.reduceEqDiff, Nat.reduceLT, Nat.reduceAdd, Nat.reduceMul, Nat.reduceLeDiff, Nat.reduceSub, eqVals, eqK, eq1, hg3, hg4, hg5]; refine hJ _ ?_; clear hJ J)
          refine @vc_gd Fk _ _ _ _ 23 (by rfl) (fun hg6 => ?_) (fun hg6 => ?_)
          · skip
            have hg6n := hg6
            try simp only [decide_eq_true_eq, decide_eq_false_iff_not, Bool.not_eq_true', Bool.not_eq_false', beq_iff_eq, bne_iff_ne, beq_eq_false_iff_ne, Int.ofNat_lt, Int.not_lt, Bool.and_eq_true, ne_eq, bne_eq_false_iff_eq] at hg6n
            iterate 5 (refine @vc_step Fk _ _ _ _ fun J hJ => ?_; simp only [go_sem, ↓reduceIte, reduceCtorEq, Nat.reduceEqDiff, Nat.reduceLT, Nat.reduceAdd, Nat.reduceMul, Nat.reduceLeDiff, Nat.reduceSub, eqVals, eqK, eq1, hg3, hg4, hg5, hg6]; refine hJ _ ?_; clear hJ J)
            refine vc_nil ?_
            exact hM3 _ _ (trivial) rfl
          · skip
            have hg6n := hg6
            try simp only [decide_eq_true_eq, decide_eq_false_iff_not, Bool.not_eq_true', Bool.not_eq_false', beq_iff_eq, bne_iff_ne, beq_eq_false_iff_ne, Int.ofNat_lt, Int.not_lt, Bool.and_eq_true, ne_eq, bne_eq_false_iff_eq] at hg6n
            iterate 2 (refine @vc_step Fk _ _ _ _ fun J hJ => ?_; simp only [go_sem, ↓reduceIte, reduceCtorEq, Nat.reduceEqDiff, Nat.reduceLT, Nat.reduceAdd, Nat.reduceMul, Nat.reduceLeDiff, Nat.reduceSub, eqVals, eqK, eq1, hg3, hg4, hg5, hg6]; refine hJ _ ?_; clear hJ J)
            refine @vc_step Fk _ _ _ _ fun J hJ => ?_
            simp only [go_sem, ↓reduceIte, reduceCtorEq, Nat.reduceEqDiff, Nat.reduceLT, Nat.reduceAdd, Nat.reduceMul, Nat.reduceLeDiff, Nat.reduceSub, eqVals, eqK, eq1, hg3, hg4, hg5, hg6]
            refine row_call  (by first | assumption | omega | exact List.getElem_mem _) (by first | assumption | omega | exact List.getElem_mem _) fun b3 => ?_
            try simp only [go_sem, ↓reduceIte, reduceCtorEq, Nat.reduceEqDiff, Nat.reduceLT, Nat.reduceAdd, Nat.reduceMul, Nat.reduceLeDiff, Nat.reduceSub, eqVals, eqK, eq1, hg3, hg4, hg5, hg6]
            refine hJ _ ?_
            clear hJ J
            iterate 2 (refine @vc_step Fk _ _ _ _ fun J hJ => ?_; simp only [go_sem, ↓reduceIte, reduceCtorEq, Nat.reduceEqDiff, Nat.reduceLT, Nat.reduceAdd, Nat.reduceMul, Nat.reduceLeDiff, Nat.reduceSub, eqVals, eqK, eq1, hg3, hg4, hg5, hg6]; refine hJ _ ?_; clear hJ J)
            refine vc_nil ?_
            exact hM3 _ _ (trivial) rfl
theorem alone_call {u : Un} (hu : u.Ok) {H : List AO} {T : List Nat} {Q : Av → List AO → List Nat → Prop} (hq : ∀ (b : Bool), Q (.bool b) H T) : RunT Fk (.fn n_pandectref06_alone) [.agg [.int .i64 u.a, .int .i64 u.b, .int .i64 u.c, .int .i64 u.kind, .str u.label, .sl (u.head.map Wd.cs) u.t1.tk, .sl (u.words.map Wd.cs) u.t2.tk, .sl (u.kids.map Un.cs) u.t3.tk]] H T Q := by
  obtain ⟨_, ⟨b, rfl⟩, hr⟩ := alone _ hu
  simp only [Un.cs_eq, It.cs_eq, Ac.cs] at hr
  exact runT_ret hr (hq b)

theorem right_step (u : Un) (hu : u.Ok) (ih : ∀ k ∈ u.kids, ∃ v, (∃ (b : Bool), v = .bool b) ∧ Ret Fk n_pandectref06_Right [.agg k.cs] v) :
    ∃ v, (∃ (b : Bool), v = .bool b) ∧ Ret Fk n_pandectref06_Right [.agg u.cs] v := by
  refine ret_of_wpP (show Fk n_pandectref06_Right = some (.fn true 67 c_pandectref06_Right r_pandectref06_Right) from rfl) (args' := [.agg u.cs]) (by simp only [stripA, strip_int, strip_bool, strip_str, strip_sl, strip_U, strip_I, strip_A]) (Nat.le_of_ble_eq_true rfl) fun Z hZ => ?_
  unfold c_pandectref06_Right
  refine wp_norm fun J hJ => ?_
  try simp only [go_sem, ↓reduceIte, reduceCtorEq, Nat.reduceEqDiff, Nat.reduceLT, Nat.reduceAdd, Nat.reduceMul, Nat.reduceLeDiff, Nat.reduceSub]
  refine hJ _ ?_
  clear hJ J
  obtain ⟨hl1, hl2, hl3, hl4⟩ := hu.len
  obtain ⟨hw1, hw2⟩ := hu.words
  unfold maxL at hl1 hl2 hl3 hl4
  refine wp_seq_k' fun K1 hK1 => ?_
  refine wp_reg' ?_
  iterate 2 (refine @vc_step Fk _ _ _ _ fun J hJ => ?_; simp only [go_sem, ↓reduceIte, reduceCtorEq, Nat.reduceEqDiff, Nat.reduceLT, Nat.reduceAdd, Nat.reduceMul, Nat.reduceLeDiff, Nat.reduceSub]; refine hJ _ ?_; clear hJ J)
  refine vc_nil ?_
  try simp only [go_sem, ↓reduceIte, reduceCtorEq, Nat.reduceEqDiff, Nat.reduceLT, Nat.reduceAdd, Nat.reduceMul, Nat.reduceLeDiff, Nat.reduceSub]
  try simp only [go_sem, ↓reduceIte, reduceCtorEq, Nat.reduceEqDiff, Nat.reduceLT, Nat.reduceAdd, Nat.reduceMul, Nat.reduceLeDiff, Nat.reduceSub]
  refine hK1 _ ?_
  refine wp_seq_k' fun K2 hK2 => ?_
  refine wp_seq_k' fun K3 hK3 => ?_
  refine wp_reg' ?_
  refine @vc_step Fk _ _ _ _ fun J hJ => ?_
  simp only [go_sem, ↓reduceIte, reduceCtorEq, Nat.reduceEqDiff, Nat.reduceLT, Nat.reduceAdd, Nat.reduceMul, Nat.reduceLeDiff, Nat.reduceSub]
  refine hJ _ ?_
  clear hJ J
  refine @vc_step Fk _ _ _ _ fun J hJ => ?_
  simp only [go_sem, ↓reduceIte, reduceCtorEq, Nat.reduceEqDiff, Nat.reduceLT, Nat.reduceAdd, Nat.reduceMul, Nat.reduceLeDiff, Nat.reduceSub]
  refine alone_call  (by first | assumption | omega | exact List.getElem_mem _) fun b1 => ?_
  try simp only [go_sem, ↓reduceIte, reduceCtorEq, Nat.reduceEqDiff, Nat.reduceLT, Nat.reduceAdd, Nat.reduceMul, Nat.reduceLeDiff, Nat.reduceSub]
  refine hJ _ ?_
  clear hJ J
  refine @vc_step Fk _ _ _ _ fun J hJ => ?_
  simp only [go_sem, ↓reduceIte, reduceCtorEq, Nat.reduceEqDiff, Nat.reduceLT, Nat.reduceAdd, Nat.reduceMul, Nat.reduceLeDiff, Nat.reduceSub]
  refine hJ _ ?_
  clear hJ J
  refine vc_nil ?_
  try simp only [go_sem, ↓reduceIte, reduceCtorEq, Nat.reduceEqDiff, Nat.reduceLT, Nat.reduceAdd, Nat.reduceMul, Nat.reduceLeDiff, Nat.reduceSub]
  try simp only [go_sem, ↓reduceIte, reduceCtorEq, Nat.reduceEqDiff, Nat.reduceLT, Nat.reduceAdd, Nat.reduceMul, Nat.reduceLeDiff, Nat.reduceSub]
  refine hK3 _ ?_
  refine wp_cond' rfl (fun hc1 => ?_) (fun hc1 => ?_)
  · skip
    try simp only [decide_eq_true_eq, decide_eq_false_iff_not, Bool.not_eq_true', Bool.not_eq_false', beq_iff_eq, bne_iff_ne, beq_eq_false_iff_ne, Int.ofNat_lt, Int.not_lt, Bool.and_eq_true, ne_eq, bne_eq_false_iff_eq] at hc1
    refine wp_seq_k' fun K4 hK4 => ?_
    refine wp_reg' ?_
    refine @vc_step Fk _ _ _ _ fun J hJ => ?_
    simp only [go_sem, ↓reduceIte, reduceCtorEq, Nat.reduceEqDiff, Nat.reduceLT, Nat.reduceAdd, Nat.reduceMul, Nat.reduceLeDiff, Nat.reduceSub]
    refine hJ _ ?_
    clear hJ J
    refine vc_nil ?_
    try simp only [go_sem, ↓reduceIte, reduceCtorEq, Nat.reduceEqDiff, Nat.reduceLT, Nat.reduceAdd, Nat.reduceMul, Nat.reduceLeDiff, Nat.reduceSub]
    try simp only [go_sem, ↓reduceIte, reduceCtorEq, Nat.reduceEqDiff, Nat.reduceLT, Nat.reduceAdd, Nat.reduceMul, Nat.reduceLeDiff, Nat.reduceSub]
    refine hK4 _ ?_
    refine wp_ret' ?_
    try simp only [go_sem, ↓reduceIte, reduceCtorEq, Nat.reduceEqDiff, Nat.reduceLT, Nat.reduceAdd, Nat.reduceMul, Nat.reduceLeDiff, Nat.reduceSub]
    exact hZ _ _ _ _ (by simp) rfl rfl ⟨_, rfl⟩
  · skip
    try simp only [decide_eq_true_eq, decide_eq_false_iff_not, Bool.not_eq_true', Bool.not_eq_false', beq_iff_eq, bne_iff_ne, beq_eq_false_iff_ne, Int.ofNat_lt, Int.not_lt, Bool.and_eq_true, ne_eq, bne_eq_false_iff_eq] at hc1
    refine wp_skip' ?_
    try simp only [go_sem, ↓reduceIte, reduceCtorEq, Nat.reduceEqDiff, Nat.reduceLT, Nat.reduceAdd, Nat.reduceMul, Nat.reduceLeDiff, Nat.reduceSub]
    try simp only [go_sem, ↓reduceIte, reduceCtorEq, Nat.reduceEqDiff, Nat.reduceLT, Nat.reduceAdd, Nat.reduceMul, Nat.reduceLeDiff, Nat.reduceSub]
    refine hK2 _ ?_
    refine wp_seq_k' fun K5 hK5 => ?_
    refine wp_seq_k' fun K6 hK6 => ?_
    refine wp_reg' ?_
    refine @vc_step Fk _ _ _ _ fun J hJ => ?_
    simp only [go_sem, ↓reduceIte, reduceCtorEq, Nat.reduceEqDiff, Nat.reduceLT, Nat.reduceAdd, Nat.reduceMul, Nat.reduceLeDiff, Nat.reduceSub]
    refine hJ _ ?_
    clear hJ J
    refine vc_nil ?_
    try simp only [go_sem, ↓reduceIte, reduceCtorEq, Nat.reduceEqDiff, Nat.reduceLT, Nat.reduceAdd, Nat.reduceMul, Nat.reduceLeDiff, Nat.reduceSub]
    try simp only [go_sem, ↓reduceIte, reduceCtorEq, Nat.reduceEqDiff, Nat.reduceLT, Nat.reduceAdd, Nat.reduceMul, Nat.reduceLeDiff, Nat.reduceSub]
    refine hK6 _ ?_
    refine wp_block' ?_
    refine wp_forU (ι := Unit) (u.kids.length) (fun i1 x1 => [(3, .int .i64 (i1 : Nat))]) (fun i1 x1 => _) (fun i1 x1 => _) (fun i1 x1 => True) () (by rfl) rfl rfl (by trivial) fun i1 x1 hi1 hv1 K7 hK7 => ?_
    refine wp_norm fun J hJ => ?_
    try simp only [go_sem, ↓reduceIte, reduceCtorEq, Nat.reduceEqDiff, Nat.reduceLT, Nat.reduceAdd, Nat.reduceMul, Nat.reduceLeDiff, Nat.reduceSub]
    refine hJ _ ?_
    clear hJ J
    refine wp_seq_k' fun K8 hK8 => ?_
    refine wp_seq_k' fun K9 hK9 => ?_
    refine wp_reg' ?_
    iterate 5 (refine @vc_step Fk _ _ _ _ fun J hJ => ?_; simp only [go_sem, ↓reduceIte, reduceCtorEq, Nat.reduceEqDiff, Nat.reduceLT, Nat.reduceAdd, Nat.reduceMul, Nat.reduceLeDiff, Nat.reduceSub]; refine hJ _ ?_; clear hJ J)
    refine vc_nil ?_
    try simp only [go_sem, ↓reduceIte, reduceCtorEq, Nat.reduceEqDiff, Nat.reduceLT, Nat.reduceAdd, Nat.reduceMul, Nat.reduceLeDiff, Nat.reduceSub]
    try simp only [go_sem, ↓reduceIte, reduceCtorEq, Nat.reduceEqDiff, Nat.reduceLT, Nat.reduceAdd, Nat.reduceMul, Nat.reduceLeDiff, Nat.reduceSub]
    refine hK9 _ ?_
    refine wp_cond' rfl (fun hc2 => ?_) (fun hc2 => ?_)
    · skip
      try simp only [decide_eq_true_eq, decide_eq_false_iff_not, Bool.not_eq_true', Bool.not_eq_false', beq_iff_eq, bne_iff_ne, beq_eq_false_iff_ne, Int.ofNat_lt, Int.not_lt, Bool.and_eq_true, ne_eq, bne_eq_false_iff_eq] at hc2
      refine wp_skip' ?_
      try simp only [go_sem, ↓reduceIte, reduceCtorEq, Nat.reduceEqDiff, Nat.reduceLT, Nat.reduceAdd, Nat.reduceMul, Nat.reduceLeDiff, Nat.reduceSub, hc2]
      try simp only [go_sem, ↓reduceIte, reduceCtorEq, Nat.reduceEqDiff, Nat.reduceLT, Nat.reduceAdd, Nat.reduceMul, Nat.reduceLeDiff, Nat.reduceSub, hc2]
      refine hK8 _ ?_
      refine wp_seq_k' fun K10 hK10 => ?_
      refine wp_block' ?_
      refine wp_seq_k' fun K11 hK11 => ?_
      refine wp_seq_k' fun K12 hK12 => ?_
      refine wp_draw' (by rfl) ?_
      refine vc_merge (K := K12) (ks := [1, 3, 33]) (d := 33) (fun b33 => True) (fun b33 hb33 => ?_) fun M12 hM12 => ?_
      · skip
        try simp only [go_sem, ↓reduceIte, reduceCtorEq, Nat.reduceEqDiff, Nat.reduceLT, Nat.reduceAdd, Nat.reduceMul, Nat.reduceLeDiff, Nat.reduceSub, hc2]
        refine hK12 _ ?_
        refine wp_cond' rfl (fun hc3 => ?_) (fun hc3 => ?_)
        · skip
          try simp only [decide_eq_true_eq, decide_eq_false_iff_not, Bool.not_eq_true', Bool.not_eq_false', beq_iff_eq, bne_iff_ne, beq_eq_false_iff_ne, Int.ofNat_lt, Int.not_lt, Bool.and_eq_true, ne_eq, bne_eq_false_iff_eq] at hc3
          refine wp_seq_k' fun K13 hK13 => ?_
          refine wp_reg' ?_
          refine @vc_step Fk _ _ _ _ fun J hJ => ?_
          simp only [go_sem, ↓reduceIte, reduceCtorEq, Nat.reduceEqDiff, Nat.reduceLT, Nat.reduceAdd, Nat.reduceMul, Nat.reduceLeDiff, Nat.reduceSub, hc2]
          refine hJ _ ?_
          clear hJ J
          refine vc_nil ?_
          try simp only [go_sem, ↓reduceIte, reduceCtorEq, Nat.reduceEqDiff, Nat.reduceLT, Nat.reduceAdd, Nat.reduceMul, Nat.reduceLeDiff, Nat.reduceSub, hc2]
          try simp only [go_sem, ↓reduceIte, reduceCtorEq, Nat.reduceEqDiff, Nat.reduceLT, Nat.reduceAdd, Nat.reduceMul, Nat.reduceLeDiff, Nat.reduceSub, hc2]
          refine hK13 _ ?_
          refine wp_ret' ?_
          try simp only [go_sem, ↓reduceIte, reduceCtorEq, Nat.reduceEqDiff, Nat.reduceLT, Nat.reduceAdd, Nat.reduceMul, Nat.reduceLeDiff, Nat.reduceSub, hc2]
          exact hZ _ _ _ _ (by simp) rfl rfl ⟨_, rfl⟩
        · skip
          try simp only [decide_eq_true_eq, decide_eq_false_iff_not, Bool.not_eq_true', Bool.not_eq_false', beq_iff_eq, bne_iff_ne, beq_eq_false_iff_ne, Int.ofNat_lt, Int.not_lt, Bool.and_eq_true, ne_eq, bne_eq_false_iff_eq] at hc3
          refine wp_skip' ?_
          try simp only [go_sem, ↓reduceIte, reduceCtorEq, Nat.reduceEqDiff, Nat.reduceLT, Nat.reduceAdd, Nat.reduceMul, Nat.reduceLeDiff, Nat.reduceSub, hc2]
          try simp only [go_sem, ↓reduceIte, reduceCtorEq, Nat.reduceEqDiff, Nat.reduceLT, Nat.reduceAdd, Nat.reduceMul, Nat.reduceLeDiff, Nat.reduceSub, hc2]
          refine hK11 _ ?_
          refine wp_seq_k' fun K14 hK14 => ?_
          refine wp_reg' ?_
          refine @vc_step Fk _ _ _ _ fun J hJ => ?_
          simp only [go_sem, ↓reduceIte, reduceCtorEq, Nat.reduceEqDiff, Nat.reduceLT, Nat.reduceAdd, Nat.reduceMul, Nat.reduceLeDiff, Nat.reduceSub, hc2]
          refine hJ _ ?_
          clear hJ J
          refine vc_nil ?_
          try simp only [go_sem, ↓reduceIte, reduceCtorEq, Nat.reduceEqDiff, Nat.reduceLT, Nat.reduceAdd, Nat.reduceMul, Nat.reduceLeDiff, Nat.reduceSub, hc2]
          try simp only [go_sem, ↓reduceIte, reduceCtorEq, Nat.reduceEqDiff, Nat.reduceLT, Nat.reduceAdd, Nat.reduceMul, Nat.reduceLeDiff, Nat.reduceSub, hc2]
          refine hK14 _ ?_
          refine wp_block' ?_
          refine wp_forU (ι := Unit) (i1) (fun i2 x2 => [(4, .int .i64 (i2 : Nat))]) (fun i2 x2 => _) (fun i2 x2 => _) (fun i2 x2 => True) () (by rfl) rfl rfl (by trivial) fun i2 x2 hi2 hv2 K15 hK15 => ?_
          refine wp_norm fun J hJ => ?_
          try simp only [go_sem, ↓reduceIte, reduceCtorEq, Nat.reduceEqDiff, Nat.reduceLT, Nat.reduceAdd, Nat.reduceMul, Nat.reduceLeDiff, Nat.reduceSub, hc2]
          refine hJ _ ?_
          clear hJ J
          refine wp_seq_k' fun K16 hK16 => ?_
          refine wp_seq_k' fun K17 hK17 => ?_
          refine wp_reg' ?_
          iterate 3 (refine @vc_step Fk _ _ _ _ fun J hJ => ?_; simp only [go_sem, ↓reduceIte, reduceCtorEq, Nat.reduceEqDiff, Nat.reduceLT, Nat.reduceAdd, Nat.reduceMul, Nat.reduceLeDiff, Nat.reduceSub, hc2]; refine hJ _ ?_; clear hJ J)
          refine vc_nil ?_
          try simp only [go_sem, ↓reduceIte, reduceCtorEq, Nat.reduceEqDiff, Nat.reduceLT, Nat.reduceAdd, Nat.reduceMul, Nat.reduceLeDiff, Nat.reduceSub, hc2]
          try simp only [go_sem, ↓reduceIte, reduceCtorEq, Nat.reduceEqDiff, Nat.reduceLT, Nat.reduceAdd, Nat.reduceMul, Nat.reduceLeDiff, Nat.reduceSub, hc2]
          refine hK17 _ ?_
          refine wp_cond' rfl (fun hc4 => ?_) (fun hc4 => ?_)
          · skip
            try simp only [decide_eq_true_eq, decide_eq_false_iff_not, Bool.not_eq_true', Bool.not_eq_false', beq_iff_eq, bne_iff_ne, beq_eq_false_iff_ne, Int.ofNat_lt, Int.not_lt, Bool.and_eq_true, ne_eq, bne_eq_false_iff_eq] at hc4
            have hc4u : i2 < u.kids.length := by omega
            refine wp_skip' ?_
            try simp only [go_sem, ↓reduceIte, reduceCtorEq, Nat.reduceEqDiff, Nat.reduceLT, Nat.reduceAdd, Nat.reduceMul, Nat.reduceLeDiff, Nat.reduceSub, hc2, hc4, hc4u]
            try simp only [go_sem, ↓reduceIte, reduceCtorEq, Nat.reduceEqDiff, Nat.reduceLT, Nat.reduceAdd, Nat.reduceMul, Nat.reduceLeDiff, Nat.reduceSub, hc2, hc4, hc4u]
            refine hK16 _ ?_
            refine wp_seq_k' fun K18 hK18 => ?_
            refine wp_block' ?_
            refine wp_seq_k' fun K19 hK19 => ?_
            refine wp_draw' (by rfl) ?_
            refine vc_merge (K := K19) (ks := [1, 3, 4, 66]) (d := 66) (fun b66 => True) (fun b66 hb66 => ?_) fun M19 hM19 => ?_
            · skip
              try simp only [go_sem, ↓reduceIte, reduceCtorEq, Nat.reduceEqDiff, Nat.reduceLT, Nat.reduceAdd, Nat.reduceMul, Nat.reduceLeDiff, Nat.reduceSub, hc2, hc4, hc4u]
              refine hK19 _ ?_
              refine wp_cond' rfl (fun hc5 => ?_) (fun hc5 => ?_)
              · skip
                try simp only [decide_eq_true_eq, decide_eq_false_iff_not, Bool.not_eq_true', Bool.not_eq_false', beq_iff_eq, bne_iff_ne, beq_eq_false_iff_ne, Int.ofNat_lt, Int.not_lt, Bool.and_eq_true, ne_eq, bne_eq_false_iff_eq] at hc5
                refine wp_seq_k' fun K20 hK20 => ?_
                refine wp_reg' ?_
                refine @vc_step Fk _ _ _ _ fun J hJ => ?_
                simp only [go_sem, ↓reduceIte, reduceCtorEq, Nat.reduceEqDiff, Nat.reduceLT, Nat.reduceAdd, Nat.reduceMul, Nat.reduceLeDiff, Nat.reduceSub, hc2, hc4, hc4u]
                refine hJ _ ?_
                clear hJ J
                refine vc_nil ?_
                try simp only [go_sem, ↓reduceIte, reduceCtorEq, Nat.reduceEqDiff, Nat.reduceLT, Nat.reduceAdd, Nat.reduceMul, Nat.reduceLeDiff, Nat.reduceSub, hc2, hc4, hc4u]
                try simp only [go_sem, ↓reduceIte, reduceCtorEq, Nat.reduceEqDiff, Nat.reduceLT, Nat.reduceAdd, Nat.reduceMul, Nat.reduceLeDiff, Nat.reduceSub, hc2, hc4, hc4u]
                refine hK20 _ ?_
                refine wp_ret' ?_
                try simp only [go_sem, ↓reduceIte, reduceCtorEq, Nat.reduceEqDiff, Nat.reduceLT, Nat.reduceAdd, Nat.reduceMul, Nat.reduceLeDiff, Nat.reduceSub, hc2, hc4, hc4u]
                exact hZ _ _ _ _ (by simp) rfl rfl ⟨_, rfl⟩
              · skip
                try simp only [decide_eq_true_eq, decide_eq_false_iff_not, Bool.not_eq_true', Bool.not_eq_false', beq_iff_eq, bne_iff_ne, beq_eq_false_iff_ne, Int.ofNat_lt, Int.not_lt, Bool.and_eq_true, ne_eq, bne_eq_false_iff_eq] at hc5
                refine wp_skip' ?_
                try simp only [go_sem, ↓reduceIte, reduceCtorEq, Nat.reduceEqDiff, Nat.reduceLT, Nat.reduceAdd, Nat.reduceMul, Nat.reduceLeDiff, Nat.reduceSub, hc2, hc4, hc4u]
                try simp only [go_sem, ↓reduceIte, reduceCtorEq, Nat.reduceEqDiff, Nat.reduceLT, Nat.reduceAdd, Nat.reduceMul, Nat.reduceLeDiff, Nat.reduceSub, hc2, hc4, hc4u]
                refine hK18 _ ?_
                refine wp_reg' ?_
                iterate 3 (refine @vc_step Fk _ _ _ _ fun J hJ => ?_; simp only [go_sem, ↓reduceIte, reduceCtorEq, Nat.reduceEqDiff, Nat.reduceLT, Nat.reduceAdd, Nat.reduceMul, Nat.reduceLeDiff, Nat.reduceSub, hc2, hc4, hc4u]; refine hJ _ ?_; clear hJ J)
                refine vc_nil ?_
                try simp only [go_sem, ↓reduceIte, reduceCtorEq, Nat.reduceEqDiff, Nat.reduceLT, Nat.reduceAdd, Nat.reduceMul, Nat.reduceLeDiff, Nat.reduceSub, hc2, hc4, hc4u]
                refine hK15 _ _ _ ⟨by assumption, (), by trivial, ?_, rfl, rfl⟩
                rw [wrap64 (n := ((i2 : Nat) : Int) + 1) (by omega) (by omega)]
                rfl
            · skip
              iterate 3 (refine @vc_step Fk _ _ _ _ fun J hJ => ?_; simp only [go_sem, ↓reduceIte, reduceCtorEq, Nat.reduceEqDiff, Nat.reduceLT, Nat.reduceAdd, Nat.reduceMul, Nat.reduceLeDiff, Nat.reduceSub, hc2, hc4, hc4u]; refine hJ _ ?_; clear hJ J)
              refine @vc_step Fk _ _ _ _ fun J hJ => ?_
              simp only [go_sem, ↓reduceIte, reduceCtorEq, Nat.reduceEqDiff, Nat.reduceLT, Nat.reduceAdd, Nat.reduceMul, Nat.reduceLeDiff, Nat.reduceSub, hc2, hc4, hc4u]
              first | refine hJ _ ?_ | refine ⟨by first | assumption | omega | exact List.getElem_mem _, hJ _ ?_⟩ | refine ⟨by first | assumption | omega | exact List.getElem_mem _, by first | assumption | omega | exact List.getElem_mem _, hJ _ ?_⟩
              clear hJ J
              iterate 5 (refine @vc_step Fk _ _ _ _ fun J hJ => ?_; simp only [go_sem, ↓reduceIte, reduceCtorEq, Nat.reduceEqDiff, Nat.reduceLT, Nat.reduceAdd, Nat.reduceMul, Nat.reduceLeDiff, Nat.reduceSub, hc2, hc4, hc4u]; refine hJ _ ?_; clear hJ J)
              refine @vc_step Fk _ _ _ _ fun J hJ => ?_
              simp only [go_sem, ↓reduceIte, reduceCtorEq, Nat.reduceEqDiff, Nat.reduceLT, Nat.reduceAdd, Nat.reduceMul, Nat.reduceLeDiff, Nat.reduceSub, hc2, hc4, hc4u]
              first | refine hJ _ ?_ | refine ⟨by first | assumption | omega | exact List.getElem_mem _, hJ _ ?_⟩ | refine ⟨by first | assumption | omega | exact List.getElem_mem _, by first | assumption | omega | exact List.getElem_mem _, hJ _ ?_⟩
              clear hJ J
              iterate 4 (refine @vc_step Fk _ _ _ _ fun J hJ => ?_; simp only [go_sem, ↓reduceIte, reduceCtorEq, Nat.reduceEqDiff, Nat.reduceLT, Nat.reduceAdd, Nat.reduceMul, Nat.reduceLeDiff, Nat.reduceSub, hc2, hc4, hc4u]; refine hJ _ ?_; clear hJ J)
              refine @vc_gd Fk _ _ _ _ 52 (by rfl) (fun hg1 => ?_) (fun hg1 => ?_)
              · skip
                have hg1n := hg1
                try simp only [decide_eq_true_eq, decide_eq_false_iff_not, Bool.not_eq_true', Bool.not_eq_false', beq_iff_eq, bne_iff_ne, beq_eq_false_iff_ne, Int.ofNat_lt, Int.not_lt, Bool.and_eq_true, ne_eq, bne_eq_false_iff_eq] at hg1n
                iterate 3 (refine @vc_step Fk _ _ _ _ fun J hJ => ?_; simp only [go_sem, ↓reduceIte, reduceCtorEq, Nat.reduceEqDiff, Nat.reduceLT, Nat.reduceAdd, Nat.reduceMul, Nat.reduceLeDiff, Nat.reduceSub, hc2, hc4, hc4u, hg1]; refine hJ _ ?_; clear hJ J)
                refine @vc_step Fk _ _ _ _ fun J hJ => ?_
                simp only [go_sem, ↓reduceIte, reduceCtorEq, Nat.reduceEqDiff, Nat.reduceLT, Nat.reduceAdd, Nat.reduceMul, Nat.reduceLeDiff, Nat.reduceSub, hc2, hc4, hc4u, hg1]
                first | refine hJ _ ?_ | refine ⟨by first | assumption | omega | exact List.getElem_mem _, hJ _ ?_⟩ | refine ⟨by first | assumption | omega | exact List.getElem_mem _, by first | assumption | omega | exact List.getElem_mem _, hJ _ ?_⟩
                clear hJ J
                iterate 5 (refine @vc_step Fk _ _ _ _ fun J hJ => ?_; simp only [go_sem, ↓reduceIte, reduceCtorEq, Nat.reduceEqDiff, Nat.reduceLT, Nat.reduceAdd, Nat.reduceMul, Nat.reduceLeDiff, Nat.reduceSub, hc2, hc4, hc4u, hg1]; refine hJ _ ?_; clear hJ J)
                refine @vc_step Fk _ _ _ _ fun J hJ => ?_
                simp only [go_sem, ↓reduceIte, reduceCtorEq, Nat.reduceEqDiff, Nat.reduceLT, Nat.reduceAdd, Nat.reduceMul, Nat.reduceLeDiff, Nat.reduceSub, hc2, hc4, hc4u, hg1]
                first | refine hJ _ ?_ | refine ⟨by first | assumption | omega | exact List.getElem_mem _, hJ _ ?_⟩ | refine ⟨by first | assumption | omega | exact List.getElem_mem _, by first | assumption | omega | exact List.getElem_mem _, hJ _ ?_⟩
                clear hJ J
                iterate 4 (refine @vc_step Fk _ _ _ _ fun J hJ => ?_; simp only [go_sem, ↓reduceIte, reduceCtorEq, Nat.reduceEqDiff, Nat.reduceLT, Nat.reduceAdd, Nat.reduceMul, Nat.reduceLeDiff, Nat.reduceSub, hc2, hc4, hc4u, hg1]; refine hJ _ ?_; clear hJ J)
                refine vc_nil ?_
                exact hM19 _ _ (trivial) rfl
              · skip
                have hg1n := hg1
                try simp only [decide_eq_true_eq, decide_eq_false_iff_not, Bool.not_eq_true', Bool.not_eq_false', beq_iff_eq, bne_iff_ne, beq_eq_false_iff_ne, Int.ofNat_lt, Int.not_lt, Bool.and_eq_true, ne_eq, bne_eq_false_iff_eq] at hg1n
                iterate 14 (refine @vc_step Fk _ _ _ _ fun J hJ => ?_; simp only [go_sem, ↓reduceIte, reduceCtorEq, Nat.reduceEqDiff, Nat.reduceLT, Nat.reduceAdd, Nat.reduceMul, Nat.reduceLeDiff, Nat.reduceSub, hc2, hc4, hc4u, hg1]; refine hJ _ ?_; clear hJ J)
                refine vc_nil ?_
                exact hM19 _ _ (trivial) rfl
          · skip
            try simp only [decide_eq_true_eq, decide_eq_false_iff_not, Bool.not_eq_true', Bool.not_eq_false', beq_iff_eq, bne_iff_ne, beq_eq_false_iff_ne, Int.ofNat_lt, Int.not_lt, Bool.and_eq_true, ne_eq, bne_eq_false_iff_eq] at hc4
            refine wp_exit' ?_
            try simp only [go_sem, ↓reduceIte, reduceCtorEq, Nat.reduceEqDiff, Nat.reduceLT, Nat.reduceAdd, Nat.reduceMul, Nat.reduceLeDiff, Nat.reduceSub, hc2, hc4]
            try simp only [go_sem, ↓reduceIte, reduceCtorEq, Nat.reduceEqDiff, Nat.reduceLT, Nat.reduceAdd, Nat.reduceMul, Nat.reduceLeDiff, Nat.reduceSub, hc2, hc4]
            refine hK10 _ ?_
            refine wp_reg' ?_
            iterate 3 (refine @vc_step Fk _ _ _ _ fun J hJ => ?_; simp only [go_sem, ↓reduceIte, reduceCtorEq, Nat.reduceEqDiff, Nat.reduceLT, Nat.reduceAdd, Nat.reduceMul, Nat.reduceLeDiff, Nat.reduceSub, hc2, hc4]; refine hJ _ ?_; clear hJ J)
            refine vc_nil ?_
            try simp only [go_sem, ↓reduceIte, reduceCtorEq, Nat.reduceEqDiff, Nat.reduceLT, Nat.reduceAdd, Nat.reduceMul, Nat.reduceLeDiff, Nat.reduceSub, hc2, hc4]
            refine hK7 _ _ _ ⟨by assumption, (), by trivial, ?_, rfl, rfl⟩
            rw [wrap64 (n := ((i1 : Nat) : Int) + 1) (by omega) (by omega)]
            rfl
      · skip
        iterate 5 (refine @vc_step Fk _ _ _ _ fun J hJ => ?_; simp only [go_sem, ↓reduceIte, reduceCtorEq, Nat.reduceEqDiff, Nat.reduceLT, Nat.reduceAdd, Nat.reduceMul, Nat.reduceLeDiff, Nat.reduceSub, hc2]; refine hJ _ ?_; clear hJ J)
        refine @vc_step Fk _ _ _ _ fun J hJ => ?_
        simp only [go_sem, ↓reduceIte, reduceCtorEq, Nat.reduceEqDiff, Nat.reduceLT, Nat.reduceAdd, Nat.reduceMul, Nat.reduceLeDiff, Nat.reduceSub, hc2]
        first | refine hJ _ ?_ | refine ⟨by first | assumption | omega | exact List.getElem_mem _, hJ _ ?_⟩ | refine ⟨by first | assumption | omega | exact List.getElem_mem _, by first | assumption | omega | exact List.getElem_mem _, hJ _ ?_⟩
        clear hJ J
        iterate 2 (refine @vc_step Fk _ _ _ _ fun J hJ => ?_; simp only [go_sem, ↓reduceIte, reduceCtorEq, Nat.reduceEqDiff, Nat.reduceLT, Nat.reduceAdd, Nat.reduceMul, Nat.reduceLeDiff, Nat.reduceSub, hc2]; refine hJ _ ?_; clear hJ J)
        refine @vc_step Fk _ _ _ _ fun J hJ => ?_
        simp only [go_sem, ↓reduceIte, reduceCtorEq, Nat.reduceEqDiff, Nat.reduceLT, Nat.reduceAdd, Nat.reduceMul, Nat.reduceLeDiff, Nat.reduceSub, hc2]
        refine nests_call   fun b2 => ?_
        try simp only [go_sem, ↓reduceIte, reduceCtorEq, Nat.reduceEqDiff, Nat.reduceLT, Nat.reduceAdd, Nat.reduceMul, Nat.reduceLeDiff, Nat.reduceSub, hc2]
        refine hJ _ ?_
        clear hJ J
        iterate 2 (refine @vc_step Fk _ _ _ _ fun J hJ => ?_; simp only [go_sem, ↓reduceIte, reduceCtorEq, Nat.reduceEqDiff, Nat.reduceLT, Nat.reduceAdd, Nat.reduceMul, Nat.reduceLeDiff, Nat.reduceSub, hc2]; refine hJ _ ?_; clear hJ J)
        refine @vc_gd Fk _ _ _ _ 25 (by rfl) (fun hg2 => ?_) (fun hg2 => ?_)
        · skip
          have hg2n := hg2
          try simp only [decide_eq_true_eq, decide_eq_false_iff_not, Bool.not_eq_true', Bool.not_eq_false', beq_iff_eq, bne_iff_ne, beq_eq_false_iff_ne, Int.ofNat_lt, Int.not_lt, Bool.and_eq_true, ne_eq, bne_eq_false_iff_eq] at hg2n
          iterate 8 (refine @vc_step Fk _ _ _ _ fun J hJ => ?_; simp only [go_sem, ↓reduceIte, reduceCtorEq, Nat.reduceEqDiff, Nat.reduceLT, Nat.reduceAdd, Nat.reduceMul, Nat.reduceLeDiff, Nat.reduceSub, hc2, hg2]; refine hJ _ ?_; clear hJ J)
          refine vc_nil ?_
          exact hM12 _ _ (trivial) rfl
        · skip
          have hg2n := hg2
          try simp only [decide_eq_true_eq, decide_eq_false_iff_not, Bool.not_eq_true', Bool.not_eq_false', beq_iff_eq, bne_iff_ne, beq_eq_false_iff_ne, Int.ofNat_lt, Int.not_lt, Bool.and_eq_true, ne_eq, bne_eq_false_iff_eq] at hg2n
          iterate 3 (refine @vc_step Fk _ _ _ _ fun J hJ => ?_; simp only [go_sem, ↓reduceIte, reduceCtorEq, Nat.reduceEqDiff, Nat.reduceLT, Nat.reduceAdd, Nat.reduceMul, Nat.reduceLeDiff, Nat.reduceSub, hc2, hg2]; refine hJ _ ?_; clear hJ J)
          refine @vc_step Fk _ _ _ _ fun J hJ => ?_
          simp only [go_sem, ↓reduceIte, reduceCtorEq, Nat.reduceEqDiff, Nat.reduceLT, Nat.reduceAdd, Nat.reduceMul, Nat.reduceLeDiff, Nat.reduceSub, hc2, hg2]
          first | refine hJ _ ?_ | refine ⟨by first | assumption | omega | exact List.getElem_mem _, hJ _ ?_⟩ | refine ⟨by first | assumption | omega | exact List.getElem_mem _, by first | assumption | omega | exact List.getElem_mem _, hJ _ ?_⟩
          clear hJ J
          refine @vc_step Fk _ _ _ _ fun J hJ => ?_
          simp only [go_sem, ↓reduceIte, reduceCtorEq, Nat.reduceEqDiff, Nat.reduceLT, Nat.reduceAdd, Nat.reduceMul, Nat.reduceLeDiff, Nat.reduceSub, hc2, hg2]
          refine hJ _ ?_
          clear hJ J
          refine @vc_step Fk _ _ _ _ fun J hJ => ?_
          simp only [go_sem, ↓reduceIte, reduceCtorEq, Nat.reduceEqDiff, Nat.reduceLT, Nat.reduceAdd, Nat.reduceMul, Nat.reduceLeDiff, Nat.reduceSub, hc2, hg2]
          obtain ⟨_, ⟨b, rfl⟩, hih⟩ := ih _ (List.getElem_mem ‹_›)
          simp only [Un.cs_eq] at hih
          refine runT_ret hih ?_
          try simp only [go_sem, ↓reduceIte, reduceCtorEq, Nat.reduceEqDiff, Nat.reduceLT, Nat.reduceAdd, Nat.reduceMul, Nat.reduceLeDiff, Nat.reduceSub, hc2, hg2]
          refine hJ _ ?_
          clear hJ J
          iterate 2 (refine @vc_step Fk _ _ _ _ fun J hJ => ?_; simp only [go_sem, ↓reduceIte, reduceCtorEq, Nat.reduceEqDiff, Nat.reduceLT, Nat.reduceAdd, Nat.reduceMul, Nat.reduceLeDiff, Nat.reduceSub, hc2, hg2]; refine hJ _ ?_; clear hJ J)
          refine vc_nil ?_
          exact hM12 _ _ (trivial) rfl
    · skip
      try simp only [decide_eq_true_eq, decide_eq_false_iff_not, Bool.not_eq_true', Bool.not_eq_false', beq_iff_eq, bne_iff_ne, beq_eq_false_iff_ne, Int.ofNat_lt, Int.not_lt, Bool.and_eq_true, ne_eq, bne_eq_false_iff_eq] at hc2
      refine wp_exit' ?_
      try simp only [go_sem, ↓reduceIte, reduceCtorEq, Nat.reduceEqDiff, Nat.reduceLT, Nat.reduceAdd, Nat.reduceMul, Nat.reduceLeDiff, Nat.reduceSub, hc2]
      try simp only [go_sem, ↓reduceIte, reduceCtorEq, Nat.reduceEqDiff, Nat.reduceLT, Nat.reduceAdd, Nat.reduceMul, Nat.reduceLeDiff, Nat.reduceSub, hc2]
      refine hK5 _ ?_
      refine wp_seq_k' fun K21 hK21 => ?_
      refine wp_reg' ?_
      refine @vc_step Fk _ _ _ _ fun J hJ => ?_
      simp only [go_sem, ↓reduceIte, reduceCtorEq, Nat.reduceEqDiff, Nat.reduceLT, Nat.reduceAdd, Nat.reduceMul, Nat.reduceLeDiff, Nat.reduceSub, hc2]
      refine hJ _ ?_
      clear hJ J
      refine vc_nil ?_
      try simp only [go_sem, ↓reduceIte, reduceCtorEq, Nat.reduceEqDiff, Nat.reduceLT, Nat.reduceAdd, Nat.reduceMul, Nat.reduceLeDiff, Nat.reduceSub, hc2]
      try simp only [go_sem, ↓reduceIte, reduceCtorEq, Nat.reduceEqDiff, Nat.reduceLT, Nat.reduceAdd, Nat.reduceMul, Nat.reduceLeDiff, Nat.reduceSub, hc2]
      refine hK21 _ ?_
      refine wp_ret' ?_
      try simp only [go_sem, ↓reduceIte, reduceCtorEq, Nat.reduceEqDiff, Nat.reduceLT, Nat.reduceAdd, Nat.reduceMul, Nat.reduceLeDiff, Nat.reduceSub, hc2]
      exact hZ _ _ _ _ (by simp) rfl rfl ⟨_, rfl⟩
theorem right : ∀ (u : Un) (hu : u.Ok), ∃ v, (∃ (b : Bool), v = .bool b) ∧ Ret Fk n_pandectref06_Right [.agg u.cs] v :=
  Un.ind fun u ih hu => right_step u hu fun k hk => ih k hk (hu.kids k hk)

theorem right_call {u : Un} (hu : u.Ok) {H : List AO} {T : List Nat} {Q : Av → List AO → List Nat → Prop} (hq : ∀ (b : Bool), Q (.bool b) H T) : RunT Fk (.fn n_pandectref06_Right) [.agg [.int .i64 u.a, .int .i64 u.b, .int .i64 u.c, .int .i64 u.kind, .str u.label, .sl (u.head.map Wd.cs) u.t1.tk, .sl (u.words.map Wd.cs) u.t2.tk, .sl (u.kids.map Un.cs) u.t3.tk]] H T Q := by
  obtain ⟨_, ⟨b, rfl⟩, hr⟩ := right _ hu
  simp only [Un.cs_eq, It.cs_eq, Ac.cs] at hr
  exact runT_ret hr (hq b)

end Go.Am

set_option maxHeartbeats 4000000
set_option maxRecDepth 100000
namespace Go.Am
open Go

theorem all6_step (u : Un) (hu : u.Ok) (hn : u.cnt ≤ 1048576) (ih : ∀ k ∈ u.kids, k.cnt ≤ 1048576 → ∃ v, (∃ t2 : TD, v = .sl (k.ids.map IdD.cs) t2.tk) ∧ Ret Fk n_pandectref06_All [.agg k.cs] v) :
    ∃ v, (∃ (t2 : TD), v = .sl (u.ids.map IdD.cs) t2.tk) ∧ Ret Fk n_pandectref06_All [.agg u.cs] v := by
  refine ret_of_wpP (show Fk n_pandectref06_All = some (.fn true 24 c_pandectref06_All r_pandectref06_All) from rfl) (args' := [.agg u.cs]) (by simp only [stripA, strip_int, strip_bool, strip_str, strip_sl, strip_U, strip_I, strip_A]) (Nat.le_of_ble_eq_true rfl) fun Z hZ => ?_
  unfold c_pandectref06_All
  refine wp_norm fun J hJ => ?_
  try simp only [go_sem, ↓reduceIte, reduceCtorEq, Nat.reduceEqDiff, Nat.reduceLT, Nat.reduceAdd, Nat.reduceMul, Nat.reduceLeDiff, Nat.reduceSub]
  refine hJ _ ?_
  clear hJ J
  obtain ⟨hl1, hl2, hl3, hl4⟩ := hu.len
  obtain ⟨hw1, hw2⟩ := hu.words
  unfold maxL at hl1 hl2 hl3 hl4
  refine wp_seq_k' fun K1 hK1 => ?_
  refine wp_reg' ?_
  iterate 2 (refine @vc_step Fk _ _ _ _ fun J hJ => ?_; simp only [go_sem, ↓reduceIte, reduceCtorEq, Nat.reduceEqDiff, Nat.reduceLT, Nat.reduceAdd, Nat.reduceMul, Nat.reduceLeDiff, Nat.reduceSub]; refine hJ _ ?_; clear hJ J)
  refine vc_nil ?_
  try simp only [go_sem, ↓reduceIte, reduceCtorEq, Nat.reduceEqDiff, Nat.reduceLT, Nat.reduceAdd, Nat.reduceMul, Nat.reduceLeDiff, Nat.reduceSub]
  try simp only [go_sem, ↓reduceIte, reduceCtorEq, Nat.reduceEqDiff, Nat.reduceLT, Nat.reduceAdd, Nat.reduceMul, Nat.reduceLeDiff, Nat.reduceSub]
  refine hK1 _ ?_
  refine wp_seq_k' fun K2 hK2 => ?_
  refine wp_reg' ?_
  iterate 4 (refine @vc_step Fk _ _ _ _ fun J hJ => ?_; simp only [go_sem, ↓reduceIte, reduceCtorEq, Nat.reduceEqDiff, Nat.reduceLT, Nat.reduceAdd, Nat.reduceMul, Nat.reduceLeDiff, Nat.reduceSub]; refine hJ _ ?_; clear hJ J)
  refine vc_nil ?_
  try simp only [go_sem, ↓reduceIte, reduceCtorEq, Nat.reduceEqDiff, Nat.reduceLT, Nat.reduceAdd, Nat.reduceMul, Nat.reduceLeDiff, Nat.reduceSub]
  try simp only [go_sem, ↓reduceIte, reduceCtorEq, Nat.reduceEqDiff, Nat.reduceLT, Nat.reduceAdd, Nat.reduceMul, Nat.reduceLeDiff, Nat.reduceSub]
  refine hK2 _ ?_
  refine wp_seq_k' fun K3 hK3 => ?_
  refine wp_seq_k' fun K4 hK4 => ?_
  refine wp_reg' ?_
  refine @vc_step Fk _ _ _ _ fun J hJ => ?_
  simp only [go_sem, ↓reduceIte, reduceCtorEq, Nat.reduceEqDiff, Nat.reduceLT, Nat.reduceAdd, Nat.reduceMul, Nat.reduceLeDiff, Nat.reduceSub]
  refine hJ _ ?_
  clear hJ J
  refine vc_nil ?_
  try simp only [go_sem, ↓reduceIte, reduceCtorEq, Nat.reduceEqDiff, Nat.reduceLT, Nat.reduceAdd, Nat.reduceMul, Nat.reduceLeDiff, Nat.reduceSub]
  try simp only [go_sem, ↓reduceIte, reduceCtorEq, Nat.reduceEqDiff, Nat.reduceLT, Nat.reduceAdd, Nat.reduceMul, Nat.reduceLeDiff, Nat.reduceSub]
  refine hK4 _ ?_
  refine wp_block' ?_
  refine wp_forU (ι := Tk × List Nat) (u.kids.length) (fun i1 x1 => [(3, .sl ((u.pids i1).map IdD.cs) x1.1), (4, .int .i64 (i1 : Nat))]) (fun i1 x1 => _) (fun i1 x1 => x1.2) (fun i1 x1 => AppOk x1.2 x1.1 (u.pids i1).length) (.full, []) (by rw [Un.pids_zero]; rfl) rfl rfl (by exact .full _ _) fun i1 x1 hi1 hv1 K5 hK5 => ?_
  refine wp_norm fun J hJ => ?_
  try simp only [go_sem, ↓reduceIte, reduceCtorEq, Nat.reduceEqDiff, Nat.reduceLT, Nat.reduceAdd, Nat.reduceMul, Nat.reduceLeDiff, Nat.reduceSub]
  refine hJ _ ?_
  clear hJ J
  refine wp_seq_k' fun K6 hK6 => ?_
  refine wp_seq_k' fun K7 hK7 => ?_
  refine wp_reg' ?_
  iterate 5 (refine @vc_step Fk _ _ _ _ fun J hJ => ?_; simp only [go_sem, ↓reduceIte, reduceCtorEq, Nat.reduceEqDiff, Nat.reduceLT, Nat.reduceAdd, Nat.reduceMul, Nat.reduceLeDiff, Nat.reduceSub]; refine hJ _ ?_; clear hJ J)
  refine vc_nil ?_
  try simp only [go_sem, ↓reduceIte, reduceCtorEq, Nat.reduceEqDiff, Nat.reduceLT, Nat.reduceAdd, Nat.reduceMul, Nat.reduceLeDiff, Nat.reduceSub]
  try simp only [go_sem, ↓reduceIte, reduceCtorEq, Nat.reduceEqDiff, Nat.reduceLT, Nat.reduceAdd, Nat.reduceMul, Nat.reduceLeDiff, Nat.reduceSub]
  refine hK7 _ ?_
  refine wp_cond' rfl (fun hc1 => ?_) (fun hc1 => ?_)
  · skip
    try simp only [decide_eq_true_eq, decide_eq_false_iff_not, Bool.not_eq_true', Bool.not_eq_false', beq_iff_eq, bne_iff_ne, beq_eq_false_iff_ne, Int.ofNat_lt, Int.not_lt, Bool.and_eq_true, ne_eq, bne_eq_false_iff_eq] at hc1
    refine wp_skip' ?_
    try simp only [go_sem, ↓reduceIte, reduceCtorEq, Nat.reduceEqDiff, Nat.reduceLT, Nat.reduceAdd, Nat.reduceMul, Nat.reduceLeDiff, Nat.reduceSub, hc1]
    try simp only [go_sem, ↓reduceIte, reduceCtorEq, Nat.reduceEqDiff, Nat.reduceLT, Nat.reduceAdd, Nat.reduceMul, Nat.reduceLeDiff, Nat.reduceSub, hc1]
    refine hK6 _ ?_
    refine wp_seq_k' fun K8 hK8 => ?_
    refine wp_block' ?_
    refine wp_reg' ?_
    iterate 4 (refine @vc_step Fk _ _ _ _ fun J hJ => ?_; simp only [go_sem, ↓reduceIte, reduceCtorEq, Nat.reduceEqDiff, Nat.reduceLT, Nat.reduceAdd, Nat.reduceMul, Nat.reduceLeDiff, Nat.reduceSub, hc1]; refine hJ _ ?_; clear hJ J)
    refine @vc_step Fk _ _ _ _ fun J hJ => ?_
    simp only [go_sem, ↓reduceIte, reduceCtorEq, Nat.reduceEqDiff, Nat.reduceLT, Nat.reduceAdd, Nat.reduceMul, Nat.reduceLeDiff, Nat.reduceSub, hc1]
    first | refine hJ _ ?_ | refine ⟨by first | assumption | omega | exact List.getElem_mem _, hJ _ ?_⟩ | refine ⟨by first | assumption | omega | exact List.getElem_mem _, by first | assumption | omega | exact List.getElem_mem _, hJ _ ?_⟩
    clear hJ J
    refine @vc_step Fk _ _ _ _ fun J hJ => ?_
    simp only [go_sem, ↓reduceIte, reduceCtorEq, Nat.reduceEqDiff, Nat.reduceLT, Nat.reduceAdd, Nat.reduceMul, Nat.reduceLeDiff, Nat.reduceSub, hc1]
    refine hJ _ ?_
    clear hJ J
    refine @vc_step Fk _ _ _ _ fun J hJ => ?_
    simp only [go_sem, ↓reduceIte, reduceCtorEq, Nat.reduceEqDiff, Nat.reduceLT, Nat.reduceAdd, Nat.reduceMul, Nat.reduceLeDiff, Nat.reduceSub, hc1]
    have hkc := u.kid_cnt i1 hc1
    obtain ⟨_, ⟨t3, rfl⟩, hih⟩ := ih _ (List.getElem_mem hc1) (by omega)
    simp only [Un.cs_eq] at hih
    refine runT_ret hih ?_
    try simp only [go_sem, ↓reduceIte, reduceCtorEq, Nat.reduceEqDiff, Nat.reduceLT, Nat.reduceAdd, Nat.reduceMul, Nat.reduceLeDiff, Nat.reduceSub, hc1]
    refine hJ _ ?_
    clear hJ J
    refine @vc_step Fk _ _ _ _ fun J hJ => ?_
    simp only [go_sem, ↓reduceIte, reduceCtorEq, Nat.reduceEqDiff, Nat.reduceLT, Nat.reduceAdd, Nat.reduceMul, Nat.reduceLeDiff, Nat.reduceSub, hc1]
    have hl5 := u.pids_len i1
    have hl6 := (u.kids[i1]).ids_len
    obtain ⟨tk2, T2, g1, g2, -⟩ := appTok_ok (k := (u.kids[i1]).ids.length) hv1 (Un.ids_pos _)
    refine ⟨?_, tk2, T2, g1, ?_⟩
    · rw [hl5, hl6]; simp [room]; omega
    refine hJ _ ?_
    clear hJ J
    refine @vc_step Fk _ _ _ _ fun J hJ => ?_
    simp only [go_sem, ↓reduceIte, reduceCtorEq, Nat.reduceEqDiff, Nat.reduceLT, Nat.reduceAdd, Nat.reduceMul, Nat.reduceLeDiff, Nat.reduceSub, hc1]
    refine hJ _ ?_
    clear hJ J
    refine vc_nil ?_
    try simp only [go_sem, ↓reduceIte, reduceCtorEq, Nat.reduceEqDiff, Nat.reduceLT, Nat.reduceAdd, Nat.reduceMul, Nat.reduceLeDiff, Nat.reduceSub, hc1]
    try simp only [go_sem, ↓reduceIte, reduceCtorEq, Nat.reduceEqDiff, Nat.reduceLT, Nat.reduceAdd, Nat.reduceMul, Nat.reduceLeDiff, Nat.reduceSub, hc1]
    refine hK8 _ ?_
    refine wp_reg' ?_
    iterate 3 (refine @vc_step Fk _ _ _ _ fun J hJ => ?_; simp only [go_sem, ↓reduceIte, reduceCtorEq, Nat.reduceEqDiff, Nat.reduceLT, Nat.reduceAdd, Nat.reduceMul, Nat.reduceLeDiff, Nat.reduceSub, hc1]; refine hJ _ ?_; clear hJ J)
    refine vc_nil ?_
    try simp only [go_sem, ↓reduceIte, reduceCtorEq, Nat.reduceEqDiff, Nat.reduceLT, Nat.reduceAdd, Nat.reduceMul, Nat.reduceLeDiff, Nat.reduceSub, hc1]
    refine hK5 _ _ _ ⟨hc1, (tk2, T2), by rw [Un.pids_succ _ _ hc1, List.length_append]; exact g2, ?_, rfl, rfl⟩
    rw [wrap64 (n := ((i1 : Nat) : Int) + 1) (by omega) (by omega)]
    rw [Un.pids_succ _ _ hc1, List.map_append]
    rfl
  · skip
    try simp only [decide_eq_true_eq, decide_eq_false_iff_not, Bool.not_eq_true', Bool.not_eq_false', beq_iff_eq, bne_iff_ne, beq_eq_false_iff_ne, Int.ofNat_lt, Int.not_lt, Bool.and_eq_true, ne_eq, bne_eq_false_iff_eq] at hc1
    have hn2 : i1 = u.kids.length := by omega
    subst hn2
    refine wp_exit' ?_
    try simp only [go_sem, ↓reduceIte, reduceCtorEq, Nat.reduceEqDiff, Nat.reduceLT, Nat.reduceAdd, Nat.reduceMul, Nat.reduceLeDiff, Nat.reduceSub]
    try simp only [go_sem, ↓reduceIte, reduceCtorEq, Nat.reduceEqDiff, Nat.reduceLT, Nat.reduceAdd, Nat.reduceMul, Nat.reduceLeDiff, Nat.reduceSub]
    refine hK3 _ ?_
    refine wp_seq_k' fun K9 hK9 => ?_
    refine wp_reg' ?_
    iterate 2 (refine @vc_step Fk _ _ _ _ fun J hJ => ?_; simp only [go_sem, ↓reduceIte, reduceCtorEq, Nat.reduceEqDiff, Nat.reduceLT, Nat.reduceAdd, Nat.reduceMul, Nat.reduceLeDiff, Nat.reduceSub]; refine hJ _ ?_; clear hJ J)
    refine vc_nil ?_
    try simp only [go_sem, ↓reduceIte, reduceCtorEq, Nat.reduceEqDiff, Nat.reduceLT, Nat.reduceAdd, Nat.reduceMul, Nat.reduceLeDiff, Nat.reduceSub]
    try simp only [go_sem, ↓reduceIte, reduceCtorEq, Nat.reduceEqDiff, Nat.reduceLT, Nat.reduceAdd, Nat.reduceMul, Nat.reduceLeDiff, Nat.reduceSub]
    refine hK9 _ ?_
    refine wp_ret' ?_
    try simp only [go_sem, ↓reduceIte, reduceCtorEq, Nat.reduceEqDiff, Nat.reduceLT, Nat.reduceAdd, Nat.reduceMul, Nat.reduceLeDiff, Nat.reduceSub]
    rw [Un.pids_all]; obtain ⟨t2, ht2⟩ := TD.of x1.1; exact hZ _ _ _ (.sl _ x1.1.pu) (by simp) rfl rfl ⟨t2, by rw [ht2]⟩
theorem all6 : ∀ (u : Un) (hu : u.Ok) (hn : u.cnt ≤ 1048576), ∃ v, (∃ t2 : TD, v = .sl (u.ids.map IdD.cs) t2.tk) ∧ Ret Fk n_pandectref06_All [.agg u.cs] v :=
  Un.ind fun u ih hu hn => all6_step u hu hn fun k hk h => ih k hk (hu.kids k hk) h

theorem all6_call {u : Un} (hu : u.Ok) (hn : u.cnt ≤ 1048576) {H : List AO} {T : List Nat} {Q : Av → List AO → List Nat → Prop} (hq : ∀ (t2 : TD), Q (.sl (u.ids.map IdD.cs) t2.tk) H T) : RunT Fk (.fn n_pandectref06_All) [.agg [.int .i64 u.a, .int .i64 u.b, .int .i64 u.c, .int .i64 u.kind, .str u.label, .sl (u.head.map Wd.cs) u.t1.tk, .sl (u.words.map Wd.cs) u.t2.tk, .sl (u.kids.map Un.cs) u.t3.tk]] H T Q := by
  obtain ⟨_, ⟨t2, rfl⟩, hr⟩ := all6 _ hu hn
  simp only [Un.cs_eq, It.cs_eq, Ac.cs] at hr
  exact runT_ret hr (hq t2)

theorem ids6 (u : Un) (hu : u.Ok) (hn : u.cnt ≤ 1048576) :
    ∃ v, (∃ (b : Bool), v = .bool b) ∧ Ret Fk n_pandectref06_Ids [.agg u.cs] v := by
  refine ret_of_wpP (show Fk n_pandectref06_Ids = some (.fn true 55 c_pandectref06_Ids r_pandectref06_Ids) from rfl) (args' := [.agg u.cs]) (by simp only [stripA, strip_int, strip_bool, strip_str, strip_sl, strip_U, strip_I, strip_A]) (Nat.le_of_ble_eq_true rfl) fun Z hZ => ?_
  unfold c_pandectref06_Ids
  refine wp_norm fun J hJ => ?_
  try simp only [go_sem, ↓reduceIte, reduceCtorEq, Nat.reduceEqDiff, Nat.reduceLT, Nat.reduceAdd, Nat.reduceMul, Nat.reduceLeDiff, Nat.reduceSub, eqVals, eqK, eq1, hpos, Int.toNat_zero, Int.le_refl, hpos2]
  refine hJ _ ?_
  clear hJ J
  obtain ⟨hl1, hl2, hl3, hl4⟩ := hu.len
  obtain ⟨hw1, hw2⟩ := hu.words
  unfold maxL at hl1 hl2 hl3 hl4
  have hpos := u.ids_pos
  have hpos2 : (0 : Int) < (u.ids.length : Int) := by omega
  have hlen := u.ids_len
  refine wp_seq_k' fun K1 hK1 => ?_
  refine wp_reg' ?_
  iterate 2 (refine @vc_step Fk _ _ _ _ fun J hJ => ?_; simp only [go_sem, ↓reduceIte, reduceCtorEq, Nat.reduceEqDiff, Nat.reduceLT, Nat.reduceAdd, Nat.reduceMul, Nat.reduceLeDiff, Nat.reduceSub, eqVals, eqK, eq1, hpos, Int.toNat_zero, Int.le_refl, hpos2]; refine hJ _ ?_; clear hJ J)
  refine vc_nil ?_
  try simp only [go_sem, ↓reduceIte, reduceCtorEq, Nat.reduceEqDiff, Nat.reduceLT, Nat.reduceAdd, Nat.reduceMul, Nat.reduceLeDiff, Nat.reduceSub, eqVals, eqK, eq1, hpos, Int.toNat_zero, Int.le_refl, hpos2]
  try simp only [go_sem, ↓reduceIte, reduceCtorEq, Nat.reduceEqDiff, Nat.reduceLT, Nat.reduceAdd, Nat.reduceMul, Nat.reduceLeDiff, Nat.reduceSub, eqVals, eqK, eq1, hpos, Int.toNat_zero, Int.le_refl, hpos2]
  refine hK1 _ ?_
  refine wp_seq_k' fun K2 hK2 => ?_
  refine wp_reg' ?_
  refine @vc_step Fk _ _ _ _ fun J hJ => ?_
  simp only [go_sem, ↓reduceIte, reduceCtorEq, Nat.reduceEqDiff, Nat.reduceLT, Nat.reduceAdd, Nat.reduceMul, Nat.reduceLeDiff, Nat.reduceSub, eqVals, eqK, eq1, hpos, Int.toNat_zero, Int.le_refl, hpos2]
  refine hJ _ ?_
  clear hJ J
  refine @vc_step Fk _ _ _ _ fun J hJ => ?_
  simp only [go_sem, ↓reduceIte, reduceCtorEq, Nat.reduceEqDiff, Nat.reduceLT, Nat.reduceAdd, Nat.reduceMul, Nat.reduceLeDiff, Nat.reduceSub, eqVals, eqK, eq1, hpos, Int.toNat_zero, Int.le_refl, hpos2]
  refine all6_call  (by first | assumption | omega | exact List.getElem_mem _) (by first | assumption | omega | exact List.getElem_mem _) fun t21 => ?_
  try simp only [go_sem, ↓reduceIte, reduceCtorEq, Nat.reduceEqDiff, Nat.reduceLT, Nat.reduceAdd, Nat.reduceMul, Nat.reduceLeDiff, Nat.reduceSub, eqVals, eqK, eq1, hpos, Int.toNat_zero, Int.le_refl, hpos2]
  refine hJ _ ?_
  clear hJ J
  refine @vc_step Fk _ _ _ _ fun J hJ => ?_
  simp only [go_sem, ↓reduceIte, reduceCtorEq, Nat.reduceEqDiff, Nat.reduceLT, Nat.reduceAdd, Nat.reduceMul, Nat.reduceLeDiff, Nat.reduceSub, eqVals, eqK, eq1, hpos, Int.toNat_zero, Int.le_refl, hpos2]
  refine hJ _ ?_
  clear hJ J
  refine vc_nil ?_
  try simp only [go_sem, ↓reduceIte, reduceCtorEq, Nat.reduceEqDiff, Nat.reduceLT, Nat.reduceAdd, Nat.reduceMul, Nat.reduceLeDiff, Nat.reduceSub, eqVals, eqK, eq1, hpos, Int.toNat_zero, Int.le_refl, hpos2]
  try simp only [go_sem, ↓reduceIte, reduceCtorEq, Nat.reduceEqDiff, Nat.reduceLT, Nat.reduceAdd, Nat.reduceMul, Nat.reduceLeDiff, Nat.reduceSub, eqVals, eqK, eq1, hpos, Int.toNat_zero, Int.le_refl, hpos2]
  refine hK2 _ ?_
  refine wp_seq_k' fun K3 hK3 => ?_
  refine wp_reg' ?_
  refine @vc_step Fk _ _ _ _ fun J hJ => ?_
  simp only [go_sem, ↓reduceIte, reduceCtorEq, Nat.reduceEqDiff, Nat.reduceLT, Nat.reduceAdd, Nat.reduceMul, Nat.reduceLeDiff, Nat.reduceSub, eqVals, eqK, eq1, hpos, Int.toNat_zero, Int.le_refl, hpos2]
  refine hJ _ ?_
  clear hJ J
  refine vc_nil ?_
  try simp only [go_sem, ↓reduceIte, reduceCtorEq, Nat.reduceEqDiff, Nat.reduceLT, Nat.reduceAdd, Nat.reduceMul, Nat.reduceLeDiff, Nat.reduceSub, eqVals, eqK, eq1, hpos, Int.toNat_zero, Int.le_refl, hpos2]
  try simp only [go_sem, ↓reduceIte, reduceCtorEq, Nat.reduceEqDiff, Nat.reduceLT, Nat.reduceAdd, Nat.reduceMul, Nat.reduceLeDiff, Nat.reduceSub, eqVals, eqK, eq1, hpos, Int.toNat_zero, Int.le_refl, hpos2]
  refine hK3 _ ?_
  refine wp_seq_k' fun K4 hK4 => ?_
  refine wp_seq_k' fun K5 hK5 => ?_
  refine wp_reg' ?_
  refine @vc_step Fk _ _ _ _ fun J hJ => ?_
  simp only [go_sem, ↓reduceIte, reduceCtorEq, Nat.reduceEqDiff, Nat.reduceLT, Nat.reduceAdd, Nat.reduceMul, Nat.reduceLeDiff, Nat.reduceSub, eqVals, eqK, eq1, hpos, Int.toNat_zero, Int.le_refl, hpos2]
  refine hJ _ ?_
  clear hJ J
  refine vc_nil ?_
  try simp only [go_sem, ↓reduceIte, reduceCtorEq, Nat.reduceEqDiff, Nat.reduceLT, Nat.reduceAdd, Nat.reduceMul, Nat.reduceLeDiff, Nat.reduceSub, eqVals, eqK, eq1, hpos, Int.toNat_zero, Int.le_refl, hpos2]
  try simp only [go_sem, ↓reduceIte, reduceCtorEq, Nat.reduceEqDiff, Nat.reduceLT, Nat.reduceAdd, Nat.reduceMul, Nat.reduceLeDiff, Nat.reduceSub, eqVals, eqK, eq1, hpos, Int.toNat_zero, Int.le_refl, hpos2]
  refine hK5 _ ?_
  refine wp_block' ?_
  refine wp_forU (ι := Bool) (u.ids.length) (fun i1 x1 => [(4, .bool x1), (5, .int .i64 (i1 : Nat))]) (fun i1 x1 => _) (fun i1 x1 => _) (fun i1 x1 => True) true (by rfl) rfl rfl (by trivial) fun i1 x1 hi1 hv1 K6 hK6 => ?_
  refine wp_norm fun J hJ => ?_
  try simp only [go_sem, ↓reduceIte, reduceCtorEq, Nat.reduceEqDiff, Nat.reduceLT, Nat.reduceAdd, Nat.reduceMul, Nat.reduceLeDiff, Nat.reduceSub, eqVals, eqK, eq1, hpos, Int.toNat_zero, Int.le_refl, hpos2]
  refine hJ _ ?_
  clear hJ J
  refine wp_seq_k' fun K7 hK7 => ?_
  refine wp_seq_k' fun K8 hK8 => ?_
  refine wp_reg' ?_
  iterate 4 (refine @vc_step Fk _ _ _ _ fun J hJ => ?_; simp only [go_sem, ↓reduceIte, reduceCtorEq, Nat.reduceEqDiff, Nat.reduceLT, Nat.reduceAdd, Nat.reduceMul, Nat.reduceLeDiff, Nat.reduceSub, eqVals, eqK, eq1, hpos, Int.toNat_zero, Int.le_refl, hpos2]; refine hJ _ ?_; clear hJ J)
  refine vc_nil ?_
  try simp only [go_sem, ↓reduceIte, reduceCtorEq, Nat.reduceEqDiff, Nat.reduceLT, Nat.reduceAdd, Nat.reduceMul, Nat.reduceLeDiff, Nat.reduceSub, eqVals, eqK, eq1, hpos, Int.toNat_zero, Int.le_refl, hpos2]
  try simp only [go_sem, ↓reduceIte, reduceCtorEq, Nat.reduceEqDiff, Nat.reduceLT, Nat.reduceAdd, Nat.reduceMul, Nat.reduceLeDiff, Nat.reduceSub, eqVals, eqK, eq1, hpos, Int.toNat_zero, Int.le_refl, hpos2]
  refine hK8 _ ?_
  refine wp_cond' rfl (fun hc1 => ?_) (fun hc1 => ?_)
  · skip
    try simp only [decide_eq_true_eq, decide_eq_false_iff_not, Bool.not_eq_true', Bool.not_eq_false', beq_iff_eq, bne_iff_ne, beq_eq_false_iff_ne, Int.ofNat_lt, Int.not_lt, Bool.and_eq_true, ne_eq, bne_eq_false_iff_eq] at hc1
    refine wp_skip' ?_
    try simp only [go_sem, ↓reduceIte, reduceCtorEq, Nat.reduceEqDiff, Nat.reduceLT, Nat.reduceAdd, Nat.reduceMul, Nat.reduceLeDiff, Nat.reduceSub, eqVals, eqK, eq1, hpos, Int.toNat_zero, Int.le_refl, hpos2, hc1]
    try simp only [go_sem, ↓reduceIte, reduceCtorEq, Nat.reduceEqDiff, Nat.reduceLT, Nat.reduceAdd, Nat.reduceMul, Nat.reduceLeDiff, Nat.reduceSub, eqVals, eqK, eq1, hpos, Int.toNat_zero, Int.le_refl, hpos2, hc1]
    refine hK7 _ ?_
    refine wp_seq_k' fun K9 hK9 => ?_
    refine wp_block' ?_
    refine wp_reg' ?_
    iterate 2 (refine @vc_step Fk _ _ _ _ fun J hJ => ?_; simp only [go_sem, ↓reduceIte, reduceCtorEq, Nat.reduceEqDiff, Nat.reduceLT, Nat.reduceAdd, Nat.reduceMul, Nat.reduceLeDiff, Nat.reduceSub, eqVals, eqK, eq1, hpos, Int.toNat_zero, Int.le_refl, hpos2, hc1]; refine hJ _ ?_; clear hJ J)
    refine @vc_gd Fk _ _ _ _ 17 (by rfl) (fun hg1 => ?_) (fun hg1 => ?_)
    · skip
      have hg1n := hg1
      try simp only [decide_eq_true_eq, decide_eq_false_iff_not, Bool.not_eq_true', Bool.not_eq_false', beq_iff_eq, bne_iff_ne, beq_eq_false_iff_ne, Int.ofNat_lt, Int.not_lt, Bool.and_eq_true, ne_eq, bne_eq_false_iff_eq] at hg1n
      iterate 2 (refine @vc_step Fk _ _ _ _ fun J hJ => ?_; simp only [go_sem, ↓reduceIte, reduceCtorEq, Nat.reduceEqDiff, Nat.reduceLT, Nat.reduceAdd, Nat.reduceMul, Nat.reduceLeDiff, Nat.reduceSub, eqVals, eqK, eq1, hpos, Int.toNat_zero, Int.le_refl, hpos2, hc1, hg1]; refine hJ _ ?_; clear hJ J)
      refine @vc_step Fk _ _ _ _ fun J hJ => ?_
      simp only [go_sem, ↓reduceIte, reduceCtorEq, Nat.reduceEqDiff, Nat.reduceLT, Nat.reduceAdd, Nat.reduceMul, Nat.reduceLeDiff, Nat.reduceSub, eqVals, eqK, eq1, hpos, Int.toNat_zero, Int.le_refl, hpos2, hc1, hg1]
      first | refine hJ _ ?_ | refine ⟨by first | assumption | omega | exact List.getElem_mem _, hJ _ ?_⟩ | refine ⟨by first | assumption | omega | exact List.getElem_mem _, by first | assumption | omega | exact List.getElem_mem _, hJ _ ?_⟩
      clear hJ J
      iterate 5 (refine @vc_step Fk _ _ _ _ fun J hJ => ?_; simp only [go_sem, ↓reduceIte, reduceCtorEq, Nat.reduceEqDiff, Nat.reduceLT, Nat.reduceAdd, Nat.reduceMul, Nat.reduceLeDiff, Nat.reduceSub, eqVals, eqK, eq1, hpos, Int.toNat_zero, Int.le_refl, hpos2, hc1, hg1]; refine hJ _ ?_; clear hJ J)
      refine vc_nil ?_
      try simp only [go_sem, ↓reduceIte, reduceCtorEq, Nat.reduceEqDiff, Nat.reduceLT, Nat.reduceAdd, Nat.reduceMul, Nat.reduceLeDiff, Nat.reduceSub, eqVals, eqK, eq1, hpos, Int.toNat_zero, Int.le_refl, hpos2, hc1]
      try simp only [go_sem, ↓reduceIte, reduceCtorEq, Nat.reduceEqDiff, Nat.reduceLT, Nat.reduceAdd, Nat.reduceMul, Nat.reduceLeDiff, Nat.reduceSub, eqVals, eqK, eq1, hpos, Int.toNat_zero, Int.le_refl, hpos2, hc1]
      refine hK9 _ ?_
      refine wp_reg' ?_
      iterate 3 (refine @vc_step Fk _ _ _ _ fun J hJ => ?_; simp only [go_sem, ↓reduceIte, reduceCtorEq, Nat.reduceEqDiff, Nat.reduceLT, Nat.reduceAdd, Nat.reduceMul, Nat.reduceLeDiff, Nat.reduceSub, eqVals, eqK, eq1, hpos, Int.toNat_zero, Int.le_refl, hpos2, hc1]; refine hJ _ ?_; clear hJ J)
      refine vc_nil ?_
      try simp only [go_sem, ↓reduceIte, reduceCtorEq, Nat.reduceEqDiff, Nat.reduceLT, Nat.reduceAdd, Nat.reduceMul, Nat.reduceLeDiff, Nat.reduceSub, eqVals, eqK, eq1, hpos, Int.toNat_zero, Int.le_refl, hpos2, hc1]
      refine hK6 _ _ _ ⟨by assumption, ?_⟩
      apply Exists.intro
      refine ⟨by trivial, ?_, rfl, rfl⟩
      rw [wrap64 (n := ((i1 : Nat) : Int) + 1) (by omega) (by omega)]
      rfl
    · skip
      have hg1n := hg1
      try simp only [decide_eq_true_eq, decide_eq_false_iff_not, Bool.not_eq_true', Bool.not_eq_false', beq_iff_eq, bne_iff_ne, beq_eq_false_iff_ne, Int.ofNat_lt, Int.not_lt, Bool.and_eq_true, ne_eq, bne_eq_false_iff_eq] at hg1n
      iterate 8 (refine @vc_step Fk _ _ _ _ fun J hJ => ?_; simp only [go_sem, ↓reduceIte, reduceCtorEq, Nat.reduceEqDiff, Nat.reduceLT, Nat.reduceAdd, Nat.reduceMul, Nat.reduceLeDiff, Nat.reduceSub, eqVals, eqK, eq1, hpos, Int.toNat_zero, Int.le_refl, hpos2, hc1, hg1]; refine hJ _ ?_; clear hJ J)
      refine vc_nil ?_
      try simp only [go_sem, ↓reduceIte, reduceCtorEq, Nat.reduceEqDiff, Nat.reduceLT, Nat.reduceAdd, Nat.reduceMul, Nat.reduceLeDiff, Nat.reduceSub, eqVals, eqK, eq1, hpos, Int.toNat_zero, Int.le_refl, hpos2, hc1]
      try simp only [go_sem, ↓reduceIte, reduceCtorEq, Nat.reduceEqDiff, Nat.reduceLT, Nat.reduceAdd, Nat.reduceMul, Nat.reduceLeDiff, Nat.reduceSub, eqVals, eqK, eq1, hpos, Int.toNat_zero, Int.le_refl, hpos2, hc1]
      refine hK9 _ ?_
      refine wp_reg' ?_
      iterate 3 (refine @vc_step Fk _ _ _ _ fun J hJ => ?_; simp only [go_sem, ↓reduceIte, reduceCtorEq, Nat.reduceEqDiff, Nat.reduceLT, Nat.reduceAdd, Nat.reduceMul, Nat.reduceLeDiff, Nat.reduceSub, eqVals, eqK, eq1, hpos, Int.toNat_zero, Int.le_refl, hpos2, hc1]; refine hJ _ ?_; clear hJ J)
      refine vc_nil ?_
      try simp only [go_sem, ↓reduceIte, reduceCtorEq, Nat.reduceEqDiff, Nat.reduceLT, Nat.reduceAdd, Nat.reduceMul, Nat.reduceLeDiff, Nat.reduceSub, eqVals, eqK, eq1, hpos, Int.toNat_zero, Int.le_refl, hpos2, hc1]
      refine hK6 _ _ _ ⟨by assumption, ?_⟩
      apply Exists.intro
      refine ⟨by trivial, ?_, rfl, rfl⟩
      rw [wrap64 (n := ((i1 : Nat) : Int) + 1) (by omega) (by omega)]
      rfl
  · skip
    try simp only [decide_eq_true_eq, decide_eq_false_iff_not, Bool.not_eq_true', Bool.not_eq_false', beq_iff_eq, bne_iff_ne, beq_eq_false_iff_ne, Int.ofNat_lt, Int.not_lt, Bool.and_eq_true, ne_eq, bne_eq_false_iff_eq] at hc1
    refine wp_exit' ?_
    try simp only [go_sem, ↓reduceIte, reduceCtorEq, Nat.reduceEqDiff, Nat.reduceLT, Nat.reduceAdd, Nat.reduceMul, Nat.reduceLeDiff, Nat.reduceSub, eqVals, eqK, eq1, hpos, Int.toNat_zero, Int.le_refl, hpos2, hc1]
    try simp only [go_sem, ↓reduceIte, reduceCtorEq, Nat.reduceEqDiff, Nat.reduceLT, Nat.reduceAdd, Nat.reduceMul, Nat.reduceLeDiff, Nat.reduceSub, eqVals, eqK, eq1, hpos, Int.toNat_zero, Int.le_refl, hpos2, hc1]
    refine hK4 _ ?_
    refine wp_seq_k' fun K10 hK10 => ?_
    refine wp_seq_k' fun K11 hK11 => ?_
    refine wp_reg' ?_
    refine @vc_step Fk _ _ _ _ fun J hJ => ?_
    simp only [go_sem, ↓reduceIte, reduceCtorEq, Nat.reduceEqDiff, Nat.reduceLT, Nat.reduceAdd, Nat.reduceMul, Nat.reduceLeDiff, Nat.reduceSub, eqVals, eqK, eq1, hpos, Int.toNat_zero, Int.le_refl, hpos2, hc1]
    refine hJ _ ?_
    clear hJ J
    refine vc_nil ?_
    try simp only [go_sem, ↓reduceIte, reduceCtorEq, Nat.reduceEqDiff, Nat.reduceLT, Nat.reduceAdd, Nat.reduceMul, Nat.reduceLeDiff, Nat.reduceSub, eqVals, eqK, eq1, hpos, Int.toNat_zero, Int.le_refl, hpos2, hc1]
    try simp only [go_sem, ↓reduceIte, reduceCtorEq, Nat.reduceEqDiff, Nat.reduceLT, Nat.reduceAdd, Nat.reduceMul, Nat.reduceLeDiff, Nat.reduceSub, eqVals, eqK, eq1, hpos, Int.toNat_zero, Int.le_refl, hpos2, hc1]
    refine hK11 _ ?_
    refine wp_cond' rfl (fun hc2 => ?_) (fun hc2 => ?_)
    · skip
      try simp only [decide_eq_true_eq, decide_eq_false_iff_not, Bool.not_eq_true', Bool.not_eq_false', beq_iff_eq, bne_iff_ne, beq_eq_false_iff_ne, Int.ofNat_lt, Int.not_lt, Bool.and_eq_true, ne_eq, bne_eq_false_iff_eq] at hc2
      refine wp_seq_k' fun K12 hK12 => ?_
      refine wp_reg' ?_
      refine @vc_step Fk _ _ _ _ fun J hJ => ?_
      simp only [go_sem, ↓reduceIte, reduceCtorEq, Nat.reduceEqDiff, Nat.reduceLT, Nat.reduceAdd, Nat.reduceMul, Nat.reduceLeDiff, Nat.reduceSub, eqVals, eqK, eq1, hpos, Int.toNat_zero, Int.le_refl, hpos2, hc1]
      refine hJ _ ?_
      clear hJ J
      refine vc_nil ?_
      try simp only [go_sem, ↓reduceIte, reduceCtorEq, Nat.reduceEqDiff, Nat.reduceLT, Nat.reduceAdd, Nat.reduceMul, Nat.reduceLeDiff, Nat.reduceSub, eqVals, eqK, eq1, hpos, Int.toNat_zero, Int.le_refl, hpos2, hc1]
      try simp only [go_sem, ↓reduceIte, reduceCtorEq, Nat.reduceEqDiff, Nat.reduceLT, Nat.reduceAdd, Nat.reduceMul, Nat.reduceLeDiff, Nat.reduceSub, eqVals, eqK, eq1, hpos, Int.toNat_zero, Int.le_refl, hpos2, hc1]
      refine hK12 _ ?_
      refine wp_ret' ?_
      try simp only [go_sem, ↓reduceIte, reduceCtorEq, Nat.reduceEqDiff, Nat.reduceLT, Nat.reduceAdd, Nat.reduceMul, Nat.reduceLeDiff, Nat.reduceSub, eqVals, eqK, eq1, hpos, Int.toNat_zero, Int.le_refl, hpos2, hc1]
      exact hZ _ _ _ _ (by simp) rfl rfl ⟨_, rfl⟩
    · skip
      try simp only [decide_eq_true_eq, decide_eq_false_iff_not, Bool.not_eq_true', Bool.not_eq_false', beq_iff_eq, bne_iff_ne, beq_eq_false_iff_ne, Int.ofNat_lt, Int.not_lt, Bool.and_eq_true, ne_eq, bne_eq_false_iff_eq] at hc2
      refine wp_skip' ?_
      try simp only [go_sem, ↓reduceIte, reduceCtorEq, Nat.reduceEqDiff, Nat.reduceLT, Nat.reduceAdd, Nat.reduceMul, Nat.reduceLeDiff, Nat.reduceSub, eqVals, eqK, eq1, hpos, Int.toNat_zero, Int.le_refl, hpos2, hc1]
      try simp only [go_sem, ↓reduceIte, reduceCtorEq, Nat.reduceEqDiff, Nat.reduceLT, Nat.reduceAdd, Nat.reduceMul, Nat.reduceLeDiff, Nat.reduceSub, eqVals, eqK, eq1, hpos, Int.toNat_zero, Int.le_refl, hpos2, hc1]
      refine hK10 _ ?_
      refine wp_seq_k' fun K13 hK13 => ?_
      refine wp_seq_k' fun K14 hK14 => ?_
      refine wp_draw' (by rfl) ?_
      refine @vc_step Fk _ _ _ _ fun J hJ => ?_
      simp only [go_sem, ↓reduceIte, reduceCtorEq, Nat.reduceEqDiff, Nat.reduceLT, Nat.reduceAdd, Nat.reduceMul, Nat.reduceLeDiff, Nat.reduceSub, eqVals, eqK, eq1, hpos, Int.toNat_zero, Int.le_refl, hpos2, hc1]
      refine hJ _ ?_
      clear hJ J
      refine @vc_step Fk _ _ _ _ fun J hJ => ?_
      simp only [go_sem, ↓reduceIte, reduceCtorEq, Nat.reduceEqDiff, Nat.reduceLT, Nat.reduceAdd, Nat.reduceMul, Nat.reduceLeDiff, Nat.reduceSub, eqVals, eqK, eq1, hpos, Int.toNat_zero, Int.le_refl, hpos2, hc1]
      first | refine hJ _ ?_ | refine ⟨by first | assumption | omega | exact List.getElem_mem _, hJ _ ?_⟩ | refine ⟨by first | assumption | omega | exact List.getElem_mem _, by first | assumption | omega | exact List.getElem_mem _, hJ _ ?_⟩
      clear hJ J
      iterate 7 (refine @vc_step Fk _ _ _ _ fun J hJ => ?_; simp only [go_sem, ↓reduceIte, reduceCtorEq, Nat.reduceEqDiff, Nat.reduceLT, Nat.reduceAdd, Nat.reduceMul, Nat.reduceLeDiff, Nat.reduceSub, eqVals, eqK, eq1, hpos, Int.toNat_zero, Int.le_refl, hpos2, hc1]; refine hJ _ ?_; clear hJ J)
      refine vc_nil ?_
      try simp only [go_sem, ↓reduceIte, reduceCtorEq, Nat.reduceEqDiff, Nat.reduceLT, Nat.reduceAdd, Nat.reduceMul, Nat.reduceLeDiff, Nat.reduceSub, eqVals, eqK, eq1, hpos, Int.toNat_zero, Int.le_refl, hpos2, hc1]
      try simp only [go_sem, ↓reduceIte, reduceCtorEq, Nat.reduceEqDiff, Nat.reduceLT, Nat.reduceAdd, Nat.reduceMul, Nat.reduceLeDiff, Nat.reduceSub, eqVals, eqK, eq1, hpos, Int.toNat_zero, Int.le_refl, hpos2, hc1]
      refine hK14 _ ?_
      refine wp_cond' rfl (fun hc3 => ?_) (fun hc3 => ?_)
      · skip
        try simp only [decide_eq_true_eq, decide_eq_false_iff_not, Bool.not_eq_true', Bool.not_eq_false', beq_iff_eq, bne_iff_ne, beq_eq_false_iff_ne, Int.ofNat_lt, Int.not_lt, Bool.and_eq_true, ne_eq, bne_eq_false_iff_eq] at hc3
        refine wp_seq_k' fun K15 hK15 => ?_
        refine wp_reg' ?_
        refine @vc_step Fk _ _ _ _ fun J hJ => ?_
        simp only [go_sem, ↓reduceIte, reduceCtorEq, Nat.reduceEqDiff, Nat.reduceLT, Nat.reduceAdd, Nat.reduceMul, Nat.reduceLeDiff, Nat.reduceSub, eqVals, eqK, eq1, hpos, Int.toNat_zero, Int.le_refl, hpos2, hc1]
        refine hJ _ ?_
        clear hJ J
        refine vc_nil ?_
        try simp only [go_sem, ↓reduceIte, reduceCtorEq, Nat.reduceEqDiff, Nat.reduceLT, Nat.reduceAdd, Nat.reduceMul, Nat.reduceLeDiff, Nat.reduceSub, eqVals, eqK, eq1, hpos, Int.toNat_zero, Int.le_refl, hpos2, hc1]
        try simp only [go_sem, ↓reduceIte, reduceCtorEq, Nat.reduceEqDiff, Nat.reduceLT, Nat.reduceAdd, Nat.reduceMul, Nat.reduceLeDiff, Nat.reduceSub, eqVals, eqK, eq1, hpos, Int.toNat_zero, Int.le_refl, hpos2, hc1]
        refine hK15 _ ?_
        refine wp_ret' ?_
        try simp only [go_sem, ↓reduceIte, reduceCtorEq, Nat.reduceEqDiff, Nat.reduceLT, Nat.reduceAdd, Nat.reduceMul, Nat.reduceLeDiff, Nat.reduceSub, eqVals, eqK, eq1, hpos, Int.toNat_zero, Int.le_refl, hpos2, hc1]
        exact hZ _ _ _ _ (by simp) rfl rfl ⟨_, rfl⟩
      · skip
        try simp only [decide_eq_true_eq, decide_eq_false_iff_not, Bool.not_eq_true', Bool.not_eq_false', beq_iff_eq, bne_iff_ne, beq_eq_false_iff_ne, Int.ofNat_lt, Int.not_lt, Bool.and_eq_true, ne_eq, bne_eq_false_iff_eq] at hc3
        refine wp_skip' ?_
        try simp only [go_sem, ↓reduceIte, reduceCtorEq, Nat.reduceEqDiff, Nat.reduceLT, Nat.reduceAdd, Nat.reduceMul, Nat.reduceLeDiff, Nat.reduceSub, eqVals, eqK, eq1, hpos, Int.toNat_zero, Int.le_refl, hpos2, hc1]
        try simp only [go_sem, ↓reduceIte, reduceCtorEq, Nat.reduceEqDiff, Nat.reduceLT, Nat.reduceAdd, Nat.reduceMul, Nat.reduceLeDiff, Nat.reduceSub, eqVals, eqK, eq1, hpos, Int.toNat_zero, Int.le_refl, hpos2, hc1]
        refine hK13 _ ?_
        refine wp_seq_k' fun K16 hK16 => ?_
        refine wp_seq_k' fun K17 hK17 => ?_
        refine wp_reg' ?_
        refine @vc_step Fk _ _ _ _ fun J hJ => ?_
        simp only [go_sem, ↓reduceIte, reduceCtorEq, Nat.reduceEqDiff, Nat.reduceLT, Nat.reduceAdd, Nat.reduceMul, Nat.reduceLeDiff, Nat.reduceSub, eqVals, eqK, eq1, hpos, Int.toNat_zero, Int.le_refl, hpos2, hc1]
        refine hJ _ ?_
        clear hJ J
        refine vc_nil ?_
        try simp only [go_sem, ↓reduceIte, reduceCtorEq, Nat.reduceEqDiff, Nat.reduceLT, Nat.reduceAdd, Nat.reduceMul, Nat.reduceLeDiff, Nat.reduceSub, eqVals, eqK, eq1, hpos, Int.toNat_zero, Int.le_refl, hpos2, hc1]
        try simp only [go_sem, ↓reduceIte, reduceCtorEq, Nat.reduceEqDiff, Nat.reduceLT, Nat.reduceAdd, Nat.reduceMul, Nat.reduceLeDiff, Nat.reduceSub, eqVals, eqK, eq1, hpos, Int.toNat_zero, Int.le_refl, hpos2, hc1]
        refine hK17 _ ?_
        refine wp_block' ?_
        refine wp_forU (ι := Unit) (u.ids.length) (fun i2 x2 => [(6, .int .i64 (i2 : Nat))]) (fun i2 x2 => _) (fun i2 x2 => _) (fun i2 x2 => True) () (by rfl) rfl rfl (by trivial) fun i2 x2 hi2 hv2 K18 hK18 => ?_
        refine wp_norm fun J hJ => ?_
        try simp only [go_sem, ↓reduceIte, reduceCtorEq, Nat.reduceEqDiff, Nat.reduceLT, Nat.reduceAdd, Nat.reduceMul, Nat.reduceLeDiff, Nat.reduceSub, eqVals, eqK, eq1, hpos, Int.toNat_zero, Int.le_refl, hpos2, hc1]
        refine hJ _ ?_
        clear hJ J
        refine wp_seq_k' fun K19 hK19 => ?_
        refine wp_seq_k' fun K20 hK20 => ?_
        refine wp_reg' ?_
        iterate 4 (refine @vc_step Fk _ _ _ _ fun J hJ => ?_; simp only [go_sem, ↓reduceIte, reduceCtorEq, Nat.reduceEqDiff, Nat.reduceLT, Nat.reduceAdd, Nat.reduceMul, Nat.reduceLeDiff, Nat.reduceSub, eqVals, eqK, eq1, hpos, Int.toNat_zero, Int.le_refl, hpos2, hc1]; refine hJ _ ?_; clear hJ J)
        refine vc_nil ?_
        try simp only [go_sem, ↓reduceIte, reduceCtorEq, Nat.reduceEqDiff, Nat.reduceLT, Nat.reduceAdd, Nat.reduceMul, Nat.reduceLeDiff, Nat.reduceSub, eqVals, eqK, eq1, hpos, Int.toNat_zero, Int.le_refl, hpos2, hc1]
        try simp only [go_sem, ↓reduceIte, reduceCtorEq, Nat.reduceEqDiff, Nat.reduceLT, Nat.reduceAdd, Nat.reduceMul, Nat.reduceLeDiff, Nat.reduceSub, eqVals, eqK, eq1, hpos, Int.toNat_zero, Int.le_refl, hpos2, hc1]
        refine hK20 _ ?_
        refine wp_cond' rfl (fun hc4 => ?_) (fun hc4 => ?_)
        · skip
          try simp only [decide_eq_true_eq, decide_eq_false_iff_not, Bool.not_eq_true', Bool.not_eq_false', beq_iff_eq, bne_iff_ne, beq_eq_false_iff_ne, Int.ofNat_lt, Int.not_lt, Bool.and_eq_true, ne_eq, bne_eq_false_iff_eq] at hc4
          refine wp_skip' ?_
          try simp only [go_sem, ↓reduceIte, reduceCtorEq, Nat.reduceEqDiff, Nat.reduceLT, Nat.reduceAdd, Nat.reduceMul, Nat.reduceLeDiff, Nat.reduceSub, eqVals, eqK, eq1, hpos, Int.toNat_zero, Int.le_refl, hpos2, hc1, hc4]
          try simp only [go_sem, ↓reduceIte, reduceCtorEq, Nat.reduceEqDiff, Nat.reduceLT, Nat.reduceAdd, Nat.reduceMul, Nat.reduceLeDiff, Nat.reduceSub, eqVals, eqK, eq1, hpos, Int.toNat_zero, Int.le_refl, hpos2, hc1, hc4]
          refine hK19 _ ?_
          refine wp_seq_k' fun K21 hK21 => ?_
          refine wp_block' ?_
          refine wp_seq_k' fun K22 hK22 => ?_
          refine wp_reg' ?_
          refine @vc_step Fk _ _ _ _ fun J hJ => ?_
          simp only [go_sem, ↓reduceIte, reduceCtorEq, Nat.reduceEqDiff, Nat.reduceLT, Nat.reduceAdd, Nat.reduceMul, Nat.reduceLeDiff, Nat.reduceSub, eqVals, eqK, eq1, hpos, Int.toNat_zero, Int.le_refl, hpos2, hc1, hc4]
          refine hJ _ ?_
          clear hJ J
          refine vc_nil ?_
          try simp only [go_sem, ↓reduceIte, reduceCtorEq, Nat.reduceEqDiff, Nat.reduceLT, Nat.reduceAdd, Nat.reduceMul, Nat.reduceLeDiff, Nat.reduceSub, eqVals, eqK, eq1, hpos, Int.toNat_zero, Int.le_refl, hpos2, hc1, hc4]
          try simp only [go_sem, ↓reduceIte, reduceCtorEq, Nat.reduceEqDiff, Nat.reduceLT, Nat.reduceAdd, Nat.reduceMul, Nat.reduceLeDiff, Nat.reduceSub, eqVals, eqK, eq1, hpos, Int.toNat_zero, Int.le_refl, hpos2, hc1, hc4]
          refine hK22 _ ?_
          refine wp_block' ?_
          refine wp_forU (ι := Unit) (i2) (fun i3 x3 => [(7, .int .i64 (i3 : Nat))]) (fun i3 x3 => _) (fun i3 x3 => _) (fun i3 x3 => True) () (by rfl) rfl rfl (by trivial) fun i3 x3 hi3 hv3 K23 hK23 => ?_
          refine wp_norm fun J hJ => ?_
          try simp only [go_sem, ↓reduceIte, reduceCtorEq, Nat.reduceEqDiff, Nat.reduceLT, Nat.reduceAdd, Nat.reduceMul, Nat.reduceLeDiff, Nat.reduceSub, eqVals, eqK, eq1, hpos, Int.toNat_zero, Int.le_refl, hpos2, hc1, hc4]
          refine hJ _ ?_
          clear hJ J
          refine wp_seq_k' fun K24 hK24 => ?_
          refine wp_seq_k' fun K25 hK25 => ?_
          refine wp_reg' ?_
          iterate 3 (refine @vc_step Fk _ _ _ _ fun J hJ => ?_; simp only [go_sem, ↓reduceIte, reduceCtorEq, Nat.reduceEqDiff, Nat.reduceLT, Nat.reduceAdd, Nat.reduceMul, Nat.reduceLeDiff, Nat.reduceSub, eqVals, eqK, eq1, hpos, Int.toNat_zero, Int.le_refl, hpos2, hc1, hc4]; refine hJ _ ?_; clear hJ J)
          refine vc_nil ?_
          try simp only [go_sem, ↓reduceIte, reduceCtorEq, Nat.reduceEqDiff, Nat.reduceLT, Nat.reduceAdd, Nat.reduceMul, Nat.reduceLeDiff, Nat.reduceSub, eqVals, eqK, eq1, hpos, Int.toNat_zero, Int.le_refl, hpos2, hc1, hc4]
          try simp only [go_sem, ↓reduceIte, reduceCtorEq, Nat.reduceEqDiff, Nat.reduceLT, Nat.reduceAdd, Nat.reduceMul, Nat.reduceLeDiff, Nat.reduceSub, eqVals, eqK, eq1, hpos, Int.toNat_zero, Int.le_refl, hpos2, hc1, hc4]
          refine hK25 _ ?_
          refine wp_cond' rfl (fun hc5 => ?_) (fun hc5 => ?_)
          · skip
            try simp only [decide_eq_true_eq, decide_eq_false_iff_not, Bool.not_eq_true', Bool.not_eq_false', beq_iff_eq, bne_iff_ne, beq_eq_false_iff_ne, Int.ofNat_lt, Int.not_lt, Bool.and_eq_true, ne_eq, bne_eq_false_iff_eq] at hc5
            have hc5u : i3 < u.ids.length := by omega
            refine wp_skip' ?_
            try simp only [go_sem, ↓reduceIte, reduceCtorEq, Nat.reduceEqDiff, Nat.reduceLT, Nat.reduceAdd, Nat.reduceMul, Nat.reduceLeDiff, Nat.reduceSub, eqVals, eqK, eq1, hpos, Int.toNat_zero, Int.le_refl, hpos2, hc1, hc4, hc5, hc5u]
            try simp only [go_sem, ↓reduceIte, reduceCtorEq, Nat.reduceEqDiff, Nat.reduceLT, Nat.reduceAdd, Nat.reduceMul, Nat.reduceLeDiff, Nat.reduceSub, eqVals, eqK, eq1, hpos, Int.toNat_zero, Int.le_refl, hpos2, hc1, hc4, hc5, hc5u]
            refine hK24 _ ?_
            refine wp_seq_k' fun K26 hK26 => ?_
            refine wp_block' ?_
            refine wp_seq_k' fun K27 hK27 => ?_
            refine wp_draw' (by rfl) ?_
            iterate 2 (refine @vc_step Fk _ _ _ _ fun J hJ => ?_; simp only [go_sem, ↓reduceIte, reduceCtorEq, Nat.reduceEqDiff, Nat.reduceLT, Nat.reduceAdd, Nat.reduceMul, Nat.reduceLeDiff, Nat.reduceSub, eqVals, eqK, eq1, hpos, Int.toNat_zero, Int.le_refl, hpos2, hc1, hc4, hc5, hc5u]; refine hJ _ ?_; clear hJ J)
            refine @vc_step Fk _ _ _ _ fun J hJ => ?_
            simp only [go_sem, ↓reduceIte, reduceCtorEq, Nat.reduceEqDiff, Nat.reduceLT, Nat.reduceAdd, Nat.reduceMul, Nat.reduceLeDiff, Nat.reduceSub, eqVals, eqK, eq1, hpos, Int.toNat_zero, Int.le_refl, hpos2, hc1, hc4, hc5, hc5u]
            first | refine hJ _ ?_ | refine ⟨by first | assumption | omega | exact List.getElem_mem _, hJ _ ?_⟩ | refine ⟨by first | assumption | omega | exact List.getElem_mem _, by first | assumption | omega | exact List.getElem_mem _, hJ _ ?_⟩
            clear hJ J
            iterate 3 (refine @vc_step Fk _ _ _ _ fun J hJ => ?_; simp only [go_sem, ↓reduceIte, reduceCtorEq, Nat.reduceEqDiff, Nat.reduceLT, Nat.reduceAdd, Nat.reduceMul, Nat.reduceLeDiff, Nat.reduceSub, eqVals, eqK, eq1, hpos, Int.toNat_zero, Int.le_refl, hpos2, hc1, hc4, hc5, hc5u]; refine hJ _ ?_; clear hJ J)
            refine @vc_step Fk _ _ _ _ fun J hJ => ?_
            simp only [go_sem, ↓reduceIte, reduceCtorEq, Nat.reduceEqDiff, Nat.reduceLT, Nat.reduceAdd, Nat.reduceMul, Nat.reduceLeDiff, Nat.reduceSub, eqVals, eqK, eq1, hpos, Int.toNat_zero, Int.le_refl, hpos2, hc1, hc4, hc5, hc5u]
            first | refine hJ _ ?_ | refine ⟨by first | assumption | omega | exact List.getElem_mem _, hJ _ ?_⟩ | refine ⟨by first | assumption | omega | exact List.getElem_mem _, by first | assumption | omega | exact List.getElem_mem _, hJ _ ?_⟩
            clear hJ J
            iterate 2 (refine @vc_step Fk _ _ _ _ fun J hJ => ?_; simp only [go_sem, ↓reduceIte, reduceCtorEq, Nat.reduceEqDiff, Nat.reduceLT, Nat.reduceAdd, Nat.reduceMul, Nat.reduceLeDiff, Nat.reduceSub, eqVals, eqK, eq1, hpos, Int.toNat_zero, Int.le_refl, hpos2, hc1, hc4, hc5, hc5u]; refine hJ _ ?_; clear hJ J)
            refine vc_nil ?_
            try simp only [go_sem, ↓reduceIte, reduceCtorEq, Nat.reduceEqDiff, Nat.reduceLT, Nat.reduceAdd, Nat.reduceMul, Nat.reduceLeDiff, Nat.reduceSub, eqVals, eqK, eq1, hpos, Int.toNat_zero, Int.le_refl, hpos2, hc1, hc4, hc5, hc5u]
            try simp only [go_sem, ↓reduceIte, reduceCtorEq, Nat.reduceEqDiff, Nat.reduceLT, Nat.reduceAdd, Nat.reduceMul, Nat.reduceLeDiff, Nat.reduceSub, eqVals, eqK, eq1, hpos, Int.toNat_zero, Int.le_refl, hpos2, hc1, hc4, hc5, hc5u]
            refine hK27 _ ?_
            refine wp_cond' rfl (fun hc6 => ?_) (fun hc6 => ?_)
            · skip
              try simp only [decide_eq_true_eq, decide_eq_false_iff_not, Bool.not_eq_true', Bool.not_eq_false', beq_iff_eq, bne_iff_ne, beq_eq_false_iff_ne, Int.ofNat_lt, Int.not_lt, Bool.and_eq_true, ne_eq, bne_eq_false_iff_eq] at hc6
              refine wp_seq_k' fun K28 hK28 => ?_
              refine wp_reg' ?_
              refine @vc_step Fk _ _ _ _ fun J hJ => ?_
              simp only [go_sem, ↓reduceIte, reduceCtorEq, Nat.reduceEqDiff, Nat.reduceLT, Nat.reduceAdd, Nat.reduceMul, Nat.reduceLeDiff, Nat.reduceSub, eqVals, eqK, eq1, hpos, Int.toNat_zero, Int.le_refl, hpos2, hc1, hc4, hc5, hc5u]
              refine hJ _ ?_
              clear hJ J
              refine vc_nil ?_
              try simp only [go_sem, ↓reduceIte, reduceCtorEq, Nat.reduceEqDiff, Nat.reduceLT, Nat.reduceAdd, Nat.reduceMul, Nat.reduceLeDiff, Nat.reduceSub, eqVals, eqK, eq1, hpos, Int.toNat_zero, Int.le_refl, hpos2, hc1, hc4, hc5, hc5u]
              try simp only [go_sem, ↓reduceIte, reduceCtorEq, Nat.reduceEqDiff, Nat.reduceLT, Nat.reduceAdd, Nat.reduceMul, Nat.reduceLeDiff, Nat.reduceSub, eqVals, eqK, eq1, hpos, Int.toNat_zero, Int.le_refl, hpos2, hc1, hc4, hc5, hc5u]
              refine hK28 _ ?_
              refine wp_ret' ?_
              try simp only [go_sem, ↓reduceIte, reduceCtorEq, Nat.reduceEqDiff, Nat.reduceLT, Nat.reduceAdd, Nat.reduceMul, Nat.reduceLeDiff, Nat.reduceSub, eqVals, eqK, eq1, hpos, Int.toNat_zero, Int.le_refl, hpos2, hc1, hc4, hc5, hc5u]
              exact hZ _ _ _ _ (by simp) rfl rfl ⟨_, rfl⟩
            · skip
              try simp only [decide_eq_true_eq, decide_eq_false_iff_not, Bool.not_eq_true', Bool.not_eq_false', beq_iff_eq, bne_iff_ne, beq_eq_false_iff_ne, Int.ofNat_lt, Int.not_lt, Bool.and_eq_true, ne_eq, bne_eq_false_iff_eq] at hc6
              refine wp_skip' ?_
              try simp only [go_sem, ↓reduceIte, reduceCtorEq, Nat.reduceEqDiff, Nat.reduceLT, Nat.reduceAdd, Nat.reduceMul, Nat.reduceLeDiff, Nat.reduceSub, eqVals, eqK, eq1, hpos, Int.toNat_zero, Int.le_refl, hpos2, hc1, hc4, hc5, hc5u]
              try simp only [go_sem, ↓reduceIte, reduceCtorEq, Nat.reduceEqDiff, Nat.reduceLT, Nat.reduceAdd, Nat.reduceMul, Nat.reduceLeDiff, Nat.reduceSub, eqVals, eqK, eq1, hpos, Int.toNat_zero, Int.le_refl, hpos2, hc1, hc4, hc5, hc5u]
              refine hK26 _ ?_
              refine wp_reg' ?_
              iterate 3 (refine @vc_step Fk _ _ _ _ fun J hJ => ?_; simp only [go_sem, ↓reduceIte, reduceCtorEq, Nat.reduceEqDiff, Nat.reduceLT, Nat.reduceAdd, Nat.reduceMul, Nat.reduceLeDiff, Nat.reduceSub, eqVals, eqK, eq1, hpos, Int.toNat_zero, Int.le_refl, hpos2, hc1, hc4, hc5, hc5u]; refine hJ _ ?_; clear hJ J)
              refine vc_nil ?_
              try simp only [go_sem, ↓reduceIte, reduceCtorEq, Nat.reduceEqDiff, Nat.reduceLT, Nat.reduceAdd, Nat.reduceMul, Nat.reduceLeDiff, Nat.reduceSub, eqVals, eqK, eq1, hpos, Int.toNat_zero, Int.le_refl, hpos2, hc1, hc4, hc5, hc5u]
              refine hK23 _ _ _ ⟨by assumption, (), by trivial, ?_, rfl, rfl⟩
              rw [wrap64 (n := ((i3 : Nat) : Int) + 1) (by omega) (by omega)]
              rfl
          · skip
            try simp only [decide_eq_true_eq, decide_eq_false_iff_not, Bool.not_eq_true', Bool.not_eq_false', beq_iff_eq, bne_iff_ne, beq_eq_false_iff_ne, Int.ofNat_lt, Int.not_lt, Bool.and_eq_true, ne_eq, bne_eq_false_iff_eq] at hc5
            refine wp_exit' ?_
            try simp only [go_sem, ↓reduceIte, reduceCtorEq, Nat.reduceEqDiff, Nat.reduceLT, Nat.reduceAdd, Nat.reduceMul, Nat.reduceLeDiff, Nat.reduceSub, eqVals, eqK, eq1, hpos, Int.toNat_zero, Int.le_refl, hpos2, hc1, hc4, hc5]
            try simp only [go_sem, ↓reduceIte, reduceCtorEq, Nat.reduceEqDiff, Nat.reduceLT, Nat.reduceAdd, Nat.reduceMul, Nat.reduceLeDiff, Nat.reduceSub, eqVals, eqK, eq1, hpos, Int.toNat_zero, Int.le_refl, hpos2, hc1, hc4, hc5]
            refine hK21 _ ?_
            refine wp_reg' ?_
            iterate 3 (refine @vc_step Fk _ _ _ _ fun J hJ => ?_; simp only [go_sem, ↓reduceIte, reduceCtorEq, Nat.reduceEqDiff, Nat.reduceLT, Nat.reduceAdd, Nat.reduceMul, Nat.reduceLeDiff, Nat.reduceSub, eqVals, eqK, eq1, hpos, Int.toNat_zero, Int.le_refl, hpos2, hc1, hc4, hc5]; refine hJ _ ?_; clear hJ J)
            refine vc_nil ?_
            try simp only [go_sem, ↓reduceIte, reduceCtorEq, Nat.reduceEqDiff, Nat.reduceLT, Nat.reduceAdd, Nat.reduceMul, Nat.reduceLeDiff, Nat.reduceSub, eqVals, eqK, eq1, hpos, Int.toNat_zero, Int.le_refl, hpos2, hc1, hc4, hc5]
            refine hK18 _ _ _ ⟨by assumption, (), by trivial, ?_, rfl, rfl⟩
            rw [wrap64 (n := ((i2 : Nat) : Int) + 1) (by omega) (by omega)]
            rfl
        · skip
          try simp only [decide_eq_true_eq, decide_eq_false_iff_not, Bool.not_eq_true', Bool.not_eq_false', beq_iff_eq, bne_iff_ne, beq_eq_false_iff_ne, Int.ofNat_lt, Int.not_lt, Bool.and_eq_true, ne_eq, bne_eq_false_iff_eq] at hc4
          refine wp_exit' ?_
          try simp only [go_sem, ↓reduceIte, reduceCtorEq, Nat.reduceEqDiff, Nat.reduceLT, Nat.reduceAdd, Nat.reduceMul, Nat.reduceLeDiff, Nat.reduceSub, eqVals, eqK, eq1, hpos, Int.toNat_zero, Int.le_refl, hpos2, hc1, hc4]
          try simp only [go_sem, ↓reduceIte, reduceCtorEq, Nat.reduceEqDiff, Nat.reduceLT, Nat.reduceAdd, Nat.reduceMul, Nat.reduceLeDiff, Nat.reduceSub, eqVals, eqK, eq1, hpos, Int.toNat_zero, Int.le_refl, hpos2, hc1, hc4]
          refine hK16 _ ?_
          refine wp_seq_k' fun K29 hK29 => ?_
          refine wp_reg' ?_
          refine @vc_step Fk _ _ _ _ fun J hJ => ?_
          simp only [go_sem, ↓reduceIte, reduceCtorEq, Nat.reduceEqDiff, Nat.reduceLT, Nat.reduceAdd, Nat.reduceMul, Nat.reduceLeDiff, Nat.reduceSub, eqVals, eqK, eq1, hpos, Int.toNat_zero, Int.le_refl, hpos2, hc1, hc4]
          refine hJ _ ?_
          clear hJ J
          refine vc_nil ?_
          try simp only [go_sem, ↓reduceIte, reduceCtorEq, Nat.reduceEqDiff, Nat.reduceLT, Nat.reduceAdd, Nat.reduceMul, Nat.reduceLeDiff, Nat.reduceSub, eqVals, eqK, eq1, hpos, Int.toNat_zero, Int.le_refl, hpos2, hc1, hc4]
          try simp only [go_sem, ↓reduceIte, reduceCtorEq, Nat.reduceEqDiff, Nat.reduceLT, Nat.reduceAdd, Nat.reduceMul, Nat.reduceLeDiff, Nat.reduceSub, eqVals, eqK, eq1, hpos, Int.toNat_zero, Int.le_refl, hpos2, hc1, hc4]
          refine hK29 _ ?_
          refine wp_ret' ?_
          try simp only [go_sem, ↓reduceIte, reduceCtorEq, Nat.reduceEqDiff, Nat.reduceLT, Nat.reduceAdd, Nat.reduceMul, Nat.reduceLeDiff, Nat.reduceSub, eqVals, eqK, eq1, hpos, Int.toNat_zero, Int.le_refl, hpos2, hc1, hc4]
          exact hZ _ _ _ _ (by simp) rfl rfl ⟨_, rfl⟩
theorem ids6_call {u : Un} (hu : u.Ok) (hn : u.cnt ≤ 1048576) {H : List AO} {T : List Nat} {Q : Av → List AO → List Nat → Prop} (hq : ∀ (b : Bool), Q (.bool b) H T) : RunT Fk (.fn n_pandectref06_Ids) [.agg [.int .i64 u.a, .int .i64 u.b, .int .i64 u.c, .int .i64 u.kind, .str u.label, .sl (u.head.map Wd.cs) u.t1.tk, .sl (u.words.map Wd.cs) u.t2.tk, .sl (u.kids.map Un.cs) u.t3.tk]] H T Q := by
  obtain ⟨_, ⟨b, rfl⟩, hr⟩ := ids6 _ hu hn
  simp only [Un.cs_eq, It.cs_eq, Ac.cs] at hr
  exact runT_ret hr (hq b)

theorem may6 (u : Un) (hu : u.Ok) (hn : u.cnt ≤ 1048576) :
    ∃ v, (∃ (b : Bool), v = .bool b) ∧ Ret Fk n_pandectref06_May [.agg u.cs] v := by
  refine ret_of_wpP (show Fk n_pandectref06_May = some (.fn true 19 c_pandectref06_May r_pandectref06_May) from rfl) (args' := [.agg u.cs]) (by simp only [stripA, strip_int, strip_bool, strip_str, strip_sl, strip_U, strip_I, strip_A]) (Nat.le_of_ble_eq_true rfl) fun Z hZ => ?_
  unfold c_pandectref06_May
  refine wp_norm fun J hJ => ?_
  try simp only [go_sem, ↓reduceIte, reduceCtorEq, Nat.reduceEqDiff, Nat.reduceLT, Nat.reduceAdd, Nat.reduceMul, Nat.reduceLeDiff, Nat.reduceSub]
  refine hJ _ ?_
  clear hJ J
  obtain ⟨hl1, hl2, hl3, hl4⟩ := hu.len
  obtain ⟨hw1, hw2⟩ := hu.words
  unfold maxL at hl1 hl2 hl3 hl4
  refine wp_seq_k' fun K1 hK1 => ?_
  refine wp_reg' ?_
  iterate 2 (refine @vc_step Fk _ _ _ _ fun J hJ => ?_; simp only [go_sem, ↓reduceIte, reduceCtorEq, Nat.reduceEqDiff, Nat.reduceLT, Nat.reduceAdd, Nat.reduceMul, Nat.reduceLeDiff, Nat.reduceSub]; refine hJ _ ?_; clear hJ J)
  refine vc_nil ?_
  try simp only [go_sem, ↓reduceIte, reduceCtorEq, Nat.reduceEqDiff, Nat.reduceLT, Nat.reduceAdd, Nat.reduceMul, Nat.reduceLeDiff, Nat.reduceSub]
  try simp only [go_sem, ↓reduceIte, reduceCtorEq, Nat.reduceEqDiff, Nat.reduceLT, Nat.reduceAdd, Nat.reduceMul, Nat.reduceLeDiff, Nat.reduceSub]
  refine hK1 _ ?_
  refine wp_seq_k' fun K2 hK2 => ?_
  refine wp_reg' ?_
  refine vc_merge (K := K2) (ks := [2]) (d := 2) (fun b2 => True) (fun b2 hb2 => ?_) fun M2 hM2 => ?_
  · skip
    try simp only [go_sem, ↓reduceIte, reduceCtorEq, Nat.reduceEqDiff, Nat.reduceLT, Nat.reduceAdd, Nat.reduceMul, Nat.reduceLeDiff, Nat.reduceSub]
    refine hK2 _ ?_
    refine wp_ret' ?_
    try simp only [go_sem, ↓reduceIte, reduceCtorEq, Nat.reduceEqDiff, Nat.reduceLT, Nat.reduceAdd, Nat.reduceMul, Nat.reduceLeDiff, Nat.reduceSub]
    exact hZ _ _ _ _ (by simp) rfl rfl ⟨_, rfl⟩
  · skip
    refine @vc_step Fk _ _ _ _ fun J hJ => ?_
    simp only [go_sem, ↓reduceIte, reduceCtorEq, Nat.reduceEqDiff, Nat.reduceLT, Nat.reduceAdd, Nat.reduceMul, Nat.reduceLeDiff, Nat.reduceSub]
    refine hJ _ ?_
    clear hJ J
    refine @vc_step Fk _ _ _ _ fun J hJ => ?_
    simp only [go_sem, ↓reduceIte, reduceCtorEq, Nat.reduceEqDiff, Nat.reduceLT, Nat.reduceAdd, Nat.reduceMul, Nat.reduceLeDiff, Nat.reduceSub]
    refine right_call  (by first | assumption | omega | exact List.getElem_mem _) fun b1 => ?_
    try simp only [go_sem, ↓reduceIte, reduceCtorEq, Nat.reduceEqDiff, Nat.reduceLT, Nat.reduceAdd, Nat.reduceMul, Nat.reduceLeDiff, Nat.reduceSub]
    refine hJ _ ?_
    clear hJ J
    refine @vc_step Fk _ _ _ _ fun J hJ => ?_
    simp only [go_sem, ↓reduceIte, reduceCtorEq, Nat.reduceEqDiff, Nat.reduceLT, Nat.reduceAdd, Nat.reduceMul, Nat.reduceLeDiff, Nat.reduceSub]
    refine hJ _ ?_
    clear hJ J
    refine @vc_gd Fk _ _ _ _ 5 (by rfl) (fun hg1 => ?_) (fun hg1 => ?_)
    · skip
      have hg1n := hg1
      try simp only [decide_eq_true_eq, decide_eq_false_iff_not, Bool.not_eq_true', Bool.not_eq_false', beq_iff_eq, bne_iff_ne, beq_eq_false_iff_ne, Int.ofNat_lt, Int.not_lt, Bool.and_eq_true, ne_eq, bne_eq_false_iff_eq] at hg1n
      refine @vc_step Fk _ _ _ _ fun J hJ => ?_
      simp only [go_sem, ↓reduceIte, reduceCtorEq, Nat.reduceEqDiff, Nat.reduceLT, Nat.reduceAdd, Nat.reduceMul, Nat.reduceLeDiff, Nat.reduceSub, hg1]
      refine hJ _ ?_
      clear hJ J
      refine @vc_step Fk _ _ _ _ fun J hJ => ?_
      simp only [go_sem, ↓reduceIte, reduceCtorEq, Nat.reduceEqDiff, Nat.reduceLT, Nat.reduceAdd, Nat.reduceMul, Nat.reduceLeDiff, Nat.reduceSub, hg1]
      refine depth_call  (by first | assumption | omega | exact List.getElem_mem _) fun n2 => ?_
      try simp only [go_sem, ↓reduceIte, reduceCtorEq, Nat.reduceEqDiff, Nat.reduceLT, Nat.reduceAdd, Nat.reduceMul, Nat.reduceLeDiff, Nat.reduceSub, hg1]
      refine hJ _ ?_
      clear hJ J
      iterate 3 (refine @vc_step Fk _ _ _ _ fun J hJ => ?_; simp only [go_sem, ↓reduceIte, reduceCtorEq, Nat.reduceEqDiff, Nat.reduceLT, Nat.reduceAdd, Nat.reduceMul, Nat.reduceLeDiff, Nat.reduceSub, hg1]; refine hJ _ ?_; clear hJ J)
      refine @vc_gd Fk _ _ _ _ 10 (by rfl) (fun hg2 => ?_) (fun hg2 => ?_)
      · skip
        have hg2n := hg2
        try simp only [decide_eq_true_eq, decide_eq_false_iff_not, Bool.not_eq_true', Bool.not_eq_false', beq_iff_eq, bne_iff_ne, beq_eq_false_iff_ne, Int.ofNat_lt, Int.not_lt, Bool.and_eq_true, ne_eq, bne_eq_false_iff_eq] at hg2n
        refine @vc_step Fk _ _ _ _ fun J hJ => ?_
        simp only [go_sem, ↓reduceIte, reduceCtorEq, Nat.reduceEqDiff, Nat.reduceLT, Nat.reduceAdd, Nat.reduceMul, Nat.reduceLeDiff, Nat.reduceSub, hg1, hg2]
        refine hJ _ ?_
        clear hJ J
        refine @vc_step Fk _ _ _ _ fun J hJ => ?_
        simp only [go_sem, ↓reduceIte, reduceCtorEq, Nat.reduceEqDiff, Nat.reduceLT, Nat.reduceAdd, Nat.reduceMul, Nat.reduceLeDiff, Nat.reduceSub, hg1, hg2]
        refine count_call  (by first | assumption | omega | exact List.getElem_mem _) fun n3 => ?_
        try simp only [go_sem, ↓reduceIte, reduceCtorEq, Nat.reduceEqDiff, Nat.reduceLT, Nat.reduceAdd, Nat.reduceMul, Nat.reduceLeDiff, Nat.reduceSub, hg1, hg2]
        refine hJ _ ?_
        clear hJ J
        iterate 3 (refine @vc_step Fk _ _ _ _ fun J hJ => ?_; simp only [go_sem, ↓reduceIte, reduceCtorEq, Nat.reduceEqDiff, Nat.reduceLT, Nat.reduceAdd, Nat.reduceMul, Nat.reduceLeDiff, Nat.reduceSub, hg1, hg2]; refine hJ _ ?_; clear hJ J)
        refine @vc_gd Fk _ _ _ _ 15 (by rfl) (fun hg3 => ?_) (fun hg3 => ?_)
        · skip
          have hg3n := hg3
          try simp only [decide_eq_true_eq, decide_eq_false_iff_not, Bool.not_eq_true', Bool.not_eq_false', beq_iff_eq, bne_iff_ne, beq_eq_false_iff_ne, Int.ofNat_lt, Int.not_lt, Bool.and_eq_true, ne_eq, bne_eq_false_iff_eq] at hg3n
          refine @vc_step Fk _ _ _ _ fun J hJ => ?_
          simp only [go_sem, ↓reduceIte, reduceCtorEq, Nat.reduceEqDiff, Nat.reduceLT, Nat.reduceAdd, Nat.reduceMul, Nat.reduceLeDiff, Nat.reduceSub, hg1, hg2, hg3]
          refine hJ _ ?_
          clear hJ J
          refine @vc_step Fk _ _ _ _ fun J hJ => ?_
          simp only [go_sem, ↓reduceIte, reduceCtorEq, Nat.reduceEqDiff, Nat.reduceLT, Nat.reduceAdd, Nat.reduceMul, Nat.reduceLeDiff, Nat.reduceSub, hg1, hg2, hg3]
          refine ids6_call  (by first | assumption | omega | exact List.getElem_mem _) (by first | assumption | omega | exact List.getElem_mem _) fun b4 => ?_
          try simp only [go_sem, ↓reduceIte, reduceCtorEq, Nat.reduceEqDiff, Nat.reduceLT, Nat.reduceAdd, Nat.reduceMul, Nat.reduceLeDiff, Nat.reduceSub, hg1, hg2, hg3]
          refine hJ _ ?_
          clear hJ J
          iterate 2 (refine @vc_step Fk _ _ _ _ fun J hJ => ?_; simp only [go_sem, ↓reduceIte, reduceCtorEq, Nat.reduceEqDiff, Nat.reduceLT, Nat.reduceAdd, Nat.reduceMul, Nat.reduceLeDiff, Nat.reduceSub, hg1, hg2, hg3]; refine hJ _ ?_; clear hJ J)
          refine vc_nil ?_
          exact hM2 _ _ (trivial) rfl
        · skip
          have hg3n := hg3
          try simp only [decide_eq_true_eq, decide_eq_false_iff_not, Bool.not_eq_true', Bool.not_eq_false', beq_iff_eq, bne_iff_ne, beq_eq_false_iff_ne, Int.ofNat_lt, Int.not_lt, Bool.and_eq_true, ne_eq, bne_eq_false_iff_eq] at hg3n
          iterate 4 (refine @vc_step Fk _ _ _ _ fun J hJ => ?_; simp only [go_sem, ↓reduceIte, reduceCtorEq, Nat.reduceEqDiff, Nat.reduceLT, Nat.reduceAdd, Nat.reduceMul, Nat.reduceLeDiff, Nat.reduceSub, hg1, hg2, hg3]; refine hJ _ ?_; clear hJ J)
          refine vc_nil ?_
          exact hM2 _ _ (trivial) rfl
      · skip
        have hg2n := hg2
        try simp only [decide_eq_true_eq, decide_eq_false_iff_not, Bool.not_eq_true', Bool.not_eq_false', beq_iff_eq, bne_iff_ne, beq_eq_false_iff_ne, Int.ofNat_lt, Int.not_lt, Bool.and_eq_true, ne_eq, bne_eq_false_iff_eq] at hg2n
        iterate 9 (refine @vc_step Fk _ _ _ _ fun J hJ => ?_; simp only [go_sem, ↓reduceIte, reduceCtorEq, Nat.reduceEqDiff, Nat.reduceLT, Nat.reduceAdd, Nat.reduceMul, Nat.reduceLeDiff, Nat.reduceSub, hg1, hg2]; refine hJ _ ?_; clear hJ J)
        refine vc_nil ?_
        exact hM2 _ _ (trivial) rfl
    · skip
      have hg1n := hg1
      try simp only [decide_eq_true_eq, decide_eq_false_iff_not, Bool.not_eq_true', Bool.not_eq_false', beq_iff_eq, bne_iff_ne, beq_eq_false_iff_ne, Int.ofNat_lt, Int.not_lt, Bool.and_eq_true, ne_eq, bne_eq_false_iff_eq] at hg1n
      iterate 14 (refine @vc_step Fk _ _ _ _ fun J hJ => ?_; simp only [go_sem, ↓reduceIte, reduceCtorEq, Nat.reduceEqDiff, Nat.reduceLT, Nat.reduceAdd, Nat.reduceMul, Nat.reduceLeDiff, Nat.reduceSub, hg1]; refine hJ _ ?_; clear hJ J)
      refine vc_nil ?_
      exact hM2 _ _ (trivial) rfl
theorem may6_call {u : Un} (hu : u.Ok) (hn : u.cnt ≤ 1048576) {H : List AO} {T : List Nat} {Q : Av → List AO → List Nat → Prop} (hq : ∀ (b : Bool), Q (.bool b) H T) : RunT Fk (.fn n_pandectref06_May) [.agg [.int .i64 u.a, .int .i64 u.b, .int .i64 u.c, .int .i64 u.kind, .str u.label, .sl (u.head.map Wd.cs) u.t1.tk, .sl (u.words.map Wd.cs) u.t2.tk, .sl (u.kids.map Un.cs) u.t3.tk]] H T Q := by
  obtain ⟨_, ⟨b, rfl⟩, hr⟩ := may6 _ hu hn
  simp only [Un.cs_eq, It.cs_eq, Ac.cs] at hr
  exact runT_ret hr (hq b)

theorem stands8 (u : Un) (hu : u.Ok) (hn : u.cnt ≤ 1048576) :
    ∃ v, (∃ (b : Bool), v = .bool b) ∧ Ret Fk n_pandectref08_Stands [.agg u.cs] v := by
  refine ret_of_wpP (show Fk n_pandectref08_Stands = some (.fn true 9 c_pandectref08_Stands r_pandectref08_Stands) from rfl) (args' := [.agg u.cs]) (by simp only [stripA, strip_int, strip_bool, strip_str, strip_sl, strip_U, strip_I, strip_A]) (Nat.le_of_ble_eq_true rfl) fun Z hZ => ?_
  unfold c_pandectref08_Stands
  refine wp_norm fun J hJ => ?_
  try simp only [go_sem, ↓reduceIte, reduceCtorEq, Nat.reduceEqDiff, Nat.reduceLT, Nat.reduceAdd, Nat.reduceMul, Nat.reduceLeDiff, Nat.reduceSub]
  refine hJ _ ?_
  clear hJ J
  obtain ⟨hl1, hl2, hl3, hl4⟩ := hu.len
  obtain ⟨hw1, hw2⟩ := hu.words
  unfold maxL at hl1 hl2 hl3 hl4
  refine wp_seq_k' fun K1 hK1 => ?_
  refine wp_reg' ?_
  iterate 2 (refine @vc_step Fk _ _ _ _ fun J hJ => ?_; simp only [go_sem, ↓reduceIte, reduceCtorEq, Nat.reduceEqDiff, Nat.reduceLT, Nat.reduceAdd, Nat.reduceMul, Nat.reduceLeDiff, Nat.reduceSub]; refine hJ _ ?_; clear hJ J)
  refine vc_nil ?_
  try simp only [go_sem, ↓reduceIte, reduceCtorEq, Nat.reduceEqDiff, Nat.reduceLT, Nat.reduceAdd, Nat.reduceMul, Nat.reduceLeDiff, Nat.reduceSub]
  try simp only [go_sem, ↓reduceIte, reduceCtorEq, Nat.reduceEqDiff, Nat.reduceLT, Nat.reduceAdd, Nat.reduceMul, Nat.reduceLeDiff, Nat.reduceSub]
  refine hK1 _ ?_
  refine wp_seq_k' fun K2 hK2 => ?_
  refine wp_reg' ?_
  refine vc_merge (K := K2) (ks := [2]) (d := 2) (fun b2 => True) (fun b2 hb2 => ?_) fun M2 hM2 => ?_
  · skip
    try simp only [go_sem, ↓reduceIte, reduceCtorEq, Nat.reduceEqDiff, Nat.reduceLT, Nat.reduceAdd, Nat.reduceMul, Nat.reduceLeDiff, Nat.reduceSub]
    refine hK2 _ ?_
    refine wp_ret' ?_
    try simp only [go_sem, ↓reduceIte, reduceCtorEq, Nat.reduceEqDiff, Nat.reduceLT, Nat.reduceAdd, Nat.reduceMul, Nat.reduceLeDiff, Nat.reduceSub]
    exact hZ _ _ _ _ (by simp) rfl rfl ⟨_, rfl⟩
  · skip
    refine @vc_step Fk _ _ _ _ fun J hJ => ?_
    simp only [go_sem, ↓reduceIte, reduceCtorEq, Nat.reduceEqDiff, Nat.reduceLT, Nat.reduceAdd, Nat.reduceMul, Nat.reduceLeDiff, Nat.reduceSub]
    refine hJ _ ?_
    clear hJ J
    refine @vc_step Fk _ _ _ _ fun J hJ => ?_
    simp only [go_sem, ↓reduceIte, reduceCtorEq, Nat.reduceEqDiff, Nat.reduceLT, Nat.reduceAdd, Nat.reduceMul, Nat.reduceLeDiff, Nat.reduceSub]
    refine may6_call  (by first | assumption | omega | exact List.getElem_mem _) (by first | assumption | omega | exact List.getElem_mem _) fun b1 => ?_
    try simp only [go_sem, ↓reduceIte, reduceCtorEq, Nat.reduceEqDiff, Nat.reduceLT, Nat.reduceAdd, Nat.reduceMul, Nat.reduceLeDiff, Nat.reduceSub]
    refine hJ _ ?_
    clear hJ J
    refine @vc_step Fk _ _ _ _ fun J hJ => ?_
    simp only [go_sem, ↓reduceIte, reduceCtorEq, Nat.reduceEqDiff, Nat.reduceLT, Nat.reduceAdd, Nat.reduceMul, Nat.reduceLeDiff, Nat.reduceSub]
    refine hJ _ ?_
    clear hJ J
    refine @vc_gd Fk _ _ _ _ 5 (by rfl) (fun hg1 => ?_) (fun hg1 => ?_)
    · skip
      have hg1n := hg1
      try simp only [decide_eq_true_eq, decide_eq_false_iff_not, Bool.not_eq_true', Bool.not_eq_false', beq_iff_eq, bne_iff_ne, beq_eq_false_iff_ne, Int.ofNat_lt, Int.not_lt, Bool.and_eq_true, ne_eq, bne_eq_false_iff_eq] at hg1n
      refine @vc_step Fk _ _ _ _ fun J hJ => ?_
      simp only [go_sem, ↓reduceIte, reduceCtorEq, Nat.reduceEqDiff, Nat.reduceLT, Nat.reduceAdd, Nat.reduceMul, Nat.reduceLeDiff, Nat.reduceSub, hg1]
      refine hJ _ ?_
      clear hJ J
      refine @vc_step Fk _ _ _ _ fun J hJ => ?_
      simp only [go_sem, ↓reduceIte, reduceCtorEq, Nat.reduceEqDiff, Nat.reduceLT, Nat.reduceAdd, Nat.reduceMul, Nat.reduceLeDiff, Nat.reduceSub, hg1]
      refine named_call  (by first | assumption | omega | exact List.getElem_mem _) fun b2 => ?_
      try simp only [go_sem, ↓reduceIte, reduceCtorEq, Nat.reduceEqDiff, Nat.reduceLT, Nat.reduceAdd, Nat.reduceMul, Nat.reduceLeDiff, Nat.reduceSub, hg1]
      refine hJ _ ?_
      clear hJ J
      iterate 2 (refine @vc_step Fk _ _ _ _ fun J hJ => ?_; simp only [go_sem, ↓reduceIte, reduceCtorEq, Nat.reduceEqDiff, Nat.reduceLT, Nat.reduceAdd, Nat.reduceMul, Nat.reduceLeDiff, Nat.reduceSub, hg1]; refine hJ _ ?_; clear hJ J)
      refine vc_nil ?_
      exact hM2 _ _ (trivial) rfl
    · skip
      have hg1n := hg1
      try simp only [decide_eq_true_eq, decide_eq_false_iff_not, Bool.not_eq_true', Bool.not_eq_false', beq_iff_eq, bne_iff_ne, beq_eq_false_iff_ne, Int.ofNat_lt, Int.not_lt, Bool.and_eq_true, ne_eq, bne_eq_false_iff_eq] at hg1n
      iterate 4 (refine @vc_step Fk _ _ _ _ fun J hJ => ?_; simp only [go_sem, ↓reduceIte, reduceCtorEq, Nat.reduceEqDiff, Nat.reduceLT, Nat.reduceAdd, Nat.reduceMul, Nat.reduceLeDiff, Nat.reduceSub, hg1]; refine hJ _ ?_; clear hJ J)
      refine vc_nil ?_
      exact hM2 _ _ (trivial) rfl
theorem stands8_call {u : Un} (hu : u.Ok) (hn : u.cnt ≤ 1048576) {H : List AO} {T : List Nat} {Q : Av → List AO → List Nat → Prop} (hq : ∀ (b : Bool), Q (.bool b) H T) : RunT Fk (.fn n_pandectref08_Stands) [.agg [.int .i64 u.a, .int .i64 u.b, .int .i64 u.c, .int .i64 u.kind, .str u.label, .sl (u.head.map Wd.cs) u.t1.tk, .sl (u.words.map Wd.cs) u.t2.tk, .sl (u.kids.map Un.cs) u.t3.tk]] H T Q := by
  obtain ⟨_, ⟨b, rfl⟩, hr⟩ := stands8 _ hu hn
  simp only [Un.cs_eq, It.cs_eq, Ac.cs] at hr
  exact runT_ret hr (hq b)

theorem book26 (u : Un) (hu : u.Ok) (hn : u.cnt ≤ 1048576) :
    ∃ v, (∃ (b : Bool), v = .bool b) ∧ Ret Fk n_pandectref26_Book [.agg u.cs] v := by
  refine ret_of_wpP (show Fk n_pandectref26_Book = some (.fn true 5 c_pandectref26_Book r_pandectref26_Book) from rfl) (args' := [.agg u.cs]) (by simp only [stripA, strip_int, strip_bool, strip_str, strip_sl, strip_U, strip_I, strip_A]) (Nat.le_of_ble_eq_true rfl) fun Z hZ => ?_
  unfold c_pandectref26_Book
  refine wp_norm fun J hJ => ?_
  try simp only [go_sem, ↓reduceIte, reduceCtorEq, Nat.reduceEqDiff, Nat.reduceLT, Nat.reduceAdd, Nat.reduceMul, Nat.reduceLeDiff, Nat.reduceSub]
  refine hJ _ ?_
  clear hJ J
  obtain ⟨hl1, hl2, hl3, hl4⟩ := hu.len
  obtain ⟨hw1, hw2⟩ := hu.words
  unfold maxL at hl1 hl2 hl3 hl4
  refine wp_seq_k' fun K1 hK1 => ?_
  refine wp_reg' ?_
  iterate 2 (refine @vc_step Fk _ _ _ _ fun J hJ => ?_; simp only [go_sem, ↓reduceIte, reduceCtorEq, Nat.reduceEqDiff, Nat.reduceLT, Nat.reduceAdd, Nat.reduceMul, Nat.reduceLeDiff, Nat.reduceSub]; refine hJ _ ?_; clear hJ J)
  refine vc_nil ?_
  try simp only [go_sem, ↓reduceIte, reduceCtorEq, Nat.reduceEqDiff, Nat.reduceLT, Nat.reduceAdd, Nat.reduceMul, Nat.reduceLeDiff, Nat.reduceSub]
  try simp only [go_sem, ↓reduceIte, reduceCtorEq, Nat.reduceEqDiff, Nat.reduceLT, Nat.reduceAdd, Nat.reduceMul, Nat.reduceLeDiff, Nat.reduceSub]
  refine hK1 _ ?_
  refine wp_seq_k' fun K2 hK2 => ?_
  refine wp_reg' ?_
  refine @vc_step Fk _ _ _ _ fun J hJ => ?_
  simp only [go_sem, ↓reduceIte, reduceCtorEq, Nat.reduceEqDiff, Nat.reduceLT, Nat.reduceAdd, Nat.reduceMul, Nat.reduceLeDiff, Nat.reduceSub]
  refine hJ _ ?_
  clear hJ J
  refine @vc_step Fk _ _ _ _ fun J hJ => ?_
  simp only [go_sem, ↓reduceIte, reduceCtorEq, Nat.reduceEqDiff, Nat.reduceLT, Nat.reduceAdd, Nat.reduceMul, Nat.reduceLeDiff, Nat.reduceSub]
  refine stands8_call  (by first | assumption | omega | exact List.getElem_mem _) (by first | assumption | omega | exact List.getElem_mem _) fun b1 => ?_
  try simp only [go_sem, ↓reduceIte, reduceCtorEq, Nat.reduceEqDiff, Nat.reduceLT, Nat.reduceAdd, Nat.reduceMul, Nat.reduceLeDiff, Nat.reduceSub]
  refine hJ _ ?_
  clear hJ J
  refine @vc_step Fk _ _ _ _ fun J hJ => ?_
  simp only [go_sem, ↓reduceIte, reduceCtorEq, Nat.reduceEqDiff, Nat.reduceLT, Nat.reduceAdd, Nat.reduceMul, Nat.reduceLeDiff, Nat.reduceSub]
  refine hJ _ ?_
  clear hJ J
  refine vc_nil ?_
  try simp only [go_sem, ↓reduceIte, reduceCtorEq, Nat.reduceEqDiff, Nat.reduceLT, Nat.reduceAdd, Nat.reduceMul, Nat.reduceLeDiff, Nat.reduceSub]
  try simp only [go_sem, ↓reduceIte, reduceCtorEq, Nat.reduceEqDiff, Nat.reduceLT, Nat.reduceAdd, Nat.reduceMul, Nat.reduceLeDiff, Nat.reduceSub]
  refine hK2 _ ?_
  refine wp_ret' ?_
  try simp only [go_sem, ↓reduceIte, reduceCtorEq, Nat.reduceEqDiff, Nat.reduceLT, Nat.reduceAdd, Nat.reduceMul, Nat.reduceLeDiff, Nat.reduceSub]
  exact hZ _ _ _ _ (by simp) rfl rfl ⟨_, rfl⟩
theorem book26_call {u : Un} (hu : u.Ok) (hn : u.cnt ≤ 1048576) {H : List AO} {T : List Nat} {Q : Av → List AO → List Nat → Prop} (hq : ∀ (b : Bool), Q (.bool b) H T) : RunT Fk (.fn n_pandectref26_Book) [.agg [.int .i64 u.a, .int .i64 u.b, .int .i64 u.c, .int .i64 u.kind, .str u.label, .sl (u.head.map Wd.cs) u.t1.tk, .sl (u.words.map Wd.cs) u.t2.tk, .sl (u.kids.map Un.cs) u.t3.tk]] H T Q := by
  obtain ⟨_, ⟨b, rfl⟩, hr⟩ := book26 _ hu hn
  simp only [Un.cs_eq, It.cs_eq, Ac.cs] at hr
  exact runT_ret hr (hq b)

theorem few6 (u : Un) (m : Nat) (hu : u.Ok) (hm : m ≤ 1000) :
    ∃ v, (∃ (b : Bool), (b = true → u.cnt ≤ m) ∧ v = .bool b) ∧ Ret Fk n_pandectref06_Few [.agg u.cs, .int .i64 m] v := by
  refine ret_of_wpP (show Fk n_pandectref06_Few = some (.fn true 14 c_pandectref06_Few r_pandectref06_Few) from rfl) (args' := [.agg u.cs, .int .i64 m]) (by simp only [stripA, strip_int, strip_bool, strip_str, strip_sl, strip_U, strip_I, strip_A]) (Nat.le_of_ble_eq_true rfl) fun Z hZ => ?_
  unfold c_pandectref06_Few
  refine wp_norm fun J hJ => ?_
  try simp only [go_sem, ↓reduceIte, reduceCtorEq, Nat.reduceEqDiff, Nat.reduceLT, Nat.reduceAdd, Nat.reduceMul, Nat.reduceLeDiff, Nat.reduceSub]
  refine hJ _ ?_
  clear hJ J
  obtain ⟨hl1, hl2, hl3, hl4⟩ := hu.len
  obtain ⟨hw1, hw2⟩ := hu.words
  unfold maxL at hl1 hl2 hl3 hl4
  refine wp_seq_k' fun K1 hK1 => ?_
  refine wp_reg' ?_
  iterate 2 (refine @vc_step Fk _ _ _ _ fun J hJ => ?_; simp only [go_sem, ↓reduceIte, reduceCtorEq, Nat.reduceEqDiff, Nat.reduceLT, Nat.reduceAdd, Nat.reduceMul, Nat.reduceLeDiff, Nat.reduceSub]; refine hJ _ ?_; clear hJ J)
  refine vc_nil ?_
  try simp only [go_sem, ↓reduceIte, reduceCtorEq, Nat.reduceEqDiff, Nat.reduceLT, Nat.reduceAdd, Nat.reduceMul, Nat.reduceLeDiff, Nat.reduceSub]
  try simp only [go_sem, ↓reduceIte, reduceCtorEq, Nat.reduceEqDiff, Nat.reduceLT, Nat.reduceAdd, Nat.reduceMul, Nat.reduceLeDiff, Nat.reduceSub]
  refine hK1 _ ?_
  refine wp_seq_k' fun K2 hK2 => ?_
  refine wp_reg' ?_
  refine vc_merge (K := K2) (ks := [4]) (d := 4) (fun b4 => b4 = true → u.cnt ≤ m) (fun b4 hb4 => ?_) fun M2 hM2 => ?_
  · skip
    try simp only [go_sem, ↓reduceIte, reduceCtorEq, Nat.reduceEqDiff, Nat.reduceLT, Nat.reduceAdd, Nat.reduceMul, Nat.reduceLeDiff, Nat.reduceSub]
    refine hK2 _ ?_
    refine wp_ret' ?_
    try simp only [go_sem, ↓reduceIte, reduceCtorEq, Nat.reduceEqDiff, Nat.reduceLT, Nat.reduceAdd, Nat.reduceMul, Nat.reduceLeDiff, Nat.reduceSub]
    exact hZ _ _ _ _ (by simp) rfl rfl ⟨_, by first | assumption | omega | exact List.getElem_mem _ | exact hb4, rfl⟩
  · skip
    iterate 2 (refine @vc_step Fk _ _ _ _ fun J hJ => ?_; simp only [go_sem, ↓reduceIte, reduceCtorEq, Nat.reduceEqDiff, Nat.reduceLT, Nat.reduceAdd, Nat.reduceMul, Nat.reduceLeDiff, Nat.reduceSub]; refine hJ _ ?_; clear hJ J)
    have e0 : (0 : Int) = ((0 : Nat) : Int) := rfl
    refine @vc_step Fk _ _ _ _ fun J hJ => ?_
    simp only [go_sem, ↓reduceIte, reduceCtorEq, Nat.reduceEqDiff, Nat.reduceLT, Nat.reduceAdd, Nat.reduceMul, Nat.reduceLeDiff, Nat.reduceSub]
    rw [e0]
    refine size_call (by assumption) (by omega) (by assumption) fun n1 hn1 hn2 hn3 => ?_
    try simp only [go_sem, ↓reduceIte, reduceCtorEq, Nat.reduceEqDiff, Nat.reduceLT, Nat.reduceAdd, Nat.reduceMul, Nat.reduceLeDiff, Nat.reduceSub]
    refine hJ _ ?_
    clear hJ J
    iterate 3 (refine @vc_step Fk _ _ _ _ fun J hJ => ?_; simp only [go_sem, ↓reduceIte, reduceCtorEq, Nat.reduceEqDiff, Nat.reduceLT, Nat.reduceAdd, Nat.reduceMul, Nat.reduceLeDiff, Nat.reduceSub]; refine hJ _ ?_; clear hJ J)
    refine @vc_gd Fk _ _ _ _ 10 (by rfl) (fun hg1 => ?_) (fun hg1 => ?_)
    · skip
      have hg1n := hg1
      try simp only [decide_eq_true_eq, decide_eq_false_iff_not, Bool.not_eq_true', Bool.not_eq_false', beq_iff_eq, bne_iff_ne, beq_eq_false_iff_ne, Int.ofNat_lt, Int.not_lt, Bool.and_eq_true, ne_eq, bne_eq_false_iff_eq] at hg1n
      refine @vc_step Fk _ _ _ _ fun J hJ => ?_
      simp only [go_sem, ↓reduceIte, reduceCtorEq, Nat.reduceEqDiff, Nat.reduceLT, Nat.reduceAdd, Nat.reduceMul, Nat.reduceLeDiff, Nat.reduceSub, hg1, hg1n]
      refine hJ _ ?_
      clear hJ J
      refine @vc_step Fk _ _ _ _ fun J hJ => ?_
      simp only [go_sem, ↓reduceIte, reduceCtorEq, Nat.reduceEqDiff, Nat.reduceLT, Nat.reduceAdd, Nat.reduceMul, Nat.reduceLeDiff, Nat.reduceSub, hg1, hg1n]
      refine words_call  (by first | assumption | omega | exact List.getElem_mem _ | exact hb4) fun b1 => ?_
      try simp only [go_sem, ↓reduceIte, reduceCtorEq, Nat.reduceEqDiff, Nat.reduceLT, Nat.reduceAdd, Nat.reduceMul, Nat.reduceLeDiff, Nat.reduceSub, hg1, hg1n]
      refine hJ _ ?_
      clear hJ J
      iterate 2 (refine @vc_step Fk _ _ _ _ fun J hJ => ?_; simp only [go_sem, ↓reduceIte, reduceCtorEq, Nat.reduceEqDiff, Nat.reduceLT, Nat.reduceAdd, Nat.reduceMul, Nat.reduceLeDiff, Nat.reduceSub, hg1, hg1n]; refine hJ _ ?_; clear hJ J)
      refine vc_nil ?_
      exact hM2 _ _ (fun _ => by have := hn3 (by omega); omega) rfl
    · skip
      have hg1n := hg1
      try simp only [decide_eq_true_eq, decide_eq_false_iff_not, Bool.not_eq_true', Bool.not_eq_false', beq_iff_eq, bne_iff_ne, beq_eq_false_iff_ne, Int.ofNat_lt, Int.not_lt, Bool.and_eq_true, ne_eq, bne_eq_false_iff_eq] at hg1n
      iterate 4 (refine @vc_step Fk _ _ _ _ fun J hJ => ?_; simp only [go_sem, ↓reduceIte, reduceCtorEq, Nat.reduceEqDiff, Nat.reduceLT, Nat.reduceAdd, Nat.reduceMul, Nat.reduceLeDiff, Nat.reduceSub, hg1, hg1n]; refine hJ _ ?_; clear hJ J)
      refine vc_nil ?_
      exact hM2 _ _ (fun q => (by cases q)) rfl
theorem few6_call {u : Un} {m : Nat} (hu : u.Ok) (hm : m ≤ 1000) {H : List AO} {T : List Nat} {Q : Av → List AO → List Nat → Prop} (hq : ∀ (b : Bool), (b = true → u.cnt ≤ m) → Q (.bool b) H T) : RunT Fk (.fn n_pandectref06_Few) [.agg [.int .i64 u.a, .int .i64 u.b, .int .i64 u.c, .int .i64 u.kind, .str u.label, .sl (u.head.map Wd.cs) u.t1.tk, .sl (u.words.map Wd.cs) u.t2.tk, .sl (u.kids.map Un.cs) u.t3.tk], .int .i64 m] H T Q := by
  obtain ⟨_, ⟨b, hb, rfl⟩, hr⟩ := few6 _ _ hu hm
  simp only [Un.cs_eq, It.cs_eq, Ac.cs] at hr
  exact runT_ret hr (hq b hb)

end Go.Am
