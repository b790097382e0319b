/- Part of the proof. -/
import Derived.Test.YtfhilbdpejljdaaGreatDoorF1
set_option linter.all false
set_option maxHeartbeats 4000000
set_option maxRecDepth 100000
namespace Go.Am
open Go

theorem nests (p k : Int)  :
    ∃ v, (∃ (b : Bool), v = .bool b) ∧ Ret Fk n_pandectref06_Nests [.int .i64 p, .int .i64 k] v := by
  refine ret_of_wpP (show Fk n_pandectref06_Nests = some (.fn true 39 c_pandectref06_Nests r_pandectref06_Nests) from rfl) (args' := [.int .i64 p, .int .i64 k]) (by simp only [stripA, strip_int, strip_bool, strip_str, strip_sl, strip_U, strip_I, strip_A]) (Nat.le_of_ble_eq_true rfl) fun Z hZ => ?_
  unfold c_pandectref06_Nests
  refine wp_norm fun J hJ => ?_
  try simp only [go_sem, ↓reduceIte, reduceCtorEq, Nat.reduceEqDiff, Nat.reduceLT, Nat.reduceAdd, Nat.reduceMul, Nat.reduceLeDiff, Nat.reduceSub]
  refine hJ _ ?_
  clear hJ J
  refine wp_seq_k' fun K1 hK1 => ?_
  refine wp_reg' ?_
  refine @vc_step Fk _ _ _ _ fun J hJ => ?_
  simp only [go_sem, ↓reduceIte, reduceCtorEq, Nat.reduceEqDiff, Nat.reduceLT, Nat.reduceAdd, Nat.reduceMul, Nat.reduceLeDiff, Nat.reduceSub]
  refine hJ _ ?_
  clear hJ J
  refine vc_nil ?_
  try simp only [go_sem, ↓reduceIte, reduceCtorEq, Nat.reduceEqDiff, Nat.reduceLT, Nat.reduceAdd, Nat.reduceMul, Nat.reduceLeDiff, Nat.reduceSub]
  try simp only [go_sem, ↓reduceIte, reduceCtorEq, Nat.reduceEqDiff, Nat.reduceLT, Nat.reduceAdd, Nat.reduceMul, Nat.reduceLeDiff, Nat.reduceSub]
  refine hK1 _ ?_
  refine wp_seq_k' fun K2 hK2 => ?_
  refine wp_seq_k' fun K3 hK3 => ?_
  refine wp_reg' ?_
  refine @vc_step Fk _ _ _ _ fun J hJ => ?_
  simp only [go_sem, ↓reduceIte, reduceCtorEq, Nat.reduceEqDiff, Nat.reduceLT, Nat.reduceAdd, Nat.reduceMul, Nat.reduceLeDiff, Nat.reduceSub]
  refine hJ _ ?_
  clear hJ J
  refine vc_nil ?_
  try simp only [go_sem, ↓reduceIte, reduceCtorEq, Nat.reduceEqDiff, Nat.reduceLT, Nat.reduceAdd, Nat.reduceMul, Nat.reduceLeDiff, Nat.reduceSub]
  try simp only [go_sem, ↓reduceIte, reduceCtorEq, Nat.reduceEqDiff, Nat.reduceLT, Nat.reduceAdd, Nat.reduceMul, Nat.reduceLeDiff, Nat.reduceSub]
  refine hK3 _ ?_
  refine wp_block' ?_
  refine wp_seq_k' fun K4 hK4 => ?_
  refine wp_reg' ?_
  iterate 2 (refine @vc_step Fk _ _ _ _ fun J hJ => ?_; simp only [go_sem, ↓reduceIte, reduceCtorEq, Nat.reduceEqDiff, Nat.reduceLT, Nat.reduceAdd, Nat.reduceMul, Nat.reduceLeDiff, Nat.reduceSub]; refine hJ _ ?_; clear hJ J)
  refine vc_nil ?_
  try simp only [go_sem, ↓reduceIte, reduceCtorEq, Nat.reduceEqDiff, Nat.reduceLT, Nat.reduceAdd, Nat.reduceMul, Nat.reduceLeDiff, Nat.reduceSub]
  try simp only [go_sem, ↓reduceIte, reduceCtorEq, Nat.reduceEqDiff, Nat.reduceLT, Nat.reduceAdd, Nat.reduceMul, Nat.reduceLeDiff, Nat.reduceSub]
  refine hK4 _ ?_
  refine wp_cond' rfl (fun hc1 => ?_) (fun hc1 => ?_)
  · skip
    try simp only [decide_eq_true_eq, decide_eq_false_iff_not, Bool.not_eq_true', Bool.not_eq_false', beq_iff_eq, bne_iff_ne, beq_eq_false_iff_ne, Int.ofNat_lt, Int.not_lt, Bool.and_eq_true, ne_eq, bne_eq_false_iff_eq] at hc1
    refine wp_seq_k' fun K5 hK5 => ?_
    refine wp_reg' ?_
    refine vc_merge (K := K5) (ks := [4]) (d := 4) (fun b4 => True) (fun b4 hb4 => ?_) fun M5 hM5 => ?_
    · skip
      try simp only [go_sem, ↓reduceIte, reduceCtorEq, Nat.reduceEqDiff, Nat.reduceLT, Nat.reduceAdd, Nat.reduceMul, Nat.reduceLeDiff, Nat.reduceSub]
      refine hK5 _ ?_
      refine wp_ret' ?_
      try simp only [go_sem, ↓reduceIte, reduceCtorEq, Nat.reduceEqDiff, Nat.reduceLT, Nat.reduceAdd, Nat.reduceMul, Nat.reduceLeDiff, Nat.reduceSub]
      exact hZ _ _ _ _ (by simp) rfl rfl ⟨_, rfl⟩
    · skip
      iterate 3 (refine @vc_step Fk _ _ _ _ fun J hJ => ?_; simp only [go_sem, ↓reduceIte, reduceCtorEq, Nat.reduceEqDiff, Nat.reduceLT, Nat.reduceAdd, Nat.reduceMul, Nat.reduceLeDiff, Nat.reduceSub]; refine hJ _ ?_; clear hJ J)
      refine @vc_gd Fk _ _ _ _ 10 (by rfl) (fun hg1 => ?_) (fun hg1 => ?_)
      · skip
        have hg1n := hg1
        try simp only [decide_eq_true_eq, decide_eq_false_iff_not, Bool.not_eq_true', Bool.not_eq_false', beq_iff_eq, bne_iff_ne, beq_eq_false_iff_ne, Int.ofNat_lt, Int.not_lt, Bool.and_eq_true, ne_eq, bne_eq_false_iff_eq] at hg1n
        iterate 4 (refine @vc_step Fk _ _ _ _ fun J hJ => ?_; simp only [go_sem, ↓reduceIte, reduceCtorEq, Nat.reduceEqDiff, Nat.reduceLT, Nat.reduceAdd, Nat.reduceMul, Nat.reduceLeDiff, Nat.reduceSub, hg1]; refine hJ _ ?_; clear hJ J)
        refine vc_nil ?_
        exact hM5 _ _ (trivial) rfl
      · skip
        have hg1n := hg1
        try simp only [decide_eq_true_eq, decide_eq_false_iff_not, Bool.not_eq_true', Bool.not_eq_false', beq_iff_eq, bne_iff_ne, beq_eq_false_iff_ne, Int.ofNat_lt, Int.not_lt, Bool.and_eq_true, ne_eq, bne_eq_false_iff_eq] at hg1n
        iterate 4 (refine @vc_step Fk _ _ _ _ fun J hJ => ?_; simp only [go_sem, ↓reduceIte, reduceCtorEq, Nat.reduceEqDiff, Nat.reduceLT, Nat.reduceAdd, Nat.reduceMul, Nat.reduceLeDiff, Nat.reduceSub, hg1]; refine hJ _ ?_; clear hJ J)
        refine vc_nil ?_
        exact hM5 _ _ (trivial) rfl
  · skip
    try simp only [decide_eq_true_eq, decide_eq_false_iff_not, Bool.not_eq_true', Bool.not_eq_false', beq_iff_eq, bne_iff_ne, beq_eq_false_iff_ne, Int.ofNat_lt, Int.not_lt, Bool.and_eq_true, ne_eq, bne_eq_false_iff_eq] at hc1
    refine wp_seq_k' fun K6 hK6 => ?_
    refine wp_reg' ?_
    iterate 2 (refine @vc_step Fk _ _ _ _ fun J hJ => ?_; simp only [go_sem, ↓reduceIte, reduceCtorEq, Nat.reduceEqDiff, Nat.reduceLT, Nat.reduceAdd, Nat.reduceMul, Nat.reduceLeDiff, Nat.reduceSub]; refine hJ _ ?_; clear hJ J)
    refine vc_nil ?_
    try simp only [go_sem, ↓reduceIte, reduceCtorEq, Nat.reduceEqDiff, Nat.reduceLT, Nat.reduceAdd, Nat.reduceMul, Nat.reduceLeDiff, Nat.reduceSub]
    try simp only [go_sem, ↓reduceIte, reduceCtorEq, Nat.reduceEqDiff, Nat.reduceLT, Nat.reduceAdd, Nat.reduceMul, Nat.reduceLeDiff, Nat.reduceSub]
    refine hK6 _ ?_
    refine wp_cond' rfl (fun hc2 => ?_) (fun hc2 => ?_)
    · skip
      try simp only [decide_eq_true_eq, decide_eq_false_iff_not, Bool.not_eq_true', Bool.not_eq_false', beq_iff_eq, bne_iff_ne, beq_eq_false_iff_ne, Int.ofNat_lt, Int.not_lt, Bool.and_eq_true, ne_eq, bne_eq_false_iff_eq] at hc2
      refine wp_seq_k' fun K7 hK7 => ?_
      refine wp_reg' ?_
      iterate 3 (refine @vc_step Fk _ _ _ _ fun J hJ => ?_; simp only [go_sem, ↓reduceIte, reduceCtorEq, Nat.reduceEqDiff, Nat.reduceLT, Nat.reduceAdd, Nat.reduceMul, Nat.reduceLeDiff, Nat.reduceSub]; refine hJ _ ?_; clear hJ J)
      refine vc_nil ?_
      try simp only [go_sem, ↓reduceIte, reduceCtorEq, Nat.reduceEqDiff, Nat.reduceLT, Nat.reduceAdd, Nat.reduceMul, Nat.reduceLeDiff, Nat.reduceSub]
      try simp only [go_sem, ↓reduceIte, reduceCtorEq, Nat.reduceEqDiff, Nat.reduceLT, Nat.reduceAdd, Nat.reduceMul, Nat.reduceLeDiff, Nat.reduceSub]
      refine hK7 _ ?_
      refine wp_ret' ?_
      try simp only [go_sem, ↓reduceIte, reduceCtorEq, Nat.reduceEqDiff, Nat.reduceLT, Nat.reduceAdd, Nat.reduceMul, Nat.reduceLeDiff, Nat.reduceSub]
      exact hZ _ _ _ _ (by simp) rfl rfl ⟨_, rfl⟩
    · skip
      try simp only [decide_eq_true_eq, decide_eq_false_iff_not, Bool.not_eq_true', Bool.not_eq_false', beq_iff_eq, bne_iff_ne, beq_eq_false_iff_ne, Int.ofNat_lt, Int.not_lt, Bool.and_eq_true, ne_eq, bne_eq_false_iff_eq] at hc2
      refine wp_seq_k' fun K8 hK8 => ?_
      refine wp_seq_k' fun K9 hK9 => ?_
      refine wp_reg' ?_
      iterate 2 (refine @vc_step Fk _ _ _ _ fun J hJ => ?_; simp only [go_sem, ↓reduceIte, reduceCtorEq, Nat.reduceEqDiff, Nat.reduceLT, Nat.reduceAdd, Nat.reduceMul, Nat.reduceLeDiff, Nat.reduceSub]; refine hJ _ ?_; clear hJ J)
      refine vc_nil ?_
      try simp only [go_sem, ↓reduceIte, reduceCtorEq, Nat.reduceEqDiff, Nat.reduceLT, Nat.reduceAdd, Nat.reduceMul, Nat.reduceLeDiff, Nat.reduceSub]
      try simp only [go_sem, ↓reduceIte, reduceCtorEq, Nat.reduceEqDiff, Nat.reduceLT, Nat.reduceAdd, Nat.reduceMul, Nat.reduceLeDiff, Nat.reduceSub]
      refine hK9 _ ?_
      refine wp_cond' rfl (fun hc3 => ?_) (fun hc3 => ?_)
      · skip
        try simp only [decide_eq_true_eq, decide_eq_false_iff_not, Bool.not_eq_true', Bool.not_eq_false', beq_iff_eq, bne_iff_ne, beq_eq_false_iff_ne, Int.ofNat_lt, Int.not_lt, Bool.and_eq_true, ne_eq, bne_eq_false_iff_eq] at hc3
        refine wp_skip' ?_
        try simp only [go_sem, ↓reduceIte, reduceCtorEq, Nat.reduceEqDiff, Nat.reduceLT, Nat.reduceAdd, Nat.reduceMul, Nat.reduceLeDiff, Nat.reduceSub]
        try simp only [go_sem, ↓reduceIte, reduceCtorEq, Nat.reduceEqDiff, Nat.reduceLT, Nat.reduceAdd, Nat.reduceMul, Nat.reduceLeDiff, Nat.reduceSub]
        refine hK8 _ ?_
        refine wp_cond' rfl (fun hc4 => ?_) (fun hc4 => ?_)
        · skip
          try simp only [decide_eq_true_eq, decide_eq_false_iff_not, Bool.not_eq_true', Bool.not_eq_false', beq_iff_eq, bne_iff_ne, beq_eq_false_iff_ne, Int.ofNat_lt, Int.not_lt, Bool.and_eq_true, ne_eq, bne_eq_false_iff_eq] at hc4
          refine wp_seq_k' fun K10 hK10 => ?_
          refine wp_reg' ?_
          refine vc_merge (K := K10) (ks := [4]) (d := 4) (fun b4 => True) (fun b4 hb4 => ?_) fun M10 hM10 => ?_
          · skip
            try simp only [go_sem, ↓reduceIte, reduceCtorEq, Nat.reduceEqDiff, Nat.reduceLT, Nat.reduceAdd, Nat.reduceMul, Nat.reduceLeDiff, Nat.reduceSub]
            refine hK10 _ ?_
            refine wp_ret' ?_
            try simp only [go_sem, ↓reduceIte, reduceCtorEq, Nat.reduceEqDiff, Nat.reduceLT, Nat.reduceAdd, Nat.reduceMul, Nat.reduceLeDiff, Nat.reduceSub]
            exact hZ _ _ _ _ (by simp) rfl rfl ⟨_, rfl⟩
          · skip
            iterate 3 (refine @vc_step Fk _ _ _ _ fun J hJ => ?_; simp only [go_sem, ↓reduceIte, reduceCtorEq, Nat.reduceEqDiff, Nat.reduceLT, Nat.reduceAdd, Nat.reduceMul, Nat.reduceLeDiff, Nat.reduceSub]; refine hJ _ ?_; clear hJ J)
            refine @vc_gd Fk _ _ _ _ 23 (by rfl) (fun hg2 => ?_) (fun hg2 => ?_)
            · skip
              have hg2n := hg2
              try simp only [decide_eq_true_eq, decide_eq_false_iff_not, Bool.not_eq_true', Bool.not_eq_false', beq_iff_eq, bne_iff_ne, beq_eq_false_iff_ne, Int.ofNat_lt, Int.not_lt, Bool.and_eq_true, ne_eq, bne_eq_false_iff_eq] at hg2n
              iterate 8 (refine @vc_step Fk _ _ _ _ fun J hJ => ?_; simp only [go_sem, ↓reduceIte, reduceCtorEq, Nat.reduceEqDiff, Nat.reduceLT, Nat.reduceAdd, Nat.reduceMul, Nat.reduceLeDiff, Nat.reduceSub, hg2]; refine hJ _ ?_; clear hJ J)
              refine vc_nil ?_
              exact hM10 _ _ (trivial) rfl
            · skip
              have hg2n := hg2
              try simp only [decide_eq_true_eq, decide_eq_false_iff_not, Bool.not_eq_true', Bool.not_eq_false', beq_iff_eq, bne_iff_ne, beq_eq_false_iff_ne, Int.ofNat_lt, Int.not_lt, Bool.and_eq_true, ne_eq, bne_eq_false_iff_eq] at hg2n
              iterate 4 (refine @vc_step Fk _ _ _ _ fun J hJ => ?_; simp only [go_sem, ↓reduceIte, reduceCtorEq, Nat.reduceEqDiff, Nat.reduceLT, Nat.reduceAdd, Nat.reduceMul, Nat.reduceLeDiff, Nat.reduceSub, hg2]; refine hJ _ ?_; clear hJ J)
              refine @vc_gd Fk _ _ _ _ 27 (by rfl) (fun hg3 => ?_) (fun hg3 => ?_)
              · skip
                have hg3n := hg3
                try simp only [decide_eq_true_eq, decide_eq_false_iff_not, Bool.not_eq_true', Bool.not_eq_false', beq_iff_eq, bne_iff_ne, beq_eq_false_iff_ne, Int.ofNat_lt, Int.not_lt, Bool.and_eq_true, ne_eq, bne_eq_false_iff_eq] at hg3n
                iterate 4 (refine @vc_step Fk _ _ _ _ fun J hJ => ?_; simp only [go_sem, ↓reduceIte, reduceCtorEq, Nat.reduceEqDiff, Nat.reduceLT, Nat.reduceAdd, Nat.reduceMul, Nat.reduceLeDiff, Nat.reduceSub, hg2, hg3]; refine hJ _ ?_; clear hJ J)
                refine vc_nil ?_
                exact hM10 _ _ (trivial) rfl
              · skip
                have hg3n := hg3
                try simp only [decide_eq_true_eq, decide_eq_false_iff_not, Bool.not_eq_true', Bool.not_eq_false', beq_iff_eq, bne_iff_ne, beq_eq_false_iff_ne, Int.ofNat_lt, Int.not_lt, Bool.and_eq_true, ne_eq, bne_eq_false_iff_eq] at hg3n
                iterate 4 (refine @vc_step Fk _ _ _ _ fun J hJ => ?_; simp only [go_sem, ↓reduceIte, reduceCtorEq, Nat.reduceEqDiff, Nat.reduceLT, Nat.reduceAdd, Nat.reduceMul, Nat.reduceLeDiff, Nat.reduceSub, hg2, hg3]; refine hJ _ ?_; clear hJ J)
                refine vc_nil ?_
                exact hM10 _ _ (trivial) rfl
        · skip
          try simp only [decide_eq_true_eq, decide_eq_false_iff_not, Bool.not_eq_true', Bool.not_eq_false', beq_iff_eq, bne_iff_ne, beq_eq_false_iff_ne, Int.ofNat_lt, Int.not_lt, Bool.and_eq_true, ne_eq, bne_eq_false_iff_eq] at hc4
          refine wp_seq_k' fun K11 hK11 => ?_
          refine wp_reg' ?_
          iterate 2 (refine @vc_step Fk _ _ _ _ fun J hJ => ?_; simp only [go_sem, ↓reduceIte, reduceCtorEq, Nat.reduceEqDiff, Nat.reduceLT, Nat.reduceAdd, Nat.reduceMul, Nat.reduceLeDiff, Nat.reduceSub]; refine hJ _ ?_; clear hJ J)
          refine vc_nil ?_
          try simp only [go_sem, ↓reduceIte, reduceCtorEq, Nat.reduceEqDiff, Nat.reduceLT, Nat.reduceAdd, Nat.reduceMul, Nat.reduceLeDiff, Nat.reduceSub]
          try simp only [go_sem, ↓reduceIte, reduceCtorEq, Nat.reduceEqDiff, Nat.reduceLT, Nat.reduceAdd, Nat.reduceMul, Nat.reduceLeDiff, Nat.reduceSub]
          refine hK11 _ ?_
          refine wp_cond' rfl (fun hc5 => ?_) (fun hc5 => ?_)
          · skip
            try simp only [decide_eq_true_eq, decide_eq_false_iff_not, Bool.not_eq_true', Bool.not_eq_false', beq_iff_eq, bne_iff_ne, beq_eq_false_iff_ne, Int.ofNat_lt, Int.not_lt, Bool.and_eq_true, ne_eq, bne_eq_false_iff_eq] at hc5
            refine wp_seq_k' fun K12 hK12 => ?_
            refine wp_reg' ?_
            iterate 3 (refine @vc_step Fk _ _ _ _ fun J hJ => ?_; simp only [go_sem, ↓reduceIte, reduceCtorEq, Nat.reduceEqDiff, Nat.reduceLT, Nat.reduceAdd, Nat.reduceMul, Nat.reduceLeDiff, Nat.reduceSub]; refine hJ _ ?_; clear hJ J)
            refine vc_nil ?_
            try simp only [go_sem, ↓reduceIte, reduceCtorEq, Nat.reduceEqDiff, Nat.reduceLT, Nat.reduceAdd, Nat.reduceMul, Nat.reduceLeDiff, Nat.reduceSub]
            try simp only [go_sem, ↓reduceIte, reduceCtorEq, Nat.reduceEqDiff, Nat.reduceLT, Nat.reduceAdd, Nat.reduceMul, Nat.reduceLeDiff, Nat.reduceSub]
            refine hK12 _ ?_
            refine wp_ret' ?_
            try simp only [go_sem, ↓reduceIte, reduceCtorEq, Nat.reduceEqDiff, Nat.reduceLT, Nat.reduceAdd, Nat.reduceMul, Nat.reduceLeDiff, Nat.reduceSub]
            exact hZ _ _ _ _ (by simp) rfl rfl ⟨_, rfl⟩
          · skip
            try simp only [decide_eq_true_eq, decide_eq_false_iff_not, Bool.not_eq_true', Bool.not_eq_false', beq_iff_eq, bne_iff_ne, beq_eq_false_iff_ne, Int.ofNat_lt, Int.not_lt, Bool.and_eq_true, ne_eq, bne_eq_false_iff_eq] at hc5
            refine wp_seq_k' fun K13 hK13 => ?_
            refine wp_reg' ?_
            iterate 2 (refine @vc_step Fk _ _ _ _ fun J hJ => ?_; simp only [go_sem, ↓reduceIte, reduceCtorEq, Nat.reduceEqDiff, Nat.reduceLT, Nat.reduceAdd, Nat.reduceMul, Nat.reduceLeDiff, Nat.reduceSub]; refine hJ _ ?_; clear hJ J)
            refine vc_nil ?_
            try simp only [go_sem, ↓reduceIte, reduceCtorEq, Nat.reduceEqDiff, Nat.reduceLT, Nat.reduceAdd, Nat.reduceMul, Nat.reduceLeDiff, Nat.reduceSub]
            try simp only [go_sem, ↓reduceIte, reduceCtorEq, Nat.reduceEqDiff, Nat.reduceLT, Nat.reduceAdd, Nat.reduceMul, Nat.reduceLeDiff, Nat.reduceSub]
            refine hK13 _ ?_
            refine wp_cond' rfl (fun hc6 => ?_) (fun hc6 => ?_)
            · skip
              try simp only [decide_eq_true_eq, decide_eq_false_iff_not, Bool.not_eq_true', Bool.not_eq_false', beq_iff_eq, bne_iff_ne, beq_eq_false_iff_ne, Int.ofNat_lt, Int.not_lt, Bool.and_eq_true, ne_eq, bne_eq_false_iff_eq] at hc6
              refine wp_seq_k' fun K14 hK14 => ?_
              refine wp_reg' ?_
              iterate 3 (refine @vc_step Fk _ _ _ _ fun J hJ => ?_; simp only [go_sem, ↓reduceIte, reduceCtorEq, Nat.reduceEqDiff, Nat.reduceLT, Nat.reduceAdd, Nat.reduceMul, Nat.reduceLeDiff, Nat.reduceSub]; refine hJ _ ?_; clear hJ J)
              refine vc_nil ?_
              try simp only [go_sem, ↓reduceIte, reduceCtorEq, Nat.reduceEqDiff, Nat.reduceLT, Nat.reduceAdd, Nat.reduceMul, Nat.reduceLeDiff, Nat.reduceSub]
              try simp only [go_sem, ↓reduceIte, reduceCtorEq, Nat.reduceEqDiff, Nat.reduceLT, Nat.reduceAdd, Nat.reduceMul, Nat.reduceLeDiff, Nat.reduceSub]
              refine hK14 _ ?_
              refine wp_ret' ?_
              try simp only [go_sem, ↓reduceIte, reduceCtorEq, Nat.reduceEqDiff, Nat.reduceLT, Nat.reduceAdd, Nat.reduceMul, Nat.reduceLeDiff, Nat.reduceSub]
              exact hZ _ _ _ _ (by simp) rfl rfl ⟨_, rfl⟩
            · skip
              try simp only [decide_eq_true_eq, decide_eq_false_iff_not, Bool.not_eq_true', Bool.not_eq_false', beq_iff_eq, bne_iff_ne, beq_eq_false_iff_ne, Int.ofNat_lt, Int.not_lt, Bool.and_eq_true, ne_eq, bne_eq_false_iff_eq] at hc6
              refine wp_skip' ?_
              try simp only [go_sem, ↓reduceIte, reduceCtorEq, Nat.reduceEqDiff, Nat.reduceLT, Nat.reduceAdd, Nat.reduceMul, Nat.reduceLeDiff, Nat.reduceSub]
              try simp only [go_sem, ↓reduceIte, reduceCtorEq, Nat.reduceEqDiff, Nat.reduceLT, Nat.reduceAdd, Nat.reduceMul, Nat.reduceLeDiff, Nat.reduceSub]
              refine hK2 _ ?_
              refine wp_seq_k' fun K15 hK15 => ?_
              refine wp_reg' ?_
              refine @vc_step Fk _ _ _ _ fun J hJ => ?_
              simp only [go_sem, ↓reduceIte, reduceCtorEq, Nat.reduceEqDiff, Nat.reduceLT, Nat.reduceAdd, Nat.reduceMul, Nat.reduceLeDiff, Nat.reduceSub]
              refine hJ _ ?_
              clear hJ J
              refine vc_nil ?_
              try simp only [go_sem, ↓reduceIte, reduceCtorEq, Nat.reduceEqDiff, Nat.reduceLT, Nat.reduceAdd, Nat.reduceMul, Nat.reduceLeDiff, Nat.reduceSub]
              try simp only [go_sem, ↓reduceIte, reduceCtorEq, Nat.reduceEqDiff, Nat.reduceLT, Nat.reduceAdd, Nat.reduceMul, Nat.reduceLeDiff, Nat.reduceSub]
              refine hK15 _ ?_
              refine wp_ret' ?_
              try simp only [go_sem, ↓reduceIte, reduceCtorEq, Nat.reduceEqDiff, Nat.reduceLT, Nat.reduceAdd, Nat.reduceMul, Nat.reduceLeDiff, Nat.reduceSub]
              exact hZ _ _ _ _ (by simp) rfl rfl ⟨_, rfl⟩
      · skip
        try simp only [decide_eq_true_eq, decide_eq_false_iff_not, Bool.not_eq_true', Bool.not_eq_false', beq_iff_eq, bne_iff_ne, beq_eq_false_iff_ne, Int.ofNat_lt, Int.not_lt, Bool.and_eq_true, ne_eq, bne_eq_false_iff_eq] at hc3
        refine wp_reg' ?_
        iterate 2 (refine @vc_step Fk _ _ _ _ fun J hJ => ?_; simp only [go_sem, ↓reduceIte, reduceCtorEq, Nat.reduceEqDiff, Nat.reduceLT, Nat.reduceAdd, Nat.reduceMul, Nat.reduceLeDiff, Nat.reduceSub]; refine hJ _ ?_; clear hJ J)
        refine vc_nil ?_
        try simp only [go_sem, ↓reduceIte, reduceCtorEq, Nat.reduceEqDiff, Nat.reduceLT, Nat.reduceAdd, Nat.reduceMul, Nat.reduceLeDiff, Nat.reduceSub]
        try simp only [go_sem, ↓reduceIte, reduceCtorEq, Nat.reduceEqDiff, Nat.reduceLT, Nat.reduceAdd, Nat.reduceMul, Nat.reduceLeDiff, Nat.reduceSub]
        refine hK8 _ ?_
        refine wp_cond' rfl (fun hc7 => ?_) (fun hc7 => ?_)
        · skip
          try simp only [decide_eq_true_eq, decide_eq_false_iff_not, Bool.not_eq_true', Bool.not_eq_false', beq_iff_eq, bne_iff_ne, beq_eq_false_iff_ne, Int.ofNat_lt, Int.not_lt, Bool.and_eq_true, ne_eq, bne_eq_false_iff_eq] at hc7
          refine wp_seq_k' fun K16 hK16 => ?_
          refine wp_reg' ?_
          refine vc_merge (K := K16) (ks := [4]) (d := 4) (fun b4 => True) (fun b4 hb4 => ?_) fun M16 hM16 => ?_
          · skip
            try simp only [go_sem, ↓reduceIte, reduceCtorEq, Nat.reduceEqDiff, Nat.reduceLT, Nat.reduceAdd, Nat.reduceMul, Nat.reduceLeDiff, Nat.reduceSub]
            refine hK16 _ ?_
            refine wp_ret' ?_
            try simp only [go_sem, ↓reduceIte, reduceCtorEq, Nat.reduceEqDiff, Nat.reduceLT, Nat.reduceAdd, Nat.reduceMul, Nat.reduceLeDiff, Nat.reduceSub]
            exact hZ _ _ _ _ (by simp) rfl rfl ⟨_, rfl⟩
          · skip
            iterate 3 (refine @vc_step Fk _ _ _ _ fun J hJ => ?_; simp only [go_sem, ↓reduceIte, reduceCtorEq, Nat.reduceEqDiff, Nat.reduceLT, Nat.reduceAdd, Nat.reduceMul, Nat.reduceLeDiff, Nat.reduceSub]; refine hJ _ ?_; clear hJ J)
            refine @vc_gd Fk _ _ _ _ 23 (by rfl) (fun hg4 => ?_) (fun hg4 => ?_)
            · skip
              have hg4n := hg4
              try simp only [decide_eq_true_eq, decide_eq_false_iff_not, Bool.not_eq_true', Bool.not_eq_false', beq_iff_eq, bne_iff_ne, beq_eq_false_iff_ne, Int.ofNat_lt, Int.not_lt, Bool.and_eq_true, ne_eq, bne_eq_false_iff_eq] at hg4n
              iterate 8 (refine @vc_step Fk _ _ _ _ fun J hJ => ?_; simp only [go_sem, ↓reduceIte, reduceCtorEq, Nat.reduceEqDiff, Nat.reduceLT, Nat.reduceAdd, Nat.reduceMul, Nat.reduceLeDiff, Nat.reduceSub, hg4]; refine hJ _ ?_; clear hJ J)
              refine vc_nil ?_
              exact hM16 _ _ (trivial) rfl
            · skip
              have hg4n := hg4
              try simp only [decide_eq_true_eq, decide_eq_false_iff_not, Bool.not_eq_true', Bool.not_eq_false', beq_iff_eq, bne_iff_ne, beq_eq_false_iff_ne, Int.ofNat_lt, Int.not_lt, Bool.and_eq_true, ne_eq, bne_eq_false_iff_eq] at hg4n
              iterate 4 (refine @vc_step Fk _ _ _ _ fun J hJ => ?_; simp only [go_sem, ↓reduceIte, reduceCtorEq, Nat.reduceEqDiff, Nat.reduceLT, Nat.reduceAdd, Nat.reduceMul, Nat.reduceLeDiff, Nat.reduceSub, hg4]; refine hJ _ ?_; clear hJ J)
              refine @vc_gd Fk _ _ _ _ 27 (by rfl) (fun hg5 => ?_) (fun hg5 => ?_)
              · skip
                have hg5n := hg5
                try simp only [decide_eq_true_eq, decide_eq_false_iff_not, Bool.not_eq_true', Bool.not_eq_false', beq_iff_eq, bne_iff_ne, beq_eq_false_iff_ne, Int.ofNat_lt, Int.not_lt, Bool.and_eq_true, ne_eq, bne_eq_false_iff_eq] at hg5n
                iterate 4 (refine @vc_step Fk _ _ _ _ fun J hJ => ?_; simp only [go_sem, ↓reduceIte, reduceCtorEq, Nat.reduceEqDiff, Nat.reduceLT, Nat.reduceAdd, Nat.reduceMul, Nat.reduceLeDiff, Nat.reduceSub, hg4, hg5]; refine hJ _ ?_; clear hJ J)
                refine vc_nil ?_
                exact hM16 _ _ (trivial) rfl
              · skip
                have hg5n := hg5
                try simp only [decide_eq_true_eq, decide_eq_false_iff_not, Bool.not_eq_true', Bool.not_eq_false', beq_iff_eq, bne_iff_ne, beq_eq_false_iff_ne, Int.ofNat_lt, Int.not_lt, Bool.and_eq_true, ne_eq, bne_eq_false_iff_eq] at hg5n
                iterate 4 (refine @vc_step Fk _ _ _ _ fun J hJ => ?_; simp only [go_sem, ↓reduceIte, reduceCtorEq, Nat.reduceEqDiff, Nat.reduceLT, Nat.reduceAdd, Nat.reduceMul, Nat.reduceLeDiff, Nat.reduceSub, hg4, hg5]; refine hJ _ ?_; clear hJ J)
                refine vc_nil ?_
                exact hM16 _ _ (trivial) rfl
        · skip
          try simp only [decide_eq_true_eq, decide_eq_false_iff_not, Bool.not_eq_true', Bool.not_eq_false', beq_iff_eq, bne_iff_ne, beq_eq_false_iff_ne, Int.ofNat_lt, Int.not_lt, Bool.and_eq_true, ne_eq, bne_eq_false_iff_eq] at hc7
          refine wp_seq_k' fun K17 hK17 => ?_
          refine wp_reg' ?_
          iterate 2 (refine @vc_step Fk _ _ _ _ fun J hJ => ?_; simp only [go_sem, ↓reduceIte, reduceCtorEq, Nat.reduceEqDiff, Nat.reduceLT, Nat.reduceAdd, Nat.reduceMul, Nat.reduceLeDiff, Nat.reduceSub]; refine hJ _ ?_; clear hJ J)
          refine vc_nil ?_
          try simp only [go_sem, ↓reduceIte, reduceCtorEq, Nat.reduceEqDiff, Nat.reduceLT, Nat.reduceAdd, Nat.reduceMul, Nat.reduceLeDiff, Nat.reduceSub]
          try simp only [go_sem, ↓reduceIte, reduceCtorEq, Nat.reduceEqDiff, Nat.reduceLT, Nat.reduceAdd, Nat.reduceMul, Nat.reduceLeDiff, Nat.reduceSub]
          refine hK17 _ ?_
          refine wp_cond' rfl (fun hc8 => ?_) (fun hc8 => ?_)
          · skip
            try simp only [decide_eq_true_eq, decide_eq_false_iff_not, Bool.not_eq_true', Bool.not_eq_false', beq_iff_eq, bne_iff_ne, beq_eq_false_iff_ne, Int.ofNat_lt, Int.not_lt, Bool.and_eq_true, ne_eq, bne_eq_false_iff_eq] at hc8
            refine wp_seq_k' fun K18 hK18 => ?_
            refine wp_reg' ?_
            iterate 3 (refine @vc_step Fk _ _ _ _ fun J hJ => ?_; simp only [go_sem, ↓reduceIte, reduceCtorEq, Nat.reduceEqDiff, Nat.reduceLT, Nat.reduceAdd, Nat.reduceMul, Nat.reduceLeDiff, Nat.reduceSub]; refine hJ _ ?_; clear hJ J)
            refine vc_nil ?_
            try simp only [go_sem, ↓reduceIte, reduceCtorEq, Nat.reduceEqDiff, Nat.reduceLT, Nat.reduceAdd, Nat.reduceMul, Nat.reduceLeDiff, Nat.reduceSub]
            try simp only [go_sem, ↓reduceIte, reduceCtorEq, Nat.reduceEqDiff, Nat.reduceLT, Nat.reduceAdd, Nat.reduceMul, Nat.reduceLeDiff, Nat.reduceSub]
            refine hK18 _ ?_
            refine wp_ret' ?_
            try simp only [go_sem, ↓reduceIte, reduceCtorEq, Nat.reduceEqDiff, Nat.reduceLT, Nat.reduceAdd, Nat.reduceMul, Nat.reduceLeDiff, Nat.reduceSub]
            exact hZ _ _ _ _ (by simp) rfl rfl ⟨_, rfl⟩
          · skip
            try simp only [decide_eq_true_eq, decide_eq_false_iff_not, Bool.not_eq_true', Bool.not_eq_false', beq_iff_eq, bne_iff_ne, beq_eq_false_iff_ne, Int.ofNat_lt, Int.not_lt, Bool.and_eq_true, ne_eq, bne_eq_false_iff_eq] at hc8
            refine wp_seq_k' fun K19 hK19 => ?_
            refine wp_reg' ?_
            iterate 2 (refine @vc_step Fk _ _ _ _ fun J hJ => ?_; simp only [go_sem, ↓reduceIte, reduceCtorEq, Nat.reduceEqDiff, Nat.reduceLT, Nat.reduceAdd, Nat.reduceMul, Nat.reduceLeDiff, Nat.reduceSub]; refine hJ _ ?_; clear hJ J)
            refine vc_nil ?_
            try simp only [go_sem, ↓reduceIte, reduceCtorEq, Nat.reduceEqDiff, Nat.reduceLT, Nat.reduceAdd, Nat.reduceMul, Nat.reduceLeDiff, Nat.reduceSub]
            try simp only [go_sem, ↓reduceIte, reduceCtorEq, Nat.reduceEqDiff, Nat.reduceLT, Nat.reduceAdd, Nat.reduceMul, Nat.reduceLeDiff, Nat.reduceSub]
            refine hK19 _ ?_
            refine wp_cond' rfl (fun hc9 => ?_) (fun hc9 => ?_)
            · skip
              try simp only [decide_eq_true_eq, decide_eq_false_iff_not, Bool.not_eq_true', Bool.not_eq_false', beq_iff_eq, bne_iff_ne, beq_eq_false_iff_ne, Int.ofNat_lt, Int.not_lt, Bool.and_eq_true, ne_eq, bne_eq_false_iff_eq] at hc9
              refine wp_seq_k' fun K20 hK20 => ?_
              refine wp_reg' ?_
              iterate 3 (refine @vc_step Fk _ _ _ _ fun J hJ => ?_; simp only [go_sem, ↓reduceIte, reduceCtorEq, Nat.reduceEqDiff, Nat.reduceLT, Nat.reduceAdd, Nat.reduceMul, Nat.reduceLeDiff, Nat.reduceSub]; refine hJ _ ?_; clear hJ J)
              refine vc_nil ?_
              try simp only [go_sem, ↓reduceIte, reduceCtorEq, Nat.reduceEqDiff, Nat.reduceLT, Nat.reduceAdd, Nat.reduceMul, Nat.reduceLeDiff, Nat.reduceSub]
              try simp only [go_sem, ↓reduceIte, reduceCtorEq, Nat.reduceEqDiff, Nat.reduceLT, Nat.reduceAdd, Nat.reduceMul, Nat.reduceLeDiff, Nat.reduceSub]
              refine hK20 _ ?_
              refine wp_ret' ?_
              try simp only [go_sem, ↓reduceIte, reduceCtorEq, Nat.reduceEqDiff, Nat.reduceLT, Nat.reduceAdd, Nat.reduceMul, Nat.reduceLeDiff, Nat.reduceSub]
              exact hZ _ _ _ _ (by simp) rfl rfl ⟨_, rfl⟩
            · skip
              try simp only [decide_eq_true_eq, decide_eq_false_iff_not, Bool.not_eq_true', Bool.not_eq_false', beq_iff_eq, bne_iff_ne, beq_eq_false_iff_ne, Int.ofNat_lt, Int.not_lt, Bool.and_eq_true, ne_eq, bne_eq_false_iff_eq] at hc9
              refine wp_skip' ?_
              try simp only [go_sem, ↓reduceIte, reduceCtorEq, Nat.reduceEqDiff, Nat.reduceLT, Nat.reduceAdd, Nat.reduceMul, Nat.reduceLeDiff, Nat.reduceSub]
              try simp only [go_sem, ↓reduceIte, reduceCtorEq, Nat.reduceEqDiff, Nat.reduceLT, Nat.reduceAdd, Nat.reduceMul, Nat.reduceLeDiff, Nat.reduceSub]
              refine hK2 _ ?_
              refine wp_seq_k' fun K21 hK21 => ?_
              refine wp_reg' ?_
              refine @vc_step Fk _ _ _ _ fun J hJ => ?_
              simp only [go_sem, ↓reduceIte, reduceCtorEq, Nat.reduceEqDiff, Nat.reduceLT, Nat.reduceAdd, Nat.reduceMul, Nat.reduceLeDiff, Nat.reduceSub]
              refine hJ _ ?_
              clear hJ J
              refine vc_nil ?_
              try simp only [go_sem, ↓reduceIte, reduceCtorEq, Nat.reduceEqDiff, Nat.reduceLT, Nat.reduceAdd, Nat.reduceMul, Nat.reduceLeDiff, Nat.reduceSub]
              try simp only [go_sem, ↓reduceIte, reduceCtorEq, Nat.reduceEqDiff, Nat.reduceLT, Nat.reduceAdd, Nat.reduceMul, Nat.reduceLeDiff, Nat.reduceSub]
              refine hK21 _ ?_
              refine wp_ret' ?_
              try simp only [go_sem, ↓reduceIte, reduceCtorEq, Nat.reduceEqDiff, Nat.reduceLT, Nat.reduceAdd, Nat.reduceMul, Nat.reduceLeDiff, Nat.reduceSub]
              exact hZ _ _ _ _ (by simp) rfl rfl ⟨_, rfl⟩
theorem nests_call {p k : Int}  {H : List AO} {T : List Nat} {Q : Av → List AO → List Nat → Prop} (hq : ∀ (b : Bool), Q (.bool b) H T) : RunT Fk (.fn n_pandectref06_Nests) [.int .i64 p, .int .i64 k] H T Q := by
  obtain ⟨_, ⟨b, rfl⟩, hr⟩ := nests _ _ 
  exact runT_ret hr (hq b)

theorem digits (l : List UInt8) (hl : l.length ≤ maxL) :
    ∃ v, (∃ (n : Nat), (n ≤ l.length) ∧ v = .int .i64 n) ∧ Ret Fk n_pandectref03_digits [.str l] v := by
  refine ret_of_wpP (show Fk n_pandectref03_digits = some (.fn true 23 c_pandectref03_digits r_pandectref03_digits) from rfl) (args' := [.str l]) (by simp only [stripA, strip_int, strip_bool, strip_str, strip_sl, strip_U, strip_I, strip_A]) (Nat.le_of_ble_eq_true rfl) fun Z hZ => ?_
  unfold c_pandectref03_digits
  refine wp_norm fun J hJ => ?_
  try simp only [go_sem, ↓reduceIte, reduceCtorEq, Nat.reduceEqDiff, Nat.reduceLT, Nat.reduceAdd, Nat.reduceMul, Nat.reduceLeDiff, Nat.reduceSub]
  refine hJ _ ?_
  clear hJ J
  unfold maxL at hl
  refine wp_seq_k' fun K1 hK1 => ?_
  refine wp_reg' ?_
  refine @vc_step Fk _ _ _ _ fun J hJ => ?_
  simp only [go_sem, ↓reduceIte, reduceCtorEq, Nat.reduceEqDiff, Nat.reduceLT, Nat.reduceAdd, Nat.reduceMul, Nat.reduceLeDiff, Nat.reduceSub]
  refine hJ _ ?_
  clear hJ J
  refine vc_nil ?_
  try simp only [go_sem, ↓reduceIte, reduceCtorEq, Nat.reduceEqDiff, Nat.reduceLT, Nat.reduceAdd, Nat.reduceMul, Nat.reduceLeDiff, Nat.reduceSub]
  try simp only [go_sem, ↓reduceIte, reduceCtorEq, Nat.reduceEqDiff, Nat.reduceLT, Nat.reduceAdd, Nat.reduceMul, Nat.reduceLeDiff, Nat.reduceSub]
  refine hK1 _ ?_
  refine wp_seq_k' fun K2 hK2 => ?_
  refine wp_reg' ?_
  refine @vc_step Fk _ _ _ _ fun J hJ => ?_
  simp only [go_sem, ↓reduceIte, reduceCtorEq, Nat.reduceEqDiff, Nat.reduceLT, Nat.reduceAdd, Nat.reduceMul, Nat.reduceLeDiff, Nat.reduceSub]
  refine hJ _ ?_
  clear hJ J
  refine vc_nil ?_
  try simp only [go_sem, ↓reduceIte, reduceCtorEq, Nat.reduceEqDiff, Nat.reduceLT, Nat.reduceAdd, Nat.reduceMul, Nat.reduceLeDiff, Nat.reduceSub]
  try simp only [go_sem, ↓reduceIte, reduceCtorEq, Nat.reduceEqDiff, Nat.reduceLT, Nat.reduceAdd, Nat.reduceMul, Nat.reduceLeDiff, Nat.reduceSub]
  refine hK2 _ ?_
  refine wp_seq_k' fun K3 hK3 => ?_
  refine wp_block' ?_
  refine wp_forU (ι := Unit) (l.length) (fun i1 x1 => [(3, .int .i64 (i1 : Nat))]) (fun i1 x1 => _) (fun i1 x1 => _) (fun i1 x1 => True) () (by rfl) rfl rfl (by trivial) fun i1 x1 hi1 hv1 K4 hK4 => ?_
  refine wp_norm fun J hJ => ?_
  try simp only [go_sem, ↓reduceIte, reduceCtorEq, Nat.reduceEqDiff, Nat.reduceLT, Nat.reduceAdd, Nat.reduceMul, Nat.reduceLeDiff, Nat.reduceSub]
  refine hJ _ ?_
  clear hJ J
  refine wp_seq_k' fun K5 hK5 => ?_
  refine wp_seq_k' fun K6 hK6 => ?_
  refine wp_reg' ?_
  refine vc_merge (K := K6) (ks := [0, 3, 19]) (d := 19) (fun b19 => b19 = true → i1 < l.length) (fun b19 hb19 => ?_) fun M6 hM6 => ?_
  · skip
    try simp only [go_sem, ↓reduceIte, reduceCtorEq, Nat.reduceEqDiff, Nat.reduceLT, Nat.reduceAdd, Nat.reduceMul, Nat.reduceLeDiff, Nat.reduceSub]
    refine hK6 _ ?_
    refine wp_cond' rfl (fun hc1 => ?_) (fun hc1 => ?_)
    · skip
      try simp only [decide_eq_true_eq, decide_eq_false_iff_not, Bool.not_eq_true', Bool.not_eq_false', beq_iff_eq, bne_iff_ne, beq_eq_false_iff_ne, Int.ofNat_lt, Int.not_lt, Bool.and_eq_true, ne_eq, bne_eq_false_iff_eq] at hc1
      subst hc1
      refine wp_skip' ?_
      try simp only [go_sem, ↓reduceIte, reduceCtorEq, Nat.reduceEqDiff, Nat.reduceLT, Nat.reduceAdd, Nat.reduceMul, Nat.reduceLeDiff, Nat.reduceSub]
      try simp only [go_sem, ↓reduceIte, reduceCtorEq, Nat.reduceEqDiff, Nat.reduceLT, Nat.reduceAdd, Nat.reduceMul, Nat.reduceLeDiff, Nat.reduceSub]
      refine hK5 _ ?_
      refine wp_block' ?_
      refine wp_reg' ?_
      iterate 3 (refine @vc_step Fk _ _ _ _ fun J hJ => ?_; simp only [go_sem, ↓reduceIte, reduceCtorEq, Nat.reduceEqDiff, Nat.reduceLT, Nat.reduceAdd, Nat.reduceMul, Nat.reduceLeDiff, Nat.reduceSub]; refine hJ _ ?_; clear hJ J)
      refine vc_nil ?_
      try simp only [go_sem, ↓reduceIte, reduceCtorEq, Nat.reduceEqDiff, Nat.reduceLT, Nat.reduceAdd, Nat.reduceMul, Nat.reduceLeDiff, Nat.reduceSub]
      have := hb19 rfl
      refine hK4 _ _ _ ⟨this, (), trivial, ?_, rfl, rfl⟩
      rw [wrap64 (n := ((i1 : Nat) : Int) + 1) (by omega) (by omega)]
      rfl
    · skip
      try simp only [decide_eq_true_eq, decide_eq_false_iff_not, Bool.not_eq_true', Bool.not_eq_false', beq_iff_eq, bne_iff_ne, beq_eq_false_iff_ne, Int.ofNat_lt, Int.not_lt, Bool.and_eq_true, ne_eq, bne_eq_false_iff_eq] at hc1
      subst hc1
      refine wp_exit' ?_
      try simp only [go_sem, ↓reduceIte, reduceCtorEq, Nat.reduceEqDiff, Nat.reduceLT, Nat.reduceAdd, Nat.reduceMul, Nat.reduceLeDiff, Nat.reduceSub]
      try simp only [go_sem, ↓reduceIte, reduceCtorEq, Nat.reduceEqDiff, Nat.reduceLT, Nat.reduceAdd, Nat.reduceMul, Nat.reduceLeDiff, Nat.reduceSub]
      refine hK3 _ ?_
      refine wp_seq_k' fun K7 hK7 => ?_
      refine wp_reg' ?_
      iterate 2 (refine @vc_step Fk _ _ _ _ fun J hJ => ?_; simp only [go_sem, ↓reduceIte, reduceCtorEq, Nat.reduceEqDiff, Nat.reduceLT, Nat.reduceAdd, Nat.reduceMul, Nat.reduceLeDiff, Nat.reduceSub]; refine hJ _ ?_; clear hJ J)
      refine vc_nil ?_
      try simp only [go_sem, ↓reduceIte, reduceCtorEq, Nat.reduceEqDiff, Nat.reduceLT, Nat.reduceAdd, Nat.reduceMul, Nat.reduceLeDiff, Nat.reduceSub]
      try simp only [go_sem, ↓reduceIte, reduceCtorEq, Nat.reduceEqDiff, Nat.reduceLT, Nat.reduceAdd, Nat.reduceMul, Nat.reduceLeDiff, Nat.reduceSub]
      refine hK7 _ ?_
      refine wp_ret' ?_
      try simp only [go_sem, ↓reduceIte, reduceCtorEq, Nat.reduceEqDiff, Nat.reduceLT, Nat.reduceAdd, Nat.reduceMul, Nat.reduceLeDiff, Nat.reduceSub]
      exact hZ _ _ _ _ (by simp) rfl rfl ⟨_, hi1, rfl⟩
  · skip
    iterate 5 (refine @vc_step Fk _ _ _ _ fun J hJ => ?_; simp only [go_sem, ↓reduceIte, reduceCtorEq, Nat.reduceEqDiff, Nat.reduceLT, Nat.reduceAdd, Nat.reduceMul, Nat.reduceLeDiff, Nat.reduceSub]; refine hJ _ ?_; clear hJ J)
    refine @vc_gd Fk _ _ _ _ 8 (by rfl) (fun hg1 => ?_) (fun hg1 => ?_)
    · skip
      have hg1n := hg1
      try simp only [decide_eq_true_eq, decide_eq_false_iff_not, Bool.not_eq_true', Bool.not_eq_false', beq_iff_eq, bne_iff_ne, beq_eq_false_iff_ne, Int.ofNat_lt, Int.not_lt, Bool.and_eq_true, ne_eq, bne_eq_false_iff_eq] at hg1n
      iterate 2 (refine @vc_step Fk _ _ _ _ fun J hJ => ?_; simp only [go_sem, ↓reduceIte, reduceCtorEq, Nat.reduceEqDiff, Nat.reduceLT, Nat.reduceAdd, Nat.reduceMul, Nat.reduceLeDiff, Nat.reduceSub, hg1, hg1n]; refine hJ _ ?_; clear hJ J)
      refine @vc_step Fk _ _ _ _ fun J hJ => ?_
      simp only [go_sem, ↓reduceIte, reduceCtorEq, Nat.reduceEqDiff, Nat.reduceLT, Nat.reduceAdd, Nat.reduceMul, Nat.reduceLeDiff, Nat.reduceSub, hg1, hg1n]
      first | refine hJ _ ?_ | refine ⟨by first | assumption | omega | exact List.getElem_mem _, hJ _ ?_⟩ | refine ⟨by first | assumption | omega | exact List.getElem_mem _, by first | assumption | omega | exact List.getElem_mem _, hJ _ ?_⟩
      clear hJ J
      iterate 3 (refine @vc_step Fk _ _ _ _ fun J hJ => ?_; simp only [go_sem, ↓reduceIte, reduceCtorEq, Nat.reduceEqDiff, Nat.reduceLT, Nat.reduceAdd, Nat.reduceMul, Nat.reduceLeDiff, Nat.reduceSub, hg1, hg1n]; refine hJ _ ?_; clear hJ J)
      refine @vc_gd Fk _ _ _ _ 14 (by rfl) (fun hg2 => ?_) (fun hg2 => ?_)
      · skip
        have hg2n := hg2
        try simp only [decide_eq_true_eq, decide_eq_false_iff_not, Bool.not_eq_true', Bool.not_eq_false', beq_iff_eq, bne_iff_ne, beq_eq_false_iff_ne, Int.ofNat_lt, Int.not_lt, Bool.and_eq_true, ne_eq, bne_eq_false_iff_eq] at hg2n
        iterate 2 (refine @vc_step Fk _ _ _ _ fun J hJ => ?_; simp only [go_sem, ↓reduceIte, reduceCtorEq, Nat.reduceEqDiff, Nat.reduceLT, Nat.reduceAdd, Nat.reduceMul, Nat.reduceLeDiff, Nat.reduceSub, hg1, hg1n, hg2, hg2n]; refine hJ _ ?_; clear hJ J)
        refine @vc_step Fk _ _ _ _ fun J hJ => ?_
        simp only [go_sem, ↓reduceIte, reduceCtorEq, Nat.reduceEqDiff, Nat.reduceLT, Nat.reduceAdd, Nat.reduceMul, Nat.reduceLeDiff, Nat.reduceSub, hg1, hg1n, hg2, hg2n]
        first | refine hJ _ ?_ | refine ⟨by first | assumption | omega | exact List.getElem_mem _, hJ _ ?_⟩ | refine ⟨by first | assumption | omega | exact List.getElem_mem _, by first | assumption | omega | exact List.getElem_mem _, hJ _ ?_⟩
        clear hJ J
        iterate 2 (refine @vc_step Fk _ _ _ _ fun J hJ => ?_; simp only [go_sem, ↓reduceIte, reduceCtorEq, Nat.reduceEqDiff, Nat.reduceLT, Nat.reduceAdd, Nat.reduceMul, Nat.reduceLeDiff, Nat.reduceSub, hg1, hg1n, hg2, hg2n]; refine hJ _ ?_; clear hJ J)
        refine vc_nil ?_
        exact hM6 _ _ (fun _ => hg1n) rfl
      · skip
        have hg2n := hg2
        try simp only [decide_eq_true_eq, decide_eq_false_iff_not, Bool.not_eq_true', Bool.not_eq_false', beq_iff_eq, bne_iff_ne, beq_eq_false_iff_ne, Int.ofNat_lt, Int.not_lt, Bool.and_eq_true, ne_eq, bne_eq_false_iff_eq] at hg2n
        iterate 5 (refine @vc_step Fk _ _ _ _ fun J hJ => ?_; simp only [go_sem, ↓reduceIte, reduceCtorEq, Nat.reduceEqDiff, Nat.reduceLT, Nat.reduceAdd, Nat.reduceMul, Nat.reduceLeDiff, Nat.reduceSub, hg1, hg1n, hg2, hg2n]; refine hJ _ ?_; clear hJ J)
        refine vc_nil ?_
        exact hM6 _ _ (fun _ => hg1n) rfl
    · skip
      have hg1n := hg1
      try simp only [decide_eq_true_eq, decide_eq_false_iff_not, Bool.not_eq_true', Bool.not_eq_false', beq_iff_eq, bne_iff_ne, beq_eq_false_iff_ne, Int.ofNat_lt, Int.not_lt, Bool.and_eq_true, ne_eq, bne_eq_false_iff_eq] at hg1n
      iterate 11 (refine @vc_step Fk _ _ _ _ fun J hJ => ?_; simp only [go_sem, ↓reduceIte, reduceCtorEq, Nat.reduceEqDiff, Nat.reduceLT, Nat.reduceAdd, Nat.reduceMul, Nat.reduceLeDiff, Nat.reduceSub, hg1, hg1n]; refine hJ _ ?_; clear hJ J)
      refine vc_nil ?_
      exact hM6 _ _ (fun q => (by cases q)) rfl
theorem digits_call {l : List UInt8} (hl : l.length ≤ maxL) {H : List AO} {T : List Nat} {Q : Av → List AO → List Nat → Prop} (hq : ∀ (n : Nat), (n ≤ l.length) → Q (.int .i64 n) H T) : RunT Fk (.fn n_pandectref03_digits) [.str l] H T Q := by
  obtain ⟨_, ⟨n, hn, rfl⟩, hr⟩ := digits _ hl
  exact runT_ret hr (hq n hn)

theorem word4 (l : List UInt8) (hl : l.length ≤ maxL) :
    ∃ v, (∃ (b : Bool), v = .bool b) ∧ Ret Fk n_pandectref04_Word [.str l] v := by
  refine ret_of_wpP (show Fk n_pandectref04_Word = some (.fn true 28 c_pandectref04_Word r_pandectref04_Word) from rfl) (args' := [.str l]) (by simp only [stripA, strip_int, strip_bool, strip_str, strip_sl, strip_U, strip_I, strip_A]) (Nat.le_of_ble_eq_true rfl) fun Z hZ => ?_
  unfold c_pandectref04_Word
  refine wp_norm fun J hJ => ?_
  try simp only [go_sem, ↓reduceIte, reduceCtorEq, Nat.reduceEqDiff, Nat.reduceLT, Nat.reduceAdd, Nat.reduceMul, Nat.reduceLeDiff, Nat.reduceSub]
  refine hJ _ ?_
  clear hJ J
  unfold maxL at hl
  refine wp_seq_k' fun K1 hK1 => ?_
  refine wp_reg' ?_
  refine @vc_step Fk _ _ _ _ fun J hJ => ?_
  simp only [go_sem, ↓reduceIte, reduceCtorEq, Nat.reduceEqDiff, Nat.reduceLT, Nat.reduceAdd, Nat.reduceMul, Nat.reduceLeDiff, Nat.reduceSub]
  refine hJ _ ?_
  clear hJ J
  refine vc_nil ?_
  try simp only [go_sem, ↓reduceIte, reduceCtorEq, Nat.reduceEqDiff, Nat.reduceLT, Nat.reduceAdd, Nat.reduceMul, Nat.reduceLeDiff, Nat.reduceSub]
  try simp only [go_sem, ↓reduceIte, reduceCtorEq, Nat.reduceEqDiff, Nat.reduceLT, Nat.reduceAdd, Nat.reduceMul, Nat.reduceLeDiff, Nat.reduceSub]
  refine hK1 _ ?_
  refine wp_seq_k' fun K2 hK2 => ?_
  refine wp_seq_k' fun K3 hK3 => ?_
  refine wp_reg' ?_
  refine vc_merge (K := K3) (ks := [0, 11]) (d := 11) (fun b11 => True) (fun b11 hb11 => ?_) fun M3 hM3 => ?_
  · skip
    try simp only [go_sem, ↓reduceIte, reduceCtorEq, Nat.reduceEqDiff, Nat.reduceLT, Nat.reduceAdd, Nat.reduceMul, Nat.reduceLeDiff, Nat.reduceSub]
    refine hK3 _ ?_
    refine wp_cond' rfl (fun hc1 => ?_) (fun hc1 => ?_)
    · skip
      try simp only [decide_eq_true_eq, decide_eq_false_iff_not, Bool.not_eq_true', Bool.not_eq_false', beq_iff_eq, bne_iff_ne, beq_eq_false_iff_ne, Int.ofNat_lt, Int.not_lt, Bool.and_eq_true, ne_eq, bne_eq_false_iff_eq] at hc1
      refine wp_seq_k' fun K4 hK4 => ?_
      refine wp_reg' ?_
      refine @vc_step Fk _ _ _ _ fun J hJ => ?_
      simp only [go_sem, ↓reduceIte, reduceCtorEq, Nat.reduceEqDiff, Nat.reduceLT, Nat.reduceAdd, Nat.reduceMul, Nat.reduceLeDiff, Nat.reduceSub]
      refine hJ _ ?_
      clear hJ J
      refine vc_nil ?_
      try simp only [go_sem, ↓reduceIte, reduceCtorEq, Nat.reduceEqDiff, Nat.reduceLT, Nat.reduceAdd, Nat.reduceMul, Nat.reduceLeDiff, Nat.reduceSub]
      try simp only [go_sem, ↓reduceIte, reduceCtorEq, Nat.reduceEqDiff, Nat.reduceLT, Nat.reduceAdd, Nat.reduceMul, Nat.reduceLeDiff, Nat.reduceSub]
      refine hK4 _ ?_
      refine wp_ret' ?_
      try simp only [go_sem, ↓reduceIte, reduceCtorEq, Nat.reduceEqDiff, Nat.reduceLT, Nat.reduceAdd, Nat.reduceMul, Nat.reduceLeDiff, Nat.reduceSub]
      exact hZ _ _ _ _ (by simp) rfl rfl ⟨_, rfl⟩
    · skip
      try simp only [decide_eq_true_eq, decide_eq_false_iff_not, Bool.not_eq_true', Bool.not_eq_false', beq_iff_eq, bne_iff_ne, beq_eq_false_iff_ne, Int.ofNat_lt, Int.not_lt, Bool.and_eq_true, ne_eq, bne_eq_false_iff_eq] at hc1
      refine wp_skip' ?_
      try simp only [go_sem, ↓reduceIte, reduceCtorEq, Nat.reduceEqDiff, Nat.reduceLT, Nat.reduceAdd, Nat.reduceMul, Nat.reduceLeDiff, Nat.reduceSub]
      try simp only [go_sem, ↓reduceIte, reduceCtorEq, Nat.reduceEqDiff, Nat.reduceLT, Nat.reduceAdd, Nat.reduceMul, Nat.reduceLeDiff, Nat.reduceSub]
      refine hK2 _ ?_
      refine wp_seq_k' fun K5 hK5 => ?_
      refine wp_seq_k' fun K6 hK6 => ?_
      refine wp_reg' ?_
      refine @vc_step Fk _ _ _ _ fun J hJ => ?_
      simp only [go_sem, ↓reduceIte, reduceCtorEq, Nat.reduceEqDiff, Nat.reduceLT, Nat.reduceAdd, Nat.reduceMul, Nat.reduceLeDiff, Nat.reduceSub]
      refine hJ _ ?_
      clear hJ J
      refine vc_nil ?_
      try simp only [go_sem, ↓reduceIte, reduceCtorEq, Nat.reduceEqDiff, Nat.reduceLT, Nat.reduceAdd, Nat.reduceMul, Nat.reduceLeDiff, Nat.reduceSub]
      try simp only [go_sem, ↓reduceIte, reduceCtorEq, Nat.reduceEqDiff, Nat.reduceLT, Nat.reduceAdd, Nat.reduceMul, Nat.reduceLeDiff, Nat.reduceSub]
      refine hK6 _ ?_
      refine wp_block' ?_
      refine wp_forU (ι := Unit) (l.length) (fun i1 x1 => [(3, .int .i64 (i1 : Nat))]) (fun i1 x1 => _) (fun i1 x1 => _) (fun i1 x1 => True) () (by rfl) rfl rfl (by trivial) fun i1 x1 hi1 hv1 K7 hK7 => ?_
      refine wp_norm fun J hJ => ?_
      try simp only [go_sem, ↓reduceIte, reduceCtorEq, Nat.reduceEqDiff, Nat.reduceLT, Nat.reduceAdd, Nat.reduceMul, Nat.reduceLeDiff, Nat.reduceSub]
      refine hJ _ ?_
      clear hJ J
      refine wp_seq_k' fun K8 hK8 => ?_
      refine wp_seq_k' fun K9 hK9 => ?_
      refine wp_reg' ?_
      iterate 4 (refine @vc_step Fk _ _ _ _ fun J hJ => ?_; simp only [go_sem, ↓reduceIte, reduceCtorEq, Nat.reduceEqDiff, Nat.reduceLT, Nat.reduceAdd, Nat.reduceMul, Nat.reduceLeDiff, Nat.reduceSub]; refine hJ _ ?_; clear hJ J)
      refine vc_nil ?_
      try simp only [go_sem, ↓reduceIte, reduceCtorEq, Nat.reduceEqDiff, Nat.reduceLT, Nat.reduceAdd, Nat.reduceMul, Nat.reduceLeDiff, Nat.reduceSub]
      try simp only [go_sem, ↓reduceIte, reduceCtorEq, Nat.reduceEqDiff, Nat.reduceLT, Nat.reduceAdd, Nat.reduceMul, Nat.reduceLeDiff, Nat.reduceSub]
      refine hK9 _ ?_
      refine wp_cond' rfl (fun hc2 => ?_) (fun hc2 => ?_)
      · skip
        try simp only [decide_eq_true_eq, decide_eq_false_iff_not, Bool.not_eq_true', Bool.not_eq_false', beq_iff_eq, bne_iff_ne, beq_eq_false_iff_ne, Int.ofNat_lt, Int.not_lt, Bool.and_eq_true, ne_eq, bne_eq_false_iff_eq] at hc2
        refine wp_skip' ?_
        try simp only [go_sem, ↓reduceIte, reduceCtorEq, Nat.reduceEqDiff, Nat.reduceLT, Nat.reduceAdd, Nat.reduceMul, Nat.reduceLeDiff, Nat.reduceSub, hc2]
        try simp only [go_sem, ↓reduceIte, reduceCtorEq, Nat.reduceEqDiff, Nat.reduceLT, Nat.reduceAdd, Nat.reduceMul, Nat.reduceLeDiff, Nat.reduceSub, hc2]
        refine hK8 _ ?_
        refine wp_seq_k' fun K10 hK10 => ?_
        refine wp_block' ?_
        refine wp_seq_k' fun K11 hK11 => ?_
        refine wp_reg' ?_
        refine vc_merge (K := K11) (ks := [0, 3, 27]) (d := 27) (fun b27 => True) (fun b27 hb27 => ?_) fun M11 hM11 => ?_
        · skip
          try simp only [go_sem, ↓reduceIte, reduceCtorEq, Nat.reduceEqDiff, Nat.reduceLT, Nat.reduceAdd, Nat.reduceMul, Nat.reduceLeDiff, Nat.reduceSub, hc2]
          refine hK11 _ ?_
          refine wp_cond' rfl (fun hc3 => ?_) (fun hc3 => ?_)
          · skip
            try simp only [decide_eq_true_eq, decide_eq_false_iff_not, Bool.not_eq_true', Bool.not_eq_false', beq_iff_eq, bne_iff_ne, beq_eq_false_iff_ne, Int.ofNat_lt, Int.not_lt, Bool.and_eq_true, ne_eq, bne_eq_false_iff_eq] at hc3
            refine wp_seq_k' fun K12 hK12 => ?_
            refine wp_reg' ?_
            refine @vc_step Fk _ _ _ _ fun J hJ => ?_
            simp only [go_sem, ↓reduceIte, reduceCtorEq, Nat.reduceEqDiff, Nat.reduceLT, Nat.reduceAdd, Nat.reduceMul, Nat.reduceLeDiff, Nat.reduceSub, hc2]
            refine hJ _ ?_
            clear hJ J
            refine vc_nil ?_
            try simp only [go_sem, ↓reduceIte, reduceCtorEq, Nat.reduceEqDiff, Nat.reduceLT, Nat.reduceAdd, Nat.reduceMul, Nat.reduceLeDiff, Nat.reduceSub, hc2]
            try simp only [go_sem, ↓reduceIte, reduceCtorEq, Nat.reduceEqDiff, Nat.reduceLT, Nat.reduceAdd, Nat.reduceMul, Nat.reduceLeDiff, Nat.reduceSub, hc2]
            refine hK12 _ ?_
            refine wp_ret' ?_
            try simp only [go_sem, ↓reduceIte, reduceCtorEq, Nat.reduceEqDiff, Nat.reduceLT, Nat.reduceAdd, Nat.reduceMul, Nat.reduceLeDiff, Nat.reduceSub, hc2]
            exact hZ _ _ _ _ (by simp) rfl rfl ⟨_, rfl⟩
          · skip
            try simp only [decide_eq_true_eq, decide_eq_false_iff_not, Bool.not_eq_true', Bool.not_eq_false', beq_iff_eq, bne_iff_ne, beq_eq_false_iff_ne, Int.ofNat_lt, Int.not_lt, Bool.and_eq_true, ne_eq, bne_eq_false_iff_eq] at hc3
            refine wp_skip' ?_
            try simp only [go_sem, ↓reduceIte, reduceCtorEq, Nat.reduceEqDiff, Nat.reduceLT, Nat.reduceAdd, Nat.reduceMul, Nat.reduceLeDiff, Nat.reduceSub, hc2]
            try simp only [go_sem, ↓reduceIte, reduceCtorEq, Nat.reduceEqDiff, Nat.reduceLT, Nat.reduceAdd, Nat.reduceMul, Nat.reduceLeDiff, Nat.reduceSub, hc2]
            refine hK10 _ ?_
            refine wp_reg' ?_
            iterate 3 (refine @vc_step Fk _ _ _ _ fun J hJ => ?_; simp only [go_sem, ↓reduceIte, reduceCtorEq, Nat.reduceEqDiff, Nat.reduceLT, Nat.reduceAdd, Nat.reduceMul, Nat.reduceLeDiff, Nat.reduceSub, hc2]; refine hJ _ ?_; clear hJ J)
            refine vc_nil ?_
            try simp only [go_sem, ↓reduceIte, reduceCtorEq, Nat.reduceEqDiff, Nat.reduceLT, Nat.reduceAdd, Nat.reduceMul, Nat.reduceLeDiff, Nat.reduceSub, hc2]
            refine hK7 _ _ _ ⟨by assumption, (), by trivial, ?_, rfl, rfl⟩
            rw [wrap64 (n := ((i1 : Nat) : Int) + 1) (by omega) (by omega)]
            rfl
        · skip
          iterate 2 (refine @vc_step Fk _ _ _ _ fun J hJ => ?_; simp only [go_sem, ↓reduceIte, reduceCtorEq, Nat.reduceEqDiff, Nat.reduceLT, Nat.reduceAdd, Nat.reduceMul, Nat.reduceLeDiff, Nat.reduceSub, hc2]; refine hJ _ ?_; clear hJ J)
          refine @vc_step Fk _ _ _ _ fun J hJ => ?_
          simp only [go_sem, ↓reduceIte, reduceCtorEq, Nat.reduceEqDiff, Nat.reduceLT, Nat.reduceAdd, Nat.reduceMul, Nat.reduceLeDiff, Nat.reduceSub, hc2]
          first | refine hJ _ ?_ | refine ⟨by first | assumption | omega | exact List.getElem_mem _, hJ _ ?_⟩ | refine ⟨by first | assumption | omega | exact List.getElem_mem _, by first | assumption | omega | exact List.getElem_mem _, hJ _ ?_⟩
          clear hJ J
          iterate 2 (refine @vc_step Fk _ _ _ _ fun J hJ => ?_; simp only [go_sem, ↓reduceIte, reduceCtorEq, Nat.reduceEqDiff, Nat.reduceLT, Nat.reduceAdd, Nat.reduceMul, Nat.reduceLeDiff, Nat.reduceSub, hc2]; refine hJ _ ?_; clear hJ J)
          refine @vc_gd Fk _ _ _ _ 22 (by rfl) (fun hg1 => ?_) (fun hg1 => ?_)
          · skip
            have hg1n := hg1
            try simp only [decide_eq_true_eq, decide_eq_false_iff_not, Bool.not_eq_true', Bool.not_eq_false', beq_iff_eq, bne_iff_ne, beq_eq_false_iff_ne, Int.ofNat_lt, Int.not_lt, Bool.and_eq_true, ne_eq, bne_eq_false_iff_eq] at hg1n
            iterate 5 (refine @vc_step Fk _ _ _ _ fun J hJ => ?_; simp only [go_sem, ↓reduceIte, reduceCtorEq, Nat.reduceEqDiff, Nat.reduceLT, Nat.reduceAdd, Nat.reduceMul, Nat.reduceLeDiff, Nat.reduceSub, hc2, hg1]; refine hJ _ ?_; clear hJ J)
            refine vc_nil ?_
            exact hM11 _ _ (trivial) rfl
          · skip
            have hg1n := hg1
            try simp only [decide_eq_true_eq, decide_eq_false_iff_not, Bool.not_eq_true', Bool.not_eq_false', beq_iff_eq, bne_iff_ne, beq_eq_false_iff_ne, Int.ofNat_lt, Int.not_lt, Bool.and_eq_true, ne_eq, bne_eq_false_iff_eq] at hg1n
            iterate 2 (refine @vc_step Fk _ _ _ _ fun J hJ => ?_; simp only [go_sem, ↓reduceIte, reduceCtorEq, Nat.reduceEqDiff, Nat.reduceLT, Nat.reduceAdd, Nat.reduceMul, Nat.reduceLeDiff, Nat.reduceSub, hc2, hg1]; refine hJ _ ?_; clear hJ J)
            refine @vc_step Fk _ _ _ _ fun J hJ => ?_
            simp only [go_sem, ↓reduceIte, reduceCtorEq, Nat.reduceEqDiff, Nat.reduceLT, Nat.reduceAdd, Nat.reduceMul, Nat.reduceLeDiff, Nat.reduceSub, hc2, hg1]
            first | refine hJ _ ?_ | refine ⟨by first | assumption | omega | exact List.getElem_mem _, hJ _ ?_⟩ | refine ⟨by first | assumption | omega | exact List.getElem_mem _, by first | assumption | omega | exact List.getElem_mem _, hJ _ ?_⟩
            clear hJ J
            iterate 2 (refine @vc_step Fk _ _ _ _ fun J hJ => ?_; simp only [go_sem, ↓reduceIte, reduceCtorEq, Nat.reduceEqDiff, Nat.reduceLT, Nat.reduceAdd, Nat.reduceMul, Nat.reduceLeDiff, Nat.reduceSub, hc2, hg1]; refine hJ _ ?_; clear hJ J)
            refine vc_nil ?_
            exact hM11 _ _ (trivial) rfl
      · skip
        try simp only [decide_eq_true_eq, decide_eq_false_iff_not, Bool.not_eq_true', Bool.not_eq_false', beq_iff_eq, bne_iff_ne, beq_eq_false_iff_ne, Int.ofNat_lt, Int.not_lt, Bool.and_eq_true, ne_eq, bne_eq_false_iff_eq] at hc2
        refine wp_exit' ?_
        try simp only [go_sem, ↓reduceIte, reduceCtorEq, Nat.reduceEqDiff, Nat.reduceLT, Nat.reduceAdd, Nat.reduceMul, Nat.reduceLeDiff, Nat.reduceSub, hc2]
        try simp only [go_sem, ↓reduceIte, reduceCtorEq, Nat.reduceEqDiff, Nat.reduceLT, Nat.reduceAdd, Nat.reduceMul, Nat.reduceLeDiff, Nat.reduceSub, hc2]
        refine hK5 _ ?_
        refine wp_seq_k' fun K13 hK13 => ?_
        refine wp_reg' ?_
        refine @vc_step Fk _ _ _ _ fun J hJ => ?_
        simp only [go_sem, ↓reduceIte, reduceCtorEq, Nat.reduceEqDiff, Nat.reduceLT, Nat.reduceAdd, Nat.reduceMul, Nat.reduceLeDiff, Nat.reduceSub, hc2]
        refine hJ _ ?_
        clear hJ J
        refine vc_nil ?_
        try simp only [go_sem, ↓reduceIte, reduceCtorEq, Nat.reduceEqDiff, Nat.reduceLT, Nat.reduceAdd, Nat.reduceMul, Nat.reduceLeDiff, Nat.reduceSub, hc2]
        try simp only [go_sem, ↓reduceIte, reduceCtorEq, Nat.reduceEqDiff, Nat.reduceLT, Nat.reduceAdd, Nat.reduceMul, Nat.reduceLeDiff, Nat.reduceSub, hc2]
        refine hK13 _ ?_
        refine wp_ret' ?_
        try simp only [go_sem, ↓reduceIte, reduceCtorEq, Nat.reduceEqDiff, Nat.reduceLT, Nat.reduceAdd, Nat.reduceMul, Nat.reduceLeDiff, Nat.reduceSub, hc2]
        exact hZ _ _ _ _ (by simp) rfl rfl ⟨_, rfl⟩
  · skip
    iterate 4 (refine @vc_step Fk _ _ _ _ fun J hJ => ?_; simp only [go_sem, ↓reduceIte, reduceCtorEq, Nat.reduceEqDiff, Nat.reduceLT, Nat.reduceAdd, Nat.reduceMul, Nat.reduceLeDiff, Nat.reduceSub]; refine hJ _ ?_; clear hJ J)
    refine @vc_gd Fk _ _ _ _ 7 (by rfl) (fun hg2 => ?_) (fun hg2 => ?_)
    · skip
      have hg2n := hg2
      try simp only [decide_eq_true_eq, decide_eq_false_iff_not, Bool.not_eq_true', Bool.not_eq_false', beq_iff_eq, bne_iff_ne, beq_eq_false_iff_ne, Int.ofNat_lt, Int.not_lt, Bool.and_eq_true, ne_eq, bne_eq_false_iff_eq] at hg2n
      iterate 4 (refine @vc_step Fk _ _ _ _ fun J hJ => ?_; simp only [go_sem, ↓reduceIte, reduceCtorEq, Nat.reduceEqDiff, Nat.reduceLT, Nat.reduceAdd, Nat.reduceMul, Nat.reduceLeDiff, Nat.reduceSub, hg2]; refine hJ _ ?_; clear hJ J)
      refine vc_nil ?_
      exact hM3 _ _ (trivial) rfl
    · skip
      have hg2n := hg2
      try simp only [decide_eq_true_eq, decide_eq_false_iff_not, Bool.not_eq_true', Bool.not_eq_false', beq_iff_eq, bne_iff_ne, beq_eq_false_iff_ne, Int.ofNat_lt, Int.not_lt, Bool.and_eq_true, ne_eq, bne_eq_false_iff_eq] at hg2n
      iterate 4 (refine @vc_step Fk _ _ _ _ fun J hJ => ?_; simp only [go_sem, ↓reduceIte, reduceCtorEq, Nat.reduceEqDiff, Nat.reduceLT, Nat.reduceAdd, Nat.reduceMul, Nat.reduceLeDiff, Nat.reduceSub, hg2]; refine hJ _ ?_; clear hJ J)
      refine vc_nil ?_
      exact hM3 _ _ (trivial) rfl
theorem word4_call {l : List UInt8} (hl : l.length ≤ maxL) {H : List AO} {T : List Nat} {Q : Av → List AO → List Nat → Prop} (hq : ∀ (b : Bool), Q (.bool b) H T) : RunT Fk (.fn n_pandectref04_Word) [.str l] H T Q := by
  obtain ⟨_, ⟨b, rfl⟩, hr⟩ := word4 _ hl
  exact runT_ret hr (hq b)

theorem may4 (t : TD) (l : List (List UInt8)) (hl : l.length ≤ maxL) (hw : ∀ s ∈ l, s.length ≤ maxL) :
    ∃ v, (∃ (b : Bool), v = .bool b) ∧ Ret Fk n_pandectref04_May [.sl (l.map strC) t.tk] v := by
  refine ret_of_wpP (show Fk n_pandectref04_May = some (.fn true 19 c_pandectref04_May r_pandectref04_May) from rfl) (args' := [.sl (l.map strC) t.tk]) (by simp only [stripA, strip_int, strip_bool, strip_str, strip_sl, strip_U, strip_I, strip_A]) (Nat.le_of_ble_eq_true rfl) fun Z hZ => ?_
  unfold c_pandectref04_May
  refine wp_norm fun J hJ => ?_
  try simp only [go_sem, ↓reduceIte, reduceCtorEq, Nat.reduceEqDiff, Nat.reduceLT, Nat.reduceAdd, Nat.reduceMul, Nat.reduceLeDiff, Nat.reduceSub]
  refine hJ _ ?_
  clear hJ J
  unfold maxL at hl
  refine wp_seq_k' fun K1 hK1 => ?_
  refine wp_reg' ?_
  refine @vc_step Fk _ _ _ _ fun J hJ => ?_
  simp only [go_sem, ↓reduceIte, reduceCtorEq, Nat.reduceEqDiff, Nat.reduceLT, Nat.reduceAdd, Nat.reduceMul, Nat.reduceLeDiff, Nat.reduceSub]
  refine hJ _ ?_
  clear hJ J
  refine vc_nil ?_
  try simp only [go_sem, ↓reduceIte, reduceCtorEq, Nat.reduceEqDiff, Nat.reduceLT, Nat.reduceAdd, Nat.reduceMul, Nat.reduceLeDiff, Nat.reduceSub]
  try simp only [go_sem, ↓reduceIte, reduceCtorEq, Nat.reduceEqDiff, Nat.reduceLT, Nat.reduceAdd, Nat.reduceMul, Nat.reduceLeDiff, Nat.reduceSub]
  refine hK1 _ ?_
  refine wp_seq_k' fun K2 hK2 => ?_
  refine wp_seq_k' fun K3 hK3 => ?_
  refine wp_reg' ?_
  iterate 3 (refine @vc_step Fk _ _ _ _ fun J hJ => ?_; simp only [go_sem, ↓reduceIte, reduceCtorEq, Nat.reduceEqDiff, Nat.reduceLT, Nat.reduceAdd, Nat.reduceMul, Nat.reduceLeDiff, Nat.reduceSub]; refine hJ _ ?_; clear hJ J)
  refine vc_nil ?_
  try simp only [go_sem, ↓reduceIte, reduceCtorEq, Nat.reduceEqDiff, Nat.reduceLT, Nat.reduceAdd, Nat.reduceMul, Nat.reduceLeDiff, Nat.reduceSub]
  try simp only [go_sem, ↓reduceIte, reduceCtorEq, Nat.reduceEqDiff, Nat.reduceLT, Nat.reduceAdd, Nat.reduceMul, Nat.reduceLeDiff, Nat.reduceSub]
  refine hK3 _ ?_
  refine wp_cond' rfl (fun hc1 => ?_) (fun hc1 => ?_)
  · skip
    try simp only [decide_eq_true_eq, decide_eq_false_iff_not, Bool.not_eq_true', Bool.not_eq_false', beq_iff_eq, bne_iff_ne, beq_eq_false_iff_ne, Int.ofNat_lt, Int.not_lt, Bool.and_eq_true, ne_eq, bne_eq_false_iff_eq] at hc1
    refine wp_seq_k' fun K4 hK4 => ?_
    refine wp_reg' ?_
    refine @vc_step Fk _ _ _ _ fun J hJ => ?_
    simp only [go_sem, ↓reduceIte, reduceCtorEq, Nat.reduceEqDiff, Nat.reduceLT, Nat.reduceAdd, Nat.reduceMul, Nat.reduceLeDiff, Nat.reduceSub, hc1]
    refine hJ _ ?_
    clear hJ J
    refine vc_nil ?_
    try simp only [go_sem, ↓reduceIte, reduceCtorEq, Nat.reduceEqDiff, Nat.reduceLT, Nat.reduceAdd, Nat.reduceMul, Nat.reduceLeDiff, Nat.reduceSub, hc1]
    try simp only [go_sem, ↓reduceIte, reduceCtorEq, Nat.reduceEqDiff, Nat.reduceLT, Nat.reduceAdd, Nat.reduceMul, Nat.reduceLeDiff, Nat.reduceSub, hc1]
    refine hK4 _ ?_
    refine wp_ret' ?_
    try simp only [go_sem, ↓reduceIte, reduceCtorEq, Nat.reduceEqDiff, Nat.reduceLT, Nat.reduceAdd, Nat.reduceMul, Nat.reduceLeDiff, Nat.reduceSub, hc1]
    exact hZ _ _ _ _ (by simp) rfl rfl ⟨_, rfl⟩
  · skip
    try simp only [decide_eq_true_eq, decide_eq_false_iff_not, Bool.not_eq_true', Bool.not_eq_false', beq_iff_eq, bne_iff_ne, beq_eq_false_iff_ne, Int.ofNat_lt, Int.not_lt, Bool.and_eq_true, ne_eq, bne_eq_false_iff_eq] at hc1
    refine wp_skip' ?_
    try simp only [go_sem, ↓reduceIte, reduceCtorEq, Nat.reduceEqDiff, Nat.reduceLT, Nat.reduceAdd, Nat.reduceMul, Nat.reduceLeDiff, Nat.reduceSub, hc1]
    try simp only [go_sem, ↓reduceIte, reduceCtorEq, Nat.reduceEqDiff, Nat.reduceLT, Nat.reduceAdd, Nat.reduceMul, Nat.reduceLeDiff, Nat.reduceSub, hc1]
    refine hK2 _ ?_
    refine wp_seq_k' fun K5 hK5 => ?_
    refine wp_seq_k' fun K6 hK6 => ?_
    refine wp_reg' ?_
    refine @vc_step Fk _ _ _ _ fun J hJ => ?_
    simp only [go_sem, ↓reduceIte, reduceCtorEq, Nat.reduceEqDiff, Nat.reduceLT, Nat.reduceAdd, Nat.reduceMul, Nat.reduceLeDiff, Nat.reduceSub, hc1]
    refine hJ _ ?_
    clear hJ J
    refine vc_nil ?_
    try simp only [go_sem, ↓reduceIte, reduceCtorEq, Nat.reduceEqDiff, Nat.reduceLT, Nat.reduceAdd, Nat.reduceMul, Nat.reduceLeDiff, Nat.reduceSub, hc1]
    try simp only [go_sem, ↓reduceIte, reduceCtorEq, Nat.reduceEqDiff, Nat.reduceLT, Nat.reduceAdd, Nat.reduceMul, Nat.reduceLeDiff, Nat.reduceSub, hc1]
    refine hK6 _ ?_
    refine wp_block' ?_
    refine wp_forU (ι := Unit) (l.length) (fun i1 x1 => [(3, .int .i64 (i1 : Nat))]) (fun i1 x1 => _) (fun i1 x1 => _) (fun i1 x1 => True) () (by rfl) rfl rfl (by trivial) fun i1 x1 hi1 hv1 K7 hK7 => ?_
    refine wp_norm fun J hJ => ?_
    try simp only [go_sem, ↓reduceIte, reduceCtorEq, Nat.reduceEqDiff, Nat.reduceLT, Nat.reduceAdd, Nat.reduceMul, Nat.reduceLeDiff, Nat.reduceSub, hc1]
    refine hJ _ ?_
    clear hJ J
    refine wp_seq_k' fun K8 hK8 => ?_
    refine wp_seq_k' fun K9 hK9 => ?_
    refine wp_reg' ?_
    iterate 4 (refine @vc_step Fk _ _ _ _ fun J hJ => ?_; simp only [go_sem, ↓reduceIte, reduceCtorEq, Nat.reduceEqDiff, Nat.reduceLT, Nat.reduceAdd, Nat.reduceMul, Nat.reduceLeDiff, Nat.reduceSub, hc1]; refine hJ _ ?_; clear hJ J)
    refine vc_nil ?_
    try simp only [go_sem, ↓reduceIte, reduceCtorEq, Nat.reduceEqDiff, Nat.reduceLT, Nat.reduceAdd, Nat.reduceMul, Nat.reduceLeDiff, Nat.reduceSub, hc1]
    try simp only [go_sem, ↓reduceIte, reduceCtorEq, Nat.reduceEqDiff, Nat.reduceLT, Nat.reduceAdd, Nat.reduceMul, Nat.reduceLeDiff, Nat.reduceSub, hc1]
    refine hK9 _ ?_
    refine wp_cond' rfl (fun hc2 => ?_) (fun hc2 => ?_)
    · skip
      try simp only [decide_eq_true_eq, decide_eq_false_iff_not, Bool.not_eq_true', Bool.not_eq_false', beq_iff_eq, bne_iff_ne, beq_eq_false_iff_ne, Int.ofNat_lt, Int.not_lt, Bool.and_eq_true, ne_eq, bne_eq_false_iff_eq] at hc2
      refine wp_skip' ?_
      try simp only [go_sem, ↓reduceIte, reduceCtorEq, Nat.reduceEqDiff, Nat.reduceLT, Nat.reduceAdd, Nat.reduceMul, Nat.reduceLeDiff, Nat.reduceSub, hc1, hc2]
      try simp only [go_sem, ↓reduceIte, reduceCtorEq, Nat.reduceEqDiff, Nat.reduceLT, Nat.reduceAdd, Nat.reduceMul, Nat.reduceLeDiff, Nat.reduceSub, hc1, hc2]
      refine hK8 _ ?_
      refine wp_seq_k' fun K10 hK10 => ?_
      refine wp_block' ?_
      refine wp_seq_k' fun K11 hK11 => ?_
      refine wp_reg' ?_
      iterate 2 (refine @vc_step Fk _ _ _ _ fun J hJ => ?_; simp only [go_sem, ↓reduceIte, reduceCtorEq, Nat.reduceEqDiff, Nat.reduceLT, Nat.reduceAdd, Nat.reduceMul, Nat.reduceLeDiff, Nat.reduceSub, hc1, hc2]; refine hJ _ ?_; clear hJ J)
      refine @vc_step Fk _ _ _ _ fun J hJ => ?_
      simp only [go_sem, ↓reduceIte, reduceCtorEq, Nat.reduceEqDiff, Nat.reduceLT, Nat.reduceAdd, Nat.reduceMul, Nat.reduceLeDiff, Nat.reduceSub, hc1, hc2]
      first | refine hJ _ ?_ | refine ⟨by first | assumption | omega | exact List.getElem_mem _ | exact hw _ (List.getElem_mem _), hJ _ ?_⟩ | refine ⟨by first | assumption | omega | exact List.getElem_mem _ | exact hw _ (List.getElem_mem _), by first | assumption | omega | exact List.getElem_mem _ | exact hw _ (List.getElem_mem _), hJ _ ?_⟩
      clear hJ J
      refine @vc_step Fk _ _ _ _ fun J hJ => ?_
      simp only [go_sem, ↓reduceIte, reduceCtorEq, Nat.reduceEqDiff, Nat.reduceLT, Nat.reduceAdd, Nat.reduceMul, Nat.reduceLeDiff, Nat.reduceSub, hc1, hc2]
      refine hJ _ ?_
      clear hJ J
      refine @vc_step Fk _ _ _ _ fun J hJ => ?_
      simp only [go_sem, ↓reduceIte, reduceCtorEq, Nat.reduceEqDiff, Nat.reduceLT, Nat.reduceAdd, Nat.reduceMul, Nat.reduceLeDiff, Nat.reduceSub, hc1, hc2]
      refine word4_call  (by first | assumption | omega | exact List.getElem_mem _ | exact hw _ (List.getElem_mem _)) fun b1 => ?_
      try simp only [go_sem, ↓reduceIte, reduceCtorEq, Nat.reduceEqDiff, Nat.reduceLT, Nat.reduceAdd, Nat.reduceMul, Nat.reduceLeDiff, Nat.reduceSub, hc1, hc2]
      refine hJ _ ?_
      clear hJ J
      refine @vc_step Fk _ _ _ _ fun J hJ => ?_
      simp only [go_sem, ↓reduceIte, reduceCtorEq, Nat.reduceEqDiff, Nat.reduceLT, Nat.reduceAdd, Nat.reduceMul, Nat.reduceLeDiff, Nat.reduceSub, hc1, hc2]
      refine hJ _ ?_
      clear hJ J
      refine vc_nil ?_
      try simp only [go_sem, ↓reduceIte, reduceCtorEq, Nat.reduceEqDiff, Nat.reduceLT, Nat.reduceAdd, Nat.reduceMul, Nat.reduceLeDiff, Nat.reduceSub, hc1, hc2]
      try simp only [go_sem, ↓reduceIte, reduceCtorEq, Nat.reduceEqDiff, Nat.reduceLT, Nat.reduceAdd, Nat.reduceMul, Nat.reduceLeDiff, Nat.reduceSub, hc1, hc2]
      refine hK11 _ ?_
      refine wp_cond' rfl (fun hc3 => ?_) (fun hc3 => ?_)
      · skip
        try simp only [decide_eq_true_eq, decide_eq_false_iff_not, Bool.not_eq_true', Bool.not_eq_false', beq_iff_eq, bne_iff_ne, beq_eq_false_iff_ne, Int.ofNat_lt, Int.not_lt, Bool.and_eq_true, ne_eq, bne_eq_false_iff_eq] at hc3
        refine wp_seq_k' fun K12 hK12 => ?_
        refine wp_reg' ?_
        refine @vc_step Fk _ _ _ _ fun J hJ => ?_
        simp only [go_sem, ↓reduceIte, reduceCtorEq, Nat.reduceEqDiff, Nat.reduceLT, Nat.reduceAdd, Nat.reduceMul, Nat.reduceLeDiff, Nat.reduceSub, hc1, hc2]
        refine hJ _ ?_
        clear hJ J
        refine vc_nil ?_
        try simp only [go_sem, ↓reduceIte, reduceCtorEq, Nat.reduceEqDiff, Nat.reduceLT, Nat.reduceAdd, Nat.reduceMul, Nat.reduceLeDiff, Nat.reduceSub, hc1, hc2]
        try simp only [go_sem, ↓reduceIte, reduceCtorEq, Nat.reduceEqDiff, Nat.reduceLT, Nat.reduceAdd, Nat.reduceMul, Nat.reduceLeDiff, Nat.reduceSub, hc1, hc2]
        refine hK12 _ ?_
        refine wp_ret' ?_
        try simp only [go_sem, ↓reduceIte, reduceCtorEq, Nat.reduceEqDiff, Nat.reduceLT, Nat.reduceAdd, Nat.reduceMul, Nat.reduceLeDiff, Nat.reduceSub, hc1, hc2]
        exact hZ _ _ _ _ (by simp) rfl rfl ⟨_, rfl⟩
      · skip
        try simp only [decide_eq_true_eq, decide_eq_false_iff_not, Bool.not_eq_true', Bool.not_eq_false', beq_iff_eq, bne_iff_ne, beq_eq_false_iff_ne, Int.ofNat_lt, Int.not_lt, Bool.and_eq_true, ne_eq, bne_eq_false_iff_eq] at hc3
        refine wp_skip' ?_
        try simp only [go_sem, ↓reduceIte, reduceCtorEq, Nat.reduceEqDiff, Nat.reduceLT, Nat.reduceAdd, Nat.reduceMul, Nat.reduceLeDiff, Nat.reduceSub, hc1, hc2]
        try simp only [go_sem, ↓reduceIte, reduceCtorEq, Nat.reduceEqDiff, Nat.reduceLT, Nat.reduceAdd, Nat.reduceMul, Nat.reduceLeDiff, Nat.reduceSub, hc1, hc2]
        refine hK10 _ ?_
        refine wp_reg' ?_
        iterate 3 (refine @vc_step Fk _ _ _ _ fun J hJ => ?_; simp only [go_sem, ↓reduceIte, reduceCtorEq, Nat.reduceEqDiff, Nat.reduceLT, Nat.reduceAdd, Nat.reduceMul, Nat.reduceLeDiff, Nat.reduceSub, hc1, hc2]; refine hJ _ ?_; clear hJ J)
        refine vc_nil ?_
        try simp only [go_sem, ↓reduceIte, reduceCtorEq, Nat.reduceEqDiff, Nat.reduceLT, Nat.reduceAdd, Nat.reduceMul, Nat.reduceLeDiff, Nat.reduceSub, hc1, hc2]
        refine hK7 _ _ _ ⟨by assumption, (), by trivial, ?_, rfl, rfl⟩
        rw [wrap64 (n := ((i1 : Nat) : Int) + 1) (by omega) (by omega)]
        rfl
    · skip
      try simp only [decide_eq_true_eq, decide_eq_false_iff_not, Bool.not_eq_true', Bool.not_eq_false', beq_iff_eq, bne_iff_ne, beq_eq_false_iff_ne, Int.ofNat_lt, Int.not_lt, Bool.and_eq_true, ne_eq, bne_eq_false_iff_eq] at hc2
      refine wp_exit' ?_
      try simp only [go_sem, ↓reduceIte, reduceCtorEq, Nat.reduceEqDiff, Nat.reduceLT, Nat.reduceAdd, Nat.reduceMul, Nat.reduceLeDiff, Nat.reduceSub, hc1, hc2]
      try simp only [go_sem, ↓reduceIte, reduceCtorEq, Nat.reduceEqDiff, Nat.reduceLT, Nat.reduceAdd, Nat.reduceMul, Nat.reduceLeDiff, Nat.reduceSub, hc1, hc2]
      refine hK5 _ ?_
      refine wp_seq_k' fun K13 hK13 => ?_
      refine wp_reg' ?_
      refine @vc_step Fk _ _ _ _ fun J hJ => ?_
      simp only [go_sem, ↓reduceIte, reduceCtorEq, Nat.reduceEqDiff, Nat.reduceLT, Nat.reduceAdd, Nat.reduceMul, Nat.reduceLeDiff, Nat.reduceSub, hc1, hc2]
      refine hJ _ ?_
      clear hJ J
      refine vc_nil ?_
      try simp only [go_sem, ↓reduceIte, reduceCtorEq, Nat.reduceEqDiff, Nat.reduceLT, Nat.reduceAdd, Nat.reduceMul, Nat.reduceLeDiff, Nat.reduceSub, hc1, hc2]
      try simp only [go_sem, ↓reduceIte, reduceCtorEq, Nat.reduceEqDiff, Nat.reduceLT, Nat.reduceAdd, Nat.reduceMul, Nat.reduceLeDiff, Nat.reduceSub, hc1, hc2]
      refine hK13 _ ?_
      refine wp_ret' ?_
      try simp only [go_sem, ↓reduceIte, reduceCtorEq, Nat.reduceEqDiff, Nat.reduceLT, Nat.reduceAdd, Nat.reduceMul, Nat.reduceLeDiff, Nat.reduceSub, hc1, hc2]
      exact hZ _ _ _ _ (by simp) rfl rfl ⟨_, rfl⟩
theorem may4_call {t : TD} {l : List (List UInt8)} (hl : l.length ≤ maxL) (hw : ∀ s ∈ l, s.length ≤ maxL) {H : List AO} {T : List Nat} {Q : Av → List AO → List Nat → Prop} (hq : ∀ (b : Bool), Q (.bool b) H T) : RunT Fk (.fn n_pandectref04_May) [.sl (l.map strC) t.tk] H T Q := by
  obtain ⟨_, ⟨b, rfl⟩, hr⟩ := may4 _ _ hl hw
  exact runT_ret hr (hq b)

theorem texts (t : TD) (l : List Wd) (hl : l.length ≤ 1048576) :
    ∃ v, (∃ (t2 : TD), v = .sl ((l.map Wd.s).map strC) t2.tk) ∧ Ret Fk n_pandectref06_Texts [.sl (l.map Wd.cs) t.tk] v := by
  refine ret_of_wpP (show Fk n_pandectref06_Texts = some (.fn true 21 c_pandectref06_Texts r_pandectref06_Texts) from rfl) (args' := [.sl (l.map Wd.cs) t.tk]) (by simp only [stripA, strip_int, strip_bool, strip_str, strip_sl, strip_U, strip_I, strip_A]) (Nat.le_of_ble_eq_true rfl) fun Z hZ => ?_
  unfold c_pandectref06_Texts
  refine wp_norm fun J hJ => ?_
  try simp only [go_sem, ↓reduceIte, reduceCtorEq, Nat.reduceEqDiff, Nat.reduceLT, Nat.reduceAdd, Nat.reduceMul, Nat.reduceLeDiff, Nat.reduceSub]
  refine hJ _ ?_
  clear hJ J
  refine wp_seq_k' fun K1 hK1 => ?_
  refine wp_reg' ?_
  refine @vc_step Fk _ _ _ _ fun J hJ => ?_
  simp only [go_sem, ↓reduceIte, reduceCtorEq, Nat.reduceEqDiff, Nat.reduceLT, Nat.reduceAdd, Nat.reduceMul, Nat.reduceLeDiff, Nat.reduceSub]
  refine hJ _ ?_
  clear hJ J
  refine vc_nil ?_
  try simp only [go_sem, ↓reduceIte, reduceCtorEq, Nat.reduceEqDiff, Nat.reduceLT, Nat.reduceAdd, Nat.reduceMul, Nat.reduceLeDiff, Nat.reduceSub]
  try simp only [go_sem, ↓reduceIte, reduceCtorEq, Nat.reduceEqDiff, Nat.reduceLT, Nat.reduceAdd, Nat.reduceMul, Nat.reduceLeDiff, Nat.reduceSub]
  refine hK1 _ ?_
  refine wp_seq_k' fun K2 hK2 => ?_
  refine wp_reg' ?_
  iterate 2 (refine @vc_step Fk _ _ _ _ fun J hJ => ?_; simp only [go_sem, ↓reduceIte, reduceCtorEq, Nat.reduceEqDiff, Nat.reduceLT, Nat.reduceAdd, Nat.reduceMul, Nat.reduceLeDiff, Nat.reduceSub]; refine hJ _ ?_; clear hJ J)
  refine vc_nil ?_
  try simp only [go_sem, ↓reduceIte, reduceCtorEq, Nat.reduceEqDiff, Nat.reduceLT, Nat.reduceAdd, Nat.reduceMul, Nat.reduceLeDiff, Nat.reduceSub]
  try simp only [go_sem, ↓reduceIte, reduceCtorEq, Nat.reduceEqDiff, Nat.reduceLT, Nat.reduceAdd, Nat.reduceMul, Nat.reduceLeDiff, Nat.reduceSub]
  refine hK2 _ ?_
  refine wp_seq_k' fun K3 hK3 => ?_
  refine wp_seq_k' fun K4 hK4 => ?_
  refine wp_reg' ?_
  refine @vc_step Fk _ _ _ _ fun J hJ => ?_
  simp only [go_sem, ↓reduceIte, reduceCtorEq, Nat.reduceEqDiff, Nat.reduceLT, Nat.reduceAdd, Nat.reduceMul, Nat.reduceLeDiff, Nat.reduceSub]
  refine hJ _ ?_
  clear hJ J
  refine vc_nil ?_
  try simp only [go_sem, ↓reduceIte, reduceCtorEq, Nat.reduceEqDiff, Nat.reduceLT, Nat.reduceAdd, Nat.reduceMul, Nat.reduceLeDiff, Nat.reduceSub]
  try simp only [go_sem, ↓reduceIte, reduceCtorEq, Nat.reduceEqDiff, Nat.reduceLT, Nat.reduceAdd, Nat.reduceMul, Nat.reduceLeDiff, Nat.reduceSub]
  refine hK4 _ ?_
  refine wp_block' ?_
  refine wp_forU (ι := Tk × List Nat) (l.length) (fun i1 x1 => [(3, .sl (((l.take i1).map Wd.s).map strC) x1.1), (4, .int .i64 (i1 : Nat))]) (fun i1 x1 => _) (fun i1 x1 => x1.2) (fun i1 x1 => AppOk x1.2 x1.1 i1) (.full, []) (by rfl) rfl rfl (by exact .full _ _) fun i1 x1 hi1 hv1 K5 hK5 => ?_
  refine wp_norm fun J hJ => ?_
  try simp only [go_sem, ↓reduceIte, reduceCtorEq, Nat.reduceEqDiff, Nat.reduceLT, Nat.reduceAdd, Nat.reduceMul, Nat.reduceLeDiff, Nat.reduceSub]
  refine hJ _ ?_
  clear hJ J
  refine wp_seq_k' fun K6 hK6 => ?_
  refine wp_seq_k' fun K7 hK7 => ?_
  refine wp_reg' ?_
  iterate 4 (refine @vc_step Fk _ _ _ _ fun J hJ => ?_; simp only [go_sem, ↓reduceIte, reduceCtorEq, Nat.reduceEqDiff, Nat.reduceLT, Nat.reduceAdd, Nat.reduceMul, Nat.reduceLeDiff, Nat.reduceSub]; refine hJ _ ?_; clear hJ J)
  refine vc_nil ?_
  try simp only [go_sem, ↓reduceIte, reduceCtorEq, Nat.reduceEqDiff, Nat.reduceLT, Nat.reduceAdd, Nat.reduceMul, Nat.reduceLeDiff, Nat.reduceSub]
  try simp only [go_sem, ↓reduceIte, reduceCtorEq, Nat.reduceEqDiff, Nat.reduceLT, Nat.reduceAdd, Nat.reduceMul, Nat.reduceLeDiff, Nat.reduceSub]
  refine hK7 _ ?_
  refine wp_cond' rfl (fun hc1 => ?_) (fun hc1 => ?_)
  · skip
    try simp only [decide_eq_true_eq, decide_eq_false_iff_not, Bool.not_eq_true', Bool.not_eq_false', beq_iff_eq, bne_iff_ne, beq_eq_false_iff_ne, Int.ofNat_lt, Int.not_lt, Bool.and_eq_true, ne_eq, bne_eq_false_iff_eq] at hc1
    refine wp_skip' ?_
    try simp only [go_sem, ↓reduceIte, reduceCtorEq, Nat.reduceEqDiff, Nat.reduceLT, Nat.reduceAdd, Nat.reduceMul, Nat.reduceLeDiff, Nat.reduceSub, hc1]
    try simp only [go_sem, ↓reduceIte, reduceCtorEq, Nat.reduceEqDiff, Nat.reduceLT, Nat.reduceAdd, Nat.reduceMul, Nat.reduceLeDiff, Nat.reduceSub, hc1]
    refine hK6 _ ?_
    refine wp_seq_k' fun K8 hK8 => ?_
    refine wp_block' ?_
    refine wp_reg' ?_
    iterate 3 (refine @vc_step Fk _ _ _ _ fun J hJ => ?_; simp only [go_sem, ↓reduceIte, reduceCtorEq, Nat.reduceEqDiff, Nat.reduceLT, Nat.reduceAdd, Nat.reduceMul, Nat.reduceLeDiff, Nat.reduceSub, hc1]; refine hJ _ ?_; clear hJ J)
    refine @vc_step Fk _ _ _ _ fun J hJ => ?_
    simp only [go_sem, ↓reduceIte, reduceCtorEq, Nat.reduceEqDiff, Nat.reduceLT, Nat.reduceAdd, Nat.reduceMul, Nat.reduceLeDiff, Nat.reduceSub, hc1]
    first | refine hJ _ ?_ | refine ⟨by first | assumption | omega | exact List.getElem_mem _, hJ _ ?_⟩ | refine ⟨by first | assumption | omega | exact List.getElem_mem _, by first | assumption | omega | exact List.getElem_mem _, hJ _ ?_⟩
    clear hJ J
    iterate 3 (refine @vc_step Fk _ _ _ _ fun J hJ => ?_; simp only [go_sem, ↓reduceIte, reduceCtorEq, Nat.reduceEqDiff, Nat.reduceLT, Nat.reduceAdd, Nat.reduceMul, Nat.reduceLeDiff, Nat.reduceSub, hc1]; refine hJ _ ?_; clear hJ J)
    refine @vc_step Fk _ _ _ _ fun J hJ => ?_
    simp only [go_sem, ↓reduceIte, reduceCtorEq, Nat.reduceEqDiff, Nat.reduceLT, Nat.reduceAdd, Nat.reduceMul, Nat.reduceLeDiff, Nat.reduceSub, hc1]
    obtain ⟨tk2, T2, g1, g2, -⟩ := appTok_ok (k := 1) hv1 (by decide)
    refine ⟨?_, tk2, T2, by simpa [Nat.min_eq_left (Nat.le_of_lt hc1)] using g1, ?_⟩
    · simp [room]; omega
    refine hJ _ ?_
    clear hJ J
    refine @vc_step Fk _ _ _ _ fun J hJ => ?_
    simp only [go_sem, ↓reduceIte, reduceCtorEq, Nat.reduceEqDiff, Nat.reduceLT, Nat.reduceAdd, Nat.reduceMul, Nat.reduceLeDiff, Nat.reduceSub, hc1]
    refine hJ _ ?_
    clear hJ J
    refine vc_nil ?_
    try simp only [go_sem, ↓reduceIte, reduceCtorEq, Nat.reduceEqDiff, Nat.reduceLT, Nat.reduceAdd, Nat.reduceMul, Nat.reduceLeDiff, Nat.reduceSub, hc1]
    try simp only [go_sem, ↓reduceIte, reduceCtorEq, Nat.reduceEqDiff, Nat.reduceLT, Nat.reduceAdd, Nat.reduceMul, Nat.reduceLeDiff, Nat.reduceSub, hc1]
    refine hK8 _ ?_
    refine wp_reg' ?_
    iterate 3 (refine @vc_step Fk _ _ _ _ fun J hJ => ?_; simp only [go_sem, ↓reduceIte, reduceCtorEq, Nat.reduceEqDiff, Nat.reduceLT, Nat.reduceAdd, Nat.reduceMul, Nat.reduceLeDiff, Nat.reduceSub, hc1]; refine hJ _ ?_; clear hJ J)
    refine vc_nil ?_
    try simp only [go_sem, ↓reduceIte, reduceCtorEq, Nat.reduceEqDiff, Nat.reduceLT, Nat.reduceAdd, Nat.reduceMul, Nat.reduceLeDiff, Nat.reduceSub, hc1]
    refine hK5 _ _ _ ⟨hc1, (tk2, T2), g2, ?_, rfl, rfl⟩
    rw [wrap64 (n := ((i1 : Nat) : Int) + 1) (by omega) (by omega)]
    have e : ((l.take (i1 + 1)).map Wd.s).map strC = ((l.take i1).map Wd.s).map strC ++ [[.str l[i1].s]] := by rw [List.take_add_one, List.getElem?_eq_getElem hc1, List.map_append, List.map_append]; rfl
    rw [e]
    rfl
  · skip
    try simp only [decide_eq_true_eq, decide_eq_false_iff_not, Bool.not_eq_true', Bool.not_eq_false', beq_iff_eq, bne_iff_ne, beq_eq_false_iff_ne, Int.ofNat_lt, Int.not_lt, Bool.and_eq_true, ne_eq, bne_eq_false_iff_eq] at hc1
    have hn : i1 = l.length := by omega
    subst hn
    refine wp_exit' ?_
    try simp only [go_sem, ↓reduceIte, reduceCtorEq, Nat.reduceEqDiff, Nat.reduceLT, Nat.reduceAdd, Nat.reduceMul, Nat.reduceLeDiff, Nat.reduceSub]
    try simp only [go_sem, ↓reduceIte, reduceCtorEq, Nat.reduceEqDiff, Nat.reduceLT, Nat.reduceAdd, Nat.reduceMul, Nat.reduceLeDiff, Nat.reduceSub]
    refine hK3 _ ?_
    refine wp_seq_k' fun K9 hK9 => ?_
    refine wp_reg' ?_
    iterate 2 (refine @vc_step Fk _ _ _ _ fun J hJ => ?_; simp only [go_sem, ↓reduceIte, reduceCtorEq, Nat.reduceEqDiff, Nat.reduceLT, Nat.reduceAdd, Nat.reduceMul, Nat.reduceLeDiff, Nat.reduceSub]; refine hJ _ ?_; clear hJ J)
    refine vc_nil ?_
    try simp only [go_sem, ↓reduceIte, reduceCtorEq, Nat.reduceEqDiff, Nat.reduceLT, Nat.reduceAdd, Nat.reduceMul, Nat.reduceLeDiff, Nat.reduceSub]
    try simp only [go_sem, ↓reduceIte, reduceCtorEq, Nat.reduceEqDiff, Nat.reduceLT, Nat.reduceAdd, Nat.reduceMul, Nat.reduceLeDiff, Nat.reduceSub]
    refine hK9 _ ?_
    refine wp_ret' ?_
    try simp only [go_sem, ↓reduceIte, reduceCtorEq, Nat.reduceEqDiff, Nat.reduceLT, Nat.reduceAdd, Nat.reduceMul, Nat.reduceLeDiff, Nat.reduceSub]
    rw [List.take_length]; obtain ⟨t2, ht2⟩ := TD.of x1.1; exact hZ _ _ _ (.sl _ x1.1.pu) (by simp) rfl rfl ⟨t2, by rw [ht2]⟩
theorem texts_call {t : TD} {l : List Wd} (hl : l.length ≤ 1048576) {H : List AO} {T : List Nat} {Q : Av → List AO → List Nat → Prop} (hq : ∀ (t2 : TD), Q (.sl ((l.map Wd.s).map strC) t2.tk) H T) : RunT Fk (.fn n_pandectref06_Texts) [.sl (l.map Wd.cs) t.tk] H T Q := by
  obtain ⟨_, ⟨t2, rfl⟩, hr⟩ := texts _ _ hl
  exact runT_ret hr (hq t2)

theorem row (t : TD) (l : List Wd) (hl : l.length ≤ maxL) (hw : ∀ w ∈ l, w.s.length ≤ maxL) :
    ∃ v, (∃ (b : Bool), v = .bool b) ∧ Ret Fk n_pandectref06_row [.sl (l.map Wd.cs) t.tk] v := by
  refine ret_of_wpP (show Fk n_pandectref06_row = some (.fn true 11 c_pandectref06_row r_pandectref06_row) from rfl) (args' := [.sl (l.map Wd.cs) t.tk]) (by simp only [stripA, strip_int, strip_bool, strip_str, strip_sl, strip_U, strip_I, strip_A]) (Nat.le_of_ble_eq_true rfl) fun Z hZ => ?_
  unfold c_pandectref06_row
  refine wp_norm fun J hJ => ?_
  try simp only [go_sem, ↓reduceIte, reduceCtorEq, Nat.reduceEqDiff, Nat.reduceLT, Nat.reduceAdd, Nat.reduceMul, Nat.reduceLeDiff, Nat.reduceSub]
  refine hJ _ ?_
  clear hJ J
  refine wp_seq_k' fun K1 hK1 => ?_
  refine wp_reg' ?_
  refine @vc_step Fk _ _ _ _ fun J hJ => ?_
  simp only [go_sem, ↓reduceIte, reduceCtorEq, Nat.reduceEqDiff, Nat.reduceLT, Nat.reduceAdd, Nat.reduceMul, Nat.reduceLeDiff, Nat.reduceSub]
  refine hJ _ ?_
  clear hJ J
  refine vc_nil ?_
  try simp only [go_sem, ↓reduceIte, reduceCtorEq, Nat.reduceEqDiff, Nat.reduceLT, Nat.reduceAdd, Nat.reduceMul, Nat.reduceLeDiff, Nat.reduceSub]
  try simp only [go_sem, ↓reduceIte, reduceCtorEq, Nat.reduceEqDiff, Nat.reduceLT, Nat.reduceAdd, Nat.reduceMul, Nat.reduceLeDiff, Nat.reduceSub]
  refine hK1 _ ?_
  refine wp_seq_k' fun K2 hK2 => ?_
  refine wp_reg' ?_
  refine vc_merge (K := K2) (ks := [2]) (d := 2) (fun b2 => True) (fun b2 hb2 => ?_) fun M2 hM2 => ?_
  · skip
    try simp only [go_sem, ↓reduceIte, reduceCtorEq, Nat.reduceEqDiff, Nat.reduceLT, Nat.reduceAdd, Nat.reduceMul, Nat.reduceLeDiff, Nat.reduceSub]
    refine hK2 _ ?_
    refine wp_ret' ?_
    try simp only [go_sem, ↓reduceIte, reduceCtorEq, Nat.reduceEqDiff, Nat.reduceLT, Nat.reduceAdd, Nat.reduceMul, Nat.reduceLeDiff, Nat.reduceSub]
    exact hZ _ _ _ _ (by simp) rfl rfl ⟨_, rfl⟩
  · skip
    iterate 4 (refine @vc_step Fk _ _ _ _ fun J hJ => ?_; simp only [go_sem, ↓reduceIte, reduceCtorEq, Nat.reduceEqDiff, Nat.reduceLT, Nat.reduceAdd, Nat.reduceMul, Nat.reduceLeDiff, Nat.reduceSub]; refine hJ _ ?_; clear hJ J)
    refine @vc_gd Fk _ _ _ _ 6 (by rfl) (fun hg1 => ?_) (fun hg1 => ?_)
    · skip
      have hg1n := hg1
      try simp only [decide_eq_true_eq, decide_eq_false_iff_not, Bool.not_eq_true', Bool.not_eq_false', beq_iff_eq, bne_iff_ne, beq_eq_false_iff_ne, Int.ofNat_lt, Int.not_lt, Bool.and_eq_true, ne_eq, bne_eq_false_iff_eq] at hg1n
      have h256 : l.length ≤ 1048576 := by omega
      refine @vc_step Fk _ _ _ _ fun J hJ => ?_
      simp only [go_sem, ↓reduceIte, reduceCtorEq, Nat.reduceEqDiff, Nat.reduceLT, Nat.reduceAdd, Nat.reduceMul, Nat.reduceLeDiff, Nat.reduceSub, hg1]
      refine hJ _ ?_
      clear hJ J
      refine @vc_step Fk _ _ _ _ fun J hJ => ?_
      simp only [go_sem, ↓reduceIte, reduceCtorEq, Nat.reduceEqDiff, Nat.reduceLT, Nat.reduceAdd, Nat.reduceMul, Nat.reduceLeDiff, Nat.reduceSub, hg1]
      refine texts_call  (by first | assumption | omega | exact List.getElem_mem _ | simpa using hl | simpa using hw) fun t21 => ?_
      try simp only [go_sem, ↓reduceIte, reduceCtorEq, Nat.reduceEqDiff, Nat.reduceLT, Nat.reduceAdd, Nat.reduceMul, Nat.reduceLeDiff, Nat.reduceSub, hg1]
      refine hJ _ ?_
      clear hJ J
      refine @vc_step Fk _ _ _ _ fun J hJ => ?_
      simp only [go_sem, ↓reduceIte, reduceCtorEq, Nat.reduceEqDiff, Nat.reduceLT, Nat.reduceAdd, Nat.reduceMul, Nat.reduceLeDiff, Nat.reduceSub, hg1]
      refine may4_call  (by first | assumption | omega | exact List.getElem_mem _ | simpa using hl | simpa using hw) (by first | assumption | omega | exact List.getElem_mem _ | simpa using hl | simpa using hw) fun b2 => ?_
      try simp only [go_sem, ↓reduceIte, reduceCtorEq, Nat.reduceEqDiff, Nat.reduceLT, Nat.reduceAdd, Nat.reduceMul, Nat.reduceLeDiff, Nat.reduceSub, hg1]
      refine hJ _ ?_
      clear hJ J
      iterate 2 (refine @vc_step Fk _ _ _ _ fun J hJ => ?_; simp only [go_sem, ↓reduceIte, reduceCtorEq, Nat.reduceEqDiff, Nat.reduceLT, Nat.reduceAdd, Nat.reduceMul, Nat.reduceLeDiff, Nat.reduceSub, hg1]; refine hJ _ ?_; clear hJ J)
      refine vc_nil ?_
      exact hM2 _ _ (trivial) rfl
    · skip
      have hg1n := hg1
      try simp only [decide_eq_true_eq, decide_eq_false_iff_not, Bool.not_eq_true', Bool.not_eq_false', beq_iff_eq, bne_iff_ne, beq_eq_false_iff_ne, Int.ofNat_lt, Int.not_lt, Bool.and_eq_true, ne_eq, bne_eq_false_iff_eq] at hg1n
      iterate 5 (refine @vc_step Fk _ _ _ _ fun J hJ => ?_; simp only [go_sem, ↓reduceIte, reduceCtorEq, Nat.reduceEqDiff, Nat.reduceLT, Nat.reduceAdd, Nat.reduceMul, Nat.reduceLeDiff, Nat.reduceSub, hg1]; refine hJ _ ?_; clear hJ J)
      refine vc_nil ?_
      exact hM2 _ _ (trivial) rfl
theorem row_call {t : TD} {l : List Wd} (hl : l.length ≤ maxL) (hw : ∀ w ∈ l, w.s.length ≤ maxL) {H : List AO} {T : List Nat} {Q : Av → List AO → List Nat → Prop} (hq : ∀ (b : Bool), Q (.bool b) H T) : RunT Fk (.fn n_pandectref06_row) [.sl (l.map Wd.cs) t.tk] H T Q := by
  obtain ⟨_, ⟨b, rfl⟩, hr⟩ := row _ _ hl hw
  exact runT_ret hr (hq b)

theorem may3 (l : List UInt8) (hl : l.length ≤ maxL) :
    ∃ v, (∃ (b : Bool), v = .bool b) ∧ Ret Fk n_pandectref03_May [.str l] v := by
  refine ret_of_wpP (show Fk n_pandectref03_May = some (.fn true 42 c_pandectref03_May r_pandectref03_May) from rfl) (args' := [.str l]) (by simp only [stripA, strip_int, strip_bool, strip_str, strip_sl, strip_U, strip_I, strip_A]) (Nat.le_of_ble_eq_true rfl) fun Z hZ => ?_
  unfold c_pandectref03_May
  refine wp_norm fun J hJ => ?_
  try simp only [go_sem, ↓reduceIte, reduceCtorEq, Nat.reduceEqDiff, Nat.reduceLT, Nat.reduceAdd, Nat.reduceMul, Nat.reduceLeDiff, Nat.reduceSub]
  refine hJ _ ?_
  clear hJ J
  obtain ⟨_, ⟨n, hn, rfl⟩, hd⟩ := digits l hl
  unfold maxL at hl
  refine wp_seq_k' fun K1 hK1 => ?_
  refine wp_reg' ?_
  refine @vc_step Fk _ _ _ _ fun J hJ => ?_
  simp only [go_sem, ↓reduceIte, reduceCtorEq, Nat.reduceEqDiff, Nat.reduceLT, Nat.reduceAdd, Nat.reduceMul, Nat.reduceLeDiff, Nat.reduceSub]
  refine hJ _ ?_
  clear hJ J
  refine vc_nil ?_
  try simp only [go_sem, ↓reduceIte, reduceCtorEq, Nat.reduceEqDiff, Nat.reduceLT, Nat.reduceAdd, Nat.reduceMul, Nat.reduceLeDiff, Nat.reduceSub]
  try simp only [go_sem, ↓reduceIte, reduceCtorEq, Nat.reduceEqDiff, Nat.reduceLT, Nat.reduceAdd, Nat.reduceMul, Nat.reduceLeDiff, Nat.reduceSub]
  refine hK1 _ ?_
  refine wp_seq_k' fun K2 hK2 => ?_
  refine wp_reg' ?_
  refine @vc_step Fk _ _ _ _ fun J hJ => ?_
  simp only [go_sem, ↓reduceIte, reduceCtorEq, Nat.reduceEqDiff, Nat.reduceLT, Nat.reduceAdd, Nat.reduceMul, Nat.reduceLeDiff, Nat.reduceSub]
  refine hJ _ ?_
  clear hJ J
  refine @vc_step Fk _ _ _ _ fun J hJ => ?_
  simp only [go_sem, ↓reduceIte, reduceCtorEq, Nat.reduceEqDiff, Nat.reduceLT, Nat.reduceAdd, Nat.reduceMul, Nat.reduceLeDiff, Nat.reduceSub]
  refine runT_ret hd ?_
  try simp only [go_sem, ↓reduceIte, reduceCtorEq, Nat.reduceEqDiff, Nat.reduceLT, Nat.reduceAdd, Nat.reduceMul, Nat.reduceLeDiff, Nat.reduceSub]
  refine hJ _ ?_
  clear hJ J
  refine @vc_step Fk _ _ _ _ fun J hJ => ?_
  simp only [go_sem, ↓reduceIte, reduceCtorEq, Nat.reduceEqDiff, Nat.reduceLT, Nat.reduceAdd, Nat.reduceMul, Nat.reduceLeDiff, Nat.reduceSub]
  refine hJ _ ?_
  clear hJ J
  refine vc_nil ?_
  try simp only [go_sem, ↓reduceIte, reduceCtorEq, Nat.reduceEqDiff, Nat.reduceLT, Nat.reduceAdd, Nat.reduceMul, Nat.reduceLeDiff, Nat.reduceSub]
  try simp only [go_sem, ↓reduceIte, reduceCtorEq, Nat.reduceEqDiff, Nat.reduceLT, Nat.reduceAdd, Nat.reduceMul, Nat.reduceLeDiff, Nat.reduceSub]
  refine hK2 _ ?_
  refine wp_seq_k' fun K3 hK3 => ?_
  refine wp_seq_k' fun K4 hK4 => ?_
  refine wp_reg' ?_
  refine vc_merge (K := K4) (ks := [0, 3, 24]) (d := 24) (fun b24 => True) (fun b24 hb24 => ?_) fun M4 hM4 => ?_
  · skip
    try simp only [go_sem, ↓reduceIte, reduceCtorEq, Nat.reduceEqDiff, Nat.reduceLT, Nat.reduceAdd, Nat.reduceMul, Nat.reduceLeDiff, Nat.reduceSub]
    refine hK4 _ ?_
    refine wp_cond' rfl (fun hc1 => ?_) (fun hc1 => ?_)
    · skip
      try simp only [decide_eq_true_eq, decide_eq_false_iff_not, Bool.not_eq_true', Bool.not_eq_false', beq_iff_eq, bne_iff_ne, beq_eq_false_iff_ne, Int.ofNat_lt, Int.not_lt, Bool.and_eq_true, ne_eq, bne_eq_false_iff_eq] at hc1
      refine wp_seq_k' fun K5 hK5 => ?_
      refine wp_reg' ?_
      refine @vc_step Fk _ _ _ _ fun J hJ => ?_
      simp only [go_sem, ↓reduceIte, reduceCtorEq, Nat.reduceEqDiff, Nat.reduceLT, Nat.reduceAdd, Nat.reduceMul, Nat.reduceLeDiff, Nat.reduceSub]
      refine hJ _ ?_
      clear hJ J
      refine vc_nil ?_
      try simp only [go_sem, ↓reduceIte, reduceCtorEq, Nat.reduceEqDiff, Nat.reduceLT, Nat.reduceAdd, Nat.reduceMul, Nat.reduceLeDiff, Nat.reduceSub]
      try simp only [go_sem, ↓reduceIte, reduceCtorEq, Nat.reduceEqDiff, Nat.reduceLT, Nat.reduceAdd, Nat.reduceMul, Nat.reduceLeDiff, Nat.reduceSub]
      refine hK5 _ ?_
      refine wp_ret' ?_
      try simp only [go_sem, ↓reduceIte, reduceCtorEq, Nat.reduceEqDiff, Nat.reduceLT, Nat.reduceAdd, Nat.reduceMul, Nat.reduceLeDiff, Nat.reduceSub]
      exact hZ _ _ _ _ (by simp) rfl rfl ⟨_, rfl⟩
    · skip
      try simp only [decide_eq_true_eq, decide_eq_false_iff_not, Bool.not_eq_true', Bool.not_eq_false', beq_iff_eq, bne_iff_ne, beq_eq_false_iff_ne, Int.ofNat_lt, Int.not_lt, Bool.and_eq_true, ne_eq, bne_eq_false_iff_eq] at hc1
      refine wp_skip' ?_
      try simp only [go_sem, ↓reduceIte, reduceCtorEq, Nat.reduceEqDiff, Nat.reduceLT, Nat.reduceAdd, Nat.reduceMul, Nat.reduceLeDiff, Nat.reduceSub]
      try simp only [go_sem, ↓reduceIte, reduceCtorEq, Nat.reduceEqDiff, Nat.reduceLT, Nat.reduceAdd, Nat.reduceMul, Nat.reduceLeDiff, Nat.reduceSub]
      refine hK3 _ ?_
      refine wp_seq_k' fun K6 hK6 => ?_
      refine wp_seq_k' fun K7 hK7 => ?_
      refine wp_reg' ?_
      iterate 2 (refine @vc_step Fk _ _ _ _ fun J hJ => ?_; simp only [go_sem, ↓reduceIte, reduceCtorEq, Nat.reduceEqDiff, Nat.reduceLT, Nat.reduceAdd, Nat.reduceMul, Nat.reduceLeDiff, Nat.reduceSub]; refine hJ _ ?_; clear hJ J)
      refine vc_nil ?_
      try simp only [go_sem, ↓reduceIte, reduceCtorEq, Nat.reduceEqDiff, Nat.reduceLT, Nat.reduceAdd, Nat.reduceMul, Nat.reduceLeDiff, Nat.reduceSub]
      try simp only [go_sem, ↓reduceIte, reduceCtorEq, Nat.reduceEqDiff, Nat.reduceLT, Nat.reduceAdd, Nat.reduceMul, Nat.reduceLeDiff, Nat.reduceSub]
      refine hK7 _ ?_
      refine wp_block' ?_
      refine wp_forU (ι := Unit) (l.length - n) (fun i1 x1 => [(4, .int .i64 ((n + i1 : Nat) : Int))]) (fun i1 x1 => _) (fun i1 x1 => _) (fun i1 x1 => True) () (by rfl) rfl rfl (by trivial) fun i1 x1 hi1 hv1 K8 hK8 => ?_
      refine wp_norm fun J hJ => ?_
      try simp only [go_sem, ↓reduceIte, reduceCtorEq, Nat.reduceEqDiff, Nat.reduceLT, Nat.reduceAdd, Nat.reduceMul, Nat.reduceLeDiff, Nat.reduceSub]
      refine hJ _ ?_
      clear hJ J
      refine wp_seq_k' fun K9 hK9 => ?_
      refine wp_seq_k' fun K10 hK10 => ?_
      refine wp_reg' ?_
      iterate 4 (refine @vc_step Fk _ _ _ _ fun J hJ => ?_; simp only [go_sem, ↓reduceIte, reduceCtorEq, Nat.reduceEqDiff, Nat.reduceLT, Nat.reduceAdd, Nat.reduceMul, Nat.reduceLeDiff, Nat.reduceSub]; refine hJ _ ?_; clear hJ J)
      refine vc_nil ?_
      try simp only [go_sem, ↓reduceIte, reduceCtorEq, Nat.reduceEqDiff, Nat.reduceLT, Nat.reduceAdd, Nat.reduceMul, Nat.reduceLeDiff, Nat.reduceSub]
      try simp only [go_sem, ↓reduceIte, reduceCtorEq, Nat.reduceEqDiff, Nat.reduceLT, Nat.reduceAdd, Nat.reduceMul, Nat.reduceLeDiff, Nat.reduceSub]
      refine hK10 _ ?_
      refine wp_cond' rfl (fun hc2 => ?_) (fun hc2 => ?_)
      · skip
        try simp only [decide_eq_true_eq, decide_eq_false_iff_not, Bool.not_eq_true', Bool.not_eq_false', beq_iff_eq, bne_iff_ne, beq_eq_false_iff_ne, Int.ofNat_lt, Int.not_lt, Bool.and_eq_true, ne_eq, bne_eq_false_iff_eq] at hc2
        refine wp_skip' ?_
        try simp only [go_sem, ↓reduceIte, reduceCtorEq, Nat.reduceEqDiff, Nat.reduceLT, Nat.reduceAdd, Nat.reduceMul, Nat.reduceLeDiff, Nat.reduceSub, hc2]
        try simp only [go_sem, ↓reduceIte, reduceCtorEq, Nat.reduceEqDiff, Nat.reduceLT, Nat.reduceAdd, Nat.reduceMul, Nat.reduceLeDiff, Nat.reduceSub, hc2]
        refine hK9 _ ?_
        refine wp_seq_k' fun K11 hK11 => ?_
        refine wp_block' ?_
        refine wp_seq_k' fun K12 hK12 => ?_
        refine wp_reg' ?_
        refine vc_merge (K := K12) (ks := [0, 4, 41]) (d := 41) (fun b41 => True) (fun b41 hb41 => ?_) fun M12 hM12 => ?_
        · skip
          try simp only [go_sem, ↓reduceIte, reduceCtorEq, Nat.reduceEqDiff, Nat.reduceLT, Nat.reduceAdd, Nat.reduceMul, Nat.reduceLeDiff, Nat.reduceSub, hc2]
          refine hK12 _ ?_
          refine wp_cond' rfl (fun hc3 => ?_) (fun hc3 => ?_)
          · skip
            try simp only [decide_eq_true_eq, decide_eq_false_iff_not, Bool.not_eq_true', Bool.not_eq_false', beq_iff_eq, bne_iff_ne, beq_eq_false_iff_ne, Int.ofNat_lt, Int.not_lt, Bool.and_eq_true, ne_eq, bne_eq_false_iff_eq] at hc3
            refine wp_seq_k' fun K13 hK13 => ?_
            refine wp_reg' ?_
            refine @vc_step Fk _ _ _ _ fun J hJ => ?_
            simp only [go_sem, ↓reduceIte, reduceCtorEq, Nat.reduceEqDiff, Nat.reduceLT, Nat.reduceAdd, Nat.reduceMul, Nat.reduceLeDiff, Nat.reduceSub, hc2]
            refine hJ _ ?_
            clear hJ J
            refine vc_nil ?_
            try simp only [go_sem, ↓reduceIte, reduceCtorEq, Nat.reduceEqDiff, Nat.reduceLT, Nat.reduceAdd, Nat.reduceMul, Nat.reduceLeDiff, Nat.reduceSub, hc2]
            try simp only [go_sem, ↓reduceIte, reduceCtorEq, Nat.reduceEqDiff, Nat.reduceLT, Nat.reduceAdd, Nat.reduceMul, Nat.reduceLeDiff, Nat.reduceSub, hc2]
            refine hK13 _ ?_
            refine wp_ret' ?_
            try simp only [go_sem, ↓reduceIte, reduceCtorEq, Nat.reduceEqDiff, Nat.reduceLT, Nat.reduceAdd, Nat.reduceMul, Nat.reduceLeDiff, Nat.reduceSub, hc2]
            exact hZ _ _ _ _ (by simp) rfl rfl ⟨_, rfl⟩
          · skip
            try simp only [decide_eq_true_eq, decide_eq_false_iff_not, Bool.not_eq_true', Bool.not_eq_false', beq_iff_eq, bne_iff_ne, beq_eq_false_iff_ne, Int.ofNat_lt, Int.not_lt, Bool.and_eq_true, ne_eq, bne_eq_false_iff_eq] at hc3
            refine wp_skip' ?_
            try simp only [go_sem, ↓reduceIte, reduceCtorEq, Nat.reduceEqDiff, Nat.reduceLT, Nat.reduceAdd, Nat.reduceMul, Nat.reduceLeDiff, Nat.reduceSub, hc2]
            try simp only [go_sem, ↓reduceIte, reduceCtorEq, Nat.reduceEqDiff, Nat.reduceLT, Nat.reduceAdd, Nat.reduceMul, Nat.reduceLeDiff, Nat.reduceSub, hc2]
            refine hK11 _ ?_
            refine wp_reg' ?_
            iterate 3 (refine @vc_step Fk _ _ _ _ fun J hJ => ?_; simp only [go_sem, ↓reduceIte, reduceCtorEq, Nat.reduceEqDiff, Nat.reduceLT, Nat.reduceAdd, Nat.reduceMul, Nat.reduceLeDiff, Nat.reduceSub, hc2]; refine hJ _ ?_; clear hJ J)
            refine vc_nil ?_
            try simp only [go_sem, ↓reduceIte, reduceCtorEq, Nat.reduceEqDiff, Nat.reduceLT, Nat.reduceAdd, Nat.reduceMul, Nat.reduceLeDiff, Nat.reduceSub, hc2]
            refine hK8 _ _ _ ⟨by omega, (), trivial, ?_, rfl, rfl⟩
            rw [wrap64 (n := ((n + i1 : Nat) : Int) + 1) (by omega) (by omega)]
            rfl
        · skip
          iterate 2 (refine @vc_step Fk _ _ _ _ fun J hJ => ?_; simp only [go_sem, ↓reduceIte, reduceCtorEq, Nat.reduceEqDiff, Nat.reduceLT, Nat.reduceAdd, Nat.reduceMul, Nat.reduceLeDiff, Nat.reduceSub, hc2]; refine hJ _ ?_; clear hJ J)
          refine @vc_step Fk _ _ _ _ fun J hJ => ?_
          simp only [go_sem, ↓reduceIte, reduceCtorEq, Nat.reduceEqDiff, Nat.reduceLT, Nat.reduceAdd, Nat.reduceMul, Nat.reduceLeDiff, Nat.reduceSub, hc2]
          first | refine hJ _ ?_ | refine ⟨by first | assumption | omega | exact List.getElem_mem _, hJ _ ?_⟩ | refine ⟨by first | assumption | omega | exact List.getElem_mem _, by first | assumption | omega | exact List.getElem_mem _, hJ _ ?_⟩
          clear hJ J
          iterate 2 (refine @vc_step Fk _ _ _ _ fun J hJ => ?_; simp only [go_sem, ↓reduceIte, reduceCtorEq, Nat.reduceEqDiff, Nat.reduceLT, Nat.reduceAdd, Nat.reduceMul, Nat.reduceLeDiff, Nat.reduceSub, hc2]; refine hJ _ ?_; clear hJ J)
          refine @vc_gd Fk _ _ _ _ 36 (by rfl) (fun hg1 => ?_) (fun hg1 => ?_)
          · skip
            have hg1n := hg1
            try simp only [decide_eq_true_eq, decide_eq_false_iff_not, Bool.not_eq_true', Bool.not_eq_false', beq_iff_eq, bne_iff_ne, beq_eq_false_iff_ne, Int.ofNat_lt, Int.not_lt, Bool.and_eq_true, ne_eq, bne_eq_false_iff_eq] at hg1n
            iterate 5 (refine @vc_step Fk _ _ _ _ fun J hJ => ?_; simp only [go_sem, ↓reduceIte, reduceCtorEq, Nat.reduceEqDiff, Nat.reduceLT, Nat.reduceAdd, Nat.reduceMul, Nat.reduceLeDiff, Nat.reduceSub, hc2, hg1]; refine hJ _ ?_; clear hJ J)
            refine vc_nil ?_
            exact hM12 _ _ (trivial) rfl
          · skip
            have hg1n := hg1
            try simp only [decide_eq_true_eq, decide_eq_false_iff_not, Bool.not_eq_true', Bool.not_eq_false', beq_iff_eq, bne_iff_ne, beq_eq_false_iff_ne, Int.ofNat_lt, Int.not_lt, Bool.and_eq_true, ne_eq, bne_eq_false_iff_eq] at hg1n
            iterate 2 (refine @vc_step Fk _ _ _ _ fun J hJ => ?_; simp only [go_sem, ↓reduceIte, reduceCtorEq, Nat.reduceEqDiff, Nat.reduceLT, Nat.reduceAdd, Nat.reduceMul, Nat.reduceLeDiff, Nat.reduceSub, hc2, hg1]; refine hJ _ ?_; clear hJ J)
            refine @vc_step Fk _ _ _ _ fun J hJ => ?_
            simp only [go_sem, ↓reduceIte, reduceCtorEq, Nat.reduceEqDiff, Nat.reduceLT, Nat.reduceAdd, Nat.reduceMul, Nat.reduceLeDiff, Nat.reduceSub, hc2, hg1]
            first | refine hJ _ ?_ | refine ⟨by first | assumption | omega | exact List.getElem_mem _, hJ _ ?_⟩ | refine ⟨by first | assumption | omega | exact List.getElem_mem _, by first | assumption | omega | exact List.getElem_mem _, hJ _ ?_⟩
            clear hJ J
            iterate 2 (refine @vc_step Fk _ _ _ _ fun J hJ => ?_; simp only [go_sem, ↓reduceIte, reduceCtorEq, Nat.reduceEqDiff, Nat.reduceLT, Nat.reduceAdd, Nat.reduceMul, Nat.reduceLeDiff, Nat.reduceSub, hc2, hg1]; refine hJ _ ?_; clear hJ J)
            refine vc_nil ?_
            exact hM12 _ _ (trivial) rfl
      · skip
        try simp only [decide_eq_true_eq, decide_eq_false_iff_not, Bool.not_eq_true', Bool.not_eq_false', beq_iff_eq, bne_iff_ne, beq_eq_false_iff_ne, Int.ofNat_lt, Int.not_lt, Bool.and_eq_true, ne_eq, bne_eq_false_iff_eq] at hc2
        refine wp_exit' ?_
        try simp only [go_sem, ↓reduceIte, reduceCtorEq, Nat.reduceEqDiff, Nat.reduceLT, Nat.reduceAdd, Nat.reduceMul, Nat.reduceLeDiff, Nat.reduceSub, hc2]
        try simp only [go_sem, ↓reduceIte, reduceCtorEq, Nat.reduceEqDiff, Nat.reduceLT, Nat.reduceAdd, Nat.reduceMul, Nat.reduceLeDiff, Nat.reduceSub, hc2]
        refine hK6 _ ?_
        refine wp_seq_k' fun K14 hK14 => ?_
        refine wp_reg' ?_
        refine @vc_step Fk _ _ _ _ fun J hJ => ?_
        simp only [go_sem, ↓reduceIte, reduceCtorEq, Nat.reduceEqDiff, Nat.reduceLT, Nat.reduceAdd, Nat.reduceMul, Nat.reduceLeDiff, Nat.reduceSub, hc2]
        refine hJ _ ?_
        clear hJ J
        refine vc_nil ?_
        try simp only [go_sem, ↓reduceIte, reduceCtorEq, Nat.reduceEqDiff, Nat.reduceLT, Nat.reduceAdd, Nat.reduceMul, Nat.reduceLeDiff, Nat.reduceSub, hc2]
        try simp only [go_sem, ↓reduceIte, reduceCtorEq, Nat.reduceEqDiff, Nat.reduceLT, Nat.reduceAdd, Nat.reduceMul, Nat.reduceLeDiff, Nat.reduceSub, hc2]
        refine hK14 _ ?_
        refine wp_ret' ?_
        try simp only [go_sem, ↓reduceIte, reduceCtorEq, Nat.reduceEqDiff, Nat.reduceLT, Nat.reduceAdd, Nat.reduceMul, Nat.reduceLeDiff, Nat.reduceSub, hc2]
        exact hZ _ _ _ _ (by simp) rfl rfl ⟨_, rfl⟩
  · skip
    iterate 3 (refine @vc_step Fk _ _ _ _ fun J hJ => ?_; simp only [go_sem, ↓reduceIte, reduceCtorEq, Nat.reduceEqDiff, Nat.reduceLT, Nat.reduceAdd, Nat.reduceMul, Nat.reduceLeDiff, Nat.reduceSub]; refine hJ _ ?_; clear hJ J)
    refine @vc_gd Fk _ _ _ _ 9 (by rfl) (fun hg2 => ?_) (fun hg2 => ?_)
    · skip
      have hg2n := hg2
      try simp only [decide_eq_true_eq, decide_eq_false_iff_not, Bool.not_eq_true', Bool.not_eq_false', beq_iff_eq, bne_iff_ne, beq_eq_false_iff_ne, Int.ofNat_lt, Int.not_lt, Bool.and_eq_true, ne_eq, bne_eq_false_iff_eq] at hg2n
      iterate 15 (refine @vc_step Fk _ _ _ _ fun J hJ => ?_; simp only [go_sem, ↓reduceIte, reduceCtorEq, Nat.reduceEqDiff, Nat.reduceLT, Nat.reduceAdd, Nat.reduceMul, Nat.reduceLeDiff, Nat.reduceSub, hg2]; refine hJ _ ?_; clear hJ J)
      refine vc_nil ?_
      exact hM4 _ _ (trivial) rfl
    · skip
      have hg2n := hg2
      try simp only [decide_eq_true_eq, decide_eq_false_iff_not, Bool.not_eq_true', Bool.not_eq_false', beq_iff_eq, bne_iff_ne, beq_eq_false_iff_ne, Int.ofNat_lt, Int.not_lt, Bool.and_eq_true, ne_eq, bne_eq_false_iff_eq] at hg2n
      have hp : (0 : Int) < (l.length : Int) := by omega
      iterate 4 (refine @vc_step Fk _ _ _ _ fun J hJ => ?_; simp only [go_sem, ↓reduceIte, reduceCtorEq, Nat.reduceEqDiff, Nat.reduceLT, Nat.reduceAdd, Nat.reduceMul, Nat.reduceLeDiff, Nat.reduceSub, hg2, hp, Int.le_refl]; refine hJ _ ?_; clear hJ J)
      refine @vc_gd Fk _ _ _ _ 13 (by rfl) (fun hg3 => ?_) (fun hg3 => ?_)
      · skip
        have hg3n := hg3
        try simp only [decide_eq_true_eq, decide_eq_false_iff_not, Bool.not_eq_true', Bool.not_eq_false', beq_iff_eq, bne_iff_ne, beq_eq_false_iff_ne, Int.ofNat_lt, Int.not_lt, Bool.and_eq_true, ne_eq, bne_eq_false_iff_eq] at hg3n
        iterate 11 (refine @vc_step Fk _ _ _ _ fun J hJ => ?_; simp only [go_sem, ↓reduceIte, reduceCtorEq, Nat.reduceEqDiff, Nat.reduceLT, Nat.reduceAdd, Nat.reduceMul, Nat.reduceLeDiff, Nat.reduceSub, hg2, hp, Int.le_refl, hg3]; refine hJ _ ?_; clear hJ J)
        refine vc_nil ?_
        exact hM4 _ _ (trivial) rfl
      · skip
        have hg3n := hg3
        try simp only [decide_eq_true_eq, decide_eq_false_iff_not, Bool.not_eq_true', Bool.not_eq_false', beq_iff_eq, bne_iff_ne, beq_eq_false_iff_ne, Int.ofNat_lt, Int.not_lt, Bool.and_eq_true, ne_eq, bne_eq_false_iff_eq] at hg3n
        refine @vc_step Fk _ _ _ _ fun J hJ => ?_
        simp only [go_sem, ↓reduceIte, reduceCtorEq, Nat.reduceEqDiff, Nat.reduceLT, Nat.reduceAdd, Nat.reduceMul, Nat.reduceLeDiff, Nat.reduceSub, hg2, hp, Int.le_refl, hg3]
        refine hJ _ ?_
        clear hJ J
        refine @vc_step Fk _ _ _ _ fun J hJ => ?_
        simp only [go_sem, ↓reduceIte, reduceCtorEq, Nat.reduceEqDiff, Nat.reduceLT, Nat.reduceAdd, Nat.reduceMul, Nat.reduceLeDiff, Nat.reduceSub, hg2, hp, Int.le_refl, hg3]
        first | refine hJ _ ?_ | refine ⟨by first | assumption | omega | exact List.getElem_mem _, hJ _ ?_⟩ | refine ⟨by first | assumption | omega | exact List.getElem_mem _, by first | assumption | omega | exact List.getElem_mem _, hJ _ ?_⟩
        clear hJ J
        iterate 3 (refine @vc_step Fk _ _ _ _ fun J hJ => ?_; simp only [go_sem, ↓reduceIte, reduceCtorEq, Nat.reduceEqDiff, Nat.reduceLT, Nat.reduceAdd, Nat.reduceMul, Nat.reduceLeDiff, Nat.reduceSub, hg2, hp, Int.le_refl, hg3]; refine hJ _ ?_; clear hJ J)
        refine @vc_gd Fk _ _ _ _ 18 (by rfl) (fun hg4 => ?_) (fun hg4 => ?_)
        · skip
          have hg4n := hg4
          try simp only [decide_eq_true_eq, decide_eq_false_iff_not, Bool.not_eq_true', Bool.not_eq_false', beq_iff_eq, bne_iff_ne, beq_eq_false_iff_ne, Int.ofNat_lt, Int.not_lt, Bool.and_eq_true, ne_eq, bne_eq_false_iff_eq] at hg4n
          iterate 6 (refine @vc_step Fk _ _ _ _ fun J hJ => ?_; simp only [go_sem, ↓reduceIte, reduceCtorEq, Nat.reduceEqDiff, Nat.reduceLT, Nat.reduceAdd, Nat.reduceMul, Nat.reduceLeDiff, Nat.reduceSub, hg2, hp, Int.le_refl, hg3, hg4]; refine hJ _ ?_; clear hJ J)
          refine vc_nil ?_
          exact hM4 _ _ (trivial) rfl
        · skip
          have hg4n := hg4
          try simp only [decide_eq_true_eq, decide_eq_false_iff_not, Bool.not_eq_true', Bool.not_eq_false', beq_iff_eq, bne_iff_ne, beq_eq_false_iff_ne, Int.ofNat_lt, Int.not_lt, Bool.and_eq_true, ne_eq, bne_eq_false_iff_eq] at hg4n
          iterate 6 (refine @vc_step Fk _ _ _ _ fun J hJ => ?_; simp only [go_sem, ↓reduceIte, reduceCtorEq, Nat.reduceEqDiff, Nat.reduceLT, Nat.reduceAdd, Nat.reduceMul, Nat.reduceLeDiff, Nat.reduceSub, hg2, hp, Int.le_refl, hg3, hg4]; refine hJ _ ?_; clear hJ J)
          refine vc_nil ?_
          exact hM4 _ _ (trivial) rfl
theorem may3_call {l : List UInt8} (hl : l.length ≤ maxL) {H : List AO} {T : List Nat} {Q : Av → List AO → List Nat → Prop} (hq : ∀ (b : Bool), Q (.bool b) H T) : RunT Fk (.fn n_pandectref03_May) [.str l] H T Q := by
  obtain ⟨_, ⟨b, rfl⟩, hr⟩ := may3 _ hl
  exact runT_ret hr (hq b)

end Go.Am
