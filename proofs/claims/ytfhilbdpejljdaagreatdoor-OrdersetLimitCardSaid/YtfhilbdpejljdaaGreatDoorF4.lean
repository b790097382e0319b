/- Part of the proof. -/
import Derived.Test.YtfhilbdpejljdaaGreatDoorF3
set_option linter.all false
set_option maxHeartbeats 4000000
set_option maxRecDepth 100000
namespace Go.Am
open Go

theorem few17_step (x : It) (hx : x.Ok) (ih : ∀ k ∈ x.by_, ∃ v, (∃ (b : Bool), v = .bool b) ∧ Ret Fk n_pandectref17_Few [.agg k.cs] v) :
    ∃ v, (∃ (b : Bool), v = .bool b) ∧ Ret Fk n_pandectref17_Few [.agg x.cs] v := by
  refine ret_of_wpP (show Fk n_pandectref17_Few = some (.fn true 163 c_pandectref17_Few r_pandectref17_Few) from rfl) (args' := [.agg x.cs]) (by simp only [stripA, strip_int, strip_bool, strip_str, strip_sl, strip_U, strip_I, strip_A]) (Nat.le_of_ble_eq_true rfl) fun Z hZ => ?_
  unfold c_pandectref17_Few
  refine wp_norm fun J hJ => ?_
  try simp only [go_sem, ↓reduceIte, reduceCtorEq, Nat.reduceEqDiff, Nat.reduceLT, Nat.reduceAdd, Nat.reduceMul, Nat.reduceLeDiff, Nat.reduceSub]
  refine hJ _ ?_
  clear hJ J
  have hxu := hx.un
  obtain ⟨hl1, hl2, hl3, hl4, hl5, hl6, hl7, hl8, hl9⟩ := hx.len
  unfold maxL at hl1 hl2 hl3 hl4 hl5 hl6 hl7 hl8 hl9
  refine wp_seq_k' fun K1 hK1 => ?_
  refine wp_reg' ?_
  iterate 2 (refine @vc_step Fk _ _ _ _ fun J hJ => ?_; simp only [go_sem, ↓reduceIte, reduceCtorEq, Nat.reduceEqDiff, Nat.reduceLT, Nat.reduceAdd, Nat.reduceMul, Nat.reduceLeDiff, Nat.reduceSub]; refine hJ _ ?_; clear hJ J)
  refine vc_nil ?_
  try simp only [go_sem, ↓reduceIte, reduceCtorEq, Nat.reduceEqDiff, Nat.reduceLT, Nat.reduceAdd, Nat.reduceMul, Nat.reduceLeDiff, Nat.reduceSub]
  try simp only [go_sem, ↓reduceIte, reduceCtorEq, Nat.reduceEqDiff, Nat.reduceLT, Nat.reduceAdd, Nat.reduceMul, Nat.reduceLeDiff, Nat.reduceSub]
  refine hK1 _ ?_
  refine wp_seq_k' fun K2 hK2 => ?_
  refine wp_seq_k' fun K3 hK3 => ?_
  refine wp_reg' ?_
  refine vc_merge (K := K3) (ks := [1, 67]) (d := 67) (fun b67 => True) (fun b67 hb67 => ?_) fun M3 hM3 => ?_
  · skip
    try simp only [go_sem, ↓reduceIte, reduceCtorEq, Nat.reduceEqDiff, Nat.reduceLT, Nat.reduceAdd, Nat.reduceMul, Nat.reduceLeDiff, Nat.reduceSub]
    refine hK3 _ ?_
    refine wp_cond' rfl (fun hc1 => ?_) (fun hc1 => ?_)
    · skip
      try simp only [decide_eq_true_eq, decide_eq_false_iff_not, Bool.not_eq_true', Bool.not_eq_false', beq_iff_eq, bne_iff_ne, beq_eq_false_iff_ne, Int.ofNat_lt, Int.not_lt, Bool.and_eq_true, ne_eq, bne_eq_false_iff_eq] at hc1
      refine wp_seq_k' fun K4 hK4 => ?_
      refine wp_reg' ?_
      refine @vc_step Fk _ _ _ _ fun J hJ => ?_
      simp only [go_sem, ↓reduceIte, reduceCtorEq, Nat.reduceEqDiff, Nat.reduceLT, Nat.reduceAdd, Nat.reduceMul, Nat.reduceLeDiff, Nat.reduceSub]
      refine hJ _ ?_
      clear hJ J
      refine vc_nil ?_
      try simp only [go_sem, ↓reduceIte, reduceCtorEq, Nat.reduceEqDiff, Nat.reduceLT, Nat.reduceAdd, Nat.reduceMul, Nat.reduceLeDiff, Nat.reduceSub]
      try simp only [go_sem, ↓reduceIte, reduceCtorEq, Nat.reduceEqDiff, Nat.reduceLT, Nat.reduceAdd, Nat.reduceMul, Nat.reduceLeDiff, Nat.reduceSub]
      refine hK4 _ ?_
      refine wp_ret' ?_
      try simp only [go_sem, ↓reduceIte, reduceCtorEq, Nat.reduceEqDiff, Nat.reduceLT, Nat.reduceAdd, Nat.reduceMul, Nat.reduceLeDiff, Nat.reduceSub]
      exact hZ _ _ _ _ (by simp) rfl rfl ⟨_, rfl⟩
    · skip
      try simp only [decide_eq_true_eq, decide_eq_false_iff_not, Bool.not_eq_true', Bool.not_eq_false', beq_iff_eq, bne_iff_ne, beq_eq_false_iff_ne, Int.ofNat_lt, Int.not_lt, Bool.and_eq_true, ne_eq, bne_eq_false_iff_eq] at hc1
      refine wp_skip' ?_
      try simp only [go_sem, ↓reduceIte, reduceCtorEq, Nat.reduceEqDiff, Nat.reduceLT, Nat.reduceAdd, Nat.reduceMul, Nat.reduceLeDiff, Nat.reduceSub]
      try simp only [go_sem, ↓reduceIte, reduceCtorEq, Nat.reduceEqDiff, Nat.reduceLT, Nat.reduceAdd, Nat.reduceMul, Nat.reduceLeDiff, Nat.reduceSub]
      refine hK2 _ ?_
      refine wp_seq_k' fun K5 hK5 => ?_
      refine wp_seq_k' fun K6 hK6 => ?_
      refine wp_reg' ?_
      refine @vc_step Fk _ _ _ _ fun J hJ => ?_
      simp only [go_sem, ↓reduceIte, reduceCtorEq, Nat.reduceEqDiff, Nat.reduceLT, Nat.reduceAdd, Nat.reduceMul, Nat.reduceLeDiff, Nat.reduceSub]
      refine hJ _ ?_
      clear hJ J
      refine vc_nil ?_
      try simp only [go_sem, ↓reduceIte, reduceCtorEq, Nat.reduceEqDiff, Nat.reduceLT, Nat.reduceAdd, Nat.reduceMul, Nat.reduceLeDiff, Nat.reduceSub]
      try simp only [go_sem, ↓reduceIte, reduceCtorEq, Nat.reduceEqDiff, Nat.reduceLT, Nat.reduceAdd, Nat.reduceMul, Nat.reduceLeDiff, Nat.reduceSub]
      refine hK6 _ ?_
      refine wp_block' ?_
      refine wp_forU (ι := Unit) (x.old.length) (fun i1 x1 => [(3, .int .i64 (i1 : Nat))]) (fun i1 x1 => _) (fun i1 x1 => _) (fun i1 x1 => True) () (by rfl) rfl rfl (by trivial) fun i1 x1 hi1 hv1 K7 hK7 => ?_
      refine wp_norm fun J hJ => ?_
      try simp only [go_sem, ↓reduceIte, reduceCtorEq, Nat.reduceEqDiff, Nat.reduceLT, Nat.reduceAdd, Nat.reduceMul, Nat.reduceLeDiff, Nat.reduceSub]
      refine hJ _ ?_
      clear hJ J
      refine wp_seq_k' fun K8 hK8 => ?_
      refine wp_seq_k' fun K9 hK9 => ?_
      refine wp_reg' ?_
      iterate 5 (refine @vc_step Fk _ _ _ _ fun J hJ => ?_; simp only [go_sem, ↓reduceIte, reduceCtorEq, Nat.reduceEqDiff, Nat.reduceLT, Nat.reduceAdd, Nat.reduceMul, Nat.reduceLeDiff, Nat.reduceSub]; refine hJ _ ?_; clear hJ J)
      refine vc_nil ?_
      try simp only [go_sem, ↓reduceIte, reduceCtorEq, Nat.reduceEqDiff, Nat.reduceLT, Nat.reduceAdd, Nat.reduceMul, Nat.reduceLeDiff, Nat.reduceSub]
      try simp only [go_sem, ↓reduceIte, reduceCtorEq, Nat.reduceEqDiff, Nat.reduceLT, Nat.reduceAdd, Nat.reduceMul, Nat.reduceLeDiff, Nat.reduceSub]
      refine hK9 _ ?_
      refine wp_cond' rfl (fun hc2 => ?_) (fun hc2 => ?_)
      · skip
        try simp only [decide_eq_true_eq, decide_eq_false_iff_not, Bool.not_eq_true', Bool.not_eq_false', beq_iff_eq, bne_iff_ne, beq_eq_false_iff_ne, Int.ofNat_lt, Int.not_lt, Bool.and_eq_true, ne_eq, bne_eq_false_iff_eq] at hc2
        refine wp_skip' ?_
        try simp only [go_sem, ↓reduceIte, reduceCtorEq, Nat.reduceEqDiff, Nat.reduceLT, Nat.reduceAdd, Nat.reduceMul, Nat.reduceLeDiff, Nat.reduceSub, hc2]
        try simp only [go_sem, ↓reduceIte, reduceCtorEq, Nat.reduceEqDiff, Nat.reduceLT, Nat.reduceAdd, Nat.reduceMul, Nat.reduceLeDiff, Nat.reduceSub, hc2]
        refine hK8 _ ?_
        refine wp_seq_k' fun K10 hK10 => ?_
        refine wp_block' ?_
        refine wp_seq_k' fun K11 hK11 => ?_
        refine wp_reg' ?_
        iterate 3 (refine @vc_step Fk _ _ _ _ fun J hJ => ?_; simp only [go_sem, ↓reduceIte, reduceCtorEq, Nat.reduceEqDiff, Nat.reduceLT, Nat.reduceAdd, Nat.reduceMul, Nat.reduceLeDiff, Nat.reduceSub, hc2]; refine hJ _ ?_; clear hJ J)
        refine @vc_step Fk _ _ _ _ fun J hJ => ?_
        simp only [go_sem, ↓reduceIte, reduceCtorEq, Nat.reduceEqDiff, Nat.reduceLT, Nat.reduceAdd, Nat.reduceMul, Nat.reduceLeDiff, Nat.reduceSub, hc2]
        first | refine hJ _ ?_ | refine ⟨by first | assumption | omega | exact List.getElem_mem _, hJ _ ?_⟩ | refine ⟨by first | assumption | omega | exact List.getElem_mem _, by first | assumption | omega | exact List.getElem_mem _, hJ _ ?_⟩
        clear hJ J
        iterate 3 (refine @vc_step Fk _ _ _ _ fun J hJ => ?_; simp only [go_sem, ↓reduceIte, reduceCtorEq, Nat.reduceEqDiff, Nat.reduceLT, Nat.reduceAdd, Nat.reduceMul, Nat.reduceLeDiff, Nat.reduceSub, hc2]; refine hJ _ ?_; clear hJ J)
        refine vc_nil ?_
        try simp only [go_sem, ↓reduceIte, reduceCtorEq, Nat.reduceEqDiff, Nat.reduceLT, Nat.reduceAdd, Nat.reduceMul, Nat.reduceLeDiff, Nat.reduceSub, hc2]
        try simp only [go_sem, ↓reduceIte, reduceCtorEq, Nat.reduceEqDiff, Nat.reduceLT, Nat.reduceAdd, Nat.reduceMul, Nat.reduceLeDiff, Nat.reduceSub, hc2]
        refine hK11 _ ?_
        refine wp_cond' rfl (fun hc3 => ?_) (fun hc3 => ?_)
        · skip
          try simp only [decide_eq_true_eq, decide_eq_false_iff_not, Bool.not_eq_true', Bool.not_eq_false', beq_iff_eq, bne_iff_ne, beq_eq_false_iff_ne, Int.ofNat_lt, Int.not_lt, Bool.and_eq_true, ne_eq, bne_eq_false_iff_eq] at hc3
          refine wp_seq_k' fun K12 hK12 => ?_
          refine wp_reg' ?_
          refine @vc_step Fk _ _ _ _ fun J hJ => ?_
          simp only [go_sem, ↓reduceIte, reduceCtorEq, Nat.reduceEqDiff, Nat.reduceLT, Nat.reduceAdd, Nat.reduceMul, Nat.reduceLeDiff, Nat.reduceSub, hc2, hc3]
          refine hJ _ ?_
          clear hJ J
          refine vc_nil ?_
          try simp only [go_sem, ↓reduceIte, reduceCtorEq, Nat.reduceEqDiff, Nat.reduceLT, Nat.reduceAdd, Nat.reduceMul, Nat.reduceLeDiff, Nat.reduceSub, hc2, hc3]
          try simp only [go_sem, ↓reduceIte, reduceCtorEq, Nat.reduceEqDiff, Nat.reduceLT, Nat.reduceAdd, Nat.reduceMul, Nat.reduceLeDiff, Nat.reduceSub, hc2, hc3]
          refine hK12 _ ?_
          refine wp_ret' ?_
          try simp only [go_sem, ↓reduceIte, reduceCtorEq, Nat.reduceEqDiff, Nat.reduceLT, Nat.reduceAdd, Nat.reduceMul, Nat.reduceLeDiff, Nat.reduceSub, hc2, hc3]
          exact hZ _ _ _ _ (by simp) rfl rfl ⟨_, rfl⟩
        · skip
          try simp only [decide_eq_true_eq, decide_eq_false_iff_not, Bool.not_eq_true', Bool.not_eq_false', beq_iff_eq, bne_iff_ne, beq_eq_false_iff_ne, Int.ofNat_lt, Int.not_lt, Bool.and_eq_true, ne_eq, bne_eq_false_iff_eq] at hc3
          refine wp_skip' ?_
          try simp only [go_sem, ↓reduceIte, reduceCtorEq, Nat.reduceEqDiff, Nat.reduceLT, Nat.reduceAdd, Nat.reduceMul, Nat.reduceLeDiff, Nat.reduceSub, hc2, hc3]
          try simp only [go_sem, ↓reduceIte, reduceCtorEq, Nat.reduceEqDiff, Nat.reduceLT, Nat.reduceAdd, Nat.reduceMul, Nat.reduceLeDiff, Nat.reduceSub, hc2, hc3]
          refine hK10 _ ?_
          refine wp_reg' ?_
          iterate 3 (refine @vc_step Fk _ _ _ _ fun J hJ => ?_; simp only [go_sem, ↓reduceIte, reduceCtorEq, Nat.reduceEqDiff, Nat.reduceLT, Nat.reduceAdd, Nat.reduceMul, Nat.reduceLeDiff, Nat.reduceSub, hc2, hc3]; refine hJ _ ?_; clear hJ J)
          refine vc_nil ?_
          try simp only [go_sem, ↓reduceIte, reduceCtorEq, Nat.reduceEqDiff, Nat.reduceLT, Nat.reduceAdd, Nat.reduceMul, Nat.reduceLeDiff, Nat.reduceSub, hc2, hc3]
          refine hK7 _ _ _ ⟨by assumption, (), by trivial, ?_, rfl, rfl⟩
          rw [wrap64 (n := ((i1 : Nat) : Int) + 1) (by omega) (by omega)]
          rfl
      · skip
        try simp only [decide_eq_true_eq, decide_eq_false_iff_not, Bool.not_eq_true', Bool.not_eq_false', beq_iff_eq, bne_iff_ne, beq_eq_false_iff_ne, Int.ofNat_lt, Int.not_lt, Bool.and_eq_true, ne_eq, bne_eq_false_iff_eq] at hc2
        refine wp_exit' ?_
        try simp only [go_sem, ↓reduceIte, reduceCtorEq, Nat.reduceEqDiff, Nat.reduceLT, Nat.reduceAdd, Nat.reduceMul, Nat.reduceLeDiff, Nat.reduceSub, hc2]
        try simp only [go_sem, ↓reduceIte, reduceCtorEq, Nat.reduceEqDiff, Nat.reduceLT, Nat.reduceAdd, Nat.reduceMul, Nat.reduceLeDiff, Nat.reduceSub, hc2]
        refine hK5 _ ?_
        refine wp_seq_k' fun K13 hK13 => ?_
        refine wp_seq_k' fun K14 hK14 => ?_
        refine wp_reg' ?_
        refine @vc_step Fk _ _ _ _ fun J hJ => ?_
        simp only [go_sem, ↓reduceIte, reduceCtorEq, Nat.reduceEqDiff, Nat.reduceLT, Nat.reduceAdd, Nat.reduceMul, Nat.reduceLeDiff, Nat.reduceSub, hc2]
        refine hJ _ ?_
        clear hJ J
        refine vc_nil ?_
        try simp only [go_sem, ↓reduceIte, reduceCtorEq, Nat.reduceEqDiff, Nat.reduceLT, Nat.reduceAdd, Nat.reduceMul, Nat.reduceLeDiff, Nat.reduceSub, hc2]
        try simp only [go_sem, ↓reduceIte, reduceCtorEq, Nat.reduceEqDiff, Nat.reduceLT, Nat.reduceAdd, Nat.reduceMul, Nat.reduceLeDiff, Nat.reduceSub, hc2]
        refine hK14 _ ?_
        refine wp_block' ?_
        refine wp_forU (ι := Unit) (x.new.length) (fun i2 x2 => [(4, .int .i64 (i2 : Nat))]) (fun i2 x2 => _) (fun i2 x2 => _) (fun i2 x2 => True) () (by rfl) rfl rfl (by trivial) fun i2 x2 hi2 hv2 K15 hK15 => ?_
        refine wp_norm fun J hJ => ?_
        try simp only [go_sem, ↓reduceIte, reduceCtorEq, Nat.reduceEqDiff, Nat.reduceLT, Nat.reduceAdd, Nat.reduceMul, Nat.reduceLeDiff, Nat.reduceSub, hc2]
        refine hJ _ ?_
        clear hJ J
        refine wp_seq_k' fun K16 hK16 => ?_
        refine wp_seq_k' fun K17 hK17 => ?_
        refine wp_reg' ?_
        iterate 5 (refine @vc_step Fk _ _ _ _ fun J hJ => ?_; simp only [go_sem, ↓reduceIte, reduceCtorEq, Nat.reduceEqDiff, Nat.reduceLT, Nat.reduceAdd, Nat.reduceMul, Nat.reduceLeDiff, Nat.reduceSub, hc2]; refine hJ _ ?_; clear hJ J)
        refine vc_nil ?_
        try simp only [go_sem, ↓reduceIte, reduceCtorEq, Nat.reduceEqDiff, Nat.reduceLT, Nat.reduceAdd, Nat.reduceMul, Nat.reduceLeDiff, Nat.reduceSub, hc2]
        try simp only [go_sem, ↓reduceIte, reduceCtorEq, Nat.reduceEqDiff, Nat.reduceLT, Nat.reduceAdd, Nat.reduceMul, Nat.reduceLeDiff, Nat.reduceSub, hc2]
        refine hK17 _ ?_
        refine wp_cond' rfl (fun hc4 => ?_) (fun hc4 => ?_)
        · skip
          try simp only [decide_eq_true_eq, decide_eq_false_iff_not, Bool.not_eq_true', Bool.not_eq_false', beq_iff_eq, bne_iff_ne, beq_eq_false_iff_ne, Int.ofNat_lt, Int.not_lt, Bool.and_eq_true, ne_eq, bne_eq_false_iff_eq] at hc4
          refine wp_skip' ?_
          try simp only [go_sem, ↓reduceIte, reduceCtorEq, Nat.reduceEqDiff, Nat.reduceLT, Nat.reduceAdd, Nat.reduceMul, Nat.reduceLeDiff, Nat.reduceSub, hc2, hc4]
          try simp only [go_sem, ↓reduceIte, reduceCtorEq, Nat.reduceEqDiff, Nat.reduceLT, Nat.reduceAdd, Nat.reduceMul, Nat.reduceLeDiff, Nat.reduceSub, hc2, hc4]
          refine hK16 _ ?_
          refine wp_seq_k' fun K18 hK18 => ?_
          refine wp_block' ?_
          refine wp_seq_k' fun K19 hK19 => ?_
          refine wp_reg' ?_
          iterate 3 (refine @vc_step Fk _ _ _ _ fun J hJ => ?_; simp only [go_sem, ↓reduceIte, reduceCtorEq, Nat.reduceEqDiff, Nat.reduceLT, Nat.reduceAdd, Nat.reduceMul, Nat.reduceLeDiff, Nat.reduceSub, hc2, hc4]; refine hJ _ ?_; clear hJ J)
          refine @vc_step Fk _ _ _ _ fun J hJ => ?_
          simp only [go_sem, ↓reduceIte, reduceCtorEq, Nat.reduceEqDiff, Nat.reduceLT, Nat.reduceAdd, Nat.reduceMul, Nat.reduceLeDiff, Nat.reduceSub, hc2, hc4]
          first | refine hJ _ ?_ | refine ⟨by first | assumption | omega | exact List.getElem_mem _, hJ _ ?_⟩ | refine ⟨by first | assumption | omega | exact List.getElem_mem _, by first | assumption | omega | exact List.getElem_mem _, hJ _ ?_⟩
          clear hJ J
          iterate 3 (refine @vc_step Fk _ _ _ _ fun J hJ => ?_; simp only [go_sem, ↓reduceIte, reduceCtorEq, Nat.reduceEqDiff, Nat.reduceLT, Nat.reduceAdd, Nat.reduceMul, Nat.reduceLeDiff, Nat.reduceSub, hc2, hc4]; refine hJ _ ?_; clear hJ J)
          refine vc_nil ?_
          try simp only [go_sem, ↓reduceIte, reduceCtorEq, Nat.reduceEqDiff, Nat.reduceLT, Nat.reduceAdd, Nat.reduceMul, Nat.reduceLeDiff, Nat.reduceSub, hc2, hc4]
          try simp only [go_sem, ↓reduceIte, reduceCtorEq, Nat.reduceEqDiff, Nat.reduceLT, Nat.reduceAdd, Nat.reduceMul, Nat.reduceLeDiff, Nat.reduceSub, hc2, hc4]
          refine hK19 _ ?_
          refine wp_cond' rfl (fun hc5 => ?_) (fun hc5 => ?_)
          · skip
            try simp only [decide_eq_true_eq, decide_eq_false_iff_not, Bool.not_eq_true', Bool.not_eq_false', beq_iff_eq, bne_iff_ne, beq_eq_false_iff_ne, Int.ofNat_lt, Int.not_lt, Bool.and_eq_true, ne_eq, bne_eq_false_iff_eq] at hc5
            refine wp_seq_k' fun K20 hK20 => ?_
            refine wp_reg' ?_
            refine @vc_step Fk _ _ _ _ fun J hJ => ?_
            simp only [go_sem, ↓reduceIte, reduceCtorEq, Nat.reduceEqDiff, Nat.reduceLT, Nat.reduceAdd, Nat.reduceMul, Nat.reduceLeDiff, Nat.reduceSub, hc2, hc4, hc5]
            refine hJ _ ?_
            clear hJ J
            refine vc_nil ?_
            try simp only [go_sem, ↓reduceIte, reduceCtorEq, Nat.reduceEqDiff, Nat.reduceLT, Nat.reduceAdd, Nat.reduceMul, Nat.reduceLeDiff, Nat.reduceSub, hc2, hc4, hc5]
            try simp only [go_sem, ↓reduceIte, reduceCtorEq, Nat.reduceEqDiff, Nat.reduceLT, Nat.reduceAdd, Nat.reduceMul, Nat.reduceLeDiff, Nat.reduceSub, hc2, hc4, hc5]
            refine hK20 _ ?_
            refine wp_ret' ?_
            try simp only [go_sem, ↓reduceIte, reduceCtorEq, Nat.reduceEqDiff, Nat.reduceLT, Nat.reduceAdd, Nat.reduceMul, Nat.reduceLeDiff, Nat.reduceSub, hc2, hc4, hc5]
            exact hZ _ _ _ _ (by simp) rfl rfl ⟨_, rfl⟩
          · skip
            try simp only [decide_eq_true_eq, decide_eq_false_iff_not, Bool.not_eq_true', Bool.not_eq_false', beq_iff_eq, bne_iff_ne, beq_eq_false_iff_ne, Int.ofNat_lt, Int.not_lt, Bool.and_eq_true, ne_eq, bne_eq_false_iff_eq] at hc5
            refine wp_skip' ?_
            try simp only [go_sem, ↓reduceIte, reduceCtorEq, Nat.reduceEqDiff, Nat.reduceLT, Nat.reduceAdd, Nat.reduceMul, Nat.reduceLeDiff, Nat.reduceSub, hc2, hc4, hc5]
            try simp only [go_sem, ↓reduceIte, reduceCtorEq, Nat.reduceEqDiff, Nat.reduceLT, Nat.reduceAdd, Nat.reduceMul, Nat.reduceLeDiff, Nat.reduceSub, hc2, hc4, hc5]
            refine hK18 _ ?_
            refine wp_reg' ?_
            iterate 3 (refine @vc_step Fk _ _ _ _ fun J hJ => ?_; simp only [go_sem, ↓reduceIte, reduceCtorEq, Nat.reduceEqDiff, Nat.reduceLT, Nat.reduceAdd, Nat.reduceMul, Nat.reduceLeDiff, Nat.reduceSub, hc2, hc4, hc5]; refine hJ _ ?_; clear hJ J)
            refine vc_nil ?_
            try simp only [go_sem, ↓reduceIte, reduceCtorEq, Nat.reduceEqDiff, Nat.reduceLT, Nat.reduceAdd, Nat.reduceMul, Nat.reduceLeDiff, Nat.reduceSub, hc2, hc4, hc5]
            refine hK15 _ _ _ ⟨by assumption, (), by trivial, ?_, rfl, rfl⟩
            rw [wrap64 (n := ((i2 : Nat) : Int) + 1) (by omega) (by omega)]
            rfl
        · skip
          try simp only [decide_eq_true_eq, decide_eq_false_iff_not, Bool.not_eq_true', Bool.not_eq_false', beq_iff_eq, bne_iff_ne, beq_eq_false_iff_ne, Int.ofNat_lt, Int.not_lt, Bool.and_eq_true, ne_eq, bne_eq_false_iff_eq] at hc4
          refine wp_exit' ?_
          try simp only [go_sem, ↓reduceIte, reduceCtorEq, Nat.reduceEqDiff, Nat.reduceLT, Nat.reduceAdd, Nat.reduceMul, Nat.reduceLeDiff, Nat.reduceSub, hc2, hc4]
          try simp only [go_sem, ↓reduceIte, reduceCtorEq, Nat.reduceEqDiff, Nat.reduceLT, Nat.reduceAdd, Nat.reduceMul, Nat.reduceLeDiff, Nat.reduceSub, hc2, hc4]
          refine hK13 _ ?_
          refine wp_seq_k' fun K21 hK21 => ?_
          refine wp_seq_k' fun K22 hK22 => ?_
          refine wp_reg' ?_
          refine @vc_step Fk _ _ _ _ fun J hJ => ?_
          simp only [go_sem, ↓reduceIte, reduceCtorEq, Nat.reduceEqDiff, Nat.reduceLT, Nat.reduceAdd, Nat.reduceMul, Nat.reduceLeDiff, Nat.reduceSub, hc2, hc4]
          refine hJ _ ?_
          clear hJ J
          refine vc_nil ?_
          try simp only [go_sem, ↓reduceIte, reduceCtorEq, Nat.reduceEqDiff, Nat.reduceLT, Nat.reduceAdd, Nat.reduceMul, Nat.reduceLeDiff, Nat.reduceSub, hc2, hc4]
          try simp only [go_sem, ↓reduceIte, reduceCtorEq, Nat.reduceEqDiff, Nat.reduceLT, Nat.reduceAdd, Nat.reduceMul, Nat.reduceLeDiff, Nat.reduceSub, hc2, hc4]
          refine hK22 _ ?_
          refine wp_block' ?_
          refine wp_forU (ι := Unit) (x.at_.length) (fun i3 x3 => [(5, .int .i64 (i3 : Nat))]) (fun i3 x3 => _) (fun i3 x3 => _) (fun i3 x3 => True) () (by rfl) rfl rfl (by trivial) fun i3 x3 hi3 hv3 K23 hK23 => ?_
          refine wp_norm fun J hJ => ?_
          try simp only [go_sem, ↓reduceIte, reduceCtorEq, Nat.reduceEqDiff, Nat.reduceLT, Nat.reduceAdd, Nat.reduceMul, Nat.reduceLeDiff, Nat.reduceSub, hc2, hc4]
          refine hJ _ ?_
          clear hJ J
          refine wp_seq_k' fun K24 hK24 => ?_
          refine wp_seq_k' fun K25 hK25 => ?_
          refine wp_reg' ?_
          iterate 5 (refine @vc_step Fk _ _ _ _ fun J hJ => ?_; simp only [go_sem, ↓reduceIte, reduceCtorEq, Nat.reduceEqDiff, Nat.reduceLT, Nat.reduceAdd, Nat.reduceMul, Nat.reduceLeDiff, Nat.reduceSub, hc2, hc4]; refine hJ _ ?_; clear hJ J)
          refine vc_nil ?_
          try simp only [go_sem, ↓reduceIte, reduceCtorEq, Nat.reduceEqDiff, Nat.reduceLT, Nat.reduceAdd, Nat.reduceMul, Nat.reduceLeDiff, Nat.reduceSub, hc2, hc4]
          try simp only [go_sem, ↓reduceIte, reduceCtorEq, Nat.reduceEqDiff, Nat.reduceLT, Nat.reduceAdd, Nat.reduceMul, Nat.reduceLeDiff, Nat.reduceSub, hc2, hc4]
          refine hK25 _ ?_
          refine wp_cond' rfl (fun hc6 => ?_) (fun hc6 => ?_)
          · skip
            try simp only [decide_eq_true_eq, decide_eq_false_iff_not, Bool.not_eq_true', Bool.not_eq_false', beq_iff_eq, bne_iff_ne, beq_eq_false_iff_ne, Int.ofNat_lt, Int.not_lt, Bool.and_eq_true, ne_eq, bne_eq_false_iff_eq] at hc6
            refine wp_skip' ?_
            try simp only [go_sem, ↓reduceIte, reduceCtorEq, Nat.reduceEqDiff, Nat.reduceLT, Nat.reduceAdd, Nat.reduceMul, Nat.reduceLeDiff, Nat.reduceSub, hc2, hc4, hc6]
            try simp only [go_sem, ↓reduceIte, reduceCtorEq, Nat.reduceEqDiff, Nat.reduceLT, Nat.reduceAdd, Nat.reduceMul, Nat.reduceLeDiff, Nat.reduceSub, hc2, hc4, hc6]
            refine hK24 _ ?_
            refine wp_seq_k' fun K26 hK26 => ?_
            refine wp_block' ?_
            refine wp_seq_k' fun K27 hK27 => ?_
            refine wp_reg' ?_
            iterate 3 (refine @vc_step Fk _ _ _ _ fun J hJ => ?_; simp only [go_sem, ↓reduceIte, reduceCtorEq, Nat.reduceEqDiff, Nat.reduceLT, Nat.reduceAdd, Nat.reduceMul, Nat.reduceLeDiff, Nat.reduceSub, hc2, hc4, hc6]; refine hJ _ ?_; clear hJ J)
            refine @vc_step Fk _ _ _ _ fun J hJ => ?_
            simp only [go_sem, ↓reduceIte, reduceCtorEq, Nat.reduceEqDiff, Nat.reduceLT, Nat.reduceAdd, Nat.reduceMul, Nat.reduceLeDiff, Nat.reduceSub, hc2, hc4, hc6]
            first | refine hJ _ ?_ | refine ⟨by first | assumption | omega | exact List.getElem_mem _, hJ _ ?_⟩ | refine ⟨by first | assumption | omega | exact List.getElem_mem _, by first | assumption | omega | exact List.getElem_mem _, hJ _ ?_⟩
            clear hJ J
            iterate 4 (refine @vc_step Fk _ _ _ _ fun J hJ => ?_; simp only [go_sem, ↓reduceIte, reduceCtorEq, Nat.reduceEqDiff, Nat.reduceLT, Nat.reduceAdd, Nat.reduceMul, Nat.reduceLeDiff, Nat.reduceSub, hc2, hc4, hc6]; refine hJ _ ?_; clear hJ J)
            refine vc_nil ?_
            try simp only [go_sem, ↓reduceIte, reduceCtorEq, Nat.reduceEqDiff, Nat.reduceLT, Nat.reduceAdd, Nat.reduceMul, Nat.reduceLeDiff, Nat.reduceSub, hc2, hc4, hc6]
            try simp only [go_sem, ↓reduceIte, reduceCtorEq, Nat.reduceEqDiff, Nat.reduceLT, Nat.reduceAdd, Nat.reduceMul, Nat.reduceLeDiff, Nat.reduceSub, hc2, hc4, hc6]
            refine hK27 _ ?_
            refine wp_cond' rfl (fun hc7 => ?_) (fun hc7 => ?_)
            · skip
              try simp only [decide_eq_true_eq, decide_eq_false_iff_not, Bool.not_eq_true', Bool.not_eq_false', beq_iff_eq, bne_iff_ne, beq_eq_false_iff_ne, Int.ofNat_lt, Int.not_lt, Bool.and_eq_true, ne_eq, bne_eq_false_iff_eq] at hc7
              refine wp_seq_k' fun K28 hK28 => ?_
              refine wp_reg' ?_
              refine @vc_step Fk _ _ _ _ fun J hJ => ?_
              simp only [go_sem, ↓reduceIte, reduceCtorEq, Nat.reduceEqDiff, Nat.reduceLT, Nat.reduceAdd, Nat.reduceMul, Nat.reduceLeDiff, Nat.reduceSub, hc2, hc4, hc6, hc7]
              refine hJ _ ?_
              clear hJ J
              refine vc_nil ?_
              try simp only [go_sem, ↓reduceIte, reduceCtorEq, Nat.reduceEqDiff, Nat.reduceLT, Nat.reduceAdd, Nat.reduceMul, Nat.reduceLeDiff, Nat.reduceSub, hc2, hc4, hc6, hc7]
              try simp only [go_sem, ↓reduceIte, reduceCtorEq, Nat.reduceEqDiff, Nat.reduceLT, Nat.reduceAdd, Nat.reduceMul, Nat.reduceLeDiff, Nat.reduceSub, hc2, hc4, hc6, hc7]
              refine hK28 _ ?_
              refine wp_ret' ?_
              try simp only [go_sem, ↓reduceIte, reduceCtorEq, Nat.reduceEqDiff, Nat.reduceLT, Nat.reduceAdd, Nat.reduceMul, Nat.reduceLeDiff, Nat.reduceSub, hc2, hc4, hc6, hc7]
              exact hZ _ _ _ _ (by simp) rfl rfl ⟨_, rfl⟩
            · skip
              try simp only [decide_eq_true_eq, decide_eq_false_iff_not, Bool.not_eq_true', Bool.not_eq_false', beq_iff_eq, bne_iff_ne, beq_eq_false_iff_ne, Int.ofNat_lt, Int.not_lt, Bool.and_eq_true, ne_eq, bne_eq_false_iff_eq] at hc7
              refine wp_skip' ?_
              try simp only [go_sem, ↓reduceIte, reduceCtorEq, Nat.reduceEqDiff, Nat.reduceLT, Nat.reduceAdd, Nat.reduceMul, Nat.reduceLeDiff, Nat.reduceSub, hc2, hc4, hc6, hc7]
              try simp only [go_sem, ↓reduceIte, reduceCtorEq, Nat.reduceEqDiff, Nat.reduceLT, Nat.reduceAdd, Nat.reduceMul, Nat.reduceLeDiff, Nat.reduceSub, hc2, hc4, hc6, hc7]
              refine hK26 _ ?_
              refine wp_reg' ?_
              iterate 3 (refine @vc_step Fk _ _ _ _ fun J hJ => ?_; simp only [go_sem, ↓reduceIte, reduceCtorEq, Nat.reduceEqDiff, Nat.reduceLT, Nat.reduceAdd, Nat.reduceMul, Nat.reduceLeDiff, Nat.reduceSub, hc2, hc4, hc6, hc7]; refine hJ _ ?_; clear hJ J)
              refine vc_nil ?_
              try simp only [go_sem, ↓reduceIte, reduceCtorEq, Nat.reduceEqDiff, Nat.reduceLT, Nat.reduceAdd, Nat.reduceMul, Nat.reduceLeDiff, Nat.reduceSub, hc2, hc4, hc6, hc7]
              refine hK23 _ _ _ ⟨by assumption, (), by trivial, ?_, rfl, rfl⟩
              rw [wrap64 (n := ((i3 : Nat) : Int) + 1) (by omega) (by omega)]
              rfl
          · skip
            try simp only [decide_eq_true_eq, decide_eq_false_iff_not, Bool.not_eq_true', Bool.not_eq_false', beq_iff_eq, bne_iff_ne, beq_eq_false_iff_ne, Int.ofNat_lt, Int.not_lt, Bool.and_eq_true, ne_eq, bne_eq_false_iff_eq] at hc6
            refine wp_exit' ?_
            try simp only [go_sem, ↓reduceIte, reduceCtorEq, Nat.reduceEqDiff, Nat.reduceLT, Nat.reduceAdd, Nat.reduceMul, Nat.reduceLeDiff, Nat.reduceSub, hc2, hc4, hc6]
            try simp only [go_sem, ↓reduceIte, reduceCtorEq, Nat.reduceEqDiff, Nat.reduceLT, Nat.reduceAdd, Nat.reduceMul, Nat.reduceLeDiff, Nat.reduceSub, hc2, hc4, hc6]
            refine hK21 _ ?_
            refine wp_seq_k' fun K29 hK29 => ?_
            refine wp_seq_k' fun K30 hK30 => ?_
            refine wp_reg' ?_
            refine @vc_step Fk _ _ _ _ fun J hJ => ?_
            simp only [go_sem, ↓reduceIte, reduceCtorEq, Nat.reduceEqDiff, Nat.reduceLT, Nat.reduceAdd, Nat.reduceMul, Nat.reduceLeDiff, Nat.reduceSub, hc2, hc4, hc6]
            refine hJ _ ?_
            clear hJ J
            refine vc_nil ?_
            try simp only [go_sem, ↓reduceIte, reduceCtorEq, Nat.reduceEqDiff, Nat.reduceLT, Nat.reduceAdd, Nat.reduceMul, Nat.reduceLeDiff, Nat.reduceSub, hc2, hc4, hc6]
            try simp only [go_sem, ↓reduceIte, reduceCtorEq, Nat.reduceEqDiff, Nat.reduceLT, Nat.reduceAdd, Nat.reduceMul, Nat.reduceLeDiff, Nat.reduceSub, hc2, hc4, hc6]
            refine hK30 _ ?_
            refine wp_block' ?_
            refine wp_forU (ι := Unit) (x.to_.length) (fun i4 x4 => [(6, .int .i64 (i4 : Nat))]) (fun i4 x4 => _) (fun i4 x4 => _) (fun i4 x4 => True) () (by rfl) rfl rfl (by trivial) fun i4 x4 hi4 hv4 K31 hK31 => ?_
            refine wp_norm fun J hJ => ?_
            try simp only [go_sem, ↓reduceIte, reduceCtorEq, Nat.reduceEqDiff, Nat.reduceLT, Nat.reduceAdd, Nat.reduceMul, Nat.reduceLeDiff, Nat.reduceSub, hc2, hc4, hc6]
            refine hJ _ ?_
            clear hJ J
            refine wp_seq_k' fun K32 hK32 => ?_
            refine wp_seq_k' fun K33 hK33 => ?_
            refine wp_reg' ?_
            iterate 5 (refine @vc_step Fk _ _ _ _ fun J hJ => ?_; simp only [go_sem, ↓reduceIte, reduceCtorEq, Nat.reduceEqDiff, Nat.reduceLT, Nat.reduceAdd, Nat.reduceMul, Nat.reduceLeDiff, Nat.reduceSub, hc2, hc4, hc6]; refine hJ _ ?_; clear hJ J)
            refine vc_nil ?_
            try simp only [go_sem, ↓reduceIte, reduceCtorEq, Nat.reduceEqDiff, Nat.reduceLT, Nat.reduceAdd, Nat.reduceMul, Nat.reduceLeDiff, Nat.reduceSub, hc2, hc4, hc6]
            try simp only [go_sem, ↓reduceIte, reduceCtorEq, Nat.reduceEqDiff, Nat.reduceLT, Nat.reduceAdd, Nat.reduceMul, Nat.reduceLeDiff, Nat.reduceSub, hc2, hc4, hc6]
            refine hK33 _ ?_
            refine wp_cond' rfl (fun hc8 => ?_) (fun hc8 => ?_)
            · skip
              try simp only [decide_eq_true_eq, decide_eq_false_iff_not, Bool.not_eq_true', Bool.not_eq_false', beq_iff_eq, bne_iff_ne, beq_eq_false_iff_ne, Int.ofNat_lt, Int.not_lt, Bool.and_eq_true, ne_eq, bne_eq_false_iff_eq] at hc8
              refine wp_skip' ?_
              try simp only [go_sem, ↓reduceIte, reduceCtorEq, Nat.reduceEqDiff, Nat.reduceLT, Nat.reduceAdd, Nat.reduceMul, Nat.reduceLeDiff, Nat.reduceSub, hc2, hc4, hc6, hc8]
              try simp only [go_sem, ↓reduceIte, reduceCtorEq, Nat.reduceEqDiff, Nat.reduceLT, Nat.reduceAdd, Nat.reduceMul, Nat.reduceLeDiff, Nat.reduceSub, hc2, hc4, hc6, hc8]
              refine hK32 _ ?_
              refine wp_seq_k' fun K34 hK34 => ?_
              refine wp_block' ?_
              refine wp_seq_k' fun K35 hK35 => ?_
              refine wp_reg' ?_
              iterate 3 (refine @vc_step Fk _ _ _ _ fun J hJ => ?_; simp only [go_sem, ↓reduceIte, reduceCtorEq, Nat.reduceEqDiff, Nat.reduceLT, Nat.reduceAdd, Nat.reduceMul, Nat.reduceLeDiff, Nat.reduceSub, hc2, hc4, hc6, hc8]; refine hJ _ ?_; clear hJ J)
              refine @vc_step Fk _ _ _ _ fun J hJ => ?_
              simp only [go_sem, ↓reduceIte, reduceCtorEq, Nat.reduceEqDiff, Nat.reduceLT, Nat.reduceAdd, Nat.reduceMul, Nat.reduceLeDiff, Nat.reduceSub, hc2, hc4, hc6, hc8]
              first | refine hJ _ ?_ | refine ⟨by first | assumption | omega | exact List.getElem_mem _, hJ _ ?_⟩ | refine ⟨by first | assumption | omega | exact List.getElem_mem _, by first | assumption | omega | exact List.getElem_mem _, hJ _ ?_⟩
              clear hJ J
              iterate 4 (refine @vc_step Fk _ _ _ _ fun J hJ => ?_; simp only [go_sem, ↓reduceIte, reduceCtorEq, Nat.reduceEqDiff, Nat.reduceLT, Nat.reduceAdd, Nat.reduceMul, Nat.reduceLeDiff, Nat.reduceSub, hc2, hc4, hc6, hc8]; refine hJ _ ?_; clear hJ J)
              refine vc_nil ?_
              try simp only [go_sem, ↓reduceIte, reduceCtorEq, Nat.reduceEqDiff, Nat.reduceLT, Nat.reduceAdd, Nat.reduceMul, Nat.reduceLeDiff, Nat.reduceSub, hc2, hc4, hc6, hc8]
              try simp only [go_sem, ↓reduceIte, reduceCtorEq, Nat.reduceEqDiff, Nat.reduceLT, Nat.reduceAdd, Nat.reduceMul, Nat.reduceLeDiff, Nat.reduceSub, hc2, hc4, hc6, hc8]
              refine hK35 _ ?_
              refine wp_cond' rfl (fun hc9 => ?_) (fun hc9 => ?_)
              · skip
                try simp only [decide_eq_true_eq, decide_eq_false_iff_not, Bool.not_eq_true', Bool.not_eq_false', beq_iff_eq, bne_iff_ne, beq_eq_false_iff_ne, Int.ofNat_lt, Int.not_lt, Bool.and_eq_true, ne_eq, bne_eq_false_iff_eq] at hc9
                refine wp_seq_k' fun K36 hK36 => ?_
                refine wp_reg' ?_
                refine @vc_step Fk _ _ _ _ fun J hJ => ?_
                simp only [go_sem, ↓reduceIte, reduceCtorEq, Nat.reduceEqDiff, Nat.reduceLT, Nat.reduceAdd, Nat.reduceMul, Nat.reduceLeDiff, Nat.reduceSub, hc2, hc4, hc6, hc8, hc9]
                refine hJ _ ?_
                clear hJ J
                refine vc_nil ?_
                try simp only [go_sem, ↓reduceIte, reduceCtorEq, Nat.reduceEqDiff, Nat.reduceLT, Nat.reduceAdd, Nat.reduceMul, Nat.reduceLeDiff, Nat.reduceSub, hc2, hc4, hc6, hc8, hc9]
                try simp only [go_sem, ↓reduceIte, reduceCtorEq, Nat.reduceEqDiff, Nat.reduceLT, Nat.reduceAdd, Nat.reduceMul, Nat.reduceLeDiff, Nat.reduceSub, hc2, hc4, hc6, hc8, hc9]
                refine hK36 _ ?_
                refine wp_ret' ?_
                try simp only [go_sem, ↓reduceIte, reduceCtorEq, Nat.reduceEqDiff, Nat.reduceLT, Nat.reduceAdd, Nat.reduceMul, Nat.reduceLeDiff, Nat.reduceSub, hc2, hc4, hc6, hc8, hc9]
                exact hZ _ _ _ _ (by simp) rfl rfl ⟨_, rfl⟩
              · skip
                try simp only [decide_eq_true_eq, decide_eq_false_iff_not, Bool.not_eq_true', Bool.not_eq_false', beq_iff_eq, bne_iff_ne, beq_eq_false_iff_ne, Int.ofNat_lt, Int.not_lt, Bool.and_eq_true, ne_eq, bne_eq_false_iff_eq] at hc9
                refine wp_skip' ?_
                try simp only [go_sem, ↓reduceIte, reduceCtorEq, Nat.reduceEqDiff, Nat.reduceLT, Nat.reduceAdd, Nat.reduceMul, Nat.reduceLeDiff, Nat.reduceSub, hc2, hc4, hc6, hc8, hc9]
                try simp only [go_sem, ↓reduceIte, reduceCtorEq, Nat.reduceEqDiff, Nat.reduceLT, Nat.reduceAdd, Nat.reduceMul, Nat.reduceLeDiff, Nat.reduceSub, hc2, hc4, hc6, hc8, hc9]
                refine hK34 _ ?_
                refine wp_reg' ?_
                iterate 3 (refine @vc_step Fk _ _ _ _ fun J hJ => ?_; simp only [go_sem, ↓reduceIte, reduceCtorEq, Nat.reduceEqDiff, Nat.reduceLT, Nat.reduceAdd, Nat.reduceMul, Nat.reduceLeDiff, Nat.reduceSub, hc2, hc4, hc6, hc8, hc9]; refine hJ _ ?_; clear hJ J)
                refine vc_nil ?_
                try simp only [go_sem, ↓reduceIte, reduceCtorEq, Nat.reduceEqDiff, Nat.reduceLT, Nat.reduceAdd, Nat.reduceMul, Nat.reduceLeDiff, Nat.reduceSub, hc2, hc4, hc6, hc8, hc9]
                refine hK31 _ _ _ ⟨by assumption, (), by trivial, ?_, rfl, rfl⟩
                rw [wrap64 (n := ((i4 : Nat) : Int) + 1) (by omega) (by omega)]
                rfl
            · skip
              try simp only [decide_eq_true_eq, decide_eq_false_iff_not, Bool.not_eq_true', Bool.not_eq_false', beq_iff_eq, bne_iff_ne, beq_eq_false_iff_ne, Int.ofNat_lt, Int.not_lt, Bool.and_eq_true, ne_eq, bne_eq_false_iff_eq] at hc8
              refine wp_exit' ?_
              try simp only [go_sem, ↓reduceIte, reduceCtorEq, Nat.reduceEqDiff, Nat.reduceLT, Nat.reduceAdd, Nat.reduceMul, Nat.reduceLeDiff, Nat.reduceSub, hc2, hc4, hc6, hc8]
              try simp only [go_sem, ↓reduceIte, reduceCtorEq, Nat.reduceEqDiff, Nat.reduceLT, Nat.reduceAdd, Nat.reduceMul, Nat.reduceLeDiff, Nat.reduceSub, hc2, hc4, hc6, hc8]
              refine hK29 _ ?_
              refine wp_seq_k' fun K37 hK37 => ?_
              refine wp_seq_k' fun K38 hK38 => ?_
              refine wp_reg' ?_
              refine @vc_step Fk _ _ _ _ fun J hJ => ?_
              simp only [go_sem, ↓reduceIte, reduceCtorEq, Nat.reduceEqDiff, Nat.reduceLT, Nat.reduceAdd, Nat.reduceMul, Nat.reduceLeDiff, Nat.reduceSub, hc2, hc4, hc6, hc8]
              refine hJ _ ?_
              clear hJ J
              refine vc_nil ?_
              try simp only [go_sem, ↓reduceIte, reduceCtorEq, Nat.reduceEqDiff, Nat.reduceLT, Nat.reduceAdd, Nat.reduceMul, Nat.reduceLeDiff, Nat.reduceSub, hc2, hc4, hc6, hc8]
              try simp only [go_sem, ↓reduceIte, reduceCtorEq, Nat.reduceEqDiff, Nat.reduceLT, Nat.reduceAdd, Nat.reduceMul, Nat.reduceLeDiff, Nat.reduceSub, hc2, hc4, hc6, hc8]
              refine hK38 _ ?_
              refine wp_block' ?_
              refine wp_forU (ι := Unit) (x.by_.length) (fun i5 x5 => [(7, .int .i64 (i5 : Nat))]) (fun i5 x5 => _) (fun i5 x5 => _) (fun i5 x5 => True) () (by rfl) rfl rfl (by trivial) fun i5 x5 hi5 hv5 K39 hK39 => ?_
              refine wp_norm fun J hJ => ?_
              try simp only [go_sem, ↓reduceIte, reduceCtorEq, Nat.reduceEqDiff, Nat.reduceLT, Nat.reduceAdd, Nat.reduceMul, Nat.reduceLeDiff, Nat.reduceSub, hc2, hc4, hc6, hc8]
              refine hJ _ ?_
              clear hJ J
              refine wp_seq_k' fun K40 hK40 => ?_
              refine wp_seq_k' fun K41 hK41 => ?_
              refine wp_reg' ?_
              iterate 5 (refine @vc_step Fk _ _ _ _ fun J hJ => ?_; simp only [go_sem, ↓reduceIte, reduceCtorEq, Nat.reduceEqDiff, Nat.reduceLT, Nat.reduceAdd, Nat.reduceMul, Nat.reduceLeDiff, Nat.reduceSub, hc2, hc4, hc6, hc8]; refine hJ _ ?_; clear hJ J)
              refine vc_nil ?_
              try simp only [go_sem, ↓reduceIte, reduceCtorEq, Nat.reduceEqDiff, Nat.reduceLT, Nat.reduceAdd, Nat.reduceMul, Nat.reduceLeDiff, Nat.reduceSub, hc2, hc4, hc6, hc8]
              try simp only [go_sem, ↓reduceIte, reduceCtorEq, Nat.reduceEqDiff, Nat.reduceLT, Nat.reduceAdd, Nat.reduceMul, Nat.reduceLeDiff, Nat.reduceSub, hc2, hc4, hc6, hc8]
              refine hK41 _ ?_
              refine wp_cond' rfl (fun hc10 => ?_) (fun hc10 => ?_)
              · skip
                try simp only [decide_eq_true_eq, decide_eq_false_iff_not, Bool.not_eq_true', Bool.not_eq_false', beq_iff_eq, bne_iff_ne, beq_eq_false_iff_ne, Int.ofNat_lt, Int.not_lt, Bool.and_eq_true, ne_eq, bne_eq_false_iff_eq] at hc10
                refine wp_skip' ?_
                try simp only [go_sem, ↓reduceIte, reduceCtorEq, Nat.reduceEqDiff, Nat.reduceLT, Nat.reduceAdd, Nat.reduceMul, Nat.reduceLeDiff, Nat.reduceSub, hc2, hc4, hc6, hc8, hc10]
                try simp only [go_sem, ↓reduceIte, reduceCtorEq, Nat.reduceEqDiff, Nat.reduceLT, Nat.reduceAdd, Nat.reduceMul, Nat.reduceLeDiff, Nat.reduceSub, hc2, hc4, hc6, hc8, hc10]
                refine hK40 _ ?_
                refine wp_seq_k' fun K42 hK42 => ?_
                refine wp_block' ?_
                refine wp_seq_k' fun K43 hK43 => ?_
                refine wp_seq_k' fun K44 hK44 => ?_
                refine wp_reg' ?_
                refine @vc_step Fk _ _ _ _ fun J hJ => ?_
                simp only [go_sem, ↓reduceIte, reduceCtorEq, Nat.reduceEqDiff, Nat.reduceLT, Nat.reduceAdd, Nat.reduceMul, Nat.reduceLeDiff, Nat.reduceSub, hc2, hc4, hc6, hc8, hc10]
                refine hJ _ ?_
                clear hJ J
                refine vc_nil ?_
                try simp only [go_sem, ↓reduceIte, reduceCtorEq, Nat.reduceEqDiff, Nat.reduceLT, Nat.reduceAdd, Nat.reduceMul, Nat.reduceLeDiff, Nat.reduceSub, hc2, hc4, hc6, hc8, hc10]
                try simp only [go_sem, ↓reduceIte, reduceCtorEq, Nat.reduceEqDiff, Nat.reduceLT, Nat.reduceAdd, Nat.reduceMul, Nat.reduceLeDiff, Nat.reduceSub, hc2, hc4, hc6, hc8, hc10]
                refine hK44 _ ?_
                refine wp_block' ?_
                refine wp_forU (ι := Unit) ((x.by_[i5]).by_.length) (fun i6 x6 => [(8, .int .i64 (i6 : Nat))]) (fun i6 x6 => _) (fun i6 x6 => _) (fun i6 x6 => True) () (by rfl) rfl rfl (by trivial) fun i6 x6 hi6 hv6 K45 hK45 => ?_
                refine wp_norm fun J hJ => ?_
                try simp only [go_sem, ↓reduceIte, reduceCtorEq, Nat.reduceEqDiff, Nat.reduceLT, Nat.reduceAdd, Nat.reduceMul, Nat.reduceLeDiff, Nat.reduceSub, hc2, hc4, hc6, hc8, hc10]
                refine hJ _ ?_
                clear hJ J
                have hk9 := (hx.kids _ (List.getElem_mem hc10)).len.2.2.2.2.2.2.2.2
                unfold maxL at hk9
                refine wp_seq_k' fun K46 hK46 => ?_
                refine wp_seq_k' fun K47 hK47 => ?_
                refine wp_reg' ?_
                iterate 4 (refine @vc_step Fk _ _ _ _ fun J hJ => ?_; simp only [go_sem, ↓reduceIte, reduceCtorEq, Nat.reduceEqDiff, Nat.reduceLT, Nat.reduceAdd, Nat.reduceMul, Nat.reduceLeDiff, Nat.reduceSub, hc2, hc4, hc6, hc8, hc10]; refine hJ _ ?_; clear hJ J)
                refine @vc_step Fk _ _ _ _ fun J hJ => ?_
                simp only [go_sem, ↓reduceIte, reduceCtorEq, Nat.reduceEqDiff, Nat.reduceLT, Nat.reduceAdd, Nat.reduceMul, Nat.reduceLeDiff, Nat.reduceSub, hc2, hc4, hc6, hc8, hc10]
                first | refine hJ _ ?_ | refine ⟨by first | assumption | omega | exact List.getElem_mem _, hJ _ ?_⟩ | refine ⟨by first | assumption | omega | exact List.getElem_mem _, by first | assumption | omega | exact List.getElem_mem _, hJ _ ?_⟩
                clear hJ J
                iterate 4 (refine @vc_step Fk _ _ _ _ fun J hJ => ?_; simp only [go_sem, ↓reduceIte, reduceCtorEq, Nat.reduceEqDiff, Nat.reduceLT, Nat.reduceAdd, Nat.reduceMul, Nat.reduceLeDiff, Nat.reduceSub, hc2, hc4, hc6, hc8, hc10]; refine hJ _ ?_; clear hJ J)
                refine vc_nil ?_
                try simp only [go_sem, ↓reduceIte, reduceCtorEq, Nat.reduceEqDiff, Nat.reduceLT, Nat.reduceAdd, Nat.reduceMul, Nat.reduceLeDiff, Nat.reduceSub, hc2, hc4, hc6, hc8, hc10]
                try simp only [go_sem, ↓reduceIte, reduceCtorEq, Nat.reduceEqDiff, Nat.reduceLT, Nat.reduceAdd, Nat.reduceMul, Nat.reduceLeDiff, Nat.reduceSub, hc2, hc4, hc6, hc8, hc10]
                refine hK47 _ ?_
                refine wp_cond' rfl (fun hc11 => ?_) (fun hc11 => ?_)
                · skip
                  try simp only [decide_eq_true_eq, decide_eq_false_iff_not, Bool.not_eq_true', Bool.not_eq_false', beq_iff_eq, bne_iff_ne, beq_eq_false_iff_ne, Int.ofNat_lt, Int.not_lt, Bool.and_eq_true, ne_eq, bne_eq_false_iff_eq] at hc11
                  refine wp_skip' ?_
                  try simp only [go_sem, ↓reduceIte, reduceCtorEq, Nat.reduceEqDiff, Nat.reduceLT, Nat.reduceAdd, Nat.reduceMul, Nat.reduceLeDiff, Nat.reduceSub, hc2, hc4, hc6, hc8, hc10, hc11]
                  try simp only [go_sem, ↓reduceIte, reduceCtorEq, Nat.reduceEqDiff, Nat.reduceLT, Nat.reduceAdd, Nat.reduceMul, Nat.reduceLeDiff, Nat.reduceSub, hc2, hc4, hc6, hc8, hc10, hc11]
                  refine hK46 _ ?_
                  refine wp_seq_k' fun K48 hK48 => ?_
                  refine wp_block' ?_
                  refine wp_seq_k' fun K49 hK49 => ?_
                  refine wp_reg' ?_
                  iterate 3 (refine @vc_step Fk _ _ _ _ fun J hJ => ?_; simp only [go_sem, ↓reduceIte, reduceCtorEq, Nat.reduceEqDiff, Nat.reduceLT, Nat.reduceAdd, Nat.reduceMul, Nat.reduceLeDiff, Nat.reduceSub, hc2, hc4, hc6, hc8, hc10, hc11]; refine hJ _ ?_; clear hJ J)
                  refine @vc_step Fk _ _ _ _ fun J hJ => ?_
                  simp only [go_sem, ↓reduceIte, reduceCtorEq, Nat.reduceEqDiff, Nat.reduceLT, Nat.reduceAdd, Nat.reduceMul, Nat.reduceLeDiff, Nat.reduceSub, hc2, hc4, hc6, hc8, hc10, hc11]
                  first | refine hJ _ ?_ | refine ⟨by first | assumption | omega | exact List.getElem_mem _, hJ _ ?_⟩ | refine ⟨by first | assumption | omega | exact List.getElem_mem _, by first | assumption | omega | exact List.getElem_mem _, hJ _ ?_⟩
                  clear hJ J
                  iterate 3 (refine @vc_step Fk _ _ _ _ fun J hJ => ?_; simp only [go_sem, ↓reduceIte, reduceCtorEq, Nat.reduceEqDiff, Nat.reduceLT, Nat.reduceAdd, Nat.reduceMul, Nat.reduceLeDiff, Nat.reduceSub, hc2, hc4, hc6, hc8, hc10, hc11]; refine hJ _ ?_; clear hJ J)
                  refine @vc_step Fk _ _ _ _ fun J hJ => ?_
                  simp only [go_sem, ↓reduceIte, reduceCtorEq, Nat.reduceEqDiff, Nat.reduceLT, Nat.reduceAdd, Nat.reduceMul, Nat.reduceLeDiff, Nat.reduceSub, hc2, hc4, hc6, hc8, hc10, hc11]
                  first | refine hJ _ ?_ | refine ⟨by first | assumption | omega | exact List.getElem_mem _, hJ _ ?_⟩ | refine ⟨by first | assumption | omega | exact List.getElem_mem _, by first | assumption | omega | exact List.getElem_mem _, hJ _ ?_⟩
                  clear hJ J
                  iterate 4 (refine @vc_step Fk _ _ _ _ fun J hJ => ?_; simp only [go_sem, ↓reduceIte, reduceCtorEq, Nat.reduceEqDiff, Nat.reduceLT, Nat.reduceAdd, Nat.reduceMul, Nat.reduceLeDiff, Nat.reduceSub, hc2, hc4, hc6, hc8, hc10, hc11]; refine hJ _ ?_; clear hJ J)
                  refine vc_nil ?_
                  try simp only [go_sem, ↓reduceIte, reduceCtorEq, Nat.reduceEqDiff, Nat.reduceLT, Nat.reduceAdd, Nat.reduceMul, Nat.reduceLeDiff, Nat.reduceSub, hc2, hc4, hc6, hc8, hc10, hc11]
                  try simp only [go_sem, ↓reduceIte, reduceCtorEq, Nat.reduceEqDiff, Nat.reduceLT, Nat.reduceAdd, Nat.reduceMul, Nat.reduceLeDiff, Nat.reduceSub, hc2, hc4, hc6, hc8, hc10, hc11]
                  refine hK49 _ ?_
                  refine wp_cond' rfl (fun hc12 => ?_) (fun hc12 => ?_)
                  · skip
                    try simp only [decide_eq_true_eq, decide_eq_false_iff_not, Bool.not_eq_true', Bool.not_eq_false', beq_iff_eq, bne_iff_ne, beq_eq_false_iff_ne, Int.ofNat_lt, Int.not_lt, Bool.and_eq_true, ne_eq, bne_eq_false_iff_eq] at hc12
                    refine wp_seq_k' fun K50 hK50 => ?_
                    refine wp_reg' ?_
                    refine @vc_step Fk _ _ _ _ fun J hJ => ?_
                    simp only [go_sem, ↓reduceIte, reduceCtorEq, Nat.reduceEqDiff, Nat.reduceLT, Nat.reduceAdd, Nat.reduceMul, Nat.reduceLeDiff, Nat.reduceSub, hc2, hc4, hc6, hc8, hc10, hc11, hc12]
                    refine hJ _ ?_
                    clear hJ J
                    refine vc_nil ?_
                    try simp only [go_sem, ↓reduceIte, reduceCtorEq, Nat.reduceEqDiff, Nat.reduceLT, Nat.reduceAdd, Nat.reduceMul, Nat.reduceLeDiff, Nat.reduceSub, hc2, hc4, hc6, hc8, hc10, hc11, hc12]
                    try simp only [go_sem, ↓reduceIte, reduceCtorEq, Nat.reduceEqDiff, Nat.reduceLT, Nat.reduceAdd, Nat.reduceMul, Nat.reduceLeDiff, Nat.reduceSub, hc2, hc4, hc6, hc8, hc10, hc11, hc12]
                    refine hK50 _ ?_
                    refine wp_ret' ?_
                    try simp only [go_sem, ↓reduceIte, reduceCtorEq, Nat.reduceEqDiff, Nat.reduceLT, Nat.reduceAdd, Nat.reduceMul, Nat.reduceLeDiff, Nat.reduceSub, hc2, hc4, hc6, hc8, hc10, hc11, hc12]
                    exact hZ _ _ _ _ (by simp) rfl rfl ⟨_, rfl⟩
                  · skip
                    try simp only [decide_eq_true_eq, decide_eq_false_iff_not, Bool.not_eq_true', Bool.not_eq_false', beq_iff_eq, bne_iff_ne, beq_eq_false_iff_ne, Int.ofNat_lt, Int.not_lt, Bool.and_eq_true, ne_eq, bne_eq_false_iff_eq] at hc12
                    refine wp_skip' ?_
                    try simp only [go_sem, ↓reduceIte, reduceCtorEq, Nat.reduceEqDiff, Nat.reduceLT, Nat.reduceAdd, Nat.reduceMul, Nat.reduceLeDiff, Nat.reduceSub, hc2, hc4, hc6, hc8, hc10, hc11, hc12]
                    try simp only [go_sem, ↓reduceIte, reduceCtorEq, Nat.reduceEqDiff, Nat.reduceLT, Nat.reduceAdd, Nat.reduceMul, Nat.reduceLeDiff, Nat.reduceSub, hc2, hc4, hc6, hc8, hc10, hc11, hc12]
                    refine hK48 _ ?_
                    refine wp_reg' ?_
                    iterate 3 (refine @vc_step Fk _ _ _ _ fun J hJ => ?_; simp only [go_sem, ↓reduceIte, reduceCtorEq, Nat.reduceEqDiff, Nat.reduceLT, Nat.reduceAdd, Nat.reduceMul, Nat.reduceLeDiff, Nat.reduceSub, hc2, hc4, hc6, hc8, hc10, hc11, hc12]; refine hJ _ ?_; clear hJ J)
                    refine vc_nil ?_
                    try simp only [go_sem, ↓reduceIte, reduceCtorEq, Nat.reduceEqDiff, Nat.reduceLT, Nat.reduceAdd, Nat.reduceMul, Nat.reduceLeDiff, Nat.reduceSub, hc2, hc4, hc6, hc8, hc10, hc11, hc12]
                    refine hK45 _ _ _ ⟨by assumption, (), by trivial, ?_, rfl, rfl⟩
                    rw [wrap64 (n := ((i6 : Nat) : Int) + 1) (by omega) (by omega)]
                    rfl
                · skip
                  try simp only [decide_eq_true_eq, decide_eq_false_iff_not, Bool.not_eq_true', Bool.not_eq_false', beq_iff_eq, bne_iff_ne, beq_eq_false_iff_ne, Int.ofNat_lt, Int.not_lt, Bool.and_eq_true, ne_eq, bne_eq_false_iff_eq] at hc11
                  refine wp_exit' ?_
                  try simp only [go_sem, ↓reduceIte, reduceCtorEq, Nat.reduceEqDiff, Nat.reduceLT, Nat.reduceAdd, Nat.reduceMul, Nat.reduceLeDiff, Nat.reduceSub, hc2, hc4, hc6, hc8, hc10, hc11]
                  try simp only [go_sem, ↓reduceIte, reduceCtorEq, Nat.reduceEqDiff, Nat.reduceLT, Nat.reduceAdd, Nat.reduceMul, Nat.reduceLeDiff, Nat.reduceSub, hc2, hc4, hc6, hc8, hc10, hc11]
                  refine hK43 _ ?_
                  refine wp_seq_k' fun K51 hK51 => ?_
                  refine wp_reg' ?_
                  iterate 3 (refine @vc_step Fk _ _ _ _ fun J hJ => ?_; simp only [go_sem, ↓reduceIte, reduceCtorEq, Nat.reduceEqDiff, Nat.reduceLT, Nat.reduceAdd, Nat.reduceMul, Nat.reduceLeDiff, Nat.reduceSub, hc2, hc4, hc6, hc8, hc10, hc11]; refine hJ _ ?_; clear hJ J)
                  refine @vc_step Fk _ _ _ _ fun J hJ => ?_
                  simp only [go_sem, ↓reduceIte, reduceCtorEq, Nat.reduceEqDiff, Nat.reduceLT, Nat.reduceAdd, Nat.reduceMul, Nat.reduceLeDiff, Nat.reduceSub, hc2, hc4, hc6, hc8, hc10, hc11]
                  first | refine hJ _ ?_ | refine ⟨by first | assumption | omega | exact List.getElem_mem _, hJ _ ?_⟩ | refine ⟨by first | assumption | omega | exact List.getElem_mem _, by first | assumption | omega | exact List.getElem_mem _, hJ _ ?_⟩
                  clear hJ J
                  refine @vc_step Fk _ _ _ _ fun J hJ => ?_
                  simp only [go_sem, ↓reduceIte, reduceCtorEq, Nat.reduceEqDiff, Nat.reduceLT, Nat.reduceAdd, Nat.reduceMul, Nat.reduceLeDiff, Nat.reduceSub, hc2, hc4, hc6, hc8, hc10, hc11]
                  refine hJ _ ?_
                  clear hJ J
                  refine @vc_step Fk _ _ _ _ fun J hJ => ?_
                  simp only [go_sem, ↓reduceIte, reduceCtorEq, Nat.reduceEqDiff, Nat.reduceLT, Nat.reduceAdd, Nat.reduceMul, Nat.reduceLeDiff, Nat.reduceSub, hc2, hc4, hc6, hc8, hc10, hc11]
                  obtain ⟨_, ⟨b, rfl⟩, hih⟩ := ih _ (List.getElem_mem ‹_›)
                  simp only [It.cs_eq] at hih
                  refine runT_ret hih ?_
                  try simp only [go_sem, ↓reduceIte, reduceCtorEq, Nat.reduceEqDiff, Nat.reduceLT, Nat.reduceAdd, Nat.reduceMul, Nat.reduceLeDiff, Nat.reduceSub, hc2, hc4, hc6, hc8, hc10, hc11]
                  refine hJ _ ?_
                  clear hJ J
                  refine @vc_step Fk _ _ _ _ fun J hJ => ?_
                  simp only [go_sem, ↓reduceIte, reduceCtorEq, Nat.reduceEqDiff, Nat.reduceLT, Nat.reduceAdd, Nat.reduceMul, Nat.reduceLeDiff, Nat.reduceSub, hc2, hc4, hc6, hc8, hc10, hc11]
                  refine hJ _ ?_
                  clear hJ J
                  refine vc_nil ?_
                  try simp only [go_sem, ↓reduceIte, reduceCtorEq, Nat.reduceEqDiff, Nat.reduceLT, Nat.reduceAdd, Nat.reduceMul, Nat.reduceLeDiff, Nat.reduceSub, hc2, hc4, hc6, hc8, hc10, hc11]
                  try simp only [go_sem, ↓reduceIte, reduceCtorEq, Nat.reduceEqDiff, Nat.reduceLT, Nat.reduceAdd, Nat.reduceMul, Nat.reduceLeDiff, Nat.reduceSub, hc2, hc4, hc6, hc8, hc10, hc11]
                  refine hK51 _ ?_
                  refine wp_cond' rfl (fun hc13 => ?_) (fun hc13 => ?_)
                  · skip
                    try simp only [decide_eq_true_eq, decide_eq_false_iff_not, Bool.not_eq_true', Bool.not_eq_false', beq_iff_eq, bne_iff_ne, beq_eq_false_iff_ne, Int.ofNat_lt, Int.not_lt, Bool.and_eq_true, ne_eq, bne_eq_false_iff_eq] at hc13
                    refine wp_seq_k' fun K52 hK52 => ?_
                    refine wp_reg' ?_
                    refine @vc_step Fk _ _ _ _ fun J hJ => ?_
                    simp only [go_sem, ↓reduceIte, reduceCtorEq, Nat.reduceEqDiff, Nat.reduceLT, Nat.reduceAdd, Nat.reduceMul, Nat.reduceLeDiff, Nat.reduceSub, hc2, hc4, hc6, hc8, hc10, hc11]
                    refine hJ _ ?_
                    clear hJ J
                    refine vc_nil ?_
                    try simp only [go_sem, ↓reduceIte, reduceCtorEq, Nat.reduceEqDiff, Nat.reduceLT, Nat.reduceAdd, Nat.reduceMul, Nat.reduceLeDiff, Nat.reduceSub, hc2, hc4, hc6, hc8, hc10, hc11]
                    try simp only [go_sem, ↓reduceIte, reduceCtorEq, Nat.reduceEqDiff, Nat.reduceLT, Nat.reduceAdd, Nat.reduceMul, Nat.reduceLeDiff, Nat.reduceSub, hc2, hc4, hc6, hc8, hc10, hc11]
                    refine hK52 _ ?_
                    refine wp_ret' ?_
                    try simp only [go_sem, ↓reduceIte, reduceCtorEq, Nat.reduceEqDiff, Nat.reduceLT, Nat.reduceAdd, Nat.reduceMul, Nat.reduceLeDiff, Nat.reduceSub, hc2, hc4, hc6, hc8, hc10, hc11]
                    exact hZ _ _ _ _ (by simp) rfl rfl ⟨_, rfl⟩
                  · skip
                    try simp only [decide_eq_true_eq, decide_eq_false_iff_not, Bool.not_eq_true', Bool.not_eq_false', beq_iff_eq, bne_iff_ne, beq_eq_false_iff_ne, Int.ofNat_lt, Int.not_lt, Bool.and_eq_true, ne_eq, bne_eq_false_iff_eq] at hc13
                    refine wp_skip' ?_
                    try simp only [go_sem, ↓reduceIte, reduceCtorEq, Nat.reduceEqDiff, Nat.reduceLT, Nat.reduceAdd, Nat.reduceMul, Nat.reduceLeDiff, Nat.reduceSub, hc2, hc4, hc6, hc8, hc10, hc11]
                    try simp only [go_sem, ↓reduceIte, reduceCtorEq, Nat.reduceEqDiff, Nat.reduceLT, Nat.reduceAdd, Nat.reduceMul, Nat.reduceLeDiff, Nat.reduceSub, hc2, hc4, hc6, hc8, hc10, hc11]
                    refine hK42 _ ?_
                    refine wp_reg' ?_
                    iterate 3 (refine @vc_step Fk _ _ _ _ fun J hJ => ?_; simp only [go_sem, ↓reduceIte, reduceCtorEq, Nat.reduceEqDiff, Nat.reduceLT, Nat.reduceAdd, Nat.reduceMul, Nat.reduceLeDiff, Nat.reduceSub, hc2, hc4, hc6, hc8, hc10, hc11]; refine hJ _ ?_; clear hJ J)
                    refine vc_nil ?_
                    try simp only [go_sem, ↓reduceIte, reduceCtorEq, Nat.reduceEqDiff, Nat.reduceLT, Nat.reduceAdd, Nat.reduceMul, Nat.reduceLeDiff, Nat.reduceSub, hc2, hc4, hc6, hc8, hc10, hc11]
                    refine hK39 _ _ _ ⟨by assumption, (), by trivial, ?_, rfl, rfl⟩
                    rw [wrap64 (n := ((i5 : Nat) : Int) + 1) (by omega) (by omega)]
                    rfl
              · skip
                try simp only [decide_eq_true_eq, decide_eq_false_iff_not, Bool.not_eq_true', Bool.not_eq_false', beq_iff_eq, bne_iff_ne, beq_eq_false_iff_ne, Int.ofNat_lt, Int.not_lt, Bool.and_eq_true, ne_eq, bne_eq_false_iff_eq] at hc10
                refine wp_exit' ?_
                try simp only [go_sem, ↓reduceIte, reduceCtorEq, Nat.reduceEqDiff, Nat.reduceLT, Nat.reduceAdd, Nat.reduceMul, Nat.reduceLeDiff, Nat.reduceSub, hc2, hc4, hc6, hc8, hc10]
                try simp only [go_sem, ↓reduceIte, reduceCtorEq, Nat.reduceEqDiff, Nat.reduceLT, Nat.reduceAdd, Nat.reduceMul, Nat.reduceLeDiff, Nat.reduceSub, hc2, hc4, hc6, hc8, hc10]
                refine hK37 _ ?_
                refine wp_seq_k' fun K53 hK53 => ?_
                refine wp_reg' ?_
                refine @vc_step Fk _ _ _ _ fun J hJ => ?_
                simp only [go_sem, ↓reduceIte, reduceCtorEq, Nat.reduceEqDiff, Nat.reduceLT, Nat.reduceAdd, Nat.reduceMul, Nat.reduceLeDiff, Nat.reduceSub, hc2, hc4, hc6, hc8, hc10]
                refine hJ _ ?_
                clear hJ J
                refine vc_nil ?_
                try simp only [go_sem, ↓reduceIte, reduceCtorEq, Nat.reduceEqDiff, Nat.reduceLT, Nat.reduceAdd, Nat.reduceMul, Nat.reduceLeDiff, Nat.reduceSub, hc2, hc4, hc6, hc8, hc10]
                try simp only [go_sem, ↓reduceIte, reduceCtorEq, Nat.reduceEqDiff, Nat.reduceLT, Nat.reduceAdd, Nat.reduceMul, Nat.reduceLeDiff, Nat.reduceSub, hc2, hc4, hc6, hc8, hc10]
                refine hK53 _ ?_
                refine wp_ret' ?_
                try simp only [go_sem, ↓reduceIte, reduceCtorEq, Nat.reduceEqDiff, Nat.reduceLT, Nat.reduceAdd, Nat.reduceMul, Nat.reduceLeDiff, Nat.reduceSub, hc2, hc4, hc6, hc8, hc10]
                exact hZ _ _ _ _ (by simp) rfl rfl ⟨_, rfl⟩
  · skip
    iterate 5 (refine @vc_step Fk _ _ _ _ fun J hJ => ?_; simp only [go_sem, ↓reduceIte, reduceCtorEq, Nat.reduceEqDiff, Nat.reduceLT, Nat.reduceAdd, Nat.reduceMul, Nat.reduceLeDiff, Nat.reduceSub]; refine hJ _ ?_; clear hJ J)
    refine @vc_gd Fk _ _ _ _ 13 (by rfl) (fun hg1 => ?_) (fun hg1 => ?_)
    · skip
      have hg1n := hg1
      try simp only [decide_eq_true_eq, decide_eq_false_iff_not, Bool.not_eq_true', Bool.not_eq_false', beq_iff_eq, bne_iff_ne, beq_eq_false_iff_ne, Int.ofNat_lt, Int.not_lt, Bool.and_eq_true, ne_eq, bne_eq_false_iff_eq] at hg1n
      iterate 54 (refine @vc_step Fk _ _ _ _ fun J hJ => ?_; simp only [go_sem, ↓reduceIte, reduceCtorEq, Nat.reduceEqDiff, Nat.reduceLT, Nat.reduceAdd, Nat.reduceMul, Nat.reduceLeDiff, Nat.reduceSub, hg1]; refine hJ _ ?_; clear hJ J)
      refine vc_nil ?_
      exact hM3 _ _ (trivial) rfl
    · skip
      have hg1n := hg1
      try simp only [decide_eq_true_eq, decide_eq_false_iff_not, Bool.not_eq_true', Bool.not_eq_false', beq_iff_eq, bne_iff_ne, beq_eq_false_iff_ne, Int.ofNat_lt, Int.not_lt, Bool.and_eq_true, ne_eq, bne_eq_false_iff_eq] at hg1n
      iterate 6 (refine @vc_step Fk _ _ _ _ fun J hJ => ?_; simp only [go_sem, ↓reduceIte, reduceCtorEq, Nat.reduceEqDiff, Nat.reduceLT, Nat.reduceAdd, Nat.reduceMul, Nat.reduceLeDiff, Nat.reduceSub, hg1]; refine hJ _ ?_; clear hJ J)
      refine @vc_gd Fk _ _ _ _ 19 (by rfl) (fun hg2 => ?_) (fun hg2 => ?_)
      · skip
        have hg2n := hg2
        try simp only [decide_eq_true_eq, decide_eq_false_iff_not, Bool.not_eq_true', Bool.not_eq_false', beq_iff_eq, bne_iff_ne, beq_eq_false_iff_ne, Int.ofNat_lt, Int.not_lt, Bool.and_eq_true, ne_eq, bne_eq_false_iff_eq] at hg2n
        iterate 48 (refine @vc_step Fk _ _ _ _ fun J hJ => ?_; simp only [go_sem, ↓reduceIte, reduceCtorEq, Nat.reduceEqDiff, Nat.reduceLT, Nat.reduceAdd, Nat.reduceMul, Nat.reduceLeDiff, Nat.reduceSub, hg1, hg2]; refine hJ _ ?_; clear hJ J)
        refine vc_nil ?_
        exact hM3 _ _ (trivial) rfl
      · skip
        have hg2n := hg2
        try simp only [decide_eq_true_eq, decide_eq_false_iff_not, Bool.not_eq_true', Bool.not_eq_false', beq_iff_eq, bne_iff_ne, beq_eq_false_iff_ne, Int.ofNat_lt, Int.not_lt, Bool.and_eq_true, ne_eq, bne_eq_false_iff_eq] at hg2n
        iterate 6 (refine @vc_step Fk _ _ _ _ fun J hJ => ?_; simp only [go_sem, ↓reduceIte, reduceCtorEq, Nat.reduceEqDiff, Nat.reduceLT, Nat.reduceAdd, Nat.reduceMul, Nat.reduceLeDiff, Nat.reduceSub, hg1, hg2]; refine hJ _ ?_; clear hJ J)
        refine @vc_gd Fk _ _ _ _ 25 (by rfl) (fun hg3 => ?_) (fun hg3 => ?_)
        · skip
          have hg3n := hg3
          try simp only [decide_eq_true_eq, decide_eq_false_iff_not, Bool.not_eq_true', Bool.not_eq_false', beq_iff_eq, bne_iff_ne, beq_eq_false_iff_ne, Int.ofNat_lt, Int.not_lt, Bool.and_eq_true, ne_eq, bne_eq_false_iff_eq] at hg3n
          iterate 42 (refine @vc_step Fk _ _ _ _ fun J hJ => ?_; simp only [go_sem, ↓reduceIte, reduceCtorEq, Nat.reduceEqDiff, Nat.reduceLT, Nat.reduceAdd, Nat.reduceMul, Nat.reduceLeDiff, Nat.reduceSub, hg1, hg2, hg3]; refine hJ _ ?_; clear hJ J)
          refine vc_nil ?_
          exact hM3 _ _ (trivial) rfl
        · skip
          have hg3n := hg3
          try simp only [decide_eq_true_eq, decide_eq_false_iff_not, Bool.not_eq_true', Bool.not_eq_false', beq_iff_eq, bne_iff_ne, beq_eq_false_iff_ne, Int.ofNat_lt, Int.not_lt, Bool.and_eq_true, ne_eq, bne_eq_false_iff_eq] at hg3n
          iterate 6 (refine @vc_step Fk _ _ _ _ fun J hJ => ?_; simp only [go_sem, ↓reduceIte, reduceCtorEq, Nat.reduceEqDiff, Nat.reduceLT, Nat.reduceAdd, Nat.reduceMul, Nat.reduceLeDiff, Nat.reduceSub, hg1, hg2, hg3]; refine hJ _ ?_; clear hJ J)
          refine @vc_gd Fk _ _ _ _ 31 (by rfl) (fun hg4 => ?_) (fun hg4 => ?_)
          · skip
            have hg4n := hg4
            try simp only [decide_eq_true_eq, decide_eq_false_iff_not, Bool.not_eq_true', Bool.not_eq_false', beq_iff_eq, bne_iff_ne, beq_eq_false_iff_ne, Int.ofNat_lt, Int.not_lt, Bool.and_eq_true, ne_eq, bne_eq_false_iff_eq] at hg4n
            iterate 36 (refine @vc_step Fk _ _ _ _ fun J hJ => ?_; simp only [go_sem, ↓reduceIte, reduceCtorEq, Nat.reduceEqDiff, Nat.reduceLT, Nat.reduceAdd, Nat.reduceMul, Nat.reduceLeDiff, Nat.reduceSub, hg1, hg2, hg3, hg4]; refine hJ _ ?_; clear hJ J)
            refine vc_nil ?_
            exact hM3 _ _ (trivial) rfl
          · skip
            have hg4n := hg4
            try simp only [decide_eq_true_eq, decide_eq_false_iff_not, Bool.not_eq_true', Bool.not_eq_false', beq_iff_eq, bne_iff_ne, beq_eq_false_iff_ne, Int.ofNat_lt, Int.not_lt, Bool.and_eq_true, ne_eq, bne_eq_false_iff_eq] at hg4n
            iterate 6 (refine @vc_step Fk _ _ _ _ fun J hJ => ?_; simp only [go_sem, ↓reduceIte, reduceCtorEq, Nat.reduceEqDiff, Nat.reduceLT, Nat.reduceAdd, Nat.reduceMul, Nat.reduceLeDiff, Nat.reduceSub, hg1, hg2, hg3, hg4]; refine hJ _ ?_; clear hJ J)
            refine @vc_gd Fk _ _ _ _ 37 (by rfl) (fun hg5 => ?_) (fun hg5 => ?_)
            · skip
              have hg5n := hg5
              try simp only [decide_eq_true_eq, decide_eq_false_iff_not, Bool.not_eq_true', Bool.not_eq_false', beq_iff_eq, bne_iff_ne, beq_eq_false_iff_ne, Int.ofNat_lt, Int.not_lt, Bool.and_eq_true, ne_eq, bne_eq_false_iff_eq] at hg5n
              iterate 30 (refine @vc_step Fk _ _ _ _ fun J hJ => ?_; simp only [go_sem, ↓reduceIte, reduceCtorEq, Nat.reduceEqDiff, Nat.reduceLT, Nat.reduceAdd, Nat.reduceMul, Nat.reduceLeDiff, Nat.reduceSub, hg1, hg2, hg3, hg4, hg5]; refine hJ _ ?_; clear hJ J)
              refine vc_nil ?_
              exact hM3 _ _ (trivial) rfl
            · skip
              have hg5n := hg5
              try simp only [decide_eq_true_eq, decide_eq_false_iff_not, Bool.not_eq_true', Bool.not_eq_false', beq_iff_eq, bne_iff_ne, beq_eq_false_iff_ne, Int.ofNat_lt, Int.not_lt, Bool.and_eq_true, ne_eq, bne_eq_false_iff_eq] at hg5n
              iterate 6 (refine @vc_step Fk _ _ _ _ fun J hJ => ?_; simp only [go_sem, ↓reduceIte, reduceCtorEq, Nat.reduceEqDiff, Nat.reduceLT, Nat.reduceAdd, Nat.reduceMul, Nat.reduceLeDiff, Nat.reduceSub, hg1, hg2, hg3, hg4, hg5]; refine hJ _ ?_; clear hJ J)
              refine @vc_gd Fk _ _ _ _ 43 (by rfl) (fun hg6 => ?_) (fun hg6 => ?_)
              · skip
                have hg6n := hg6
                try simp only [decide_eq_true_eq, decide_eq_false_iff_not, Bool.not_eq_true', Bool.not_eq_false', beq_iff_eq, bne_iff_ne, beq_eq_false_iff_ne, Int.ofNat_lt, Int.not_lt, Bool.and_eq_true, ne_eq, bne_eq_false_iff_eq] at hg6n
                iterate 24 (refine @vc_step Fk _ _ _ _ fun J hJ => ?_; simp only [go_sem, ↓reduceIte, reduceCtorEq, Nat.reduceEqDiff, Nat.reduceLT, Nat.reduceAdd, Nat.reduceMul, Nat.reduceLeDiff, Nat.reduceSub, hg1, hg2, hg3, hg4, hg5, hg6]; refine hJ _ ?_; clear hJ J)
                refine vc_nil ?_
                exact hM3 _ _ (trivial) rfl
              · skip
                have hg6n := hg6
                try simp only [decide_eq_true_eq, decide_eq_false_iff_not, Bool.not_eq_true', Bool.not_eq_false', beq_iff_eq, bne_iff_ne, beq_eq_false_iff_ne, Int.ofNat_lt, Int.not_lt, Bool.and_eq_true, ne_eq, bne_eq_false_iff_eq] at hg6n
                iterate 7 (refine @vc_step Fk _ _ _ _ fun J hJ => ?_; simp only [go_sem, ↓reduceIte, reduceCtorEq, Nat.reduceEqDiff, Nat.reduceLT, Nat.reduceAdd, Nat.reduceMul, Nat.reduceLeDiff, Nat.reduceSub, hg1, hg2, hg3, hg4, hg5, hg6]; refine hJ _ ?_; clear hJ J)
                refine @vc_gd Fk _ _ _ _ 50 (by rfl) (fun hg7 => ?_) (fun hg7 => ?_)
                · skip
                  have hg7n := hg7
                  try simp only [decide_eq_true_eq, decide_eq_false_iff_not, Bool.not_eq_true', Bool.not_eq_false', beq_iff_eq, bne_iff_ne, beq_eq_false_iff_ne, Int.ofNat_lt, Int.not_lt, Bool.and_eq_true, ne_eq, bne_eq_false_iff_eq] at hg7n
                  iterate 17 (refine @vc_step Fk _ _ _ _ fun J hJ => ?_; simp only [go_sem, ↓reduceIte, reduceCtorEq, Nat.reduceEqDiff, Nat.reduceLT, Nat.reduceAdd, Nat.reduceMul, Nat.reduceLeDiff, Nat.reduceSub, hg1, hg2, hg3, hg4, hg5, hg6, hg7]; refine hJ _ ?_; clear hJ J)
                  refine vc_nil ?_
                  exact hM3 _ _ (trivial) rfl
                · skip
                  have hg7n := hg7
                  try simp only [decide_eq_true_eq, decide_eq_false_iff_not, Bool.not_eq_true', Bool.not_eq_false', beq_iff_eq, bne_iff_ne, beq_eq_false_iff_ne, Int.ofNat_lt, Int.not_lt, Bool.and_eq_true, ne_eq, bne_eq_false_iff_eq] at hg7n
                  iterate 6 (refine @vc_step Fk _ _ _ _ fun J hJ => ?_; simp only [go_sem, ↓reduceIte, reduceCtorEq, Nat.reduceEqDiff, Nat.reduceLT, Nat.reduceAdd, Nat.reduceMul, Nat.reduceLeDiff, Nat.reduceSub, hg1, hg2, hg3, hg4, hg5, hg6, hg7]; refine hJ _ ?_; clear hJ J)
                  refine @vc_gd Fk _ _ _ _ 56 (by rfl) (fun hg8 => ?_) (fun hg8 => ?_)
                  · skip
                    have hg8n := hg8
                    try simp only [decide_eq_true_eq, decide_eq_false_iff_not, Bool.not_eq_true', Bool.not_eq_false', beq_iff_eq, bne_iff_ne, beq_eq_false_iff_ne, Int.ofNat_lt, Int.not_lt, Bool.and_eq_true, ne_eq, bne_eq_false_iff_eq] at hg8n
                    iterate 11 (refine @vc_step Fk _ _ _ _ fun J hJ => ?_; simp only [go_sem, ↓reduceIte, reduceCtorEq, Nat.reduceEqDiff, Nat.reduceLT, Nat.reduceAdd, Nat.reduceMul, Nat.reduceLeDiff, Nat.reduceSub, hg1, hg2, hg3, hg4, hg5, hg6, hg7, hg8]; refine hJ _ ?_; clear hJ J)
                    refine vc_nil ?_
                    exact hM3 _ _ (trivial) rfl
                  · skip
                    have hg8n := hg8
                    try simp only [decide_eq_true_eq, decide_eq_false_iff_not, Bool.not_eq_true', Bool.not_eq_false', beq_iff_eq, bne_iff_ne, beq_eq_false_iff_ne, Int.ofNat_lt, Int.not_lt, Bool.and_eq_true, ne_eq, bne_eq_false_iff_eq] at hg8n
                    iterate 6 (refine @vc_step Fk _ _ _ _ fun J hJ => ?_; simp only [go_sem, ↓reduceIte, reduceCtorEq, Nat.reduceEqDiff, Nat.reduceLT, Nat.reduceAdd, Nat.reduceMul, Nat.reduceLeDiff, Nat.reduceSub, hg1, hg2, hg3, hg4, hg5, hg6, hg7, hg8]; refine hJ _ ?_; clear hJ J)
                    refine @vc_gd Fk _ _ _ _ 62 (by rfl) (fun hg9 => ?_) (fun hg9 => ?_)
                    · skip
                      have hg9n := hg9
                      try simp only [decide_eq_true_eq, decide_eq_false_iff_not, Bool.not_eq_true', Bool.not_eq_false', beq_iff_eq, bne_iff_ne, beq_eq_false_iff_ne, Int.ofNat_lt, Int.not_lt, Bool.and_eq_true, ne_eq, bne_eq_false_iff_eq] at hg9n
                      iterate 5 (refine @vc_step Fk _ _ _ _ fun J hJ => ?_; simp only [go_sem, ↓reduceIte, reduceCtorEq, Nat.reduceEqDiff, Nat.reduceLT, Nat.reduceAdd, Nat.reduceMul, Nat.reduceLeDiff, Nat.reduceSub, hg1, hg2, hg3, hg4, hg5, hg6, hg7, hg8, hg9]; refine hJ _ ?_; clear hJ J)
                      refine vc_nil ?_
                      exact hM3 _ _ (trivial) rfl
                    · skip
                      have hg9n := hg9
                      try simp only [decide_eq_true_eq, decide_eq_false_iff_not, Bool.not_eq_true', Bool.not_eq_false', beq_iff_eq, bne_iff_ne, beq_eq_false_iff_ne, Int.ofNat_lt, Int.not_lt, Bool.and_eq_true, ne_eq, bne_eq_false_iff_eq] at hg9n
                      iterate 2 (refine @vc_step Fk _ _ _ _ fun J hJ => ?_; simp only [go_sem, ↓reduceIte, reduceCtorEq, Nat.reduceEqDiff, Nat.reduceLT, Nat.reduceAdd, Nat.reduceMul, Nat.reduceLeDiff, Nat.reduceSub, hg1, hg2, hg3, hg4, hg5, hg6, hg7, hg8, hg9]; refine hJ _ ?_; clear hJ J)
                      have e30 : (30 : Int) = ((30 : Nat) : Int) := rfl
                      refine @vc_step Fk _ _ _ _ fun J hJ => ?_
                      simp only [go_sem, ↓reduceIte, reduceCtorEq, Nat.reduceEqDiff, Nat.reduceLT, Nat.reduceAdd, Nat.reduceMul, Nat.reduceLeDiff, Nat.reduceSub, hg1, hg2, hg3, hg4, hg5, hg6, hg7, hg8, hg9]
                      rw [e30]
                      refine few6_call (by assumption) (by omega) fun b1 hb1 => ?_
                      try simp only [go_sem, ↓reduceIte, reduceCtorEq, Nat.reduceEqDiff, Nat.reduceLT, Nat.reduceAdd, Nat.reduceMul, Nat.reduceLeDiff, Nat.reduceSub, hg1, hg2, hg3, hg4, hg5, hg6, hg7, hg8, hg9]
                      refine hJ _ ?_
                      clear hJ J
                      iterate 2 (refine @vc_step Fk _ _ _ _ fun J hJ => ?_; simp only [go_sem, ↓reduceIte, reduceCtorEq, Nat.reduceEqDiff, Nat.reduceLT, Nat.reduceAdd, Nat.reduceMul, Nat.reduceLeDiff, Nat.reduceSub, hg1, hg2, hg3, hg4, hg5, hg6, hg7, hg8, hg9]; refine hJ _ ?_; clear hJ J)
                      refine vc_nil ?_
                      exact hM3 _ _ (trivial) rfl
theorem few17 : ∀ (x : It) (hx : x.Ok), ∃ v, (∃ (b : Bool), v = .bool b) ∧ Ret Fk n_pandectref17_Few [.agg x.cs] v :=
  It.ind fun x ih hx => few17_step x hx fun k hk => ih k hk (hx.kids k hk)

theorem few17_call {x : It} (hx : x.Ok) {H : List AO} {T : List Nat} {Q : Av → List AO → List Nat → Prop} (hq : ∀ (b : Bool), Q (.bool b) H T) : RunT Fk (.fn n_pandectref17_Few) [.agg [.int .i64 x.kind, .sl (x.at_.map Stp.cs) x.t1.tk, .sl (x.to_.map Stp.cs) x.t2.tk, .int .i64 x.wh, .int .i64 x.nth, .int .i64 x.u.a, .int .i64 x.u.b, .int .i64 x.u.c, .int .i64 x.u.kind, .str x.u.label, .sl (x.u.head.map Wd.cs) x.u.t1.tk, .sl (x.u.words.map Wd.cs) x.u.t2.tk, .sl (x.u.kids.map Un.cs) x.u.t3.tk, .sl (x.old.map strC) x.t3.tk, .sl (x.new.map strC) x.t4.tk, .str x.label, .str x.for_, .int .i64 x.sk, .int .i64 x.sd, .str x.se, .int .i64 x.act, .int .i64 x.item, .int .i64 x.day, .str x.ev, .sl (x.by_.map It.cs) x.t5.tk]] H T Q := by
  obtain ⟨_, ⟨b, rfl⟩, hr⟩ := few17 _ hx
  simp only [Un.cs_eq, It.cs_eq, Ac.cs] at hr
  exact runT_ret hr (hq b)

end Go.Am
