/- Part of the proof. -/
import Derived.Test.YtfhilbdpejljdaaGreatDoorO4
import Derived.Test.YtfhilbdpejljdaaGreatDoorW2
set_option linter.all false
set_option maxHeartbeats 4000000
set_option maxRecDepth 100000
namespace Go.Am
open Go
theorem wide_R {sz n : Nat} {r : List Av} (h : r.length = sz) : wide sz (List.replicate n r) = true := by simp [wide, h]


theorem limit (u : Un) (x : Ac) (n : Int) (ks : List Int) (t : TD) (hu : u.Ok) (hx : x.Ok) (hk : ks.length ≤ maxL) :
    ∃ v, (v = .bool true) ∧ Ret Fk n_pandectlaw38_OrdersetLimit [.agg u.cs, .agg x.cs, .int .i64 n, .sl (ks.map intC) t.tk] v := by
  refine ret_of_wpP (show Fk n_pandectlaw38_OrdersetLimit = some (.fn true 77 c_pandectlaw38_OrdersetLimit r_pandectlaw38_OrdersetLimit) from rfl) (args' := [.agg u.cs, .agg x.cs, .int .i64 n, .sl (ks.map intC) t.tk]) (by simp only [stripA, strip_int, strip_bool, strip_str, strip_sl, strip_U, strip_I, strip_A]) (Nat.le_of_ble_eq_true rfl) fun Z hZ => ?_
  unfold c_pandectlaw38_OrdersetLimit
  refine wp_norm fun J hJ => ?_
  try simp only [go_sem, ↓reduceIte, reduceCtorEq, Nat.reduceEqDiff, Nat.reduceLT, Nat.reduceAdd, Nat.reduceMul, Nat.reduceLeDiff, Nat.reduceSub, wide_R, List.length_replicate, TD.pu]
  refine hJ _ ?_
  clear hJ J
  obtain ⟨hl1, hl2, hl3, hl4⟩ := hu.len
  obtain ⟨hw1, hw2⟩ := hu.words
  unfold maxL at hl1 hl2 hl3 hl4
  unfold maxL at hk
  refine wp_seq_k' fun K1 hK1 => ?_
  refine wp_reg' ?_
  iterate 3 (refine @vc_step Fk _ _ _ _ fun J hJ => ?_; simp only [go_sem, ↓reduceIte, reduceCtorEq, Nat.reduceEqDiff, Nat.reduceLT, Nat.reduceAdd, Nat.reduceMul, Nat.reduceLeDiff, Nat.reduceSub, wide_R, List.length_replicate, TD.pu]; refine hJ _ ?_; clear hJ J)
  refine vc_nil ?_
  try simp only [go_sem, ↓reduceIte, reduceCtorEq, Nat.reduceEqDiff, Nat.reduceLT, Nat.reduceAdd, Nat.reduceMul, Nat.reduceLeDiff, Nat.reduceSub, wide_R, List.length_replicate, TD.pu]
  try simp only [go_sem, ↓reduceIte, reduceCtorEq, Nat.reduceEqDiff, Nat.reduceLT, Nat.reduceAdd, Nat.reduceMul, Nat.reduceLeDiff, Nat.reduceSub, wide_R, List.length_replicate, TD.pu]
  refine hK1 _ ?_
  refine wp_seq_k' fun K2 hK2 => ?_
  refine wp_seq_k' fun K3 hK3 => ?_
  refine wp_reg' ?_
  refine @vc_step Fk _ _ _ _ fun J hJ => ?_
  simp only [go_sem, ↓reduceIte, reduceCtorEq, Nat.reduceEqDiff, Nat.reduceLT, Nat.reduceAdd, Nat.reduceMul, Nat.reduceLeDiff, Nat.reduceSub, wide_R, List.length_replicate, TD.pu]
  refine runT_ret awake_ret ?_
  try simp only [go_sem, ↓reduceIte, reduceCtorEq, Nat.reduceEqDiff, Nat.reduceLT, Nat.reduceAdd, Nat.reduceMul, Nat.reduceLeDiff, Nat.reduceSub, wide_R, List.length_replicate, TD.pu]
  refine hJ _ ?_
  clear hJ J
  refine @vc_step Fk _ _ _ _ fun J hJ => ?_
  simp only [go_sem, ↓reduceIte, reduceCtorEq, Nat.reduceEqDiff, Nat.reduceLT, Nat.reduceAdd, Nat.reduceMul, Nat.reduceLeDiff, Nat.reduceSub, wide_R, List.length_replicate, TD.pu]
  refine hJ _ ?_
  clear hJ J
  refine vc_nil ?_
  try simp only [go_sem, ↓reduceIte, reduceCtorEq, Nat.reduceEqDiff, Nat.reduceLT, Nat.reduceAdd, Nat.reduceMul, Nat.reduceLeDiff, Nat.reduceSub, wide_R, List.length_replicate, TD.pu]
  try simp only [go_sem, ↓reduceIte, reduceCtorEq, Nat.reduceEqDiff, Nat.reduceLT, Nat.reduceAdd, Nat.reduceMul, Nat.reduceLeDiff, Nat.reduceSub, wide_R, List.length_replicate, TD.pu]
  refine hK3 _ ?_
  refine wp_cond' rfl (fun hc1 => ?_) (fun hc1 => ?_)
  · skip
    cases hc1
  · skip
    refine wp_skip' ?_
    try simp only [go_sem, ↓reduceIte, reduceCtorEq, Nat.reduceEqDiff, Nat.reduceLT, Nat.reduceAdd, Nat.reduceMul, Nat.reduceLeDiff, Nat.reduceSub, wide_R, List.length_replicate, TD.pu]
    try simp only [go_sem, ↓reduceIte, reduceCtorEq, Nat.reduceEqDiff, Nat.reduceLT, Nat.reduceAdd, Nat.reduceMul, Nat.reduceLeDiff, Nat.reduceSub, wide_R, List.length_replicate, TD.pu]
    refine hK2 _ ?_
    refine wp_seq_k' fun K4 hK4 => ?_
    refine wp_seq_k' fun K5 hK5 => ?_
    refine wp_reg' ?_
    refine vc_merge (K := K5) (ks := [2, 3, 4, 5, 32]) (d := 32) (fun b32 => b32 = false → 6 ≤ n ∧ n ≤ 40) (fun b32 hb32 => ?_) fun M5 hM5 => ?_
    · skip
      try simp only [go_sem, ↓reduceIte, reduceCtorEq, Nat.reduceEqDiff, Nat.reduceLT, Nat.reduceAdd, Nat.reduceMul, Nat.reduceLeDiff, Nat.reduceSub, wide_R, List.length_replicate, TD.pu]
      refine hK5 _ ?_
      refine wp_cond' rfl (fun hc2 => ?_) (fun hc2 => ?_)
      · skip
        try simp only [decide_eq_true_eq, decide_eq_false_iff_not, Bool.not_eq_true', Bool.not_eq_false', beq_iff_eq, bne_iff_ne, beq_eq_false_iff_ne, Int.ofNat_lt, Int.not_lt, Bool.and_eq_true, ne_eq, bne_eq_false_iff_eq] at hc2
        refine wp_seq_k' fun K6 hK6 => ?_
        refine wp_reg' ?_
        refine @vc_step Fk _ _ _ _ fun J hJ => ?_
        simp only [go_sem, ↓reduceIte, reduceCtorEq, Nat.reduceEqDiff, Nat.reduceLT, Nat.reduceAdd, Nat.reduceMul, Nat.reduceLeDiff, Nat.reduceSub, wide_R, List.length_replicate, TD.pu]
        refine hJ _ ?_
        clear hJ J
        refine vc_nil ?_
        try simp only [go_sem, ↓reduceIte, reduceCtorEq, Nat.reduceEqDiff, Nat.reduceLT, Nat.reduceAdd, Nat.reduceMul, Nat.reduceLeDiff, Nat.reduceSub, wide_R, List.length_replicate, TD.pu]
        try simp only [go_sem, ↓reduceIte, reduceCtorEq, Nat.reduceEqDiff, Nat.reduceLT, Nat.reduceAdd, Nat.reduceMul, Nat.reduceLeDiff, Nat.reduceSub, wide_R, List.length_replicate, TD.pu]
        refine hK6 _ ?_
        refine wp_ret' ?_
        try simp only [go_sem, ↓reduceIte, reduceCtorEq, Nat.reduceEqDiff, Nat.reduceLT, Nat.reduceAdd, Nat.reduceMul, Nat.reduceLeDiff, Nat.reduceSub, wide_R, List.length_replicate, TD.pu]
        exact hZ _ _ _ _ (by simp) rfl rfl rfl
      · skip
        try simp only [decide_eq_true_eq, decide_eq_false_iff_not, Bool.not_eq_true', Bool.not_eq_false', beq_iff_eq, bne_iff_ne, beq_eq_false_iff_ne, Int.ofNat_lt, Int.not_lt, Bool.and_eq_true, ne_eq, bne_eq_false_iff_eq] at hc2
        subst hc2
        obtain ⟨q1, q2⟩ := hb32 rfl
        refine wp_skip' ?_
        try simp only [go_sem, ↓reduceIte, reduceCtorEq, Nat.reduceEqDiff, Nat.reduceLT, Nat.reduceAdd, Nat.reduceMul, Nat.reduceLeDiff, Nat.reduceSub, wide_R, List.length_replicate, TD.pu]
        try simp only [go_sem, ↓reduceIte, reduceCtorEq, Nat.reduceEqDiff, Nat.reduceLT, Nat.reduceAdd, Nat.reduceMul, Nat.reduceLeDiff, Nat.reduceSub, wide_R, List.length_replicate, TD.pu]
        refine hK4 _ ?_
        refine wp_seq_k' fun K7 hK7 => ?_
        refine wp_reg' ?_
        refine @vc_step Fk _ _ _ _ fun J hJ => ?_
        simp only [go_sem, ↓reduceIte, reduceCtorEq, Nat.reduceEqDiff, Nat.reduceLT, Nat.reduceAdd, Nat.reduceMul, Nat.reduceLeDiff, Nat.reduceSub, wide_R, List.length_replicate, TD.pu]
        refine hJ _ ?_
        clear hJ J
        refine vc_nil ?_
        try simp only [go_sem, ↓reduceIte, reduceCtorEq, Nat.reduceEqDiff, Nat.reduceLT, Nat.reduceAdd, Nat.reduceMul, Nat.reduceLeDiff, Nat.reduceSub, wide_R, List.length_replicate, TD.pu]
        try simp only [go_sem, ↓reduceIte, reduceCtorEq, Nat.reduceEqDiff, Nat.reduceLT, Nat.reduceAdd, Nat.reduceMul, Nat.reduceLeDiff, Nat.reduceSub, wide_R, List.length_replicate, TD.pu]
        refine hK7 _ ?_
        refine wp_seq_k' fun K8 hK8 => ?_
        refine wp_seq_k' fun K9 hK9 => ?_
        refine wp_reg' ?_
        refine @vc_step Fk _ _ _ _ fun J hJ => ?_
        simp only [go_sem, ↓reduceIte, reduceCtorEq, Nat.reduceEqDiff, Nat.reduceLT, Nat.reduceAdd, Nat.reduceMul, Nat.reduceLeDiff, Nat.reduceSub, wide_R, List.length_replicate, TD.pu]
        refine hJ _ ?_
        clear hJ J
        refine vc_nil ?_
        try simp only [go_sem, ↓reduceIte, reduceCtorEq, Nat.reduceEqDiff, Nat.reduceLT, Nat.reduceAdd, Nat.reduceMul, Nat.reduceLeDiff, Nat.reduceSub, wide_R, List.length_replicate, TD.pu]
        try simp only [go_sem, ↓reduceIte, reduceCtorEq, Nat.reduceEqDiff, Nat.reduceLT, Nat.reduceAdd, Nat.reduceMul, Nat.reduceLeDiff, Nat.reduceSub, wide_R, List.length_replicate, TD.pu]
        refine hK9 _ ?_
        refine wp_block' ?_
        refine wp_forU (ι := Tk × List Nat) (n.toNat) (fun i1 x1 => [(9, .sl (List.replicate i1 x.cs) x1.1), (10, .int .i64 (i1 : Nat))]) (fun i1 x1 => _) (fun i1 x1 => x1.2) (fun i1 x1 => AppOk x1.2 x1.1 i1) (.nil, []) (by rfl) rfl rfl (by exact .nil _ _) fun i1 x1 hi1 hv1 K10 hK10 => ?_
        refine wp_norm fun J hJ => ?_
        try simp only [go_sem, ↓reduceIte, reduceCtorEq, Nat.reduceEqDiff, Nat.reduceLT, Nat.reduceAdd, Nat.reduceMul, Nat.reduceLeDiff, Nat.reduceSub, wide_R, List.length_replicate, TD.pu]
        refine hJ _ ?_
        clear hJ J
        refine wp_seq_k' fun K11 hK11 => ?_
        refine wp_seq_k' fun K12 hK12 => ?_
        refine wp_reg' ?_
        iterate 3 (refine @vc_step Fk _ _ _ _ fun J hJ => ?_; simp only [go_sem, ↓reduceIte, reduceCtorEq, Nat.reduceEqDiff, Nat.reduceLT, Nat.reduceAdd, Nat.reduceMul, Nat.reduceLeDiff, Nat.reduceSub, wide_R, List.length_replicate, TD.pu]; refine hJ _ ?_; clear hJ J)
        refine vc_nil ?_
        try simp only [go_sem, ↓reduceIte, reduceCtorEq, Nat.reduceEqDiff, Nat.reduceLT, Nat.reduceAdd, Nat.reduceMul, Nat.reduceLeDiff, Nat.reduceSub, wide_R, List.length_replicate, TD.pu]
        try simp only [go_sem, ↓reduceIte, reduceCtorEq, Nat.reduceEqDiff, Nat.reduceLT, Nat.reduceAdd, Nat.reduceMul, Nat.reduceLeDiff, Nat.reduceSub, wide_R, List.length_replicate, TD.pu]
        refine hK12 _ ?_
        refine wp_cond' rfl (fun hc3 => ?_) (fun hc3 => ?_)
        · skip
          try simp only [decide_eq_true_eq, decide_eq_false_iff_not, Bool.not_eq_true', Bool.not_eq_false', beq_iff_eq, bne_iff_ne, beq_eq_false_iff_ne, Int.ofNat_lt, Int.not_lt, Bool.and_eq_true, ne_eq, bne_eq_false_iff_eq] at hc3
          have hc3n : i1 < n.toNat := by omega
          refine wp_skip' ?_
          try simp only [go_sem, ↓reduceIte, reduceCtorEq, Nat.reduceEqDiff, Nat.reduceLT, Nat.reduceAdd, Nat.reduceMul, Nat.reduceLeDiff, Nat.reduceSub, wide_R, List.length_replicate, TD.pu, hc3]
          try simp only [go_sem, ↓reduceIte, reduceCtorEq, Nat.reduceEqDiff, Nat.reduceLT, Nat.reduceAdd, Nat.reduceMul, Nat.reduceLeDiff, Nat.reduceSub, wide_R, List.length_replicate, TD.pu, hc3]
          refine hK11 _ ?_
          refine wp_seq_k' fun K13 hK13 => ?_
          refine wp_block' ?_
          refine wp_reg' ?_
          iterate 3 (refine @vc_step Fk _ _ _ _ fun J hJ => ?_; simp only [go_sem, ↓reduceIte, reduceCtorEq, Nat.reduceEqDiff, Nat.reduceLT, Nat.reduceAdd, Nat.reduceMul, Nat.reduceLeDiff, Nat.reduceSub, wide_R, List.length_replicate, TD.pu, hc3]; refine hJ _ ?_; clear hJ J)
          refine @vc_step Fk _ _ _ _ fun J hJ => ?_
          simp only [go_sem, ↓reduceIte, reduceCtorEq, Nat.reduceEqDiff, Nat.reduceLT, Nat.reduceAdd, Nat.reduceMul, Nat.reduceLeDiff, Nat.reduceSub, wide_R, List.length_replicate, TD.pu, hc3]
          obtain ⟨tk2, T2, g1, g2, -⟩ := appTok_ok (k := 1) hv1 (by decide)
          refine ⟨?_, tk2, T2, g1, ?_⟩
          · simp [room]; omega
          refine hJ _ ?_
          clear hJ J
          refine @vc_step Fk _ _ _ _ fun J hJ => ?_
          simp only [go_sem, ↓reduceIte, reduceCtorEq, Nat.reduceEqDiff, Nat.reduceLT, Nat.reduceAdd, Nat.reduceMul, Nat.reduceLeDiff, Nat.reduceSub, wide_R, List.length_replicate, TD.pu, hc3]
          refine hJ _ ?_
          clear hJ J
          refine vc_nil ?_
          try simp only [go_sem, ↓reduceIte, reduceCtorEq, Nat.reduceEqDiff, Nat.reduceLT, Nat.reduceAdd, Nat.reduceMul, Nat.reduceLeDiff, Nat.reduceSub, wide_R, List.length_replicate, TD.pu, hc3]
          try simp only [go_sem, ↓reduceIte, reduceCtorEq, Nat.reduceEqDiff, Nat.reduceLT, Nat.reduceAdd, Nat.reduceMul, Nat.reduceLeDiff, Nat.reduceSub, wide_R, List.length_replicate, TD.pu, hc3]
          refine hK13 _ ?_
          refine wp_reg' ?_
          iterate 3 (refine @vc_step Fk _ _ _ _ fun J hJ => ?_; simp only [go_sem, ↓reduceIte, reduceCtorEq, Nat.reduceEqDiff, Nat.reduceLT, Nat.reduceAdd, Nat.reduceMul, Nat.reduceLeDiff, Nat.reduceSub, wide_R, List.length_replicate, TD.pu, hc3]; refine hJ _ ?_; clear hJ J)
          refine vc_nil ?_
          try simp only [go_sem, ↓reduceIte, reduceCtorEq, Nat.reduceEqDiff, Nat.reduceLT, Nat.reduceAdd, Nat.reduceMul, Nat.reduceLeDiff, Nat.reduceSub, wide_R, List.length_replicate, TD.pu, hc3]
          refine hK10 _ _ _ ⟨hc3n, (tk2, T2), g2, ?_, rfl, rfl⟩
          rw [wrap64 (n := ((i1 : Nat) : Int) + 1) (by omega) (by omega), List.replicate_succ']
          simp only [Ac.cs]
          rfl
        · skip
          try simp only [decide_eq_true_eq, decide_eq_false_iff_not, Bool.not_eq_true', Bool.not_eq_false', beq_iff_eq, bne_iff_ne, beq_eq_false_iff_ne, Int.ofNat_lt, Int.not_lt, Bool.and_eq_true, ne_eq, bne_eq_false_iff_eq] at hc3
          have hn : i1 = n.toNat := by omega
          subst hn
          refine wp_exit' ?_
          try simp only [go_sem, ↓reduceIte, reduceCtorEq, Nat.reduceEqDiff, Nat.reduceLT, Nat.reduceAdd, Nat.reduceMul, Nat.reduceLeDiff, Nat.reduceSub, wide_R, List.length_replicate, TD.pu]
          try simp only [go_sem, ↓reduceIte, reduceCtorEq, Nat.reduceEqDiff, Nat.reduceLT, Nat.reduceAdd, Nat.reduceMul, Nat.reduceLeDiff, Nat.reduceSub, wide_R, List.length_replicate, TD.pu]
          refine hK8 _ ?_
          refine wp_seq_k' fun K14 hK14 => ?_
          refine wp_reg' ?_
          iterate 2 (refine @vc_step Fk _ _ _ _ fun J hJ => ?_; simp only [go_sem, ↓reduceIte, reduceCtorEq, Nat.reduceEqDiff, Nat.reduceLT, Nat.reduceAdd, Nat.reduceMul, Nat.reduceLeDiff, Nat.reduceSub, wide_R, List.length_replicate, TD.pu]; refine hJ _ ?_; clear hJ J)
          have hlen : 5 < (List.replicate n.toNat x.cs).length := by simp; omega
          refine @vc_step Fk _ _ _ _ fun J hJ => ?_
          simp only [go_sem, ↓reduceIte, reduceCtorEq, Nat.reduceEqDiff, Nat.reduceLT, Nat.reduceAdd, Nat.reduceMul, Nat.reduceLeDiff, Nat.reduceSub, wide_R, List.length_replicate, TD.pu]
          refine min_many_call hlen ?_
          try simp only [go_sem, ↓reduceIte, reduceCtorEq, Nat.reduceEqDiff, Nat.reduceLT, Nat.reduceAdd, Nat.reduceMul, Nat.reduceLeDiff, Nat.reduceSub, wide_R, List.length_replicate, TD.pu]
          refine hJ _ ?_
          clear hJ J
          iterate 5 (refine @vc_step Fk _ _ _ _ fun J hJ => ?_; simp only [go_sem, ↓reduceIte, reduceCtorEq, Nat.reduceEqDiff, Nat.reduceLT, Nat.reduceAdd, Nat.reduceMul, Nat.reduceLeDiff, Nat.reduceSub, wide_R, List.length_replicate, TD.pu]; refine hJ _ ?_; clear hJ J)
          refine vc_nil ?_
          try simp only [go_sem, ↓reduceIte, reduceCtorEq, Nat.reduceEqDiff, Nat.reduceLT, Nat.reduceAdd, Nat.reduceMul, Nat.reduceLeDiff, Nat.reduceSub, wide_R, List.length_replicate, TD.pu]
          try simp only [go_sem, ↓reduceIte, reduceCtorEq, Nat.reduceEqDiff, Nat.reduceLT, Nat.reduceAdd, Nat.reduceMul, Nat.reduceLeDiff, Nat.reduceSub, wide_R, List.length_replicate, TD.pu]
          refine hK14 _ ?_
          refine wp_seq_k' fun K15 hK15 => ?_
          refine wp_reg' ?_
          refine vc_merge (K := K15) (ks := [8]) (d := 8) (fun b8 => b8 = true) (fun b8 hb8 => ?_) fun M15 hM15 => ?_
          · skip
            try simp only [go_sem, ↓reduceIte, reduceCtorEq, Nat.reduceEqDiff, Nat.reduceLT, Nat.reduceAdd, Nat.reduceMul, Nat.reduceLeDiff, Nat.reduceSub, wide_R, List.length_replicate, TD.pu]
            refine hK15 _ ?_
            subst hb8
            refine wp_ret' ?_
            try simp only [go_sem, ↓reduceIte, reduceCtorEq, Nat.reduceEqDiff, Nat.reduceLT, Nat.reduceAdd, Nat.reduceMul, Nat.reduceLeDiff, Nat.reduceSub, wide_R, List.length_replicate, TD.pu]
            exact hZ _ _ _ _ (by simp) rfl rfl rfl
          · skip
            iterate 11 (refine @vc_step Fk _ _ _ _ fun J hJ => ?_; simp only [go_sem, ↓reduceIte, reduceCtorEq, Nat.reduceEqDiff, Nat.reduceLT, Nat.reduceAdd, Nat.reduceMul, Nat.reduceLeDiff, Nat.reduceSub, wide_R, List.length_replicate, TD.pu]; refine hJ _ ?_; clear hJ J)
            refine @vc_step Fk _ _ _ _ fun J hJ => ?_
            simp only [go_sem, ↓reduceIte, reduceCtorEq, Nat.reduceEqDiff, Nat.reduceLT, Nat.reduceAdd, Nat.reduceMul, Nat.reduceLeDiff, Nat.reduceSub, wide_R, List.length_replicate, TD.pu]
            refine suf_many_call hlen ?_
            try simp only [go_sem, ↓reduceIte, reduceCtorEq, Nat.reduceEqDiff, Nat.reduceLT, Nat.reduceAdd, Nat.reduceMul, Nat.reduceLeDiff, Nat.reduceSub, wide_R, List.length_replicate, TD.pu]
            refine hJ _ ?_
            clear hJ J
            iterate 5 (refine @vc_step Fk _ _ _ _ fun J hJ => ?_; simp only [go_sem, ↓reduceIte, reduceCtorEq, Nat.reduceEqDiff, Nat.reduceLT, Nat.reduceAdd, Nat.reduceMul, Nat.reduceLeDiff, Nat.reduceSub, wide_R, List.length_replicate, TD.pu]; refine hJ _ ?_; clear hJ J)
            refine @vc_step Fk _ _ _ _ fun J hJ => ?_
            simp only [go_sem, ↓reduceIte, reduceCtorEq, Nat.reduceEqDiff, Nat.reduceLT, Nat.reduceAdd, Nat.reduceMul, Nat.reduceLeDiff, Nat.reduceSub, wide_R, List.length_replicate, TD.pu]
            refine cnt_many_call hlen ?_
            try simp only [go_sem, ↓reduceIte, reduceCtorEq, Nat.reduceEqDiff, Nat.reduceLT, Nat.reduceAdd, Nat.reduceMul, Nat.reduceLeDiff, Nat.reduceSub, wide_R, List.length_replicate, TD.pu]
            refine hJ _ ?_
            clear hJ J
            iterate 6 (refine @vc_step Fk _ _ _ _ fun J hJ => ?_; simp only [go_sem, ↓reduceIte, reduceCtorEq, Nat.reduceEqDiff, Nat.reduceLT, Nat.reduceAdd, Nat.reduceMul, Nat.reduceLeDiff, Nat.reduceSub, wide_R, List.length_replicate, TD.pu]; refine hJ _ ?_; clear hJ J)
            have en : n = ((n.toNat : Nat) : Int) := by omega
            refine @vc_step Fk _ _ _ _ fun J hJ => ?_
            simp only [go_sem, ↓reduceIte, reduceCtorEq, Nat.reduceEqDiff, Nat.reduceLT, Nat.reduceAdd, Nat.reduceMul, Nat.reduceLeDiff, Nat.reduceSub, wide_R, List.length_replicate, TD.pu]
            obtain ⟨_, rfl, hgv⟩ := given38 n.toNat (by omega) (by omega)
            rw [← en] at hgv
            refine runT_ret hgv ?_
            try simp only [go_sem, ↓reduceIte, reduceCtorEq, Nat.reduceEqDiff, Nat.reduceLT, Nat.reduceAdd, Nat.reduceMul, Nat.reduceLeDiff, Nat.reduceSub, wide_R, List.length_replicate, TD.pu]
            refine hJ _ ?_
            clear hJ J
            refine @vc_step Fk _ _ _ _ fun J hJ => ?_
            simp only [go_sem, ↓reduceIte, reduceCtorEq, Nat.reduceEqDiff, Nat.reduceLT, Nat.reduceAdd, Nat.reduceMul, Nat.reduceLeDiff, Nat.reduceSub, wide_R, List.length_replicate, TD.pu]
            refine runT_ret (orders_many n q1 q2 _ _) ?_
            try simp only [go_sem, ↓reduceIte, reduceCtorEq, Nat.reduceEqDiff, Nat.reduceLT, Nat.reduceAdd, Nat.reduceMul, Nat.reduceLeDiff, Nat.reduceSub, wide_R, List.length_replicate, TD.pu]
            refine hJ _ ?_
            clear hJ J
            iterate 4 (refine @vc_step Fk _ _ _ _ fun J hJ => ?_; simp only [go_sem, ↓reduceIte, reduceCtorEq, Nat.reduceEqDiff, Nat.reduceLT, Nat.reduceAdd, Nat.reduceMul, Nat.reduceLeDiff, Nat.reduceSub, wide_R, List.length_replicate, TD.pu]; refine hJ _ ?_; clear hJ J)
            refine vc_nil ?_
            exact hM15 _ _ (rfl) rfl
    · skip
      iterate 3 (refine @vc_step Fk _ _ _ _ fun J hJ => ?_; simp only [go_sem, ↓reduceIte, reduceCtorEq, Nat.reduceEqDiff, Nat.reduceLT, Nat.reduceAdd, Nat.reduceMul, Nat.reduceLeDiff, Nat.reduceSub, wide_R, List.length_replicate, TD.pu]; refine hJ _ ?_; clear hJ J)
      refine @vc_step Fk _ _ _ _ fun J hJ => ?_
      simp only [go_sem, ↓reduceIte, reduceCtorEq, Nat.reduceEqDiff, Nat.reduceLT, Nat.reduceAdd, Nat.reduceMul, Nat.reduceLeDiff, Nat.reduceSub, wide_R, List.length_replicate, TD.pu]
      obtain ⟨_, ⟨b1, rfl⟩, hfw⟩ := few38 u .full [x] 1 hu (by simp [maxL]) (by simpa using hx)
      simp only [Un.cs_eq, Ac.cs, List.map] at hfw
      refine runT_ret hfw ?_
      try simp only [go_sem, ↓reduceIte, reduceCtorEq, Nat.reduceEqDiff, Nat.reduceLT, Nat.reduceAdd, Nat.reduceMul, Nat.reduceLeDiff, Nat.reduceSub, wide_R, List.length_replicate, TD.pu]
      refine hJ _ ?_
      clear hJ J
      iterate 2 (refine @vc_step Fk _ _ _ _ fun J hJ => ?_; simp only [go_sem, ↓reduceIte, reduceCtorEq, Nat.reduceEqDiff, Nat.reduceLT, Nat.reduceAdd, Nat.reduceMul, Nat.reduceLeDiff, Nat.reduceSub, wide_R, List.length_replicate, TD.pu]; refine hJ _ ?_; clear hJ J)
      refine @vc_gd Fk _ _ _ _ 20 (by rfl) (fun hg1 => ?_) (fun hg1 => ?_)
      · skip
        have hg1n := hg1
        try simp only [decide_eq_true_eq, decide_eq_false_iff_not, Bool.not_eq_true', Bool.not_eq_false', beq_iff_eq, bne_iff_ne, beq_eq_false_iff_ne, Int.ofNat_lt, Int.not_lt, Bool.and_eq_true, ne_eq, bne_eq_false_iff_eq] at hg1n
        iterate 12 (refine @vc_step Fk _ _ _ _ fun J hJ => ?_; simp only [go_sem, ↓reduceIte, reduceCtorEq, Nat.reduceEqDiff, Nat.reduceLT, Nat.reduceAdd, Nat.reduceMul, Nat.reduceLeDiff, Nat.reduceSub, wide_R, List.length_replicate, TD.pu, hg1, hg1n]; refine hJ _ ?_; clear hJ J)
        refine vc_nil ?_
        exact hM5 _ _ (fun q => (by cases q)) rfl
      · skip
        have hg1n := hg1
        try simp only [decide_eq_true_eq, decide_eq_false_iff_not, Bool.not_eq_true', Bool.not_eq_false', beq_iff_eq, bne_iff_ne, beq_eq_false_iff_ne, Int.ofNat_lt, Int.not_lt, Bool.and_eq_true, ne_eq, bne_eq_false_iff_eq] at hg1n
        iterate 4 (refine @vc_step Fk _ _ _ _ fun J hJ => ?_; simp only [go_sem, ↓reduceIte, reduceCtorEq, Nat.reduceEqDiff, Nat.reduceLT, Nat.reduceAdd, Nat.reduceMul, Nat.reduceLeDiff, Nat.reduceSub, wide_R, List.length_replicate, TD.pu, hg1, hg1n]; refine hJ _ ?_; clear hJ J)
        refine @vc_gd Fk _ _ _ _ 24 (by rfl) (fun hg2 => ?_) (fun hg2 => ?_)
        · skip
          have hg2n := hg2
          try simp only [decide_eq_true_eq, decide_eq_false_iff_not, Bool.not_eq_true', Bool.not_eq_false', beq_iff_eq, bne_iff_ne, beq_eq_false_iff_ne, Int.ofNat_lt, Int.not_lt, Bool.and_eq_true, ne_eq, bne_eq_false_iff_eq] at hg2n
          iterate 8 (refine @vc_step Fk _ _ _ _ fun J hJ => ?_; simp only [go_sem, ↓reduceIte, reduceCtorEq, Nat.reduceEqDiff, Nat.reduceLT, Nat.reduceAdd, Nat.reduceMul, Nat.reduceLeDiff, Nat.reduceSub, wide_R, List.length_replicate, TD.pu, hg1, hg1n, hg2, hg2n]; refine hJ _ ?_; clear hJ J)
          refine vc_nil ?_
          exact hM5 _ _ (fun q => (by cases q)) rfl
        · skip
          have hg2n := hg2
          try simp only [decide_eq_true_eq, decide_eq_false_iff_not, Bool.not_eq_true', Bool.not_eq_false', beq_iff_eq, bne_iff_ne, beq_eq_false_iff_ne, Int.ofNat_lt, Int.not_lt, Bool.and_eq_true, ne_eq, bne_eq_false_iff_eq] at hg2n
          iterate 4 (refine @vc_step Fk _ _ _ _ fun J hJ => ?_; simp only [go_sem, ↓reduceIte, reduceCtorEq, Nat.reduceEqDiff, Nat.reduceLT, Nat.reduceAdd, Nat.reduceMul, Nat.reduceLeDiff, Nat.reduceSub, wide_R, List.length_replicate, TD.pu, hg1, hg1n, hg2, hg2n]; refine hJ _ ?_; clear hJ J)
          refine @vc_gd Fk _ _ _ _ 28 (by rfl) (fun hg3 => ?_) (fun hg3 => ?_)
          · skip
            have hg3n := hg3
            try simp only [decide_eq_true_eq, decide_eq_false_iff_not, Bool.not_eq_true', Bool.not_eq_false', beq_iff_eq, bne_iff_ne, beq_eq_false_iff_ne, Int.ofNat_lt, Int.not_lt, Bool.and_eq_true, ne_eq, bne_eq_false_iff_eq] at hg3n
            iterate 4 (refine @vc_step Fk _ _ _ _ fun J hJ => ?_; simp only [go_sem, ↓reduceIte, reduceCtorEq, Nat.reduceEqDiff, Nat.reduceLT, Nat.reduceAdd, Nat.reduceMul, Nat.reduceLeDiff, Nat.reduceSub, wide_R, List.length_replicate, TD.pu, hg1, hg1n, hg2, hg2n, hg3, hg3n]; refine hJ _ ?_; clear hJ J)
            refine vc_nil ?_
            exact hM5 _ _ (fun q => (by cases q)) rfl
          · skip
            have hg3n := hg3
            try simp only [decide_eq_true_eq, decide_eq_false_iff_not, Bool.not_eq_true', Bool.not_eq_false', beq_iff_eq, bne_iff_ne, beq_eq_false_iff_ne, Int.ofNat_lt, Int.not_lt, Bool.and_eq_true, ne_eq, bne_eq_false_iff_eq] at hg3n
            iterate 4 (refine @vc_step Fk _ _ _ _ fun J hJ => ?_; simp only [go_sem, ↓reduceIte, reduceCtorEq, Nat.reduceEqDiff, Nat.reduceLT, Nat.reduceAdd, Nat.reduceMul, Nat.reduceLeDiff, Nat.reduceSub, wide_R, List.length_replicate, TD.pu, hg1, hg1n, hg2, hg2n, hg3, hg3n]; refine hJ _ ?_; clear hJ J)
            refine vc_nil ?_
            exact hM5 _ _ (fun _ => ⟨by omega, by omega⟩) rfl
theorem limit_call {u : Un} {x : Ac} {n : Int} {ks : List Int} {t : TD} (hu : u.Ok) (hx : x.Ok) (hk : ks.length ≤ maxL) {H : List AO} {T : List Nat} {Q : Av → List AO → List Nat → Prop} (hq : Q (.bool true) H T) : RunT Fk (.fn n_pandectlaw38_OrdersetLimit) [.agg [.int .i64 u.a, .int .i64 u.b, .int .i64 u.c, .int .i64 u.kind, .str u.label, .sl (u.head.map Wd.cs) u.t1.tk, .sl (u.words.map Wd.cs) u.t2.tk, .sl (u.kids.map Un.cs) u.t3.tk], .agg [.int .i64 x.num, .str x.title, .int .i64 x.day, .int .i64 x.sk, .int .i64 x.sd, .str x.se, .sl (x.items.map It.cs) x.t.tk], .int .i64 n, .sl (ks.map intC) t.tk] H T Q := by
  obtain ⟨_, rfl, hr⟩ := limit _ _ _ _ _ hu hx hk
  simp only [Un.cs_eq, It.cs_eq, Ac.cs] at hr
  exact runT_ret hr (hq )

end Go.Am
