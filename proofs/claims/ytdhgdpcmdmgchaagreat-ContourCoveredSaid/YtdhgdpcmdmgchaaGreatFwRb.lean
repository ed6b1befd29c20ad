/- Contracts: the reference's integers. Conditions: none. -/
import Derived.Test.YtdhgdpcmdmgchaaGreatFwRa
namespace Go.Proofs.YtdhgdpcmdmgchaaGreat.Fw
open Go Go.Proofs
set_option linter.unusedSimpArgs false
set_option linter.unusedVariables false
set_option maxHeartbeats 2000000
set_option maxRecDepth 10000

theorem fFromInt64_ok (n : Int) (hn : -9223372036854775808 ≤ n ∧ n ≤ 9223372036854775807) : Ok Tryz.prog 43 [.lf (.int .i64 n)] ⟨[.ag (eZ n)], []⟩ := by
  have e : ∀ x : Int, IntKind.u64.wrap x = x % 18446744073709551616 := fun x => by simp [IntKind.wrap, IntKind.bits, IntKind.signed]
  have e1 : n < 0 → IntKind.u64.wrap (0 - IntKind.u64.wrap n) = ((n.natAbs : Nat) : Int) := fun h => by
    rw [e, e]; omega
  have e2 : ¬ n < 0 → IntKind.u64.wrap n = ((n.natAbs : Nat) : Int) := fun h => by
    rw [wrap_u64 (by omega)]; omega
  have hl : nd n.natAbs ≤ 3 := nd_le (by simp only [Bs]; omega)
  refine ok_of_V (T := Tb) tb_ok mo Tryz.func43 rfl (by kernel_rfl) (by kernel_rfl) (by simp [Tryz.ntmps43, mts]) ?_
  simp (maxSteps := 4000000) (dsimp := false) (disch := omega) only [go_sem, eZ, ↓reduceIte, Nat.reduceEqDiff, Nat.reduceMul, Nat.reduceAdd, Nat.reduceSub, Nat.reduceLT, Nat.reduceLeDiff, Nat.reduceBEq, reduceCtorEq, Int.reduceToNat, Int.reduceEq, Int.reduceLT, Int.reduceLE, Int.reduceNeg, Int.reduceSub, Int.reduceAdd, Int.reduceMul, Tryz.results43]
  refine ⟨fun h => ?_, fun h => ?_⟩
  · simp only [e1 h]
    refine callK (flimbs_ok _ (by omega)) ?_
    simp (maxSteps := 4000000) (dsimp := false) (disch := omega) only [go_sem, eZ, ↓reduceIte, Nat.reduceEqDiff, Nat.reduceMul, Nat.reduceAdd, Nat.reduceSub, Nat.reduceLT, Nat.reduceLeDiff, Nat.reduceBEq, reduceCtorEq, Int.reduceToNat, Int.reduceEq, Int.reduceLT, Int.reduceLE, Int.reduceNeg, Int.reduceSub, Int.reduceAdd, Int.reduceMul, Tryz.results43]
    refine callK (fsigned_ok true _ _ (nd_lt _) (by omega)) ?_
    rw [if_pos rfl, show -((n.natAbs : Nat) : Int) = n by omega]
    simp (maxSteps := 4000000) (dsimp := false) (disch := omega) only [go_sem, eZ, ↓reduceIte, Nat.reduceEqDiff, Nat.reduceMul, Nat.reduceAdd, Nat.reduceSub, Nat.reduceLT, Nat.reduceLeDiff, Nat.reduceBEq, reduceCtorEq, Int.reduceToNat, Int.reduceEq, Int.reduceLT, Int.reduceLE, Int.reduceNeg, Int.reduceSub, Int.reduceAdd, Int.reduceMul, Tryz.results43]
  · simp only [e2 h]
    refine callK (flimbs_ok _ (by omega)) ?_
    simp (maxSteps := 4000000) (dsimp := false) (disch := omega) only [go_sem, eZ, ↓reduceIte, Nat.reduceEqDiff, Nat.reduceMul, Nat.reduceAdd, Nat.reduceSub, Nat.reduceLT, Nat.reduceLeDiff, Nat.reduceBEq, reduceCtorEq, Int.reduceToNat, Int.reduceEq, Int.reduceLT, Int.reduceLE, Int.reduceNeg, Int.reduceSub, Int.reduceAdd, Int.reduceMul, Tryz.results43]
    refine callK (fsigned_ok false _ _ (nd_lt _) (by omega)) ?_
    rw [if_neg (by simp), show ((n.natAbs : Nat) : Int) = n by omega]
    simp (maxSteps := 4000000) (dsimp := false) (disch := omega) only [go_sem, eZ, ↓reduceIte, Nat.reduceEqDiff, Nat.reduceMul, Nat.reduceAdd, Nat.reduceSub, Nat.reduceLT, Nat.reduceLeDiff, Nat.reduceBEq, reduceCtorEq, Int.reduceToNat, Int.reduceEq, Int.reduceLT, Int.reduceLE, Int.reduceNeg, Int.reduceSub, Int.reduceAdd, Int.reduceMul, Tryz.results43]

theorem fSign_ok (x : Int) : Ok Tryz.prog 50 [.ag (eZ x)] ⟨[.lf (.int .i64 x.sign)], []⟩ := by
  refine ok_of_V (T := Tb) tb_ok mo Tryz.func50 rfl (by kernel_rfl) (by kernel_rfl) (by simp [Tryz.ntmps50, mts]) ?_
  simp (maxSteps := 4000000) (dsimp := false) (disch := omega) only [go_sem, eZ, ↓reduceIte, Nat.reduceEqDiff, Nat.reduceMul, Nat.reduceAdd, Nat.reduceSub, Nat.reduceLT, Nat.reduceLeDiff, Nat.reduceBEq, reduceCtorEq, Int.reduceToNat, Int.reduceEq, Int.reduceLT, Int.reduceLE, Int.reduceNeg, Int.reduceSub, Int.reduceAdd, Int.reduceMul, Tryz.results50]
  have hz := nd_eq_zero (m := x.natAbs)
  refine ⟨fun h => ?_, fun h => ⟨fun h1 => ?_, fun h1 => ?_⟩⟩
  · obtain rfl : x = 0 := by omega
    rfl
  · exact (Int.sign_eq_neg_one_of_neg (by omega)).symm
  · exact (Int.sign_eq_one_of_pos (by omega)).symm

theorem fNeg_ok (a : Int) (ha : lz a < 2 ^ 38) : Ok Tryz.prog 103 [.ag (eZ a)] ⟨[.ag (eZ (-a))], []⟩ := by
  unfold lz at ha
  refine ok_of_V (T := Tb) tb_ok mo Tryz.func103 rfl (by kernel_rfl) (by kernel_rfl) (by simp [Tryz.ntmps103, mts]) ?_
  simp (maxSteps := 4000000) (dsimp := false) (disch := omega) only [go_sem, eZ, ↓reduceIte, Nat.reduceEqDiff, Nat.reduceMul, Nat.reduceAdd, Nat.reduceSub, Nat.reduceLT, Nat.reduceLeDiff, Nat.reduceBEq, reduceCtorEq, Int.reduceToNat, Int.reduceEq, Int.reduceLT, Int.reduceLE, Int.reduceNeg, Int.reduceSub, Int.reduceAdd, Int.reduceMul, Tryz.results103]
  refine callK (fsigned_ok _ a.natAbs _ (nd_lt _) (by omega)) ?_
  rw [show (if (!decide (a < 0)) = true then -((a.natAbs : Nat) : Int) else ((a.natAbs : Nat) : Int)) = -a by
    by_cases h1 : a < 0
    · simp only [h1, decide_true, Bool.not_true, Bool.false_eq_true, if_false]; omega
    · simp only [h1, decide_false, Bool.not_false, if_true]; omega]
  simp (maxSteps := 4000000) (dsimp := false) (disch := omega) only [go_sem, eZ, ↓reduceIte, Nat.reduceEqDiff, Nat.reduceMul, Nat.reduceAdd, Nat.reduceSub, Nat.reduceLT, Nat.reduceLeDiff, Nat.reduceBEq, reduceCtorEq, Int.reduceToNat, Int.reduceEq, Int.reduceLT, Int.reduceLE, Int.reduceNeg, Int.reduceSub, Int.reduceAdd, Int.reduceMul, Tryz.results103]

theorem fMul_ok (a b : Int) (ha : lz a < 2 ^ 38) (hb : lz b < 2 ^ 38) : Ok Tryz.prog 49 [.ag (eZ a), .ag (eZ b)] ⟨[.ag (eZ (a * b))], []⟩ := by
  unfold lz at ha hb
  have hl : nd (a.natAbs * b.natAbs) ≤ nd a.natAbs + nd b.natAbs := nd_le (by rw [Nat.pow_add]; exact Nat.mul_lt_mul'' (nd_lt _) (nd_lt _))
  refine ok_of_V (T := Tb) tb_ok mo Tryz.func49 rfl (by kernel_rfl) (by kernel_rfl) (by simp [Tryz.ntmps49, mts]) ?_
  simp (maxSteps := 4000000) (dsimp := false) (disch := omega) only [go_sem, eZ, ↓reduceIte, Nat.reduceEqDiff, Nat.reduceMul, Nat.reduceAdd, Nat.reduceSub, Nat.reduceLT, Nat.reduceLeDiff, Nat.reduceBEq, reduceCtorEq, Int.reduceToNat, Int.reduceEq, Int.reduceLT, Int.reduceLE, Int.reduceNeg, Int.reduceSub, Int.reduceAdd, Int.reduceMul, Tryz.results49]
  refine callK (ftimes_ok a.natAbs b.natAbs _ _ (nd_lt _) (by omega) (nd_lt _) (by omega)) ?_
  simp (maxSteps := 4000000) (dsimp := false) (disch := omega) only [go_sem, eZ, ↓reduceIte, Nat.reduceEqDiff, Nat.reduceMul, Nat.reduceAdd, Nat.reduceSub, Nat.reduceLT, Nat.reduceLeDiff, Nat.reduceBEq, reduceCtorEq, Int.reduceToNat, Int.reduceEq, Int.reduceLT, Int.reduceLE, Int.reduceNeg, Int.reduceSub, Int.reduceAdd, Int.reduceMul, Tryz.results49]
  refine callK (fsigned_ok _ (a.natAbs * b.natAbs) _ (nd_lt _) (by omega)) ?_
  rw [mul_sg]
  simp (maxSteps := 4000000) (dsimp := false) (disch := omega) only [go_sem, eZ, ↓reduceIte, Nat.reduceEqDiff, Nat.reduceMul, Nat.reduceAdd, Nat.reduceSub, Nat.reduceLT, Nat.reduceLeDiff, Nat.reduceBEq, reduceCtorEq, Int.reduceToNat, Int.reduceEq, Int.reduceLT, Int.reduceLE, Int.reduceNeg, Int.reduceSub, Int.reduceAdd, Int.reduceMul, Tryz.results49]

theorem fminus_ok' (m n k j : Nat) (h : n ≤ m) (hm : m < Bs ^ k) (hk : k < 2 ^ 40) (hn : n < Bs ^ j) (hj : j < 2 ^ 40) : Ok Tryz.prog 98 [.lf (.sl 1 k (du m k)), .lf (.sl 1 j (du n j))] ⟨[.lf (.sl 1 (nd (m - n)) (du (m - n) (nd (m - n))))], []⟩ := by
  have e : m - n + n = m := by omega
  have := fminus_ok (m - n) n k j (by rw [e]; exact hm) hk hn hj
  rwa [e] at this

theorem nd_sub (m n : Nat) : nd (m - n) ≤ nd m := nd_le (Nat.lt_of_le_of_lt (Nat.sub_le _ _) (nd_lt _))

theorem fAdd_ok (a b : Int) (ha : lz a < 2 ^ 38) (hb : lz b < 2 ^ 38) : Ok Tryz.prog 105 [.ag (eZ a), .ag (eZ b)] ⟨[.ag (eZ (a + b))], []⟩ := by
  unfold lz at ha hb
  have hl : nd (a.natAbs + b.natAbs) ≤ max (nd a.natAbs) (nd b.natAbs) + 1 := nd_le (by
    have h1 := Nat.lt_of_lt_of_le (nd_lt a.natAbs) (Nat.pow_le_pow_right Bs_pos (Nat.le_max_left (nd a.natAbs) (nd b.natAbs)))
    have h2 := Nat.lt_of_lt_of_le (nd_lt b.natAbs) (Nat.pow_le_pow_right Bs_pos (Nat.le_max_right (nd a.natAbs) (nd b.natAbs)))
    rw [Nat.pow_succ]; simp only [Bs] at *; omega)
  have l1 := nd_sub a.natAbs b.natAbs
  have l2 := nd_sub b.natAbs a.natAbs
  refine ok_of_V (T := Tb) tb_ok mo Tryz.func105 rfl (by kernel_rfl) (by kernel_rfl) (by simp [Tryz.ntmps105, mts]) ?_
  simp (maxSteps := 4000000) (dsimp := false) (disch := omega) only [go_sem, eZ, ↓reduceIte, Nat.reduceEqDiff, Nat.reduceMul, Nat.reduceAdd, Nat.reduceSub, Nat.reduceLT, Nat.reduceLeDiff, Nat.reduceBEq, reduceCtorEq, Int.reduceToNat, Int.reduceEq, Int.reduceLT, Int.reduceLE, Int.reduceNeg, Int.reduceSub, Int.reduceAdd, Int.reduceMul, Tryz.results105]
  refine ⟨fun h => ?_, fun h => ?_⟩
  · refine callK (fplus_ok a.natAbs _ b.natAbs _ (nd_lt _) (by omega) (nd_lt _) (by omega)) ?_
    simp (maxSteps := 4000000) (dsimp := false) (disch := omega) only [go_sem, eZ, ↓reduceIte, Nat.reduceEqDiff, Nat.reduceMul, Nat.reduceAdd, Nat.reduceSub, Nat.reduceLT, Nat.reduceLeDiff, Nat.reduceBEq, reduceCtorEq, Int.reduceToNat, Int.reduceEq, Int.reduceLT, Int.reduceLE, Int.reduceNeg, Int.reduceSub, Int.reduceAdd, Int.reduceMul, Tryz.results105]
    refine callK (fsigned_ok _ (a.natAbs + b.natAbs) _ (nd_lt _) (by omega)) ?_
    rw [show (if decide (a < 0) = true then -((a.natAbs + b.natAbs : Nat) : Int) else ((a.natAbs + b.natAbs : Nat) : Int)) = a + b by
      by_cases h1 : a < 0
      · have : b < 0 := by simpa [h1] using h
        simp only [h1, decide_true, if_true]; omega
      · have : ¬ b < 0 := by simpa [h1] using h
        simp only [h1, decide_false, Bool.false_eq_true, if_false]; omega]
    simp (maxSteps := 4000000) (dsimp := false) (disch := omega) only [go_sem, eZ, ↓reduceIte, Nat.reduceEqDiff, Nat.reduceMul, Nat.reduceAdd, Nat.reduceSub, Nat.reduceLT, Nat.reduceLeDiff, Nat.reduceBEq, reduceCtorEq, Int.reduceToNat, Int.reduceEq, Int.reduceLT, Int.reduceLE, Int.reduceNeg, Int.reduceSub, Int.reduceAdd, Int.reduceMul, Tryz.results105]
  · refine callK (fcompare_ok a.natAbs b.natAbs (by omega) (by omega)) ?_
    simp (maxSteps := 4000000) (dsimp := false) (disch := omega) only [go_sem, eZ, ↓reduceIte, Nat.reduceEqDiff, Nat.reduceMul, Nat.reduceAdd, Nat.reduceSub, Nat.reduceLT, Nat.reduceLeDiff, Nat.reduceBEq, reduceCtorEq, Int.reduceToNat, Int.reduceEq, Int.reduceLT, Int.reduceLE, Int.reduceNeg, Int.reduceSub, Int.reduceAdd, Int.reduceMul, Tryz.results105]
    refine ⟨fun h0 => ?_, fun h0 => ?_⟩
    · have hlt : b.natAbs ≤ a.natAbs := by
        by_cases hh : a.natAbs < b.natAbs
        · simp [cmpN, hh] at h0
        · omega
      refine callK (fminus_ok' a.natAbs b.natAbs _ _ (by omega) (nd_lt _) (by omega) (nd_lt _) (by omega)) ?_
      simp (maxSteps := 4000000) (dsimp := false) (disch := omega) only [go_sem, eZ, ↓reduceIte, Nat.reduceEqDiff, Nat.reduceMul, Nat.reduceAdd, Nat.reduceSub, Nat.reduceLT, Nat.reduceLeDiff, Nat.reduceBEq, reduceCtorEq, Int.reduceToNat, Int.reduceEq, Int.reduceLT, Int.reduceLE, Int.reduceNeg, Int.reduceSub, Int.reduceAdd, Int.reduceMul, Tryz.results105]
      refine callK (fsigned_ok _ (a.natAbs - b.natAbs) _ (nd_lt _) (by omega)) ?_
      rw [show (if decide (a < 0) = true then -((a.natAbs - b.natAbs : Nat) : Int) else ((a.natAbs - b.natAbs : Nat) : Int)) = a + b by
        by_cases h1 : a < 0
        · have : ¬ b < 0 := by simpa [h1] using h
          simp only [h1, decide_true, if_true]; omega
        · have : b < 0 := by simpa [h1] using h
          simp only [h1, decide_false, Bool.false_eq_true, if_false]; omega]
      simp (maxSteps := 4000000) (dsimp := false) (disch := omega) only [go_sem, eZ, ↓reduceIte, Nat.reduceEqDiff, Nat.reduceMul, Nat.reduceAdd, Nat.reduceSub, Nat.reduceLT, Nat.reduceLeDiff, Nat.reduceBEq, reduceCtorEq, Int.reduceToNat, Int.reduceEq, Int.reduceLT, Int.reduceLE, Int.reduceNeg, Int.reduceSub, Int.reduceAdd, Int.reduceMul, Tryz.results105]
    · have hlt : a.natAbs < b.natAbs := by unfold cmpN at h0; split at h0; assumption; split at h0 <;> omega
      refine callK (fminus_ok' b.natAbs a.natAbs _ _ (by omega) (nd_lt _) (by omega) (nd_lt _) (by omega)) ?_
      simp (maxSteps := 4000000) (dsimp := false) (disch := omega) only [go_sem, eZ, ↓reduceIte, Nat.reduceEqDiff, Nat.reduceMul, Nat.reduceAdd, Nat.reduceSub, Nat.reduceLT, Nat.reduceLeDiff, Nat.reduceBEq, reduceCtorEq, Int.reduceToNat, Int.reduceEq, Int.reduceLT, Int.reduceLE, Int.reduceNeg, Int.reduceSub, Int.reduceAdd, Int.reduceMul, Tryz.results105]
      refine callK (fsigned_ok _ (b.natAbs - a.natAbs) _ (nd_lt _) (by omega)) ?_
      rw [show (if decide (b < 0) = true then -((b.natAbs - a.natAbs : Nat) : Int) else ((b.natAbs - a.natAbs : Nat) : Int)) = a + b by
        by_cases h1 : b < 0
        · have : ¬ a < 0 := by simpa [h1] using h
          simp only [h1, decide_true, if_true]; omega
        · have : a < 0 := by simpa [h1] using h
          simp only [h1, decide_false, Bool.false_eq_true, if_false]; omega]
      simp (maxSteps := 4000000) (dsimp := false) (disch := omega) only [go_sem, eZ, ↓reduceIte, Nat.reduceEqDiff, Nat.reduceMul, Nat.reduceAdd, Nat.reduceSub, Nat.reduceLT, Nat.reduceLeDiff, Nat.reduceBEq, reduceCtorEq, Int.reduceToNat, Int.reduceEq, Int.reduceLT, Int.reduceLE, Int.reduceNeg, Int.reduceSub, Int.reduceAdd, Int.reduceMul, Tryz.results105]

theorem fSub_ok (a b : Int) (ha : lz a < 2 ^ 38) (hb : lz b < 2 ^ 38) : Ok Tryz.prog 106 [.ag (eZ a), .ag (eZ b)] ⟨[.ag (eZ (a - b))], []⟩ := by
  refine ok_of_V (T := Tb) tb_ok mo Tryz.func106 rfl (by kernel_rfl) (by kernel_rfl) (by simp [Tryz.ntmps106, mts]) ?_
  simp (maxSteps := 4000000) (dsimp := false) (disch := omega) only [go_sem, ↓reduceIte, Nat.reduceEqDiff, Nat.reduceMul, Nat.reduceAdd, Nat.reduceSub, Nat.reduceLT, Nat.reduceLeDiff, Nat.reduceBEq, reduceCtorEq, Int.reduceToNat, Int.reduceEq, Int.reduceLT, Int.reduceLE, Int.reduceNeg, Int.reduceSub, Int.reduceAdd, Int.reduceMul, eZ_len, eR_len, seg_e, seg_ea, seg_en, seg_r, seg_ra, seg_rn, splice_e, splice_ea, splice_eaa, splice_en, splice_ec, splice_eca, splice_r, splice_ra, splice_raa, splice_rn, splice_rc, splice_rca, splice_nil, List.append_assoc, List.length_append, Tryz.results106]
  refine callK (fNeg_ok b hb) ?_
  simp (maxSteps := 4000000) (dsimp := false) (disch := omega) only [go_sem, ↓reduceIte, Nat.reduceEqDiff, Nat.reduceMul, Nat.reduceAdd, Nat.reduceSub, Nat.reduceLT, Nat.reduceLeDiff, Nat.reduceBEq, reduceCtorEq, Int.reduceToNat, Int.reduceEq, Int.reduceLT, Int.reduceLE, Int.reduceNeg, Int.reduceSub, Int.reduceAdd, Int.reduceMul, eZ_len, eR_len, seg_e, seg_ea, seg_en, seg_r, seg_ra, seg_rn, splice_e, splice_ea, splice_eaa, splice_en, splice_ec, splice_eca, splice_r, splice_ra, splice_raa, splice_rn, splice_rc, splice_rca, splice_nil, List.append_assoc, List.length_append, Tryz.results106]
  refine callK (fAdd_ok a (-b) ha (by rw [lz_neg]; exact hb)) ?_
  rw [← Int.sub_eq_add_neg]
  simp (maxSteps := 4000000) (dsimp := false) (disch := omega) only [go_sem, ↓reduceIte, Nat.reduceEqDiff, Nat.reduceMul, Nat.reduceAdd, Nat.reduceSub, Nat.reduceLT, Nat.reduceLeDiff, Nat.reduceBEq, reduceCtorEq, Int.reduceToNat, Int.reduceEq, Int.reduceLT, Int.reduceLE, Int.reduceNeg, Int.reduceSub, Int.reduceAdd, Int.reduceMul, eZ_len, eR_len, seg_e, seg_ea, seg_en, seg_r, seg_ra, seg_rn, splice_e, splice_ea, splice_eaa, splice_en, splice_ec, splice_eca, splice_r, splice_ra, splice_raa, splice_rn, splice_rc, splice_rca, splice_nil, List.append_assoc, List.length_append, Tryz.results106]

theorem fSame_ok (a b : Int) (ha : lz a < 2 ^ 38) (hb : lz b < 2 ^ 38) : Ok Tryz.prog 54 [.ag (eZ a), .ag (eZ b)] ⟨[.lf (.bool (decide (a = b)))], []⟩ := by
  unfold lz at ha hb
  refine ok_of_V (T := Tb) tb_ok mo Tryz.func54 rfl (by kernel_rfl) (by kernel_rfl) (by simp [Tryz.ntmps54, mts]) ?_
  simp (maxSteps := 4000000) (dsimp := false) (disch := omega) only [go_sem, eZ, ↓reduceIte, Nat.reduceEqDiff, Nat.reduceMul, Nat.reduceAdd, Nat.reduceSub, Nat.reduceLT, Nat.reduceLeDiff, Nat.reduceBEq, reduceCtorEq, Int.reduceToNat, Int.reduceEq, Int.reduceLT, Int.reduceLE, Int.reduceNeg, Int.reduceSub, Int.reduceAdd, Int.reduceMul, Tryz.results54]
  refine ⟨fun h => ?_, fun h => ?_⟩
  · refine callK (fcompare_ok a.natAbs b.natAbs (by omega) (by omega)) ?_
    simp (maxSteps := 4000000) (dsimp := false) (disch := omega) only [go_sem, eZ, ↓reduceIte, Nat.reduceEqDiff, Nat.reduceMul, Nat.reduceAdd, Nat.reduceSub, Nat.reduceLT, Nat.reduceLeDiff, Nat.reduceBEq, reduceCtorEq, Int.reduceToNat, Int.reduceEq, Int.reduceLT, Int.reduceLE, Int.reduceNeg, Int.reduceSub, Int.reduceAdd, Int.reduceMul, Tryz.results54]
    rw [Bool.eq_iff_iff, beq_iff_eq, decide_eq_true_eq]
    have hs : a < 0 ↔ b < 0 := by simpa using h
    unfold cmpN
    split
    · omega
    · split <;> omega
  · have hs : ¬ (a < 0 ↔ b < 0) := by simpa using h
    rw [eq_comm, decide_eq_false_iff_not]
    rintro rfl
    exact hs Iff.rfl

theorem fby_ok (m k n : Nat) (hm : m < Bs ^ k) (hk : k < 2 ^ 38) (hn : n < 1000000000) : Ok Tryz.prog 97 [.lf (.sl 1 k (du m k)), .lf (.int .u32 n)] ⟨[.lf (.sl 1 (nd (m * n)) (du (m * n) (nd (m * n))))], []⟩ := by
  have hn1 : nd n ≤ 1 := nd_le (by simpa using hn)
  refine ok_of_V (T := Tb) tb_ok mo Tryz.func97 rfl (by kernel_rfl) (by kernel_rfl) (by simp [Tryz.ntmps97, mts]) ?_
  simp (maxSteps := 4000000) (dsimp := false) (disch := omega) only [go_sem, eZ, ↓reduceIte, Nat.reduceEqDiff, Nat.reduceMul, Nat.reduceAdd, Nat.reduceSub, Nat.reduceLT, Nat.reduceLeDiff, Nat.reduceBEq, reduceCtorEq, Int.reduceToNat, Int.reduceEq, Int.reduceLT, Int.reduceLE, Int.reduceNeg, Int.reduceSub, Int.reduceAdd, Int.reduceMul, Tryz.results97]
  rw [← du_one (m := n) (by simpa using hn)]
  refine callK (ftrim_ok n 1 (by simpa using hn) (by omega)) ?_
  simp (maxSteps := 4000000) (dsimp := false) (disch := omega) only [go_sem, eZ, ↓reduceIte, Nat.reduceEqDiff, Nat.reduceMul, Nat.reduceAdd, Nat.reduceSub, Nat.reduceLT, Nat.reduceLeDiff, Nat.reduceBEq, reduceCtorEq, Int.reduceToNat, Int.reduceEq, Int.reduceLT, Int.reduceLE, Int.reduceNeg, Int.reduceSub, Int.reduceAdd, Int.reduceMul, Tryz.results97]
  refine callK (ftimes_ok m n k _ hm (by omega) (nd_lt n) (by omega)) ?_
  simp (maxSteps := 4000000) (dsimp := false) (disch := omega) only [go_sem, eZ, ↓reduceIte, Nat.reduceEqDiff, Nat.reduceMul, Nat.reduceAdd, Nat.reduceSub, Nat.reduceLT, Nat.reduceLeDiff, Nat.reduceBEq, reduceCtorEq, Int.reduceToNat, Int.reduceEq, Int.reduceLT, Int.reduceLE, Int.reduceNeg, Int.reduceSub, Int.reduceAdd, Int.reduceMul, Tryz.results97]
end Go.Proofs.YtdhgdpcmdmgchaaGreat.Fw
