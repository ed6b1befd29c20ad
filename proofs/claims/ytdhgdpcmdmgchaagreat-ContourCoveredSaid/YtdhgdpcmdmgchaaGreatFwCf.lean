/- Contracts: arithmetic of integers. Conditions: none. -/
import Derived.Test.YtdhgdpcmdmgchaaGreatFwCe
namespace Go.Proofs.YtdhgdpcmdmgchaaGreat.Fw
open Go Go.Proofs
set_option linter.unusedSimpArgs false
set_option linter.unusedVariables false
set_option maxHeartbeats 2000000
set_option maxRecDepth 10000

/-- The number of limbs of an integer. -/
def lz (x : Int) : Nat := nd x.natAbs

theorem mul_sg (a b : Int) : (if (decide (a < 0) != decide (b < 0)) = true then -((a.natAbs * b.natAbs : Nat) : Int) else ((a.natAbs * b.natAbs : Nat) : Int)) = a * b := by
  rw [← Int.natAbs_mul]
  by_cases h1 : a < 0 <;> by_cases h2 : b < 0 <;> simp only [h1, h2, decide_true, decide_false, bne_self_eq_false, Bool.false_eq_true, if_false, Bool.true_bne, Bool.false_bne, Bool.not_false, if_true]
  · have := Int.mul_nonneg (a := -a) (b := -b) (by omega) (by omega)
    rw [Int.neg_mul_neg] at this
    omega
  · have := Int.mul_nonneg (a := -a) (b := b) (by omega) (by omega)
    rw [Int.neg_mul] at this
    omega
  · have := Int.mul_nonneg (a := a) (b := -b) (by omega) (by omega)
    rw [Int.mul_neg] at this
    omega
  · have := Int.mul_nonneg (a := a) (b := b) (by omega) (by omega)
    omega

theorem Mul_ok (a b : Int) (ha : lz a < 2 ^ 38) (hb : lz b < 2 ^ 38) : Ok Tryz.prog 36 [.ag (eZ a), .ag (eZ b)] ⟨[.ag (eZ (a * b))], []⟩ := by
  unfold lz at ha hb
  refine ok_of_V (T := Tb) tb_ok mo Tryz.func36 rfl (by kernel_rfl) (by kernel_rfl) (by simp [Tryz.ntmps36, mts]) ?_
  simp (maxSteps := 4000000) (dsimp := false) (disch := omega) only [go_sem, eZ, ↓reduceIte, Nat.reduceEqDiff, Nat.reduceMul, Nat.reduceAdd, Nat.reduceSub, Nat.reduceLT, Nat.reduceLeDiff, Nat.reduceBEq, reduceCtorEq, Int.reduceToNat, Int.reduceEq, Int.reduceLT, Int.reduceLE, Int.reduceNeg, Int.reduceSub, Int.reduceAdd, Int.reduceMul, Tryz.results36]
  refine callK (times_ok a.natAbs b.natAbs _ _ (nd_lt _) (by omega) (nd_lt _) (by omega)) ?_
  simp (maxSteps := 4000000) (dsimp := false) (disch := omega) only [go_sem, eZ, ↓reduceIte, Nat.reduceEqDiff, Nat.reduceMul, Nat.reduceAdd, Nat.reduceSub, Nat.reduceLT, Nat.reduceLeDiff, Nat.reduceBEq, reduceCtorEq, Int.reduceToNat, Int.reduceEq, Int.reduceLT, Int.reduceLE, Int.reduceNeg, Int.reduceSub, Int.reduceAdd, Int.reduceMul, Tryz.results36]
  refine callK (signed_eZ _ (a.natAbs * b.natAbs) (nd a.natAbs + nd b.natAbs) (by rw [Nat.pow_add]; exact Nat.mul_lt_mul'' (nd_lt _) (nd_lt _)) (by omega)) ?_
  rw [mul_sg]
  simp (maxSteps := 4000000) (dsimp := false) (disch := omega) only [go_sem, eZ, ↓reduceIte, Nat.reduceEqDiff, Nat.reduceMul, Nat.reduceAdd, Nat.reduceSub, Nat.reduceLT, Nat.reduceLeDiff, Nat.reduceBEq, reduceCtorEq, Int.reduceToNat, Int.reduceEq, Int.reduceLT, Int.reduceLE, Int.reduceNeg, Int.reduceSub, Int.reduceAdd, Int.reduceMul, Tryz.results36]

theorem cmpN_sign (m n : Nat) : cmpN m n = ((m : Int) - n).sign := by
  unfold cmpN
  split
  · exact (Int.sign_eq_neg_one_of_neg (by omega)).symm
  · split
    · exact (Int.sign_eq_one_of_pos (by omega)).symm
    · rw [show (m : Int) - n = 0 by omega]; rfl

theorem Cmp_ok (a b : Int) (ha : lz a < 2 ^ 38) (hb : lz b < 2 ^ 38) : Ok Tryz.prog 39 [.ag (eZ a), .ag (eZ b)] ⟨[.lf (.int .i64 (a - b).sign)], []⟩ := by
  unfold lz at ha hb
  refine ok_of_V (T := Tb) tb_ok mo Tryz.func39 rfl (by kernel_rfl) (by kernel_rfl) (by simp [Tryz.ntmps39, mts]) ?_
  simp (maxSteps := 4000000) (dsimp := false) (disch := omega) only [go_sem, eZ, ↓reduceIte, Nat.reduceEqDiff, Nat.reduceMul, Nat.reduceAdd, Nat.reduceSub, Nat.reduceLT, Nat.reduceLeDiff, Nat.reduceBEq, reduceCtorEq, Int.reduceToNat, Int.reduceEq, Int.reduceLT, Int.reduceLE, Int.reduceNeg, Int.reduceSub, Int.reduceAdd, Int.reduceMul, Tryz.results39]
  refine ⟨fun h => ⟨fun h1 => ?_, fun h1 => ?_⟩, fun h => ⟨fun h1 => ?_, fun h1 => ?_⟩⟩
  · have hb : ¬ b < 0 := by simpa [h1] using h
    exact (Int.sign_eq_neg_one_of_neg (by omega)).symm
  · have hb : b < 0 := by simpa [h1] using h
    exact (Int.sign_eq_one_of_pos (by omega)).symm
  · have hb' : b < 0 := by simpa [h1] using h
    refine callK (compare_ok b.natAbs _ a.natAbs _ (nd_lt _) (by omega) (nd_lt _) (by omega)) ?_
    simp (maxSteps := 4000000) (dsimp := false) (disch := omega) only [go_sem, eZ, ↓reduceIte, Nat.reduceEqDiff, Nat.reduceMul, Nat.reduceAdd, Nat.reduceSub, Nat.reduceLT, Nat.reduceLeDiff, Nat.reduceBEq, reduceCtorEq, Int.reduceToNat, Int.reduceEq, Int.reduceLT, Int.reduceLE, Int.reduceNeg, Int.reduceSub, Int.reduceAdd, Int.reduceMul, Tryz.results39]
    rw [cmpN_sign]; congr 1; omega
  · have hb' : ¬ b < 0 := by simpa [h1] using h
    refine callK (compare_ok a.natAbs _ b.natAbs _ (nd_lt _) (by omega) (nd_lt _) (by omega)) ?_
    simp (maxSteps := 4000000) (dsimp := false) (disch := omega) only [go_sem, eZ, ↓reduceIte, Nat.reduceEqDiff, Nat.reduceMul, Nat.reduceAdd, Nat.reduceSub, Nat.reduceLT, Nat.reduceLeDiff, Nat.reduceBEq, reduceCtorEq, Int.reduceToNat, Int.reduceEq, Int.reduceLT, Int.reduceLE, Int.reduceNeg, Int.reduceSub, Int.reduceAdd, Int.reduceMul, Tryz.results39]
    rw [cmpN_sign]; congr 1; omega

theorem minus_ok' (m n k j : Nat) (h : n ≤ m) (hm : m < Bs ^ k) (hk : k < 2 ^ 40) (hn : n < Bs ^ j) (hj : j < 2 ^ 40) : Ok Tryz.prog 94 [.lf (.sl 1 k (du m k)), .lf (.sl 1 j (du n j))] ⟨[.own 1 k (du (m - n) k)], []⟩ := by
  have e : m - n + n = m := by omega
  have := minus_ok (m - n) n k j (by rw [e]; exact hm) hk hn hj
  rwa [e] at this

theorem Add_ok (a b : Int) (ha : lz a < 2 ^ 38) (hb : lz b < 2 ^ 38) : Ok Tryz.prog 76 [.ag (eZ a), .ag (eZ b)] ⟨[.ag (eZ (a + b))], []⟩ := by
  unfold lz at ha hb
  refine ok_of_V (T := Tb) tb_ok mo Tryz.func76 rfl (by kernel_rfl) (by kernel_rfl) (by simp [Tryz.ntmps76, mts]) ?_
  simp (maxSteps := 4000000) (dsimp := false) (disch := omega) only [go_sem, eZ, ↓reduceIte, Nat.reduceEqDiff, Nat.reduceMul, Nat.reduceAdd, Nat.reduceSub, Nat.reduceLT, Nat.reduceLeDiff, Nat.reduceBEq, reduceCtorEq, Int.reduceToNat, Int.reduceEq, Int.reduceLT, Int.reduceLE, Int.reduceNeg, Int.reduceSub, Int.reduceAdd, Int.reduceMul, Tryz.results76]
  refine ⟨fun h => ?_, fun h => ?_⟩
  · refine callK (plus_ok a.natAbs _ b.natAbs _ (nd_lt _) (by omega) (nd_lt _) (by omega)) ?_
    simp (maxSteps := 4000000) (dsimp := false) (disch := omega) only [go_sem, eZ, ↓reduceIte, Nat.reduceEqDiff, Nat.reduceMul, Nat.reduceAdd, Nat.reduceSub, Nat.reduceLT, Nat.reduceLeDiff, Nat.reduceBEq, reduceCtorEq, Int.reduceToNat, Int.reduceEq, Int.reduceLT, Int.reduceLE, Int.reduceNeg, Int.reduceSub, Int.reduceAdd, Int.reduceMul, Tryz.results76]
    have hlt : a.natAbs + b.natAbs < Bs ^ (max (nd a.natAbs) (nd b.natAbs) + 1) := by
      have h1 := Nat.lt_of_lt_of_le (nd_lt a.natAbs) (Nat.pow_le_pow_right Bs_pos (Nat.le_max_left (nd a.natAbs) (nd b.natAbs)))
      have h2 := Nat.lt_of_lt_of_le (nd_lt b.natAbs) (Nat.pow_le_pow_right Bs_pos (Nat.le_max_right (nd a.natAbs) (nd b.natAbs)))
      rw [Nat.pow_succ]; simp only [Bs] at *; omega
    refine callK (signed_eZ _ (a.natAbs + b.natAbs) _ hlt (by omega)) ?_
    rw [show (if decide (a < 0) = true then -((a.natAbs + b.natAbs : Nat) : Int) else ((a.natAbs + b.natAbs : Nat) : Int)) = a + b by
      by_cases h1 : a < 0
      · have : b < 0 := by simpa [h1] using h
        simp only [h1, decide_true, if_true]; omega
      · have : ¬ b < 0 := by simpa [h1] using h
        simp only [h1, decide_false, Bool.false_eq_true, if_false]; omega]
    simp (maxSteps := 4000000) (dsimp := false) (disch := omega) only [go_sem, eZ, ↓reduceIte, Nat.reduceEqDiff, Nat.reduceMul, Nat.reduceAdd, Nat.reduceSub, Nat.reduceLT, Nat.reduceLeDiff, Nat.reduceBEq, reduceCtorEq, Int.reduceToNat, Int.reduceEq, Int.reduceLT, Int.reduceLE, Int.reduceNeg, Int.reduceSub, Int.reduceAdd, Int.reduceMul, Tryz.results76]
  · refine callK (compare_ok a.natAbs _ b.natAbs _ (nd_lt _) (by omega) (nd_lt _) (by omega)) ?_
    simp (maxSteps := 4000000) (dsimp := false) (disch := omega) only [go_sem, eZ, ↓reduceIte, Nat.reduceEqDiff, Nat.reduceMul, Nat.reduceAdd, Nat.reduceSub, Nat.reduceLT, Nat.reduceLeDiff, Nat.reduceBEq, reduceCtorEq, Int.reduceToNat, Int.reduceEq, Int.reduceLT, Int.reduceLE, Int.reduceNeg, Int.reduceSub, Int.reduceAdd, Int.reduceMul, Tryz.results76]
    refine ⟨fun h0 => ?_, fun h0 => ?_⟩
    · have hlt : a.natAbs < b.natAbs := by unfold cmpN at h0; split at h0; assumption; split at h0 <;> omega
      refine callK (minus_ok' b.natAbs a.natAbs _ _ (by omega) (nd_lt _) (by omega) (nd_lt _) (by omega)) ?_
      simp (maxSteps := 4000000) (dsimp := false) (disch := omega) only [go_sem, eZ, ↓reduceIte, Nat.reduceEqDiff, Nat.reduceMul, Nat.reduceAdd, Nat.reduceSub, Nat.reduceLT, Nat.reduceLeDiff, Nat.reduceBEq, reduceCtorEq, Int.reduceToNat, Int.reduceEq, Int.reduceLT, Int.reduceLE, Int.reduceNeg, Int.reduceSub, Int.reduceAdd, Int.reduceMul, Tryz.results76]
      refine callK (signed_eZ _ (b.natAbs - a.natAbs) _ (Nat.lt_of_le_of_lt (Nat.sub_le _ _) (nd_lt _)) (by omega)) ?_
      rw [show (if decide (b < 0) = true then -((b.natAbs - a.natAbs : Nat) : Int) else ((b.natAbs - a.natAbs : Nat) : Int)) = a + b by
        by_cases h1 : b < 0
        · have : ¬ a < 0 := by simpa [h1] using h
          simp only [h1, decide_true, if_true]; omega
        · have : a < 0 := by simpa [h1] using h
          simp only [h1, decide_false, Bool.false_eq_true, if_false]; omega]
      simp (maxSteps := 4000000) (dsimp := false) (disch := omega) only [go_sem, eZ, ↓reduceIte, Nat.reduceEqDiff, Nat.reduceMul, Nat.reduceAdd, Nat.reduceSub, Nat.reduceLT, Nat.reduceLeDiff, Nat.reduceBEq, reduceCtorEq, Int.reduceToNat, Int.reduceEq, Int.reduceLT, Int.reduceLE, Int.reduceNeg, Int.reduceSub, Int.reduceAdd, Int.reduceMul, Tryz.results76]
    · have hlt : b.natAbs ≤ a.natAbs := by
        by_cases hh : a.natAbs < b.natAbs
        · simp [cmpN, hh] at h0
        · omega
      refine callK (minus_ok' a.natAbs b.natAbs _ _ (by omega) (nd_lt _) (by omega) (nd_lt _) (by omega)) ?_
      simp (maxSteps := 4000000) (dsimp := false) (disch := omega) only [go_sem, eZ, ↓reduceIte, Nat.reduceEqDiff, Nat.reduceMul, Nat.reduceAdd, Nat.reduceSub, Nat.reduceLT, Nat.reduceLeDiff, Nat.reduceBEq, reduceCtorEq, Int.reduceToNat, Int.reduceEq, Int.reduceLT, Int.reduceLE, Int.reduceNeg, Int.reduceSub, Int.reduceAdd, Int.reduceMul, Tryz.results76]
      refine callK (signed_eZ _ (a.natAbs - b.natAbs) _ (Nat.lt_of_le_of_lt (Nat.sub_le _ _) (nd_lt _)) (by omega)) ?_
      rw [show (if decide (a < 0) = true then -((a.natAbs - b.natAbs : Nat) : Int) else ((a.natAbs - b.natAbs : Nat) : Int)) = a + b by
        by_cases h1 : a < 0
        · have : ¬ b < 0 := by simpa [h1] using h
          simp only [h1, decide_true, if_true]; omega
        · have : b < 0 := by simpa [h1] using h
          simp only [h1, decide_false, Bool.false_eq_true, if_false]; omega]
      simp (maxSteps := 4000000) (dsimp := false) (disch := omega) only [go_sem, eZ, ↓reduceIte, Nat.reduceEqDiff, Nat.reduceMul, Nat.reduceAdd, Nat.reduceSub, Nat.reduceLT, Nat.reduceLeDiff, Nat.reduceBEq, reduceCtorEq, Int.reduceToNat, Int.reduceEq, Int.reduceLT, Int.reduceLE, Int.reduceNeg, Int.reduceSub, Int.reduceAdd, Int.reduceMul, Tryz.results76]

theorem Sub_ok (a b : Int) (ha : lz a < 2 ^ 38) (hb : lz b < 2 ^ 38) : Ok Tryz.prog 102 [.ag (eZ a), .ag (eZ b)] ⟨[.ag (eZ (a - b))], []⟩ := by
  have hb' : lz (-b) < 2 ^ 38 := by simpa [lz] using hb
  have hA := Add_ok a (-b) ha hb'
  rw [← Int.sub_eq_add_neg] at hA
  simp only [eZ, Int.natAbs_neg] at hA
  unfold lz at ha hb
  refine ok_of_V (T := Tb) tb_ok mo Tryz.func102 rfl (by kernel_rfl) (by kernel_rfl) (by simp [Tryz.ntmps102, mts]) ?_
  simp (maxSteps := 4000000) (dsimp := false) (disch := omega) only [go_sem, eZ, ↓reduceIte, Nat.reduceEqDiff, Nat.reduceMul, Nat.reduceAdd, Nat.reduceSub, Nat.reduceLT, Nat.reduceLeDiff, Nat.reduceBEq, reduceCtorEq, Int.reduceToNat, Int.reduceEq, Int.reduceLT, Int.reduceLE, Int.reduceNeg, Int.reduceSub, Int.reduceAdd, Int.reduceMul, Tryz.results102]
  refine ⟨fun h => ?_, fun h => ?_⟩
  · have h1 : ¬ b < 0 := by simpa using h
    have e : decide ((nd b.natAbs : Int) > 0) = decide (-b < 0) := by
      have := nd_eq_zero (m := b.natAbs)
      by_cases hz : b = 0
      · subst hz; simp [nd_zero]
      · have : nd b.natAbs ≠ 0 := by rw [Ne, this]; omega
        rw [decide_eq_true (by omega), decide_eq_true (by omega)]
    simp only [e]
    refine callK hA ?_
    simp (maxSteps := 4000000) (dsimp := false) (disch := omega) only [go_sem, eZ, ↓reduceIte, Nat.reduceEqDiff, Nat.reduceMul, Nat.reduceAdd, Nat.reduceSub, Nat.reduceLT, Nat.reduceLeDiff, Nat.reduceBEq, reduceCtorEq, Int.reduceToNat, Int.reduceEq, Int.reduceLT, Int.reduceLE, Int.reduceNeg, Int.reduceSub, Int.reduceAdd, Int.reduceMul, Tryz.results102]
  · have h1 : b < 0 := by simpa using h
    have e : decide (-b < 0) = false := by simp; omega
    rw [e] at hA
    refine callK hA ?_
    simp (maxSteps := 4000000) (dsimp := false) (disch := omega) only [go_sem, eZ, ↓reduceIte, Nat.reduceEqDiff, Nat.reduceMul, Nat.reduceAdd, Nat.reduceSub, Nat.reduceLT, Nat.reduceLeDiff, Nat.reduceBEq, reduceCtorEq, Int.reduceToNat, Int.reduceEq, Int.reduceLT, Int.reduceLE, Int.reduceNeg, Int.reduceSub, Int.reduceAdd, Int.reduceMul, Tryz.results102]
end Go.Proofs.YtdhgdpcmdmgchaaGreat.Fw
