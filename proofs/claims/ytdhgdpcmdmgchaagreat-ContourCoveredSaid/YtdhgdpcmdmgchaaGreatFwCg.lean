/- Contracts: negation. Contracts: integers of two limbs. Contracts: division by one limb. Conditions: none. -/
import Derived.Test.YtdhgdpcmdmgchaaGreatFwCf
import Derived.Test.YtdhgdpcmdmgchaaGreatFwZ
namespace Go.Proofs.YtdhgdpcmdmgchaaGreat.Fw
open Go Go.Proofs
set_option linter.unusedSimpArgs false
set_option linter.unusedVariables false
set_option maxHeartbeats 2000000
set_option maxRecDepth 10000

theorem Neg_ok (a : Int) (ha : lz a < 2 ^ 38) : Ok Tryz.prog 56 [.ag (eZ a)] ⟨[.ag (eZ (-a))], []⟩ := by
  unfold lz at ha
  refine ok_of_V (T := Tb) tb_ok mo Tryz.func56 rfl (by kernel_rfl) (by kernel_rfl) (by simp [Tryz.ntmps56, mts]) ?_
  simp (maxSteps := 4000000) (dsimp := false) (disch := omega) only [go_sem, eZ, ↓reduceIte, Nat.reduceEqDiff, Nat.reduceMul, Nat.reduceAdd, Nat.reduceSub, Nat.reduceLT, Nat.reduceLeDiff, Nat.reduceBEq, reduceCtorEq, Int.reduceToNat, Int.reduceEq, Int.reduceLT, Int.reduceLE, Int.reduceNeg, Int.reduceSub, Int.reduceAdd, Int.reduceMul, Tryz.results56]
  refine ⟨by simp only [maxApp]; omega, ?_⟩
  refine callK (signed_eZ _ a.natAbs _ (nd_lt _) (by omega)) ?_
  rw [show (if (!decide (a < 0)) = true then -((a.natAbs : Nat) : Int) else ((a.natAbs : Nat) : Int)) = -a by
    by_cases h1 : a < 0
    · simp only [h1, decide_true, Bool.not_true, Bool.false_eq_true, if_false]; omega
    · simp only [h1, decide_false, Bool.not_false, if_true]; omega]
  simp (maxSteps := 4000000) (dsimp := false) (disch := omega) only [go_sem, eZ, ↓reduceIte, Nat.reduceEqDiff, Nat.reduceMul, Nat.reduceAdd, Nat.reduceSub, Nat.reduceLT, Nat.reduceLeDiff, Nat.reduceBEq, reduceCtorEq, Int.reduceToNat, Int.reduceEq, Int.reduceLT, Int.reduceLE, Int.reduceNeg, Int.reduceSub, Int.reduceAdd, Int.reduceMul, Tryz.results56]
end Go.Proofs.YtdhgdpcmdmgchaaGreat.Fw
namespace Go.Proofs.YtdhgdpcmdmgchaaGreat.Fw
open Go Go.Proofs
set_option linter.unusedSimpArgs false
set_option linter.unusedVariables false
set_option maxHeartbeats 2000000
set_option maxRecDepth 10000

theorem word_ok (a : Int) (ha : lz a < 2 ^ 38) : Ok Tryz.prog 83 [.ag (eZ a)] ⟨[.lf (.int .u64 (if lz a ≤ 2 then a.natAbs else 0 : Nat)), .lf (.bool (decide (lz a ≤ 2)))], []⟩ := by
  unfold lz at *
  have hd := nd_lt a.natAbs
  have g0 := dgt_lt a.natAbs 0
  have g1 := dgt_lt a.natAbs 1
  refine ok_of_V (T := Tb) tb_ok mo Tryz.func83 rfl (by kernel_rfl) (by kernel_rfl) (by simp [Tryz.ntmps83, mts]) ?_
  simp (maxSteps := 4000000) (dsimp := false) (disch := omega) only [go_sem, eZ, ↓reduceIte, Nat.reduceEqDiff, Nat.reduceMul, Nat.reduceAdd, Nat.reduceSub, Nat.reduceLT, Nat.reduceLeDiff, Nat.reduceBEq, reduceCtorEq, Int.reduceToNat, Int.reduceEq, Int.reduceLT, Int.reduceLE, Int.reduceNeg, Int.reduceSub, Int.reduceAdd, Int.reduceMul, Tryz.results83]
  have e0 : dgt a.natAbs 0 = a.natAbs % 1000000000 := by simp [dgt]
  have e1 : dgt a.natAbs 1 = a.natAbs / 1000000000 % 1000000000 := by simp [dgt]
  generalize nd a.natAbs = k at *
  refine ⟨fun h => ?_, fun h => ⟨fun h' => ?_, fun h' => ⟨fun h'' => ?_, fun h'' => ?_⟩⟩⟩
  · obtain rfl : k = 0 := by omega
    simp at hd
    simp [hd]
  · obtain rfl : k = 1 := by omega
    simp only [Bs, Nat.pow_one] at hd
    simp
    omega
  · obtain rfl : k = 2 := by omega
    simp only [Bs] at hd
    simp
    omega
  · have : ¬ k ≤ 2 := by omega
    simp [this]
end Go.Proofs.YtdhgdpcmdmgchaaGreat.Fw
namespace Go.Proofs.YtdhgdpcmdmgchaaGreat.Fw
open Go Go.Proofs
set_option linter.unusedSimpArgs false
set_option linter.unusedVariables false
set_option maxHeartbeats 2000000
set_option maxRecDepth 10000

theorem byWord_ok (m k b : Nat) (hm : m < Bs ^ k) (hk : k < 2 ^ 40) (hb : 0 < b ∧ b < 1000000000) : Ok Tryz.prog 99 [.lf (.sl 1 k (du m k)), .lf (.int .u32 b)] ⟨[.own 1 k (du (m / b) k), .own 1 1 (du (m % b) 1)], []⟩ := by
  refine ok_of_V (T := Tb) tb_ok mo Tryz.func99 rfl (by kernel_rfl) (by kernel_rfl) (by simp [Tryz.ntmps99, mts]) ?_
  simp (maxSteps := 4000000) (dsimp := false) (disch := omega) only [go_sem, eZ, ↓reduceIte, Nat.reduceEqDiff, Nat.reduceMul, Nat.reduceAdd, Nat.reduceSub, Nat.reduceLT, Nat.reduceLeDiff, Nat.reduceBEq, reduceCtorEq, Int.reduceToNat, Int.reduceEq, Int.reduceLT, Int.reduceLE, Int.reduceNeg, Int.reduceSub, Int.reduceAdd, Int.reduceMul, Tryz.results99]
  refine ⟨by simp only [maxApp]; omega, ?_⟩
  refine vloop (α := Nat) (fun i => ⟨[(0, .lf (.sl 1 k (du m k))), (1, .lf (.int .u32 b)), (6, .row 1096 1 0 k), (7, .lf (.int .u64 (m / Bs ^ i % b : Nat))), (8, .lf (.int .i64 ((i : Int) - 1)))], [(1096, ⟨1, k, dm 0 (m / b) i k, 0⟩)]⟩) (fun i => i ≤ k) id k ?_ (Nat.le_refl _) ?_
  · rw [dm_full, Nat.div_eq_of_lt hm, Nat.zero_mod]
    (refine weak' [] ?_; simp (maxSteps := 4000000) (dsimp := false) (disch := omega) only [slotsW, blksW, parW, List.map_cons, List.map_nil, renF, renA, idsIn, go_sem, eZ, ↓reduceIte, Nat.reduceEqDiff, Nat.reduceMul, Nat.reduceAdd, Nat.reduceSub, Nat.reduceLT, Nat.reduceLeDiff, Nat.reduceBEq, reduceCtorEq, Int.reduceToNat, Int.reduceEq, Int.reduceLT, Int.reduceLE, Int.reduceNeg, Int.reduceSub, Int.reduceAdd, Int.reduceMul])
  · intro i h1
    cases i with
    | zero =>
      have h2 := Nat.mod_lt m hb.1
      simp (maxSteps := 4000000) (dsimp := false) (disch := omega) only [go_sem, eZ, ↓reduceIte, Nat.reduceEqDiff, Nat.reduceMul, Nat.reduceAdd, Nat.reduceSub, Nat.reduceLT, Nat.reduceLeDiff, Nat.reduceBEq, reduceCtorEq, Int.reduceToNat, Int.reduceEq, Int.reduceLT, Int.reduceLE, Int.reduceNeg, Int.reduceSub, Int.reduceAdd, Int.reduceMul, Tryz.results99, Nat.pow_zero, Nat.div_one]
      exact ⟨by omega, fun _ => ⟨dm_zero _ _ _, by rw [du_one (by simp only [Bs]; omega)]⟩⟩
    | succ i =>
      have h2 := Nat.mod_lt (m / Bs ^ (i + 1)) hb.1
      have h3 := dgt_lt m i
      have h4 : m / Bs ^ (i + 1) % b * Bs + dgt m i < 1000000000000000000 := by
        have : m / Bs ^ (i + 1) % b * Bs ≤ 999999999 * Bs := Nat.mul_le_mul_right _ (by omega)
        simp only [Bs] at *
        omega
      have h5 := bw_dig m b i hb.1
      have h6 := bw_rest m b i
      have h7 := dgt_lt (m / b) i
      obtain ⟨t, ht⟩ : ∃ t, m / Bs ^ (i + 1) % b * Bs + dgt m i = t := ⟨_, rfl⟩
      have hv : ((m / Bs ^ (i + 1) % b : Nat) : Int) * 1000000000 + (dgt m i : Int) = (t : Int) := by rw [← ht]; simp
      rw [ht] at h4 h5 h6
      simp (maxSteps := 4000000) (dsimp := false) (disch := omega) only [go_sem, eZ, ↓reduceIte, Nat.reduceEqDiff, Nat.reduceMul, Nat.reduceAdd, Nat.reduceSub, Nat.reduceLT, Nat.reduceLeDiff, Nat.reduceBEq, reduceCtorEq, Int.reduceToNat, Int.reduceEq, Int.reduceLT, Int.reduceLE, Int.reduceNeg, Int.reduceSub, Int.reduceAdd, Int.reduceMul, Tryz.results99, hv, tdiv_N, tmod_N, h5, h6]
      refine ⟨fun _ => ⟨by omega, by omega, by omega, by omega, by omega, by omega, i, ?_, by omega, by omega⟩, fun h => by omega⟩
      (refine weak' [] ?_; simp (maxSteps := 4000000) (dsimp := false) (disch := omega) only [slotsW, blksW, parW, List.map_cons, List.map_nil, renF, renA, idsIn, go_sem, eZ, ↓reduceIte, Nat.reduceEqDiff, Nat.reduceMul, Nat.reduceAdd, Nat.reduceSub, Nat.reduceLT, Nat.reduceLeDiff, Nat.reduceBEq, reduceCtorEq, Int.reduceToNat, Int.reduceEq, Int.reduceLT, Int.reduceLE, Int.reduceNeg, Int.reduceSub, Int.reduceAdd, Int.reduceMul])
      exact dm_down (by omega) rfl
end Go.Proofs.YtdhgdpcmdmgchaaGreat.Fw
