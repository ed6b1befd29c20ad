/- Contracts: integers of two limbs. Conditions: none. -/
import Derived.Test.YtdhgdpcmdmgchaaFwCg
namespace Go.Proofs.Ytdhgdpcmdmgchaa.Fw
open Go Go.Proofs
set_option linter.unusedSimpArgs false
set_option linter.unusedVariables false
set_option maxHeartbeats 2000000
set_option maxRecDepth 10000

theorem word_ok (a : Int) (ha : lz a < 2 ^ 38) : Ok Try.prog 95 [.ag (eZ a)] ⟨[.lf (.int .u64 (if lz a ≤ 2 then a.natAbs else 0 : Nat)), .lf (.bool (decide (lz a ≤ 2)))], []⟩ := by
  unfold lz at *
  have hd := nd_lt a.natAbs
  have g0 := dgt_lt a.natAbs 0
  have g1 := dgt_lt a.natAbs 1
  refine ok_of_V (T := Tb) tb_ok mo Try.func95 rfl (by kernel_rfl) (by kernel_rfl) (by simp [Try.ntmps95, mts]) ?_
  simp (maxSteps := 4000000) (dsimp := false) (disch := omega) only [go_sem, eZ, ↓reduceIte, Nat.reduceEqDiff, Nat.reduceMul, Nat.reduceAdd, Nat.reduceSub, Nat.reduceLT, Nat.reduceLeDiff, Nat.reduceBEq, reduceCtorEq, Int.reduceToNat, Int.reduceEq, Int.reduceLT, Int.reduceLE, Int.reduceNeg, Int.reduceSub, Int.reduceAdd, Int.reduceMul, Try.results95]
  have e0 : dgt a.natAbs 0 = a.natAbs % 1000000000 := by simp [dgt]
  have e1 : dgt a.natAbs 1 = a.natAbs / 1000000000 % 1000000000 := by simp [dgt]
  generalize nd a.natAbs = k at *
  refine ⟨fun h => ?_, fun h => ⟨fun h' => ?_, fun h' => ⟨fun h'' => ?_, fun h'' => ?_⟩⟩⟩
  · obtain rfl : k = 0 := by omega
    simp at hd
    simp [hd]
  · obtain rfl : k = 1 := by omega
    simp only [Bs, Nat.pow_one] at hd
    simp
    omega
  · obtain rfl : k = 2 := by omega
    simp only [Bs] at hd
    simp
    omega
  · have : ¬ k ≤ 2 := by omega
    simp [this]
end Go.Proofs.Ytdhgdpcmdmgchaa.Fw
