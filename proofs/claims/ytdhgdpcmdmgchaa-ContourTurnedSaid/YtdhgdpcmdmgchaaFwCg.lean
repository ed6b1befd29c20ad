/- Contracts: negation. Conditions: none. -/
import Derived.Test.YtdhgdpcmdmgchaaFwCf
namespace Go.Proofs.Ytdhgdpcmdmgchaa.Fw
open Go Go.Proofs
set_option linter.unusedSimpArgs false
set_option linter.unusedVariables false
set_option maxHeartbeats 2000000
set_option maxRecDepth 10000

theorem Neg_ok (a : Int) (ha : lz a < 2 ^ 38) : Ok Try.prog 74 [.ag (eZ a)] ⟨[.ag (eZ (-a))], []⟩ := by
  unfold lz at ha
  refine ok_of_V (T := Tb) tb_ok mo Try.func74 rfl (by kernel_rfl) (by kernel_rfl) (by simp [Try.ntmps74, mts]) ?_
  simp (maxSteps := 4000000) (dsimp := false) (disch := omega) only [go_sem, eZ, ↓reduceIte, Nat.reduceEqDiff, Nat.reduceMul, Nat.reduceAdd, Nat.reduceSub, Nat.reduceLT, Nat.reduceLeDiff, Nat.reduceBEq, reduceCtorEq, Int.reduceToNat, Int.reduceEq, Int.reduceLT, Int.reduceLE, Int.reduceNeg, Int.reduceSub, Int.reduceAdd, Int.reduceMul, Try.results74]
  refine ⟨by simp only [maxApp]; omega, ?_⟩
  refine callK (signed_eZ _ a.natAbs _ (nd_lt _) (by omega)) ?_
  rw [show (if (!decide (a < 0)) = true then -((a.natAbs : Nat) : Int) else ((a.natAbs : Nat) : Int)) = -a by
    by_cases h1 : a < 0
    · simp only [h1, decide_true, Bool.not_true, Bool.false_eq_true, if_false]; omega
    · simp only [h1, decide_false, Bool.not_false, if_true]; omega]
  simp (maxSteps := 4000000) (dsimp := false) (disch := omega) only [go_sem, eZ, ↓reduceIte, Nat.reduceEqDiff, Nat.reduceMul, Nat.reduceAdd, Nat.reduceSub, Nat.reduceLT, Nat.reduceLeDiff, Nat.reduceBEq, reduceCtorEq, Int.reduceToNat, Int.reduceEq, Int.reduceLT, Int.reduceLE, Int.reduceNeg, Int.reduceSub, Int.reduceAdd, Int.reduceMul, Try.results74]
end Go.Proofs.Ytdhgdpcmdmgchaa.Fw
