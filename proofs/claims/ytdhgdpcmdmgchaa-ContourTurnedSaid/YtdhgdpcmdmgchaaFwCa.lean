/- Contracts: integers. Conditions: none. -/
import Derived.Test.YtdhgdpcmdmgchaaFwZ
import Derived.Test.YtdhgdpcmdmgchaaFwTab
namespace Go.Proofs.Ytdhgdpcmdmgchaa.Fw
open Go Go.Proofs
set_option linter.unusedSimpArgs false
set_option linter.unusedVariables false
set_option maxHeartbeats 2000000
set_option maxRecDepth 10000

theorem signed_ok (neg : Bool) (m k : Nat) (hm : m < Bs ^ k) (hk : k < 2 ^ 40) : Ok Try.prog 38 [.lf (.bool neg), .lf (.sl 1 k (du m k))] ⟨[.ag [.bool (neg && decide (m ≠ 0)), .sl 1 (nd m) (du m (nd m))]], []⟩ := by
  refine ok_of_V (T := Tb) tb_ok mo Try.func38 rfl (by kernel_rfl) (by kernel_rfl) (by simp [Try.ntmps38, mts]) ?_
  simp (maxSteps := 4000000) (dsimp := false) (disch := omega) only [go_sem, eZ, ↓reduceIte, Nat.reduceEqDiff, Nat.reduceMul, Nat.reduceAdd, Nat.reduceSub, Nat.reduceLT, Nat.reduceLeDiff, Nat.reduceBEq, reduceCtorEq, Int.reduceToNat, Int.reduceEq, Int.reduceLT, Int.reduceLE, Int.reduceNeg, Int.reduceSub, Int.reduceAdd, Int.reduceMul, Try.results38]
  refine vloop (α := Nat) (fun i => ⟨[(0, .lf (.bool neg)), (1, .lf (.sl 1 k (du m k))), (4, .ad 1032 0), (5, .lf (.int .i64 i))], [(1032, { sz := 2, n := 1, cs := [L.bool false, L.sl 1 0 []], st := 1 })]⟩) (fun i => i ≤ k ∧ m < Bs ^ i) id k ?_ ⟨Nat.le_refl _, hm⟩ ?_
  · (refine weak' [] ?_; simp (maxSteps := 4000000) (dsimp := false) (disch := omega) only [slotsW, blksW, parW, List.map_cons, List.map_nil, renF, renA, idsIn, go_sem, eZ, ↓reduceIte, Nat.reduceEqDiff, Nat.reduceMul, Nat.reduceAdd, Nat.reduceSub, Nat.reduceLT, Nat.reduceLeDiff, Nat.reduceBEq, reduceCtorEq, Int.reduceToNat, Int.reduceEq, Int.reduceLT, Int.reduceLE, Int.reduceNeg, Int.reduceSub, Int.reduceAdd, Int.reduceMul])
  · intro i ⟨h1, h2⟩
    cases i with
    | zero =>
      have hm0 : m = 0 := by simpa using h2
      subst hm0
      simp (maxSteps := 4000000) (dsimp := false) (disch := omega) only [go_sem, eZ, ↓reduceIte, Nat.reduceEqDiff, Nat.reduceMul, Nat.reduceAdd, Nat.reduceSub, Nat.reduceLT, Nat.reduceLeDiff, Nat.reduceBEq, reduceCtorEq, Int.reduceToNat, Int.reduceEq, Int.reduceLT, Int.reduceLE, Int.reduceNeg, Int.reduceSub, Int.reduceAdd, Int.reduceMul, Try.results38]
      simp [nd_zero, du_zero]
    | succ i =>
      simp (maxSteps := 4000000) (dsimp := false) (disch := omega) only [go_sem, eZ, ↓reduceIte, Nat.reduceEqDiff, Nat.reduceMul, Nat.reduceAdd, Nat.reduceSub, Nat.reduceLT, Nat.reduceLeDiff, Nat.reduceBEq, reduceCtorEq, Int.reduceToNat, Int.reduceEq, Int.reduceLT, Int.reduceLE, Int.reduceNeg, Int.reduceSub, Int.reduceAdd, Int.reduceMul, Try.results38]
      have key : ¬ dgt m i = 0 → i + 1 = nd m ∧ m ≠ 0 := fun h => by
        have := nd_eq h2 (.inr h)
        refine ⟨this.symm, ?_⟩
        rintro rfl
        rw [nd_zero] at this; omega
      refine ⟨fun _ => ⟨by omega, by omega, fun h0 => ⟨i, ?_, ⟨by omega, pow_top h2 (by omega)⟩, by omega⟩, fun h0 => ?_⟩, fun h => by omega⟩
      · (refine weak' [] ?_; simp (maxSteps := 4000000) (dsimp := false) (disch := omega) only [slotsW, blksW, parW, List.map_cons, List.map_nil, renF, renA, idsIn, go_sem, eZ, ↓reduceIte, Nat.reduceEqDiff, Nat.reduceMul, Nat.reduceAdd, Nat.reduceSub, Nat.reduceLT, Nat.reduceLeDiff, Nat.reduceBEq, reduceCtorEq, Int.reduceToNat, Int.reduceEq, Int.reduceLT, Int.reduceLE, Int.reduceNeg, Int.reduceSub, Int.reduceAdd, Int.reduceMul])
      · obtain ⟨e1, e2⟩ := key (by omega)
        rw [← e1, du_seg h1]
        refine ⟨fun hn => ⟨by omega, ?_, rfl, rfl⟩, fun hn => ⟨by omega, ?_, rfl, rfl⟩⟩
        · simp [hn, e2] <;> omega
        · simp [hn]
end Go.Proofs.Ytdhgdpcmdmgchaa.Fw
