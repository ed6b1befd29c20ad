/- Contracts: sums of limbs. Conditions: none. -/
import Derived.Test.YtdhgdpcmdmgchaaGreatFwCa
namespace Go.Proofs.YtdhgdpcmdmgchaaGreat.Fw
open Go Go.Proofs
set_option linter.unusedSimpArgs false
set_option linter.unusedVariables false
set_option maxHeartbeats 2000000
set_option maxRecDepth 10000

theorem plus_ok (m k n j : Nat) (hm : m < Bs ^ k) (hk : k < 2 ^ 40) (hn : n < Bs ^ j) (hj : j < 2 ^ 40) : Ok Tryz.prog 93 [.lf (.sl 1 k (du m k)), .lf (.sl 1 j (du n j))] ⟨[.own 1 (max k j + 1) (du (m + n) (max k j + 1))], []⟩ := by
  refine ok_of_V (T := Tb) tb_ok mo Tryz.func93 rfl (by kernel_rfl) (by kernel_rfl) (by simp [Tryz.ntmps93, mts]) ?_
  simp (maxSteps := 4000000) (dsimp := false) (disch := omega) only [go_sem, eZ, ↓reduceIte, Nat.reduceEqDiff, Nat.reduceMul, Nat.reduceAdd, Nat.reduceSub, Nat.reduceLT, Nat.reduceLeDiff, Nat.reduceBEq, reduceCtorEq, Int.reduceToNat, Int.reduceEq, Int.reduceLT, Int.reduceLE, Int.reduceNeg, Int.reduceSub, Int.reduceAdd, Int.reduceMul, Tryz.results93]
  refine ⟨fun h => ⟨by simp only [maxApp]; omega, ?_⟩, fun h => ⟨by simp only [maxApp]; omega, ?_⟩⟩
  · rw [Nat.max_eq_right (by omega), Nat.add_comm m n]
    refine vloop (α := Nat) (fun i => ⟨[(0, .lf (.sl 1 j (du n j))), (1, .lf (.sl 1 k (du m k))), (5, .row 1152 1 0 i), (6, .lf (.int .u32 (cy n m i))), (20, .lf (.sl 1 j (du n j))), (21, .lf (.int .i64 j)), (22, .lf (.int .i64 i))], [(1152, ⟨1, i, du (n + m) i, 0⟩)]⟩) (fun i => i ≤ j) (fun i => j - i) 0 ?_ (Nat.zero_le _) ?_
    · rw [cy_zero]
      (refine weak' [] ?_; simp (maxSteps := 4000000) (dsimp := false) (disch := omega) only [slotsW, blksW, parW, List.map_cons, List.map_nil, renF, renA, idsIn, go_sem, eZ, ↓reduceIte, Nat.reduceEqDiff, Nat.reduceMul, Nat.reduceAdd, Nat.reduceSub, Nat.reduceLT, Nat.reduceLeDiff, Nat.reduceBEq, reduceCtorEq, Int.reduceToNat, Int.reduceEq, Int.reduceLT, Int.reduceLE, Int.reduceNeg, Int.reduceSub, Int.reduceAdd, Int.reduceMul])
    · intro i h1
      have c1 := cy_le n m i
      have d1 := dgt_lt n i
      have d2 := dgt_lt m i
      simp (maxSteps := 4000000) (dsimp := false) (disch := omega) only [go_sem, eZ, ↓reduceIte, Nat.reduceEqDiff, Nat.reduceMul, Nat.reduceAdd, Nat.reduceSub, Nat.reduceLT, Nat.reduceLeDiff, Nat.reduceBEq, reduceCtorEq, Int.reduceToNat, Int.reduceEq, Int.reduceLT, Int.reduceLE, Int.reduceNeg, Int.reduceSub, Int.reduceAdd, Int.reduceMul, Tryz.results93]
      have e1 := dgt_add n m i
      have e2 := cy_succ n m i
      simp only [Bs] at e1 e2
      have z : ¬ (i : Int) < k → dgt m i = 0 := fun h => dgt_top hm (by omega)
      refine ⟨fun h2 => ⟨by omega, by omega, fun h3 => ⟨by omega, by omega, fun h4 => ⟨by simp only [maxApp]; omega, i + 1, ?_, by omega, by omega⟩, fun h4 => ⟨by simp only [maxApp]; omega, i + 1, ?_, by omega, by omega⟩⟩,
        fun h3 => ⟨fun h4 => ⟨by simp only [maxApp]; omega, i + 1, ?_, by omega, by omega⟩, fun h4 => ⟨by simp only [maxApp]; omega, i + 1, ?_, by omega, by omega⟩⟩⟩, fun h2 => ?_⟩
      · rw [du_succ (n + m) i]
        (refine weak' [(1152, 1376)] ?_; simp (maxSteps := 4000000) (dsimp := false) (disch := omega) only [slotsW, blksW, parW, List.map_cons, List.map_nil, renF, renA, idsIn, go_sem, eZ, ↓reduceIte, Nat.reduceEqDiff, Nat.reduceMul, Nat.reduceAdd, Nat.reduceSub, Nat.reduceLT, Nat.reduceLeDiff, Nat.reduceBEq, reduceCtorEq, Int.reduceToNat, Int.reduceEq, Int.reduceLT, Int.reduceLE, Int.reduceNeg, Int.reduceSub, Int.reduceAdd, Int.reduceMul])
        omega
      · rw [du_succ (n + m) i]
        (refine weak' [(1152, 1376)] ?_; simp (maxSteps := 4000000) (dsimp := false) (disch := omega) only [slotsW, blksW, parW, List.map_cons, List.map_nil, renF, renA, idsIn, go_sem, eZ, ↓reduceIte, Nat.reduceEqDiff, Nat.reduceMul, Nat.reduceAdd, Nat.reduceSub, Nat.reduceLT, Nat.reduceLeDiff, Nat.reduceBEq, reduceCtorEq, Int.reduceToNat, Int.reduceEq, Int.reduceLT, Int.reduceLE, Int.reduceNeg, Int.reduceSub, Int.reduceAdd, Int.reduceMul])
        omega
      · rw [du_succ (n + m) i]
        (refine weak' [(1152, 1376)] ?_; simp (maxSteps := 4000000) (dsimp := false) (disch := omega) only [slotsW, blksW, parW, List.map_cons, List.map_nil, renF, renA, idsIn, go_sem, eZ, ↓reduceIte, Nat.reduceEqDiff, Nat.reduceMul, Nat.reduceAdd, Nat.reduceSub, Nat.reduceLT, Nat.reduceLeDiff, Nat.reduceBEq, reduceCtorEq, Int.reduceToNat, Int.reduceEq, Int.reduceLT, Int.reduceLE, Int.reduceNeg, Int.reduceSub, Int.reduceAdd, Int.reduceMul])
        omega
      · rw [du_succ (n + m) i]
        (refine weak' [(1152, 1376)] ?_; simp (maxSteps := 4000000) (dsimp := false) (disch := omega) only [slotsW, blksW, parW, List.map_cons, List.map_nil, renF, renA, idsIn, go_sem, eZ, ↓reduceIte, Nat.reduceEqDiff, Nat.reduceMul, Nat.reduceAdd, Nat.reduceSub, Nat.reduceLT, Nat.reduceLeDiff, Nat.reduceBEq, reduceCtorEq, Int.reduceToNat, Int.reduceEq, Int.reduceLT, Int.reduceLE, Int.reduceNeg, Int.reduceSub, Int.reduceAdd, Int.reduceMul])
        omega
      · obtain rfl : i = j := by omega
        rw [du_succ (n + m) i, dgt_add_top hn (Nat.lt_of_lt_of_le hm (Nat.pow_le_pow_right Bs_pos (by omega)))]
        exact ⟨by simp only [maxApp]; omega, rfl, rfl⟩
  · rw [Nat.max_eq_left (by omega)]
    refine vloop (α := Nat) (fun i => ⟨[(0, .lf (.sl 1 k (du m k))), (1, .lf (.sl 1 j (du n j))), (5, .row 1152 1 0 i), (6, .lf (.int .u32 (cy m n i))), (20, .lf (.sl 1 k (du m k))), (21, .lf (.int .i64 k)), (22, .lf (.int .i64 i))], [(1152, ⟨1, i, du (m + n) i, 0⟩)]⟩) (fun i => i ≤ k) (fun i => k - i) 0 ?_ (Nat.zero_le _) ?_
    · rw [cy_zero]
      (refine weak' [] ?_; simp (maxSteps := 4000000) (dsimp := false) (disch := omega) only [slotsW, blksW, parW, List.map_cons, List.map_nil, renF, renA, idsIn, go_sem, eZ, ↓reduceIte, Nat.reduceEqDiff, Nat.reduceMul, Nat.reduceAdd, Nat.reduceSub, Nat.reduceLT, Nat.reduceLeDiff, Nat.reduceBEq, reduceCtorEq, Int.reduceToNat, Int.reduceEq, Int.reduceLT, Int.reduceLE, Int.reduceNeg, Int.reduceSub, Int.reduceAdd, Int.reduceMul])
    · intro i h1
      have c1 := cy_le m n i
      have d1 := dgt_lt m i
      have d2 := dgt_lt n i
      simp (maxSteps := 4000000) (dsimp := false) (disch := omega) only [go_sem, eZ, ↓reduceIte, Nat.reduceEqDiff, Nat.reduceMul, Nat.reduceAdd, Nat.reduceSub, Nat.reduceLT, Nat.reduceLeDiff, Nat.reduceBEq, reduceCtorEq, Int.reduceToNat, Int.reduceEq, Int.reduceLT, Int.reduceLE, Int.reduceNeg, Int.reduceSub, Int.reduceAdd, Int.reduceMul, Tryz.results93]
      have e1 := dgt_add m n i
      have e2 := cy_succ m n i
      simp only [Bs] at e1 e2
      have z : ¬ (i : Int) < j → dgt n i = 0 := fun h => dgt_top hn (by omega)
      refine ⟨fun h2 => ⟨by omega, by omega, fun h3 => ⟨by omega, by omega, fun h4 => ⟨by simp only [maxApp]; omega, i + 1, ?_, by omega, by omega⟩, fun h4 => ⟨by simp only [maxApp]; omega, i + 1, ?_, by omega, by omega⟩⟩,
        fun h3 => ⟨fun h4 => ⟨by simp only [maxApp]; omega, i + 1, ?_, by omega, by omega⟩, fun h4 => ⟨by simp only [maxApp]; omega, i + 1, ?_, by omega, by omega⟩⟩⟩, fun h2 => ?_⟩
      · rw [du_succ (m + n) i]
        (refine weak' [(1152, 1376)] ?_; simp (maxSteps := 4000000) (dsimp := false) (disch := omega) only [slotsW, blksW, parW, List.map_cons, List.map_nil, renF, renA, idsIn, go_sem, eZ, ↓reduceIte, Nat.reduceEqDiff, Nat.reduceMul, Nat.reduceAdd, Nat.reduceSub, Nat.reduceLT, Nat.reduceLeDiff, Nat.reduceBEq, reduceCtorEq, Int.reduceToNat, Int.reduceEq, Int.reduceLT, Int.reduceLE, Int.reduceNeg, Int.reduceSub, Int.reduceAdd, Int.reduceMul])
        omega
      · rw [du_succ (m + n) i]
        (refine weak' [(1152, 1376)] ?_; simp (maxSteps := 4000000) (dsimp := false) (disch := omega) only [slotsW, blksW, parW, List.map_cons, List.map_nil, renF, renA, idsIn, go_sem, eZ, ↓reduceIte, Nat.reduceEqDiff, Nat.reduceMul, Nat.reduceAdd, Nat.reduceSub, Nat.reduceLT, Nat.reduceLeDiff, Nat.reduceBEq, reduceCtorEq, Int.reduceToNat, Int.reduceEq, Int.reduceLT, Int.reduceLE, Int.reduceNeg, Int.reduceSub, Int.reduceAdd, Int.reduceMul])
        omega
      · rw [du_succ (m + n) i]
        (refine weak' [(1152, 1376)] ?_; simp (maxSteps := 4000000) (dsimp := false) (disch := omega) only [slotsW, blksW, parW, List.map_cons, List.map_nil, renF, renA, idsIn, go_sem, eZ, ↓reduceIte, Nat.reduceEqDiff, Nat.reduceMul, Nat.reduceAdd, Nat.reduceSub, Nat.reduceLT, Nat.reduceLeDiff, Nat.reduceBEq, reduceCtorEq, Int.reduceToNat, Int.reduceEq, Int.reduceLT, Int.reduceLE, Int.reduceNeg, Int.reduceSub, Int.reduceAdd, Int.reduceMul])
        omega
      · rw [du_succ (m + n) i]
        (refine weak' [(1152, 1376)] ?_; simp (maxSteps := 4000000) (dsimp := false) (disch := omega) only [slotsW, blksW, parW, List.map_cons, List.map_nil, renF, renA, idsIn, go_sem, eZ, ↓reduceIte, Nat.reduceEqDiff, Nat.reduceMul, Nat.reduceAdd, Nat.reduceSub, Nat.reduceLT, Nat.reduceLeDiff, Nat.reduceBEq, reduceCtorEq, Int.reduceToNat, Int.reduceEq, Int.reduceLT, Int.reduceLE, Int.reduceNeg, Int.reduceSub, Int.reduceAdd, Int.reduceMul])
        omega
      · obtain rfl : i = k := by omega
        rw [du_succ (m + n) i, dgt_add_top hm (Nat.lt_of_lt_of_le hn (Nat.pow_le_pow_right Bs_pos (by omega)))]
        exact ⟨by simp only [maxApp]; omega, rfl, rfl⟩
end Go.Proofs.YtdhgdpcmdmgchaaGreat.Fw
