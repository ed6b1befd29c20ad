/- Contracts: differences and products of limbs. Conditions: none. -/
import Derived.Test.YtdhgdpcmdmgchaaGreatFwCd
import Derived.Test.YtdhgdpcmdmgchaaGreatFwZ
namespace Go.Proofs.YtdhgdpcmdmgchaaGreat.Fw
open Go Go.Proofs
set_option linter.unusedSimpArgs false
set_option linter.unusedVariables false
set_option maxHeartbeats 2000000
set_option maxRecDepth 10000

theorem minus_ok (d n k j : Nat) (hm : d + n < Bs ^ k) (hk : k < 2 ^ 40) (hn : n < Bs ^ j) (hj : j < 2 ^ 40) : Ok Tryz.prog 94 [.lf (.sl 1 k (du (d + n) k)), .lf (.sl 1 j (du n j))] ⟨[.own 1 k (du d k)], []⟩ := by
  refine ok_of_V (T := Tb) tb_ok mo Tryz.func94 rfl (by kernel_rfl) (by kernel_rfl) (by simp [Tryz.ntmps94, mts]) ?_
  simp (maxSteps := 4000000) (dsimp := false) (disch := omega) only [go_sem, eZ, ↓reduceIte, Nat.reduceEqDiff, Nat.reduceMul, Nat.reduceAdd, Nat.reduceSub, Nat.reduceLT, Nat.reduceLeDiff, Nat.reduceBEq, reduceCtorEq, Int.reduceToNat, Int.reduceEq, Int.reduceLT, Int.reduceLE, Int.reduceNeg, Int.reduceSub, Int.reduceAdd, Int.reduceMul, Tryz.results94]
  refine ⟨by simp only [maxApp]; omega, ?_⟩
  refine vloop (α := Nat) (fun i => ⟨[(0, .lf (.sl 1 k (du (d + n) k))), (1, .lf (.sl 1 j (du n j))), (5, .row 1096 1 0 k), (6, .lf (.int .u32 (cy d n i))), (13, .lf (.sl 1 k (du (d + n) k))), (14, .lf (.int .i64 k)), (15, .lf (.int .i64 i))], [(1096, ⟨1, k, dm d 0 i k, 0⟩)]⟩) (fun i => i ≤ k) (fun i => k - i) 0 ?_ (Nat.zero_le _) ?_
  · rw [cy_zero, dm_zero]
    (refine weak' [] ?_; simp (maxSteps := 4000000) (dsimp := false) (disch := omega) only [slotsW, blksW, parW, List.map_cons, List.map_nil, renF, renA, idsIn, go_sem, eZ, ↓reduceIte, Nat.reduceEqDiff, Nat.reduceMul, Nat.reduceAdd, Nat.reduceSub, Nat.reduceLT, Nat.reduceLeDiff, Nat.reduceBEq, reduceCtorEq, Int.reduceToNat, Int.reduceEq, Int.reduceLT, Int.reduceLE, Int.reduceNeg, Int.reduceSub, Int.reduceAdd, Int.reduceMul])
  · intro i h1
    have c1 := cy_le d n i
    have d1 := dgt_lt (d + n) i
    have d2 := dgt_lt n i
    have d3 := dgt_lt d i
    have c2 := cy_le d n (i + 1)
    have e1 := sub_step d n i
    have z : ¬ (i : Int) < j → dgt n i = 0 := fun h => dgt_top hn (by omega)
    simp (maxSteps := 4000000) (dsimp := false) (disch := omega) only [go_sem, eZ, ↓reduceIte, Nat.reduceEqDiff, Nat.reduceMul, Nat.reduceAdd, Nat.reduceSub, Nat.reduceLT, Nat.reduceLeDiff, Nat.reduceBEq, reduceCtorEq, Int.reduceToNat, Int.reduceEq, Int.reduceLT, Int.reduceLE, Int.reduceNeg, Int.reduceSub, Int.reduceAdd, Int.reduceMul, Tryz.results94]
    refine ⟨fun h2 => ⟨by omega, by omega, fun h3 => ⟨by omega, by omega, fun h4 => ⟨by omega, by omega, i + 1, ?_, by omega, by omega⟩, fun h4 => ⟨by omega, by omega, i + 1, ?_, by omega, by omega⟩⟩,
      fun h3 => ⟨fun h4 => ⟨by omega, by omega, i + 1, ?_, by omega, by omega⟩, fun h4 => ⟨by omega, by omega, i + 1, ?_, by omega, by omega⟩⟩⟩, fun h2 => ?_⟩
    · (refine weak' [] ?_; simp (maxSteps := 4000000) (dsimp := false) (disch := omega) only [slotsW, blksW, parW, List.map_cons, List.map_nil, renF, renA, idsIn, go_sem, eZ, ↓reduceIte, Nat.reduceEqDiff, Nat.reduceMul, Nat.reduceAdd, Nat.reduceSub, Nat.reduceLT, Nat.reduceLeDiff, Nat.reduceBEq, reduceCtorEq, Int.reduceToNat, Int.reduceEq, Int.reduceLT, Int.reduceLE, Int.reduceNeg, Int.reduceSub, Int.reduceAdd, Int.reduceMul])
      exact ⟨by omega, dm_splice (by omega) (by omega) (fun _ _ => rfl)⟩
    · (refine weak' [] ?_; simp (maxSteps := 4000000) (dsimp := false) (disch := omega) only [slotsW, blksW, parW, List.map_cons, List.map_nil, renF, renA, idsIn, go_sem, eZ, ↓reduceIte, Nat.reduceEqDiff, Nat.reduceMul, Nat.reduceAdd, Nat.reduceSub, Nat.reduceLT, Nat.reduceLeDiff, Nat.reduceBEq, reduceCtorEq, Int.reduceToNat, Int.reduceEq, Int.reduceLT, Int.reduceLE, Int.reduceNeg, Int.reduceSub, Int.reduceAdd, Int.reduceMul])
      exact ⟨by omega, dm_splice (by omega) (by omega) (fun _ _ => rfl)⟩
    · (refine weak' [] ?_; simp (maxSteps := 4000000) (dsimp := false) (disch := omega) only [slotsW, blksW, parW, List.map_cons, List.map_nil, renF, renA, idsIn, go_sem, eZ, ↓reduceIte, Nat.reduceEqDiff, Nat.reduceMul, Nat.reduceAdd, Nat.reduceSub, Nat.reduceLT, Nat.reduceLeDiff, Nat.reduceBEq, reduceCtorEq, Int.reduceToNat, Int.reduceEq, Int.reduceLT, Int.reduceLE, Int.reduceNeg, Int.reduceSub, Int.reduceAdd, Int.reduceMul])
      exact ⟨by omega, dm_splice (by omega) (by omega) (fun _ _ => rfl)⟩
    · (refine weak' [] ?_; simp (maxSteps := 4000000) (dsimp := false) (disch := omega) only [slotsW, blksW, parW, List.map_cons, List.map_nil, renF, renA, idsIn, go_sem, eZ, ↓reduceIte, Nat.reduceEqDiff, Nat.reduceMul, Nat.reduceAdd, Nat.reduceSub, Nat.reduceLT, Nat.reduceLeDiff, Nat.reduceBEq, reduceCtorEq, Int.reduceToNat, Int.reduceEq, Int.reduceLT, Int.reduceLE, Int.reduceNeg, Int.reduceSub, Int.reduceAdd, Int.reduceMul])
      exact ⟨by omega, dm_splice (by omega) (by omega) (fun _ _ => rfl)⟩
    · obtain rfl : i = k := by omega
      exact dm_full d 0 i

theorem times_ok (m n k j : Nat) (hm : m < Bs ^ k) (hk : k < 2 ^ 40) (hn : n < Bs ^ j) (hj : j < 2 ^ 40) : Ok Tryz.prog 61 [.lf (.sl 1 k (du m k)), .lf (.sl 1 j (du n j))] ⟨[.own 1 (k + j) (du (m * n) (k + j))], []⟩ := by
  refine ok_of_V (T := Tb) tb_ok mo Tryz.func61 rfl (by kernel_rfl) (by kernel_rfl) (by simp [Tryz.ntmps61, mts]) ?_
  simp (maxSteps := 4000000) (dsimp := false) (disch := omega) only [go_sem, eZ, ↓reduceIte, Nat.reduceEqDiff, Nat.reduceMul, Nat.reduceAdd, Nat.reduceSub, Nat.reduceLT, Nat.reduceLeDiff, Nat.reduceBEq, reduceCtorEq, Int.reduceToNat, Int.reduceEq, Int.reduceLT, Int.reduceLE, Int.reduceNeg, Int.reduceSub, Int.reduceAdd, Int.reduceMul, Tryz.results61]
  refine ⟨by simp only [maxApp]; omega, ?_⟩
  refine vloop (α := Nat) (fun i => ⟨[(0, .lf (.sl 1 k (du m k))), (1, .lf (.sl 1 j (du n j))), (5, .row 1136 1 0 (k + j)), (18, .lf (.sl 1 k (du m k))), (19, .lf (.int .i64 k)), (20, .lf (.int .i64 i))], [(1136, ⟨1, k + j, du (rowR m n i) (k + j), 0⟩)]⟩) (fun i => i ≤ k) (fun i => k - i) 0 ?_ (Nat.zero_le _) ?_
  · rw [show rowR m n 0 = 0 by simp [rowR, Nat.mod_one]]
    (refine weak' [] ?_; simp (maxSteps := 4000000) (dsimp := false) (disch := omega) only [slotsW, blksW, parW, List.map_cons, List.map_nil, renF, renA, idsIn, go_sem, eZ, ↓reduceIte, Nat.reduceEqDiff, Nat.reduceMul, Nat.reduceAdd, Nat.reduceSub, Nat.reduceLT, Nat.reduceLeDiff, Nat.reduceBEq, reduceCtorEq, Int.reduceToNat, Int.reduceEq, Int.reduceLT, Int.reduceLE, Int.reduceNeg, Int.reduceSub, Int.reduceAdd, Int.reduceMul])
  · intro i h1
    have d1 := dgt_lt m i
    simp (maxSteps := 4000000) (dsimp := false) (disch := omega) only [go_sem, eZ, ↓reduceIte, Nat.reduceEqDiff, Nat.reduceMul, Nat.reduceAdd, Nat.reduceSub, Nat.reduceLT, Nat.reduceLeDiff, Nat.reduceBEq, reduceCtorEq, Int.reduceToNat, Int.reduceEq, Int.reduceLT, Int.reduceLE, Int.reduceNeg, Int.reduceSub, Int.reduceAdd, Int.reduceMul, Tryz.results61]
    refine ⟨fun h2 => ⟨by omega, by omega, ?_⟩, fun h2 => ?_⟩
    · refine vloop (α := Nat) (fun p => ⟨[(0, .lf (.sl 1 k (du m k))), (1, .lf (.sl 1 j (du n j))), (5, .row 1136 1 0 (k + j)), (6, .lf (.int .i64 i)), (7, .lf (.int .u32 (dgt m i))), (8, .lf (.int .u64 (rowC m n i p))), (18, .lf (.sl 1 k (du m k))), (19, .lf (.int .i64 k)), (20, .lf (.int .i64 i)), (25, .lf (.sl 1 j (du n j))), (26, .lf (.int .i64 j)), (27, .lf (.int .i64 p))],
        [(1136, ⟨1, k + j, dm (rowT m n i p) (rowR m n i) (i + p) (k + j), 0⟩)]⟩) (fun p => p ≤ j) (fun p => j - p) 0 ?_ (Nat.zero_le _) ?_
      · rw [rowC_zero, Nat.add_zero, show dm (rowT m n i 0) (rowR m n i) i (k + j) = du (rowR m n i) (k + j) by rw [rowT_zero]; simp [dm, du]]
        (refine weak' [] ?_; simp (maxSteps := 4000000) (dsimp := false) (disch := omega) only [slotsW, blksW, parW, List.map_cons, List.map_nil, renF, renA, idsIn, go_sem, eZ, ↓reduceIte, Nat.reduceEqDiff, Nat.reduceMul, Nat.reduceAdd, Nat.reduceSub, Nat.reduceLT, Nat.reduceLeDiff, Nat.reduceBEq, reduceCtorEq, Int.reduceToNat, Int.reduceEq, Int.reduceLT, Int.reduceLE, Int.reduceNeg, Int.reduceSub, Int.reduceAdd, Int.reduceMul])
      · intro p h3
        have b1 := dgt_lt (rowR m n i) (i + p)
        have b2 := dgt_lt n p
        have b3 := rowC_le m n i p
        have b4 : (dgt m i : Int) * (dgt n p : Int) ≤ 999999998000000001 ∧ 0 ≤ (dgt m i : Int) * (dgt n p : Int) := by
          have : dgt m i * dgt n p ≤ 999999999 * 999999999 := Nat.mul_le_mul (by omega) (by omega)
          have e : ((dgt m i * dgt n p : Nat) : Int) = (dgt m i : Int) * (dgt n p : Int) := by simp
          omega
        have hv : (dgt (rowR m n i) (i + p) : Int) + (dgt m i : Int) * (dgt n p : Int) + (rowC m n i p : Int) = (rowV m n i p : Nat) := by simp [rowV]
        simp (maxSteps := 4000000) (dsimp := false) (disch := omega) only [go_sem, eZ, ↓reduceIte, Nat.reduceEqDiff, Nat.reduceMul, Nat.reduceAdd, Nat.reduceSub, Nat.reduceLT, Nat.reduceLeDiff, Nat.reduceBEq, reduceCtorEq, Int.reduceToNat, Int.reduceEq, Int.reduceLT, Int.reduceLE, Int.reduceNeg, Int.reduceSub, Int.reduceAdd, Int.reduceMul, Tryz.results61, dm_get, hv]
        refine ⟨fun h4 => ⟨by omega, by omega, by omega, by omega, by omega, by omega, p + 1, ?_, by omega, by omega⟩, fun h4 => ⟨by omega, by omega, i + 1, ?_, by omega, by omega⟩⟩
        · (refine weak' [] ?_; simp (maxSteps := 4000000) (dsimp := false) (disch := omega) only [slotsW, blksW, parW, List.map_cons, List.map_nil, renF, renA, idsIn, go_sem, eZ, ↓reduceIte, Nat.reduceEqDiff, Nat.reduceMul, Nat.reduceAdd, Nat.reduceSub, Nat.reduceLT, Nat.reduceLeDiff, Nat.reduceBEq, reduceCtorEq, Int.reduceToNat, Int.reduceEq, Int.reduceLT, Int.reduceLE, Int.reduceNeg, Int.reduceSub, Int.reduceAdd, Int.reduceMul])
          rw [row_carry]
          exact ⟨rfl, dm_splice (by omega) (by rw [row_dgt]) (fun r hr => row_low hr)⟩
        · obtain rfl : p = j := by omega
          rw [row_end hn (by omega)]
          (refine weak' [] ?_; simp (maxSteps := 4000000) (dsimp := false) (disch := omega) only [slotsW, blksW, parW, List.map_cons, List.map_nil, renF, renA, idsIn, go_sem, eZ, ↓reduceIte, Nat.reduceEqDiff, Nat.reduceMul, Nat.reduceAdd, Nat.reduceSub, Nat.reduceLT, Nat.reduceLeDiff, Nat.reduceBEq, reduceCtorEq, Int.reduceToNat, Int.reduceEq, Int.reduceLT, Int.reduceLE, Int.reduceNeg, Int.reduceSub, Int.reduceAdd, Int.reduceMul])
    · obtain rfl : i = k := by omega
      simp [rowR, Nat.mod_eq_of_lt hm]
end Go.Proofs.YtdhgdpcmdmgchaaGreat.Fw
