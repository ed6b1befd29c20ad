/- Contracts: a multiple of limbs taken away, and limbs added. Conditions: none. -/
import Derived.Test.YtdhgdpcmdmgchaaGreatFwCg
import Derived.Test.YtdhgdpcmdmgchaaGreatFwZ
namespace Go.Proofs.YtdhgdpcmdmgchaaGreat.Fw
open Go Go.Proofs
set_option linter.unusedSimpArgs false
set_option linter.unusedVariables false
set_option maxHeartbeats 2000000
set_option maxRecDepth 10000

theorem subtract_ok (D U V g N j : Nat) (hN : N < 2 ^ 40) (hU : U < Bs ^ N) (hV : V < Bs ^ j) (hj : j ≤ N) (hg : g < 1000000000) (hD : D < Bs ^ N) (h : (D + V * g) % Bs ^ N = U) :
    Ok Tryz.prog 100 [.mt 1 N (du U N), .lf (.sl 1 j (du V j)), .lf (.int .u64 g)] ⟨[.lf (.bool (decide (U < V * g)))], du D N⟩ := by
  refine ok_of_V (T := Tb) tb_ok mo Tryz.func100 rfl (by kernel_rfl) (by kernel_rfl) (by simp [Tryz.ntmps100, mts]) ?_
  simp (maxSteps := 4000000) (dsimp := false) (disch := omega) only [go_sem, eZ, ↓reduceIte, Nat.reduceEqDiff, Nat.reduceMul, Nat.reduceAdd, Nat.reduceSub, Nat.reduceLT, Nat.reduceLeDiff, Nat.reduceBEq, reduceCtorEq, Int.reduceToNat, Int.reduceEq, Int.reduceLT, Int.reduceLE, Int.reduceNeg, Int.reduceSub, Int.reduceAdd, Int.reduceMul, Tryz.results100]
  refine vloop (α := Nat) (fun i => ⟨[(0, .row 0 1 0 N), (1, .lf (.sl 1 j (du V j))), (2, .lf (.int .u64 g)), (7, .lf (.int .u64 (sc V g i))), (8, .lf (.int .u64 (cy D (V * g) i))), (13, .row 0 1 0 N), (14, .lf (.int .i64 N)), (15, .lf (.int .i64 i))], [(0, ⟨1, N, dm D U i N, 1⟩)]⟩) (fun i => i ≤ N) (fun i => N - i) 0 ?_ (Nat.zero_le _) ?_
  · rw [sc_zero, cy_zero, dm_zero]
    (refine weak' [] ?_; simp (maxSteps := 4000000) (dsimp := false) (disch := omega) only [slotsW, blksW, parW, List.map_cons, List.map_nil, renF, renA, idsIn, go_sem, eZ, ↓reduceIte, Nat.reduceEqDiff, Nat.reduceMul, Nat.reduceAdd, Nat.reduceSub, Nat.reduceLT, Nat.reduceLeDiff, Nat.reduceBEq, reduceCtorEq, Int.reduceToNat, Int.reduceEq, Int.reduceLT, Int.reduceLE, Int.reduceNeg, Int.reduceSub, Int.reduceAdd, Int.reduceMul])
  · intro i h1
    have c1 := cy_le D (V * g) i
    have c2 := cy_le D (V * g) (i + 1)
    have c3 := sc_le (V := V) i hg
    have d1 := dgt_lt U i
    have d2 := dgt_lt V i
    have d3 := dgt_lt D i
    have d4 := dgt_lt (V * g) i
    have e1 := sub_step D (V * g) i
    have z : ¬ (i : Int) < j → dgt V i = 0 := fun h => dgt_top hV (by omega)
    obtain ⟨x, hx⟩ : ∃ x, dgt V i * g = x := ⟨_, rfl⟩
    have hxb : x ≤ 999999998000000001 := by
      rw [← hx]
      exact Nat.le_trans (Nat.mul_le_mul (Nat.le_of_lt_succ d2) (Nat.le_of_lt_succ hg)) (by decide)
    have hx' : (dgt V i : Int) * (g : Int) = (x : Int) := by rw [← hx]; simp
    obtain ⟨t, ht⟩ : ∃ t, sc V g i + x = t := ⟨_, rfl⟩
    have ht' : (sc V g i : Int) + (x : Int) = (t : Int) := by omega
    have e2 : dgt (V * g) i = t % 1000000000 := by rw [sc_dgt, hx, ht]
    have e3 : sc V g (i + 1) = t / 1000000000 := by rw [sc_succ, hx, ht]
    simp (maxSteps := 4000000) (dsimp := false) (disch := omega) only [go_sem, eZ, ↓reduceIte, Nat.reduceEqDiff, Nat.reduceMul, Nat.reduceAdd, Nat.reduceSub, Nat.reduceLT, Nat.reduceLeDiff, Nat.reduceBEq, reduceCtorEq, Int.reduceToNat, Int.reduceEq, Int.reduceLT, Int.reduceLE, Int.reduceNeg, Int.reduceSub, Int.reduceAdd, Int.reduceMul, Tryz.results100, hx', ht', dm_get' hU]
    have z2 : ¬ (i : Int) < j → x = 0 := fun h => by rw [← hx, z h, Nat.zero_mul]
    have e4 : i < N → dgt (D + V * g) i = dgt U i := fun hi => by rw [← dg_mod hi, h]
    refine ⟨fun h2 => ⟨fun h3 => ⟨by omega, by omega, by omega, by omega, fun h4 => ⟨by omega, by omega, i + 1, ?_, by omega, by omega⟩, fun h4 => ⟨by omega, by omega, i + 1, ?_, by omega, by omega⟩⟩, fun h3 => ⟨by omega, by omega, fun h4 => ⟨by omega, by omega, i + 1, ?_, by omega, by omega⟩, fun h4 => ⟨by omega, by omega, i + 1, ?_, by omega, by omega⟩⟩⟩, fun h2 => ?_⟩
    · have e5 := e4 (by omega)
      (refine weak' [] ?_; simp (maxSteps := 4000000) (dsimp := false) (disch := omega) only [slotsW, blksW, parW, List.map_cons, List.map_nil, renF, renA, idsIn, go_sem, eZ, ↓reduceIte, Nat.reduceEqDiff, Nat.reduceMul, Nat.reduceAdd, Nat.reduceSub, Nat.reduceLT, Nat.reduceLeDiff, Nat.reduceBEq, reduceCtorEq, Int.reduceToNat, Int.reduceEq, Int.reduceLT, Int.reduceLE, Int.reduceNeg, Int.reduceSub, Int.reduceAdd, Int.reduceMul])
      refine ⟨⟨by omega, by omega⟩, ?_, Eq.symm ?_⟩ <;> exact dm_splice (by omega) (by omega) (fun _ _ => rfl)
    · have e5 := e4 (by omega)
      (refine weak' [] ?_; simp (maxSteps := 4000000) (dsimp := false) (disch := omega) only [slotsW, blksW, parW, List.map_cons, List.map_nil, renF, renA, idsIn, go_sem, eZ, ↓reduceIte, Nat.reduceEqDiff, Nat.reduceMul, Nat.reduceAdd, Nat.reduceSub, Nat.reduceLT, Nat.reduceLeDiff, Nat.reduceBEq, reduceCtorEq, Int.reduceToNat, Int.reduceEq, Int.reduceLT, Int.reduceLE, Int.reduceNeg, Int.reduceSub, Int.reduceAdd, Int.reduceMul])
      refine ⟨⟨by omega, by omega⟩, ?_, Eq.symm ?_⟩ <;> exact dm_splice (by omega) (by omega) (fun _ _ => rfl)
    · have e5 := e4 (by omega)
      have e6 := z2 h3
      (refine weak' [] ?_; simp (maxSteps := 4000000) (dsimp := false) (disch := omega) only [slotsW, blksW, parW, List.map_cons, List.map_nil, renF, renA, idsIn, go_sem, eZ, ↓reduceIte, Nat.reduceEqDiff, Nat.reduceMul, Nat.reduceAdd, Nat.reduceSub, Nat.reduceLT, Nat.reduceLeDiff, Nat.reduceBEq, reduceCtorEq, Int.reduceToNat, Int.reduceEq, Int.reduceLT, Int.reduceLE, Int.reduceNeg, Int.reduceSub, Int.reduceAdd, Int.reduceMul])
      refine ⟨⟨by omega, by omega⟩, ?_, Eq.symm ?_⟩ <;> exact dm_splice (by omega) (by omega) (fun _ _ => rfl)
    · have e5 := e4 (by omega)
      have e6 := z2 h3
      (refine weak' [] ?_; simp (maxSteps := 4000000) (dsimp := false) (disch := omega) only [slotsW, blksW, parW, List.map_cons, List.map_nil, renF, renA, idsIn, go_sem, eZ, ↓reduceIte, Nat.reduceEqDiff, Nat.reduceMul, Nat.reduceAdd, Nat.reduceSub, Nat.reduceLT, Nat.reduceLeDiff, Nat.reduceBEq, reduceCtorEq, Int.reduceToNat, Int.reduceEq, Int.reduceLT, Int.reduceLE, Int.reduceNeg, Int.reduceSub, Int.reduceAdd, Int.reduceMul])
      refine ⟨⟨by omega, by omega⟩, ?_, Eq.symm ?_⟩ <;> exact dm_splice (by omega) (by omega) (fun _ _ => rfl)
    · obtain rfl : i = N := by omega
      have := sub_fin hV hj hU hD h
      refine ⟨fun h3 => ⟨?_, du_len _ _, dm_full _ _ _⟩, fun h3 => ⟨?_, du_len _ _, dm_full _ _ _⟩⟩
      · rw [decide_eq_decide, this]; omega
      · rw [eq_comm, decide_eq_true_eq, this]; omega
theorem restore_ok (U V N j : Nat) (hN : N < 2 ^ 40) (hU : U < Bs ^ N) (hV : V < Bs ^ j) (hj : j ≤ N) :
    Ok Tryz.prog 101 [.mt 1 N (du U N), .lf (.sl 1 j (du V j))] ⟨[], du (U + V) N⟩ := by
  refine ok_of_V (T := Tb) tb_ok mo Tryz.func101 rfl (by kernel_rfl) (by kernel_rfl) (by simp [Tryz.ntmps101, mts]) ?_
  simp (maxSteps := 4000000) (dsimp := false) (disch := omega) only [go_sem, eZ, ↓reduceIte, Nat.reduceEqDiff, Nat.reduceMul, Nat.reduceAdd, Nat.reduceSub, Nat.reduceLT, Nat.reduceLeDiff, Nat.reduceBEq, reduceCtorEq, Int.reduceToNat, Int.reduceEq, Int.reduceLT, Int.reduceLE, Int.reduceNeg, Int.reduceSub, Int.reduceAdd, Int.reduceMul, Tryz.results101]
  refine vloop (α := Nat) (fun i => ⟨[(0, .row 0 1 0 N), (1, .lf (.sl 1 j (du V j))), (4, .lf (.int .u32 (cy U V i))), (7, .row 0 1 0 N), (8, .lf (.int .i64 N)), (9, .lf (.int .i64 i))], [(0, ⟨1, N, dm (U + V) U i N, 1⟩)]⟩) (fun i => i ≤ N) (fun i => N - i) 0 ?_ (Nat.zero_le _) ?_
  · rw [cy_zero, dm_zero]
    (refine weak' [] ?_; simp (maxSteps := 4000000) (dsimp := false) (disch := omega) only [slotsW, blksW, parW, List.map_cons, List.map_nil, renF, renA, idsIn, go_sem, eZ, ↓reduceIte, Nat.reduceEqDiff, Nat.reduceMul, Nat.reduceAdd, Nat.reduceSub, Nat.reduceLT, Nat.reduceLeDiff, Nat.reduceBEq, reduceCtorEq, Int.reduceToNat, Int.reduceEq, Int.reduceLT, Int.reduceLE, Int.reduceNeg, Int.reduceSub, Int.reduceAdd, Int.reduceMul])
  · intro i h1
    have c1 := cy_le U V i
    have d1 := dgt_lt U i
    have d2 := dgt_lt V i
    have e1 := dgt_add U V i
    have e2 := cy_succ U V i
    simp only [Bs] at e1 e2
    have z : ¬ (i : Int) < j → dgt V i = 0 := fun h => dgt_top hV (by omega)
    simp (maxSteps := 4000000) (dsimp := false) (disch := omega) only [go_sem, eZ, ↓reduceIte, Nat.reduceEqDiff, Nat.reduceMul, Nat.reduceAdd, Nat.reduceSub, Nat.reduceLT, Nat.reduceLeDiff, Nat.reduceBEq, reduceCtorEq, Int.reduceToNat, Int.reduceEq, Int.reduceLT, Int.reduceLE, Int.reduceNeg, Int.reduceSub, Int.reduceAdd, Int.reduceMul, Tryz.results101, dm_get' hU]
    refine ⟨fun h2 => ⟨by omega, by omega, fun h3 => ⟨by omega, by omega, fun h4 => ⟨by omega, by omega, i + 1, ?_, by omega, by omega⟩, fun h4 => ⟨by omega, by omega, i + 1, ?_, by omega, by omega⟩⟩, fun h3 => ⟨fun h4 => ⟨by omega, by omega, i + 1, ?_, by omega, by omega⟩, fun h4 => ⟨by omega, by omega, i + 1, ?_, by omega, by omega⟩⟩⟩, fun h2 => ?_⟩
    · (refine weak' [] ?_; simp (maxSteps := 4000000) (dsimp := false) (disch := omega) only [slotsW, blksW, parW, List.map_cons, List.map_nil, renF, renA, idsIn, go_sem, eZ, ↓reduceIte, Nat.reduceEqDiff, Nat.reduceMul, Nat.reduceAdd, Nat.reduceSub, Nat.reduceLT, Nat.reduceLeDiff, Nat.reduceBEq, reduceCtorEq, Int.reduceToNat, Int.reduceEq, Int.reduceLT, Int.reduceLE, Int.reduceNeg, Int.reduceSub, Int.reduceAdd, Int.reduceMul])
      refine ⟨by omega, ?_, Eq.symm ?_⟩ <;> exact dm_splice (by omega) (by omega) (fun _ _ => rfl)
    · (refine weak' [] ?_; simp (maxSteps := 4000000) (dsimp := false) (disch := omega) only [slotsW, blksW, parW, List.map_cons, List.map_nil, renF, renA, idsIn, go_sem, eZ, ↓reduceIte, Nat.reduceEqDiff, Nat.reduceMul, Nat.reduceAdd, Nat.reduceSub, Nat.reduceLT, Nat.reduceLeDiff, Nat.reduceBEq, reduceCtorEq, Int.reduceToNat, Int.reduceEq, Int.reduceLT, Int.reduceLE, Int.reduceNeg, Int.reduceSub, Int.reduceAdd, Int.reduceMul])
      refine ⟨by omega, ?_, Eq.symm ?_⟩ <;> exact dm_splice (by omega) (by omega) (fun _ _ => rfl)
    · (refine weak' [] ?_; simp (maxSteps := 4000000) (dsimp := false) (disch := omega) only [slotsW, blksW, parW, List.map_cons, List.map_nil, renF, renA, idsIn, go_sem, eZ, ↓reduceIte, Nat.reduceEqDiff, Nat.reduceMul, Nat.reduceAdd, Nat.reduceSub, Nat.reduceLT, Nat.reduceLeDiff, Nat.reduceBEq, reduceCtorEq, Int.reduceToNat, Int.reduceEq, Int.reduceLT, Int.reduceLE, Int.reduceNeg, Int.reduceSub, Int.reduceAdd, Int.reduceMul])
      refine ⟨by omega, ?_, Eq.symm ?_⟩ <;> exact dm_splice (by omega) (by omega) (fun _ _ => rfl)
    · (refine weak' [] ?_; simp (maxSteps := 4000000) (dsimp := false) (disch := omega) only [slotsW, blksW, parW, List.map_cons, List.map_nil, renF, renA, idsIn, go_sem, eZ, ↓reduceIte, Nat.reduceEqDiff, Nat.reduceMul, Nat.reduceAdd, Nat.reduceSub, Nat.reduceLT, Nat.reduceLeDiff, Nat.reduceBEq, reduceCtorEq, Int.reduceToNat, Int.reduceEq, Int.reduceLT, Int.reduceLE, Int.reduceNeg, Int.reduceSub, Int.reduceAdd, Int.reduceMul])
      refine ⟨by omega, ?_, Eq.symm ?_⟩ <;> exact dm_splice (by omega) (by omega) (fun _ _ => rfl)
    · obtain rfl : i = N := by omega
      exact ⟨du_len _ _, dm_full _ _ _⟩
end Go.Proofs.YtdhgdpcmdmgchaaGreat.Fw
