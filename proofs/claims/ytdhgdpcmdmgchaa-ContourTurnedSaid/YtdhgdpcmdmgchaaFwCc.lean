/- Contracts: limbs. Conditions: none. -/
import Derived.Test.YtdhgdpcmdmgchaaFwCb
import Derived.Test.YtdhgdpcmdmgchaaFwZ
namespace Go.Proofs.Ytdhgdpcmdmgchaa.Fw
open Go Go.Proofs
set_option linter.unusedSimpArgs false
set_option linter.unusedVariables false
set_option maxHeartbeats 2000000
set_option maxRecDepth 10000

theorem trim_ok (m k : Nat) (hm : m < Bs ^ k) (hk : k < 2 ^ 40) : Ok Try.prog 62 [.lf (.sl 1 k (du m k))] ⟨[.lf (.sl 1 (nd m) (du m (nd m)))], []⟩ := by
  refine ok_of_V (T := Tb) tb_ok mo Try.func62 rfl (by kernel_rfl) (by kernel_rfl) (by simp [Try.ntmps62, mts]) ?_
  simp (maxSteps := 4000000) (dsimp := false) (disch := omega) only [go_sem, eZ, ↓reduceIte, Nat.reduceEqDiff, Nat.reduceMul, Nat.reduceAdd, Nat.reduceSub, Nat.reduceLT, Nat.reduceLeDiff, Nat.reduceBEq, reduceCtorEq, Int.reduceToNat, Int.reduceEq, Int.reduceLT, Int.reduceLE, Int.reduceNeg, Int.reduceSub, Int.reduceAdd, Int.reduceMul, Try.results62]
  refine vloop (α := Nat) (fun i => ⟨[(0, .lf (.sl 1 i (du m i)))], []⟩) (fun i => i ≤ k ∧ m < Bs ^ i) id k ?_ ⟨Nat.le_refl _, hm⟩ ?_
  · (refine weak' [] ?_; simp (maxSteps := 4000000) (dsimp := false) (disch := omega) only [slotsW, blksW, parW, List.map_cons, List.map_nil, renF, renA, idsIn, go_sem, eZ, ↓reduceIte, Nat.reduceEqDiff, Nat.reduceMul, Nat.reduceAdd, Nat.reduceSub, Nat.reduceLT, Nat.reduceLeDiff, Nat.reduceBEq, reduceCtorEq, Int.reduceToNat, Int.reduceEq, Int.reduceLT, Int.reduceLE, Int.reduceNeg, Int.reduceSub, Int.reduceAdd, Int.reduceMul])
  · intro i ⟨h1, h2⟩
    cases i with
    | zero =>
      have hm0 : m = 0 := by simpa using h2
      subst hm0
      simp (maxSteps := 4000000) (dsimp := false) (disch := omega) only [go_sem, eZ, ↓reduceIte, Nat.reduceEqDiff, Nat.reduceMul, Nat.reduceAdd, Nat.reduceSub, Nat.reduceLT, Nat.reduceLeDiff, Nat.reduceBEq, reduceCtorEq, Int.reduceToNat, Int.reduceEq, Int.reduceLT, Int.reduceLE, Int.reduceNeg, Int.reduceSub, Int.reduceAdd, Int.reduceMul, Try.results62]
      simp [nd_zero, du_zero]
    | succ i =>
      simp (maxSteps := 4000000) (dsimp := false) (disch := omega) only [go_sem, eZ, ↓reduceIte, Nat.reduceEqDiff, Nat.reduceMul, Nat.reduceAdd, Nat.reduceSub, Nat.reduceLT, Nat.reduceLeDiff, Nat.reduceBEq, reduceCtorEq, Int.reduceToNat, Int.reduceEq, Int.reduceLT, Int.reduceLE, Int.reduceNeg, Int.reduceSub, Int.reduceAdd, Int.reduceMul, Try.results62]
      refine ⟨fun _ => ⟨by omega, fun h0 => ⟨by omega, i, ?_, ⟨by omega, pow_top h2 (by omega)⟩, by omega⟩, fun h0 => ?_⟩, fun h => by omega⟩
      · rw [du_seg (Nat.le_succ i)]
        (refine weak' [] ?_; simp (maxSteps := 4000000) (dsimp := false) (disch := omega) only [slotsW, blksW, parW, List.map_cons, List.map_nil, renF, renA, idsIn, go_sem, eZ, ↓reduceIte, Nat.reduceEqDiff, Nat.reduceMul, Nat.reduceAdd, Nat.reduceSub, Nat.reduceLT, Nat.reduceLeDiff, Nat.reduceBEq, reduceCtorEq, Int.reduceToNat, Int.reduceEq, Int.reduceLT, Int.reduceLE, Int.reduceNeg, Int.reduceSub, Int.reduceAdd, Int.reduceMul])
      · have := nd_eq h2 (.inr (by simpa using h0))
        simp [this]

theorem compare_ok (m k n j : Nat) (hm : m < Bs ^ k) (hk : k < 2 ^ 40) (hn : n < Bs ^ j) (hj : j < 2 ^ 40) : Ok Try.prog 41 [.lf (.sl 1 k (du m k)), .lf (.sl 1 j (du n j))] ⟨[.lf (.int .i64 (cmpN m n))], []⟩ := by
  refine ok_of_V (T := Tb) tb_ok mo Try.func41 rfl (by kernel_rfl) (by kernel_rfl) (by simp [Try.ntmps41, mts]) ?_
  simp (maxSteps := 4000000) (dsimp := false) (disch := omega) only [go_sem, eZ, ↓reduceIte, Nat.reduceEqDiff, Nat.reduceMul, Nat.reduceAdd, Nat.reduceSub, Nat.reduceLT, Nat.reduceLeDiff, Nat.reduceBEq, reduceCtorEq, Int.reduceToNat, Int.reduceEq, Int.reduceLT, Int.reduceLE, Int.reduceNeg, Int.reduceSub, Int.reduceAdd, Int.reduceMul, Try.results41]
  refine callK (trim_ok m k hm hk) ?_
  simp (maxSteps := 4000000) (dsimp := false) (disch := omega) only [go_sem, eZ, ↓reduceIte, Nat.reduceEqDiff, Nat.reduceMul, Nat.reduceAdd, Nat.reduceSub, Nat.reduceLT, Nat.reduceLeDiff, Nat.reduceBEq, reduceCtorEq, Int.reduceToNat, Int.reduceEq, Int.reduceLT, Int.reduceLE, Int.reduceNeg, Int.reduceSub, Int.reduceAdd, Int.reduceMul, Try.results41]
  refine callK (trim_ok n j hn hj) ?_
  have hkm := nd_le hm
  have hjn := nd_le hn
  simp (maxSteps := 4000000) (dsimp := false) (disch := omega) only [go_sem, eZ, ↓reduceIte, Nat.reduceEqDiff, Nat.reduceMul, Nat.reduceAdd, Nat.reduceSub, Nat.reduceLT, Nat.reduceLeDiff, Nat.reduceBEq, reduceCtorEq, Int.reduceToNat, Int.reduceEq, Int.reduceLT, Int.reduceLE, Int.reduceNeg, Int.reduceSub, Int.reduceAdd, Int.reduceMul, Try.results41]
  refine ⟨fun hne => ⟨fun h => ?_, fun h => ?_⟩, fun he => ?_⟩
  · have := lt_of_nd (show nd m < nd n by omega)
    simp [cmpN, this]
  · have := lt_of_nd (show nd n < nd m by simp at hne; omega)
    simp [cmpN, this]; omega
  · have he : nd n = nd m := by
      have : (nd m : Int) = nd n := by simpa using he
      omega
    rw [he]
    refine vloop (α := Nat) (fun i => ⟨[(0, .lf (.sl 1 (nd m) (du m (nd m)))), (1, .lf (.sl 1 (nd m) (du n (nd m)))), (5, .lf (.int .i64 ((i : Int) - 1)))], []⟩) (fun i => i ≤ nd m ∧ m / Bs ^ i = n / Bs ^ i) id (nd m) ?_ ⟨Nat.le_refl _, ?_⟩ ?_
    · (refine weak' [] ?_; simp (maxSteps := 4000000) (dsimp := false) (disch := omega) only [slotsW, blksW, parW, List.map_cons, List.map_nil, renF, renA, idsIn, go_sem, eZ, ↓reduceIte, Nat.reduceEqDiff, Nat.reduceMul, Nat.reduceAdd, Nat.reduceSub, Nat.reduceLT, Nat.reduceLeDiff, Nat.reduceBEq, reduceCtorEq, Int.reduceToNat, Int.reduceEq, Int.reduceLT, Int.reduceLE, Int.reduceNeg, Int.reduceSub, Int.reduceAdd, Int.reduceMul])
    · rw [Nat.div_eq_of_lt (nd_lt m), Nat.div_eq_of_lt (he ▸ nd_lt n)]
    · have hm' := nd_lt m
      have hn' : n < Bs ^ nd m := he ▸ nd_lt n
      intro i ⟨h1, h2⟩
      cases i with
      | zero =>
        simp (maxSteps := 4000000) (dsimp := false) (disch := omega) only [go_sem, eZ, ↓reduceIte, Nat.reduceEqDiff, Nat.reduceMul, Nat.reduceAdd, Nat.reduceSub, Nat.reduceLT, Nat.reduceLeDiff, Nat.reduceBEq, reduceCtorEq, Int.reduceToNat, Int.reduceEq, Int.reduceLT, Int.reduceLE, Int.reduceNeg, Int.reduceSub, Int.reduceAdd, Int.reduceMul, Try.results41]
        have : m = n := by simpa using h2
        refine ⟨by omega, fun _ => by simp [cmpN, this]⟩
      | succ i =>
        simp (maxSteps := 4000000) (dsimp := false) (disch := omega) only [go_sem, eZ, ↓reduceIte, Nat.reduceEqDiff, Nat.reduceMul, Nat.reduceAdd, Nat.reduceSub, Nat.reduceLT, Nat.reduceLeDiff, Nat.reduceBEq, reduceCtorEq, Int.reduceToNat, Int.reduceEq, Int.reduceLT, Int.reduceLE, Int.reduceNeg, Int.reduceSub, Int.reduceAdd, Int.reduceMul, Try.results41]
        have s1 := div_step m i
        have s2 := div_step n i
        refine ⟨fun _ => ⟨by omega, by omega, by omega, by omega, fun h => ?_, fun h => ⟨by omega, by omega, by omega, by omega, fun h' => ?_, fun h' => ⟨i, ?_, ⟨by omega, ?_⟩, by omega⟩⟩⟩, fun h => by omega⟩
        · have : m < n := div_lt_lt (i := i) (by rw [s1, s2, h2]; omega)
          simp [cmpN, this]
        · have : n < m := div_lt_lt (i := i) (by rw [s1, s2, h2]; omega)
          simp [cmpN, this]; omega
        · (refine weak' [] ?_; simp (maxSteps := 4000000) (dsimp := false) (disch := omega) only [slotsW, blksW, parW, List.map_cons, List.map_nil, renF, renA, idsIn, go_sem, eZ, ↓reduceIte, Nat.reduceEqDiff, Nat.reduceMul, Nat.reduceAdd, Nat.reduceSub, Nat.reduceLT, Nat.reduceLeDiff, Nat.reduceBEq, reduceCtorEq, Int.reduceToNat, Int.reduceEq, Int.reduceLT, Int.reduceLE, Int.reduceNeg, Int.reduceSub, Int.reduceAdd, Int.reduceMul])
        · rw [s1, s2, h2]; omega
end Go.Proofs.Ytdhgdpcmdmgchaa.Fw
