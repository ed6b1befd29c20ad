/- Contracts: the reference's limbs. Conditions: none. -/
import Derived.Test.YtdhgdpcmdmgchaaGreatFwCo
import Derived.Test.YtdhgdpcmdmgchaaGreatFwZh
namespace Go.Proofs.YtdhgdpcmdmgchaaGreat.Fw
open Go Go.Proofs
set_option linter.unusedSimpArgs false
set_option linter.unusedVariables false
set_option maxHeartbeats 2000000
set_option maxRecDepth 10000

theorem ftrim_ok (m k : Nat) (hm : m < Bs ^ k) (hk : k < 2 ^ 40) : Ok Tryz.prog 80 [.lf (.sl 1 k (du m k))] ⟨[.lf (.sl 1 (nd m) (du m (nd m)))], []⟩ := by
  refine ok_of_V (T := Tb) tb_ok mo Tryz.func80 rfl (by kernel_rfl) (by kernel_rfl) (by simp [Tryz.ntmps80, mts]) ?_
  simp (maxSteps := 4000000) (dsimp := false) (disch := omega) only [go_sem, eZ, ↓reduceIte, Nat.reduceEqDiff, Nat.reduceMul, Nat.reduceAdd, Nat.reduceSub, Nat.reduceLT, Nat.reduceLeDiff, Nat.reduceBEq, reduceCtorEq, Int.reduceToNat, Int.reduceEq, Int.reduceLT, Int.reduceLE, Int.reduceNeg, Int.reduceSub, Int.reduceAdd, Int.reduceMul, Tryz.results80]
  refine vloop (α := Nat) (fun i => ⟨[(0, .lf (.sl 1 i (du m i)))], []⟩) (fun i => i ≤ k ∧ m < Bs ^ i) id k ?_ ⟨Nat.le_refl _, hm⟩ ?_
  · (refine weak' [] ?_; simp (maxSteps := 4000000) (dsimp := false) (disch := omega) only [slotsW, blksW, parW, List.map_cons, List.map_nil, renF, renA, idsIn, go_sem, eZ, ↓reduceIte, Nat.reduceEqDiff, Nat.reduceMul, Nat.reduceAdd, Nat.reduceSub, Nat.reduceLT, Nat.reduceLeDiff, Nat.reduceBEq, reduceCtorEq, Int.reduceToNat, Int.reduceEq, Int.reduceLT, Int.reduceLE, Int.reduceNeg, Int.reduceSub, Int.reduceAdd, Int.reduceMul])
  · intro i ⟨h1, h2⟩
    cases i with
    | zero =>
      have hm0 : m = 0 := by simpa using h2
      subst hm0
      simp (maxSteps := 4000000) (dsimp := false) (disch := omega) only [go_sem, eZ, ↓reduceIte, Nat.reduceEqDiff, Nat.reduceMul, Nat.reduceAdd, Nat.reduceSub, Nat.reduceLT, Nat.reduceLeDiff, Nat.reduceBEq, reduceCtorEq, Int.reduceToNat, Int.reduceEq, Int.reduceLT, Int.reduceLE, Int.reduceNeg, Int.reduceSub, Int.reduceAdd, Int.reduceMul, Tryz.results80]
      simp [nd_zero, du_zero]
    | succ i =>
      simp (maxSteps := 4000000) (dsimp := false) (disch := omega) only [go_sem, eZ, ↓reduceIte, Nat.reduceEqDiff, Nat.reduceMul, Nat.reduceAdd, Nat.reduceSub, Nat.reduceLT, Nat.reduceLeDiff, Nat.reduceBEq, reduceCtorEq, Int.reduceToNat, Int.reduceEq, Int.reduceLT, Int.reduceLE, Int.reduceNeg, Int.reduceSub, Int.reduceAdd, Int.reduceMul, Tryz.results80]
      refine ⟨fun _ => ⟨by omega, fun h0 => ⟨by omega, i, ?_, ⟨by omega, pow_top h2 (by omega)⟩, by omega⟩, fun h0 => ?_⟩, fun h => by omega⟩
      · rw [du_seg (Nat.le_succ i)]
        (refine weak' [] ?_; simp (maxSteps := 4000000) (dsimp := false) (disch := omega) only [slotsW, blksW, parW, List.map_cons, List.map_nil, renF, renA, idsIn, go_sem, eZ, ↓reduceIte, Nat.reduceEqDiff, Nat.reduceMul, Nat.reduceAdd, Nat.reduceSub, Nat.reduceLT, Nat.reduceLeDiff, Nat.reduceBEq, reduceCtorEq, Int.reduceToNat, Int.reduceEq, Int.reduceLT, Int.reduceLE, Int.reduceNeg, Int.reduceSub, Int.reduceAdd, Int.reduceMul])
      · have := nd_eq h2 (.inr (by simpa using h0))
        simp [this]

theorem fsigned_ok (neg : Bool) (m k : Nat) (hm : m < Bs ^ k) (hk : k < 2 ^ 40) : Ok Tryz.prog 74 [.lf (.bool neg), .lf (.sl 1 k (du m k))] ⟨[.ag (eZ (if neg then -(m : Int) else m))], []⟩ := by
  rw [eZ_sg]
  refine ok_of_V (T := Tb) tb_ok mo Tryz.func74 rfl (by kernel_rfl) (by kernel_rfl) (by simp [Tryz.ntmps74, mts]) ?_
  simp (maxSteps := 4000000) (dsimp := false) (disch := omega) only [go_sem, eZ, ↓reduceIte, Nat.reduceEqDiff, Nat.reduceMul, Nat.reduceAdd, Nat.reduceSub, Nat.reduceLT, Nat.reduceLeDiff, Nat.reduceBEq, reduceCtorEq, Int.reduceToNat, Int.reduceEq, Int.reduceLT, Int.reduceLE, Int.reduceNeg, Int.reduceSub, Int.reduceAdd, Int.reduceMul, Tryz.results74]
  refine callK (ftrim_ok m k hm hk) ?_
  simp (maxSteps := 4000000) (dsimp := false) (disch := omega) only [go_sem, eZ, ↓reduceIte, Nat.reduceEqDiff, Nat.reduceMul, Nat.reduceAdd, Nat.reduceSub, Nat.reduceLT, Nat.reduceLeDiff, Nat.reduceBEq, reduceCtorEq, Int.reduceToNat, Int.reduceEq, Int.reduceLT, Int.reduceLE, Int.reduceNeg, Int.reduceSub, Int.reduceAdd, Int.reduceMul, Tryz.results74]
  have hz := nd_eq_zero (m := m)
  have e : decide ((nd m : Int) > 0) = decide (m ≠ 0) := by
    rw [decide_eq_decide]; omega
  refine ⟨fun h => ?_, fun h => ?_⟩
  · rw [e, h]; simp
  · rw [h]; simp

theorem flimbs_ok (m : Nat) (hm : m ≤ 18446744073709551615) : Ok Tryz.prog 75 [.lf (.int .u64 m)] ⟨[.own 1 (nd m) (du m (nd m))], []⟩ := by
  have hm3 : nd m ≤ 3 := nd_le (Nat.lt_of_le_of_lt hm (by decide))
  refine ok_of_V (T := Tb) tb_ok mo Tryz.func75 rfl (by kernel_rfl) (by kernel_rfl) (by simp [Tryz.ntmps75, mts]) ?_
  simp (maxSteps := 4000000) (dsimp := false) (disch := omega) only [go_sem, eZ, ↓reduceIte, Nat.reduceEqDiff, Nat.reduceMul, Nat.reduceAdd, Nat.reduceSub, Nat.reduceLT, Nat.reduceLeDiff, Nat.reduceBEq, reduceCtorEq, Int.reduceToNat, Int.reduceEq, Int.reduceLT, Int.reduceLE, Int.reduceNeg, Int.reduceSub, Int.reduceAdd, Int.reduceMul, Tryz.results75]
  refine vloop (α := Nat) (fun i => ⟨[(0, .lf (.int .u64 (m / Bs ^ i : Nat))), (3, .row 1024 1 0 i)], [(1024, ⟨1, i, du m i, 0⟩)]⟩) (fun i => i ≤ nd m) (fun i => nd m - i) 0 ?_ (Nat.zero_le _) ?_
  · rw [Nat.pow_zero, Nat.div_one]
    (refine weak' [] ?_; simp (maxSteps := 4000000) (dsimp := false) (disch := omega) only [slotsW, blksW, parW, List.map_cons, List.map_nil, renF, renA, idsIn, go_sem, eZ, ↓reduceIte, Nat.reduceEqDiff, Nat.reduceMul, Nat.reduceAdd, Nat.reduceSub, Nat.reduceLT, Nat.reduceLeDiff, Nat.reduceBEq, reduceCtorEq, Int.reduceToNat, Int.reduceEq, Int.reduceLT, Int.reduceLE, Int.reduceNeg, Int.reduceSub, Int.reduceAdd, Int.reduceMul])
  · intro i h1
    have hb : m / Bs ^ i ≤ 18446744073709551615 := Nat.le_trans (Nat.div_le_self _ _) hm
    have hi : ¬ m / Bs ^ i = 0 → i < nd m := nd_gt
    have hd : m / Bs ^ i % 1000000000 = dgt m i := rfl
    have hb2 : m / Bs ^ (i + 1) ≤ 18446744073709551615 := Nat.le_trans (Nat.div_le_self _ _) hm
    have hb3 : (0 : Int) ≤ ((m / Bs ^ (i + 1) : Nat) : Int) := Int.natCast_nonneg _
    simp (maxSteps := 4000000) (dsimp := false) (disch := omega) only [go_sem, eZ, ↓reduceIte, Nat.reduceEqDiff, Nat.reduceMul, Nat.reduceAdd, Nat.reduceSub, Nat.reduceLT, Nat.reduceLeDiff, Nat.reduceBEq, reduceCtorEq, Int.reduceToNat, Int.reduceEq, Int.reduceLT, Int.reduceLE, Int.reduceNeg, Int.reduceSub, Int.reduceAdd, Int.reduceMul, Tryz.results75, div_next, hd]
    refine ⟨fun h2 => ⟨by simp only [maxApp]; omega, i + 1, ?_, hi (fun h0 => by rw [h0] at h2; omega), by have := hi (fun h0 => by rw [h0] at h2; omega); omega⟩, fun h2 => ?_⟩
    · rw [du_succ m i]
      (refine weak' [(1024, 1088)] ?_; simp (maxSteps := 4000000) (dsimp := false) (disch := omega) only [slotsW, blksW, parW, List.map_cons, List.map_nil, renF, renA, idsIn, go_sem, eZ, ↓reduceIte, Nat.reduceEqDiff, Nat.reduceMul, Nat.reduceAdd, Nat.reduceSub, Nat.reduceLT, Nat.reduceLeDiff, Nat.reduceBEq, reduceCtorEq, Int.reduceToNat, Int.reduceEq, Int.reduceLT, Int.reduceLE, Int.reduceNeg, Int.reduceSub, Int.reduceAdd, Int.reduceMul])
    · have h3 : nd m ≤ i := nd_le ((Nat.div_eq_zero_iff_lt (Bp_pos i)).1 (by have hb4 : (0 : Int) ≤ ((m / Bs ^ i : Nat) : Int) := Int.natCast_nonneg _; omega))
      obtain rfl : i = nd m := by omega
      exact ⟨rfl, rfl⟩
theorem fshort_ok (m k : Nat) (hm : m < Bs ^ k) (hk : k ≤ 2) : Ok Tryz.prog 82 [.lf (.sl 1 k (du m k))] ⟨[.lf (.int .u64 m)], []⟩ := by
  have hm2 : m < 1000000000000000000 := Nat.lt_of_lt_of_le hm (Nat.le_trans (Nat.pow_le_pow_right Bs_pos hk) (by decide))
  refine ok_of_V (T := Tb) tb_ok mo Tryz.func82 rfl (by kernel_rfl) (by kernel_rfl) (by simp [Tryz.ntmps82, mts]) ?_
  simp (maxSteps := 4000000) (dsimp := false) (disch := omega) only [go_sem, eZ, ↓reduceIte, Nat.reduceEqDiff, Nat.reduceMul, Nat.reduceAdd, Nat.reduceSub, Nat.reduceLT, Nat.reduceLeDiff, Nat.reduceBEq, reduceCtorEq, Int.reduceToNat, Int.reduceEq, Int.reduceLT, Int.reduceLE, Int.reduceNeg, Int.reduceSub, Int.reduceAdd, Int.reduceMul, Tryz.results82]
  refine vloop (α := Nat) (fun i => ⟨[(0, .lf (.sl 1 k (du m k))), (3, .lf (.int .u64 (m / Bs ^ i : Nat))), (4, .lf (.int .i64 ((i : Int) - 1)))], []⟩) (fun i => i ≤ k) id k ?_ (Nat.le_refl _) ?_
  · rw [Nat.div_eq_of_lt hm]
    (refine weak' [] ?_; simp (maxSteps := 4000000) (dsimp := false) (disch := omega) only [slotsW, blksW, parW, List.map_cons, List.map_nil, renF, renA, idsIn, go_sem, eZ, ↓reduceIte, Nat.reduceEqDiff, Nat.reduceMul, Nat.reduceAdd, Nat.reduceSub, Nat.reduceLT, Nat.reduceLeDiff, Nat.reduceBEq, reduceCtorEq, Int.reduceToNat, Int.reduceEq, Int.reduceLT, Int.reduceLE, Int.reduceNeg, Int.reduceSub, Int.reduceAdd, Int.reduceMul])
  · intro i h1
    cases i with
    | zero =>
      simp (maxSteps := 4000000) (dsimp := false) (disch := omega) only [go_sem, eZ, ↓reduceIte, Nat.reduceEqDiff, Nat.reduceMul, Nat.reduceAdd, Nat.reduceSub, Nat.reduceLT, Nat.reduceLeDiff, Nat.reduceBEq, reduceCtorEq, Int.reduceToNat, Int.reduceEq, Int.reduceLT, Int.reduceLE, Int.reduceNeg, Int.reduceSub, Int.reduceAdd, Int.reduceMul, Tryz.results82, Nat.pow_zero, Nat.div_one, Int.reduceGE]
    | succ i =>
      have s1 := div_step m i
      have h2 : m / Bs ^ i ≤ m := Nat.div_le_self _ _
      simp only [Bs] at s1
      have hv : ((m / Bs ^ (i + 1) : Nat) : Int) * 1000000000 + (dgt m i : Int) = ((m / Bs ^ i : Nat) : Int) := by simp only [Bs]; omega
      have d1 := dgt_lt m i
      have hb : ((m / Bs ^ (i + 1) : Nat) : Int) * 1000000000 ≤ 1000000000000000000 := by omega
      have hb3 : (0 : Int) ≤ ((m / Bs ^ (i + 1) : Nat) : Int) := Int.natCast_nonneg _
      have hb4 : (0 : Int) ≤ ((m / Bs ^ i : Nat) : Int) := Int.natCast_nonneg _
      simp (maxSteps := 4000000) (dsimp := false) (disch := omega) only [go_sem, eZ, ↓reduceIte, Nat.reduceEqDiff, Nat.reduceMul, Nat.reduceAdd, Nat.reduceSub, Nat.reduceLT, Nat.reduceLeDiff, Nat.reduceBEq, reduceCtorEq, Int.reduceToNat, Int.reduceEq, Int.reduceLT, Int.reduceLE, Int.reduceNeg, Int.reduceSub, Int.reduceAdd, Int.reduceMul, Tryz.results82, hv]
      refine ⟨fun _ => ⟨by omega, by omega, i, ?_, by omega, by omega⟩, fun h => by omega⟩
      (refine weak' [] ?_; simp (maxSteps := 4000000) (dsimp := false) (disch := omega) only [slotsW, blksW, parW, List.map_cons, List.map_nil, renF, renA, idsIn, go_sem, eZ, ↓reduceIte, Nat.reduceEqDiff, Nat.reduceMul, Nat.reduceAdd, Nat.reduceSub, Nat.reduceLT, Nat.reduceLeDiff, Nat.reduceBEq, reduceCtorEq, Int.reduceToNat, Int.reduceEq, Int.reduceLT, Int.reduceLE, Int.reduceNeg, Int.reduceSub, Int.reduceAdd, Int.reduceMul])
theorem fcompare_ok (m n : Nat) (hm : nd m < 2 ^ 40) (hn : nd n < 2 ^ 40) : Ok Tryz.prog 77 [.lf (.sl 1 (nd m) (du m (nd m))), .lf (.sl 1 (nd n) (du n (nd n)))] ⟨[.lf (.int .i64 (cmpN m n))], []⟩ := by
  have hm' := nd_lt m
  have hn0 := nd_lt n
  refine ok_of_V (T := Tb) tb_ok mo Tryz.func77 rfl (by kernel_rfl) (by kernel_rfl) (by simp [Tryz.ntmps77, mts]) ?_
  simp (maxSteps := 4000000) (dsimp := false) (disch := omega) only [go_sem, eZ, ↓reduceIte, Nat.reduceEqDiff, Nat.reduceMul, Nat.reduceAdd, Nat.reduceSub, Nat.reduceLT, Nat.reduceLeDiff, Nat.reduceBEq, reduceCtorEq, Int.reduceToNat, Int.reduceEq, Int.reduceLT, Int.reduceLE, Int.reduceNeg, Int.reduceSub, Int.reduceAdd, Int.reduceMul, Tryz.results77]
  refine ⟨fun hne => ⟨fun h => ?_, fun h => ?_⟩, fun he => ?_⟩
  · have := lt_of_nd (show nd m < nd n by omega)
    simp [cmpN, this]
  · have := lt_of_nd (show nd n < nd m by simp at hne; omega)
    simp [cmpN, this]; omega
  · have he : nd n = nd m := by
      have : (nd m : Int) = nd n := by simpa using he
      omega
    rw [he]
    refine vloop (α := Nat) (fun i => ⟨[(0, .lf (.sl 1 (nd m) (du m (nd m)))), (1, .lf (.sl 1 (nd m) (du n (nd m)))), (5, .lf (.int .i64 ((i : Int) - 1)))], []⟩) (fun i => i ≤ nd m ∧ m / Bs ^ i = n / Bs ^ i) id (nd m) ?_ ⟨Nat.le_refl _, ?_⟩ ?_
    · (refine weak' [] ?_; simp (maxSteps := 4000000) (dsimp := false) (disch := omega) only [slotsW, blksW, parW, List.map_cons, List.map_nil, renF, renA, idsIn, go_sem, eZ, ↓reduceIte, Nat.reduceEqDiff, Nat.reduceMul, Nat.reduceAdd, Nat.reduceSub, Nat.reduceLT, Nat.reduceLeDiff, Nat.reduceBEq, reduceCtorEq, Int.reduceToNat, Int.reduceEq, Int.reduceLT, Int.reduceLE, Int.reduceNeg, Int.reduceSub, Int.reduceAdd, Int.reduceMul])
    · rw [Nat.div_eq_of_lt (nd_lt m), Nat.div_eq_of_lt (he ▸ nd_lt n)]
    · have hn' : n < Bs ^ nd m := he ▸ nd_lt n
      intro i ⟨h1, h2⟩
      cases i with
      | zero =>
        simp (maxSteps := 4000000) (dsimp := false) (disch := omega) only [go_sem, eZ, ↓reduceIte, Nat.reduceEqDiff, Nat.reduceMul, Nat.reduceAdd, Nat.reduceSub, Nat.reduceLT, Nat.reduceLeDiff, Nat.reduceBEq, reduceCtorEq, Int.reduceToNat, Int.reduceEq, Int.reduceLT, Int.reduceLE, Int.reduceNeg, Int.reduceSub, Int.reduceAdd, Int.reduceMul, Tryz.results77]
        have : m = n := by simpa using h2
        refine ⟨by omega, fun _ => by simp [cmpN, this]⟩
      | succ i =>
        simp (maxSteps := 4000000) (dsimp := false) (disch := omega) only [go_sem, eZ, ↓reduceIte, Nat.reduceEqDiff, Nat.reduceMul, Nat.reduceAdd, Nat.reduceSub, Nat.reduceLT, Nat.reduceLeDiff, Nat.reduceBEq, reduceCtorEq, Int.reduceToNat, Int.reduceEq, Int.reduceLT, Int.reduceLE, Int.reduceNeg, Int.reduceSub, Int.reduceAdd, Int.reduceMul, Tryz.results77]
        have s1 := div_step m i
        have s2 := div_step n i
        refine ⟨fun _ => ⟨by omega, by omega, by omega, by omega, fun h => ?_, fun h => ⟨by omega, by omega, by omega, by omega, fun h' => ?_, fun h' => ⟨i, ?_, ⟨by omega, ?_⟩, by omega⟩⟩⟩, fun h => by omega⟩
        · have : m < n := div_lt_lt (i := i) (by rw [s1, s2, h2]; omega)
          simp [cmpN, this]
        · have : n < m := div_lt_lt (i := i) (by rw [s1, s2, h2]; omega)
          simp [cmpN, this]; omega
        · (refine weak' [] ?_; simp (maxSteps := 4000000) (dsimp := false) (disch := omega) only [slotsW, blksW, parW, List.map_cons, List.map_nil, renF, renA, idsIn, go_sem, eZ, ↓reduceIte, Nat.reduceEqDiff, Nat.reduceMul, Nat.reduceAdd, Nat.reduceSub, Nat.reduceLT, Nat.reduceLeDiff, Nat.reduceBEq, reduceCtorEq, Int.reduceToNat, Int.reduceEq, Int.reduceLT, Int.reduceLE, Int.reduceNeg, Int.reduceSub, Int.reduceAdd, Int.reduceMul])
        · rw [s1, s2, h2]; omega
theorem fplus_ok (m k n j : Nat) (hm : m < Bs ^ k) (hk : k < 2 ^ 39) (hn : n < Bs ^ j) (hj : j < 2 ^ 39) : Ok Tryz.prog 107 [.lf (.sl 1 k (du m k)), .lf (.sl 1 j (du n j))] ⟨[.lf (.sl 1 (nd (m + n)) (du (m + n) (nd (m + n))))], []⟩ := by
  refine ok_of_V (T := Tb) tb_ok mo Tryz.func107 rfl (by kernel_rfl) (by kernel_rfl) (by simp [Tryz.ntmps107, mts]) ?_
  simp (maxSteps := 4000000) (dsimp := false) (disch := omega) only [go_sem, eZ, ↓reduceIte, Nat.reduceEqDiff, Nat.reduceMul, Nat.reduceAdd, Nat.reduceSub, Nat.reduceLT, Nat.reduceLeDiff, Nat.reduceBEq, reduceCtorEq, Int.reduceToNat, Int.reduceEq, Int.reduceLT, Int.reduceLE, Int.reduceNeg, Int.reduceSub, Int.reduceAdd, Int.reduceMul, Tryz.results107]
  refine ⟨fun h => ⟨by simp only [maxApp]; omega, ?_⟩, fun h => ⟨by simp only [maxApp]; omega, ?_⟩⟩
  · rw [Nat.add_comm m n]
    refine vloop (α := Nat) (fun i => ⟨[(0, .lf (.sl 1 j (du n j))), (1, .lf (.sl 1 k (du m k))), (5, .row 1144 1 0 (j + 1)), (6, .lf (.int .u32 (cy n m i))), (7, .lf (.int .i64 i))], [(1144, ⟨1, j + 1, dm (n + m) 0 i (j + 1), 0⟩)]⟩) (fun i => i ≤ j) (fun i => j - i) 0 ?_ (Nat.zero_le _) ?_
    · rw [cy_zero, dm_zero, du0_cons]
      (refine weak' [] ?_; simp (maxSteps := 4000000) (dsimp := false) (disch := omega) only [slotsW, blksW, parW, List.map_cons, List.map_nil, renF, renA, idsIn, go_sem, eZ, ↓reduceIte, Nat.reduceEqDiff, Nat.reduceMul, Nat.reduceAdd, Nat.reduceSub, Nat.reduceLT, Nat.reduceLeDiff, Nat.reduceBEq, reduceCtorEq, Int.reduceToNat, Int.reduceEq, Int.reduceLT, Int.reduceLE, Int.reduceNeg, Int.reduceSub, Int.reduceAdd, Int.reduceMul])
    · intro i h1
      have c1 := cy_le n m i
      have d1 := dgt_lt n i
      have d2 := dgt_lt m i
      simp (maxSteps := 4000000) (dsimp := false) (disch := omega) only [go_sem, eZ, ↓reduceIte, Nat.reduceEqDiff, Nat.reduceMul, Nat.reduceAdd, Nat.reduceSub, Nat.reduceLT, Nat.reduceLeDiff, Nat.reduceBEq, reduceCtorEq, Int.reduceToNat, Int.reduceEq, Int.reduceLT, Int.reduceLE, Int.reduceNeg, Int.reduceSub, Int.reduceAdd, Int.reduceMul, Tryz.results107, tdiv_B2, tdiv_B3, tmod_B2, tmod_B3]
      have e1 := dgt_add n m i
      have e2 := cy_succ n m i
      simp only [Bs] at e1 e2
      have z : ¬ (i : Int) < k → dgt m i = 0 := fun h => dgt_top hm (by omega)
      refine ⟨fun h2 => ⟨by omega, by omega, fun h3 => ⟨by omega, by omega, by omega, by omega, i + 1, ?_, by omega, by omega⟩, fun h3 => ⟨by omega, by omega, i + 1, ?_, by omega, by omega⟩⟩, fun h2 => ⟨by omega, ?_⟩⟩
      · (refine weak' [] ?_; simp (maxSteps := 4000000) (dsimp := false) (disch := omega) only [slotsW, blksW, parW, List.map_cons, List.map_nil, renF, renA, idsIn, go_sem, eZ, ↓reduceIte, Nat.reduceEqDiff, Nat.reduceMul, Nat.reduceAdd, Nat.reduceSub, Nat.reduceLT, Nat.reduceLeDiff, Nat.reduceBEq, reduceCtorEq, Int.reduceToNat, Int.reduceEq, Int.reduceLT, Int.reduceLE, Int.reduceNeg, Int.reduceSub, Int.reduceAdd, Int.reduceMul])
        refine ⟨by omega, ?_⟩
        exact dm_splice (by omega) (by omega) (fun _ _ => rfl)
      · have e3 := z h3
        (refine weak' [] ?_; simp (maxSteps := 4000000) (dsimp := false) (disch := omega) only [slotsW, blksW, parW, List.map_cons, List.map_nil, renF, renA, idsIn, go_sem, eZ, ↓reduceIte, Nat.reduceEqDiff, Nat.reduceMul, Nat.reduceAdd, Nat.reduceSub, Nat.reduceLT, Nat.reduceLeDiff, Nat.reduceBEq, reduceCtorEq, Int.reduceToNat, Int.reduceEq, Int.reduceLT, Int.reduceLE, Int.reduceNeg, Int.reduceSub, Int.reduceAdd, Int.reduceMul])
        refine ⟨by omega, ?_⟩
        exact dm_splice (by omega) (by omega) (fun _ _ => rfl)
      · have hlt : n + m < Bs ^ (j + 1) := by
          have h0 := Nat.lt_of_lt_of_le hm (Nat.pow_le_pow_right Bs_pos (show k ≤ j by omega))
          rw [Nat.pow_succ]; simp only [Bs] at *; omega
        obtain rfl : i = j := by omega
        rw [dm_splice (a' := n + m) (by omega) (by rw [dgt_add_top hn (Nat.lt_of_lt_of_le hm (Nat.pow_le_pow_right Bs_pos (by omega)))]) (fun _ _ => rfl), dm_full]
        refine callK (ftrim_ok (n + m) (i + 1) hlt (by omega)) ?_
        simp (maxSteps := 4000000) (dsimp := false) (disch := omega) only [go_sem, eZ, ↓reduceIte, Nat.reduceEqDiff, Nat.reduceMul, Nat.reduceAdd, Nat.reduceSub, Nat.reduceLT, Nat.reduceLeDiff, Nat.reduceBEq, reduceCtorEq, Int.reduceToNat, Int.reduceEq, Int.reduceLT, Int.reduceLE, Int.reduceNeg, Int.reduceSub, Int.reduceAdd, Int.reduceMul, Tryz.results107]
  · skip
    refine vloop (α := Nat) (fun i => ⟨[(0, .lf (.sl 1 k (du m k))), (1, .lf (.sl 1 j (du n j))), (5, .row 1144 1 0 (k + 1)), (6, .lf (.int .u32 (cy m n i))), (7, .lf (.int .i64 i))], [(1144, ⟨1, k + 1, dm (m + n) 0 i (k + 1), 0⟩)]⟩) (fun i => i ≤ k) (fun i => k - i) 0 ?_ (Nat.zero_le _) ?_
    · rw [cy_zero, dm_zero, du0_cons]
      (refine weak' [] ?_; simp (maxSteps := 4000000) (dsimp := false) (disch := omega) only [slotsW, blksW, parW, List.map_cons, List.map_nil, renF, renA, idsIn, go_sem, eZ, ↓reduceIte, Nat.reduceEqDiff, Nat.reduceMul, Nat.reduceAdd, Nat.reduceSub, Nat.reduceLT, Nat.reduceLeDiff, Nat.reduceBEq, reduceCtorEq, Int.reduceToNat, Int.reduceEq, Int.reduceLT, Int.reduceLE, Int.reduceNeg, Int.reduceSub, Int.reduceAdd, Int.reduceMul])
    · intro i h1
      have c1 := cy_le m n i
      have d1 := dgt_lt m i
      have d2 := dgt_lt n i
      simp (maxSteps := 4000000) (dsimp := false) (disch := omega) only [go_sem, eZ, ↓reduceIte, Nat.reduceEqDiff, Nat.reduceMul, Nat.reduceAdd, Nat.reduceSub, Nat.reduceLT, Nat.reduceLeDiff, Nat.reduceBEq, reduceCtorEq, Int.reduceToNat, Int.reduceEq, Int.reduceLT, Int.reduceLE, Int.reduceNeg, Int.reduceSub, Int.reduceAdd, Int.reduceMul, Tryz.results107, tdiv_B2, tdiv_B3, tmod_B2, tmod_B3]
      have e1 := dgt_add m n i
      have e2 := cy_succ m n i
      simp only [Bs] at e1 e2
      have z : ¬ (i : Int) < j → dgt n i = 0 := fun h => dgt_top hn (by omega)
      refine ⟨fun h2 => ⟨by omega, by omega, fun h3 => ⟨by omega, by omega, by omega, by omega, i + 1, ?_, by omega, by omega⟩, fun h3 => ⟨by omega, by omega, i + 1, ?_, by omega, by omega⟩⟩, fun h2 => ⟨by omega, ?_⟩⟩
      · (refine weak' [] ?_; simp (maxSteps := 4000000) (dsimp := false) (disch := omega) only [slotsW, blksW, parW, List.map_cons, List.map_nil, renF, renA, idsIn, go_sem, eZ, ↓reduceIte, Nat.reduceEqDiff, Nat.reduceMul, Nat.reduceAdd, Nat.reduceSub, Nat.reduceLT, Nat.reduceLeDiff, Nat.reduceBEq, reduceCtorEq, Int.reduceToNat, Int.reduceEq, Int.reduceLT, Int.reduceLE, Int.reduceNeg, Int.reduceSub, Int.reduceAdd, Int.reduceMul])
        refine ⟨by omega, ?_⟩
        exact dm_splice (by omega) (by omega) (fun _ _ => rfl)
      · have e3 := z h3
        (refine weak' [] ?_; simp (maxSteps := 4000000) (dsimp := false) (disch := omega) only [slotsW, blksW, parW, List.map_cons, List.map_nil, renF, renA, idsIn, go_sem, eZ, ↓reduceIte, Nat.reduceEqDiff, Nat.reduceMul, Nat.reduceAdd, Nat.reduceSub, Nat.reduceLT, Nat.reduceLeDiff, Nat.reduceBEq, reduceCtorEq, Int.reduceToNat, Int.reduceEq, Int.reduceLT, Int.reduceLE, Int.reduceNeg, Int.reduceSub, Int.reduceAdd, Int.reduceMul])
        refine ⟨by omega, ?_⟩
        exact dm_splice (by omega) (by omega) (fun _ _ => rfl)
      · have hlt : m + n < Bs ^ (k + 1) := by
          have h0 := Nat.lt_of_lt_of_le hn (Nat.pow_le_pow_right Bs_pos (show j ≤ k by omega))
          rw [Nat.pow_succ]; simp only [Bs] at *; omega
        obtain rfl : i = k := by omega
        rw [dm_splice (a' := m + n) (by omega) (by rw [dgt_add_top hm (Nat.lt_of_lt_of_le hn (Nat.pow_le_pow_right Bs_pos (by omega)))]) (fun _ _ => rfl), dm_full]
        refine callK (ftrim_ok (m + n) (i + 1) hlt (by omega)) ?_
        simp (maxSteps := 4000000) (dsimp := false) (disch := omega) only [go_sem, eZ, ↓reduceIte, Nat.reduceEqDiff, Nat.reduceMul, Nat.reduceAdd, Nat.reduceSub, Nat.reduceLT, Nat.reduceLeDiff, Nat.reduceBEq, reduceCtorEq, Int.reduceToNat, Int.reduceEq, Int.reduceLT, Int.reduceLE, Int.reduceNeg, Int.reduceSub, Int.reduceAdd, Int.reduceMul, Tryz.results107]
theorem fminus_ok (d n k j : Nat) (hm : d + n < Bs ^ k) (hk : k < 2 ^ 40) (hn : n < Bs ^ j) (hj : j < 2 ^ 40) : Ok Tryz.prog 98 [.lf (.sl 1 k (du (d + n) k)), .lf (.sl 1 j (du n j))] ⟨[.lf (.sl 1 (nd d) (du d (nd d)))], []⟩ := by
  refine ok_of_V (T := Tb) tb_ok mo Tryz.func98 rfl (by kernel_rfl) (by kernel_rfl) (by simp [Tryz.ntmps98, mts]) ?_
  simp (maxSteps := 4000000) (dsimp := false) (disch := omega) only [go_sem, eZ, ↓reduceIte, Nat.reduceEqDiff, Nat.reduceMul, Nat.reduceAdd, Nat.reduceSub, Nat.reduceLT, Nat.reduceLeDiff, Nat.reduceBEq, reduceCtorEq, Int.reduceToNat, Int.reduceEq, Int.reduceLT, Int.reduceLE, Int.reduceNeg, Int.reduceSub, Int.reduceAdd, Int.reduceMul, Tryz.results98]
  refine ⟨by simp only [maxApp]; omega, ?_⟩
  refine vloop (α := Nat) (fun i => ⟨[(0, .lf (.sl 1 k (du (d + n) k))), (1, .lf (.sl 1 j (du n j))), (5, .row 1088 1 0 k), (6, .lf (.int .u32 (cy d n i))), (7, .lf (.int .i64 i))], [(1088, ⟨1, k, dm d 0 i k, 0⟩)]⟩) (fun i => i ≤ k) (fun i => k - i) 0 ?_ (Nat.zero_le _) ?_
  · rw [cy_zero, dm_zero]
    (refine weak' [] ?_; simp (maxSteps := 4000000) (dsimp := false) (disch := omega) only [slotsW, blksW, parW, List.map_cons, List.map_nil, renF, renA, idsIn, go_sem, eZ, ↓reduceIte, Nat.reduceEqDiff, Nat.reduceMul, Nat.reduceAdd, Nat.reduceSub, Nat.reduceLT, Nat.reduceLeDiff, Nat.reduceBEq, reduceCtorEq, Int.reduceToNat, Int.reduceEq, Int.reduceLT, Int.reduceLE, Int.reduceNeg, Int.reduceSub, Int.reduceAdd, Int.reduceMul])
  · intro i h1
    have c1 := cy_le d n i
    have d1 := dgt_lt (d + n) i
    have d2 := dgt_lt n i
    have d3 := dgt_lt d i
    have c2 := cy_le d n (i + 1)
    have e1 := sub_step d n i
    have z : ¬ (i : Int) < j → dgt n i = 0 := fun h => dgt_top hn (by omega)
    simp (maxSteps := 4000000) (dsimp := false) (disch := omega) only [go_sem, eZ, ↓reduceIte, Nat.reduceEqDiff, Nat.reduceMul, Nat.reduceAdd, Nat.reduceSub, Nat.reduceLT, Nat.reduceLeDiff, Nat.reduceBEq, reduceCtorEq, Int.reduceToNat, Int.reduceEq, Int.reduceLT, Int.reduceLE, Int.reduceNeg, Int.reduceSub, Int.reduceAdd, Int.reduceMul, Tryz.results98]
    refine ⟨fun h2 => ⟨by omega, by omega, fun h3 => ⟨by omega, by omega, fun h4 => ⟨by omega, by omega, i + 1, ?_, by omega, by omega⟩, fun h4 => ⟨by omega, by omega, i + 1, ?_, by omega, by omega⟩⟩,
      fun h3 => ⟨fun h4 => ⟨by omega, by omega, i + 1, ?_, by omega, by omega⟩, fun h4 => ⟨by omega, by omega, i + 1, ?_, by omega, by omega⟩⟩⟩, fun h2 => ?_⟩
    · (refine weak' [] ?_; simp (maxSteps := 4000000) (dsimp := false) (disch := omega) only [slotsW, blksW, parW, List.map_cons, List.map_nil, renF, renA, idsIn, go_sem, eZ, ↓reduceIte, Nat.reduceEqDiff, Nat.reduceMul, Nat.reduceAdd, Nat.reduceSub, Nat.reduceLT, Nat.reduceLeDiff, Nat.reduceBEq, reduceCtorEq, Int.reduceToNat, Int.reduceEq, Int.reduceLT, Int.reduceLE, Int.reduceNeg, Int.reduceSub, Int.reduceAdd, Int.reduceMul])
      exact ⟨by omega, dm_splice (by omega) (by omega) (fun _ _ => rfl)⟩
    · (refine weak' [] ?_; simp (maxSteps := 4000000) (dsimp := false) (disch := omega) only [slotsW, blksW, parW, List.map_cons, List.map_nil, renF, renA, idsIn, go_sem, eZ, ↓reduceIte, Nat.reduceEqDiff, Nat.reduceMul, Nat.reduceAdd, Nat.reduceSub, Nat.reduceLT, Nat.reduceLeDiff, Nat.reduceBEq, reduceCtorEq, Int.reduceToNat, Int.reduceEq, Int.reduceLT, Int.reduceLE, Int.reduceNeg, Int.reduceSub, Int.reduceAdd, Int.reduceMul])
      exact ⟨by omega, dm_splice (by omega) (by omega) (fun _ _ => rfl)⟩
    · have e3 := z h3
      (refine weak' [] ?_; simp (maxSteps := 4000000) (dsimp := false) (disch := omega) only [slotsW, blksW, parW, List.map_cons, List.map_nil, renF, renA, idsIn, go_sem, eZ, ↓reduceIte, Nat.reduceEqDiff, Nat.reduceMul, Nat.reduceAdd, Nat.reduceSub, Nat.reduceLT, Nat.reduceLeDiff, Nat.reduceBEq, reduceCtorEq, Int.reduceToNat, Int.reduceEq, Int.reduceLT, Int.reduceLE, Int.reduceNeg, Int.reduceSub, Int.reduceAdd, Int.reduceMul])
      exact ⟨by omega, dm_splice (by omega) (by omega) (fun _ _ => rfl)⟩
    · have e3 := z h3
      (refine weak' [] ?_; simp (maxSteps := 4000000) (dsimp := false) (disch := omega) only [slotsW, blksW, parW, List.map_cons, List.map_nil, renF, renA, idsIn, go_sem, eZ, ↓reduceIte, Nat.reduceEqDiff, Nat.reduceMul, Nat.reduceAdd, Nat.reduceSub, Nat.reduceLT, Nat.reduceLeDiff, Nat.reduceBEq, reduceCtorEq, Int.reduceToNat, Int.reduceEq, Int.reduceLT, Int.reduceLE, Int.reduceNeg, Int.reduceSub, Int.reduceAdd, Int.reduceMul])
      exact ⟨by omega, dm_splice (by omega) (by omega) (fun _ _ => rfl)⟩
    · obtain rfl : i = k := by omega
      rw [dm_full d 0 i]
      refine callK (ftrim_ok d i (Nat.lt_of_le_of_lt (by omega) hm) hk) ?_
      simp (maxSteps := 4000000) (dsimp := false) (disch := omega) only [go_sem, eZ, ↓reduceIte, Nat.reduceEqDiff, Nat.reduceMul, Nat.reduceAdd, Nat.reduceSub, Nat.reduceLT, Nat.reduceLeDiff, Nat.reduceBEq, reduceCtorEq, Int.reduceToNat, Int.reduceEq, Int.reduceLT, Int.reduceLE, Int.reduceNeg, Int.reduceSub, Int.reduceAdd, Int.reduceMul, Tryz.results98]
theorem ftimes_ok (m n k j : Nat) (hm : m < Bs ^ k) (hk : k < 2 ^ 39) (hn : n < Bs ^ j) (hj : j < 2 ^ 39) : Ok Tryz.prog 78 [.lf (.sl 1 k (du m k)), .lf (.sl 1 j (du n j))] ⟨[.lf (.sl 1 (nd (m * n)) (du (m * n) (nd (m * n))))], []⟩ := by
  refine ok_of_V (T := Tb) tb_ok mo Tryz.func78 rfl (by kernel_rfl) (by kernel_rfl) (by simp [Tryz.ntmps78, mts]) ?_
  simp (maxSteps := 4000000) (dsimp := false) (disch := omega) only [go_sem, eZ, ↓reduceIte, Nat.reduceEqDiff, Nat.reduceMul, Nat.reduceAdd, Nat.reduceSub, Nat.reduceLT, Nat.reduceLeDiff, Nat.reduceBEq, reduceCtorEq, Int.reduceToNat, Int.reduceEq, Int.reduceLT, Int.reduceLE, Int.reduceNeg, Int.reduceSub, Int.reduceAdd, Int.reduceMul, Tryz.results78]
  refine ⟨by simp only [maxApp]; omega, ?_⟩
  refine vloop (α := Nat) (fun i => ⟨[(0, .lf (.sl 1 k (du m k))), (1, .lf (.sl 1 j (du n j))), (5, .row 1112 1 0 (k + j)), (6, .lf (.int .i64 i))], [(1112, ⟨1, k + j, du (rowR m n i) (k + j), 0⟩)]⟩) (fun i => i ≤ k) (fun i => k - i) 0 ?_ (Nat.zero_le _) ?_
  · rw [show rowR m n 0 = 0 by simp [rowR, Nat.mod_one]]
    (refine weak' [] ?_; simp (maxSteps := 4000000) (dsimp := false) (disch := omega) only [slotsW, blksW, parW, List.map_cons, List.map_nil, renF, renA, idsIn, go_sem, eZ, ↓reduceIte, Nat.reduceEqDiff, Nat.reduceMul, Nat.reduceAdd, Nat.reduceSub, Nat.reduceLT, Nat.reduceLeDiff, Nat.reduceBEq, reduceCtorEq, Int.reduceToNat, Int.reduceEq, Int.reduceLT, Int.reduceLE, Int.reduceNeg, Int.reduceSub, Int.reduceAdd, Int.reduceMul])
  · intro i h1
    have d1 := dgt_lt m i
    simp (maxSteps := 4000000) (dsimp := false) (disch := omega) only [go_sem, eZ, ↓reduceIte, Nat.reduceEqDiff, Nat.reduceMul, Nat.reduceAdd, Nat.reduceSub, Nat.reduceLT, Nat.reduceLeDiff, Nat.reduceBEq, reduceCtorEq, Int.reduceToNat, Int.reduceEq, Int.reduceLT, Int.reduceLE, Int.reduceNeg, Int.reduceSub, Int.reduceAdd, Int.reduceMul, Tryz.results78]
    refine ⟨fun h2 => ?_, fun h2 => ?_⟩
    · refine vloop (α := Nat) (fun p => ⟨[(0, .lf (.sl 1 k (du m k))), (1, .lf (.sl 1 j (du n j))), (5, .row 1112 1 0 (k + j)), (6, .lf (.int .i64 i)), (7, .lf (.int .u64 (rowC m n i p))), (8, .lf (.int .i64 p))],
        [(1112, ⟨1, k + j, dm (rowT m n i p) (rowR m n i) (i + p) (k + j), 0⟩)]⟩) (fun p => p ≤ j) (fun p => j - p) 0 ?_ (Nat.zero_le _) ?_
      · rw [rowC_zero, Nat.add_zero, show dm (rowT m n i 0) (rowR m n i) i (k + j) = du (rowR m n i) (k + j) by rw [rowT_zero]; simp [dm, du]]
        (refine weak' [] ?_; simp (maxSteps := 4000000) (dsimp := false) (disch := omega) only [slotsW, blksW, parW, List.map_cons, List.map_nil, renF, renA, idsIn, go_sem, eZ, ↓reduceIte, Nat.reduceEqDiff, Nat.reduceMul, Nat.reduceAdd, Nat.reduceSub, Nat.reduceLT, Nat.reduceLeDiff, Nat.reduceBEq, reduceCtorEq, Int.reduceToNat, Int.reduceEq, Int.reduceLT, Int.reduceLE, Int.reduceNeg, Int.reduceSub, Int.reduceAdd, Int.reduceMul])
      · intro p h3
        have b1 := dgt_lt (rowR m n i) (i + p)
        have b2 := dgt_lt n p
        have b3 := rowC_le m n i p
        have b4 : (dgt m i : Int) * (dgt n p : Int) ≤ 999999998000000001 ∧ 0 ≤ (dgt m i : Int) * (dgt n p : Int) := by
          have : dgt m i * dgt n p ≤ 999999999 * 999999999 := Nat.mul_le_mul (by omega) (by omega)
          have e : ((dgt m i * dgt n p : Nat) : Int) = (dgt m i : Int) * (dgt n p : Int) := by simp
          omega
        have hv : (rowC m n i p : Int) + (dgt (rowR m n i) (i + p) : Int) + (dgt m i : Int) * (dgt n p : Int) = (rowV m n i p : Nat) := by simp [rowV]; omega
        simp (maxSteps := 4000000) (dsimp := false) (disch := omega) only [go_sem, eZ, ↓reduceIte, Nat.reduceEqDiff, Nat.reduceMul, Nat.reduceAdd, Nat.reduceSub, Nat.reduceLT, Nat.reduceLeDiff, Nat.reduceBEq, reduceCtorEq, Int.reduceToNat, Int.reduceEq, Int.reduceLT, Int.reduceLE, Int.reduceNeg, Int.reduceSub, Int.reduceAdd, Int.reduceMul, Tryz.results78, dm_get, hv]
        refine ⟨fun h4 => ?_, fun h4 => ?_⟩
        · repeat refine And.intro (by omega) ?_
          refine ⟨p + 1, ?_, by omega, by omega⟩
          (refine weak' [] ?_; simp (maxSteps := 4000000) (dsimp := false) (disch := omega) only [slotsW, blksW, parW, List.map_cons, List.map_nil, renF, renA, idsIn, go_sem, eZ, ↓reduceIte, Nat.reduceEqDiff, Nat.reduceMul, Nat.reduceAdd, Nat.reduceSub, Nat.reduceLT, Nat.reduceLeDiff, Nat.reduceBEq, reduceCtorEq, Int.reduceToNat, Int.reduceEq, Int.reduceLT, Int.reduceLE, Int.reduceNeg, Int.reduceSub, Int.reduceAdd, Int.reduceMul])
          rw [row_carry]
          exact ⟨rfl, dm_splice (by omega) (by rw [row_dgt]) (fun r hr => row_low hr)⟩
        · repeat refine And.intro (by omega) ?_
          refine ⟨i + 1, ?_, by omega, by omega⟩
          obtain rfl : p = j := by omega
          rw [row_end hn (by omega)]
          (refine weak' [] ?_; simp (maxSteps := 4000000) (dsimp := false) (disch := omega) only [slotsW, blksW, parW, List.map_cons, List.map_nil, renF, renA, idsIn, go_sem, eZ, ↓reduceIte, Nat.reduceEqDiff, Nat.reduceMul, Nat.reduceAdd, Nat.reduceSub, Nat.reduceLT, Nat.reduceLeDiff, Nat.reduceBEq, reduceCtorEq, Int.reduceToNat, Int.reduceEq, Int.reduceLT, Int.reduceLE, Int.reduceNeg, Int.reduceSub, Int.reduceAdd, Int.reduceMul])
    · obtain rfl : i = k := by omega
      have e : rowR m n i = m * n := by simp [rowR, Nat.mod_eq_of_lt hm]
      rw [e]
      refine callK (ftrim_ok (m * n) (i + j) (by rw [Nat.pow_add]; exact Nat.mul_lt_mul'' hm hn) (by omega)) ?_
      simp (maxSteps := 4000000) (dsimp := false) (disch := omega) only [go_sem, eZ, ↓reduceIte, Nat.reduceEqDiff, Nat.reduceMul, Nat.reduceAdd, Nat.reduceSub, Nat.reduceLT, Nat.reduceLeDiff, Nat.reduceBEq, reduceCtorEq, Int.reduceToNat, Int.reduceEq, Int.reduceLT, Int.reduceLE, Int.reduceNeg, Int.reduceSub, Int.reduceAdd, Int.reduceMul, Tryz.results78]
end Go.Proofs.YtdhgdpcmdmgchaaGreat.Fw
