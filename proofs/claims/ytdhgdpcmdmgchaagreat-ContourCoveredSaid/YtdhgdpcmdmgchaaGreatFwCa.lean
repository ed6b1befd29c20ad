/- Contracts: integers. Contracts: integers of 64 bits. Contracts: limbs. Conditions: none. -/
import Derived.Test.YtdhgdpcmdmgchaaGreatFwZ
import Derived.Test.YtdhgdpcmdmgchaaGreatFwTab
namespace Go.Proofs.YtdhgdpcmdmgchaaGreat.Fw
open Go Go.Proofs
set_option linter.unusedSimpArgs false
set_option linter.unusedVariables false
set_option maxHeartbeats 2000000
set_option maxRecDepth 10000

theorem signed_ok (neg : Bool) (m k : Nat) (hm : m < Bs ^ k) (hk : k < 2 ^ 40) : Ok Tryz.prog 60 [.lf (.bool neg), .lf (.sl 1 k (du m k))] ⟨[.ag [.bool (neg && decide (m ≠ 0)), .sl 1 (nd m) (du m (nd m))]], []⟩ := by
  refine ok_of_V (T := Tb) tb_ok mo Tryz.func60 rfl (by kernel_rfl) (by kernel_rfl) (by simp [Tryz.ntmps60, mts]) ?_
  simp (maxSteps := 4000000) (dsimp := false) (disch := omega) only [go_sem, eZ, ↓reduceIte, Nat.reduceEqDiff, Nat.reduceMul, Nat.reduceAdd, Nat.reduceSub, Nat.reduceLT, Nat.reduceLeDiff, Nat.reduceBEq, reduceCtorEq, Int.reduceToNat, Int.reduceEq, Int.reduceLT, Int.reduceLE, Int.reduceNeg, Int.reduceSub, Int.reduceAdd, Int.reduceMul, Tryz.results60]
  refine vloop (α := Nat) (fun i => ⟨[(0, .lf (.bool neg)), (1, .lf (.sl 1 k (du m k))), (4, .ad 1032 0), (5, .lf (.int .i64 i))], [(1032, { sz := 2, n := 1, cs := [L.bool false, L.sl 1 0 []], st := 1 })]⟩) (fun i => i ≤ k ∧ m < Bs ^ i) id k ?_ ⟨Nat.le_refl _, hm⟩ ?_
  · (refine weak' [] ?_; simp (maxSteps := 4000000) (dsimp := false) (disch := omega) only [slotsW, blksW, parW, List.map_cons, List.map_nil, renF, renA, idsIn, go_sem, eZ, ↓reduceIte, Nat.reduceEqDiff, Nat.reduceMul, Nat.reduceAdd, Nat.reduceSub, Nat.reduceLT, Nat.reduceLeDiff, Nat.reduceBEq, reduceCtorEq, Int.reduceToNat, Int.reduceEq, Int.reduceLT, Int.reduceLE, Int.reduceNeg, Int.reduceSub, Int.reduceAdd, Int.reduceMul])
  · intro i ⟨h1, h2⟩
    cases i with
    | zero =>
      have hm0 : m = 0 := by simpa using h2
      subst hm0
      simp (maxSteps := 4000000) (dsimp := false) (disch := omega) only [go_sem, eZ, ↓reduceIte, Nat.reduceEqDiff, Nat.reduceMul, Nat.reduceAdd, Nat.reduceSub, Nat.reduceLT, Nat.reduceLeDiff, Nat.reduceBEq, reduceCtorEq, Int.reduceToNat, Int.reduceEq, Int.reduceLT, Int.reduceLE, Int.reduceNeg, Int.reduceSub, Int.reduceAdd, Int.reduceMul, Tryz.results60]
      simp [nd_zero, du_zero]
    | succ i =>
      simp (maxSteps := 4000000) (dsimp := false) (disch := omega) only [go_sem, eZ, ↓reduceIte, Nat.reduceEqDiff, Nat.reduceMul, Nat.reduceAdd, Nat.reduceSub, Nat.reduceLT, Nat.reduceLeDiff, Nat.reduceBEq, reduceCtorEq, Int.reduceToNat, Int.reduceEq, Int.reduceLT, Int.reduceLE, Int.reduceNeg, Int.reduceSub, Int.reduceAdd, Int.reduceMul, Tryz.results60]
      have key : ¬ dgt m i = 0 → i + 1 = nd m ∧ m ≠ 0 := fun h => by
        have := nd_eq h2 (.inr h)
        refine ⟨this.symm, ?_⟩
        rintro rfl
        rw [nd_zero] at this; omega
      refine ⟨fun _ => ⟨by omega, by omega, fun h0 => ⟨i, ?_, ⟨by omega, pow_top h2 (by omega)⟩, by omega⟩, fun h0 => ?_⟩, fun h => by omega⟩
      · (refine weak' [] ?_; simp (maxSteps := 4000000) (dsimp := false) (disch := omega) only [slotsW, blksW, parW, List.map_cons, List.map_nil, renF, renA, idsIn, go_sem, eZ, ↓reduceIte, Nat.reduceEqDiff, Nat.reduceMul, Nat.reduceAdd, Nat.reduceSub, Nat.reduceLT, Nat.reduceLeDiff, Nat.reduceBEq, reduceCtorEq, Int.reduceToNat, Int.reduceEq, Int.reduceLT, Int.reduceLE, Int.reduceNeg, Int.reduceSub, Int.reduceAdd, Int.reduceMul])
      · obtain ⟨e1, e2⟩ := key (by omega)
        rw [← e1, du_seg h1]
        refine ⟨fun hn => ⟨by omega, ?_, rfl, rfl⟩, fun hn => ⟨by omega, ?_, rfl, rfl⟩⟩
        · simp [hn, e2] <;> omega
        · simp [hn]
end Go.Proofs.YtdhgdpcmdmgchaaGreat.Fw
namespace Go.Proofs.YtdhgdpcmdmgchaaGreat.Fw
open Go Go.Proofs
set_option linter.unusedSimpArgs false
set_option linter.unusedVariables false
set_option maxHeartbeats 2000000
set_option maxRecDepth 10000

theorem signed_eZ (neg : Bool) (m k : Nat) (hm : m < Bs ^ k) (hk : k < 2 ^ 40) : Ok Tryz.prog 60 [.lf (.bool neg), .lf (.sl 1 k (du m k))] ⟨[.ag (eZ (if neg then -(m : Int) else m))], []⟩ := by
  rw [eZ_sg]; exact signed_ok neg m k hm hk

theorem du_three (u : Nat) (hu : u ≤ 18446744073709551615) : du u 3 = [.int .u32 ((u % 1000000000 : Nat) : Int), .int .u32 ((u / 1000000000 % 1000000000 : Nat) : Int), .int .u32 ((u / 1000000000 / 1000000000 : Nat) : Int)] := by
  have e : u / 1000000000 ^ 2 % 1000000000 = u / 1000000000 / 1000000000 := by omega
  simp only [du, dgt, List.range_succ, List.range_zero, List.nil_append, List.cons_append, List.map_cons, List.map_nil, Nat.pow_zero, Nat.pow_one, Nat.div_one, e]

theorem split_ok (u : Nat) (hu : u ≤ 18446744073709551615) : Ok Tryz.prog 84 [.lf (.int .u64 u)] ⟨[.own 1 3 (du u 3)], []⟩ := by
  refine ok_of_V (T := Tb) tb_ok mo Tryz.func84 rfl (by kernel_rfl) (by kernel_rfl) (by simp [Tryz.ntmps84, mts]) ?_
  simp (maxSteps := 4000000) (dsimp := false) (disch := omega) only [go_sem, eZ, ↓reduceIte, Nat.reduceEqDiff, Nat.reduceMul, Nat.reduceAdd, Nat.reduceSub, Nat.reduceLT, Nat.reduceLeDiff, Nat.reduceBEq, reduceCtorEq, Int.reduceToNat, Int.reduceEq, Int.reduceLT, Int.reduceLE, Int.reduceNeg, Int.reduceSub, Int.reduceAdd, Int.reduceMul, Tryz.results84]
  rw [du_three u hu]

theorem FromInt64_ok (n : Int) (hn : -9223372036854775808 ≤ n ∧ n ≤ 9223372036854775807) : Ok Tryz.prog 63 [.lf (.int .i64 n)] ⟨[.ag (eZ n)], []⟩ := by
  refine ok_of_V (T := Tb) tb_ok mo Tryz.func63 rfl (by kernel_rfl) (by kernel_rfl) (by simp [Tryz.ntmps63, mts]) ?_
  simp (maxSteps := 4000000) (dsimp := false) (disch := omega) only [go_sem, eZ, ↓reduceIte, Nat.reduceEqDiff, Nat.reduceMul, Nat.reduceAdd, Nat.reduceSub, Nat.reduceLT, Nat.reduceLeDiff, Nat.reduceBEq, reduceCtorEq, Int.reduceToNat, Int.reduceEq, Int.reduceLT, Int.reduceLE, Int.reduceNeg, Int.reduceSub, Int.reduceAdd, Int.reduceMul, Tryz.results63]
  have e1 : n < 0 → IntKind.u64.wrap (0 - IntKind.u64.wrap n) = ((n.natAbs : Nat) : Int) := fun h => by
    have e : ∀ x : Int, IntKind.u64.wrap x = x % 18446744073709551616 := fun x => by simp [IntKind.wrap, IntKind.bits, IntKind.signed]
    rw [e, e]; omega
  have e2 : ¬ n < 0 → IntKind.u64.wrap n = ((n.natAbs : Nat) : Int) := fun h => by
    rw [wrap_u64 (by omega)]; omega
  have hlt : n.natAbs < Bs ^ 3 := by simp only [Bs]; omega
  have e3 : (if decide (n < 0) = true then -((n.natAbs : Nat) : Int) else (n.natAbs : Nat)) = n := by split <;> simp_all <;> omega
  refine ⟨fun h => ?_, fun h => ?_⟩
  · simp only [e1 h]
    refine callK (split_ok _ (by omega)) ?_
    simp (maxSteps := 4000000) (dsimp := false) (disch := omega) only [go_sem, eZ, ↓reduceIte, Nat.reduceEqDiff, Nat.reduceMul, Nat.reduceAdd, Nat.reduceSub, Nat.reduceLT, Nat.reduceLeDiff, Nat.reduceBEq, reduceCtorEq, Int.reduceToNat, Int.reduceEq, Int.reduceLT, Int.reduceLE, Int.reduceNeg, Int.reduceSub, Int.reduceAdd, Int.reduceMul, Tryz.results63]
    refine callK (signed_eZ (decide (n < 0)) n.natAbs 3 hlt (by omega)) ?_
    rw [e3]
    simp (maxSteps := 4000000) (dsimp := false) (disch := omega) only [go_sem, eZ, ↓reduceIte, Nat.reduceEqDiff, Nat.reduceMul, Nat.reduceAdd, Nat.reduceSub, Nat.reduceLT, Nat.reduceLeDiff, Nat.reduceBEq, reduceCtorEq, Int.reduceToNat, Int.reduceEq, Int.reduceLT, Int.reduceLE, Int.reduceNeg, Int.reduceSub, Int.reduceAdd, Int.reduceMul, Tryz.results63]
  · simp only [e2 h]
    refine callK (split_ok _ (by omega)) ?_
    simp (maxSteps := 4000000) (dsimp := false) (disch := omega) only [go_sem, eZ, ↓reduceIte, Nat.reduceEqDiff, Nat.reduceMul, Nat.reduceAdd, Nat.reduceSub, Nat.reduceLT, Nat.reduceLeDiff, Nat.reduceBEq, reduceCtorEq, Int.reduceToNat, Int.reduceEq, Int.reduceLT, Int.reduceLE, Int.reduceNeg, Int.reduceSub, Int.reduceAdd, Int.reduceMul, Tryz.results63]
    refine callK (signed_eZ (decide (n < 0)) n.natAbs 3 hlt (by omega)) ?_
    rw [e3]
    simp (maxSteps := 4000000) (dsimp := false) (disch := omega) only [go_sem, eZ, ↓reduceIte, Nat.reduceEqDiff, Nat.reduceMul, Nat.reduceAdd, Nat.reduceSub, Nat.reduceLT, Nat.reduceLeDiff, Nat.reduceBEq, reduceCtorEq, Int.reduceToNat, Int.reduceEq, Int.reduceLT, Int.reduceLE, Int.reduceNeg, Int.reduceSub, Int.reduceAdd, Int.reduceMul, Tryz.results63]

theorem Sign_ok (x : Int) : Ok Tryz.prog 45 [.ag (eZ x)] ⟨[.lf (.int .i64 x.sign)], []⟩ := by
  refine ok_of_V (T := Tb) tb_ok mo Tryz.func45 rfl (by kernel_rfl) (by kernel_rfl) (by simp [Tryz.ntmps45, mts]) ?_
  simp (maxSteps := 4000000) (dsimp := false) (disch := omega) only [go_sem, eZ, ↓reduceIte, Nat.reduceEqDiff, Nat.reduceMul, Nat.reduceAdd, Nat.reduceSub, Nat.reduceLT, Nat.reduceLeDiff, Nat.reduceBEq, reduceCtorEq, Int.reduceToNat, Int.reduceEq, Int.reduceLT, Int.reduceLE, Int.reduceNeg, Int.reduceSub, Int.reduceAdd, Int.reduceMul, Tryz.results45]
  refine ⟨fun h => (Int.sign_eq_neg_one_of_neg h).symm, fun h => ⟨fun h1 => ?_, fun h1 => ?_⟩⟩
  · have : x ≠ 0 := by rintro rfl; rw [show (0 : Int).natAbs = 0 from rfl, nd_zero] at h1; omega
    exact (Int.sign_eq_one_of_pos (by omega)).symm
  · have : nd x.natAbs = 0 := by omega
    have := nd_eq_zero.1 this
    have hx : x = 0 := by omega
    subst hx; rfl
end Go.Proofs.YtdhgdpcmdmgchaaGreat.Fw
namespace Go.Proofs.YtdhgdpcmdmgchaaGreat.Fw
open Go Go.Proofs
set_option linter.unusedSimpArgs false
set_option linter.unusedVariables false
set_option maxHeartbeats 2000000
set_option maxRecDepth 10000

theorem trim_ok (m k : Nat) (hm : m < Bs ^ k) (hk : k < 2 ^ 40) : Ok Tryz.prog 87 [.lf (.sl 1 k (du m k))] ⟨[.lf (.sl 1 (nd m) (du m (nd m)))], []⟩ := by
  refine ok_of_V (T := Tb) tb_ok mo Tryz.func87 rfl (by kernel_rfl) (by kernel_rfl) (by simp [Tryz.ntmps87, mts]) ?_
  simp (maxSteps := 4000000) (dsimp := false) (disch := omega) only [go_sem, eZ, ↓reduceIte, Nat.reduceEqDiff, Nat.reduceMul, Nat.reduceAdd, Nat.reduceSub, Nat.reduceLT, Nat.reduceLeDiff, Nat.reduceBEq, reduceCtorEq, Int.reduceToNat, Int.reduceEq, Int.reduceLT, Int.reduceLE, Int.reduceNeg, Int.reduceSub, Int.reduceAdd, Int.reduceMul, Tryz.results87]
  refine vloop (α := Nat) (fun i => ⟨[(0, .lf (.sl 1 i (du m i)))], []⟩) (fun i => i ≤ k ∧ m < Bs ^ i) id k ?_ ⟨Nat.le_refl _, hm⟩ ?_
  · (refine weak' [] ?_; simp (maxSteps := 4000000) (dsimp := false) (disch := omega) only [slotsW, blksW, parW, List.map_cons, List.map_nil, renF, renA, idsIn, go_sem, eZ, ↓reduceIte, Nat.reduceEqDiff, Nat.reduceMul, Nat.reduceAdd, Nat.reduceSub, Nat.reduceLT, Nat.reduceLeDiff, Nat.reduceBEq, reduceCtorEq, Int.reduceToNat, Int.reduceEq, Int.reduceLT, Int.reduceLE, Int.reduceNeg, Int.reduceSub, Int.reduceAdd, Int.reduceMul])
  · intro i ⟨h1, h2⟩
    cases i with
    | zero =>
      have hm0 : m = 0 := by simpa using h2
      subst hm0
      simp (maxSteps := 4000000) (dsimp := false) (disch := omega) only [go_sem, eZ, ↓reduceIte, Nat.reduceEqDiff, Nat.reduceMul, Nat.reduceAdd, Nat.reduceSub, Nat.reduceLT, Nat.reduceLeDiff, Nat.reduceBEq, reduceCtorEq, Int.reduceToNat, Int.reduceEq, Int.reduceLT, Int.reduceLE, Int.reduceNeg, Int.reduceSub, Int.reduceAdd, Int.reduceMul, Tryz.results87]
      simp [nd_zero, du_zero]
    | succ i =>
      simp (maxSteps := 4000000) (dsimp := false) (disch := omega) only [go_sem, eZ, ↓reduceIte, Nat.reduceEqDiff, Nat.reduceMul, Nat.reduceAdd, Nat.reduceSub, Nat.reduceLT, Nat.reduceLeDiff, Nat.reduceBEq, reduceCtorEq, Int.reduceToNat, Int.reduceEq, Int.reduceLT, Int.reduceLE, Int.reduceNeg, Int.reduceSub, Int.reduceAdd, Int.reduceMul, Tryz.results87]
      refine ⟨fun _ => ⟨by omega, fun h0 => ⟨by omega, i, ?_, ⟨by omega, pow_top h2 (by omega)⟩, by omega⟩, fun h0 => ?_⟩, fun h => by omega⟩
      · rw [du_seg (Nat.le_succ i)]
        (refine weak' [] ?_; simp (maxSteps := 4000000) (dsimp := false) (disch := omega) only [slotsW, blksW, parW, List.map_cons, List.map_nil, renF, renA, idsIn, go_sem, eZ, ↓reduceIte, Nat.reduceEqDiff, Nat.reduceMul, Nat.reduceAdd, Nat.reduceSub, Nat.reduceLT, Nat.reduceLeDiff, Nat.reduceBEq, reduceCtorEq, Int.reduceToNat, Int.reduceEq, Int.reduceLT, Int.reduceLE, Int.reduceNeg, Int.reduceSub, Int.reduceAdd, Int.reduceMul])
      · have := nd_eq h2 (.inr (by simpa using h0))
        simp [this]

theorem compare_ok (m k n j : Nat) (hm : m < Bs ^ k) (hk : k < 2 ^ 40) (hn : n < Bs ^ j) (hj : j < 2 ^ 40) : Ok Tryz.prog 65 [.lf (.sl 1 k (du m k)), .lf (.sl 1 j (du n j))] ⟨[.lf (.int .i64 (cmpN m n))], []⟩ := by
  refine ok_of_V (T := Tb) tb_ok mo Tryz.func65 rfl (by kernel_rfl) (by kernel_rfl) (by simp [Tryz.ntmps65, mts]) ?_
  simp (maxSteps := 4000000) (dsimp := false) (disch := omega) only [go_sem, eZ, ↓reduceIte, Nat.reduceEqDiff, Nat.reduceMul, Nat.reduceAdd, Nat.reduceSub, Nat.reduceLT, Nat.reduceLeDiff, Nat.reduceBEq, reduceCtorEq, Int.reduceToNat, Int.reduceEq, Int.reduceLT, Int.reduceLE, Int.reduceNeg, Int.reduceSub, Int.reduceAdd, Int.reduceMul, Tryz.results65]
  refine callK (trim_ok m k hm hk) ?_
  simp (maxSteps := 4000000) (dsimp := false) (disch := omega) only [go_sem, eZ, ↓reduceIte, Nat.reduceEqDiff, Nat.reduceMul, Nat.reduceAdd, Nat.reduceSub, Nat.reduceLT, Nat.reduceLeDiff, Nat.reduceBEq, reduceCtorEq, Int.reduceToNat, Int.reduceEq, Int.reduceLT, Int.reduceLE, Int.reduceNeg, Int.reduceSub, Int.reduceAdd, Int.reduceMul, Tryz.results65]
  refine callK (trim_ok n j hn hj) ?_
  have hkm := nd_le hm
  have hjn := nd_le hn
  simp (maxSteps := 4000000) (dsimp := false) (disch := omega) only [go_sem, eZ, ↓reduceIte, Nat.reduceEqDiff, Nat.reduceMul, Nat.reduceAdd, Nat.reduceSub, Nat.reduceLT, Nat.reduceLeDiff, Nat.reduceBEq, reduceCtorEq, Int.reduceToNat, Int.reduceEq, Int.reduceLT, Int.reduceLE, Int.reduceNeg, Int.reduceSub, Int.reduceAdd, Int.reduceMul, Tryz.results65]
  refine ⟨fun hne => ⟨fun h => ?_, fun h => ?_⟩, fun he => ?_⟩
  · have := lt_of_nd (show nd m < nd n by omega)
    simp [cmpN, this]
  · have := lt_of_nd (show nd n < nd m by simp at hne; omega)
    simp [cmpN, this]; omega
  · have he : nd n = nd m := by
      have : (nd m : Int) = nd n := by simpa using he
      omega
    rw [he]
    refine vloop (α := Nat) (fun i => ⟨[(0, .lf (.sl 1 (nd m) (du m (nd m)))), (1, .lf (.sl 1 (nd m) (du n (nd m)))), (5, .lf (.int .i64 ((i : Int) - 1)))], []⟩) (fun i => i ≤ nd m ∧ m / Bs ^ i = n / Bs ^ i) id (nd m) ?_ ⟨Nat.le_refl _, ?_⟩ ?_
    · (refine weak' [] ?_; simp (maxSteps := 4000000) (dsimp := false) (disch := omega) only [slotsW, blksW, parW, List.map_cons, List.map_nil, renF, renA, idsIn, go_sem, eZ, ↓reduceIte, Nat.reduceEqDiff, Nat.reduceMul, Nat.reduceAdd, Nat.reduceSub, Nat.reduceLT, Nat.reduceLeDiff, Nat.reduceBEq, reduceCtorEq, Int.reduceToNat, Int.reduceEq, Int.reduceLT, Int.reduceLE, Int.reduceNeg, Int.reduceSub, Int.reduceAdd, Int.reduceMul])
    · rw [Nat.div_eq_of_lt (nd_lt m), Nat.div_eq_of_lt (he ▸ nd_lt n)]
    · have hm' := nd_lt m
      have hn' : n < Bs ^ nd m := he ▸ nd_lt n
      intro i ⟨h1, h2⟩
      cases i with
      | zero =>
        simp (maxSteps := 4000000) (dsimp := false) (disch := omega) only [go_sem, eZ, ↓reduceIte, Nat.reduceEqDiff, Nat.reduceMul, Nat.reduceAdd, Nat.reduceSub, Nat.reduceLT, Nat.reduceLeDiff, Nat.reduceBEq, reduceCtorEq, Int.reduceToNat, Int.reduceEq, Int.reduceLT, Int.reduceLE, Int.reduceNeg, Int.reduceSub, Int.reduceAdd, Int.reduceMul, Tryz.results65]
        have : m = n := by simpa using h2
        refine ⟨by omega, fun _ => by simp [cmpN, this]⟩
      | succ i =>
        simp (maxSteps := 4000000) (dsimp := false) (disch := omega) only [go_sem, eZ, ↓reduceIte, Nat.reduceEqDiff, Nat.reduceMul, Nat.reduceAdd, Nat.reduceSub, Nat.reduceLT, Nat.reduceLeDiff, Nat.reduceBEq, reduceCtorEq, Int.reduceToNat, Int.reduceEq, Int.reduceLT, Int.reduceLE, Int.reduceNeg, Int.reduceSub, Int.reduceAdd, Int.reduceMul, Tryz.results65]
        have s1 := div_step m i
        have s2 := div_step n i
        refine ⟨fun _ => ⟨by omega, by omega, by omega, by omega, fun h => ?_, fun h => ⟨by omega, by omega, by omega, by omega, fun h' => ?_, fun h' => ⟨i, ?_, ⟨by omega, ?_⟩, by omega⟩⟩⟩, fun h => by omega⟩
        · have : m < n := div_lt_lt (i := i) (by rw [s1, s2, h2]; omega)
          simp [cmpN, this]
        · have : n < m := div_lt_lt (i := i) (by rw [s1, s2, h2]; omega)
          simp [cmpN, this]; omega
        · (refine weak' [] ?_; simp (maxSteps := 4000000) (dsimp := false) (disch := omega) only [slotsW, blksW, parW, List.map_cons, List.map_nil, renF, renA, idsIn, go_sem, eZ, ↓reduceIte, Nat.reduceEqDiff, Nat.reduceMul, Nat.reduceAdd, Nat.reduceSub, Nat.reduceLT, Nat.reduceLeDiff, Nat.reduceBEq, reduceCtorEq, Int.reduceToNat, Int.reduceEq, Int.reduceLT, Int.reduceLE, Int.reduceNeg, Int.reduceSub, Int.reduceAdd, Int.reduceMul])
        · rw [s1, s2, h2]; omega
end Go.Proofs.YtdhgdpcmdmgchaaGreat.Fw
