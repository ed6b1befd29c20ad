/- Contracts: the reference's fractions. Conditions: none. -/
import Derived.Test.YtdhgdpcmdmgchaaGreatFwRd
namespace Go.Proofs.YtdhgdpcmdmgchaaGreat.Fw
open Go Go.Proofs
set_option linter.unusedSimpArgs false
set_option linter.unusedVariables false
set_option maxHeartbeats 2000000
set_option maxRecDepth 10000

theorem funit_ok : Ok Tryz.prog 44 [] ⟨[.ag (eZ 1)], []⟩ := by
  refine ok_of_V (T := Tb) tb_ok mo Tryz.func44 rfl (by kernel_rfl) (by kernel_rfl) (by simp [Tryz.ntmps44, mts]) ?_
  simp (maxSteps := 4000000) (dsimp := false) (disch := omega) only [go_sem, ↓reduceIte, Nat.reduceEqDiff, Nat.reduceMul, Nat.reduceAdd, Nat.reduceSub, Nat.reduceLT, Nat.reduceLeDiff, Nat.reduceBEq, reduceCtorEq, Int.reduceToNat, Int.reduceEq, Int.reduceLT, Int.reduceLE, Int.reduceNeg, Int.reduceSub, Int.reduceAdd, Int.reduceMul, eZ_len, eR_len, seg_e, seg_ea, seg_en, seg_r, seg_ra, seg_rn, splice_e, splice_ea, splice_eaa, splice_en, splice_ec, splice_eca, splice_r, splice_ra, splice_raa, splice_rn, splice_rc, splice_rca, splice_nil, List.append_assoc, List.length_append, Tryz.results44]
  refine callK (fFromInt64_ok 1 (by omega)) ?_
  simp (maxSteps := 4000000) (dsimp := false) (disch := omega) only [go_sem, ↓reduceIte, Nat.reduceEqDiff, Nat.reduceMul, Nat.reduceAdd, Nat.reduceSub, Nat.reduceLT, Nat.reduceLeDiff, Nat.reduceBEq, reduceCtorEq, Int.reduceToNat, Int.reduceEq, Int.reduceLT, Int.reduceLE, Int.reduceNeg, Int.reduceSub, Int.reduceAdd, Int.reduceMul, eZ_len, eR_len, seg_e, seg_ea, seg_en, seg_r, seg_ra, seg_rn, splice_e, splice_ea, splice_eaa, splice_en, splice_ec, splice_eca, splice_r, splice_ra, splice_raa, splice_rn, splice_rc, splice_rca, splice_nil, List.append_assoc, List.length_append, Tryz.results44]

theorem FFromInt64_ok (n : Int) (hn : -9223372036854775808 ≤ n ∧ n ≤ 9223372036854775807) : Ok Tryz.prog 24 [.lf (.int .i64 n)] ⟨[.ag (eR (n : Rat))], []⟩ := by
  refine ok_of_V (T := Tb) tb_ok mo Tryz.func24 rfl (by kernel_rfl) (by kernel_rfl) (by simp [Tryz.ntmps24, mts]) ?_
  simp (maxSteps := 4000000) (dsimp := false) (disch := omega) only [go_sem, ↓reduceIte, Nat.reduceEqDiff, Nat.reduceMul, Nat.reduceAdd, Nat.reduceSub, Nat.reduceLT, Nat.reduceLeDiff, Nat.reduceBEq, reduceCtorEq, Int.reduceToNat, Int.reduceEq, Int.reduceLT, Int.reduceLE, Int.reduceNeg, Int.reduceSub, Int.reduceAdd, Int.reduceMul, eZ_len, eR_len, seg_e, seg_ea, seg_en, seg_r, seg_ra, seg_rn, splice_e, splice_ea, splice_eaa, splice_en, splice_ec, splice_eca, splice_r, splice_ra, splice_raa, splice_rn, splice_rc, splice_rca, splice_nil, List.append_assoc, List.length_append, Tryz.results24]
  refine callK (fFromInt64_ok n hn) ?_
  simp (maxSteps := 4000000) (dsimp := false) (disch := omega) only [go_sem, ↓reduceIte, Nat.reduceEqDiff, Nat.reduceMul, Nat.reduceAdd, Nat.reduceSub, Nat.reduceLT, Nat.reduceLeDiff, Nat.reduceBEq, reduceCtorEq, Int.reduceToNat, Int.reduceEq, Int.reduceLT, Int.reduceLE, Int.reduceNeg, Int.reduceSub, Int.reduceAdd, Int.reduceMul, eZ_len, eR_len, seg_e, seg_ea, seg_en, seg_r, seg_ra, seg_rn, splice_e, splice_ea, splice_eaa, splice_en, splice_ec, splice_eca, splice_r, splice_ra, splice_raa, splice_rn, splice_rc, splice_rca, splice_nil, List.append_assoc, List.length_append, Tryz.results24]
  refine callK funit_ok ?_
  simp (maxSteps := 4000000) (dsimp := false) (disch := omega) only [go_sem, ↓reduceIte, Nat.reduceEqDiff, Nat.reduceMul, Nat.reduceAdd, Nat.reduceSub, Nat.reduceLT, Nat.reduceLeDiff, Nat.reduceBEq, reduceCtorEq, Int.reduceToNat, Int.reduceEq, Int.reduceLT, Int.reduceLE, Int.reduceNeg, Int.reduceSub, Int.reduceAdd, Int.reduceMul, eZ_len, eR_len, seg_e, seg_ea, seg_en, seg_r, seg_ra, seg_rn, splice_e, splice_ea, splice_eaa, splice_en, splice_ec, splice_eca, splice_r, splice_ra, splice_raa, splice_rn, splice_rc, splice_rca, splice_nil, List.append_assoc, List.length_append, Tryz.results24]
  rfl

theorem FSign_ok (x : Rat) : Ok Tryz.prog 31 [.ag (eR x)] ⟨[.lf (.int .i64 x.num.sign)], []⟩ := by
  refine ok_of_V (T := Tb) tb_ok mo Tryz.func31 rfl (by kernel_rfl) (by kernel_rfl) (by simp [Tryz.ntmps31, mts]) ?_
  simp (maxSteps := 4000000) (dsimp := false) (disch := omega) only [go_sem, ↓reduceIte, Nat.reduceEqDiff, Nat.reduceMul, Nat.reduceAdd, Nat.reduceSub, Nat.reduceLT, Nat.reduceLeDiff, Nat.reduceBEq, reduceCtorEq, Int.reduceToNat, Int.reduceEq, Int.reduceLT, Int.reduceLE, Int.reduceNeg, Int.reduceSub, Int.reduceAdd, Int.reduceMul, eZ_len, eR_len, seg_e, seg_ea, seg_en, seg_r, seg_ra, seg_rn, splice_e, splice_ea, splice_eaa, splice_en, splice_ec, splice_eca, splice_r, splice_ra, splice_raa, splice_rn, splice_rc, splice_rca, splice_nil, List.append_assoc, List.length_append, Tryz.results31, eR]
  refine callK (fSign_ok x.num) ?_
  simp (maxSteps := 4000000) (dsimp := false) (disch := omega) only [go_sem, ↓reduceIte, Nat.reduceEqDiff, Nat.reduceMul, Nat.reduceAdd, Nat.reduceSub, Nat.reduceLT, Nat.reduceLeDiff, Nat.reduceBEq, reduceCtorEq, Int.reduceToNat, Int.reduceEq, Int.reduceLT, Int.reduceLE, Int.reduceNeg, Int.reduceSub, Int.reduceAdd, Int.reduceMul, eZ_len, eR_len, seg_e, seg_ea, seg_en, seg_r, seg_ra, seg_rn, splice_e, splice_ea, splice_eaa, splice_en, splice_ec, splice_eca, splice_r, splice_ra, splice_raa, splice_rn, splice_rc, splice_rca, splice_nil, List.append_assoc, List.length_append, Tryz.results31, eR]

theorem FNeg_ok (x : Rat) (n : Nat) (hx : SR n x) (hn : n < 2 ^ 36) : Ok Tryz.prog 96 [.ag (eR x)] ⟨[.ag (eR (-x))], []⟩ := by
  obtain ⟨h1, h2⟩ := hx.lz
  refine ok_of_V (T := Tb) tb_ok mo Tryz.func96 rfl (by kernel_rfl) (by kernel_rfl) (by simp [Tryz.ntmps96, mts]) ?_
  simp (maxSteps := 4000000) (dsimp := false) (disch := omega) only [go_sem, ↓reduceIte, Nat.reduceEqDiff, Nat.reduceMul, Nat.reduceAdd, Nat.reduceSub, Nat.reduceLT, Nat.reduceLeDiff, Nat.reduceBEq, reduceCtorEq, Int.reduceToNat, Int.reduceEq, Int.reduceLT, Int.reduceLE, Int.reduceNeg, Int.reduceSub, Int.reduceAdd, Int.reduceMul, eZ_len, eR_len, seg_e, seg_ea, seg_en, seg_r, seg_ra, seg_rn, splice_e, splice_ea, splice_eaa, splice_en, splice_ec, splice_eca, splice_r, splice_ra, splice_raa, splice_rn, splice_rc, splice_rca, splice_nil, List.append_assoc, List.length_append, Tryz.results96, eR]
  refine callK (fNeg_ok x.num (by omega)) ?_
  simp (maxSteps := 4000000) (dsimp := false) (disch := omega) only [go_sem, ↓reduceIte, Nat.reduceEqDiff, Nat.reduceMul, Nat.reduceAdd, Nat.reduceSub, Nat.reduceLT, Nat.reduceLeDiff, Nat.reduceBEq, reduceCtorEq, Int.reduceToNat, Int.reduceEq, Int.reduceLT, Int.reduceLE, Int.reduceNeg, Int.reduceSub, Int.reduceAdd, Int.reduceMul, eZ_len, eR_len, seg_e, seg_ea, seg_en, seg_r, seg_ra, seg_rn, splice_e, splice_ea, splice_eaa, splice_en, splice_ec, splice_eca, splice_r, splice_ra, splice_raa, splice_rn, splice_rc, splice_rca, splice_nil, List.append_assoc, List.length_append, Tryz.results96, eR]
  rfl

theorem Of_ok (a b : Int) (ha : lz a < 2 ^ 36) (hb : lz b < 2 ^ 36) (hb0 : b ≠ 0) : Ok Tryz.prog 92 [.ag (eZ a), .ag (eZ b)] ⟨[.ag (eR (Rat.divInt a b))], []⟩ := by
  refine ok_of_V (T := Tb) tb_ok mo Tryz.func92 rfl (by kernel_rfl) (by kernel_rfl) (by simp [Tryz.ntmps92, mts]) ?_
  simp (maxSteps := 4000000) (dsimp := false) (disch := omega) only [go_sem, ↓reduceIte, Nat.reduceEqDiff, Nat.reduceMul, Nat.reduceAdd, Nat.reduceSub, Nat.reduceLT, Nat.reduceLeDiff, Nat.reduceBEq, reduceCtorEq, Int.reduceToNat, Int.reduceEq, Int.reduceLT, Int.reduceLE, Int.reduceNeg, Int.reduceSub, Int.reduceAdd, Int.reduceMul, eZ_len, eR_len, seg_e, seg_ea, seg_en, seg_r, seg_ra, seg_rn, splice_e, splice_ea, splice_eaa, splice_en, splice_ec, splice_eca, splice_r, splice_ra, splice_raa, splice_rn, splice_rc, splice_rca, splice_nil, List.append_assoc, List.length_append, Tryz.results92]
  refine callK (fSign_ok b) ?_
  simp (maxSteps := 4000000) (dsimp := false) (disch := omega) only [go_sem, ↓reduceIte, Nat.reduceEqDiff, Nat.reduceMul, Nat.reduceAdd, Nat.reduceSub, Nat.reduceLT, Nat.reduceLeDiff, Nat.reduceBEq, reduceCtorEq, Int.reduceToNat, Int.reduceEq, Int.reduceLT, Int.reduceLE, Int.reduceNeg, Int.reduceSub, Int.reduceAdd, Int.reduceMul, eZ_len, eR_len, seg_e, seg_ea, seg_en, seg_r, seg_ra, seg_rn, splice_e, splice_ea, splice_eaa, splice_en, splice_ec, splice_eca, splice_r, splice_ra, splice_raa, splice_rn, splice_rc, splice_rca, splice_nil, List.append_assoc, List.length_append, Tryz.results92, sign_lt]
  refine ⟨fun h => ?_, fun h => ?_⟩
  · have ha' := lz_neg a
    have hb' := lz_neg b
    rw [← Rat.neg_divInt_neg a b]
    refine callK (fNeg_ok a (by omega)) ?_
    simp (maxSteps := 4000000) (dsimp := false) (disch := omega) only [go_sem, ↓reduceIte, Nat.reduceEqDiff, Nat.reduceMul, Nat.reduceAdd, Nat.reduceSub, Nat.reduceLT, Nat.reduceLeDiff, Nat.reduceBEq, reduceCtorEq, Int.reduceToNat, Int.reduceEq, Int.reduceLT, Int.reduceLE, Int.reduceNeg, Int.reduceSub, Int.reduceAdd, Int.reduceMul, eZ_len, eR_len, seg_e, seg_ea, seg_en, seg_r, seg_ra, seg_rn, splice_e, splice_ea, splice_eaa, splice_en, splice_ec, splice_eca, splice_r, splice_ra, splice_raa, splice_rn, splice_rc, splice_rca, splice_nil, List.append_assoc, List.length_append, Tryz.results92]
    refine callK (fNeg_ok b (by omega)) ?_
    simp (maxSteps := 4000000) (dsimp := false) (disch := omega) only [go_sem, ↓reduceIte, Nat.reduceEqDiff, Nat.reduceMul, Nat.reduceAdd, Nat.reduceSub, Nat.reduceLT, Nat.reduceLeDiff, Nat.reduceBEq, reduceCtorEq, Int.reduceToNat, Int.reduceEq, Int.reduceLT, Int.reduceLE, Int.reduceNeg, Int.reduceSub, Int.reduceAdd, Int.reduceMul, eZ_len, eR_len, seg_e, seg_ea, seg_en, seg_r, seg_ra, seg_rn, splice_e, splice_ea, splice_eaa, splice_en, splice_ec, splice_eca, splice_r, splice_ra, splice_raa, splice_rn, splice_rc, splice_rca, splice_nil, List.append_assoc, List.length_append, Tryz.results92]
    have hg0 : ((Int.gcd (-a) (-b) : Nat) : Int) ≠ 0 := by
      intro h
      have := (Int.gcd_eq_zero_iff.1 (show Int.gcd (-a) (-b) = 0 by omega)).2
      omega
    have hgl := lz_gcd (-a) (-b) (by omega)
    refine callK (fGCD_ok (-a) (-b) (by omega) (by omega)) ?_
    obtain ⟨r1, r2⟩ := reduce_num (a := -a) (b := -b) (by omega)
    simp (maxSteps := 4000000) (dsimp := false) (disch := omega) only [go_sem, ↓reduceIte, Nat.reduceEqDiff, Nat.reduceMul, Nat.reduceAdd, Nat.reduceSub, Nat.reduceLT, Nat.reduceLeDiff, Nat.reduceBEq, reduceCtorEq, Int.reduceToNat, Int.reduceEq, Int.reduceLT, Int.reduceLE, Int.reduceNeg, Int.reduceSub, Int.reduceAdd, Int.reduceMul, eZ_len, eR_len, seg_e, seg_ea, seg_en, seg_r, seg_ra, seg_rn, splice_e, splice_ea, splice_eaa, splice_en, splice_ec, splice_eca, splice_r, splice_ra, splice_raa, splice_rn, splice_rc, splice_rca, splice_nil, List.append_assoc, List.length_append, Tryz.results92]
    refine callK (fDivMod_ok (-a) _ (by omega) (by omega) hg0) ?_
    simp (maxSteps := 4000000) (dsimp := false) (disch := omega) only [go_sem, ↓reduceIte, Nat.reduceEqDiff, Nat.reduceMul, Nat.reduceAdd, Nat.reduceSub, Nat.reduceLT, Nat.reduceLeDiff, Nat.reduceBEq, reduceCtorEq, Int.reduceToNat, Int.reduceEq, Int.reduceLT, Int.reduceLE, Int.reduceNeg, Int.reduceSub, Int.reduceAdd, Int.reduceMul, eZ_len, eR_len, seg_e, seg_ea, seg_en, seg_r, seg_ra, seg_rn, splice_e, splice_ea, splice_eaa, splice_en, splice_ec, splice_eca, splice_r, splice_ra, splice_raa, splice_rn, splice_rc, splice_rca, splice_nil, List.append_assoc, List.length_append, Tryz.results92]
    refine callK (fDivMod_ok (-b) _ (by omega) (by omega) hg0) ?_
    rw [← r1, ← r2]
    simp (maxSteps := 4000000) (dsimp := false) (disch := omega) only [go_sem, ↓reduceIte, Nat.reduceEqDiff, Nat.reduceMul, Nat.reduceAdd, Nat.reduceSub, Nat.reduceLT, Nat.reduceLeDiff, Nat.reduceBEq, reduceCtorEq, Int.reduceToNat, Int.reduceEq, Int.reduceLT, Int.reduceLE, Int.reduceNeg, Int.reduceSub, Int.reduceAdd, Int.reduceMul, eZ_len, eR_len, seg_e, seg_ea, seg_en, seg_r, seg_ra, seg_rn, splice_e, splice_ea, splice_eaa, splice_en, splice_ec, splice_eca, splice_r, splice_ra, splice_raa, splice_rn, splice_rc, splice_rca, splice_nil, List.append_assoc, List.length_append, Tryz.results92]
    rfl
  · skip
    have hg0 : ((Int.gcd (a) (b) : Nat) : Int) ≠ 0 := by
      intro h
      have := (Int.gcd_eq_zero_iff.1 (show Int.gcd (a) (b) = 0 by omega)).2
      omega
    have hgl := lz_gcd (a) (b) (by omega)
    refine callK (fGCD_ok (a) (b) (by omega) (by omega)) ?_
    obtain ⟨r1, r2⟩ := reduce_num (a := a) (b := b) (by omega)
    simp (maxSteps := 4000000) (dsimp := false) (disch := omega) only [go_sem, ↓reduceIte, Nat.reduceEqDiff, Nat.reduceMul, Nat.reduceAdd, Nat.reduceSub, Nat.reduceLT, Nat.reduceLeDiff, Nat.reduceBEq, reduceCtorEq, Int.reduceToNat, Int.reduceEq, Int.reduceLT, Int.reduceLE, Int.reduceNeg, Int.reduceSub, Int.reduceAdd, Int.reduceMul, eZ_len, eR_len, seg_e, seg_ea, seg_en, seg_r, seg_ra, seg_rn, splice_e, splice_ea, splice_eaa, splice_en, splice_ec, splice_eca, splice_r, splice_ra, splice_raa, splice_rn, splice_rc, splice_rca, splice_nil, List.append_assoc, List.length_append, Tryz.results92]
    refine callK (fDivMod_ok (a) _ (by omega) (by omega) hg0) ?_
    simp (maxSteps := 4000000) (dsimp := false) (disch := omega) only [go_sem, ↓reduceIte, Nat.reduceEqDiff, Nat.reduceMul, Nat.reduceAdd, Nat.reduceSub, Nat.reduceLT, Nat.reduceLeDiff, Nat.reduceBEq, reduceCtorEq, Int.reduceToNat, Int.reduceEq, Int.reduceLT, Int.reduceLE, Int.reduceNeg, Int.reduceSub, Int.reduceAdd, Int.reduceMul, eZ_len, eR_len, seg_e, seg_ea, seg_en, seg_r, seg_ra, seg_rn, splice_e, splice_ea, splice_eaa, splice_en, splice_ec, splice_eca, splice_r, splice_ra, splice_raa, splice_rn, splice_rc, splice_rca, splice_nil, List.append_assoc, List.length_append, Tryz.results92]
    refine callK (fDivMod_ok (b) _ (by omega) (by omega) hg0) ?_
    rw [← r1, ← r2]
    simp (maxSteps := 4000000) (dsimp := false) (disch := omega) only [go_sem, ↓reduceIte, Nat.reduceEqDiff, Nat.reduceMul, Nat.reduceAdd, Nat.reduceSub, Nat.reduceLT, Nat.reduceLeDiff, Nat.reduceBEq, reduceCtorEq, Int.reduceToNat, Int.reduceEq, Int.reduceLT, Int.reduceLE, Int.reduceNeg, Int.reduceSub, Int.reduceAdd, Int.reduceMul, eZ_len, eR_len, seg_e, seg_ea, seg_en, seg_r, seg_ra, seg_rn, splice_e, splice_ea, splice_eaa, splice_en, splice_ec, splice_eca, splice_r, splice_ra, splice_raa, splice_rn, splice_rc, splice_rca, splice_nil, List.append_assoc, List.length_append, Tryz.results92]
    rfl

theorem FMul_ok (x y : Rat) (n m : Nat) (hx : SR n x) (hy : SR m y) (hn : n + m < 2 ^ 36) : Ok Tryz.prog 73 [.ag (eR x), .ag (eR y)] ⟨[.ag (eR (x * y))], []⟩ := by
  obtain ⟨h1, h2⟩ := hx.lz
  obtain ⟨h3, h4⟩ := hy.lz
  have k1 := lz_le (lz_mul hx.1 hy.1)
  have k2 := lz_le (lz_mul (a := (x.den : Int)) hx.2 (b := (y.den : Int)) hy.2)
  refine ok_of_V (T := Tb) tb_ok mo Tryz.func73 rfl (by kernel_rfl) (by kernel_rfl) (by simp [Tryz.ntmps73, mts]) ?_
  simp (maxSteps := 4000000) (dsimp := false) (disch := omega) only [go_sem, ↓reduceIte, Nat.reduceEqDiff, Nat.reduceMul, Nat.reduceAdd, Nat.reduceSub, Nat.reduceLT, Nat.reduceLeDiff, Nat.reduceBEq, reduceCtorEq, Int.reduceToNat, Int.reduceEq, Int.reduceLT, Int.reduceLE, Int.reduceNeg, Int.reduceSub, Int.reduceAdd, Int.reduceMul, eZ_len, eR_len, seg_e, seg_ea, seg_en, seg_r, seg_ra, seg_rn, splice_e, splice_ea, splice_eaa, splice_en, splice_ec, splice_eca, splice_r, splice_ra, splice_raa, splice_rn, splice_rc, splice_rca, splice_nil, List.append_assoc, List.length_append, Tryz.results73, eR]
  refine callK (fMul_ok x.num y.num (by omega) (by omega)) ?_
  simp (maxSteps := 4000000) (dsimp := false) (disch := omega) only [go_sem, ↓reduceIte, Nat.reduceEqDiff, Nat.reduceMul, Nat.reduceAdd, Nat.reduceSub, Nat.reduceLT, Nat.reduceLeDiff, Nat.reduceBEq, reduceCtorEq, Int.reduceToNat, Int.reduceEq, Int.reduceLT, Int.reduceLE, Int.reduceNeg, Int.reduceSub, Int.reduceAdd, Int.reduceMul, eZ_len, eR_len, seg_e, seg_ea, seg_en, seg_r, seg_ra, seg_rn, splice_e, splice_ea, splice_eaa, splice_en, splice_ec, splice_eca, splice_r, splice_ra, splice_raa, splice_rn, splice_rc, splice_rca, splice_nil, List.append_assoc, List.length_append, Tryz.results73, eR]
  refine callK (fMul_ok x.den y.den (by omega) (by omega)) ?_
  simp (maxSteps := 4000000) (dsimp := false) (disch := omega) only [go_sem, ↓reduceIte, Nat.reduceEqDiff, Nat.reduceMul, Nat.reduceAdd, Nat.reduceSub, Nat.reduceLT, Nat.reduceLeDiff, Nat.reduceBEq, reduceCtorEq, Int.reduceToNat, Int.reduceEq, Int.reduceLT, Int.reduceLE, Int.reduceNeg, Int.reduceSub, Int.reduceAdd, Int.reduceMul, eZ_len, eR_len, seg_e, seg_ea, seg_en, seg_r, seg_ra, seg_rn, splice_e, splice_ea, splice_eaa, splice_en, splice_ec, splice_eca, splice_r, splice_ra, splice_raa, splice_rn, splice_rc, splice_rca, splice_nil, List.append_assoc, List.length_append, Tryz.results73, eR]
  refine callK (Of_ok _ _ (by omega) (by omega) (Int.mul_ne_zero (den_cast_ne x) (den_cast_ne y))) ?_
  rw [← mul_divInt]
  simp (maxSteps := 4000000) (dsimp := false) (disch := omega) only [go_sem, ↓reduceIte, Nat.reduceEqDiff, Nat.reduceMul, Nat.reduceAdd, Nat.reduceSub, Nat.reduceLT, Nat.reduceLeDiff, Nat.reduceBEq, reduceCtorEq, Int.reduceToNat, Int.reduceEq, Int.reduceLT, Int.reduceLE, Int.reduceNeg, Int.reduceSub, Int.reduceAdd, Int.reduceMul, eZ_len, eR_len, seg_e, seg_ea, seg_en, seg_r, seg_ra, seg_rn, splice_e, splice_ea, splice_eaa, splice_en, splice_ec, splice_eca, splice_r, splice_ra, splice_raa, splice_rn, splice_rc, splice_rca, splice_nil, List.append_assoc, List.length_append, Tryz.results73, eR]

theorem FAdd_ok (x y : Rat) (n m : Nat) (hx : SR n x) (hy : SR m y) (hn : n + m < 2 ^ 35) : Ok Tryz.prog 95 [.ag (eR x), .ag (eR y)] ⟨[.ag (eR (x + y))], []⟩ := by
  obtain ⟨h1, h2⟩ := hx.lz
  obtain ⟨h3, h4⟩ := hy.lz
  have k1 := lz_le (lz_mul hx.1 (b := (y.den : Int)) hy.2)
  have k2 := lz_le (lz_mul hy.1 (b := (x.den : Int)) hx.2)
  have k3 := lz_le (lz_mul (a := (x.den : Int)) hx.2 (b := (y.den : Int)) hy.2)
  have k4 := lz_le (SR_divInt_add hx hy).1
  refine ok_of_V (T := Tb) tb_ok mo Tryz.func95 rfl (by kernel_rfl) (by kernel_rfl) (by simp [Tryz.ntmps95, mts]) ?_
  simp (maxSteps := 4000000) (dsimp := false) (disch := omega) only [go_sem, ↓reduceIte, Nat.reduceEqDiff, Nat.reduceMul, Nat.reduceAdd, Nat.reduceSub, Nat.reduceLT, Nat.reduceLeDiff, Nat.reduceBEq, reduceCtorEq, Int.reduceToNat, Int.reduceEq, Int.reduceLT, Int.reduceLE, Int.reduceNeg, Int.reduceSub, Int.reduceAdd, Int.reduceMul, eZ_len, eR_len, seg_e, seg_ea, seg_en, seg_r, seg_ra, seg_rn, splice_e, splice_ea, splice_eaa, splice_en, splice_ec, splice_eca, splice_r, splice_ra, splice_raa, splice_rn, splice_rc, splice_rca, splice_nil, List.append_assoc, List.length_append, Tryz.results95, eR]
  refine callK (fMul_ok x.num y.den (by omega) (by omega)) ?_
  simp (maxSteps := 4000000) (dsimp := false) (disch := omega) only [go_sem, ↓reduceIte, Nat.reduceEqDiff, Nat.reduceMul, Nat.reduceAdd, Nat.reduceSub, Nat.reduceLT, Nat.reduceLeDiff, Nat.reduceBEq, reduceCtorEq, Int.reduceToNat, Int.reduceEq, Int.reduceLT, Int.reduceLE, Int.reduceNeg, Int.reduceSub, Int.reduceAdd, Int.reduceMul, eZ_len, eR_len, seg_e, seg_ea, seg_en, seg_r, seg_ra, seg_rn, splice_e, splice_ea, splice_eaa, splice_en, splice_ec, splice_eca, splice_r, splice_ra, splice_raa, splice_rn, splice_rc, splice_rca, splice_nil, List.append_assoc, List.length_append, Tryz.results95, eR]
  refine callK (fMul_ok y.num x.den (by omega) (by omega)) ?_
  simp (maxSteps := 4000000) (dsimp := false) (disch := omega) only [go_sem, ↓reduceIte, Nat.reduceEqDiff, Nat.reduceMul, Nat.reduceAdd, Nat.reduceSub, Nat.reduceLT, Nat.reduceLeDiff, Nat.reduceBEq, reduceCtorEq, Int.reduceToNat, Int.reduceEq, Int.reduceLT, Int.reduceLE, Int.reduceNeg, Int.reduceSub, Int.reduceAdd, Int.reduceMul, eZ_len, eR_len, seg_e, seg_ea, seg_en, seg_r, seg_ra, seg_rn, splice_e, splice_ea, splice_eaa, splice_en, splice_ec, splice_eca, splice_r, splice_ra, splice_raa, splice_rn, splice_rc, splice_rca, splice_nil, List.append_assoc, List.length_append, Tryz.results95, eR]
  refine callK (fAdd_ok _ _ (by omega) (by omega)) ?_
  simp (maxSteps := 4000000) (dsimp := false) (disch := omega) only [go_sem, ↓reduceIte, Nat.reduceEqDiff, Nat.reduceMul, Nat.reduceAdd, Nat.reduceSub, Nat.reduceLT, Nat.reduceLeDiff, Nat.reduceBEq, reduceCtorEq, Int.reduceToNat, Int.reduceEq, Int.reduceLT, Int.reduceLE, Int.reduceNeg, Int.reduceSub, Int.reduceAdd, Int.reduceMul, eZ_len, eR_len, seg_e, seg_ea, seg_en, seg_r, seg_ra, seg_rn, splice_e, splice_ea, splice_eaa, splice_en, splice_ec, splice_eca, splice_r, splice_ra, splice_raa, splice_rn, splice_rc, splice_rca, splice_nil, List.append_assoc, List.length_append, Tryz.results95, eR]
  refine callK (fMul_ok x.den y.den (by omega) (by omega)) ?_
  simp (maxSteps := 4000000) (dsimp := false) (disch := omega) only [go_sem, ↓reduceIte, Nat.reduceEqDiff, Nat.reduceMul, Nat.reduceAdd, Nat.reduceSub, Nat.reduceLT, Nat.reduceLeDiff, Nat.reduceBEq, reduceCtorEq, Int.reduceToNat, Int.reduceEq, Int.reduceLT, Int.reduceLE, Int.reduceNeg, Int.reduceSub, Int.reduceAdd, Int.reduceMul, eZ_len, eR_len, seg_e, seg_ea, seg_en, seg_r, seg_ra, seg_rn, splice_e, splice_ea, splice_eaa, splice_en, splice_ec, splice_eca, splice_r, splice_ra, splice_raa, splice_rn, splice_rc, splice_rca, splice_nil, List.append_assoc, List.length_append, Tryz.results95, eR]
  refine callK (Of_ok _ _ (by omega) (by omega) (Int.mul_ne_zero (den_cast_ne x) (den_cast_ne y))) ?_
  rw [← add_divInt]
  simp (maxSteps := 4000000) (dsimp := false) (disch := omega) only [go_sem, ↓reduceIte, Nat.reduceEqDiff, Nat.reduceMul, Nat.reduceAdd, Nat.reduceSub, Nat.reduceLT, Nat.reduceLeDiff, Nat.reduceBEq, reduceCtorEq, Int.reduceToNat, Int.reduceEq, Int.reduceLT, Int.reduceLE, Int.reduceNeg, Int.reduceSub, Int.reduceAdd, Int.reduceMul, eZ_len, eR_len, seg_e, seg_ea, seg_en, seg_r, seg_ra, seg_rn, splice_e, splice_ea, splice_eaa, splice_en, splice_ec, splice_eca, splice_r, splice_ra, splice_raa, splice_rn, splice_rc, splice_rca, splice_nil, List.append_assoc, List.length_append, Tryz.results95, eR]

theorem FSub_ok (x y : Rat) (n m : Nat) (hx : SR n x) (hy : SR m y) (hn : n + m < 2 ^ 35) : Ok Tryz.prog 79 [.ag (eR x), .ag (eR y)] ⟨[.ag (eR (x - y))], []⟩ := by
  refine ok_of_V (T := Tb) tb_ok mo Tryz.func79 rfl (by kernel_rfl) (by kernel_rfl) (by simp [Tryz.ntmps79, mts]) ?_
  simp (maxSteps := 4000000) (dsimp := false) (disch := omega) only [go_sem, ↓reduceIte, Nat.reduceEqDiff, Nat.reduceMul, Nat.reduceAdd, Nat.reduceSub, Nat.reduceLT, Nat.reduceLeDiff, Nat.reduceBEq, reduceCtorEq, Int.reduceToNat, Int.reduceEq, Int.reduceLT, Int.reduceLE, Int.reduceNeg, Int.reduceSub, Int.reduceAdd, Int.reduceMul, eZ_len, eR_len, seg_e, seg_ea, seg_en, seg_r, seg_ra, seg_rn, splice_e, splice_ea, splice_eaa, splice_en, splice_ec, splice_eca, splice_r, splice_ra, splice_raa, splice_rn, splice_rc, splice_rca, splice_nil, List.append_assoc, List.length_append, Tryz.results79]
  refine callK (FNeg_ok y m hy (by omega)) ?_
  simp (maxSteps := 4000000) (dsimp := false) (disch := omega) only [go_sem, ↓reduceIte, Nat.reduceEqDiff, Nat.reduceMul, Nat.reduceAdd, Nat.reduceSub, Nat.reduceLT, Nat.reduceLeDiff, Nat.reduceBEq, reduceCtorEq, Int.reduceToNat, Int.reduceEq, Int.reduceLT, Int.reduceLE, Int.reduceNeg, Int.reduceSub, Int.reduceAdd, Int.reduceMul, eZ_len, eR_len, seg_e, seg_ea, seg_en, seg_r, seg_ra, seg_rn, splice_e, splice_ea, splice_eaa, splice_en, splice_ec, splice_eca, splice_r, splice_ra, splice_raa, splice_rn, splice_rc, splice_rca, splice_nil, List.append_assoc, List.length_append, Tryz.results79]
  refine callK (FAdd_ok x (-y) n m hx (SR_neg hy) hn) ?_
  rw [← Rat.sub_eq_add_neg]
  simp (maxSteps := 4000000) (dsimp := false) (disch := omega) only [go_sem, ↓reduceIte, Nat.reduceEqDiff, Nat.reduceMul, Nat.reduceAdd, Nat.reduceSub, Nat.reduceLT, Nat.reduceLeDiff, Nat.reduceBEq, reduceCtorEq, Int.reduceToNat, Int.reduceEq, Int.reduceLT, Int.reduceLE, Int.reduceNeg, Int.reduceSub, Int.reduceAdd, Int.reduceMul, eZ_len, eR_len, seg_e, seg_ea, seg_en, seg_r, seg_ra, seg_rn, splice_e, splice_ea, splice_eaa, splice_en, splice_ec, splice_eca, splice_r, splice_ra, splice_raa, splice_rn, splice_rc, splice_rca, splice_nil, List.append_assoc, List.length_append, Tryz.results79]
end Go.Proofs.YtdhgdpcmdmgchaaGreat.Fw
