/- Contracts: arithmetic of fractions. Conditions: none. -/
import Derived.Test.YtdhgdpcmdmgchaaGreatFwCn
namespace Go.Proofs.YtdhgdpcmdmgchaaGreat.Fw
open Go Go.Proofs
set_option linter.unusedSimpArgs false
set_option linter.unusedVariables false
set_option maxHeartbeats 2000000
set_option maxRecDepth 10000

theorem isNaN_ok (n : Int) : Ok Tryz.prog 64 [.lf (.int .i64 n)] ⟨[.lf (.bool false)], []⟩ := by
  refine ok_of_V (T := Tb) tb_ok mo Tryz.func64 rfl (by kernel_rfl) (by kernel_rfl) (by simp [Tryz.ntmps64, mts]) ?_
  simp (maxSteps := 4000000) (dsimp := false) (disch := omega) only [go_sem, ↓reduceIte, Nat.reduceEqDiff, Nat.reduceMul, Nat.reduceAdd, Nat.reduceSub, Nat.reduceLT, Nat.reduceLeDiff, Nat.reduceBEq, reduceCtorEq, Int.reduceToNat, Int.reduceEq, Int.reduceLT, Int.reduceLE, Int.reduceNeg, Int.reduceSub, Int.reduceAdd, Int.reduceMul, eZ_len, eR_len, seg_e, seg_ea, seg_en, seg_r, seg_ra, seg_rn, splice_e, splice_ea, splice_eaa, splice_en, splice_ec, splice_eca, splice_r, splice_ra, splice_raa, splice_rn, splice_rc, splice_rca, splice_nil, List.append_assoc, List.length_append, Tryz.results64]
  simp

theorem Compare_ok (a b : Int) : Ok Tryz.prog 38 [.lf (.int .i64 a), .lf (.int .i64 b)] ⟨[.lf (.int .i64 (a - b).sign)], []⟩ := by
  refine ok_of_V (T := Tb) tb_ok mo Tryz.func38 rfl (by kernel_rfl) (by kernel_rfl) (by simp [Tryz.ntmps38, mts]) ?_
  simp (maxSteps := 4000000) (dsimp := false) (disch := omega) only [go_sem, ↓reduceIte, Nat.reduceEqDiff, Nat.reduceMul, Nat.reduceAdd, Nat.reduceSub, Nat.reduceLT, Nat.reduceLeDiff, Nat.reduceBEq, reduceCtorEq, Int.reduceToNat, Int.reduceEq, Int.reduceLT, Int.reduceLE, Int.reduceNeg, Int.reduceSub, Int.reduceAdd, Int.reduceMul, eZ_len, eR_len, seg_e, seg_ea, seg_en, seg_r, seg_ra, seg_rn, splice_e, splice_ea, splice_eaa, splice_en, splice_ec, splice_eca, splice_r, splice_ra, splice_raa, splice_rn, splice_rc, splice_rca, splice_nil, List.append_assoc, List.length_append, Tryz.results38]
  refine callK (isNaN_ok a) ?_
  simp (maxSteps := 4000000) (dsimp := false) (disch := omega) only [go_sem, ↓reduceIte, Nat.reduceEqDiff, Nat.reduceMul, Nat.reduceAdd, Nat.reduceSub, Nat.reduceLT, Nat.reduceLeDiff, Nat.reduceBEq, reduceCtorEq, Int.reduceToNat, Int.reduceEq, Int.reduceLT, Int.reduceLE, Int.reduceNeg, Int.reduceSub, Int.reduceAdd, Int.reduceMul, eZ_len, eR_len, seg_e, seg_ea, seg_en, seg_r, seg_ra, seg_rn, splice_e, splice_ea, splice_eaa, splice_en, splice_ec, splice_eca, splice_r, splice_ra, splice_raa, splice_rn, splice_rc, splice_rca, splice_nil, List.append_assoc, List.length_append, Tryz.results38]
  refine callK (isNaN_ok b) ?_
  simp (maxSteps := 4000000) (dsimp := false) (disch := omega) only [go_sem, ↓reduceIte, Nat.reduceEqDiff, Nat.reduceMul, Nat.reduceAdd, Nat.reduceSub, Nat.reduceLT, Nat.reduceLeDiff, Nat.reduceBEq, reduceCtorEq, Int.reduceToNat, Int.reduceEq, Int.reduceLT, Int.reduceLE, Int.reduceNeg, Int.reduceSub, Int.reduceAdd, Int.reduceMul, eZ_len, eR_len, seg_e, seg_ea, seg_en, seg_r, seg_ra, seg_rn, splice_e, splice_ea, splice_eaa, splice_en, splice_ec, splice_eca, splice_r, splice_ra, splice_raa, splice_rn, splice_rc, splice_rca, splice_nil, List.append_assoc, List.length_append, Tryz.results38]
  refine ⟨fun h => (Int.sign_eq_neg_one_of_neg (by omega)).symm, fun h => ⟨fun h1 => (Int.sign_eq_one_of_pos (by omega)).symm, fun h1 => ?_⟩⟩
  rw [show a - b = 0 by omega]; rfl

/-- The sign of a difference of fractions. -/
def cmpR (x y : Rat) : Int := (x.num * y.den - y.num * x.den).sign
theorem cmpR_neg {x y : Rat} : cmpR x y < 0 ↔ x < y := by rw [cmpR, sign_lt, Rat.lt_iff]; omega
theorem cmpR_pos {x y : Rat} : 0 < cmpR x y ↔ y < x := by
  have h : ∀ z : Int, 0 < z.sign ↔ 0 < z := fun z => by
    rcases Int.lt_trichotomy z 0 with h | h | h
    · rw [Int.sign_eq_neg_one_of_neg h]; omega
    · subst h; simp
    · rw [Int.sign_eq_one_of_pos h]; omega
  rw [cmpR, h, Rat.lt_iff]; omega
theorem cmpR_le {x y : Rat} : cmpR x y ≤ 0 ↔ x ≤ y := by
  have := cmpR_pos (x := x) (y := y)
  rw [← Rat.not_lt, ← this]; omega
theorem cmpR_ge {x y : Rat} : 0 ≤ cmpR x y ↔ y ≤ x := by
  have := cmpR_neg (x := x) (y := y)
  rw [← Rat.not_lt, ← this]; omega
theorem cmpR_eq {x y : Rat} : cmpR x y = 0 ↔ x = y := by
  rw [cmpR, sign_eq, Rat.eq_iff_mul_eq_mul]; omega

theorem sign_mul_pos {a : Int} {b : Int} (h : 0 < b) : (a * b).sign = a.sign := by
  rw [Int.sign_mul, Int.sign_eq_one_of_pos h, Int.mul_one]
theorem cmp_signs {x y : Rat} (h : (x.num.sign - y.num.sign).sign ≠ 0) : (x.num.sign - y.num.sign).sign = cmpR x y := by
  have hx : 0 < (x.den : Int) := by have := x.den_pos; omega
  have hy : 0 < (y.den : Int) := by have := y.den_pos; omega
  unfold cmpR
  have e1 : (x.num * y.den).sign = x.num.sign := sign_mul_pos hy
  have e2 : (y.num * x.den).sign = y.num.sign := sign_mul_pos hx
  rw [← e1, ← e2] at h ⊢
  generalize x.num * y.den = a at *
  generalize y.num * x.den = b at *
  rcases Int.lt_trichotomy a 0 with ha | ha | ha <;> rcases Int.lt_trichotomy b 0 with hb | hb | hb
  all_goals first
    | subst ha
    | rw [Int.sign_eq_neg_one_of_neg ha] at *
    | rw [Int.sign_eq_one_of_pos ha] at *
  all_goals first
    | subst hb
    | rw [Int.sign_eq_neg_one_of_neg hb] at *
    | rw [Int.sign_eq_one_of_pos hb] at *
  all_goals first
    | exact absurd rfl h
    | exact (Int.sign_eq_neg_one_of_neg (by omega)).symm
    | exact (Int.sign_eq_one_of_pos (by omega)).symm

theorem RCmp_ok (x y : Rat) (n m : Nat) (hx : SR n x) (hy : SR m y) (hn : n + m < 2 ^ 36) : Ok Tryz.prog 20 [.ag (eR x), .ag (eR y)] ⟨[.lf (.int .i64 (cmpR x y))], []⟩ := by
  obtain ⟨h1, h2⟩ := hx.lz
  obtain ⟨h3, h4⟩ := hy.lz
  have k1 := lz_le (lz_mul hx.1 (b := (y.den : Int)) hy.2)
  have k2 := lz_le (lz_mul hy.1 (b := (x.den : Int)) hx.2)
  refine ok_of_V (T := Tb) tb_ok mo Tryz.func20 rfl (by kernel_rfl) (by kernel_rfl) (by simp [Tryz.ntmps20, mts]) ?_
  simp (maxSteps := 4000000) (dsimp := false) (disch := omega) only [go_sem, ↓reduceIte, Nat.reduceEqDiff, Nat.reduceMul, Nat.reduceAdd, Nat.reduceSub, Nat.reduceLT, Nat.reduceLeDiff, Nat.reduceBEq, reduceCtorEq, Int.reduceToNat, Int.reduceEq, Int.reduceLT, Int.reduceLE, Int.reduceNeg, Int.reduceSub, Int.reduceAdd, Int.reduceMul, eZ_len, eR_len, seg_e, seg_ea, seg_en, seg_r, seg_ra, seg_rn, splice_e, splice_ea, splice_eaa, splice_en, splice_ec, splice_eca, splice_r, splice_ra, splice_raa, splice_rn, splice_rc, splice_rca, splice_nil, List.append_assoc, List.length_append, Tryz.results20]
  refine callK (RSign_ok x) ?_
  simp (maxSteps := 4000000) (dsimp := false) (disch := omega) only [go_sem, ↓reduceIte, Nat.reduceEqDiff, Nat.reduceMul, Nat.reduceAdd, Nat.reduceSub, Nat.reduceLT, Nat.reduceLeDiff, Nat.reduceBEq, reduceCtorEq, Int.reduceToNat, Int.reduceEq, Int.reduceLT, Int.reduceLE, Int.reduceNeg, Int.reduceSub, Int.reduceAdd, Int.reduceMul, eZ_len, eR_len, seg_e, seg_ea, seg_en, seg_r, seg_ra, seg_rn, splice_e, splice_ea, splice_eaa, splice_en, splice_ec, splice_eca, splice_r, splice_ra, splice_raa, splice_rn, splice_rc, splice_rca, splice_nil, List.append_assoc, List.length_append, Tryz.results20]
  refine callK (RSign_ok y) ?_
  simp (maxSteps := 4000000) (dsimp := false) (disch := omega) only [go_sem, ↓reduceIte, Nat.reduceEqDiff, Nat.reduceMul, Nat.reduceAdd, Nat.reduceSub, Nat.reduceLT, Nat.reduceLeDiff, Nat.reduceBEq, reduceCtorEq, Int.reduceToNat, Int.reduceEq, Int.reduceLT, Int.reduceLE, Int.reduceNeg, Int.reduceSub, Int.reduceAdd, Int.reduceMul, eZ_len, eR_len, seg_e, seg_ea, seg_en, seg_r, seg_ra, seg_rn, splice_e, splice_ea, splice_eaa, splice_en, splice_ec, splice_eca, splice_r, splice_ra, splice_raa, splice_rn, splice_rc, splice_rca, splice_nil, List.append_assoc, List.length_append, Tryz.results20]
  refine callK (Compare_ok _ _) ?_
  simp (maxSteps := 4000000) (dsimp := false) (disch := omega) only [go_sem, ↓reduceIte, Nat.reduceEqDiff, Nat.reduceMul, Nat.reduceAdd, Nat.reduceSub, Nat.reduceLT, Nat.reduceLeDiff, Nat.reduceBEq, reduceCtorEq, Int.reduceToNat, Int.reduceEq, Int.reduceLT, Int.reduceLE, Int.reduceNeg, Int.reduceSub, Int.reduceAdd, Int.reduceMul, eZ_len, eR_len, seg_e, seg_ea, seg_en, seg_r, seg_ra, seg_rn, splice_e, splice_ea, splice_eaa, splice_en, splice_ec, splice_eca, splice_r, splice_ra, splice_raa, splice_rn, splice_rc, splice_rca, splice_nil, List.append_assoc, List.length_append, Tryz.results20, eR]
  refine ⟨fun h => ?_, fun h => ?_⟩
  · exact cmp_signs (by simpa using h)
  · refine callK (Mul_ok x.num y.den (by omega) (by omega)) ?_
    simp (maxSteps := 4000000) (dsimp := false) (disch := omega) only [go_sem, ↓reduceIte, Nat.reduceEqDiff, Nat.reduceMul, Nat.reduceAdd, Nat.reduceSub, Nat.reduceLT, Nat.reduceLeDiff, Nat.reduceBEq, reduceCtorEq, Int.reduceToNat, Int.reduceEq, Int.reduceLT, Int.reduceLE, Int.reduceNeg, Int.reduceSub, Int.reduceAdd, Int.reduceMul, eZ_len, eR_len, seg_e, seg_ea, seg_en, seg_r, seg_ra, seg_rn, splice_e, splice_ea, splice_eaa, splice_en, splice_ec, splice_eca, splice_r, splice_ra, splice_raa, splice_rn, splice_rc, splice_rca, splice_nil, List.append_assoc, List.length_append, Tryz.results20, eR]
    refine callK (Mul_ok y.num x.den (by omega) (by omega)) ?_
    simp (maxSteps := 4000000) (dsimp := false) (disch := omega) only [go_sem, ↓reduceIte, Nat.reduceEqDiff, Nat.reduceMul, Nat.reduceAdd, Nat.reduceSub, Nat.reduceLT, Nat.reduceLeDiff, Nat.reduceBEq, reduceCtorEq, Int.reduceToNat, Int.reduceEq, Int.reduceLT, Int.reduceLE, Int.reduceNeg, Int.reduceSub, Int.reduceAdd, Int.reduceMul, eZ_len, eR_len, seg_e, seg_ea, seg_en, seg_r, seg_ra, seg_rn, splice_e, splice_ea, splice_eaa, splice_en, splice_ec, splice_eca, splice_r, splice_ra, splice_raa, splice_rn, splice_rc, splice_rca, splice_nil, List.append_assoc, List.length_append, Tryz.results20, eR]
    refine callK (Cmp_ok _ _ (by omega) (by omega)) ?_
    simp (maxSteps := 4000000) (dsimp := false) (disch := omega) only [go_sem, ↓reduceIte, Nat.reduceEqDiff, Nat.reduceMul, Nat.reduceAdd, Nat.reduceSub, Nat.reduceLT, Nat.reduceLeDiff, Nat.reduceBEq, reduceCtorEq, Int.reduceToNat, Int.reduceEq, Int.reduceLT, Int.reduceLE, Int.reduceNeg, Int.reduceSub, Int.reduceAdd, Int.reduceMul, eZ_len, eR_len, seg_e, seg_ea, seg_en, seg_r, seg_ra, seg_rn, splice_e, splice_ea, splice_eaa, splice_en, splice_ec, splice_eca, splice_r, splice_ra, splice_raa, splice_rn, splice_rc, splice_rca, splice_nil, List.append_assoc, List.length_append, Tryz.results20, eR]
    rfl

theorem RMul_ok (x y : Rat) (n m : Nat) (hx : SR n x) (hy : SR m y) (hn : n + m < 2 ^ 36) : Ok Tryz.prog 18 [.ag (eR x), .ag (eR y)] ⟨[.ag (eR (x * y))], []⟩ := by
  obtain ⟨h1, h2⟩ := hx.lz
  obtain ⟨h3, h4⟩ := hy.lz
  have k1 := lz_le (lz_mul hx.1 hy.1)
  have k2 := lz_le (lz_mul (a := (x.den : Int)) hx.2 (b := (y.den : Int)) hy.2)
  refine ok_of_V (T := Tb) tb_ok mo Tryz.func18 rfl (by kernel_rfl) (by kernel_rfl) (by simp [Tryz.ntmps18, mts]) ?_
  simp (maxSteps := 4000000) (dsimp := false) (disch := omega) only [go_sem, ↓reduceIte, Nat.reduceEqDiff, Nat.reduceMul, Nat.reduceAdd, Nat.reduceSub, Nat.reduceLT, Nat.reduceLeDiff, Nat.reduceBEq, reduceCtorEq, Int.reduceToNat, Int.reduceEq, Int.reduceLT, Int.reduceLE, Int.reduceNeg, Int.reduceSub, Int.reduceAdd, Int.reduceMul, eZ_len, eR_len, seg_e, seg_ea, seg_en, seg_r, seg_ra, seg_rn, splice_e, splice_ea, splice_eaa, splice_en, splice_ec, splice_eca, splice_r, splice_ra, splice_raa, splice_rn, splice_rc, splice_rca, splice_nil, List.append_assoc, List.length_append, Tryz.results18, eR]
  refine callK (Mul_ok x.num y.num (by omega) (by omega)) ?_
  simp (maxSteps := 4000000) (dsimp := false) (disch := omega) only [go_sem, ↓reduceIte, Nat.reduceEqDiff, Nat.reduceMul, Nat.reduceAdd, Nat.reduceSub, Nat.reduceLT, Nat.reduceLeDiff, Nat.reduceBEq, reduceCtorEq, Int.reduceToNat, Int.reduceEq, Int.reduceLT, Int.reduceLE, Int.reduceNeg, Int.reduceSub, Int.reduceAdd, Int.reduceMul, eZ_len, eR_len, seg_e, seg_ea, seg_en, seg_r, seg_ra, seg_rn, splice_e, splice_ea, splice_eaa, splice_en, splice_ec, splice_eca, splice_r, splice_ra, splice_raa, splice_rn, splice_rc, splice_rca, splice_nil, List.append_assoc, List.length_append, Tryz.results18, eR]
  refine callK (Mul_ok x.den y.den (by omega) (by omega)) ?_
  simp (maxSteps := 4000000) (dsimp := false) (disch := omega) only [go_sem, ↓reduceIte, Nat.reduceEqDiff, Nat.reduceMul, Nat.reduceAdd, Nat.reduceSub, Nat.reduceLT, Nat.reduceLeDiff, Nat.reduceBEq, reduceCtorEq, Int.reduceToNat, Int.reduceEq, Int.reduceLT, Int.reduceLE, Int.reduceNeg, Int.reduceSub, Int.reduceAdd, Int.reduceMul, eZ_len, eR_len, seg_e, seg_ea, seg_en, seg_r, seg_ra, seg_rn, splice_e, splice_ea, splice_eaa, splice_en, splice_ec, splice_eca, splice_r, splice_ra, splice_raa, splice_rn, splice_rc, splice_rca, splice_nil, List.append_assoc, List.length_append, Tryz.results18, eR]
  refine callK (reduce_ok _ _ (by omega) (by omega) (Int.mul_ne_zero (den_cast_ne x) (den_cast_ne y))) ?_
  rw [← mul_divInt]
  simp (maxSteps := 4000000) (dsimp := false) (disch := omega) only [go_sem, ↓reduceIte, Nat.reduceEqDiff, Nat.reduceMul, Nat.reduceAdd, Nat.reduceSub, Nat.reduceLT, Nat.reduceLeDiff, Nat.reduceBEq, reduceCtorEq, Int.reduceToNat, Int.reduceEq, Int.reduceLT, Int.reduceLE, Int.reduceNeg, Int.reduceSub, Int.reduceAdd, Int.reduceMul, eZ_len, eR_len, seg_e, seg_ea, seg_en, seg_r, seg_ra, seg_rn, splice_e, splice_ea, splice_eaa, splice_en, splice_ec, splice_eca, splice_r, splice_ra, splice_raa, splice_rn, splice_rc, splice_rca, splice_nil, List.append_assoc, List.length_append, Tryz.results18, eR]

theorem RAdd_ok (x y : Rat) (n m : Nat) (hx : SR n x) (hy : SR m y) (hn : n + m < 2 ^ 35) : Ok Tryz.prog 46 [.ag (eR x), .ag (eR y)] ⟨[.ag (eR (x + y))], []⟩ := by
  obtain ⟨h1, h2⟩ := hx.lz
  obtain ⟨h3, h4⟩ := hy.lz
  have k1 := lz_le (lz_mul hx.1 (b := (y.den : Int)) hy.2)
  have k2 := lz_le (lz_mul hy.1 (b := (x.den : Int)) hx.2)
  have k3 := lz_le (lz_mul (a := (x.den : Int)) hx.2 (b := (y.den : Int)) hy.2)
  have k4 := lz_le (SR_divInt_add hx hy).1
  have k5 : lz (x.num + y.num) ≤ n + m + 1 := lz_le (lz_add (n := n + m) (Nat.lt_of_lt_of_le hx.1 (Nat.pow_le_pow_right Bs_pos (by omega))) (Nat.lt_of_lt_of_le hy.1 (Nat.pow_le_pow_right Bs_pos (by omega))))
  refine ok_of_V (T := Tb) tb_ok mo Tryz.func46 rfl (by kernel_rfl) (by kernel_rfl) (by simp [Tryz.ntmps46, mts]) ?_
  simp (maxSteps := 4000000) (dsimp := false) (disch := omega) only [go_sem, ↓reduceIte, Nat.reduceEqDiff, Nat.reduceMul, Nat.reduceAdd, Nat.reduceSub, Nat.reduceLT, Nat.reduceLeDiff, Nat.reduceBEq, reduceCtorEq, Int.reduceToNat, Int.reduceEq, Int.reduceLT, Int.reduceLE, Int.reduceNeg, Int.reduceSub, Int.reduceAdd, Int.reduceMul, eZ_len, eR_len, seg_e, seg_ea, seg_en, seg_r, seg_ra, seg_rn, splice_e, splice_ea, splice_eaa, splice_en, splice_ec, splice_eca, splice_r, splice_ra, splice_raa, splice_rn, splice_rc, splice_rca, splice_nil, List.append_assoc, List.length_append, Tryz.results46, eR]
  refine callK (Cmp_ok x.den y.den (by omega) (by omega)) ?_
  simp (maxSteps := 4000000) (dsimp := false) (disch := omega) only [go_sem, ↓reduceIte, Nat.reduceEqDiff, Nat.reduceMul, Nat.reduceAdd, Nat.reduceSub, Nat.reduceLT, Nat.reduceLeDiff, Nat.reduceBEq, reduceCtorEq, Int.reduceToNat, Int.reduceEq, Int.reduceLT, Int.reduceLE, Int.reduceNeg, Int.reduceSub, Int.reduceAdd, Int.reduceMul, eZ_len, eR_len, seg_e, seg_ea, seg_en, seg_r, seg_ra, seg_rn, splice_e, splice_ea, splice_eaa, splice_en, splice_ec, splice_eca, splice_r, splice_ra, splice_raa, splice_rn, splice_rc, splice_rca, splice_nil, List.append_assoc, List.length_append, Tryz.results46, eR, sign_eq]
  refine ⟨fun h => ?_, fun h => ?_⟩
  · have hd : x.den = y.den := by omega
    refine callK (Add_ok x.num y.num (by omega) (by omega)) ?_
    simp (maxSteps := 4000000) (dsimp := false) (disch := omega) only [go_sem, ↓reduceIte, Nat.reduceEqDiff, Nat.reduceMul, Nat.reduceAdd, Nat.reduceSub, Nat.reduceLT, Nat.reduceLeDiff, Nat.reduceBEq, reduceCtorEq, Int.reduceToNat, Int.reduceEq, Int.reduceLT, Int.reduceLE, Int.reduceNeg, Int.reduceSub, Int.reduceAdd, Int.reduceMul, eZ_len, eR_len, seg_e, seg_ea, seg_en, seg_r, seg_ra, seg_rn, splice_e, splice_ea, splice_eaa, splice_en, splice_ec, splice_eca, splice_r, splice_ra, splice_raa, splice_rn, splice_rc, splice_rca, splice_nil, List.append_assoc, List.length_append, Tryz.results46, eR]
    refine callK (reduce_ok _ _ (by omega) (by omega) (den_cast_ne x)) ?_
    rw [← add_divInt' x y hd]
    simp (maxSteps := 4000000) (dsimp := false) (disch := omega) only [go_sem, ↓reduceIte, Nat.reduceEqDiff, Nat.reduceMul, Nat.reduceAdd, Nat.reduceSub, Nat.reduceLT, Nat.reduceLeDiff, Nat.reduceBEq, reduceCtorEq, Int.reduceToNat, Int.reduceEq, Int.reduceLT, Int.reduceLE, Int.reduceNeg, Int.reduceSub, Int.reduceAdd, Int.reduceMul, eZ_len, eR_len, seg_e, seg_ea, seg_en, seg_r, seg_ra, seg_rn, splice_e, splice_ea, splice_eaa, splice_en, splice_ec, splice_eca, splice_r, splice_ra, splice_raa, splice_rn, splice_rc, splice_rca, splice_nil, List.append_assoc, List.length_append, Tryz.results46, eR]
  · refine callK (Mul_ok x.num y.den (by omega) (by omega)) ?_
    simp (maxSteps := 4000000) (dsimp := false) (disch := omega) only [go_sem, ↓reduceIte, Nat.reduceEqDiff, Nat.reduceMul, Nat.reduceAdd, Nat.reduceSub, Nat.reduceLT, Nat.reduceLeDiff, Nat.reduceBEq, reduceCtorEq, Int.reduceToNat, Int.reduceEq, Int.reduceLT, Int.reduceLE, Int.reduceNeg, Int.reduceSub, Int.reduceAdd, Int.reduceMul, eZ_len, eR_len, seg_e, seg_ea, seg_en, seg_r, seg_ra, seg_rn, splice_e, splice_ea, splice_eaa, splice_en, splice_ec, splice_eca, splice_r, splice_ra, splice_raa, splice_rn, splice_rc, splice_rca, splice_nil, List.append_assoc, List.length_append, Tryz.results46, eR]
    refine callK (Mul_ok y.num x.den (by omega) (by omega)) ?_
    simp (maxSteps := 4000000) (dsimp := false) (disch := omega) only [go_sem, ↓reduceIte, Nat.reduceEqDiff, Nat.reduceMul, Nat.reduceAdd, Nat.reduceSub, Nat.reduceLT, Nat.reduceLeDiff, Nat.reduceBEq, reduceCtorEq, Int.reduceToNat, Int.reduceEq, Int.reduceLT, Int.reduceLE, Int.reduceNeg, Int.reduceSub, Int.reduceAdd, Int.reduceMul, eZ_len, eR_len, seg_e, seg_ea, seg_en, seg_r, seg_ra, seg_rn, splice_e, splice_ea, splice_eaa, splice_en, splice_ec, splice_eca, splice_r, splice_ra, splice_raa, splice_rn, splice_rc, splice_rca, splice_nil, List.append_assoc, List.length_append, Tryz.results46, eR]
    refine callK (Add_ok _ _ (by omega) (by omega)) ?_
    simp (maxSteps := 4000000) (dsimp := false) (disch := omega) only [go_sem, ↓reduceIte, Nat.reduceEqDiff, Nat.reduceMul, Nat.reduceAdd, Nat.reduceSub, Nat.reduceLT, Nat.reduceLeDiff, Nat.reduceBEq, reduceCtorEq, Int.reduceToNat, Int.reduceEq, Int.reduceLT, Int.reduceLE, Int.reduceNeg, Int.reduceSub, Int.reduceAdd, Int.reduceMul, eZ_len, eR_len, seg_e, seg_ea, seg_en, seg_r, seg_ra, seg_rn, splice_e, splice_ea, splice_eaa, splice_en, splice_ec, splice_eca, splice_r, splice_ra, splice_raa, splice_rn, splice_rc, splice_rca, splice_nil, List.append_assoc, List.length_append, Tryz.results46, eR]
    refine callK (Mul_ok x.den y.den (by omega) (by omega)) ?_
    simp (maxSteps := 4000000) (dsimp := false) (disch := omega) only [go_sem, ↓reduceIte, Nat.reduceEqDiff, Nat.reduceMul, Nat.reduceAdd, Nat.reduceSub, Nat.reduceLT, Nat.reduceLeDiff, Nat.reduceBEq, reduceCtorEq, Int.reduceToNat, Int.reduceEq, Int.reduceLT, Int.reduceLE, Int.reduceNeg, Int.reduceSub, Int.reduceAdd, Int.reduceMul, eZ_len, eR_len, seg_e, seg_ea, seg_en, seg_r, seg_ra, seg_rn, splice_e, splice_ea, splice_eaa, splice_en, splice_ec, splice_eca, splice_r, splice_ra, splice_raa, splice_rn, splice_rc, splice_rca, splice_nil, List.append_assoc, List.length_append, Tryz.results46, eR]
    refine callK (reduce_ok _ _ (by omega) (by omega) (Int.mul_ne_zero (den_cast_ne x) (den_cast_ne y))) ?_
    rw [← add_divInt]
    simp (maxSteps := 4000000) (dsimp := false) (disch := omega) only [go_sem, ↓reduceIte, Nat.reduceEqDiff, Nat.reduceMul, Nat.reduceAdd, Nat.reduceSub, Nat.reduceLT, Nat.reduceLeDiff, Nat.reduceBEq, reduceCtorEq, Int.reduceToNat, Int.reduceEq, Int.reduceLT, Int.reduceLE, Int.reduceNeg, Int.reduceSub, Int.reduceAdd, Int.reduceMul, eZ_len, eR_len, seg_e, seg_ea, seg_en, seg_r, seg_ra, seg_rn, splice_e, splice_ea, splice_eaa, splice_en, splice_ec, splice_eca, splice_r, splice_ra, splice_raa, splice_rn, splice_rc, splice_rca, splice_nil, List.append_assoc, List.length_append, Tryz.results46, eR]

theorem RSub_ok (x y : Rat) (n m : Nat) (hx : SR n x) (hy : SR m y) (hn : n + m < 2 ^ 35) : Ok Tryz.prog 27 [.ag (eR x), .ag (eR y)] ⟨[.ag (eR (x - y))], []⟩ := by
  refine ok_of_V (T := Tb) tb_ok mo Tryz.func27 rfl (by kernel_rfl) (by kernel_rfl) (by simp [Tryz.ntmps27, mts]) ?_
  simp (maxSteps := 4000000) (dsimp := false) (disch := omega) only [go_sem, ↓reduceIte, Nat.reduceEqDiff, Nat.reduceMul, Nat.reduceAdd, Nat.reduceSub, Nat.reduceLT, Nat.reduceLeDiff, Nat.reduceBEq, reduceCtorEq, Int.reduceToNat, Int.reduceEq, Int.reduceLT, Int.reduceLE, Int.reduceNeg, Int.reduceSub, Int.reduceAdd, Int.reduceMul, eZ_len, eR_len, seg_e, seg_ea, seg_en, seg_r, seg_ra, seg_rn, splice_e, splice_ea, splice_eaa, splice_en, splice_ec, splice_eca, splice_r, splice_ra, splice_raa, splice_rn, splice_rc, splice_rca, splice_nil, List.append_assoc, List.length_append, Tryz.results27]
  refine callK (RNeg_ok y m hy (by omega)) ?_
  simp (maxSteps := 4000000) (dsimp := false) (disch := omega) only [go_sem, ↓reduceIte, Nat.reduceEqDiff, Nat.reduceMul, Nat.reduceAdd, Nat.reduceSub, Nat.reduceLT, Nat.reduceLeDiff, Nat.reduceBEq, reduceCtorEq, Int.reduceToNat, Int.reduceEq, Int.reduceLT, Int.reduceLE, Int.reduceNeg, Int.reduceSub, Int.reduceAdd, Int.reduceMul, eZ_len, eR_len, seg_e, seg_ea, seg_en, seg_r, seg_ra, seg_rn, splice_e, splice_ea, splice_eaa, splice_en, splice_ec, splice_eca, splice_r, splice_ra, splice_raa, splice_rn, splice_rc, splice_rca, splice_nil, List.append_assoc, List.length_append, Tryz.results27]
  refine callK (RAdd_ok x (-y) n m hx (SR_neg hy) hn) ?_
  rw [← Rat.sub_eq_add_neg]
  simp (maxSteps := 4000000) (dsimp := false) (disch := omega) only [go_sem, ↓reduceIte, Nat.reduceEqDiff, Nat.reduceMul, Nat.reduceAdd, Nat.reduceSub, Nat.reduceLT, Nat.reduceLeDiff, Nat.reduceBEq, reduceCtorEq, Int.reduceToNat, Int.reduceEq, Int.reduceLT, Int.reduceLE, Int.reduceNeg, Int.reduceSub, Int.reduceAdd, Int.reduceMul, eZ_len, eR_len, seg_e, seg_ea, seg_en, seg_r, seg_ra, seg_rn, splice_e, splice_ea, splice_eaa, splice_en, splice_ec, splice_eca, splice_r, splice_ra, splice_raa, splice_rn, splice_rc, splice_rca, splice_nil, List.append_assoc, List.length_append, Tryz.results27]

theorem RDiv_ok (x y : Rat) (n m : Nat) (hx : SR n x) (hy : SR m y) (hn : n + m < 2 ^ 36) (hy0 : y ≠ 0) : Ok Tryz.prog 90 [.ag (eR x), .ag (eR y)] ⟨[.ag (eR (x / y)), .lf (.int .i64 0)], []⟩ := by
  obtain ⟨h1, h2⟩ := hx.lz
  obtain ⟨h3, h4⟩ := hy.lz
  have k1 := lz_le (lz_mul hx.1 (b := (y.den : Int)) hy.2)
  have k2 := lz_le (lz_mul (a := (x.den : Int)) hx.2 hy.1)
  refine ok_of_V (T := Tb) tb_ok mo Tryz.func90 rfl (by kernel_rfl) (by kernel_rfl) (by simp [Tryz.ntmps90, mts]) ?_
  simp (maxSteps := 4000000) (dsimp := false) (disch := omega) only [go_sem, ↓reduceIte, Nat.reduceEqDiff, Nat.reduceMul, Nat.reduceAdd, Nat.reduceSub, Nat.reduceLT, Nat.reduceLeDiff, Nat.reduceBEq, reduceCtorEq, Int.reduceToNat, Int.reduceEq, Int.reduceLT, Int.reduceLE, Int.reduceNeg, Int.reduceSub, Int.reduceAdd, Int.reduceMul, eZ_len, eR_len, seg_e, seg_ea, seg_en, seg_r, seg_ra, seg_rn, splice_e, splice_ea, splice_eaa, splice_en, splice_ec, splice_eca, splice_r, splice_ra, splice_raa, splice_rn, splice_rc, splice_rca, splice_nil, List.append_assoc, List.length_append, Tryz.results90]
  refine callK (RSign_ok y) ?_
  simp (maxSteps := 4000000) (dsimp := false) (disch := omega) only [go_sem, ↓reduceIte, Nat.reduceEqDiff, Nat.reduceMul, Nat.reduceAdd, Nat.reduceSub, Nat.reduceLT, Nat.reduceLeDiff, Nat.reduceBEq, reduceCtorEq, Int.reduceToNat, Int.reduceEq, Int.reduceLT, Int.reduceLE, Int.reduceNeg, Int.reduceSub, Int.reduceAdd, Int.reduceMul, eZ_len, eR_len, seg_e, seg_ea, seg_en, seg_r, seg_ra, seg_rn, splice_e, splice_ea, splice_eaa, splice_en, splice_ec, splice_eca, splice_r, splice_ra, splice_raa, splice_rn, splice_rc, splice_rca, splice_nil, List.append_assoc, List.length_append, Tryz.results90, eR, sign_eq]
  refine ⟨fun h => absurd h (num_ne hy0), fun h => ?_⟩
  refine callK (Mul_ok x.num y.den (by omega) (by omega)) ?_
  simp (maxSteps := 4000000) (dsimp := false) (disch := omega) only [go_sem, ↓reduceIte, Nat.reduceEqDiff, Nat.reduceMul, Nat.reduceAdd, Nat.reduceSub, Nat.reduceLT, Nat.reduceLeDiff, Nat.reduceBEq, reduceCtorEq, Int.reduceToNat, Int.reduceEq, Int.reduceLT, Int.reduceLE, Int.reduceNeg, Int.reduceSub, Int.reduceAdd, Int.reduceMul, eZ_len, eR_len, seg_e, seg_ea, seg_en, seg_r, seg_ra, seg_rn, splice_e, splice_ea, splice_eaa, splice_en, splice_ec, splice_eca, splice_r, splice_ra, splice_raa, splice_rn, splice_rc, splice_rca, splice_nil, List.append_assoc, List.length_append, Tryz.results90, eR]
  refine callK (Mul_ok x.den y.num (by omega) (by omega)) ?_
  simp (maxSteps := 4000000) (dsimp := false) (disch := omega) only [go_sem, ↓reduceIte, Nat.reduceEqDiff, Nat.reduceMul, Nat.reduceAdd, Nat.reduceSub, Nat.reduceLT, Nat.reduceLeDiff, Nat.reduceBEq, reduceCtorEq, Int.reduceToNat, Int.reduceEq, Int.reduceLT, Int.reduceLE, Int.reduceNeg, Int.reduceSub, Int.reduceAdd, Int.reduceMul, eZ_len, eR_len, seg_e, seg_ea, seg_en, seg_r, seg_ra, seg_rn, splice_e, splice_ea, splice_eaa, splice_en, splice_ec, splice_eca, splice_r, splice_ra, splice_raa, splice_rn, splice_rc, splice_rca, splice_nil, List.append_assoc, List.length_append, Tryz.results90, eR]
  refine callK (reduce_ok _ _ (by omega) (by omega) (Int.mul_ne_zero (den_cast_ne x) (num_ne hy0))) ?_
  rw [← div_divInt x y hy0]
  simp (maxSteps := 4000000) (dsimp := false) (disch := omega) only [go_sem, ↓reduceIte, Nat.reduceEqDiff, Nat.reduceMul, Nat.reduceAdd, Nat.reduceSub, Nat.reduceLT, Nat.reduceLeDiff, Nat.reduceBEq, reduceCtorEq, Int.reduceToNat, Int.reduceEq, Int.reduceLT, Int.reduceLE, Int.reduceNeg, Int.reduceSub, Int.reduceAdd, Int.reduceMul, eZ_len, eR_len, seg_e, seg_ea, seg_en, seg_r, seg_ra, seg_rn, splice_e, splice_ea, splice_eaa, splice_en, splice_ec, splice_eca, splice_r, splice_ra, splice_raa, splice_rn, splice_rc, splice_rca, splice_nil, List.append_assoc, List.length_append, Tryz.results90]
end Go.Proofs.YtdhgdpcmdmgchaaGreat.Fw
