/- Fractions as cells, in plain Lean. Conditions: none. -/
import Derived.Test.YtdhgdpcmdmgchaaGreatFwCm
namespace Go.Proofs.YtdhgdpcmdmgchaaGreat.Fw
open Go
set_option linter.unusedSimpArgs false
set_option linter.unusedVariables false

/-- A fraction's cells. -/
def eR (x : Rat) : List L := eZ x.num ++ eZ (x.den : Int)

/-- At most n limbs above and below. -/
def SR (n : Nat) (x : Rat) : Prop := x.num.natAbs < Bs ^ n ∧ x.den < Bs ^ n

theorem SR.lz {n : Nat} {x : Rat} (h : SR n x) : lz x.num ≤ n ∧ lz (x.den : Int) ≤ n := ⟨nd_le h.1, nd_le h.2⟩
theorem SR.mono {n m : Nat} {x : Rat} (h : SR n x) (hm : n ≤ m) : SR m x :=
  ⟨Nat.lt_of_lt_of_le h.1 (Nat.pow_le_pow_right Bs_pos hm), Nat.lt_of_lt_of_le h.2 (Nat.pow_le_pow_right Bs_pos hm)⟩

theorem lz_mul {a b : Int} {n m : Nat} (ha : a.natAbs < Bs ^ n) (hb : b.natAbs < Bs ^ m) : (a * b).natAbs < Bs ^ (n + m) := by
  rw [Int.natAbs_mul, Nat.pow_add]
  exact Nat.mul_lt_mul'' ha hb
theorem lz_add {a b : Int} {n : Nat} (ha : a.natAbs < Bs ^ n) (hb : b.natAbs < Bs ^ n) : (a + b).natAbs < Bs ^ (n + 1) := by
  have := Int.natAbs_add_le a b
  rw [Nat.pow_succ]
  simp only [Bs] at *
  omega

theorem div_num_lt {a b : Int} {n : Nat} (ha : a.natAbs < Bs ^ n) (hb : b.natAbs < Bs ^ n) (hb0 : b ≠ 0) : SR n (Rat.divInt a b) := by
  have hg : 0 < Int.gcd b a := Nat.pos_of_ne_zero fun h => hb0 (Int.gcd_eq_zero_iff.1 h).1
  refine ⟨?_, ?_⟩
  · rw [Rat.num_divInt]
    have hd : (Int.gcd b a : Int) ∣ b.sign * a := Int.dvd_mul_of_dvd_right (Int.gcd_dvd_right _ _)
    rw [Int.natAbs_ediv_of_dvd hd]
    refine Nat.lt_of_le_of_lt (Nat.div_le_self _ _) ?_
    rw [Int.natAbs_mul, Int.natAbs_sign, if_neg hb0, Nat.one_mul]
    exact ha
  · rw [Rat.den_divInt, if_neg hb0]
    exact Nat.lt_of_le_of_lt (Nat.div_le_self _ _) hb

theorem den_cast_ne (x : Rat) : (x.den : Int) ≠ 0 := by have := x.den_nz; omega

theorem add_divInt (x y : Rat) : x + y = Rat.divInt (x.num * y.den + y.num * x.den) (x.den * y.den) := by
  rw [Rat.add_def', ← Rat.divInt_ofNat, Int.natCast_mul]
theorem add_divInt' (x y : Rat) (h : x.den = y.den) : x + y = Rat.divInt (x.num + y.num) x.den := by
  rw [add_divInt, ← h, ← Int.add_mul, Rat.divInt_mul_right (den_cast_ne x)]
theorem mul_divInt (x y : Rat) : x * y = Rat.divInt (x.num * y.num) (x.den * y.den) := by
  rw [Rat.mul_def', ← Rat.divInt_ofNat, Int.natCast_mul]
theorem div_divInt (x y : Rat) (hy : y ≠ 0) : x / y = Rat.divInt (x.num * y.den) (x.den * y.num) := by
  rw [Rat.div_def, Rat.inv_def]
  conv => lhs; lhs; rw [← Rat.num_divInt_den x]
  rw [Rat.divInt_mul_divInt]

theorem SR_divInt_add {n m : Nat} {x y : Rat} (hx : SR n x) (hy : SR m y) : (x.num * y.den + y.num * x.den).natAbs < Bs ^ (n + m + 1) ∧ ((x.den : Int) * y.den).natAbs < Bs ^ (n + m + 1) := by
  refine ⟨lz_add (lz_mul hx.1 (b := (y.den : Int)) hy.2) ?_, ?_⟩
  · rw [Nat.add_comm n m]; exact lz_mul hy.1 (b := (x.den : Int)) hx.2
  · exact Nat.lt_of_lt_of_le (lz_mul (a := (x.den : Int)) (b := (y.den : Int)) hx.2 hy.2) (Nat.pow_le_pow_right Bs_pos (by omega))
theorem SR_add {n m : Nat} {x y : Rat} (hx : SR n x) (hy : SR m y) : SR (n + m + 1) (x + y) := by
  obtain ⟨h1, h2⟩ := SR_divInt_add hx hy
  rw [add_divInt]
  exact div_num_lt h1 h2 (Int.mul_ne_zero (den_cast_ne x) (den_cast_ne y))
theorem SR_neg {n : Nat} {x : Rat} (hx : SR n x) : SR n (-x) := ⟨by rw [Rat.neg_num, Int.natAbs_neg]; exact hx.1, hx.2⟩
theorem SR_sub {n m : Nat} {x y : Rat} (hx : SR n x) (hy : SR m y) : SR (n + m + 1) (x - y) := by
  rw [Rat.sub_eq_add_neg]; exact SR_add hx (SR_neg hy)
theorem SR_mul {n m : Nat} {x y : Rat} (hx : SR n x) (hy : SR m y) : SR (n + m) (x * y) := by
  rw [mul_divInt]
  exact div_num_lt (lz_mul hx.1 hy.1) (lz_mul (a := (x.den : Int)) (b := (y.den : Int)) hx.2 hy.2) (Int.mul_ne_zero (den_cast_ne x) (den_cast_ne y))
theorem num_ne {y : Rat} (hy : y ≠ 0) : y.num ≠ 0 := fun h => hy (Rat.num_eq_zero.1 h)
theorem SR_div {n m : Nat} {x y : Rat} (hx : SR n x) (hy : SR m y) (hy0 : y ≠ 0) : SR (n + m) (x / y) := by
  rw [div_divInt x y hy0]
  exact div_num_lt (lz_mul hx.1 (b := (y.den : Int)) hy.2) (lz_mul (a := (x.den : Int)) hx.2 hy.1) (Int.mul_ne_zero (den_cast_ne x) (num_ne hy0))
theorem SR_int {n : Int} (h : -9223372036854775808 ≤ n ∧ n ≤ 9223372036854775807) : SR 3 (n : Rat) := by
  refine ⟨?_, ?_⟩
  · rw [Rat.num_intCast]; simp only [Bs]; omega
  · rw [Rat.den_intCast]; decide

/-- Lowest terms: what reduce comes to. -/
theorem reduce_num {a b : Int} (hb : 0 < b) : (Rat.divInt a b).num = a.fdiv (Int.gcd a b : Nat) ∧ ((Rat.divInt a b).den : Int) = b.fdiv (Int.gcd a b : Nat) := by
  have hb0 : b ≠ 0 := by omega
  refine ⟨?_, ?_⟩
  · rw [Rat.num_divInt, Int.sign_eq_one_of_pos hb, Int.one_mul, Int.gcd_comm, Int.fdiv_eq_ediv_of_nonneg _ (by omega)]
  · rw [Rat.den_divInt, if_neg hb0, Int.gcd_comm, Int.natCast_ediv, Int.fdiv_eq_ediv_of_nonneg _ (by omega), Int.natAbs_of_nonneg (by omega)]

theorem eZ_len (x : Int) : (eZ x).length = 2 := rfl
theorem eR_len (x : Rat) : (eR x).length = 4 := rfl
theorem seg_e {x : Int} : seg 0 2 (eZ x) = eZ x := rfl
theorem seg_ea {x : Int} {n : Nat} {l : List L} : seg 0 (n + 2) (eZ x ++ l) = eZ x ++ seg 0 n l := by simp [seg, eZ]
theorem seg_en {x : Int} {p n : Nat} {l : List L} : seg (p + 2) n (eZ x ++ l) = seg p n l := by simp [seg, eZ]
theorem seg_r {x : Rat} : seg 0 4 (eR x) = eR x := rfl
theorem seg_ra {x : Rat} {n : Nat} {l : List L} : seg 0 (n + 4) (eR x ++ l) = eR x ++ seg 0 n l := by simp [seg, eR, eZ]
theorem seg_rn {x : Rat} {p n : Nat} {l : List L} : seg (p + 4) n (eR x ++ l) = seg p n l := by simp [seg, eR, eZ]
theorem splice_e {x y : Int} : splice 0 (eZ x) (eZ y) = eZ x := rfl
theorem splice_ea {x y : Int} {l : List L} : splice 0 (eZ x) (eZ y ++ l) = eZ x ++ l := by simp [splice, eZ]
theorem splice_eaa {x y : Int} {m l : List L} : splice 0 (eZ x ++ m) (eZ y ++ l) = eZ x ++ splice 0 m l := by simp [splice, eZ]
theorem splice_en {x : Int} {p : Nat} {m l : List L} : splice (p + 2) m (eZ x ++ l) = eZ x ++ splice p m l := by simp [splice, eZ, Nat.add_right_comm]
theorem splice_ec {x : Int} {a b : L} {l : List L} : splice 0 (eZ x) (a :: b :: l) = eZ x ++ l := by simp [splice, eZ]
theorem splice_eca {x : Int} {a b : L} {m l : List L} : splice 0 (eZ x ++ m) (a :: b :: l) = eZ x ++ splice 0 m l := by simp [splice, eZ]
theorem splice_r {x y : Rat} : splice 0 (eR x) (eR y) = eR x := by simp [splice, eR, eZ]
theorem splice_ra {x y : Rat} {l : List L} : splice 0 (eR x) (eR y ++ l) = eR x ++ l := by simp [splice, eR, eZ]
theorem splice_raa {x y : Rat} {m l : List L} : splice 0 (eR x ++ m) (eR y ++ l) = eR x ++ splice 0 m l := by simp [splice, eR, eZ]
theorem splice_rn {x : Rat} {p : Nat} {m l : List L} : splice (p + 4) m (eR x ++ l) = eR x ++ splice p m l := by simp [splice, eR, eZ, Nat.add_right_comm]
theorem splice_rc {x : Rat} {a b c d : L} {l : List L} : splice 0 (eR x) (a :: b :: c :: d :: l) = eR x ++ l := by simp [splice, eR, eZ]
theorem splice_rca {x : Rat} {a b c d : L} {m l : List L} : splice 0 (eR x ++ m) (a :: b :: c :: d :: l) = eR x ++ splice 0 m l := by simp [splice, eR, eZ]
end Go.Proofs.YtdhgdpcmdmgchaaGreat.Fw
