/- Contracts: quotient and remainder. Conditions: none. -/
import Derived.Test.YtdhgdpcmdmgchaaGreatFwCk
namespace Go.Proofs.YtdhgdpcmdmgchaaGreat.Fw
open Go Go.Proofs
set_option linter.unusedSimpArgs false
set_option linter.unusedVariables false
set_option maxHeartbeats 2000000
set_option maxRecDepth 10000

theorem dk_lt {a b : Nat} (hb : b ≠ 0) : a / b < Bs ^ dk a b ∧ dk a b ≤ nd a + 2 := by
  have ha := nd_lt a
  have hb' := nd_ge hb
  unfold dk
  split
  · exact ⟨Nat.lt_of_le_of_lt (Nat.div_le_self _ _) ha, by omega⟩
  · split
    · rename_i h; rw [Nat.div_eq_of_lt h]; simp
    · rename_i h1 h2
      have h3 : nd b ≤ nd a := nd_le (Nat.lt_of_le_of_lt (by omega) ha)
      have h4 : nd b ≠ 0 := fun h => hb (nd_eq_zero.1 h)
      refine ⟨?_, by omega⟩
      refine (Nat.div_lt_iff_lt_mul (by omega)).2 ?_
      have h5 : Bs ^ nd a ≤ Bs ^ (nd a + 2 - nd b) * Bs ^ (nd b - 1) := by
        rw [← Nat.pow_add]; exact Nat.pow_le_pow_right Bs_pos (by omega)
      have h6 : Bs ^ (nd a + 2 - nd b) * Bs ^ (nd b - 1) ≤ Bs ^ (nd a + 2 - nd b) * b := Nat.mul_le_mul_left _ hb'
      omega
theorem dr_lt {a b : Nat} (hb : b ≠ 0) : a % b < Bs ^ dr a b ∧ dr a b ≤ nd a + nd b + 1 := by
  have ha := nd_lt a
  have hb' := nd_lt b
  have hm := Nat.mod_lt a (Nat.pos_of_ne_zero hb)
  unfold dr
  split
  · rename_i h; rw [h] at hb'; exact ⟨by omega, by omega⟩
  · split
    · rename_i h; rw [Nat.mod_eq_of_lt h]; exact ⟨ha, by omega⟩
    · rename_i h1 h2
      have h4 : nd b ≠ 0 := fun h => hb (nd_eq_zero.1 h)
      obtain ⟨s0, s1, s2, s3⟩ := scaled (b := b) (n := nd b - 1) (by omega)
      refine ⟨Nat.lt_of_le_of_lt (Nat.le_mul_of_pos_right _ s0) (nd_lt _), ?_⟩
      have h5 : a % b * (Bs / (dgt b (nd b - 1) + 1)) < Bs ^ (nd b - 1 + 1) := Nat.lt_of_le_of_lt (Nat.mul_le_mul_right _ (Nat.le_of_lt hm)) s2
      have := nd_le h5
      omega

theorem DivMod_zero (a b : Int) (hb : b = 0) : Ok Tryz.prog 86 [.ag (eZ a), .ag (eZ b)] ⟨[.ag (eZ 0), .ag (eZ 0), .lf (.int .i64 6)], []⟩ := by
  subst hb
  have e0 : Int.natAbs 0 = 0 := rfl
  refine ok_of_V (T := Tb) tb_ok mo Tryz.func86 rfl (by kernel_rfl) (by kernel_rfl) (by simp [Tryz.ntmps86, mts]) ?_
  simp (maxSteps := 4000000) (dsimp := false) (disch := omega) only [go_sem, eZ, ↓reduceIte, Nat.reduceEqDiff, Nat.reduceMul, Nat.reduceAdd, Nat.reduceSub, Nat.reduceLT, Nat.reduceLeDiff, Nat.reduceBEq, reduceCtorEq, Int.reduceToNat, Int.reduceEq, Int.reduceLT, Int.reduceLE, Int.reduceNeg, Int.reduceSub, Int.reduceAdd, Int.reduceMul, Tryz.results86]
  simp only [e0, nd_zero, du_zero]
  simp
theorem nat_nn (k : Nat) : ¬ (k : Int) < 0 := by omega
theorem tdiv_sg (a b : Int) : (if (decide (a < 0) != decide (b < 0)) = true then -((a.natAbs / b.natAbs : Nat) : Int) else ((a.natAbs / b.natAbs : Nat) : Int)) = a.tdiv b := by
  rcases Int.natAbs_eq a with ha | ha <;> rcases Int.natAbs_eq b with hb | hb <;> rw [ha, hb] <;> simp only [Int.natAbs_neg, Int.natAbs_natCast, Int.tdiv_neg, Int.neg_tdiv, Int.neg_neg, ← Int.ofNat_tdiv] <;> generalize a.natAbs = m <;> generalize b.natAbs = n
  · simp [nat_nn]
  · by_cases h : n = 0
    · subst h; simp
    · simp [show (-(n : Int) < 0) by omega, nat_nn, h]
  · by_cases h : m = 0
    · subst h; simp
    · simp [show (-(m : Int) < 0) by omega, nat_nn, h]
  · by_cases h : m = 0
    · subst h; simp
    · by_cases h' : n = 0
      · subst h'; simp
      · simp [show 0 < m by omega, show 0 < n by omega]
theorem tmod_sg (a b : Int) : (if decide (a < 0) = true then -((a.natAbs % b.natAbs : Nat) : Int) else ((a.natAbs % b.natAbs : Nat) : Int)) = a.tmod b := by
  rcases Int.natAbs_eq a with ha | ha <;> rcases Int.natAbs_eq b with hb | hb <;> rw [ha, hb] <;> simp only [Int.natAbs_neg, Int.natAbs_natCast, Int.tmod_neg, Int.neg_tmod, Int.neg_neg, ← Int.ofNat_tmod] <;> generalize a.natAbs = m <;> generalize b.natAbs = n
  · simp [nat_nn]
  · simp [nat_nn]
  · by_cases h : m = 0
    · subst h; simp
    · simp [show (-(m : Int) < 0) by omega, h]
  · by_cases h : m = 0
    · subst h; simp
    · simp [show (-(m : Int) < 0) by omega, h]
/-- Division rounded down, by the truncated one. -/
theorem fdiv_of (a b : Int) (hb : b ≠ 0) : (a.tmod b ≠ 0 ∧ (decide (a.tmod b < 0) != decide (b < 0)) = true → a.fdiv b = a.tdiv b - 1 ∧ a.fmod b = a.tmod b + b) ∧
    ((a.tmod b = 0 ∨ (decide (a.tmod b < 0) != decide (b < 0)) = false) → a.fdiv b = a.tdiv b ∧ a.fmod b = a.tmod b) := by
  have hd : b ∣ a ↔ a.tmod b = 0 := Int.dvd_iff_tmod_eq_zero
  have hneg : a ≤ 0 → a.tmod b ≤ 0 := fun h => by
    have h1 := Int.tmod_nonneg (a := -a) b (by omega)
    rw [Int.neg_tmod] at h1; omega
  have hpos : 0 ≤ a → 0 ≤ a.tmod b := fun h => Int.tmod_nonneg b h
  have hs : b < 0 → b.sign = -1 := Int.sign_eq_neg_one_of_neg
  have hs' : 0 < b → b.sign = 1 := Int.sign_eq_one_of_pos
  refine ⟨fun ⟨h1, h2⟩ => ?_, fun h => ?_⟩
  · have hnd : ¬ b ∣ a := by rw [hd]; exact h1
    rw [Int.fdiv_eq_tdiv, Int.fmod_eq_tmod]
    by_cases ha : 0 ≤ a
    · have h3 : b < 0 := by
        have : ¬ a.tmod b < 0 := by have := hpos ha; omega
        simpa [this] using h2
      have h4 : ¬ 0 ≤ b := by omega
      simp only [hnd, ha, h4, if_true, if_false]
      exact ⟨trivial, trivial⟩
    · have h3 : ¬ b < 0 := by
        have : a.tmod b < 0 := by have := hneg (by omega); omega
        simpa [this] using h2
      have h4 : 0 ≤ b := by omega
      simp only [hnd, ha, h4, if_true, if_false, hs' (show 0 < b by omega)]
      exact ⟨trivial, by omega⟩
  · rw [Int.fdiv_eq_tdiv, Int.fmod_eq_tmod]
    by_cases h0 : a.tmod b = 0
    · rw [if_pos (hd.2 h0), if_pos (hd.2 h0)]; simp
    · have hnd : ¬ b ∣ a := by rw [hd]; exact h0
      have h2 := h.resolve_left h0
      by_cases ha : 0 ≤ a
      · have h3 : ¬ b < 0 := by
          have : ¬ a.tmod b < 0 := by have := hpos ha; omega
          simpa [this] using h2
        have h4 : 0 ≤ b := by omega
        simp only [hnd, ha, h4, if_true, if_false]
        simp
      · have h3 : b < 0 := by
          have : a.tmod b < 0 := by have := hneg (by omega); omega
          simpa [this] using h2
        have h4 : ¬ 0 ≤ b := by omega
        simp only [hnd, ha, h4, if_true, if_false, hs h3]
        exact ⟨by omega, by omega⟩
theorem lz_le {a : Int} {k : Nat} (h : a.natAbs < Bs ^ k) : lz a ≤ k := nd_le h
theorem lz_tdiv (a b : Int) (hb : b ≠ 0) : lz (a.tdiv b) ≤ lz a := by
  unfold lz
  rw [Int.natAbs_tdiv]
  exact nd_le (Nat.lt_of_le_of_lt (Nat.div_le_self _ _) (nd_lt _))
theorem lz_tmod (a b : Int) (hb : b ≠ 0) : lz (a.tmod b) ≤ lz b := by
  unfold lz
  rw [Int.natAbs_tmod]
  exact nd_le (Nat.lt_trans (Nat.mod_lt _ (by omega)) (nd_lt _))
theorem DivMod_ok (a b : Int) (ha : lz a < 2 ^ 36) (hb : lz b < 2 ^ 36) (hb0 : b ≠ 0) : Ok Tryz.prog 86 [.ag (eZ a), .ag (eZ b)] ⟨[.ag (eZ (a.fdiv b)), .ag (eZ (a.fmod b)), .lf (.int .i64 0)], []⟩ := by
  unfold lz at ha hb
  have hb1 : b.natAbs ≠ 0 := by omega
  have hn0 : nd b.natAbs ≠ 0 := fun h => hb1 (nd_eq_zero.1 h)
  obtain ⟨q1, q2⟩ := dk_lt (a := a.natAbs) hb1
  obtain ⟨r1, r2⟩ := dr_lt (a := a.natAbs) hb1
  refine ok_of_V (T := Tb) tb_ok mo Tryz.func86 rfl (by kernel_rfl) (by kernel_rfl) (by simp [Tryz.ntmps86, mts]) ?_
  simp (maxSteps := 4000000) (dsimp := false) (disch := omega) only [go_sem, eZ, ↓reduceIte, Nat.reduceEqDiff, Nat.reduceMul, Nat.reduceAdd, Nat.reduceSub, Nat.reduceLT, Nat.reduceLeDiff, Nat.reduceBEq, reduceCtorEq, Int.reduceToNat, Int.reduceEq, Int.reduceLT, Int.reduceLE, Int.reduceNeg, Int.reduceSub, Int.reduceAdd, Int.reduceMul, Tryz.results86]
  refine ⟨fun h => by omega, fun _ => ?_⟩
  refine callK (divide_ok a.natAbs b.natAbs _ _ (nd_lt _) (by omega) (nd_lt _) (by omega) hb1) ?_
  simp (maxSteps := 4000000) (dsimp := false) (disch := omega) only [go_sem, eZ, ↓reduceIte, Nat.reduceEqDiff, Nat.reduceMul, Nat.reduceAdd, Nat.reduceSub, Nat.reduceLT, Nat.reduceLeDiff, Nat.reduceBEq, reduceCtorEq, Int.reduceToNat, Int.reduceEq, Int.reduceLT, Int.reduceLE, Int.reduceNeg, Int.reduceSub, Int.reduceAdd, Int.reduceMul, Tryz.results86]
  refine callK (signed_eZ _ _ _ q1 (by omega)) ?_
  rw [tdiv_sg]
  simp (maxSteps := 4000000) (dsimp := false) (disch := omega) only [go_sem, eZ, ↓reduceIte, Nat.reduceEqDiff, Nat.reduceMul, Nat.reduceAdd, Nat.reduceSub, Nat.reduceLT, Nat.reduceLeDiff, Nat.reduceBEq, reduceCtorEq, Int.reduceToNat, Int.reduceEq, Int.reduceLT, Int.reduceLE, Int.reduceNeg, Int.reduceSub, Int.reduceAdd, Int.reduceMul, Tryz.results86]
  refine callK (signed_eZ _ _ _ r1 (by omega)) ?_
  rw [tmod_sg]
  have l1 := lz_tdiv a b hb0
  have l2 := lz_tmod a b hb0
  obtain ⟨f1, f2⟩ := fdiv_of a b hb0
  have hz : nd (a.tmod b).natAbs = 0 ↔ a.tmod b = 0 := by rw [nd_eq_zero]; omega
  unfold lz at l1 l2
  simp (maxSteps := 4000000) (dsimp := false) (disch := omega) only [go_sem, eZ, ↓reduceIte, Nat.reduceEqDiff, Nat.reduceMul, Nat.reduceAdd, Nat.reduceSub, Nat.reduceLT, Nat.reduceLeDiff, Nat.reduceBEq, reduceCtorEq, Int.reduceToNat, Int.reduceEq, Int.reduceLT, Int.reduceLE, Int.reduceNeg, Int.reduceSub, Int.reduceAdd, Int.reduceMul, Tryz.results86]
  refine ⟨fun c1 => ⟨fun c2 => ?_, fun c2 => ?_⟩, fun c1 => ?_⟩
  · refine callK (FromInt64_ok 1 (by omega)) ?_
    simp (maxSteps := 4000000) (dsimp := false) (disch := omega) only [go_sem, eZ, ↓reduceIte, Nat.reduceEqDiff, Nat.reduceMul, Nat.reduceAdd, Nat.reduceSub, Nat.reduceLT, Nat.reduceLeDiff, Nat.reduceBEq, reduceCtorEq, Int.reduceToNat, Int.reduceEq, Int.reduceLT, Int.reduceLE, Int.reduceNeg, Int.reduceSub, Int.reduceAdd, Int.reduceMul, Tryz.results86]
    refine callK (Sub_ok (a.tdiv b) 1 (by unfold lz; omega) (Nat.lt_of_le_of_lt (lz_le (a := 1) (k := 1) (by decide)) (by decide))) ?_
    simp (maxSteps := 4000000) (dsimp := false) (disch := omega) only [go_sem, eZ, ↓reduceIte, Nat.reduceEqDiff, Nat.reduceMul, Nat.reduceAdd, Nat.reduceSub, Nat.reduceLT, Nat.reduceLeDiff, Nat.reduceBEq, reduceCtorEq, Int.reduceToNat, Int.reduceEq, Int.reduceLT, Int.reduceLE, Int.reduceNeg, Int.reduceSub, Int.reduceAdd, Int.reduceMul, Tryz.results86]
    refine callK (Add_ok (a.tmod b) b (by unfold lz; omega) (by unfold lz; omega)) ?_
    obtain ⟨g1, g2⟩ := f1 ⟨fun h => by rw [hz.2 h] at c1; omega, c2⟩
    rw [← g1, ← g2]
    simp (maxSteps := 4000000) (dsimp := false) (disch := omega) only [go_sem, eZ, ↓reduceIte, Nat.reduceEqDiff, Nat.reduceMul, Nat.reduceAdd, Nat.reduceSub, Nat.reduceLT, Nat.reduceLeDiff, Nat.reduceBEq, reduceCtorEq, Int.reduceToNat, Int.reduceEq, Int.reduceLT, Int.reduceLE, Int.reduceNeg, Int.reduceSub, Int.reduceAdd, Int.reduceMul, Tryz.results86]
  · obtain ⟨g1, g2⟩ := f2 (.inr c2)
    rw [g1, g2]; simp
  · obtain ⟨g1, g2⟩ := f2 (.inl (hz.1 (by omega)))
    rw [g1, g2]; simp
end Go.Proofs.YtdhgdpcmdmgchaaGreat.Fw
