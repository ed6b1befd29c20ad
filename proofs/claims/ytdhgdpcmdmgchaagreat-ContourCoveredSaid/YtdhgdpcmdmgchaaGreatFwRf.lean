/- Contracts: the reference's validity of fractions. Conditions: none. -/
import Derived.Test.YtdhgdpcmdmgchaaGreatFwRe
namespace Go.Proofs.YtdhgdpcmdmgchaaGreat.Fw
open Go Go.Proofs
set_option linter.unusedSimpArgs false
set_option linter.unusedVariables false
set_option maxHeartbeats 2000000
set_option maxRecDepth 10000

theorem eI_inj {n n' : Bool} {l l' : List Nat} (h : eI n l = eI n' l') : n = n' ∧ l = l' := by
  unfold eI at h
  simp only [List.cons.injEq, L.bool.injEq, L.sl.injEq, and_true, true_and] at h
  refine ⟨h.1, ?_⟩
  have h2 := h.2.2
  refine List.ext_getElem h.2.1 fun i h3 h4 => ?_
  have := congrArg (fun x => x[i]?) h2
  simp [h3, h4] at this
  omega
theorem dgt_next (m i : Nat) : dgt m (i + 1) = dgt (m / Bs) i := by
  unfold dgt
  rw [Nat.pow_succ, Nat.mul_comm, Nat.div_div_eq_div_mul]
theorem dgt_z (m : Nat) : dgt m 0 = m % Bs := by
  unfold dgt
  rw [Nat.pow_zero, Nat.div_one]
theorem mod_low (m k : Nat) : m % Bs ^ (k + 1) = m % Bs + Bs * (m / Bs % Bs ^ k) := by
  rw [Nat.pow_succ, Nat.mul_comm (Bs ^ k), Nat.mod_mul]
theorem map_range_next {α : Type} (f : Nat → α) (k : Nat) : (List.range (k + 1)).map f = f 0 :: (List.range k).map (fun i => f (i + 1)) := by
  rw [List.range_succ_eq_map, List.map_cons, List.map_map]; rfl
theorem ofL_digits (k : Nat) : ∀ m : Nat, ofL ((List.range k).map (dgt m)) = m % Bs ^ k := by
  induction k with
  | zero => intro m; rw [Nat.pow_zero, Nat.mod_one]; rfl
  | succ k ih =>
    intro m
    have h : (fun i => dgt m (i + 1)) = dgt (m / Bs) := funext fun i => dgt_next m i
    rw [mod_low, map_range_next, h, ofL, ih, dgt_z]
theorem eZ_valid {n : Bool} {l : List Nat} {a : Int} (h : eI n l = eZ a) : validI n l = true ∧ (∀ v ∈ l, v < Bs) ∧ lz a = l.length := by
  have he : eZ a = eI (decide (a < 0)) ((List.range (nd a.natAbs)).map (dgt a.natAbs)) := by
    unfold eZ eI
    simp only [List.length_map, List.length_range]
    congr 3
    simp [du]
  rw [he] at h
  obtain ⟨h1, h2⟩ := eI_inj h
  have hv : ∀ v ∈ l, v < Bs := by
    rw [h2]
    intro v hv
    obtain ⟨i, _, rfl⟩ := List.mem_map.1 hv
    exact dgt_lt _ _
  have hl : l.length = nd a.natAbs := by rw [h2]; simp
  have ho : ofL l = a.natAbs := by rw [h2, ofL_digits, Nat.mod_eq_of_lt (nd_lt _)]
  refine ⟨?_, hv, by rw [hl]; rfl⟩
  unfold validI
  rw [decide_eq_true hv, ho, hl, decide_eq_true rfl, h1]
  by_cases ha : a < 0
  · have : 0 < nd a.natAbs := Nat.pos_of_ne_zero fun h => by rw [nd_eq_zero] at h; omega
    simp [this]
  · simp [ha]
theorem eZ_inj {a b : Int} (h : eZ a = eZ b) : a = b := by
  have key : ∀ x : Int, eZ x = eI (decide (x < 0)) ((List.range (nd x.natAbs)).map (dgt x.natAbs)) := fun x => by
    unfold eZ eI
    simp only [List.length_map, List.length_range]
    congr 3
    simp [du]
  rw [key a, key b] at h
  obtain ⟨h1, h2⟩ := eI_inj h
  have h3 := congrArg ofL h2
  rw [ofL_digits, ofL_digits, Nat.mod_eq_of_lt (nd_lt _), Nat.mod_eq_of_lt (nd_lt _)] at h3
  rw [decide_eq_decide] at h1
  omega
theorem eZ_app {a b : Int} {x : Rat} (h : eZ a ++ eZ b = eR x) : a = x.num ∧ b = x.den := by
  have hlen : (eZ a).length = (eZ x.num).length := rfl
  obtain ⟨e1, e2⟩ := List.append_inj h hlen
  exact ⟨eZ_inj e1, eZ_inj e2⟩
/-- The cells of two integers are a fraction's. -/
noncomputable def validQ (n : Bool) (l : List Nat) (d : Bool) (m : List Nat) : Bool := @decide (∃ x : Rat, eI n l ++ eI d m = eR x) (Classical.propDecidable _)
theorem FValid_ok1 (a b : Int) (ha : lz a < 2 ^ 36) (hb : lz b < 2 ^ 36) (c1 : Ok Tryz.prog 53 [.ag (eZ a)] ⟨[.lf (.bool true)], []⟩) (c2 : Ok Tryz.prog 53 [.ag (eZ b)] ⟨[.lf (.bool true)], []⟩) :
    Ok Tryz.prog 34 [.ag (eZ a ++ eZ b)] ⟨[.lf (.bool (decide (0 < b ∧ Int.gcd a b = 1)))], []⟩ := by
  refine ok_of_V (T := Tb) tb_ok mo Tryz.func34 rfl (by kernel_rfl) (by kernel_rfl) (by simp [Tryz.ntmps34, mts]) ?_
  simp (maxSteps := 4000000) (dsimp := false) (disch := omega) only [go_sem, ↓reduceIte, Nat.reduceEqDiff, Nat.reduceMul, Nat.reduceAdd, Nat.reduceSub, Nat.reduceLT, Nat.reduceLeDiff, Nat.reduceBEq, reduceCtorEq, Int.reduceToNat, Int.reduceEq, Int.reduceLT, Int.reduceLE, Int.reduceNeg, Int.reduceSub, Int.reduceAdd, Int.reduceMul, eZ_len, eR_len, seg_e, seg_ea, seg_en, seg_r, seg_ra, seg_rn, splice_e, splice_ea, splice_eaa, splice_en, splice_ec, splice_eca, splice_r, splice_ra, splice_raa, splice_rn, splice_rc, splice_rca, splice_nil, List.append_assoc, List.length_append, Tryz.results34]
  refine callK c1 ?_
  simp (maxSteps := 4000000) (dsimp := false) (disch := omega) only [go_sem, ↓reduceIte, Nat.reduceEqDiff, Nat.reduceMul, Nat.reduceAdd, Nat.reduceSub, Nat.reduceLT, Nat.reduceLeDiff, Nat.reduceBEq, reduceCtorEq, Int.reduceToNat, Int.reduceEq, Int.reduceLT, Int.reduceLE, Int.reduceNeg, Int.reduceSub, Int.reduceAdd, Int.reduceMul, eZ_len, eR_len, seg_e, seg_ea, seg_en, seg_r, seg_ra, seg_rn, splice_e, splice_ea, splice_eaa, splice_en, splice_ec, splice_eca, splice_r, splice_ra, splice_raa, splice_rn, splice_rc, splice_rca, splice_nil, List.append_assoc, List.length_append, Tryz.results34]
  refine callK c2 ?_
  simp (maxSteps := 4000000) (dsimp := false) (disch := omega) only [go_sem, ↓reduceIte, Nat.reduceEqDiff, Nat.reduceMul, Nat.reduceAdd, Nat.reduceSub, Nat.reduceLT, Nat.reduceLeDiff, Nat.reduceBEq, reduceCtorEq, Int.reduceToNat, Int.reduceEq, Int.reduceLT, Int.reduceLE, Int.reduceNeg, Int.reduceSub, Int.reduceAdd, Int.reduceMul, eZ_len, eR_len, seg_e, seg_ea, seg_en, seg_r, seg_ra, seg_rn, splice_e, splice_ea, splice_eaa, splice_en, splice_ec, splice_eca, splice_r, splice_ra, splice_raa, splice_rn, splice_rc, splice_rca, splice_nil, List.append_assoc, List.length_append, Tryz.results34]
  refine callK (fSign_ok b) ?_
  simp (maxSteps := 4000000) (dsimp := false) (disch := omega) only [go_sem, ↓reduceIte, Nat.reduceEqDiff, Nat.reduceMul, Nat.reduceAdd, Nat.reduceSub, Nat.reduceLT, Nat.reduceLeDiff, Nat.reduceBEq, reduceCtorEq, Int.reduceToNat, Int.reduceEq, Int.reduceLT, Int.reduceLE, Int.reduceNeg, Int.reduceSub, Int.reduceAdd, Int.reduceMul, eZ_len, eR_len, seg_e, seg_ea, seg_en, seg_r, seg_ra, seg_rn, splice_e, splice_ea, splice_eaa, splice_en, splice_ec, splice_eca, splice_r, splice_ra, splice_raa, splice_rn, splice_rc, splice_rca, splice_nil, List.append_assoc, List.length_append, Tryz.results34]
  refine ⟨fun h => ?_, fun h => ?_⟩
  · have hb' : ¬ 0 < b := fun hb => by rw [Int.sign_eq_one_of_pos hb] at h; simp at h
    simp [hb']
  · have hs : b.sign = 1 := by simpa using h
    have hb0 : 0 < b := Int.sign_eq_one_iff_pos.1 hs
    have hgl := lz_gcd a b (by omega)
    refine callK (fGCD_ok a b ha hb) ?_
    simp (maxSteps := 4000000) (dsimp := false) (disch := omega) only [go_sem, ↓reduceIte, Nat.reduceEqDiff, Nat.reduceMul, Nat.reduceAdd, Nat.reduceSub, Nat.reduceLT, Nat.reduceLeDiff, Nat.reduceBEq, reduceCtorEq, Int.reduceToNat, Int.reduceEq, Int.reduceLT, Int.reduceLE, Int.reduceNeg, Int.reduceSub, Int.reduceAdd, Int.reduceMul, eZ_len, eR_len, seg_e, seg_ea, seg_en, seg_r, seg_ra, seg_rn, splice_e, splice_ea, splice_eaa, splice_en, splice_ec, splice_eca, splice_r, splice_ra, splice_raa, splice_rn, splice_rc, splice_rca, splice_nil, List.append_assoc, List.length_append, Tryz.results34]
    refine callK funit_ok ?_
    simp (maxSteps := 4000000) (dsimp := false) (disch := omega) only [go_sem, ↓reduceIte, Nat.reduceEqDiff, Nat.reduceMul, Nat.reduceAdd, Nat.reduceSub, Nat.reduceLT, Nat.reduceLeDiff, Nat.reduceBEq, reduceCtorEq, Int.reduceToNat, Int.reduceEq, Int.reduceLT, Int.reduceLE, Int.reduceNeg, Int.reduceSub, Int.reduceAdd, Int.reduceMul, eZ_len, eR_len, seg_e, seg_ea, seg_en, seg_r, seg_ra, seg_rn, splice_e, splice_ea, splice_eaa, splice_en, splice_ec, splice_eca, splice_r, splice_ra, splice_raa, splice_rn, splice_rc, splice_rca, splice_nil, List.append_assoc, List.length_append, Tryz.results34]
    refine callK (fSame_ok _ 1 (by omega) lz_one) ?_
    simp (maxSteps := 4000000) (dsimp := false) (disch := omega) only [go_sem, ↓reduceIte, Nat.reduceEqDiff, Nat.reduceMul, Nat.reduceAdd, Nat.reduceSub, Nat.reduceLT, Nat.reduceLeDiff, Nat.reduceBEq, reduceCtorEq, Int.reduceToNat, Int.reduceEq, Int.reduceLT, Int.reduceLE, Int.reduceNeg, Int.reduceSub, Int.reduceAdd, Int.reduceMul, eZ_len, eR_len, seg_e, seg_ea, seg_en, seg_r, seg_ra, seg_rn, splice_e, splice_ea, splice_eaa, splice_en, splice_ec, splice_eca, splice_r, splice_ra, splice_raa, splice_rn, splice_rc, splice_rca, splice_nil, List.append_assoc, List.length_append, Tryz.results34]
    simp only [hb0, true_and, decide_eq_decide]
    omega
theorem FValid_ok2 (n : Bool) (l : List Nat) (d : Bool) (m : List Nat) (c1 : Ok Tryz.prog 53 [.ag (eI n l)] ⟨[.lf (.bool (validI n l))], []⟩) (c2 : Ok Tryz.prog 53 [.ag (eI d m)] ⟨[.lf (.bool (validI d m))], []⟩)
    (h : ¬ (validI n l = true ∧ validI d m = true)) : Ok Tryz.prog 34 [.ag (eI n l ++ eI d m)] ⟨[.lf (.bool false)], []⟩ := by
  unfold eI at c1 c2 ⊢
  refine ok_of_V (T := Tb) tb_ok mo Tryz.func34 rfl (by kernel_rfl) (by kernel_rfl) (by simp [Tryz.ntmps34, mts]) ?_
  simp (maxSteps := 4000000) (dsimp := false) (disch := omega) only [go_sem, eZ, ↓reduceIte, Nat.reduceEqDiff, Nat.reduceMul, Nat.reduceAdd, Nat.reduceSub, Nat.reduceLT, Nat.reduceLeDiff, Nat.reduceBEq, reduceCtorEq, Int.reduceToNat, Int.reduceEq, Int.reduceLT, Int.reduceLE, Int.reduceNeg, Int.reduceSub, Int.reduceAdd, Int.reduceMul, Tryz.results34]
  refine callK c1 ?_
  simp (maxSteps := 4000000) (dsimp := false) (disch := omega) only [go_sem, eZ, ↓reduceIte, Nat.reduceEqDiff, Nat.reduceMul, Nat.reduceAdd, Nat.reduceSub, Nat.reduceLT, Nat.reduceLeDiff, Nat.reduceBEq, reduceCtorEq, Int.reduceToNat, Int.reduceEq, Int.reduceLT, Int.reduceLE, Int.reduceNeg, Int.reduceSub, Int.reduceAdd, Int.reduceMul, Tryz.results34]
  intro h1
  refine callK c2 ?_
  have h2 : validI d m = false := by
    cases hn : validI d m with
    | false => rfl
    | true => exact absurd ⟨by simpa using h1, hn⟩ h
  rw [h2]
  simp (maxSteps := 4000000) (dsimp := false) (disch := omega) only [go_sem, eZ, ↓reduceIte, Nat.reduceEqDiff, Nat.reduceMul, Nat.reduceAdd, Nat.reduceSub, Nat.reduceLT, Nat.reduceLeDiff, Nat.reduceBEq, reduceCtorEq, Int.reduceToNat, Int.reduceEq, Int.reduceLT, Int.reduceLE, Int.reduceNeg, Int.reduceSub, Int.reduceAdd, Int.reduceMul, Tryz.results34]
theorem FValid_ok (n : Bool) (l : List Nat) (d : Bool) (m : List Nat) (h : ∀ v ∈ l, v < 4294967296) (hl : l.length < 2 ^ 36) (h' : ∀ v ∈ m, v < 4294967296) (hl' : m.length < 2 ^ 36) :
    Ok Tryz.prog 34 [.ag (eI n l ++ eI d m)] ⟨[.lf (.bool (validQ n l d m))], []⟩ := by
  have c1 := fValid_ok n l h hl
  have c2 := fValid_ok d m h' hl'
  by_cases hv : validI n l = true ∧ validI d m = true
  · obtain ⟨v1, v2⟩ := hv
    obtain ⟨a, ha, hal⟩ := validI_eZ v1
    obtain ⟨b, hb, hbl⟩ := validI_eZ v2
    rw [v1, ha] at c1
    rw [v2, hb] at c2
    have hq : validQ n l d m = decide (0 < b ∧ Int.gcd a b = 1) := by
      unfold validQ
      rw [ha, hb, Bool.eq_iff_iff, @decide_eq_true_iff _ (Classical.propDecidable _), decide_eq_true_iff]
      refine ⟨fun ⟨x, hx⟩ => ?_, fun ⟨h1, h2⟩ => ?_⟩
      · obtain ⟨e1, e2⟩ := eZ_app hx
        subst e1; subst e2
        exact ⟨by have := x.den_pos; omega, x.reduced⟩
      · refine ⟨⟨a, b.toNat, by omega, ?_⟩, ?_⟩
        · have : b.toNat = b.natAbs := by omega
          rw [this]; exact h2
        · have : ((b.toNat : Nat) : Int) = b := by omega
          simp only [eR, this]
    rw [hq, ha, hb]
    exact FValid_ok1 a b (by omega) (by omega) c1 c2
  · have hq : validQ n l d m = false := by
      unfold validQ
      rw [decide_eq_false_iff_not]
      rintro ⟨x, hx⟩
      have hlen : (eI n l).length = (eZ x.num).length := rfl
      obtain ⟨e1, e2⟩ := List.append_inj hx hlen
      exact hv ⟨(eZ_valid e1).1, (eZ_valid e2).1⟩
    rw [hq]
    exact FValid_ok2 n l d m c1 c2 hv
noncomputable def smallQ (k : Nat) (n : Bool) (l : List Nat) (d : Bool) (m : List Nat) : Bool := decide (l.length ≤ k) && (decide (m.length ≤ k) && validQ n l d m)
theorem FSmall_ok (k : Nat) (n : Bool) (l : List Nat) (d : Bool) (m : List Nat) (hk : k < 2 ^ 36) (h : ∀ v ∈ l, v < 4294967296) (h' : ∀ v ∈ m, v < 4294967296) :
    Ok Tryz.prog 17 [.ag (eI n l ++ eI d m), .lf (.int .i64 k)] ⟨[.lf (.bool (smallQ k n l d m))], []⟩ := by
  have c := FValid_ok n l d m h
  unfold eI at c ⊢
  refine ok_of_V (T := Tb) tb_ok mo Tryz.func17 rfl (by kernel_rfl) (by kernel_rfl) (by simp [Tryz.ntmps17, mts]) ?_
  simp (maxSteps := 4000000) (dsimp := false) (disch := omega) only [go_sem, eZ, ↓reduceIte, Nat.reduceEqDiff, Nat.reduceMul, Nat.reduceAdd, Nat.reduceSub, Nat.reduceLT, Nat.reduceLeDiff, Nat.reduceBEq, reduceCtorEq, Int.reduceToNat, Int.reduceEq, Int.reduceLT, Int.reduceLE, Int.reduceNeg, Int.reduceSub, Int.reduceAdd, Int.reduceMul, Tryz.results17]
  unfold smallQ
  refine ⟨fun c1 => ⟨fun c2 => ?_, fun c2 => ?_⟩, fun c1 => ?_⟩
  · refine callK (c (by omega) h' (by omega)) ?_
    simp (maxSteps := 4000000) (dsimp := false) (disch := omega) only [go_sem, eZ, ↓reduceIte, Nat.reduceEqDiff, Nat.reduceMul, Nat.reduceAdd, Nat.reduceSub, Nat.reduceLT, Nat.reduceLeDiff, Nat.reduceBEq, reduceCtorEq, Int.reduceToNat, Int.reduceEq, Int.reduceLT, Int.reduceLE, Int.reduceNeg, Int.reduceSub, Int.reduceAdd, Int.reduceMul, Tryz.results17]
    rw [decide_eq_true (show l.length ≤ k by omega), decide_eq_true (show m.length ≤ k by omega)]
    simp
  · rw [decide_eq_false (show ¬ m.length ≤ k by omega)]; simp
  · rw [decide_eq_false (show ¬ l.length ≤ k by omega)]; simp
/-- What Small says of the cells. -/
theorem smallQ_iff {k : Nat} {n : Bool} {l : List Nat} {d : Bool} {m : List Nat} : smallQ k n l d m = true ↔ ∃ x : Rat, eI n l ++ eI d m = eR x ∧ SR k x := by
  unfold smallQ validQ
  simp only [Bool.and_eq_true, decide_eq_true_iff]
  refine ⟨fun ⟨h1, h2, x, hx⟩ => ⟨x, hx, ?_⟩, fun ⟨x, hx, h1, h2⟩ => ?_⟩
  · obtain ⟨e1, e2⟩ := List.append_inj hx (by rfl)
    have l1 := (eZ_valid e1).2.2
    have l2 := (eZ_valid e2).2.2
    unfold lz at l1 l2
    exact ⟨Nat.lt_of_lt_of_le (nd_lt _) (Nat.pow_le_pow_right Bs_pos (by omega)), Nat.lt_of_lt_of_le (nd_lt x.den) (Nat.pow_le_pow_right Bs_pos (by rw [Int.natAbs_natCast] at l2; omega))⟩
  · obtain ⟨e1, e2⟩ := List.append_inj hx (by rfl)
    have l1 := (eZ_valid e1).2.2
    have l2 := (eZ_valid e2).2.2
    unfold lz at l1 l2
    exact ⟨by have := nd_le h1; omega, by have := nd_le h2; rw [Int.natAbs_natCast] at l2; omega, x, hx⟩
end Go.Proofs.YtdhgdpcmdmgchaaGreat.Fw
