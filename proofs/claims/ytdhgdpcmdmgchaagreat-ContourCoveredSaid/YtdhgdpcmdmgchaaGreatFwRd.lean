/- Contracts: the reference's quotient and common divisor. Conditions: none. -/
import Derived.Test.YtdhgdpcmdmgchaaGreatFwRc
namespace Go.Proofs.YtdhgdpcmdmgchaaGreat.Fw
open Go Go.Proofs
set_option linter.unusedSimpArgs false
set_option linter.unusedVariables false
set_option maxHeartbeats 2000000
set_option maxRecDepth 10000

theorem tmod_neg_iff {a b : Int} (h : a.tmod b ≠ 0) : a.tmod b < 0 ↔ a < 0 := by
  by_cases ha : 0 ≤ a
  · have := Int.tmod_nonneg b ha; omega
  · have h1 := Int.tmod_nonneg (a := -a) b (by omega)
    rw [Int.neg_tmod] at h1; omega
theorem fDivMod_ok (a b : Int) (ha : lz a < 2 ^ 36) (hb : lz b < 2 ^ 36) (hb0 : b ≠ 0) : Ok Tryz.prog 104 [.ag (eZ a), .ag (eZ b)] ⟨[.ag (eZ (a.fdiv b)), .ag (eZ (a.fmod b)), .lf (.int .i64 0)], []⟩ := by
  unfold lz at ha hb
  have hb1 : b.natAbs ≠ 0 := by omega
  have hn0 : nd b.natAbs ≠ 0 := fun h => hb1 (nd_eq_zero.1 h)
  have l1 := lz_tdiv a b hb0
  have l2 := lz_tmod a b hb0
  unfold lz at l1 l2
  have l3 : nd (a.natAbs / b.natAbs) ≤ nd a.natAbs := by rw [Int.natAbs_tdiv] at l1; exact l1
  have l4 : nd (a.natAbs % b.natAbs) ≤ nd b.natAbs := by rw [Int.natAbs_tmod] at l2; exact l2
  refine ok_of_V (T := Tb) tb_ok mo Tryz.func104 rfl (by kernel_rfl) (by kernel_rfl) (by simp [Tryz.ntmps104, mts]) ?_
  simp (maxSteps := 4000000) (dsimp := false) (disch := omega) only [go_sem, eZ, ↓reduceIte, Nat.reduceEqDiff, Nat.reduceMul, Nat.reduceAdd, Nat.reduceSub, Nat.reduceLT, Nat.reduceLeDiff, Nat.reduceBEq, reduceCtorEq, Int.reduceToNat, Int.reduceEq, Int.reduceLT, Int.reduceLE, Int.reduceNeg, Int.reduceSub, Int.reduceAdd, Int.reduceMul, Tryz.results104]
  refine ⟨fun h => by omega, fun _ => ?_⟩
  refine callK (fparts_ok a.natAbs b.natAbs (by omega) (by omega) hb1) ?_
  simp (maxSteps := 4000000) (dsimp := false) (disch := omega) only [go_sem, eZ, ↓reduceIte, Nat.reduceEqDiff, Nat.reduceMul, Nat.reduceAdd, Nat.reduceSub, Nat.reduceLT, Nat.reduceLeDiff, Nat.reduceBEq, reduceCtorEq, Int.reduceToNat, Int.reduceEq, Int.reduceLT, Int.reduceLE, Int.reduceNeg, Int.reduceSub, Int.reduceAdd, Int.reduceMul, Tryz.results104]
  refine callK (fsigned_ok _ _ _ (nd_lt _) (by omega)) ?_
  rw [tdiv_sg]
  simp (maxSteps := 4000000) (dsimp := false) (disch := omega) only [go_sem, eZ, ↓reduceIte, Nat.reduceEqDiff, Nat.reduceMul, Nat.reduceAdd, Nat.reduceSub, Nat.reduceLT, Nat.reduceLeDiff, Nat.reduceBEq, reduceCtorEq, Int.reduceToNat, Int.reduceEq, Int.reduceLT, Int.reduceLE, Int.reduceNeg, Int.reduceSub, Int.reduceAdd, Int.reduceMul, Tryz.results104]
  refine callK (fsigned_ok _ _ _ (nd_lt _) (by omega)) ?_
  rw [tmod_sg]
  obtain ⟨f1, f2⟩ := fdiv_of a b hb0
  have hz : nd (a.natAbs % b.natAbs) = 0 ↔ a.tmod b = 0 := by rw [nd_eq_zero, ← Int.natAbs_tmod]; omega
  simp (maxSteps := 4000000) (dsimp := false) (disch := omega) only [go_sem, eZ, ↓reduceIte, Nat.reduceEqDiff, Nat.reduceMul, Nat.reduceAdd, Nat.reduceSub, Nat.reduceLT, Nat.reduceLeDiff, Nat.reduceBEq, reduceCtorEq, Int.reduceToNat, Int.reduceEq, Int.reduceLT, Int.reduceLE, Int.reduceNeg, Int.reduceSub, Int.reduceAdd, Int.reduceMul, Tryz.results104]
  refine ⟨fun c1 => ?_, fun c1 => ?_⟩
  · have hc : a.tmod b ≠ 0 := fun h => by rw [hz.2 h] at c1; omega
    have hs : decide (a.tmod b < 0) = decide (a < 0) := by rw [decide_eq_decide]; exact tmod_neg_iff hc
    rw [hs] at f1 f2
    refine ⟨fun c2 => ?_, fun c2 => ?_⟩
    · refine callK (fFromInt64_ok 1 (by omega)) ?_
      simp (maxSteps := 4000000) (dsimp := false) (disch := omega) only [go_sem, eZ, ↓reduceIte, Nat.reduceEqDiff, Nat.reduceMul, Nat.reduceAdd, Nat.reduceSub, Nat.reduceLT, Nat.reduceLeDiff, Nat.reduceBEq, reduceCtorEq, Int.reduceToNat, Int.reduceEq, Int.reduceLT, Int.reduceLE, Int.reduceNeg, Int.reduceSub, Int.reduceAdd, Int.reduceMul, Tryz.results104]
      refine callK (fSub_ok (a.tdiv b) 1 (by unfold lz; omega) (Nat.lt_of_le_of_lt (lz_le (a := 1) (k := 1) (by decide)) (by decide))) ?_
      simp (maxSteps := 4000000) (dsimp := false) (disch := omega) only [go_sem, eZ, ↓reduceIte, Nat.reduceEqDiff, Nat.reduceMul, Nat.reduceAdd, Nat.reduceSub, Nat.reduceLT, Nat.reduceLeDiff, Nat.reduceBEq, reduceCtorEq, Int.reduceToNat, Int.reduceEq, Int.reduceLT, Int.reduceLE, Int.reduceNeg, Int.reduceSub, Int.reduceAdd, Int.reduceMul, Tryz.results104]
      refine callK (fAdd_ok (a.tmod b) b (by unfold lz; omega) (by unfold lz; omega)) ?_
      obtain ⟨g1, g2⟩ := f1 ⟨hc, c2⟩
      rw [← g1, ← g2]
      simp (maxSteps := 4000000) (dsimp := false) (disch := omega) only [go_sem, eZ, ↓reduceIte, Nat.reduceEqDiff, Nat.reduceMul, Nat.reduceAdd, Nat.reduceSub, Nat.reduceLT, Nat.reduceLeDiff, Nat.reduceBEq, reduceCtorEq, Int.reduceToNat, Int.reduceEq, Int.reduceLT, Int.reduceLE, Int.reduceNeg, Int.reduceSub, Int.reduceAdd, Int.reduceMul, Tryz.results104]
    · obtain ⟨g1, g2⟩ := f2 (.inr c2)
      rw [g1, g2]; simp
  · obtain ⟨g1, g2⟩ := f2 (.inl (hz.1 (by omega)))
    rw [g1, g2]; simp

theorem feZ_nat (m k : Nat) (hm : m < Bs ^ k) (hk : k < 2 ^ 38) : Ok Tryz.prog 74 [.lf (.bool false), .lf (.sl 1 k (du m k))] ⟨[.ag (eZ (m : Int))], []⟩ := by
  have := fsigned_ok false m k hm (by omega)
  simpa using this
theorem fGCD_ok (a b : Int) (ha : lz a < 2 ^ 36) (hb : lz b < 2 ^ 36) : Ok Tryz.prog 55 [.ag (eZ a), .ag (eZ b)] ⟨[.ag (eZ (Int.gcd a b : Nat))], []⟩ := by
  unfold lz at ha hb
  refine ok_of_V (T := Tb) tb_ok mo Tryz.func55 rfl (by kernel_rfl) (by kernel_rfl) (by simp [Tryz.ntmps55, mts]) ?_
  simp (maxSteps := 4000000) (dsimp := false) (disch := omega) only [go_sem, eZ, ↓reduceIte, Nat.reduceEqDiff, Nat.reduceMul, Nat.reduceAdd, Nat.reduceSub, Nat.reduceLT, Nat.reduceLeDiff, Nat.reduceBEq, reduceCtorEq, Int.reduceToNat, Int.reduceEq, Int.reduceLT, Int.reduceLE, Int.reduceNeg, Int.reduceSub, Int.reduceAdd, Int.reduceMul, Tryz.results55]
  refine vloop (α := Nat × Nat) (fun z => ⟨[(4, .ad 1032 0), (5, .lf (.sl 1 (nd z.1) (du z.1 (nd z.1)))), (6, .lf (.sl 1 (nd z.2) (du z.2 (nd z.2))))], [(1032, ⟨2, 1, [.bool false, .sl 1 0 []], 1⟩)]⟩)
    (fun z => Nat.gcd z.1 z.2 = Int.gcd a b ∧ nd z.1 < 2 ^ 36 ∧ nd z.2 < 2 ^ 36) (fun z => z.2) (a.natAbs, b.natAbs) ?_ ⟨rfl, ha, hb⟩ ?_
  · (refine weak' [] ?_; simp (maxSteps := 4000000) (dsimp := false) (disch := omega) only [slotsW, blksW, parW, List.map_cons, List.map_nil, renF, renA, idsIn, go_sem, eZ, ↓reduceIte, Nat.reduceEqDiff, Nat.reduceMul, Nat.reduceAdd, Nat.reduceSub, Nat.reduceLT, Nat.reduceLeDiff, Nat.reduceBEq, reduceCtorEq, Int.reduceToNat, Int.reduceEq, Int.reduceLT, Int.reduceLE, Int.reduceNeg, Int.reduceSub, Int.reduceAdd, Int.reduceMul])
  · intro ⟨x, y⟩ ⟨hg, hx, hy⟩
    simp only at hg hx hy
    simp (maxSteps := 4000000) (dsimp := false) (disch := omega) only [go_sem, eZ, ↓reduceIte, Nat.reduceEqDiff, Nat.reduceMul, Nat.reduceAdd, Nat.reduceSub, Nat.reduceLT, Nat.reduceLeDiff, Nat.reduceBEq, reduceCtorEq, Int.reduceToNat, Int.reduceEq, Int.reduceLT, Int.reduceLE, Int.reduceNeg, Int.reduceSub, Int.reduceAdd, Int.reduceMul, Tryz.results55, Int.natAbs_natCast]
    refine ⟨fun c1 => ?_, fun c1 => ?_⟩
    · have hy0 : y ≠ 0 := by rintro rfl; rw [nd_zero] at c1; omega
      refine ⟨fun c2 => ⟨fun c3 => ?_, fun c3 => ⟨fun c4 => by omega, fun c4 => ?_⟩⟩, fun c2 => ?_⟩
      · skip
        refine callK (fparts_ok x y (by omega) (by omega) hy0) ?_
        simp (maxSteps := 4000000) (dsimp := false) (disch := omega) only [go_sem, eZ, ↓reduceIte, Nat.reduceEqDiff, Nat.reduceMul, Nat.reduceAdd, Nat.reduceSub, Nat.reduceLT, Nat.reduceLeDiff, Nat.reduceBEq, reduceCtorEq, Int.reduceToNat, Int.reduceEq, Int.reduceLT, Int.reduceLE, Int.reduceNeg, Int.reduceSub, Int.reduceAdd, Int.reduceMul, Tryz.results55, Int.natAbs_natCast]
        have hm := Nat.mod_lt x (Nat.pos_of_ne_zero hy0)
        have hmn : nd (x % y) ≤ nd y := nd_le (Nat.lt_trans hm (nd_lt y))
        refine ⟨(y, x % y), ?_, ⟨?_, hy, Nat.lt_of_le_of_lt hmn hy⟩, hm⟩
        · (refine weak' [] ?_; simp (maxSteps := 4000000) (dsimp := false) (disch := omega) only [slotsW, blksW, parW, List.map_cons, List.map_nil, renF, renA, idsIn, go_sem, eZ, ↓reduceIte, Nat.reduceEqDiff, Nat.reduceMul, Nat.reduceAdd, Nat.reduceSub, Nat.reduceLT, Nat.reduceLeDiff, Nat.reduceBEq, reduceCtorEq, Int.reduceToNat, Int.reduceEq, Int.reduceLT, Int.reduceLE, Int.reduceNeg, Int.reduceSub, Int.reduceAdd, Int.reduceMul])
        · rw [← hg]
          show Nat.gcd y (x % y) = _
          rw [Nat.gcd_comm x y, Nat.gcd_comm y (x % y), ← Nat.gcd_rec y x]
      · have c2' : nd x ≤ 2 := by omega
        have c3' : nd y ≤ 2 := by omega
        have hxs := small_nat c2'
        have hys := small_nat c3'
        refine callK (fshort_ok x _ (nd_lt x) c2') ?_
        simp (maxSteps := 4000000) (dsimp := false) (disch := omega) only [go_sem, eZ, ↓reduceIte, Nat.reduceEqDiff, Nat.reduceMul, Nat.reduceAdd, Nat.reduceSub, Nat.reduceLT, Nat.reduceLeDiff, Nat.reduceBEq, reduceCtorEq, Int.reduceToNat, Int.reduceEq, Int.reduceLT, Int.reduceLE, Int.reduceNeg, Int.reduceSub, Int.reduceAdd, Int.reduceMul, Tryz.results55, Int.natAbs_natCast]
        refine callK (fshort_ok y _ (nd_lt y) c3') ?_
        simp (maxSteps := 4000000) (dsimp := false) (disch := omega) only [go_sem, eZ, ↓reduceIte, Nat.reduceEqDiff, Nat.reduceMul, Nat.reduceAdd, Nat.reduceSub, Nat.reduceLT, Nat.reduceLeDiff, Nat.reduceBEq, reduceCtorEq, Int.reduceToNat, Int.reduceEq, Int.reduceLT, Int.reduceLE, Int.reduceNeg, Int.reduceSub, Int.reduceAdd, Int.reduceMul, Tryz.results55, Int.natAbs_natCast]
        refine vloop (α := Nat × Nat) (fun z => ⟨[(4, .ad 1032 0), (9, .lf (.int .u64 z.1)), (10, .lf (.int .u64 z.2))], [(1032, ⟨2, 1, [.bool false, .sl 1 0 []], 1⟩)]⟩)
          (fun z => Nat.gcd z.1 z.2 = Int.gcd a b ∧ z.1 < 1000000000000000000 ∧ z.2 < 1000000000000000000) (fun z => z.2) (x, y) ?_ ⟨hg, hxs, hys⟩ ?_
        · (refine weak' [] ?_; simp (maxSteps := 4000000) (dsimp := false) (disch := omega) only [slotsW, blksW, parW, List.map_cons, List.map_nil, renF, renA, idsIn, go_sem, eZ, ↓reduceIte, Nat.reduceEqDiff, Nat.reduceMul, Nat.reduceAdd, Nat.reduceSub, Nat.reduceLT, Nat.reduceLeDiff, Nat.reduceBEq, reduceCtorEq, Int.reduceToNat, Int.reduceEq, Int.reduceLT, Int.reduceLE, Int.reduceNeg, Int.reduceSub, Int.reduceAdd, Int.reduceMul])
        · intro ⟨u, v⟩ ⟨hg, hu, hv⟩
          simp only at hg hu hv
          simp (maxSteps := 4000000) (dsimp := false) (disch := omega) only [go_sem, eZ, ↓reduceIte, Nat.reduceEqDiff, Nat.reduceMul, Nat.reduceAdd, Nat.reduceSub, Nat.reduceLT, Nat.reduceLeDiff, Nat.reduceBEq, reduceCtorEq, Int.reduceToNat, Int.reduceEq, Int.reduceLT, Int.reduceLE, Int.reduceNeg, Int.reduceSub, Int.reduceAdd, Int.reduceMul, Tryz.results55, Int.natAbs_natCast, tmod_N]
          refine ⟨fun c4 => ⟨by omega, (v, u % v), ?_, ⟨?_, hv, ?_⟩, ?_⟩, fun c4 => ?_⟩
          · (refine weak' [] ?_; simp (maxSteps := 4000000) (dsimp := false) (disch := omega) only [slotsW, blksW, parW, List.map_cons, List.map_nil, renF, renA, idsIn, go_sem, eZ, ↓reduceIte, Nat.reduceEqDiff, Nat.reduceMul, Nat.reduceAdd, Nat.reduceSub, Nat.reduceLT, Nat.reduceLeDiff, Nat.reduceBEq, reduceCtorEq, Int.reduceToNat, Int.reduceEq, Int.reduceLT, Int.reduceLE, Int.reduceNeg, Int.reduceSub, Int.reduceAdd, Int.reduceMul])
          · rw [← hg]
            show Nat.gcd v (u % v) = _
            rw [Nat.gcd_comm u v, Nat.gcd_comm v (u % v), ← Nat.gcd_rec v u]
          · exact Nat.lt_trans (Nat.mod_lt _ (by omega)) hv
          · exact Nat.mod_lt _ (by omega)
          · obtain rfl : v = 0 := by omega
            rw [← hg, Nat.gcd_zero_right]
            refine callK (flimbs_ok u (by omega)) ?_
            simp (maxSteps := 4000000) (dsimp := false) (disch := omega) only [go_sem, eZ, ↓reduceIte, Nat.reduceEqDiff, Nat.reduceMul, Nat.reduceAdd, Nat.reduceSub, Nat.reduceLT, Nat.reduceLeDiff, Nat.reduceBEq, reduceCtorEq, Int.reduceToNat, Int.reduceEq, Int.reduceLT, Int.reduceLE, Int.reduceNeg, Int.reduceSub, Int.reduceAdd, Int.reduceMul, Tryz.results55, Int.natAbs_natCast]
            refine callK (feZ_nat u _ (nd_lt u) (Nat.lt_of_le_of_lt (nd_le (k := 3) (Nat.lt_trans hu (by decide))) (by omega))) ?_
            simp (maxSteps := 4000000) (dsimp := false) (disch := omega) only [go_sem, eZ, ↓reduceIte, Nat.reduceEqDiff, Nat.reduceMul, Nat.reduceAdd, Nat.reduceSub, Nat.reduceLT, Nat.reduceLeDiff, Nat.reduceBEq, reduceCtorEq, Int.reduceToNat, Int.reduceEq, Int.reduceLT, Int.reduceLE, Int.reduceNeg, Int.reduceSub, Int.reduceAdd, Int.reduceMul, Tryz.results55, Int.natAbs_natCast]
      · skip
        refine callK (fparts_ok x y (by omega) (by omega) hy0) ?_
        simp (maxSteps := 4000000) (dsimp := false) (disch := omega) only [go_sem, eZ, ↓reduceIte, Nat.reduceEqDiff, Nat.reduceMul, Nat.reduceAdd, Nat.reduceSub, Nat.reduceLT, Nat.reduceLeDiff, Nat.reduceBEq, reduceCtorEq, Int.reduceToNat, Int.reduceEq, Int.reduceLT, Int.reduceLE, Int.reduceNeg, Int.reduceSub, Int.reduceAdd, Int.reduceMul, Tryz.results55, Int.natAbs_natCast]
        have hm := Nat.mod_lt x (Nat.pos_of_ne_zero hy0)
        have hmn : nd (x % y) ≤ nd y := nd_le (Nat.lt_trans hm (nd_lt y))
        refine ⟨(y, x % y), ?_, ⟨?_, hy, Nat.lt_of_le_of_lt hmn hy⟩, hm⟩
        · (refine weak' [] ?_; simp (maxSteps := 4000000) (dsimp := false) (disch := omega) only [slotsW, blksW, parW, List.map_cons, List.map_nil, renF, renA, idsIn, go_sem, eZ, ↓reduceIte, Nat.reduceEqDiff, Nat.reduceMul, Nat.reduceAdd, Nat.reduceSub, Nat.reduceLT, Nat.reduceLeDiff, Nat.reduceBEq, reduceCtorEq, Int.reduceToNat, Int.reduceEq, Int.reduceLT, Int.reduceLE, Int.reduceNeg, Int.reduceSub, Int.reduceAdd, Int.reduceMul])
        · rw [← hg]
          show Nat.gcd y (x % y) = _
          rw [Nat.gcd_comm x y, Nat.gcd_comm y (x % y), ← Nat.gcd_rec y x]
    · have hy0 : y = 0 := nd_eq_zero.1 (by omega)
      subst hy0
      rw [← hg, Nat.gcd_zero_right]
      simp (maxSteps := 4000000) (dsimp := false) (disch := omega) only [go_sem, eZ, ↓reduceIte, Nat.reduceEqDiff, Nat.reduceMul, Nat.reduceAdd, Nat.reduceSub, Nat.reduceLT, Nat.reduceLeDiff, Nat.reduceBEq, reduceCtorEq, Int.reduceToNat, Int.reduceEq, Int.reduceLT, Int.reduceLE, Int.reduceNeg, Int.reduceSub, Int.reduceAdd, Int.reduceMul, Tryz.results55, Int.natAbs_natCast, nd_zero]
      refine ⟨callK (feZ_nat x _ (nd_lt x) (by omega)) ?_, fun h => absurd trivial h⟩
      simp (maxSteps := 4000000) (dsimp := false) (disch := omega) only [go_sem, eZ, ↓reduceIte, Nat.reduceEqDiff, Nat.reduceMul, Nat.reduceAdd, Nat.reduceSub, Nat.reduceLT, Nat.reduceLeDiff, Nat.reduceBEq, reduceCtorEq, Int.reduceToNat, Int.reduceEq, Int.reduceLT, Int.reduceLE, Int.reduceNeg, Int.reduceSub, Int.reduceAdd, Int.reduceMul, Tryz.results55, Int.natAbs_natCast]

/-- The number of digits given by a list. -/
def ofL : List Nat → Nat
  | [] => 0
  | v :: l => v + Bs * ofL l
theorem ofL_lt : ∀ {l : List Nat}, (∀ v ∈ l, v < Bs) → ofL l < Bs ^ l.length
  | [], _ => by simp [ofL]
  | v :: l, h => by
    have h1 := ofL_lt (l := l) fun v hv => h v (.tail _ hv)
    have h2 := h v (.head _)
    rw [ofL, List.length_cons, Nat.pow_succ]
    have : Bs * ofL l + Bs ≤ Bs * Bs ^ l.length := by rw [← Nat.mul_succ]; exact Nat.mul_le_mul_left _ h1
    rw [Nat.mul_comm (Bs ^ l.length)]
    omega
theorem ofL_dgt : ∀ {l : List Nat} {i : Nat}, (∀ v ∈ l, v < Bs) → (hi : i < l.length) → dgt (ofL l) i = l[i]
  | v :: l, 0, h, hi => by
    have h2 := h v (.head _)
    simp only [dgt, ofL, Nat.pow_zero, Nat.div_one, List.getElem_cons_zero]
    rw [Nat.add_mul_mod_self_left, Nat.mod_eq_of_lt h2]
  | v :: l, i + 1, h, hi => by
    have h2 := h v (.head _)
    have h1 := ofL_dgt (l := l) (i := i) (fun v hv => h v (.tail _ hv)) (by simpa using hi)
    simp only [List.getElem_cons_succ]
    rw [← h1]
    simp only [dgt, ofL]
    rw [Nat.pow_succ, Nat.mul_comm (Bs ^ i), ← Nat.div_div_eq_div_mul, Nat.add_mul_div_left _ _ Bs_pos, Nat.div_eq_of_lt h2, Nat.zero_add]
theorem ofL_du {l : List Nat} (h : ∀ v ∈ l, v < Bs) : (List.map (fun v : Nat => L.int .u32 (v : Int)) l) = du (ofL l) l.length := by
  apply List.ext_getElem
  · simp [du]
  · intro i h1 h2
    simp only [du, List.getElem_map, List.getElem_range]
    rw [ofL_dgt h (by simpa using h1)]
/-- The cells of any integer. -/
def eI (neg : Bool) (l : List Nat) : List L := [.bool neg, .sl 1 l.length (List.map (fun v : Nat => L.int .u32 (v : Int)) l)]
def validI (neg : Bool) (l : List Nat) : Bool := decide (∀ v ∈ l, v < Bs) && (decide (nd (ofL l) = l.length) && (!neg || decide (0 < l.length)))
theorem fValid_ok (neg : Bool) (l : List Nat) (h : ∀ v ∈ l, v < 4294967296) (hl : l.length < 2 ^ 36) : Ok Tryz.prog 53 [.ag (eI neg l)] ⟨[.lf (.bool (validI neg l))], []⟩ := by
  unfold eI
  refine ok_of_V (T := Tb) tb_ok mo Tryz.func53 rfl (by kernel_rfl) (by kernel_rfl) (by simp [Tryz.ntmps53, mts]) ?_
  simp (maxSteps := 4000000) (dsimp := false) (disch := omega) only [go_sem, eZ, ↓reduceIte, Nat.reduceEqDiff, Nat.reduceMul, Nat.reduceAdd, Nat.reduceSub, Nat.reduceLT, Nat.reduceLeDiff, Nat.reduceBEq, reduceCtorEq, Int.reduceToNat, Int.reduceEq, Int.reduceLT, Int.reduceLE, Int.reduceNeg, Int.reduceSub, Int.reduceAdd, Int.reduceMul, Tryz.results53]
  refine vloop (α := Nat) (fun i => ⟨[(1, .ad 1008 0), (3, .lf (.int .i64 i))], [(1008, ⟨2, 1, [.bool neg, .sl 1 l.length (List.map (fun v : Nat => L.int .u32 (v : Int)) l)], 1⟩)]⟩) (fun i => i ≤ l.length ∧ ∀ v ∈ l.take i, v < Bs) (fun i => l.length - i) 0 ?_ ⟨Nat.zero_le _, by simp⟩ ?_
  · (refine weak' [] ?_; simp (maxSteps := 4000000) (dsimp := false) (disch := omega) only [slotsW, blksW, parW, List.map_cons, List.map_nil, renF, renA, idsIn, go_sem, eZ, ↓reduceIte, Nat.reduceEqDiff, Nat.reduceMul, Nat.reduceAdd, Nat.reduceSub, Nat.reduceLT, Nat.reduceLeDiff, Nat.reduceBEq, reduceCtorEq, Int.reduceToNat, Int.reduceEq, Int.reduceLT, Int.reduceLE, Int.reduceNeg, Int.reduceSub, Int.reduceAdd, Int.reduceMul])
  · intro i ⟨h1, h2⟩
    by_cases hi : i < l.length
    · have hg : (List.map (fun v : Nat => L.int .u32 (v : Int)) l).getD i (.int .u32 0) = .int .u32 (l[i] : Int) := by simp [hi]
      simp (maxSteps := 4000000) (dsimp := false) (disch := omega) only [go_sem, eZ, ↓reduceIte, Nat.reduceEqDiff, Nat.reduceMul, Nat.reduceAdd, Nat.reduceSub, Nat.reduceLT, Nat.reduceLeDiff, Nat.reduceBEq, reduceCtorEq, Int.reduceToNat, Int.reduceEq, Int.reduceLT, Int.reduceLE, Int.reduceNeg, Int.reduceSub, Int.reduceAdd, Int.reduceMul, Tryz.results53, hg]
      refine ⟨fun _ => ⟨⟨by omega, by omega⟩, by omega, fun h => ?_, fun h => ⟨i + 1, ?_, ⟨by omega, ?_⟩, by omega⟩⟩, fun h => absurd (by omega) h⟩
      · unfold validI
        rw [decide_eq_false (fun hh => by have := hh _ (List.getElem_mem hi); simp only [Bs] at this; omega)]
        rfl
      · (refine weak' [] ?_; simp (maxSteps := 4000000) (dsimp := false) (disch := omega) only [slotsW, blksW, parW, List.map_cons, List.map_nil, renF, renA, idsIn, go_sem, eZ, ↓reduceIte, Nat.reduceEqDiff, Nat.reduceMul, Nat.reduceAdd, Nat.reduceSub, Nat.reduceLT, Nat.reduceLeDiff, Nat.reduceBEq, reduceCtorEq, Int.reduceToNat, Int.reduceEq, Int.reduceLT, Int.reduceLE, Int.reduceNeg, Int.reduceSub, Int.reduceAdd, Int.reduceMul])
      · rw [List.take_succ_eq_append_getElem hi]
        intro v hv
        rcases List.mem_append.1 hv with hv | hv
        · exact h2 v hv
        · obtain rfl : v = l[i] := by simpa using hv
          simp only [Bs]; omega
    · have hl' : l.length = i := by omega
      have hall : ∀ v ∈ l, v < Bs := by rw [← hl', List.take_length] at h2; exact h2
      rw [ofL_du hall]
      have hlt := ofL_lt hall
      simp (maxSteps := 4000000) (dsimp := false) (disch := omega) only [go_sem, eZ, ↓reduceIte, Nat.reduceEqDiff, Nat.reduceMul, Nat.reduceAdd, Nat.reduceSub, Nat.reduceLT, Nat.reduceLeDiff, Nat.reduceBEq, reduceCtorEq, Int.reduceToNat, Int.reduceEq, Int.reduceLT, Int.reduceLE, Int.reduceNeg, Int.reduceSub, Int.reduceAdd, Int.reduceMul, Tryz.results53]
      refine ⟨fun h => by omega, fun _ => ?_⟩
      refine callK (ftrim_ok _ _ hlt (by omega)) ?_
      simp (maxSteps := 4000000) (dsimp := false) (disch := omega) only [go_sem, eZ, ↓reduceIte, Nat.reduceEqDiff, Nat.reduceMul, Nat.reduceAdd, Nat.reduceSub, Nat.reduceLT, Nat.reduceLeDiff, Nat.reduceBEq, reduceCtorEq, Int.reduceToNat, Int.reduceEq, Int.reduceLT, Int.reduceLE, Int.reduceNeg, Int.reduceSub, Int.reduceAdd, Int.reduceMul, Tryz.results53]
      unfold validI
      rw [decide_eq_true hall]
      refine ⟨fun h => ?_, fun h => ?_⟩
      · rw [decide_eq_true (show nd (ofL l) = l.length by omega)]
        refine ⟨fun h1 => ?_, fun h1 => ?_⟩
        · rw [h1]; simp
        · rw [h1]; simp
      · rw [decide_eq_false (show ¬ nd (ofL l) = l.length by omega)]; simp
/-- A valid integer's cells. -/
theorem validI_eZ {neg : Bool} {l : List Nat} (h : validI neg l = true) : ∃ a : Int, eI neg l = eZ a ∧ lz a = l.length := by
  unfold validI at h
  simp only [Bool.and_eq_true, decide_eq_true_eq, Bool.or_eq_true, Bool.not_eq_true'] at h
  obtain ⟨h1, h2, h3⟩ := h
  refine ⟨if neg then -(ofL l : Int) else ofL l, ?_, ?_⟩
  · rw [eZ_sg, h2, eI, ofL_du h1]
    have : (neg && decide (ofL l ≠ 0)) = neg := by
      cases neg with
      | false => rfl
      | true =>
        have h4 : 0 < l.length := by simpa using h3
        have h5 : ofL l ≠ 0 := fun h0 => by rw [h0, nd_zero] at h2; omega
        simp [h5]
    rw [this]
  · unfold lz
    rw [← h2]
    cases neg <;> simp
end Go.Proofs.YtdhgdpcmdmgchaaGreat.Fw
