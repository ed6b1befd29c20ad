/- Contracts: the area of a path. Conditions: none. -/
import Derived.Test.YtdhgdpcmdmgchaaFwDf
namespace Go.Proofs.Ytdhgdpcmdmgchaa.Fw
open Go Go.Proofs
set_option linter.unusedSimpArgs false
set_option linter.unusedVariables false
set_option maxHeartbeats 2000000
set_option maxRecDepth 10000

theorem fsub12_ok (x y : Rat) (n m : Nat) (hx : SR n x) (hy : SR m y) (hn : n + m < 2 ^ 35) : Ok Try.prog 66 [.ag (eR x), .ag (eR y)] ⟨[.ag (eR (x - y))], []⟩ := by
  refine ok_of_V (T := Tb) tb_ok mo Try.func66 rfl (by kernel_rfl) (by kernel_rfl) (by simp [Try.ntmps66, mts]) ?_
  simp (maxSteps := 4000000) (dsimp := false) (disch := omega) only [go_sem, ↓reduceIte, Nat.reduceEqDiff, Nat.reduceMul, Nat.reduceAdd, Nat.reduceSub, Nat.reduceLT, Nat.reduceLeDiff, Nat.reduceBEq, reduceCtorEq, Int.reduceToNat, Int.reduceEq, Int.reduceLT, Int.reduceLE, Int.reduceNeg, Int.reduceSub, Int.reduceAdd, Int.reduceMul, eZ_len, eR_len, seg_e, seg_ea, seg_en, seg_r, seg_ra, seg_rn, splice_e, splice_ea, splice_eaa, splice_en, splice_ec, splice_eca, splice_r, splice_ra, splice_raa, splice_rn, splice_rc, splice_rca, splice_nil, List.append_assoc, List.length_append, Try.results66]
  refine callK (FSub_ok x y n m hx hy hn) ?_
  simp (maxSteps := 4000000) (dsimp := false) (disch := omega) only [go_sem, ↓reduceIte, Nat.reduceEqDiff, Nat.reduceMul, Nat.reduceAdd, Nat.reduceSub, Nat.reduceLT, Nat.reduceLeDiff, Nat.reduceBEq, reduceCtorEq, Int.reduceToNat, Int.reduceEq, Int.reduceLT, Int.reduceLE, Int.reduceNeg, Int.reduceSub, Int.reduceAdd, Int.reduceMul, eZ_len, eR_len, seg_e, seg_ea, seg_en, seg_r, seg_ra, seg_rn, splice_e, splice_ea, splice_eaa, splice_en, splice_ec, splice_eca, splice_r, splice_ra, splice_raa, splice_rn, splice_rc, splice_rca, splice_nil, List.append_assoc, List.length_append, Try.results66]
theorem fmul12_ok (x y : Rat) (n m : Nat) (hx : SR n x) (hy : SR m y) (hn : n + m < 2 ^ 35) : Ok Try.prog 67 [.ag (eR x), .ag (eR y)] ⟨[.ag (eR (x * y))], []⟩ := by
  refine ok_of_V (T := Tb) tb_ok mo Try.func67 rfl (by kernel_rfl) (by kernel_rfl) (by simp [Try.ntmps67, mts]) ?_
  simp (maxSteps := 4000000) (dsimp := false) (disch := omega) only [go_sem, ↓reduceIte, Nat.reduceEqDiff, Nat.reduceMul, Nat.reduceAdd, Nat.reduceSub, Nat.reduceLT, Nat.reduceLeDiff, Nat.reduceBEq, reduceCtorEq, Int.reduceToNat, Int.reduceEq, Int.reduceLT, Int.reduceLE, Int.reduceNeg, Int.reduceSub, Int.reduceAdd, Int.reduceMul, eZ_len, eR_len, seg_e, seg_ea, seg_en, seg_r, seg_ra, seg_rn, splice_e, splice_ea, splice_eaa, splice_en, splice_ec, splice_eca, splice_r, splice_ra, splice_raa, splice_rn, splice_rc, splice_rca, splice_nil, List.append_assoc, List.length_append, Try.results67]
  refine callK (FMul_ok x y n m hx hy (by omega)) ?_
  simp (maxSteps := 4000000) (dsimp := false) (disch := omega) only [go_sem, ↓reduceIte, Nat.reduceEqDiff, Nat.reduceMul, Nat.reduceAdd, Nat.reduceSub, Nat.reduceLT, Nat.reduceLeDiff, Nat.reduceBEq, reduceCtorEq, Int.reduceToNat, Int.reduceEq, Int.reduceLT, Int.reduceLE, Int.reduceNeg, Int.reduceSub, Int.reduceAdd, Int.reduceMul, eZ_len, eR_len, seg_e, seg_ea, seg_en, seg_r, seg_ra, seg_rn, splice_e, splice_ea, splice_eaa, splice_en, splice_ec, splice_eca, splice_r, splice_ra, splice_raa, splice_rn, splice_rc, splice_rca, splice_nil, List.append_assoc, List.length_append, Try.results67]
theorem fCross_ok (a b : Pt) (n m : Nat) (ha : SV n a) (hb : SV m b) (hn : n + m < 2 ^ 32) : Ok Try.prog 45 [.ag (eV a), .ag (eV b)] ⟨[.ag (eR (a.cross b))], []⟩ := by
  refine ok_of_V (T := Tb) tb_ok mo Try.func45 rfl (by kernel_rfl) (by kernel_rfl) (by simp [Try.ntmps45, mts]) ?_
  simp (maxSteps := 4000000) (dsimp := false) (disch := omega) only [go_sem, ↓reduceIte, Nat.reduceEqDiff, Nat.reduceMul, Nat.reduceAdd, Nat.reduceSub, Nat.reduceLT, Nat.reduceLeDiff, Nat.reduceBEq, reduceCtorEq, Int.reduceToNat, Int.reduceEq, Int.reduceLT, Int.reduceLE, Int.reduceNeg, Int.reduceSub, Int.reduceAdd, Int.reduceMul, eZ_len, eR_len, seg_e, seg_ea, seg_en, seg_r, seg_ra, seg_rn, splice_e, splice_ea, splice_eaa, splice_en, splice_ec, splice_eca, splice_r, splice_ra, splice_raa, splice_rn, splice_rc, splice_rca, splice_nil, List.append_assoc, List.length_append, Try.results45, eV]
  refine callK (fmul12_ok a.x b.y n m ha.1 hb.2 (by omega)) ?_
  simp (maxSteps := 4000000) (dsimp := false) (disch := omega) only [go_sem, ↓reduceIte, Nat.reduceEqDiff, Nat.reduceMul, Nat.reduceAdd, Nat.reduceSub, Nat.reduceLT, Nat.reduceLeDiff, Nat.reduceBEq, reduceCtorEq, Int.reduceToNat, Int.reduceEq, Int.reduceLT, Int.reduceLE, Int.reduceNeg, Int.reduceSub, Int.reduceAdd, Int.reduceMul, eZ_len, eR_len, seg_e, seg_ea, seg_en, seg_r, seg_ra, seg_rn, splice_e, splice_ea, splice_eaa, splice_en, splice_ec, splice_eca, splice_r, splice_ra, splice_raa, splice_rn, splice_rc, splice_rca, splice_nil, List.append_assoc, List.length_append, Try.results45, eV]
  refine callK (fmul12_ok a.y b.x n m ha.2 hb.1 (by omega)) ?_
  simp (maxSteps := 4000000) (dsimp := false) (disch := omega) only [go_sem, ↓reduceIte, Nat.reduceEqDiff, Nat.reduceMul, Nat.reduceAdd, Nat.reduceSub, Nat.reduceLT, Nat.reduceLeDiff, Nat.reduceBEq, reduceCtorEq, Int.reduceToNat, Int.reduceEq, Int.reduceLT, Int.reduceLE, Int.reduceNeg, Int.reduceSub, Int.reduceAdd, Int.reduceMul, eZ_len, eR_len, seg_e, seg_ea, seg_en, seg_r, seg_ra, seg_rn, splice_e, splice_ea, splice_eaa, splice_en, splice_ec, splice_eca, splice_r, splice_ra, splice_raa, splice_rn, splice_rc, splice_rca, splice_nil, List.append_assoc, List.length_append, Try.results45, eV]
  refine callK (fsub12_ok _ _ _ _ (SR_mul ha.1 hb.2) (SR_mul ha.2 hb.1) (by omega)) ?_
  simp (maxSteps := 4000000) (dsimp := false) (disch := omega) only [go_sem, ↓reduceIte, Nat.reduceEqDiff, Nat.reduceMul, Nat.reduceAdd, Nat.reduceSub, Nat.reduceLT, Nat.reduceLeDiff, Nat.reduceBEq, reduceCtorEq, Int.reduceToNat, Int.reduceEq, Int.reduceLT, Int.reduceLE, Int.reduceNeg, Int.reduceSub, Int.reduceAdd, Int.reduceMul, eZ_len, eR_len, seg_e, seg_ea, seg_en, seg_r, seg_ra, seg_rn, splice_e, splice_ea, splice_eaa, splice_en, splice_ec, splice_eca, splice_r, splice_ra, splice_raa, splice_rn, splice_rc, splice_rca, splice_nil, List.append_assoc, List.length_append, Try.results45, eV]
  rfl
/-- Twice the area, in integers. -/
def areaI (p : Path) : Nat → Int
  | 0 => 0
  | i + 1 => areaI p i + ((gp p i).1 * (gp p (nx p i)).2 - (gp p i).2 * (gp p (nx p i)).1)
theorem cross_pt (g h : Int × Int) : (ptOf g).cross (ptOf h) = ((g.1 * h.2 - g.2 * h.1 : Int) : Rat) := by
  simp only [Pt.cross, ptOf, Rat.intCast_sub, Rat.intCast_mul]
/-- A path's coordinates lie within the grid. -/
def Grid (p : Path) : Prop := ∀ g ∈ p, okG g
theorem gp_grid {p : Path} (h : Grid p) (i : Nat) : okG (gp p i) := by
  unfold gp
  rw [List.getD_eq_getElem?_getD]
  by_cases hi : i < p.length
  · rw [List.getElem?_eq_getElem hi]; exact h _ (List.getElem_mem hi)
  · rw [List.getElem?_eq_none (by omega)]; simp [okG]
theorem grid_mul {a b : Int} (ha : -10000000 ≤ a ∧ a ≤ 10000000) (hb : -10000000 ≤ b ∧ b ≤ 10000000) : -100000000000000 ≤ a * b ∧ a * b ≤ 100000000000000 := by
  have h1 : (a * b).natAbs ≤ 10000000 * 10000000 := by
    rw [Int.natAbs_mul]; exact Nat.mul_le_mul (by omega) (by omega)
  omega
theorem areaI_le {p : Path} (h : Grid p) (i : Nat) : -(i * 200000000000000 : Int) ≤ areaI p i ∧ areaI p i ≤ i * 200000000000000 := by
  induction i with
  | zero => simp [areaI]
  | succ i ih =>
    have g1 := gp_grid h i
    have g2 := gp_grid h (nx p i)
    unfold okG at g1 g2
    have m1 := grid_mul (a := (gp p i).1) (b := (gp p (nx p i)).2) (by omega) (by omega)
    have m2 := grid_mul (a := (gp p i).2) (b := (gp p (nx p i)).1) (by omega) (by omega)
    rw [areaI]
    omega
theorem lz_i64 {a : Int} (h : inR a) : lz a ≤ 3 := lz_le (by unfold inR at h; simp only [Bs]; omega)
theorem grid_ok {p : Path} (h : Grid p) : PathOk p := fun g hg => by have := h g hg; unfold okG at this; unfold inR; omega
theorem Area_ok (p : Path) (hp : Grid p) (hl : p.length ≤ 8) : Ok Try.prog 27 [.lf (.sl 2 p.length (eG p))] ⟨[.lf (.int .i64 (areaI p p.length).sign)], []⟩ := by
  have hpo := grid_ok hp
  refine ok_of_V (T := Tb) tb_ok mo Try.func27 rfl (by kernel_rfl) (by kernel_rfl) (by simp [Try.ntmps27, mts]) ?_
  simp (maxSteps := 4000000) (dsimp := false) (disch := omega) only [go_sem, ↓reduceIte, Nat.reduceEqDiff, Nat.reduceMul, Nat.reduceAdd, Nat.reduceSub, Nat.reduceLT, Nat.reduceLeDiff, Nat.reduceBEq, reduceCtorEq, Int.reduceToNat, Int.reduceEq, Int.reduceLT, Int.reduceLE, Int.reduceNeg, Int.reduceSub, Int.reduceAdd, Int.reduceMul, eZ_len, eR_len, seg_e, seg_ea, seg_en, seg_r, seg_ra, seg_rn, splice_e, splice_ea, splice_eaa, splice_en, splice_ec, splice_eca, splice_r, splice_ra, splice_raa, splice_rn, splice_rc, splice_rca, splice_nil, List.append_assoc, List.length_append, Try.results27, eV_len, seg_v, seg_va, seg_vn, splice_v, splice_va, splice_vc]
  refine callK (FFromInt64_ok 0 (by omega)) ?_
  simp (maxSteps := 4000000) (dsimp := false) (disch := omega) only [go_sem, ↓reduceIte, Nat.reduceEqDiff, Nat.reduceMul, Nat.reduceAdd, Nat.reduceSub, Nat.reduceLT, Nat.reduceLeDiff, Nat.reduceBEq, reduceCtorEq, Int.reduceToNat, Int.reduceEq, Int.reduceLT, Int.reduceLE, Int.reduceNeg, Int.reduceSub, Int.reduceAdd, Int.reduceMul, eZ_len, eR_len, seg_e, seg_ea, seg_en, seg_r, seg_ra, seg_rn, splice_e, splice_ea, splice_eaa, splice_en, splice_ec, splice_eca, splice_r, splice_ra, splice_raa, splice_rn, splice_rc, splice_rca, splice_nil, List.append_assoc, List.length_append, Try.results27, eV_len, seg_v, seg_va, seg_vn, splice_v, splice_va, splice_vc]
  refine vloop (α := Nat) (fun i => ⟨[(0, .lf (.sl 2 p.length (eG p))), (3, .ad 1024 0), (4, .lf (.int .i64 i))], [(1024, ⟨4, 1, eR ((areaI p i : Int) : Rat), 1⟩)]⟩) (fun i => i ≤ p.length) (fun i => p.length - i) 0 ?_ (Nat.zero_le _) ?_
  · (refine weak' [] ?_; simp (maxSteps := 4000000) (dsimp := false) (disch := omega) only [slotsW, blksW, parW, List.map_cons, List.map_nil, renF, renA, idsIn, go_sem, ↓reduceIte, Nat.reduceEqDiff, Nat.reduceMul, Nat.reduceAdd, Nat.reduceSub, Nat.reduceLT, Nat.reduceLeDiff, Nat.reduceBEq, reduceCtorEq, Int.reduceToNat, Int.reduceEq, Int.reduceLT, Int.reduceLE, Int.reduceNeg, Int.reduceSub, Int.reduceAdd, Int.reduceMul, eZ_len, eR_len, seg_e, seg_ea, seg_en, seg_r, seg_ra, seg_rn, splice_e, splice_ea, splice_eaa, splice_en, splice_ec, splice_eca, splice_r, splice_ra, splice_raa, splice_rn, splice_rc, splice_rca, splice_nil, List.append_assoc, List.length_append])
    rfl
  · intro i h1
    have ha := areaI_le hp i
    have hs : SR 3 ((areaI p i : Int) : Rat) := SR_int (by omega)
    by_cases hi : i < p.length
    · have g1 := gp_ok hpo i
      have g2 := gp_ok hpo (nx p i)
      have s1 := SV_pt g1
      have s2 := SV_pt g2
      simp (maxSteps := 4000000) (dsimp := false) (disch := omega) only [go_sem, ↓reduceIte, Nat.reduceEqDiff, Nat.reduceMul, Nat.reduceAdd, Nat.reduceSub, Nat.reduceLT, Nat.reduceLeDiff, Nat.reduceBEq, reduceCtorEq, Int.reduceToNat, Int.reduceEq, Int.reduceLT, Int.reduceLE, Int.reduceNeg, Int.reduceSub, Int.reduceAdd, Int.reduceMul, eZ_len, eR_len, seg_e, seg_ea, seg_en, seg_r, seg_ra, seg_rn, splice_e, splice_ea, splice_eaa, splice_en, splice_ec, splice_eca, splice_r, splice_ra, splice_raa, splice_rn, splice_rc, splice_rca, splice_nil, List.append_assoc, List.length_append, Try.results27, eV_len, seg_v, seg_va, seg_vn, splice_v, splice_va, splice_vc, seg_g]
      refine ⟨fun _ => ⟨by omega, by omega, ?_⟩, fun h => by omega⟩
      refine callK (fVec_ok _ g1) ?_
      simp (maxSteps := 4000000) (dsimp := false) (disch := omega) only [go_sem, ↓reduceIte, Nat.reduceEqDiff, Nat.reduceMul, Nat.reduceAdd, Nat.reduceSub, Nat.reduceLT, Nat.reduceLeDiff, Nat.reduceBEq, reduceCtorEq, Int.reduceToNat, Int.reduceEq, Int.reduceLT, Int.reduceLE, Int.reduceNeg, Int.reduceSub, Int.reduceAdd, Int.reduceMul, eZ_len, eR_len, seg_e, seg_ea, seg_en, seg_r, seg_ra, seg_rn, splice_e, splice_ea, splice_eaa, splice_en, splice_ec, splice_eca, splice_r, splice_ra, splice_raa, splice_rn, splice_rc, splice_rca, splice_nil, List.append_assoc, List.length_append, Try.results27, eV_len, seg_v, seg_va, seg_vn, splice_v, splice_va, splice_vc]
      refine callK (next_ok p i (by omega) hi) ?_
      simp (maxSteps := 4000000) (dsimp := false) (disch := omega) only [go_sem, ↓reduceIte, Nat.reduceEqDiff, Nat.reduceMul, Nat.reduceAdd, Nat.reduceSub, Nat.reduceLT, Nat.reduceLeDiff, Nat.reduceBEq, reduceCtorEq, Int.reduceToNat, Int.reduceEq, Int.reduceLT, Int.reduceLE, Int.reduceNeg, Int.reduceSub, Int.reduceAdd, Int.reduceMul, eZ_len, eR_len, seg_e, seg_ea, seg_en, seg_r, seg_ra, seg_rn, splice_e, splice_ea, splice_eaa, splice_en, splice_ec, splice_eca, splice_r, splice_ra, splice_raa, splice_rn, splice_rc, splice_rca, splice_nil, List.append_assoc, List.length_append, Try.results27, eV_len, seg_v, seg_va, seg_vn, splice_v, splice_va, splice_vc]
      refine callK (fVec_ok _ g2) ?_
      simp (maxSteps := 4000000) (dsimp := false) (disch := omega) only [go_sem, ↓reduceIte, Nat.reduceEqDiff, Nat.reduceMul, Nat.reduceAdd, Nat.reduceSub, Nat.reduceLT, Nat.reduceLeDiff, Nat.reduceBEq, reduceCtorEq, Int.reduceToNat, Int.reduceEq, Int.reduceLT, Int.reduceLE, Int.reduceNeg, Int.reduceSub, Int.reduceAdd, Int.reduceMul, eZ_len, eR_len, seg_e, seg_ea, seg_en, seg_r, seg_ra, seg_rn, splice_e, splice_ea, splice_eaa, splice_en, splice_ec, splice_eca, splice_r, splice_ra, splice_raa, splice_rn, splice_rc, splice_rca, splice_nil, List.append_assoc, List.length_append, Try.results27, eV_len, seg_v, seg_va, seg_vn, splice_v, splice_va, splice_vc]
      refine callK (fCross_ok _ _ _ _ s1 s2 (by omega)) ?_
      simp (maxSteps := 4000000) (dsimp := false) (disch := omega) only [go_sem, ↓reduceIte, Nat.reduceEqDiff, Nat.reduceMul, Nat.reduceAdd, Nat.reduceSub, Nat.reduceLT, Nat.reduceLeDiff, Nat.reduceBEq, reduceCtorEq, Int.reduceToNat, Int.reduceEq, Int.reduceLT, Int.reduceLE, Int.reduceNeg, Int.reduceSub, Int.reduceAdd, Int.reduceMul, eZ_len, eR_len, seg_e, seg_ea, seg_en, seg_r, seg_ra, seg_rn, splice_e, splice_ea, splice_eaa, splice_en, splice_ec, splice_eca, splice_r, splice_ra, splice_raa, splice_rn, splice_rc, splice_rca, splice_nil, List.append_assoc, List.length_append, Try.results27, eV_len, seg_v, seg_va, seg_vn, splice_v, splice_va, splice_vc]
      refine callK (FAdd_ok _ _ _ _ hs (SR_cross s1 s2) (by omega)) ?_
      rw [cross_pt, ← Rat.intCast_add]
      simp (maxSteps := 4000000) (dsimp := false) (disch := omega) only [go_sem, ↓reduceIte, Nat.reduceEqDiff, Nat.reduceMul, Nat.reduceAdd, Nat.reduceSub, Nat.reduceLT, Nat.reduceLeDiff, Nat.reduceBEq, reduceCtorEq, Int.reduceToNat, Int.reduceEq, Int.reduceLT, Int.reduceLE, Int.reduceNeg, Int.reduceSub, Int.reduceAdd, Int.reduceMul, eZ_len, eR_len, seg_e, seg_ea, seg_en, seg_r, seg_ra, seg_rn, splice_e, splice_ea, splice_eaa, splice_en, splice_ec, splice_eca, splice_r, splice_ra, splice_raa, splice_rn, splice_rc, splice_rca, splice_nil, List.append_assoc, List.length_append, Try.results27, eV_len, seg_v, seg_va, seg_vn, splice_v, splice_va, splice_vc]
      refine ⟨i + 1, ?_, by omega, by omega⟩
      (refine weak' [] ?_; simp (maxSteps := 4000000) (dsimp := false) (disch := omega) only [slotsW, blksW, parW, List.map_cons, List.map_nil, renF, renA, idsIn, go_sem, ↓reduceIte, Nat.reduceEqDiff, Nat.reduceMul, Nat.reduceAdd, Nat.reduceSub, Nat.reduceLT, Nat.reduceLeDiff, Nat.reduceBEq, reduceCtorEq, Int.reduceToNat, Int.reduceEq, Int.reduceLT, Int.reduceLE, Int.reduceNeg, Int.reduceSub, Int.reduceAdd, Int.reduceMul, eZ_len, eR_len, seg_e, seg_ea, seg_en, seg_r, seg_ra, seg_rn, splice_e, splice_ea, splice_eaa, splice_en, splice_ec, splice_eca, splice_r, splice_ra, splice_raa, splice_rn, splice_rc, splice_rca, splice_nil, List.append_assoc, List.length_append])
      rfl
    · obtain rfl : i = p.length := by omega
      simp (maxSteps := 4000000) (dsimp := false) (disch := omega) only [go_sem, ↓reduceIte, Nat.reduceEqDiff, Nat.reduceMul, Nat.reduceAdd, Nat.reduceSub, Nat.reduceLT, Nat.reduceLeDiff, Nat.reduceBEq, reduceCtorEq, Int.reduceToNat, Int.reduceEq, Int.reduceLT, Int.reduceLE, Int.reduceNeg, Int.reduceSub, Int.reduceAdd, Int.reduceMul, eZ_len, eR_len, seg_e, seg_ea, seg_en, seg_r, seg_ra, seg_rn, splice_e, splice_ea, splice_eaa, splice_en, splice_ec, splice_eca, splice_r, splice_ra, splice_raa, splice_rn, splice_rc, splice_rca, splice_nil, List.append_assoc, List.length_append, Try.results27, eV_len, seg_v, seg_va, seg_vn, splice_v, splice_va, splice_vc, seg_g]
      refine ⟨fun h => by omega, fun _ => ?_⟩
      refine callK (FSign_ok _) ?_
      rw [Rat.num_intCast]
      simp (maxSteps := 4000000) (dsimp := false) (disch := omega) only [go_sem, ↓reduceIte, Nat.reduceEqDiff, Nat.reduceMul, Nat.reduceAdd, Nat.reduceSub, Nat.reduceLT, Nat.reduceLeDiff, Nat.reduceBEq, reduceCtorEq, Int.reduceToNat, Int.reduceEq, Int.reduceLT, Int.reduceLE, Int.reduceNeg, Int.reduceSub, Int.reduceAdd, Int.reduceMul, eZ_len, eR_len, seg_e, seg_ea, seg_en, seg_r, seg_ra, seg_rn, splice_e, splice_ea, splice_eaa, splice_en, splice_ec, splice_eca, splice_r, splice_ra, splice_raa, splice_rn, splice_rc, splice_rca, splice_nil, List.append_assoc, List.length_append, Try.results27, eV_len, seg_v, seg_va, seg_vn, splice_v, splice_va, splice_vc]
theorem eqv_grid (x y : Int × Int) : Tb.eqv 5 29 [.int .i64 x.1, .int .i64 x.2] [.int .i64 y.1, .int .i64 y.2] = some (decide (x = y)) := by
  simp [Tab.eqv, Tab.eqF, T_td, seg]
  obtain ⟨a, b⟩ := x
  obtain ⟨a', b'⟩ := y
  rw [Bool.eq_iff_iff]
  simp
theorem Same_ok (a b : Path) (hn : a.length < 2 ^ 40) (hm : b.length < 2 ^ 40) :
    Ok Try.prog 13 [.lf (.sl 2 a.length (eG a)), .lf (.sl 2 b.length (eG b))] ⟨[.lf (.bool (decide (a = b)))], []⟩ := by
  refine ok_of_V (T := Tb) tb_ok mo Try.func13 rfl (by kernel_rfl) (by kernel_rfl) (by simp [Try.ntmps13, mts]) ?_
  simp (maxSteps := 4000000) (dsimp := false) (disch := omega) only [go_sem, ↓reduceIte, Nat.reduceEqDiff, Nat.reduceMul, Nat.reduceAdd, Nat.reduceSub, Nat.reduceLT, Nat.reduceLeDiff, Nat.reduceBEq, reduceCtorEq, Int.reduceToNat, Int.reduceEq, Int.reduceLT, Int.reduceLE, Int.reduceNeg, Int.reduceSub, Int.reduceAdd, Int.reduceMul, eZ_len, eR_len, seg_e, seg_ea, seg_en, seg_r, seg_ra, seg_rn, splice_e, splice_ea, splice_eaa, splice_en, splice_ec, splice_eca, splice_r, splice_ra, splice_raa, splice_rn, splice_rc, splice_rca, splice_nil, List.append_assoc, List.length_append, Try.results13]
  refine ⟨fun h => ?_, fun h => ?_⟩
  · have : ¬ a = b := by intro h1; subst h1; simp at h
    simp [this]
  · have hnm : b.length = a.length := by
      have : (a.length : Int) = b.length := by simpa using h
      omega
    refine vloop (α := Nat) (fun i => ⟨[(0, .lf (.sl 2 a.length (eG a))), (1, .lf (.sl 2 b.length (eG b))), (5, .lf (.int .i64 i))], []⟩) (fun i => i ≤ a.length ∧ ∀ j < i, gp a j = gp b j) (fun i => a.length - i) 0 ?_ ⟨Nat.zero_le _, by simp⟩ ?_
    · (refine weak' [] ?_; simp (maxSteps := 4000000) (dsimp := false) (disch := omega) only [slotsW, blksW, parW, List.map_cons, List.map_nil, renF, renA, idsIn, go_sem, ↓reduceIte, Nat.reduceEqDiff, Nat.reduceMul, Nat.reduceAdd, Nat.reduceSub, Nat.reduceLT, Nat.reduceLeDiff, Nat.reduceBEq, reduceCtorEq, Int.reduceToNat, Int.reduceEq, Int.reduceLT, Int.reduceLE, Int.reduceNeg, Int.reduceSub, Int.reduceAdd, Int.reduceMul, eZ_len, eR_len, seg_e, seg_ea, seg_en, seg_r, seg_ra, seg_rn, splice_e, splice_ea, splice_eaa, splice_en, splice_ec, splice_eca, splice_r, splice_ra, splice_raa, splice_rn, splice_rc, splice_rca, splice_nil, List.append_assoc, List.length_append])
    · intro i ⟨h1, h2⟩
      by_cases hi : i < a.length
      · have hi' : i < b.length := by omega
        simp (maxSteps := 4000000) (dsimp := false) (disch := omega) only [go_sem, ↓reduceIte, Nat.reduceEqDiff, Nat.reduceMul, Nat.reduceAdd, Nat.reduceSub, Nat.reduceLT, Nat.reduceLeDiff, Nat.reduceBEq, reduceCtorEq, Int.reduceToNat, Int.reduceEq, Int.reduceLT, Int.reduceLE, Int.reduceNeg, Int.reduceSub, Int.reduceAdd, Int.reduceMul, eZ_len, eR_len, seg_e, seg_ea, seg_en, seg_r, seg_ra, seg_rn, splice_e, splice_ea, splice_eaa, splice_en, splice_ec, splice_eca, splice_r, splice_ra, splice_raa, splice_rn, splice_rc, splice_rca, splice_nil, List.append_assoc, List.length_append, Try.results13, seg_g, eqv_grid]
        refine ⟨fun _ => ⟨by omega, by omega, by omega, by omega, fun h => ?_, fun h => ⟨i + 1, ?_, ⟨by omega, ?_⟩, by omega⟩⟩, fun h => by omega⟩
        · have : ¬ a = b := by rintro rfl; simp at h
          simp [this]
        · (refine weak' [] ?_; simp (maxSteps := 4000000) (dsimp := false) (disch := omega) only [slotsW, blksW, parW, List.map_cons, List.map_nil, renF, renA, idsIn, go_sem, ↓reduceIte, Nat.reduceEqDiff, Nat.reduceMul, Nat.reduceAdd, Nat.reduceSub, Nat.reduceLT, Nat.reduceLeDiff, Nat.reduceBEq, reduceCtorEq, Int.reduceToNat, Int.reduceEq, Int.reduceLT, Int.reduceLE, Int.reduceNeg, Int.reduceSub, Int.reduceAdd, Int.reduceMul, eZ_len, eR_len, seg_e, seg_ea, seg_en, seg_r, seg_ra, seg_rn, splice_e, splice_ea, splice_eaa, splice_en, splice_ec, splice_eca, splice_r, splice_ra, splice_raa, splice_rn, splice_rc, splice_rca, splice_nil, List.append_assoc, List.length_append])
        · intro j hj
          rcases Nat.lt_succ_iff_lt_or_eq.1 hj with hj | rfl
          · exact h2 j hj
          · simpa using h
      · obtain rfl : i = a.length := by omega
        have hab : a = b := by
          refine List.ext_getElem hnm.symm fun j h3 h4 => ?_
          have := h2 j h3
          simpa [gp, h3, h4] using this
        rw [decide_eq_true hab]
        simp (maxSteps := 4000000) (dsimp := false) (disch := omega) only [go_sem, ↓reduceIte, Nat.reduceEqDiff, Nat.reduceMul, Nat.reduceAdd, Nat.reduceSub, Nat.reduceLT, Nat.reduceLeDiff, Nat.reduceBEq, reduceCtorEq, Int.reduceToNat, Int.reduceEq, Int.reduceLT, Int.reduceLE, Int.reduceNeg, Int.reduceSub, Int.reduceAdd, Int.reduceMul, eZ_len, eR_len, seg_e, seg_ea, seg_en, seg_r, seg_ra, seg_rn, splice_e, splice_ea, splice_eaa, splice_en, splice_ec, splice_eca, splice_r, splice_ra, splice_raa, splice_rn, splice_rc, splice_rca, splice_nil, List.append_assoc, List.length_append, Try.results13, seg_g, eqv_grid]
        intro h
        omega
/-- The path turned as wanted. -/
def turned (p : Path) (ccw : Bool) : Path := if (0 < areaI p p.length ∧ ccw = false) ∨ (areaI p p.length < 0 ∧ ccw = true) then rev p else p
theorem fTurned_ok (p : Path) (ccw : Bool) (hp : Grid p) (hl : p.length ≤ 8) : Ok Try.prog 14 [.lf (.sl 2 p.length (eG p)), .lf (.bool ccw)] ⟨[.own 2 (turned p ccw).length (eG (turned p ccw))], []⟩ := by
  have hrl : (rev p).length = p.length := by simp [rev]
  have hgl := eG_length p
  refine ok_of_V (T := Tb) tb_ok mo Try.func14 rfl (by kernel_rfl) (by kernel_rfl) (by simp [Try.ntmps14, mts]) ?_
  simp (maxSteps := 4000000) (dsimp := false) (disch := omega) only [go_sem, ↓reduceIte, Nat.reduceEqDiff, Nat.reduceMul, Nat.reduceAdd, Nat.reduceSub, Nat.reduceLT, Nat.reduceLeDiff, Nat.reduceBEq, reduceCtorEq, Int.reduceToNat, Int.reduceEq, Int.reduceLT, Int.reduceLE, Int.reduceNeg, Int.reduceSub, Int.reduceAdd, Int.reduceMul, eZ_len, eR_len, seg_e, seg_ea, seg_en, seg_r, seg_ra, seg_rn, splice_e, splice_ea, splice_eaa, splice_en, splice_ec, splice_eca, splice_r, splice_ra, splice_raa, splice_rn, splice_rc, splice_rca, splice_nil, List.append_assoc, List.length_append, Try.results14]
  refine callK (Area_ok p hp hl) ?_
  simp (maxSteps := 4000000) (dsimp := false) (disch := omega) only [go_sem, ↓reduceIte, Nat.reduceEqDiff, Nat.reduceMul, Nat.reduceAdd, Nat.reduceSub, Nat.reduceLT, Nat.reduceLeDiff, Nat.reduceBEq, reduceCtorEq, Int.reduceToNat, Int.reduceEq, Int.reduceLT, Int.reduceLE, Int.reduceNeg, Int.reduceSub, Int.reduceAdd, Int.reduceMul, eZ_len, eR_len, seg_e, seg_ea, seg_en, seg_r, seg_ra, seg_rn, splice_e, splice_ea, splice_eaa, splice_en, splice_ec, splice_eca, splice_r, splice_ra, splice_raa, splice_rn, splice_rc, splice_rca, splice_nil, List.append_assoc, List.length_append, Try.results14]
  have sp : (areaI p p.length).sign > 0 ↔ 0 < areaI p p.length := Int.sign_pos_iff
  have sn : (areaI p p.length).sign < 0 ↔ areaI p p.length < 0 := Int.sign_neg_iff
  have keep : turned p ccw = p → List.length p * 16 ≤ maxApp ∧ List.length p = List.length (turned p ccw) ∧ eG p = eG (turned p ccw) := fun h => by
    rw [h]; exact ⟨by simp only [maxApp]; omega, rfl, rfl⟩
  refine ⟨fun a => ⟨fun b => ⟨fun c => by omega, fun c => keep ?_⟩, fun b => ?_⟩, fun a => ⟨fun c => ⟨fun d => ?_, fun d => keep ?_⟩, fun c => keep ?_⟩⟩
  · have hc : ccw = true := by simpa using b
    exact if_neg (by rintro (⟨_, h⟩ | ⟨h, _⟩); rw [hc] at h; simp at h; omega)
  · have ht : turned p ccw = rev p := if_pos (.inl ⟨sp.1 a, by simpa using b⟩)
    rw [ht, hrl]
    refine callK (Reversed_ok p (by omega)) ?_
    simp (maxSteps := 4000000) (dsimp := false) (disch := omega) only [go_sem, ↓reduceIte, Nat.reduceEqDiff, Nat.reduceMul, Nat.reduceAdd, Nat.reduceSub, Nat.reduceLT, Nat.reduceLeDiff, Nat.reduceBEq, reduceCtorEq, Int.reduceToNat, Int.reduceEq, Int.reduceLT, Int.reduceLE, Int.reduceNeg, Int.reduceSub, Int.reduceAdd, Int.reduceMul, eZ_len, eR_len, seg_e, seg_ea, seg_en, seg_r, seg_ra, seg_rn, splice_e, splice_ea, splice_eaa, splice_en, splice_ec, splice_eca, splice_r, splice_ra, splice_raa, splice_rn, splice_rc, splice_rca, splice_nil, List.append_assoc, List.length_append, Try.results14]
  · have ht : turned p ccw = rev p := if_pos (.inr ⟨sn.1 c, d⟩)
    rw [ht, hrl]
    refine callK (Reversed_ok p (by omega)) ?_
    simp (maxSteps := 4000000) (dsimp := false) (disch := omega) only [go_sem, ↓reduceIte, Nat.reduceEqDiff, Nat.reduceMul, Nat.reduceAdd, Nat.reduceSub, Nat.reduceLT, Nat.reduceLeDiff, Nat.reduceBEq, reduceCtorEq, Int.reduceToNat, Int.reduceEq, Int.reduceLT, Int.reduceLE, Int.reduceNeg, Int.reduceSub, Int.reduceAdd, Int.reduceMul, eZ_len, eR_len, seg_e, seg_ea, seg_en, seg_r, seg_ra, seg_rn, splice_e, splice_ea, splice_eaa, splice_en, splice_ec, splice_eca, splice_r, splice_ra, splice_raa, splice_rn, splice_rc, splice_rca, splice_nil, List.append_assoc, List.length_append, Try.results14]
  · exact if_neg (by rintro (⟨h, _⟩ | ⟨_, h⟩); omega; rw [d] at h; simp at h)
  · exact if_neg (by rintro (⟨h, _⟩ | ⟨h, _⟩) <;> omega)
end Go.Proofs.Ytdhgdpcmdmgchaa.Fw

/- Contracts: a path turned round in place. Conditions: none. -/
namespace Go.Proofs.Ytdhgdpcmdmgchaa.Fw
open Go Go.Proofs
set_option linter.unusedSimpArgs false
set_option linter.unusedVariables false
set_option maxHeartbeats 2000000
set_option maxRecDepth 10000

/-- The path after k swaps. -/
def swK (p : Path) (k : Nat) : Path := (List.range p.length).map fun t => if t < k ∨ p.length - k ≤ t then gp p (p.length - 1 - t) else gp p t
theorem swK_len (p : Path) (k : Nat) : (swK p k).length = p.length := by simp [swK]
theorem gp_ext {p q : Path} (hl : p.length = q.length) (h : ∀ i < p.length, gp p i = gp q i) : p = q := by
  refine List.ext_getElem hl fun i h1 h2 => ?_
  have := h i h1
  simpa [gp, h1, h2] using this
theorem gp_sw {p : Path} {k t : Nat} (h : t < p.length) : gp (swK p k) t = if t < k ∨ p.length - k ≤ t then gp p (p.length - 1 - t) else gp p t := by
  simp [gp, swK, h]
theorem gp_set {p : Path} {i t : Nat} {g : Int × Int} (h : i < p.length) : gp (p.set i g) t = if t = i then g else gp p t := by
  unfold gp
  simp only [List.getD_eq_getElem?_getD, List.getElem?_set]
  by_cases ht : i = t
  · subst ht; simp [h]
  · simp [ht, Ne.symm ht]
theorem sw_zero (p : Path) : swK p 0 = p := by
  refine gp_ext (swK_len _ _) fun i hi => ?_
  rw [swK_len] at hi
  rw [gp_sw hi, if_neg (by omega)]
theorem gp_rev {p : Path} {t : Nat} (h : t < p.length) : gp p.reverse t = gp p (p.length - 1 - t) := by
  have h2 : p.length - 1 - t < p.length := by omega
  simp [gp, h, h2]
theorem sw_end {p : Path} {k : Nat} (h : p.length ≤ 2 * k + 1) : swK p k = p.reverse := by
  refine gp_ext (by rw [swK_len, List.length_reverse]) fun i hi => ?_
  rw [swK_len] at hi
  rw [gp_sw hi, gp_rev hi]
  split
  · rfl
  · rw [show p.length - 1 - i = i by omega]
theorem sw_step {p : Path} {k j : Nat} (h : k < j) (hj : j + k + 1 = p.length) : ((swK p k).set k (gp (swK p k) j)).set j (gp (swK p k) k) = swK p (k + 1) := by
  have hl := swK_len p k
  refine gp_ext (by simp [swK_len]) fun t ht => ?_
  simp only [List.length_set, hl] at ht
  rw [gp_set (by simp [hl]; omega), gp_set (by omega), gp_sw ht, gp_sw (by omega), gp_sw (by omega), gp_sw ht]
  by_cases h1 : t = j
  · subst h1
    rw [if_pos rfl, if_neg (by omega), if_pos (by omega), show p.length - 1 - t = k by omega]
  · rw [if_neg h1]
    by_cases h2 : t = k
    · subst h2
      rw [if_pos rfl, if_neg (by omega), if_pos (by omega), show p.length - 1 - t = j by omega]
    · rw [if_neg h2]
      by_cases h3 : t < k ∨ p.length - k ≤ t
      · rw [if_pos h3, if_pos (by omega)]
      · rw [if_neg h3, if_neg (by omega)]
theorem splice_g {p : Path} {i : Nat} {g : Int × Int} (h : i < p.length) : splice (i * 2) [.int .i64 g.1, .int .i64 g.2] (eG p) = eG (p.set i g) := by
  induction p generalizing i with
  | nil => simp at h
  | cons a p ih =>
    cases i with
    | zero => simp [splice, eG]
    | succ i =>
      have := ih (i := i) (by simpa using h)
      have h2 : (i + 1) * 2 = i * 2 + 1 + 1 := by omega
      rw [h2]
      simp only [eG, splice_s, this, List.set_cons_succ]
theorem Reverse_ok (p : Path) (hl : p.length < 2 ^ 36) : Ok Try.prog 26 [.mt 2 p.length (eG p)] ⟨[], eG p.reverse⟩ := by
  refine ok_of_V (T := Tb) tb_ok mo Try.func26 rfl (by kernel_rfl) (by kernel_rfl) (by simp [Try.ntmps26, mts]) ?_
  simp (maxSteps := 4000000) (dsimp := false) (disch := omega) only [go_sem, ↓reduceIte, Nat.reduceEqDiff, Nat.reduceMul, Nat.reduceAdd, Nat.reduceSub, Nat.reduceLT, Nat.reduceLeDiff, Nat.reduceBEq, reduceCtorEq, Int.reduceToNat, Int.reduceEq, Int.reduceLT, Int.reduceLE, Int.reduceNeg, Int.reduceSub, Int.reduceAdd, Int.reduceMul, eZ_len, eR_len, seg_e, seg_ea, seg_en, seg_r, seg_ra, seg_rn, splice_e, splice_ea, splice_eaa, splice_en, splice_ec, splice_eca, splice_r, splice_ra, splice_raa, splice_rn, splice_rc, splice_rca, splice_nil, List.append_assoc, List.length_append, Try.results26]
  refine vloop (α := Nat) (fun k => ⟨[(0, .row 0 2 0 p.length), (2, .lf (.int .i64 k)), (3, .lf (.int .i64 ((p.length : Int) - 1 - k)))], [(0, ⟨2, p.length, eG (swK p k), 1⟩)]⟩) (fun k => k ≤ p.length) (fun k => p.length - k) 0 ?_ (Nat.zero_le _) ?_
  · rw [sw_zero]
    (refine weak' [] ?_; simp (maxSteps := 4000000) (dsimp := false) (disch := omega) only [slotsW, blksW, parW, List.map_cons, List.map_nil, renF, renA, idsIn, go_sem, ↓reduceIte, Nat.reduceEqDiff, Nat.reduceMul, Nat.reduceAdd, Nat.reduceSub, Nat.reduceLT, Nat.reduceLeDiff, Nat.reduceBEq, reduceCtorEq, Int.reduceToNat, Int.reduceEq, Int.reduceLT, Int.reduceLE, Int.reduceNeg, Int.reduceSub, Int.reduceAdd, Int.reduceMul, eZ_len, eR_len, seg_e, seg_ea, seg_en, seg_r, seg_ra, seg_rn, splice_e, splice_ea, splice_eaa, splice_en, splice_ec, splice_eca, splice_r, splice_ra, splice_raa, splice_rn, splice_rc, splice_rca, splice_nil, List.append_assoc, List.length_append])
    omega
  · intro k h1
    have hsl := swK_len p k
    by_cases hk : 2 * k + 1 < p.length
    · obtain ⟨j, hj⟩ : ∃ j : Nat, (p.length : Int) - 1 - (k : Int) = (j : Int) := ⟨p.length - 1 - k, by omega⟩
      have hstep := sw_step (p := p) (k := k) (j := j) (by omega) (by omega)
      have hs1 : j < (swK p k).length := by omega
      have hs2 : k < (swK p k).length := by omega
      have e1 : splice (k * 2) [.int .i64 (gp (swK p k) j).1, .int .i64 (gp (swK p k) j).2] (eG (swK p k)) = eG ((swK p k).set k (gp (swK p k) j)) := splice_g hs2
      have e2 : splice (j * 2) [.int .i64 (gp (swK p k) k).1, .int .i64 (gp (swK p k) k).2] (eG ((swK p k).set k (gp (swK p k) j))) = eG (swK p (k + 1)) := by
        rw [splice_g (by simp; omega), hstep]
      simp only [hj]
      simp (maxSteps := 4000000) (dsimp := false) (disch := omega) only [go_sem, ↓reduceIte, Nat.reduceEqDiff, Nat.reduceMul, Nat.reduceAdd, Nat.reduceSub, Nat.reduceLT, Nat.reduceLeDiff, Nat.reduceBEq, reduceCtorEq, Int.reduceToNat, Int.reduceEq, Int.reduceLT, Int.reduceLE, Int.reduceNeg, Int.reduceSub, Int.reduceAdd, Int.reduceMul, eZ_len, eR_len, seg_e, seg_ea, seg_en, seg_r, seg_ra, seg_rn, splice_e, splice_ea, splice_eaa, splice_en, splice_ec, splice_eca, splice_r, splice_ra, splice_raa, splice_rn, splice_rc, splice_rca, splice_nil, List.append_assoc, List.length_append, Try.results26, seg_g, e1, e2]
      refine ⟨fun _ => ?_, fun h => by omega⟩
      repeat refine And.intro (by omega) ?_
      refine ⟨k + 1, ?_, by omega, by omega⟩
      (refine weak' [] ?_; simp (maxSteps := 4000000) (dsimp := false) (disch := omega) only [slotsW, blksW, parW, List.map_cons, List.map_nil, renF, renA, idsIn, go_sem, ↓reduceIte, Nat.reduceEqDiff, Nat.reduceMul, Nat.reduceAdd, Nat.reduceSub, Nat.reduceLT, Nat.reduceLeDiff, Nat.reduceBEq, reduceCtorEq, Int.reduceToNat, Int.reduceEq, Int.reduceLT, Int.reduceLE, Int.reduceNeg, Int.reduceSub, Int.reduceAdd, Int.reduceMul, eZ_len, eR_len, seg_e, seg_ea, seg_en, seg_r, seg_ra, seg_rn, splice_e, splice_ea, splice_eaa, splice_en, splice_ec, splice_eca, splice_r, splice_ra, splice_raa, splice_rn, splice_rc, splice_rca, splice_nil, List.append_assoc, List.length_append])
      omega
    · simp (maxSteps := 4000000) (dsimp := false) (disch := omega) only [go_sem, ↓reduceIte, Nat.reduceEqDiff, Nat.reduceMul, Nat.reduceAdd, Nat.reduceSub, Nat.reduceLT, Nat.reduceLeDiff, Nat.reduceBEq, reduceCtorEq, Int.reduceToNat, Int.reduceEq, Int.reduceLT, Int.reduceLE, Int.reduceNeg, Int.reduceSub, Int.reduceAdd, Int.reduceMul, eZ_len, eR_len, seg_e, seg_ea, seg_en, seg_r, seg_ra, seg_rn, splice_e, splice_ea, splice_eaa, splice_en, splice_ec, splice_eca, splice_r, splice_ra, splice_raa, splice_rn, splice_rc, splice_rca, splice_nil, List.append_assoc, List.length_append, Try.results26, seg_g]
      refine ⟨fun h => by omega, fun _ => ⟨?_, ?_⟩⟩
      · rw [eG_length, List.length_reverse]
      · rw [sw_end (by omega)]
end Go.Proofs.Ytdhgdpcmdmgchaa.Fw

/- Contracts: Turned. Conditions: none. -/
namespace Go.Proofs.Ytdhgdpcmdmgchaa.Fw
open Go Go.Proofs
set_option linter.unusedSimpArgs false
set_option linter.unusedVariables false
set_option maxHeartbeats 2000000
set_option maxRecDepth 10000

theorem rev_cons (g : Int × Int) (q : Path) : rev (g :: q) = g :: q.reverse := by
  refine gp_ext (by simp [rev]) fun i hi => ?_
  have hi' : i < q.length + 1 := by simpa [rev] using hi
  have h1 : gp (rev (g :: q)) i = gp (g :: q) (revI (g :: q) i) := by simp [gp, rev, hi']
  rw [h1]
  cases i with
  | zero => simp [revI, gp]
  | succ i =>
    have hr : revI (g :: q) (i + 1) = q.length - i := by
      unfold revI
      rw [List.length_cons, Nat.mod_eq_of_lt (by omega)]; omega
    rw [hr]
    obtain ⟨k, hk⟩ : ∃ k, q.length - i = k + 1 := ⟨q.length - i - 1, by omega⟩
    have hk2 : k < q.length := by omega
    have hi2 : i < q.length := by omega
    rw [hk]
    have := gp_rev (p := q) (t := i) hi2
    rw [show q.length - 1 - i = k by omega] at this
    simpa [gp] using this.symm
theorem eG_flat (p : Path) : (eG p).all L.flat = true := by
  induction p with
  | nil => rfl
  | cons a p ih => simp only [eG, List.all_cons, L.flat, Bool.true_and]; exact ih
theorem seg_all {cs : List L} {n : Nat} (h : cs.length = n) : seg 0 n cs = cs := by
  subst h; simp [seg]
theorem Turned_ok (p : Path) (ccw : Bool) (hp : Grid p) (hl : p.length ≤ 8) : Ok Try.prog 12 [.lf (.sl 2 p.length (eG p)), .lf (.bool ccw)] ⟨[.own 2 (turned p ccw).length (eG (turned p ccw))], []⟩ := by
  have hpo := grid_ok hp
  have hgl := eG_length p
  refine ok_of_V (T := Tb) tb_ok mo Try.func12 rfl (by kernel_rfl) (by kernel_rfl) (by simp [Try.ntmps12, mts]) ?_
  simp (maxSteps := 4000000) (dsimp := false) (disch := omega) only [go_sem, ↓reduceIte, Nat.reduceEqDiff, Nat.reduceMul, Nat.reduceAdd, Nat.reduceSub, Nat.reduceLT, Nat.reduceLeDiff, Nat.reduceBEq, reduceCtorEq, Int.reduceToNat, Int.reduceEq, Int.reduceLT, Int.reduceLE, Int.reduceNeg, Int.reduceSub, Int.reduceAdd, Int.reduceMul, eZ_len, eR_len, seg_e, seg_ea, seg_en, seg_r, seg_ra, seg_rn, splice_e, splice_ea, splice_eaa, splice_en, splice_ec, splice_eca, splice_r, splice_ra, splice_raa, splice_rn, splice_rc, splice_rca, splice_nil, List.append_assoc, List.length_append, Try.results12]
  refine callK (FromInt64_ok 0 (by omega)) ?_
  simp (maxSteps := 4000000) (dsimp := false) (disch := omega) only [go_sem, ↓reduceIte, Nat.reduceEqDiff, Nat.reduceMul, Nat.reduceAdd, Nat.reduceSub, Nat.reduceLT, Nat.reduceLeDiff, Nat.reduceBEq, reduceCtorEq, Int.reduceToNat, Int.reduceEq, Int.reduceLT, Int.reduceLE, Int.reduceNeg, Int.reduceSub, Int.reduceAdd, Int.reduceMul, eZ_len, eR_len, seg_e, seg_ea, seg_en, seg_r, seg_ra, seg_rn, splice_e, splice_ea, splice_eaa, splice_en, splice_ec, splice_eca, splice_r, splice_ra, splice_raa, splice_rn, splice_rc, splice_rca, splice_nil, List.append_assoc, List.length_append, Try.results12]
  refine vloop (α := Nat) (fun i => ⟨[(0, .lf (.sl 2 p.length (eG p))), (1, .lf (.bool ccw)), (5, .ad 1040 0), (12, .lf (.sl 2 p.length (eG p))), (13, .lf (.int .i64 p.length)), (14, .lf (.int .i64 i))], [(1040, ⟨2, 1, eZ (areaI p i), 1⟩)]⟩) (fun i => i ≤ p.length) (fun i => p.length - i) 0 ?_ (Nat.zero_le _) ?_
  · (refine weak' [] ?_; simp (maxSteps := 4000000) (dsimp := false) (disch := omega) only [slotsW, blksW, parW, List.map_cons, List.map_nil, renF, renA, idsIn, go_sem, ↓reduceIte, Nat.reduceEqDiff, Nat.reduceMul, Nat.reduceAdd, Nat.reduceSub, Nat.reduceLT, Nat.reduceLeDiff, Nat.reduceBEq, reduceCtorEq, Int.reduceToNat, Int.reduceEq, Int.reduceLT, Int.reduceLE, Int.reduceNeg, Int.reduceSub, Int.reduceAdd, Int.reduceMul, eZ_len, eR_len, seg_e, seg_ea, seg_en, seg_r, seg_ra, seg_rn, splice_e, splice_ea, splice_eaa, splice_en, splice_ec, splice_eca, splice_r, splice_ra, splice_raa, splice_rn, splice_rc, splice_rca, splice_nil, List.append_assoc, List.length_append])
    rfl
  · intro i h1
    have ha := areaI_le hp i
    have hs : lz (areaI p i) ≤ 3 := lz_i64 (by unfold inR; omega)
    by_cases hi : i < p.length
    · have hn := nx_lt (p := p) (i := i) (by omega)
      have g1 := gp_grid hp i
      have g2 := gp_grid hp (nx p i)
      unfold okG at g1 g2
      have z1 : lz (gp p i).1 ≤ 3 := lz_i64 (by unfold inR; omega)
      have z2 : lz (gp p i).2 ≤ 3 := lz_i64 (by unfold inR; omega)
      have z3 : lz (gp p (nx p i)).1 ≤ 3 := lz_i64 (by unfold inR; omega)
      have z4 : lz (gp p (nx p i)).2 ≤ 3 := lz_i64 (by unfold inR; omega)
      have m1 := grid_mul (a := (gp p i).1) (b := (gp p (nx p i)).2) (by omega) (by omega)
      have m2 := grid_mul (a := (gp p i).2) (b := (gp p (nx p i)).1) (by omega) (by omega)
      have z5 : lz ((gp p i).1 * (gp p (nx p i)).2) ≤ 3 := lz_i64 (by unfold inR; omega)
      have z6 : lz ((gp p i).2 * (gp p (nx p i)).1) ≤ 3 := lz_i64 (by unfold inR; omega)
      have z7 : lz (areaI p i + (gp p i).1 * (gp p (nx p i)).2) ≤ 3 := lz_i64 (by unfold inR; omega)
      have hstep : areaI p i + (gp p i).1 * (gp p (nx p i)).2 - (gp p i).2 * (gp p (nx p i)).1 = areaI p (i + 1) := by rw [areaI]; omega
      simp (maxSteps := 4000000) (dsimp := false) (disch := omega) only [go_sem, ↓reduceIte, Nat.reduceEqDiff, Nat.reduceMul, Nat.reduceAdd, Nat.reduceSub, Nat.reduceLT, Nat.reduceLeDiff, Nat.reduceBEq, reduceCtorEq, Int.reduceToNat, Int.reduceEq, Int.reduceLT, Int.reduceLE, Int.reduceNeg, Int.reduceSub, Int.reduceAdd, Int.reduceMul, eZ_len, eR_len, seg_e, seg_ea, seg_en, seg_r, seg_ra, seg_rn, splice_e, splice_ea, splice_eaa, splice_en, splice_ec, splice_eca, splice_r, splice_ra, splice_raa, splice_rn, splice_rc, splice_rca, splice_nil, List.append_assoc, List.length_append, Try.results12, seg_g, tmod_nx]
      refine ⟨fun _ => ⟨by omega, by omega, by omega, by omega, by omega, ?_⟩, fun h => by omega⟩
      refine callK (FromInt64_ok (gp p i).1 (by omega)) ?_
      simp (maxSteps := 4000000) (dsimp := false) (disch := omega) only [go_sem, ↓reduceIte, Nat.reduceEqDiff, Nat.reduceMul, Nat.reduceAdd, Nat.reduceSub, Nat.reduceLT, Nat.reduceLeDiff, Nat.reduceBEq, reduceCtorEq, Int.reduceToNat, Int.reduceEq, Int.reduceLT, Int.reduceLE, Int.reduceNeg, Int.reduceSub, Int.reduceAdd, Int.reduceMul, eZ_len, eR_len, seg_e, seg_ea, seg_en, seg_r, seg_ra, seg_rn, splice_e, splice_ea, splice_eaa, splice_en, splice_ec, splice_eca, splice_r, splice_ra, splice_raa, splice_rn, splice_rc, splice_rca, splice_nil, List.append_assoc, List.length_append, Try.results12]
      refine callK (FromInt64_ok (gp p (nx p i)).2 (by omega)) ?_
      simp (maxSteps := 4000000) (dsimp := false) (disch := omega) only [go_sem, ↓reduceIte, Nat.reduceEqDiff, Nat.reduceMul, Nat.reduceAdd, Nat.reduceSub, Nat.reduceLT, Nat.reduceLeDiff, Nat.reduceBEq, reduceCtorEq, Int.reduceToNat, Int.reduceEq, Int.reduceLT, Int.reduceLE, Int.reduceNeg, Int.reduceSub, Int.reduceAdd, Int.reduceMul, eZ_len, eR_len, seg_e, seg_ea, seg_en, seg_r, seg_ra, seg_rn, splice_e, splice_ea, splice_eaa, splice_en, splice_ec, splice_eca, splice_r, splice_ra, splice_raa, splice_rn, splice_rc, splice_rca, splice_nil, List.append_assoc, List.length_append, Try.results12]
      refine callK (Mul_ok _ _ (by omega) (by omega)) ?_
      simp (maxSteps := 4000000) (dsimp := false) (disch := omega) only [go_sem, ↓reduceIte, Nat.reduceEqDiff, Nat.reduceMul, Nat.reduceAdd, Nat.reduceSub, Nat.reduceLT, Nat.reduceLeDiff, Nat.reduceBEq, reduceCtorEq, Int.reduceToNat, Int.reduceEq, Int.reduceLT, Int.reduceLE, Int.reduceNeg, Int.reduceSub, Int.reduceAdd, Int.reduceMul, eZ_len, eR_len, seg_e, seg_ea, seg_en, seg_r, seg_ra, seg_rn, splice_e, splice_ea, splice_eaa, splice_en, splice_ec, splice_eca, splice_r, splice_ra, splice_raa, splice_rn, splice_rc, splice_rca, splice_nil, List.append_assoc, List.length_append, Try.results12]
      refine callK (Add_ok _ _ (by omega) (by omega)) ?_
      simp (maxSteps := 4000000) (dsimp := false) (disch := omega) only [go_sem, ↓reduceIte, Nat.reduceEqDiff, Nat.reduceMul, Nat.reduceAdd, Nat.reduceSub, Nat.reduceLT, Nat.reduceLeDiff, Nat.reduceBEq, reduceCtorEq, Int.reduceToNat, Int.reduceEq, Int.reduceLT, Int.reduceLE, Int.reduceNeg, Int.reduceSub, Int.reduceAdd, Int.reduceMul, eZ_len, eR_len, seg_e, seg_ea, seg_en, seg_r, seg_ra, seg_rn, splice_e, splice_ea, splice_eaa, splice_en, splice_ec, splice_eca, splice_r, splice_ra, splice_raa, splice_rn, splice_rc, splice_rca, splice_nil, List.append_assoc, List.length_append, Try.results12]
      refine callK (FromInt64_ok (gp p i).2 (by omega)) ?_
      simp (maxSteps := 4000000) (dsimp := false) (disch := omega) only [go_sem, ↓reduceIte, Nat.reduceEqDiff, Nat.reduceMul, Nat.reduceAdd, Nat.reduceSub, Nat.reduceLT, Nat.reduceLeDiff, Nat.reduceBEq, reduceCtorEq, Int.reduceToNat, Int.reduceEq, Int.reduceLT, Int.reduceLE, Int.reduceNeg, Int.reduceSub, Int.reduceAdd, Int.reduceMul, eZ_len, eR_len, seg_e, seg_ea, seg_en, seg_r, seg_ra, seg_rn, splice_e, splice_ea, splice_eaa, splice_en, splice_ec, splice_eca, splice_r, splice_ra, splice_raa, splice_rn, splice_rc, splice_rca, splice_nil, List.append_assoc, List.length_append, Try.results12]
      refine callK (FromInt64_ok (gp p (nx p i)).1 (by omega)) ?_
      simp (maxSteps := 4000000) (dsimp := false) (disch := omega) only [go_sem, ↓reduceIte, Nat.reduceEqDiff, Nat.reduceMul, Nat.reduceAdd, Nat.reduceSub, Nat.reduceLT, Nat.reduceLeDiff, Nat.reduceBEq, reduceCtorEq, Int.reduceToNat, Int.reduceEq, Int.reduceLT, Int.reduceLE, Int.reduceNeg, Int.reduceSub, Int.reduceAdd, Int.reduceMul, eZ_len, eR_len, seg_e, seg_ea, seg_en, seg_r, seg_ra, seg_rn, splice_e, splice_ea, splice_eaa, splice_en, splice_ec, splice_eca, splice_r, splice_ra, splice_raa, splice_rn, splice_rc, splice_rca, splice_nil, List.append_assoc, List.length_append, Try.results12]
      refine callK (Mul_ok _ _ (by omega) (by omega)) ?_
      simp (maxSteps := 4000000) (dsimp := false) (disch := omega) only [go_sem, ↓reduceIte, Nat.reduceEqDiff, Nat.reduceMul, Nat.reduceAdd, Nat.reduceSub, Nat.reduceLT, Nat.reduceLeDiff, Nat.reduceBEq, reduceCtorEq, Int.reduceToNat, Int.reduceEq, Int.reduceLT, Int.reduceLE, Int.reduceNeg, Int.reduceSub, Int.reduceAdd, Int.reduceMul, eZ_len, eR_len, seg_e, seg_ea, seg_en, seg_r, seg_ra, seg_rn, splice_e, splice_ea, splice_eaa, splice_en, splice_ec, splice_eca, splice_r, splice_ra, splice_raa, splice_rn, splice_rc, splice_rca, splice_nil, List.append_assoc, List.length_append, Try.results12]
      refine callK (Sub_ok _ _ (by omega) (by omega)) ?_
      rw [hstep]
      simp (maxSteps := 4000000) (dsimp := false) (disch := omega) only [go_sem, ↓reduceIte, Nat.reduceEqDiff, Nat.reduceMul, Nat.reduceAdd, Nat.reduceSub, Nat.reduceLT, Nat.reduceLeDiff, Nat.reduceBEq, reduceCtorEq, Int.reduceToNat, Int.reduceEq, Int.reduceLT, Int.reduceLE, Int.reduceNeg, Int.reduceSub, Int.reduceAdd, Int.reduceMul, eZ_len, eR_len, seg_e, seg_ea, seg_en, seg_r, seg_ra, seg_rn, splice_e, splice_ea, splice_eaa, splice_en, splice_ec, splice_eca, splice_r, splice_ra, splice_raa, splice_rn, splice_rc, splice_rca, splice_nil, List.append_assoc, List.length_append, Try.results12]
      refine ⟨i + 1, ?_, by omega, by omega⟩
      (refine weak' [] ?_; simp (maxSteps := 4000000) (dsimp := false) (disch := omega) only [slotsW, blksW, parW, List.map_cons, List.map_nil, renF, renA, idsIn, go_sem, ↓reduceIte, Nat.reduceEqDiff, Nat.reduceMul, Nat.reduceAdd, Nat.reduceSub, Nat.reduceLT, Nat.reduceLeDiff, Nat.reduceBEq, reduceCtorEq, Int.reduceToNat, Int.reduceEq, Int.reduceLT, Int.reduceLE, Int.reduceNeg, Int.reduceSub, Int.reduceAdd, Int.reduceMul, eZ_len, eR_len, seg_e, seg_ea, seg_en, seg_r, seg_ra, seg_rn, splice_e, splice_ea, splice_eaa, splice_en, splice_ec, splice_eca, splice_r, splice_ra, splice_raa, splice_rn, splice_rc, splice_rca, splice_nil, List.append_assoc, List.length_append])
    · obtain rfl : i = p.length := by omega
      simp (maxSteps := 4000000) (dsimp := false) (disch := omega) only [go_sem, ↓reduceIte, Nat.reduceEqDiff, Nat.reduceMul, Nat.reduceAdd, Nat.reduceSub, Nat.reduceLT, Nat.reduceLeDiff, Nat.reduceBEq, reduceCtorEq, Int.reduceToNat, Int.reduceEq, Int.reduceLT, Int.reduceLE, Int.reduceNeg, Int.reduceSub, Int.reduceAdd, Int.reduceMul, eZ_len, eR_len, seg_e, seg_ea, seg_en, seg_r, seg_ra, seg_rn, splice_e, splice_ea, splice_eaa, splice_en, splice_ec, splice_eca, splice_r, splice_ra, splice_raa, splice_rn, splice_rc, splice_rca, splice_nil, List.append_assoc, List.length_append, Try.results12, seg_g]
      refine ⟨fun h => by omega, fun _ => ?_⟩
      refine callK (Clone_ok p (by omega)) ?_
      simp (maxSteps := 4000000) (dsimp := false) (disch := omega) only [go_sem, ↓reduceIte, Nat.reduceEqDiff, Nat.reduceMul, Nat.reduceAdd, Nat.reduceSub, Nat.reduceLT, Nat.reduceLeDiff, Nat.reduceBEq, reduceCtorEq, Int.reduceToNat, Int.reduceEq, Int.reduceLT, Int.reduceLE, Int.reduceNeg, Int.reduceSub, Int.reduceAdd, Int.reduceMul, eZ_len, eR_len, seg_e, seg_ea, seg_en, seg_r, seg_ra, seg_rn, splice_e, splice_ea, splice_eaa, splice_en, splice_ec, splice_eca, splice_r, splice_ra, splice_raa, splice_rn, splice_rc, splice_rca, splice_nil, List.append_assoc, List.length_append, Try.results12]
      refine callK (Sign_ok _) ?_
      simp (maxSteps := 4000000) (dsimp := false) (disch := omega) only [go_sem, ↓reduceIte, Nat.reduceEqDiff, Nat.reduceMul, Nat.reduceAdd, Nat.reduceSub, Nat.reduceLT, Nat.reduceLeDiff, Nat.reduceBEq, reduceCtorEq, Int.reduceToNat, Int.reduceEq, Int.reduceLT, Int.reduceLE, Int.reduceNeg, Int.reduceSub, Int.reduceAdd, Int.reduceMul, eZ_len, eR_len, seg_e, seg_ea, seg_en, seg_r, seg_ra, seg_rn, splice_e, splice_ea, splice_eaa, splice_en, splice_ec, splice_eca, splice_r, splice_ra, splice_raa, splice_rn, splice_rc, splice_rca, splice_nil, List.append_assoc, List.length_append, Try.results12]
      have hbr : ((areaI p p.length).sign != 0) = true → (decide ((areaI p p.length).sign > 0) != ccw) = true → turned p ccw = rev p := fun a b => by
        refine if_pos ?_
        have h0 : areaI p p.length ≠ 0 := fun h => by rw [h] at a; simp at a
        rw [show decide ((areaI p p.length).sign > 0) = decide (0 < areaI p p.length) by rw [decide_eq_decide]; exact Int.sign_pos_iff] at b
        cases ccw with
        | false => exact .inl ⟨by simpa using b, rfl⟩
        | true => have : ¬ 0 < areaI p p.length := by simpa using b
                  exact .inr ⟨by omega, rfl⟩
      have hkp : (¬ (((areaI p p.length).sign != 0) = true ∧ (decide ((areaI p p.length).sign > 0) != ccw) = true)) → List.length p = List.length (turned p ccw) ∧ eG p = eG (turned p ccw) := fun h => by
        have ht : turned p ccw = p := if_neg fun hh => h (by
          rw [show decide ((areaI p p.length).sign > 0) = decide (0 < areaI p p.length) by rw [decide_eq_decide]; exact Int.sign_pos_iff]
          rcases hh with ⟨h1, h2⟩ | ⟨h1, h2⟩
          · rw [h2, Int.sign_eq_one_of_pos h1]; simp [h1]
          · rw [h2, Int.sign_eq_neg_one_of_neg h1]; simp; omega)
        rw [ht]; exact ⟨rfl, rfl⟩
      refine ⟨fun a => ⟨fun b => ?_, fun b => hkp (fun h => by rw [h.2] at b; simp at b)⟩, fun a => hkp (fun h => by rw [h.1] at a; simp at a)⟩
      have hl0 : p.length ≠ 0 := fun h => by rw [h, areaI] at a; simp at a
      rw [hbr a b]
      clear hbr hkp ha hs hi h1 a b hp hpo hgl
      cases p with
      | nil => exact absurd rfl hl0
      | cons g q =>
        have hq := eG_length q
        rw [rev_cons]
        have hs1 : seg 2 ((List.length (g :: q) - 1) * 2) (eG (g :: q)) = eG q := by
          simp only [List.length_cons, Nat.add_sub_cancel, eG, seg_s]
          exact seg_all hq
        have hrc : rowCells ⟨2, (g :: q).length, eG (g :: q), 0⟩ 1 ((g :: q).length - 1) = eG q := by
          rw [← hs1]; rfl
        rw [hrc]
        refine ⟨by simp only [List.length_cons]; omega, ?_⟩
        refine callMk (Reverse_ok q (by simp only [List.length_cons] at hl; omega)) ?_
        have hq2 := eG_length q.reverse
        simp (maxSteps := 4000000) (dsimp := false) (disch := omega) only [go_sem, ↓reduceIte, Nat.reduceEqDiff, Nat.reduceMul, Nat.reduceAdd, Nat.reduceSub, Nat.reduceLT, Nat.reduceLeDiff, Nat.reduceBEq, reduceCtorEq, Int.reduceToNat, Int.reduceEq, Int.reduceLT, Int.reduceLE, Int.reduceNeg, Int.reduceSub, Int.reduceAdd, Int.reduceMul, eZ_len, eR_len, seg_e, seg_ea, seg_en, seg_r, seg_ra, seg_rn, splice_e, splice_ea, splice_eaa, splice_en, splice_ec, splice_eca, splice_r, splice_ra, splice_raa, splice_rn, splice_rc, splice_rca, splice_nil, List.append_assoc, List.length_append, Try.results12, eG]
        refine ⟨by rw [hq2, List.length_reverse]; rfl, eG_flat _, by simp, ?_⟩
        have : (eG q.reverse).length = (eG q).length := by rw [hq2, hq, List.length_reverse]
        simp [splice, this]
end Go.Proofs.Ytdhgdpcmdmgchaa.Fw

/- The plain laws of paths. Conditions: none. -/
namespace Go.Proofs.Ytdhgdpcmdmgchaa.Fw
open Go
set_option linter.unusedSimpArgs false
set_option linter.unusedVariables false

/-- A sum. -/
def sumI (f : Nat → Int) : Nat → Int
  | 0 => 0
  | n + 1 => sumI f n + f n
theorem sumI_congr {f g : Nat → Int} {n : Nat} (h : ∀ i < n, f i = g i) : sumI f n = sumI g n := by
  induction n with
  | zero => rfl
  | succ n ih => rw [sumI, sumI, ih (fun i hi => h i (by omega)), h n (by omega)]
theorem sumI_head (f : Nat → Int) (n : Nat) : sumI f (n + 1) = f 0 + sumI (fun i => f (i + 1)) n := by
  induction n with
  | zero => simp [sumI]
  | succ n ih => rw [sumI, ih, sumI]; omega
theorem sumI_neg (f : Nat → Int) (n : Nat) : sumI (fun i => -f i) n = -sumI f n := by
  induction n with
  | zero => rfl
  | succ n ih => rw [sumI, sumI, ih]; omega
theorem sumI_refl (f : Nat → Int) (n : Nat) : sumI (fun i => f (n - 1 - i)) n = sumI f n := by
  induction n generalizing f with
  | zero => rfl
  | succ n ih =>
    rw [sumI_head, sumI]
    have : sumI (fun i => f (n + 1 - 1 - (i + 1))) n = sumI f n := by
      rw [← ih f]
      exact sumI_congr fun i hi => by rw [show n + 1 - 1 - (i + 1) = n - 1 - i by omega]
    rw [this]
    simp only [Nat.add_sub_cancel, Nat.sub_zero]
    omega
/-- What the edges add up to. -/
theorem windI_sum (p : Path) (v : Pt) (n : Nat) : windI p v n = sumI (fun i => wAdd (ptOf (gp p i)) (ptOf (gp p (nx p i))) v) n := by
  induction n with
  | zero => rfl
  | succ n ih => rw [windI, sumI, ih]
theorem areaI_sum (p : Path) (n : Nat) : areaI p n = sumI (fun i => (gp p i).1 * (gp p (nx p i)).2 - (gp p i).2 * (gp p (nx p i)).1) n := by
  induction n with
  | zero => rfl
  | succ n ih => rw [areaI, sumI, ih]
theorem rev_len (p : Path) : (rev p).length = p.length := by simp [rev]
theorem gp_revp {p : Path} {i : Nat} (h : i < p.length) : gp (rev p) i = gp p (revI p i) := by simp [gp, rev, h]
/-- The edges of the reversed path. -/
theorem rev_edge {p : Path} {i : Nat} (h : i < p.length) : gp (rev p) i = gp p (nx p (p.length - 1 - i)) ∧ gp (rev p) (nx (rev p) i) = gp p (p.length - 1 - i) := by
  have h1 : nx p (p.length - 1 - i) = revI p i := by
    unfold nx revI
    rw [show p.length - 1 - i + 1 = p.length - i by omega]
  refine ⟨by rw [gp_revp h, h1], ?_⟩
  have hn : nx (rev p) i < p.length := by unfold nx; rw [rev_len]; exact Nat.mod_lt _ (by omega)
  rw [gp_revp hn]
  congr 1
  unfold nx revI
  rw [rev_len]
  by_cases hi : i + 1 = p.length
  · rw [hi, Nat.mod_self, Nat.sub_zero, Nat.mod_self]; omega
  · rw [Nat.mod_eq_of_lt (by omega : i + 1 < p.length), Nat.mod_eq_of_lt (by omega)]; omega
theorem wAdd_swap (a b v : Pt) : wAdd b a v = -wAdd a b v := by
  have hs : (b.way a).cross (b.way v) = -((a.way b).cross (a.way v)) := by
    simp only [Pt.cross, Pt.way]
    grind
  unfold wAdd
  rw [hs]
  generalize (a.way b).cross (a.way v) = s
  by_cases h1 : a.y ≤ v.y <;> by_cases h2 : b.y ≤ v.y <;> simp only [h1, h2, not_true_eq_false, not_false_eq_true, true_and, false_and, if_false]
  · rfl
  · have : -s < 0 ↔ 0 < s := by grind
    simp only [this]
    by_cases h3 : 0 < s <;> simp [h3]
  · have : 0 < -s ↔ s < 0 := by grind
    simp only [this]
    by_cases h3 : s < 0 <;> simp [h3]
  · rfl
theorem windI_rev (p : Path) (v : Pt) : windI (rev p) v p.length = -windI p v p.length := by
  rw [windI_sum, windI_sum, ← sumI_neg, ← sumI_refl (fun i => -wAdd (ptOf (gp p i)) (ptOf (gp p (nx p i))) v)]
  refine sumI_congr fun i hi => ?_
  obtain ⟨e1, e2⟩ := rev_edge hi
  rw [e1, e2, wAdd_swap]
theorem areaI_rev (p : Path) : areaI (rev p) p.length = -areaI p p.length := by
  rw [areaI_sum, areaI_sum, ← sumI_neg, ← sumI_refl (fun i => -((gp p i).1 * (gp p (nx p i)).2 - (gp p i).2 * (gp p (nx p i)).1))]
  refine sumI_congr fun i hi => ?_
  obtain ⟨e1, e2⟩ := rev_edge hi
  rw [e1, e2]
  grind
theorem turned_turned (p : Path) (ccw : Bool) : turned (turned p ccw) ccw = turned p ccw := by
  by_cases h : (0 < areaI p p.length ∧ ccw = false) ∨ (areaI p p.length < 0 ∧ ccw = true)
  · have e : turned p ccw = rev p := if_pos h
    rw [e]
    refine if_neg ?_
    rw [rev_len, areaI_rev]
    rintro (⟨h1, h2⟩ | ⟨h1, h2⟩) <;> rcases h with ⟨h3, h4⟩ | ⟨h3, h4⟩ <;> first | omega | (rw [h2] at h4; simp at h4)
  · have e : turned p ccw = p := if_neg h
    rw [e, e]
theorem sq_zero {x y : Rat} (h : x * x + y * y ≤ 0) : x = 0 ∧ y = 0 := by
  have hx : 0 ≤ x * x := by
    rcases Rat.le_total (a := 0) (b := x) with hx | hx
    · exact Rat.mul_nonneg hx hx
    · have := Rat.mul_nonneg (a := -x) (b := -x) (by grind) (by grind)
      grind
  have hy : 0 ≤ y * y := by
    rcases Rat.le_total (a := 0) (b := y) with hx | hx
    · exact Rat.mul_nonneg hx hx
    · have := Rat.mul_nonneg (a := -y) (b := -y) (by grind) (by grind)
      grind
  have h1 : x * x = 0 := by grind
  have h2 : y * y = 0 := by grind
  exact ⟨by rcases Rat.mul_eq_zero.1 h1 with h | h <;> exact h, by rcases Rat.mul_eq_zero.1 h2 with h | h <;> exact h⟩
theorem toSeg_swap (a b p : Pt) : toSeg b a p = toSeg a b p := by
  have e1 : (b.way a).dot (b.way p) = (a.way b).dot (a.way b) - (a.way b).dot (a.way p) := by
    simp only [Pt.dot, Pt.way]; grind
  have e2 : (b.way a).dot (b.way a) = (a.way b).dot (a.way b) := by
    simp only [Pt.dot, Pt.way]; grind
  have e3 : (b.way a).cross (b.way p) * (b.way a).cross (b.way p) = (a.way b).cross (a.way p) * (a.way b).cross (a.way p) := by
    simp only [Pt.cross, Pt.way]; grind
  simp only [toSeg, e1, e2, e3]
  by_cases h1 : (a.way b).dot (a.way p) ≤ 0
  · by_cases h2 : (a.way b).dot (a.way b) ≤ (a.way b).dot (a.way p)
    · obtain ⟨z1, z2⟩ := sq_zero (x := (a.way b).x) (y := (a.way b).y) (by unfold Pt.dot at h1 h2; grind)
      have hq : a.way p = b.way p := by
        simp only [Pt.way] at z1 z2 ⊢
        have : b.x = a.x := by grind
        have : b.y = a.y := by grind
        simp [*]
      rw [if_pos h1, if_pos (by grind), hq]
    · rw [if_pos h1, if_neg (by grind), if_pos (by grind)]
  · by_cases h2 : (a.way b).dot (a.way b) ≤ (a.way b).dot (a.way p)
    · rw [if_neg h1, if_pos h2, if_pos (by grind)]
    · rw [if_neg h1, if_neg h2, if_neg (by grind), if_neg (by grind)]
theorem segs_swap (a b v : Pt) : segs b a v = segs a b v := by
  simp only [segs, segsI, segsN, toSeg_swap a b v]
  generalize toSeg a b v = t
  generalize toSeg v v a = x
  generalize toSeg v v b = y
  grind
theorem on_rev {p : Path} {v : Pt} {i : Nat} (h : i < p.length) : onP (rev p) v i ↔ onP p v (p.length - 1 - i) := by
  obtain ⟨e1, e2⟩ := rev_edge h
  unfold onP
  rw [e1, e2, segs_swap]
theorem hit_rev {p : Path} {v : Pt} {r : Int} {i : Nat} (h : i < p.length) : hit (rev p) v r i ↔ hit p v r (p.length - 1 - i) := by
  obtain ⟨e1, e2⟩ := rev_edge h
  unfold hit
  rw [e1, e2, segs_swap]
theorem flip_ex {n : Nat} {P Q : Nat → Prop} (h : ∀ i < n, P i ↔ Q (n - 1 - i)) : (∃ i, i < n ∧ P i) ↔ ∃ i, i < n ∧ Q i := by
  refine ⟨fun ⟨i, hi, hp⟩ => ⟨n - 1 - i, by omega, (h i hi).1 hp⟩, fun ⟨i, hi, hq⟩ => ⟨n - 1 - i, by omega, (h _ (by omega)).2 ?_⟩⟩
  rwa [show n - 1 - (n - 1 - i) = i by omega]
theorem hits_rev (p : Path) (v : Pt) (r : Int) : hits (rev p) v r ↔ hits p v r := by
  unfold hits
  rw [rev_len]
  exact flip_ex fun i hi => hit_rev hi
theorem wind_rev (p : Path) (v : Pt) : (wind (rev p) v).2 = (wind p v).2 ∧ (wind (rev p) v).1 = -(wind p v).1 := by
  have he : (∃ i, i < p.length ∧ onP (rev p) v i) ↔ ∃ i, i < p.length ∧ onP p v i := flip_ex fun i hi => on_rev hi
  unfold wind
  rw [rev_len]
  by_cases h : p.length = 0 ∨ ∃ i, i < p.length ∧ onP p v i
  · rw [if_pos h, if_pos (h.imp id he.2)]; exact ⟨rfl, rfl⟩
  · rw [if_neg h, if_neg (fun hh => h (hh.imp id he.1)), windI_rev]; exact ⟨rfl, rfl⟩
theorem wind_turned (p : Path) (v : Pt) (ccw : Bool) : (wind (turned p ccw) v).2 = (wind p v).2 ∧ ((wind p v).1 = (wind (turned p ccw) v).1 ∨ (wind p v).1 = -(wind (turned p ccw) v).1) := by
  unfold turned
  split
  · obtain ⟨h1, h2⟩ := wind_rev p v
    exact ⟨h1, .inr (by rw [h2]; omega)⟩
  · exact ⟨rfl, .inl rfl⟩
theorem covs_turned (p : Path) (v : Pt) (r : Int) (ccw : Bool) : covs [turned p ccw] r v = covs [p] r v := by
  unfold turned
  split
  · simp only [covs, List.any_cons, List.any_nil, Bool.or_false]
    congr 1
    rw [decide_eq_decide]
    exact hits_rev p v r
  · rfl
end Go.Proofs.Ytdhgdpcmdmgchaa.Fw

/- Contracts: the law of Turned. Conditions: none. -/
namespace Go.Proofs.Ytdhgdpcmdmgchaa.Fw
open Go Go.Proofs
set_option linter.unusedSimpArgs false
set_option linter.unusedVariables false
set_option maxHeartbeats 2000000
set_option maxRecDepth 10000

/-- The cells of any fraction. -/
structure QI where
  n : Bool
  l : List Nat
  d : Bool
  m : List Nat
def QI.cells (q : QI) : List L := eI q.n q.l ++ eI q.d q.m
def QI.ok (q : QI) : Prop := (∀ v ∈ q.l, v < 4294967296) ∧ ∀ v ∈ q.m, v < 4294967296
noncomputable def QI.small (q : QI) : Bool := smallQ 2 q.n q.l q.d q.m
theorem qsmall_ok (q : QI) (h : q.ok) : Ok Try.prog 20 [.ag q.cells, .lf (.int .i64 2)] ⟨[.lf (.bool q.small)], []⟩ := FSmall_ok 2 q.n q.l q.d q.m (by omega) h.1 h.2
theorem lsmall_ok (x y : QI) (hx : x.ok) (hy : y.ok) : Ok Try.prog 11 [.ag (x.cells ++ y.cells)] ⟨[.lf (.bool (x.small && y.small))], []⟩ := by
  have c1 := qsmall_ok x hx
  have c2 := qsmall_ok y hy
  unfold QI.cells eI at c1 c2 ⊢
  refine ok_of_V (T := Tb) tb_ok mo Try.func11 rfl (by kernel_rfl) (by kernel_rfl) (by simp [Try.ntmps11, mts]) ?_
  simp (maxSteps := 4000000) (dsimp := false) (disch := omega) only [go_sem, eZ, ↓reduceIte, Nat.reduceEqDiff, Nat.reduceMul, Nat.reduceAdd, Nat.reduceSub, Nat.reduceLT, Nat.reduceLeDiff, Nat.reduceBEq, reduceCtorEq, Int.reduceToNat, Int.reduceEq, Int.reduceLT, Int.reduceLE, Int.reduceNeg, Int.reduceSub, Int.reduceAdd, Int.reduceMul, Try.results11]
  refine callK c1 ?_
  simp (maxSteps := 4000000) (dsimp := false) (disch := omega) only [go_sem, eZ, ↓reduceIte, Nat.reduceEqDiff, Nat.reduceMul, Nat.reduceAdd, Nat.reduceSub, Nat.reduceLT, Nat.reduceLeDiff, Nat.reduceBEq, reduceCtorEq, Int.reduceToNat, Int.reduceEq, Int.reduceLT, Int.reduceLE, Int.reduceNeg, Int.reduceSub, Int.reduceAdd, Int.reduceMul, Try.results11]
  refine ⟨fun h => ?_, fun h => by rw [h]; rfl⟩
  refine callK c2 ?_
  simp (maxSteps := 4000000) (dsimp := false) (disch := omega) only [go_sem, eZ, ↓reduceIte, Nat.reduceEqDiff, Nat.reduceMul, Nat.reduceAdd, Nat.reduceSub, Nat.reduceLT, Nat.reduceLeDiff, Nat.reduceBEq, reduceCtorEq, Int.reduceToNat, Int.reduceEq, Int.reduceLT, Int.reduceLE, Int.reduceNeg, Int.reduceSub, Int.reduceAdd, Int.reduceMul, Try.results11]
  rw [h]; rfl
/-- Small cells are a point's. -/
theorem small_pt {x y : QI} (h : (x.small && y.small) = true) : ∃ v : Pt, x.cells ++ y.cells = eV v ∧ SV 2 v := by
  rw [Bool.and_eq_true] at h
  obtain ⟨a, ha, hsa⟩ := smallQ_iff.1 h.1
  obtain ⟨b, hb, hsb⟩ := smallQ_iff.1 h.2
  refine ⟨⟨a, b⟩, ?_, hsa, hsb⟩
  unfold QI.cells eV
  rw [ha, hb]
theorem few_grid {p : Path} (h : few p 8 = true) : Grid p ∧ p.length ≤ 8 := by
  unfold few at h
  rw [Bool.and_eq_true, decide_eq_true_eq, List.all_eq_true] at h
  exact ⟨fun g hg => by have := h.2 g hg; rw [decide_eq_true_eq] at this; exact this, h.1⟩
theorem turned_len (p : Path) (ccw : Bool) : (turned p ccw).length = p.length := by
  unfold turned; split
  · exact rev_len p
  · rfl
theorem turned_grid {p : Path} (h : Grid p) (ccw : Bool) : Grid (turned p ccw) := by
  unfold turned; split
  · intro g hg
    obtain ⟨i, _, rfl⟩ := List.mem_map.1 hg
    exact gp_grid h _
  · exact h
/-- The way of the law where its input is not as it asks. -/
theorem ContourTurned_out (p : Path) (ccw : Bool) (x y : QI) (cs : Ok Try.prog 11 [.ag (x.cells ++ y.cells)] ⟨[.lf (.bool (x.small && y.small))], []⟩) (cf : Ok Try.prog 10 [.lf (.sl 2 p.length (eG p)), .lf (.int .i64 8)] ⟨[.lf (.bool (few p 8))], []⟩)
    (h : ¬ (few p 8 = true ∧ (x.small && y.small) = true)) : Ok Try.prog 4 [.lf (.sl 2 p.length (eG p)), .lf (.bool ccw), .ag (x.cells ++ y.cells)] ⟨[.lf (.bool true)], []⟩ := by
  unfold QI.cells eI at cs ⊢
  generalize (x.small && y.small) = b at cs h
  generalize few p 8 = c at cf h
  refine ok_of_V (T := Tb) tb_ok mo Try.func4 rfl (by kernel_rfl) (by kernel_rfl) (by simp [Try.ntmps4, mts]) ?_
  simp (maxSteps := 4000000) (dsimp := false) (disch := omega) only [go_sem, eZ, ↓reduceIte, Nat.reduceEqDiff, Nat.reduceMul, Nat.reduceAdd, Nat.reduceSub, Nat.reduceLT, Nat.reduceLeDiff, Nat.reduceBEq, reduceCtorEq, Int.reduceToNat, Int.reduceEq, Int.reduceLT, Int.reduceLE, Int.reduceNeg, Int.reduceSub, Int.reduceAdd, Int.reduceMul, Try.results4]
  refine callK awake_ok ?_
  simp (maxSteps := 4000000) (dsimp := false) (disch := omega) only [go_sem, eZ, ↓reduceIte, Nat.reduceEqDiff, Nat.reduceMul, Nat.reduceAdd, Nat.reduceSub, Nat.reduceLT, Nat.reduceLeDiff, Nat.reduceBEq, reduceCtorEq, Int.reduceToNat, Int.reduceEq, Int.reduceLT, Int.reduceLE, Int.reduceNeg, Int.reduceSub, Int.reduceAdd, Int.reduceMul, Try.results4]
  refine callK cf ?_
  simp (maxSteps := 4000000) (dsimp := false) (disch := omega) only [go_sem, eZ, ↓reduceIte, Nat.reduceEqDiff, Nat.reduceMul, Nat.reduceAdd, Nat.reduceSub, Nat.reduceLT, Nat.reduceLeDiff, Nat.reduceBEq, reduceCtorEq, Int.reduceToNat, Int.reduceEq, Int.reduceLT, Int.reduceLE, Int.reduceNeg, Int.reduceSub, Int.reduceAdd, Int.reduceMul, Try.results4]
  refine ⟨fun h1 => ?_, fun h1 => ?_⟩
  · have hc : c = true := by simpa using h1
    have hb : b = false := by
      cases hb : b with
      | false => rfl
      | true => exact absurd ⟨hc, hb⟩ h
    rw [hb] at cs
    refine callK cs ?_
    simp (maxSteps := 4000000) (dsimp := false) (disch := omega) only [go_sem, eZ, ↓reduceIte, Nat.reduceEqDiff, Nat.reduceMul, Nat.reduceAdd, Nat.reduceSub, Nat.reduceLT, Nat.reduceLeDiff, Nat.reduceBEq, reduceCtorEq, Int.reduceToNat, Int.reduceEq, Int.reduceLT, Int.reduceLE, Int.reduceNeg, Int.reduceSub, Int.reduceAdd, Int.reduceMul, Try.results4]
    refine callK awake_ok ?_
    simp (maxSteps := 4000000) (dsimp := false) (disch := omega) only [go_sem, eZ, ↓reduceIte, Nat.reduceEqDiff, Nat.reduceMul, Nat.reduceAdd, Nat.reduceSub, Nat.reduceLT, Nat.reduceLeDiff, Nat.reduceBEq, reduceCtorEq, Int.reduceToNat, Int.reduceEq, Int.reduceLT, Int.reduceLE, Int.reduceNeg, Int.reduceSub, Int.reduceAdd, Int.reduceMul, Try.results4]
  · refine callK awake_ok ?_
    simp (maxSteps := 4000000) (dsimp := false) (disch := omega) only [go_sem, eZ, ↓reduceIte, Nat.reduceEqDiff, Nat.reduceMul, Nat.reduceAdd, Nat.reduceSub, Nat.reduceLT, Nat.reduceLeDiff, Nat.reduceBEq, reduceCtorEq, Int.reduceToNat, Int.reduceEq, Int.reduceLT, Int.reduceLE, Int.reduceNeg, Int.reduceSub, Int.reduceAdd, Int.reduceMul, Try.results4]
/-- The way of the law where its input is as it asks. -/
theorem ContourTurned_in (p : Path) (ccw : Bool) (v : Pt) (hp : Grid p) (hl : p.length ≤ 8) (hv : SV 2 v) (cs : Ok Try.prog 11 [.ag (eV v)] ⟨[.lf (.bool true)], []⟩) (cf : Ok Try.prog 10 [.lf (.sl 2 p.length (eG p)), .lf (.int .i64 8)] ⟨[.lf (.bool true)], []⟩) :
    Ok Try.prog 4 [.lf (.sl 2 p.length (eG p)), .lf (.bool ccw), .ag (eV v)] ⟨[.lf (.bool true)], []⟩ := by
  have hpo := grid_ok hp
  have htl := turned_len p ccw
  have htg := turned_grid hp ccw
  have hto := grid_ok htg
  have htt := turned_turned p ccw
  have hv3 : SV 3 v := hv.mono (by omega)
  refine ok_of_V (T := Tb) tb_ok mo Try.func4 rfl (by kernel_rfl) (by kernel_rfl) (by simp [Try.ntmps4, mts]) ?_
  simp (maxSteps := 4000000) (dsimp := false) (disch := omega) only [go_sem, ↓reduceIte, Nat.reduceEqDiff, Nat.reduceMul, Nat.reduceAdd, Nat.reduceSub, Nat.reduceLT, Nat.reduceLeDiff, Nat.reduceBEq, reduceCtorEq, Int.reduceToNat, Int.reduceEq, Int.reduceLT, Int.reduceLE, Int.reduceNeg, Int.reduceSub, Int.reduceAdd, Int.reduceMul, eZ_len, eR_len, seg_e, seg_ea, seg_en, seg_r, seg_ra, seg_rn, splice_e, splice_ea, splice_eaa, splice_en, splice_ec, splice_eca, splice_r, splice_ra, splice_raa, splice_rn, splice_rc, splice_rca, splice_nil, List.append_assoc, List.length_append, Try.results4, eV_len, seg_v, seg_va, seg_vn, splice_v, splice_va, splice_vc]
  refine callK awake_ok ?_
  simp (maxSteps := 4000000) (dsimp := false) (disch := omega) only [go_sem, ↓reduceIte, Nat.reduceEqDiff, Nat.reduceMul, Nat.reduceAdd, Nat.reduceSub, Nat.reduceLT, Nat.reduceLeDiff, Nat.reduceBEq, reduceCtorEq, Int.reduceToNat, Int.reduceEq, Int.reduceLT, Int.reduceLE, Int.reduceNeg, Int.reduceSub, Int.reduceAdd, Int.reduceMul, eZ_len, eR_len, seg_e, seg_ea, seg_en, seg_r, seg_ra, seg_rn, splice_e, splice_ea, splice_eaa, splice_en, splice_ec, splice_eca, splice_r, splice_ra, splice_raa, splice_rn, splice_rc, splice_rca, splice_nil, List.append_assoc, List.length_append, Try.results4, eV_len, seg_v, seg_va, seg_vn, splice_v, splice_va, splice_vc]
  refine callK cf ?_
  simp (maxSteps := 4000000) (dsimp := false) (disch := omega) only [go_sem, ↓reduceIte, Nat.reduceEqDiff, Nat.reduceMul, Nat.reduceAdd, Nat.reduceSub, Nat.reduceLT, Nat.reduceLeDiff, Nat.reduceBEq, reduceCtorEq, Int.reduceToNat, Int.reduceEq, Int.reduceLT, Int.reduceLE, Int.reduceNeg, Int.reduceSub, Int.reduceAdd, Int.reduceMul, eZ_len, eR_len, seg_e, seg_ea, seg_en, seg_r, seg_ra, seg_rn, splice_e, splice_ea, splice_eaa, splice_en, splice_ec, splice_eca, splice_r, splice_ra, splice_raa, splice_rn, splice_rc, splice_rca, splice_nil, List.append_assoc, List.length_append, Try.results4, eV_len, seg_v, seg_va, seg_vn, splice_v, splice_va, splice_vc]
  refine callK cs ?_
  simp (maxSteps := 4000000) (dsimp := false) (disch := omega) only [go_sem, ↓reduceIte, Nat.reduceEqDiff, Nat.reduceMul, Nat.reduceAdd, Nat.reduceSub, Nat.reduceLT, Nat.reduceLeDiff, Nat.reduceBEq, reduceCtorEq, Int.reduceToNat, Int.reduceEq, Int.reduceLT, Int.reduceLE, Int.reduceNeg, Int.reduceSub, Int.reduceAdd, Int.reduceMul, eZ_len, eR_len, seg_e, seg_ea, seg_en, seg_r, seg_ra, seg_rn, splice_e, splice_ea, splice_eaa, splice_en, splice_ec, splice_eca, splice_r, splice_ra, splice_raa, splice_rn, splice_rc, splice_rca, splice_nil, List.append_assoc, List.length_append, Try.results4, eV_len, seg_v, seg_va, seg_vn, splice_v, splice_va, splice_vc]
  refine callK (Clone_ok p (by omega)) ?_
  simp (maxSteps := 4000000) (dsimp := false) (disch := omega) only [go_sem, ↓reduceIte, Nat.reduceEqDiff, Nat.reduceMul, Nat.reduceAdd, Nat.reduceSub, Nat.reduceLT, Nat.reduceLeDiff, Nat.reduceBEq, reduceCtorEq, Int.reduceToNat, Int.reduceEq, Int.reduceLT, Int.reduceLE, Int.reduceNeg, Int.reduceSub, Int.reduceAdd, Int.reduceMul, eZ_len, eR_len, seg_e, seg_ea, seg_en, seg_r, seg_ra, seg_rn, splice_e, splice_ea, splice_eaa, splice_en, splice_ec, splice_eca, splice_r, splice_ra, splice_raa, splice_rn, splice_rc, splice_rca, splice_nil, List.append_assoc, List.length_append, Try.results4, eV_len, seg_v, seg_va, seg_vn, splice_v, splice_va, splice_vc]
  refine callK (Turned_ok p ccw hp hl) ?_
  simp (maxSteps := 4000000) (dsimp := false) (disch := omega) only [go_sem, ↓reduceIte, Nat.reduceEqDiff, Nat.reduceMul, Nat.reduceAdd, Nat.reduceSub, Nat.reduceLT, Nat.reduceLeDiff, Nat.reduceBEq, reduceCtorEq, Int.reduceToNat, Int.reduceEq, Int.reduceLT, Int.reduceLE, Int.reduceNeg, Int.reduceSub, Int.reduceAdd, Int.reduceMul, eZ_len, eR_len, seg_e, seg_ea, seg_en, seg_r, seg_ra, seg_rn, splice_e, splice_ea, splice_eaa, splice_en, splice_ec, splice_eca, splice_r, splice_ra, splice_raa, splice_rn, splice_rc, splice_rca, splice_nil, List.append_assoc, List.length_append, Try.results4, eV_len, seg_v, seg_va, seg_vn, splice_v, splice_va, splice_vc]
  refine callK (fTurned_ok p ccw hp hl) ?_
  simp (maxSteps := 4000000) (dsimp := false) (disch := omega) only [go_sem, ↓reduceIte, Nat.reduceEqDiff, Nat.reduceMul, Nat.reduceAdd, Nat.reduceSub, Nat.reduceLT, Nat.reduceLeDiff, Nat.reduceBEq, reduceCtorEq, Int.reduceToNat, Int.reduceEq, Int.reduceLT, Int.reduceLE, Int.reduceNeg, Int.reduceSub, Int.reduceAdd, Int.reduceMul, eZ_len, eR_len, seg_e, seg_ea, seg_en, seg_r, seg_ra, seg_rn, splice_e, splice_ea, splice_eaa, splice_en, splice_ec, splice_eca, splice_r, splice_ra, splice_raa, splice_rn, splice_rc, splice_rca, splice_nil, List.append_assoc, List.length_append, Try.results4, eV_len, seg_v, seg_va, seg_vn, splice_v, splice_va, splice_vc]
  have same := Same_ok (turned p ccw) (turned p ccw) (by omega) (by omega)
  rw [decide_eq_true rfl] at same
  refine callK same ?_
  simp (maxSteps := 4000000) (dsimp := false) (disch := omega) only [go_sem, ↓reduceIte, Nat.reduceEqDiff, Nat.reduceMul, Nat.reduceAdd, Nat.reduceSub, Nat.reduceLT, Nat.reduceLeDiff, Nat.reduceBEq, reduceCtorEq, Int.reduceToNat, Int.reduceEq, Int.reduceLT, Int.reduceLE, Int.reduceNeg, Int.reduceSub, Int.reduceAdd, Int.reduceMul, eZ_len, eR_len, seg_e, seg_ea, seg_en, seg_r, seg_ra, seg_rn, splice_e, splice_ea, splice_eaa, splice_en, splice_ec, splice_eca, splice_r, splice_ra, splice_raa, splice_rn, splice_rc, splice_rca, splice_nil, List.append_assoc, List.length_append, Try.results4, eV_len, seg_v, seg_va, seg_vn, splice_v, splice_va, splice_vc]
  refine callK (Clone_ok (turned p ccw) (by omega)) ?_
  simp (maxSteps := 4000000) (dsimp := false) (disch := omega) only [go_sem, ↓reduceIte, Nat.reduceEqDiff, Nat.reduceMul, Nat.reduceAdd, Nat.reduceSub, Nat.reduceLT, Nat.reduceLeDiff, Nat.reduceBEq, reduceCtorEq, Int.reduceToNat, Int.reduceEq, Int.reduceLT, Int.reduceLE, Int.reduceNeg, Int.reduceSub, Int.reduceAdd, Int.reduceMul, eZ_len, eR_len, seg_e, seg_ea, seg_en, seg_r, seg_ra, seg_rn, splice_e, splice_ea, splice_eaa, splice_en, splice_ec, splice_eca, splice_r, splice_ra, splice_raa, splice_rn, splice_rc, splice_rca, splice_nil, List.append_assoc, List.length_append, Try.results4, eV_len, seg_v, seg_va, seg_vn, splice_v, splice_va, splice_vc]
  refine callK (Turned_ok (turned p ccw) ccw htg (by omega)) ?_
  rw [htt]
  simp (maxSteps := 4000000) (dsimp := false) (disch := omega) only [go_sem, ↓reduceIte, Nat.reduceEqDiff, Nat.reduceMul, Nat.reduceAdd, Nat.reduceSub, Nat.reduceLT, Nat.reduceLeDiff, Nat.reduceBEq, reduceCtorEq, Int.reduceToNat, Int.reduceEq, Int.reduceLT, Int.reduceLE, Int.reduceNeg, Int.reduceSub, Int.reduceAdd, Int.reduceMul, eZ_len, eR_len, seg_e, seg_ea, seg_en, seg_r, seg_ra, seg_rn, splice_e, splice_ea, splice_eaa, splice_en, splice_ec, splice_eca, splice_r, splice_ra, splice_raa, splice_rn, splice_rc, splice_rca, splice_nil, List.append_assoc, List.length_append, Try.results4, eV_len, seg_v, seg_va, seg_vn, splice_v, splice_va, splice_vc]
  refine callK same ?_
  simp (maxSteps := 4000000) (dsimp := false) (disch := omega) only [go_sem, ↓reduceIte, Nat.reduceEqDiff, Nat.reduceMul, Nat.reduceAdd, Nat.reduceSub, Nat.reduceLT, Nat.reduceLeDiff, Nat.reduceBEq, reduceCtorEq, Int.reduceToNat, Int.reduceEq, Int.reduceLT, Int.reduceLE, Int.reduceNeg, Int.reduceSub, Int.reduceAdd, Int.reduceMul, eZ_len, eR_len, seg_e, seg_ea, seg_en, seg_r, seg_ra, seg_rn, splice_e, splice_ea, splice_eaa, splice_en, splice_ec, splice_eca, splice_r, splice_ra, splice_raa, splice_rn, splice_rc, splice_rca, splice_nil, List.append_assoc, List.length_append, Try.results4, eV_len, seg_v, seg_va, seg_vn, splice_v, splice_va, splice_vc]
  refine callK (Winding_ok p v hpo (by omega) hv3) ?_
  simp (maxSteps := 4000000) (dsimp := false) (disch := omega) only [go_sem, ↓reduceIte, Nat.reduceEqDiff, Nat.reduceMul, Nat.reduceAdd, Nat.reduceSub, Nat.reduceLT, Nat.reduceLeDiff, Nat.reduceBEq, reduceCtorEq, Int.reduceToNat, Int.reduceEq, Int.reduceLT, Int.reduceLE, Int.reduceNeg, Int.reduceSub, Int.reduceAdd, Int.reduceMul, eZ_len, eR_len, seg_e, seg_ea, seg_en, seg_r, seg_ra, seg_rn, splice_e, splice_ea, splice_eaa, splice_en, splice_ec, splice_eca, splice_r, splice_ra, splice_raa, splice_rn, splice_rc, splice_rca, splice_nil, List.append_assoc, List.length_append, Try.results4, eV_len, seg_v, seg_va, seg_vn, splice_v, splice_va, splice_vc]
  refine callK (Winding_ok (turned p ccw) v hto (by omega) hv3) ?_
  obtain ⟨we, wn⟩ := wind_turned p v ccw
  have wb : -8 ≤ (wind (turned p ccw) v).1 ∧ (wind (turned p ccw) v).1 ≤ 8 := by
    have := windI_le (turned p ccw) v (turned p ccw).length
    unfold wind
    split
    · simp
    · constructor <;> simp only <;> omega
  rw [we]
  generalize (wind (turned p ccw) v).1 = m at *
  generalize (wind p v).1 = n at *
  generalize (wind p v).2 = e at *
  simp (maxSteps := 4000000) (dsimp := false) (disch := omega) only [go_sem, ↓reduceIte, Nat.reduceEqDiff, Nat.reduceMul, Nat.reduceAdd, Nat.reduceSub, Nat.reduceLT, Nat.reduceLeDiff, Nat.reduceBEq, reduceCtorEq, Int.reduceToNat, Int.reduceEq, Int.reduceLT, Int.reduceLE, Int.reduceNeg, Int.reduceSub, Int.reduceAdd, Int.reduceMul, eZ_len, eR_len, seg_e, seg_ea, seg_en, seg_r, seg_ra, seg_rn, splice_e, splice_ea, splice_eaa, splice_en, splice_ec, splice_eca, splice_r, splice_ra, splice_raa, splice_rn, splice_rc, splice_rca, splice_nil, List.append_assoc, List.length_append, Try.results4, eV_len, seg_v, seg_va, seg_vn, splice_v, splice_va, splice_vc]
  have cov1 := Covered_ok [turned p ccw] 3 v (fun q hq => by rw [List.mem_singleton.1 hq]; exact ⟨hto, by omega⟩) (by simp) (by unfold inR; decide) hv3
  have cov2 := Covered_ok [p] 3 v (fun q hq => by rw [List.mem_singleton.1 hq]; exact ⟨hpo, by omega⟩) (by simp) (by unfold inR; decide) hv3
  rw [covs_turned] at cov1
  refine ⟨fun h => ⟨fun h2 => ?_, fun h2 => by omega⟩, fun h => ?_⟩
  · refine callK cov1 ?_
    simp (maxSteps := 4000000) (dsimp := false) (disch := omega) only [go_sem, ↓reduceIte, Nat.reduceEqDiff, Nat.reduceMul, Nat.reduceAdd, Nat.reduceSub, Nat.reduceLT, Nat.reduceLeDiff, Nat.reduceBEq, reduceCtorEq, Int.reduceToNat, Int.reduceEq, Int.reduceLT, Int.reduceLE, Int.reduceNeg, Int.reduceSub, Int.reduceAdd, Int.reduceMul, eZ_len, eR_len, seg_e, seg_ea, seg_en, seg_r, seg_ra, seg_rn, splice_e, splice_ea, splice_eaa, splice_en, splice_ec, splice_eca, splice_r, splice_ra, splice_raa, splice_rn, splice_rc, splice_rca, splice_nil, List.append_assoc, List.length_append, Try.results4, eV_len, seg_v, seg_va, seg_vn, splice_v, splice_va, splice_vc]
    refine callK cov2 ?_
    simp (maxSteps := 4000000) (dsimp := false) (disch := omega) only [go_sem, ↓reduceIte, Nat.reduceEqDiff, Nat.reduceMul, Nat.reduceAdd, Nat.reduceSub, Nat.reduceLT, Nat.reduceLeDiff, Nat.reduceBEq, reduceCtorEq, Int.reduceToNat, Int.reduceEq, Int.reduceLT, Int.reduceLE, Int.reduceNeg, Int.reduceSub, Int.reduceAdd, Int.reduceMul, eZ_len, eR_len, seg_e, seg_ea, seg_en, seg_r, seg_ra, seg_rn, splice_e, splice_ea, splice_eaa, splice_en, splice_ec, splice_eca, splice_r, splice_ra, splice_raa, splice_rn, splice_rc, splice_rca, splice_nil, List.append_assoc, List.length_append, Try.results4, eV_len, seg_v, seg_va, seg_vn, splice_v, splice_va, splice_vc]
  · refine callK cov1 ?_
    simp (maxSteps := 4000000) (dsimp := false) (disch := omega) only [go_sem, ↓reduceIte, Nat.reduceEqDiff, Nat.reduceMul, Nat.reduceAdd, Nat.reduceSub, Nat.reduceLT, Nat.reduceLeDiff, Nat.reduceBEq, reduceCtorEq, Int.reduceToNat, Int.reduceEq, Int.reduceLT, Int.reduceLE, Int.reduceNeg, Int.reduceSub, Int.reduceAdd, Int.reduceMul, eZ_len, eR_len, seg_e, seg_ea, seg_en, seg_r, seg_ra, seg_rn, splice_e, splice_ea, splice_eaa, splice_en, splice_ec, splice_eca, splice_r, splice_ra, splice_raa, splice_rn, splice_rc, splice_rca, splice_nil, List.append_assoc, List.length_append, Try.results4, eV_len, seg_v, seg_va, seg_vn, splice_v, splice_va, splice_vc]
    refine callK cov2 ?_
    simp (maxSteps := 4000000) (dsimp := false) (disch := omega) only [go_sem, ↓reduceIte, Nat.reduceEqDiff, Nat.reduceMul, Nat.reduceAdd, Nat.reduceSub, Nat.reduceLT, Nat.reduceLeDiff, Nat.reduceBEq, reduceCtorEq, Int.reduceToNat, Int.reduceEq, Int.reduceLT, Int.reduceLE, Int.reduceNeg, Int.reduceSub, Int.reduceAdd, Int.reduceMul, eZ_len, eR_len, seg_e, seg_ea, seg_en, seg_r, seg_ra, seg_rn, splice_e, splice_ea, splice_eaa, splice_en, splice_ec, splice_eca, splice_r, splice_ra, splice_raa, splice_rn, splice_rc, splice_rca, splice_nil, List.append_assoc, List.length_append, Try.results4, eV_len, seg_v, seg_va, seg_vn, splice_v, splice_va, splice_vc]
/-- The law of Turned. -/
theorem ContourTurned_ok (p : Path) (ccw : Bool) (x y : QI) (hp : PathOk p) (hx : x.ok) (hy : y.ok) : Ok Try.prog 4 [.lf (.sl 2 p.length (eG p)), .lf (.bool ccw), .ag (x.cells ++ y.cells)] ⟨[.lf (.bool true)], []⟩ := by
  have cs := lsmall_ok x y hx hy
  have cf := Few_ok p 8 (by omega)
  by_cases hin : few p 8 = true ∧ (x.small && y.small) = true
  · obtain ⟨h1, h2⟩ := hin
    obtain ⟨hg, hl8⟩ := few_grid h1
    obtain ⟨v, hv, hsv⟩ := small_pt h2
    rw [h2, hv] at cs
    rw [h1] at cf
    rw [hv]
    exact ContourTurned_in p ccw v hg hl8 hsv cs cf
  · exact ContourTurned_out p ccw x y cs cf hin
end Go.Proofs.Ytdhgdpcmdmgchaa.Fw
