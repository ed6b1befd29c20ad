/- Contracts: moves along a path. Conditions: none. -/
import Derived.Test.YtdhgdpcmdmgchaaFwDc
namespace Go.Proofs.Ytdhgdpcmdmgchaa.Fw
open Go Go.Proofs
set_option linter.unusedSimpArgs false
set_option linter.unusedVariables false
set_option maxHeartbeats 2000000
set_option maxRecDepth 10000

/-- The cells of the moves along a path. -/
def eMove (g : Int × Int) (z rate : Int) : List L := [.int .i64 2, .int .i64 g.1, .int .i64 g.2, .int .i64 z, .int .i64 0, .int .i64 0, .int .i64 rate]
def eCl (p : Path) (z rate : Int) : Nat → List L
  | 0 => []
  | i + 1 => eCl p z rate i ++ eMove (gp p (nx p i)) z rate
theorem eCl_len (p : Path) (z rate : Int) (i : Nat) : (eCl p z rate i).length = i * 7 := by
  induction i with
  | zero => rfl
  | succ i ih => rw [eCl, List.length_append, ih]; simp [eMove]; omega
theorem Closed_ok (p : Path) (z rate : Int) (hp : PathOk p) (hl : p.length < 2 ^ 36) : Ok Try.prog 7 [.lf (.sl 2 p.length (eG p)), .lf (.int .i64 z), .lf (.int .i64 rate)] ⟨[.own 7 p.length (eCl p z rate p.length)], []⟩ := by
  refine ok_of_V (T := Tb) tb_ok mo Try.func7 rfl (by kernel_rfl) (by kernel_rfl) (by simp [Try.ntmps7, mts]) ?_
  simp (maxSteps := 4000000) (dsimp := false) (disch := omega) only [go_sem, ↓reduceIte, Nat.reduceEqDiff, Nat.reduceMul, Nat.reduceAdd, Nat.reduceSub, Nat.reduceLT, Nat.reduceLeDiff, Nat.reduceBEq, reduceCtorEq, Int.reduceToNat, Int.reduceEq, Int.reduceLT, Int.reduceLE, Int.reduceNeg, Int.reduceSub, Int.reduceAdd, Int.reduceMul, eZ_len, eR_len, seg_e, seg_ea, seg_en, seg_r, seg_ra, seg_rn, splice_e, splice_ea, splice_eaa, splice_en, splice_ec, splice_eca, splice_r, splice_ra, splice_raa, splice_rn, splice_rc, splice_rca, splice_nil, List.append_assoc, List.length_append, Try.results7, eV_len, seg_v, seg_va, seg_vn, splice_v, splice_va, splice_vc]
  refine vloop (α := Nat) (fun i => ⟨[(0, .lf (.sl 2 p.length (eG p))), (1, .lf (.int .i64 z)), (2, .lf (.int .i64 rate)), (7, .row 1056 7 0 i), (10, .lf (.sl 2 p.length (eG p))), (11, .lf (.int .i64 p.length)), (12, .lf (.int .i64 i))],
      [(1056, ⟨7, i, eCl p z rate i, 0⟩)]⟩) (fun i => i ≤ p.length) (fun i => p.length - i) 0 ?_ (Nat.zero_le _) ?_
  · (refine weak' [] ?_; simp (maxSteps := 4000000) (dsimp := false) (disch := omega) only [slotsW, blksW, parW, List.map_cons, List.map_nil, renF, renA, idsIn, go_sem, ↓reduceIte, Nat.reduceEqDiff, Nat.reduceMul, Nat.reduceAdd, Nat.reduceSub, Nat.reduceLT, Nat.reduceLeDiff, Nat.reduceBEq, reduceCtorEq, Int.reduceToNat, Int.reduceEq, Int.reduceLT, Int.reduceLE, Int.reduceNeg, Int.reduceSub, Int.reduceAdd, Int.reduceMul, eZ_len, eR_len, seg_e, seg_ea, seg_en, seg_r, seg_ra, seg_rn, splice_e, splice_ea, splice_eaa, splice_en, splice_ec, splice_eca, splice_r, splice_ra, splice_raa, splice_rn, splice_rc, splice_rca, splice_nil, List.append_assoc, List.length_append])
    rfl
  · intro i h1
    by_cases hi : i < p.length
    · have hn := nx_lt (p := p) (i := i) (by omega)
      simp (maxSteps := 4000000) (dsimp := false) (disch := omega) only [go_sem, ↓reduceIte, Nat.reduceEqDiff, Nat.reduceMul, Nat.reduceAdd, Nat.reduceSub, Nat.reduceLT, Nat.reduceLeDiff, Nat.reduceBEq, reduceCtorEq, Int.reduceToNat, Int.reduceEq, Int.reduceLT, Int.reduceLE, Int.reduceNeg, Int.reduceSub, Int.reduceAdd, Int.reduceMul, eZ_len, eR_len, seg_e, seg_ea, seg_en, seg_r, seg_ra, seg_rn, splice_e, splice_ea, splice_eaa, splice_en, splice_ec, splice_eca, splice_r, splice_ra, splice_raa, splice_rn, splice_rc, splice_rca, splice_nil, List.append_assoc, List.length_append, Try.results7, eV_len, seg_v, seg_va, seg_vn, splice_v, splice_va, splice_vc, seg_g, tmod_nx]
      refine ⟨fun _ => ⟨by omega, by omega, by omega, by simp only [maxApp]; omega, i + 1, ?_, by omega, by omega⟩, fun h => by omega⟩
      rw [eCl, eMove]
      (refine weak' [(1056, 1264)] ?_; simp (maxSteps := 4000000) (dsimp := false) (disch := omega) only [slotsW, blksW, parW, List.map_cons, List.map_nil, renF, renA, idsIn, go_sem, ↓reduceIte, Nat.reduceEqDiff, Nat.reduceMul, Nat.reduceAdd, Nat.reduceSub, Nat.reduceLT, Nat.reduceLeDiff, Nat.reduceBEq, reduceCtorEq, Int.reduceToNat, Int.reduceEq, Int.reduceLT, Int.reduceLE, Int.reduceNeg, Int.reduceSub, Int.reduceAdd, Int.reduceMul, eZ_len, eR_len, seg_e, seg_ea, seg_en, seg_r, seg_ra, seg_rn, splice_e, splice_ea, splice_eaa, splice_en, splice_ec, splice_eca, splice_r, splice_ra, splice_raa, splice_rn, splice_rc, splice_rca, splice_nil, List.append_assoc, List.length_append])
    · obtain rfl : i = p.length := by omega
      simp (maxSteps := 4000000) (dsimp := false) (disch := omega) only [go_sem, ↓reduceIte, Nat.reduceEqDiff, Nat.reduceMul, Nat.reduceAdd, Nat.reduceSub, Nat.reduceLT, Nat.reduceLeDiff, Nat.reduceBEq, reduceCtorEq, Int.reduceToNat, Int.reduceEq, Int.reduceLT, Int.reduceLE, Int.reduceNeg, Int.reduceSub, Int.reduceAdd, Int.reduceMul, eZ_len, eR_len, seg_e, seg_ea, seg_en, seg_r, seg_ra, seg_rn, splice_e, splice_ea, splice_eaa, splice_en, splice_ec, splice_eca, splice_r, splice_ra, splice_raa, splice_rn, splice_rc, splice_rca, splice_nil, List.append_assoc, List.length_append, Try.results7, eV_len, seg_v, seg_va, seg_vn, splice_v, splice_va, splice_vc, seg_g, tmod_nx]
      intro h
      omega
/-- A move. -/
structure Mv7 where
  k : Int
  x : Int
  y : Int
  z : Int
  cx : Int
  cy : Int
  r : Int
deriving DecidableEq
def Mv7.cells (m : Mv7) : List L := [.int .i64 m.k, .int .i64 m.x, .int .i64 m.y, .int .i64 m.z, .int .i64 m.cx, .int .i64 m.cy, .int .i64 m.r]
def eM : List Mv7 → List L
  | [] => []
  | m :: l => m.cells ++ eM l
def gm (l : List Mv7) (i : Nat) : Mv7 := l.getD i ⟨0, 0, 0, 0, 0, 0, 0⟩
theorem eM_length (l : List Mv7) : (eM l).length = l.length * 7 := by
  induction l with
  | nil => rfl
  | cons g p ih => simp only [eM, List.length_append, List.length_cons, ih, Mv7.cells, List.length_nil]; omega
theorem seg_m {p : List Mv7} {i : Nat} (hi : i < p.length) : seg (i * 7) 7 (eM p) = (gm p i).cells := by
  induction p generalizing i with
  | nil => simp at hi
  | cons g p ih =>
    cases i with
    | zero => simp [seg, eM, gm, Mv7.cells]
    | succ i =>
      have := ih (i := i) (by simpa using hi)
      have h2 : (i + 1) * 7 = i * 7 + 1 + 1 + 1 + 1 + 1 + 1 + 1 := by omega
      rw [h2]
      simp only [eM, Mv7.cells, List.cons_append, List.nil_append, seg_s, this]
      simp [gm]
theorem eM_append (l m : List Mv7) : eM (l ++ m) = eM l ++ eM m := by
  induction l with
  | nil => rfl
  | cons a l ih => simp only [List.cons_append, eM, ih, List.append_assoc]
def clM (p : Path) (z rate : Int) : List Mv7 := (List.range p.length).map fun i => ⟨2, (gp p (nx p i)).1, (gp p (nx p i)).2, z, 0, 0, rate⟩
theorem eCl_eM (p : Path) (z rate : Int) : eCl p z rate p.length = eM (clM p z rate) := by
  have : ∀ i, eCl p z rate i = eM ((List.range i).map fun i => ⟨2, (gp p (nx p i)).1, (gp p (nx p i)).2, z, 0, 0, rate⟩) := by
    intro i
    induction i with
    | zero => rfl
    | succ i ih =>
      rw [List.range_succ, List.map_append, eM_append, eCl, ih]
      simp [eM, Mv7.cells, eMove]
  exact this _
theorem eqv_move (x y : Mv7) : Tb.eqv 5 31 x.cells y.cells = some (decide (x = y)) := by
  simp [Tab.eqv, Tab.eqF, T_td, Mv7.cells, seg]
  obtain ⟨a, b, c, d, e, f, g⟩ := x
  obtain ⟨a', b', c', d', e', f', g'⟩ := y
  rw [Bool.eq_iff_iff]
  simp [and_assoc]
theorem Equal_ok (a b : List Mv7) (hn : a.length < 2 ^ 40) (hm : b.length < 2 ^ 40) :
    Ok Try.prog 6 [.lf (.sl 7 a.length (eM a)), .lf (.sl 7 b.length (eM b))] ⟨[.lf (.bool (decide (a = b)))], []⟩ := by
  refine ok_of_V (T := Tb) tb_ok mo Try.func6 rfl (by kernel_rfl) (by kernel_rfl) (by simp [Try.ntmps6, mts]) ?_
  simp (maxSteps := 4000000) (dsimp := false) (disch := omega) only [go_sem, ↓reduceIte, Nat.reduceEqDiff, Nat.reduceMul, Nat.reduceAdd, Nat.reduceSub, Nat.reduceLT, Nat.reduceLeDiff, Nat.reduceBEq, reduceCtorEq, Int.reduceToNat, Int.reduceEq, Int.reduceLT, Int.reduceLE, Int.reduceNeg, Int.reduceSub, Int.reduceAdd, Int.reduceMul, eZ_len, eR_len, seg_e, seg_ea, seg_en, seg_r, seg_ra, seg_rn, splice_e, splice_ea, splice_eaa, splice_en, splice_ec, splice_eca, splice_r, splice_ra, splice_raa, splice_rn, splice_rc, splice_rca, splice_nil, List.append_assoc, List.length_append, Try.results6]
  refine ⟨fun h => ?_, fun h => ?_⟩
  · have : ¬ a = b := by intro h1; subst h1; simp at h
    simp [this]
  · have hnm : b.length = a.length := by
      have : (a.length : Int) = b.length := by simpa using h
      omega
    refine vloop (α := Nat) (fun i => ⟨[(0, .lf (.sl 7 a.length (eM a))), (1, .lf (.sl 7 b.length (eM b))), (12, .lf (.int .i64 a.length)), (13, .lf (.int .i64 i))], []⟩) (fun i => i ≤ a.length ∧ ∀ j < i, gm a j = gm b j) (fun i => a.length - i) 0 ?_ ⟨Nat.zero_le _, by simp⟩ ?_
    · (refine weak' [] ?_; simp (maxSteps := 4000000) (dsimp := false) (disch := omega) only [slotsW, blksW, parW, List.map_cons, List.map_nil, renF, renA, idsIn, go_sem, ↓reduceIte, Nat.reduceEqDiff, Nat.reduceMul, Nat.reduceAdd, Nat.reduceSub, Nat.reduceLT, Nat.reduceLeDiff, Nat.reduceBEq, reduceCtorEq, Int.reduceToNat, Int.reduceEq, Int.reduceLT, Int.reduceLE, Int.reduceNeg, Int.reduceSub, Int.reduceAdd, Int.reduceMul, eZ_len, eR_len, seg_e, seg_ea, seg_en, seg_r, seg_ra, seg_rn, splice_e, splice_ea, splice_eaa, splice_en, splice_ec, splice_eca, splice_r, splice_ra, splice_raa, splice_rn, splice_rc, splice_rca, splice_nil, List.append_assoc, List.length_append])
    · intro i ⟨h1, h2⟩
      by_cases hi : i < a.length
      · have hi' : i < b.length := by omega
        simp (maxSteps := 4000000) (dsimp := false) (disch := omega) only [go_sem, ↓reduceIte, Nat.reduceEqDiff, Nat.reduceMul, Nat.reduceAdd, Nat.reduceSub, Nat.reduceLT, Nat.reduceLeDiff, Nat.reduceBEq, reduceCtorEq, Int.reduceToNat, Int.reduceEq, Int.reduceLT, Int.reduceLE, Int.reduceNeg, Int.reduceSub, Int.reduceAdd, Int.reduceMul, eZ_len, eR_len, seg_e, seg_ea, seg_en, seg_r, seg_ra, seg_rn, splice_e, splice_ea, splice_eaa, splice_en, splice_ec, splice_eca, splice_r, splice_ra, splice_raa, splice_rn, splice_rc, splice_rca, splice_nil, List.append_assoc, List.length_append, Try.results6, seg_m, eqv_move]
        refine ⟨fun _ => ⟨by omega, by omega, by omega, by omega, fun h => ?_, fun h => ⟨i + 1, ?_, ⟨by omega, ?_⟩, by omega⟩⟩, fun h => by omega⟩
        · have : ¬ a = b := by rintro rfl; simp at h
          simp [this]
        · (refine weak' [] ?_; simp (maxSteps := 4000000) (dsimp := false) (disch := omega) only [slotsW, blksW, parW, List.map_cons, List.map_nil, renF, renA, idsIn, go_sem, ↓reduceIte, Nat.reduceEqDiff, Nat.reduceMul, Nat.reduceAdd, Nat.reduceSub, Nat.reduceLT, Nat.reduceLeDiff, Nat.reduceBEq, reduceCtorEq, Int.reduceToNat, Int.reduceEq, Int.reduceLT, Int.reduceLE, Int.reduceNeg, Int.reduceSub, Int.reduceAdd, Int.reduceMul, eZ_len, eR_len, seg_e, seg_ea, seg_en, seg_r, seg_ra, seg_rn, splice_e, splice_ea, splice_eaa, splice_en, splice_ec, splice_eca, splice_r, splice_ra, splice_raa, splice_rn, splice_rc, splice_rca, splice_nil, List.append_assoc, List.length_append])
        · intro j hj
          rcases Nat.lt_succ_iff_lt_or_eq.1 hj with hj | rfl
          · exact h2 j hj
          · simpa using h
      · obtain rfl : i = a.length := by omega
        have hab : a = b := by
          refine List.ext_getElem hnm.symm fun j h3 h4 => ?_
          have := h2 j h3
          simpa [gm, h3, h4] using this
        rw [decide_eq_true hab]
        simp (maxSteps := 4000000) (dsimp := false) (disch := omega) only [go_sem, ↓reduceIte, Nat.reduceEqDiff, Nat.reduceMul, Nat.reduceAdd, Nat.reduceSub, Nat.reduceLT, Nat.reduceLeDiff, Nat.reduceBEq, reduceCtorEq, Int.reduceToNat, Int.reduceEq, Int.reduceLT, Int.reduceLE, Int.reduceNeg, Int.reduceSub, Int.reduceAdd, Int.reduceMul, eZ_len, eR_len, seg_e, seg_ea, seg_en, seg_r, seg_ra, seg_rn, splice_e, splice_ea, splice_eaa, splice_en, splice_ec, splice_eca, splice_r, splice_ra, splice_raa, splice_rn, splice_rc, splice_rca, splice_nil, List.append_assoc, List.length_append, Try.results6, seg_m, eqv_move]
        intro h
        omega
end Go.Proofs.Ytdhgdpcmdmgchaa.Fw
