/- Contracts: paths on the grid. Conditions: none. -/
import Derived.Test.YtdhgdpcmdmgchaaGreatFwDa
namespace Go.Proofs.YtdhgdpcmdmgchaaGreat.Fw
open Go Go.Proofs
set_option linter.unusedSimpArgs false
set_option linter.unusedVariables false
set_option maxHeartbeats 2000000
set_option maxRecDepth 10000

abbrev Path := List (Int × Int)
def eG : Path → List L
  | [] => []
  | g :: p => .int .i64 g.1 :: .int .i64 g.2 :: eG p
def gp (p : Path) (i : Nat) : Int × Int := p.getD i (0, 0)
def nx (p : Path) (i : Nat) : Nat := (i + 1) % p.length
def ptOf (g : Int × Int) : Pt := ⟨(g.1 : Rat), (g.2 : Rat)⟩
def inR (n : Int) : Prop := -9223372036854775808 ≤ n ∧ n ≤ 9223372036854775807
def PathOk (p : Path) : Prop := ∀ g ∈ p, inR g.1 ∧ inR g.2
theorem gp_ok {p : Path} (h : PathOk p) (i : Nat) : inR (gp p i).1 ∧ inR (gp p i).2 := by
  unfold gp
  rw [List.getD_eq_getElem?_getD]
  by_cases hi : i < p.length
  · rw [List.getElem?_eq_getElem hi]; exact h _ (List.getElem_mem hi)
  · rw [List.getElem?_eq_none (by omega)]; simp [inR]
theorem eG_length (p : Path) : (eG p).length = p.length * 2 := by
  induction p with
  | nil => rfl
  | cons g p ih => simp only [eG, List.length_cons, ih]; omega
theorem seg_g {p : Path} {i : Nat} (hi : i < p.length) : seg (i * 2) 2 (eG p) = [.int .i64 (gp p i).1, .int .i64 (gp p i).2] := by
  induction p generalizing i with
  | nil => simp at hi
  | cons g p ih =>
    cases i with
    | zero => simp [seg, eG, gp]
    | succ i =>
      have := ih (i := i) (by simpa using hi)
      have h2 : (i + 1) * 2 = i * 2 + 1 + 1 := by omega
      rw [h2]
      simp only [eG, seg_s, this]
      simp [gp]
theorem SV_pt {g : Int × Int} (h : inR g.1 ∧ inR g.2) : SV 3 (ptOf g) := ⟨SR_int h.1, SR_int h.2⟩
theorem nx_lt {p : Path} {i : Nat} (h : 0 < p.length) : nx p i < p.length := Nat.mod_lt _ h

theorem tmod_nx {p : Path} {i : Nat} : ((i : Int) + 1).tmod (p.length : Int) = ((nx p i : Nat) : Int) := by
  unfold nx; rw [← tmod_N]; simp
theorem sign_zero {x : Rat} : x.num.sign = 0 ↔ x = 0 := by rw [sign_eq, Rat.num_eq_zero]
theorem sign_pos {x : Rat} : x.num.sign > 0 ↔ 0 < x := by
  have := sign_le (x := x)
  rw [← Rat.not_le, ← this]; omega
theorem sign_neg {x : Rat} : x.num.sign < 0 ↔ x < 0 := by
  rw [sign_lt, Rat.lt_iff]; simp
theorem cwhole_ok (n : Int) (hn : inR n) : Ok Tryz.prog 19 [.lf (.int .i64 n)] ⟨[.ag (eR (n : Rat))], []⟩ := by
  refine ok_of_V (T := Tb) tb_ok mo Tryz.func19 rfl (by kernel_rfl) (by kernel_rfl) (by simp [Tryz.ntmps19, mts]) ?_
  simp (maxSteps := 4000000) (dsimp := false) (disch := omega) only [go_sem, ↓reduceIte, Nat.reduceEqDiff, Nat.reduceMul, Nat.reduceAdd, Nat.reduceSub, Nat.reduceLT, Nat.reduceLeDiff, Nat.reduceBEq, reduceCtorEq, Int.reduceToNat, Int.reduceEq, Int.reduceLT, Int.reduceLE, Int.reduceNeg, Int.reduceSub, Int.reduceAdd, Int.reduceMul, eZ_len, eR_len, seg_e, seg_ea, seg_en, seg_r, seg_ra, seg_rn, splice_e, splice_ea, splice_eaa, splice_en, splice_ec, splice_eca, splice_r, splice_ra, splice_raa, splice_rn, splice_rc, splice_rca, splice_nil, List.append_assoc, List.length_append, Tryz.results19]
  refine callK (RFromInt64_ok n hn) ?_
  simp (maxSteps := 4000000) (dsimp := false) (disch := omega) only [go_sem, ↓reduceIte, Nat.reduceEqDiff, Nat.reduceMul, Nat.reduceAdd, Nat.reduceSub, Nat.reduceLT, Nat.reduceLeDiff, Nat.reduceBEq, reduceCtorEq, Int.reduceToNat, Int.reduceEq, Int.reduceLT, Int.reduceLE, Int.reduceNeg, Int.reduceSub, Int.reduceAdd, Int.reduceMul, eZ_len, eR_len, seg_e, seg_ea, seg_en, seg_r, seg_ra, seg_rn, splice_e, splice_ea, splice_eaa, splice_en, splice_ec, splice_eca, splice_r, splice_ra, splice_raa, splice_rn, splice_rc, splice_rca, splice_nil, List.append_assoc, List.length_append, Tryz.results19]
theorem cvec_ok (g : Int × Int) (h : inR g.1 ∧ inR g.2) : Ok Tryz.prog 22 [.ag [.int .i64 g.1, .int .i64 g.2]] ⟨[.ag (eV (ptOf g))], []⟩ := by
  refine ok_of_V (T := Tb) tb_ok mo Tryz.func22 rfl (by kernel_rfl) (by kernel_rfl) (by simp [Tryz.ntmps22, mts]) ?_
  simp (maxSteps := 4000000) (dsimp := false) (disch := omega) only [go_sem, ↓reduceIte, Nat.reduceEqDiff, Nat.reduceMul, Nat.reduceAdd, Nat.reduceSub, Nat.reduceLT, Nat.reduceLeDiff, Nat.reduceBEq, reduceCtorEq, Int.reduceToNat, Int.reduceEq, Int.reduceLT, Int.reduceLE, Int.reduceNeg, Int.reduceSub, Int.reduceAdd, Int.reduceMul, eZ_len, eR_len, seg_e, seg_ea, seg_en, seg_r, seg_ra, seg_rn, splice_e, splice_ea, splice_eaa, splice_en, splice_ec, splice_eca, splice_r, splice_ra, splice_raa, splice_rn, splice_rc, splice_rca, splice_nil, List.append_assoc, List.length_append, Tryz.results22, eV_len, seg_v, seg_va, seg_vn, splice_v, splice_va, splice_vc]
  refine callK (cwhole_ok g.1 h.1) ?_
  simp (maxSteps := 4000000) (dsimp := false) (disch := omega) only [go_sem, ↓reduceIte, Nat.reduceEqDiff, Nat.reduceMul, Nat.reduceAdd, Nat.reduceSub, Nat.reduceLT, Nat.reduceLeDiff, Nat.reduceBEq, reduceCtorEq, Int.reduceToNat, Int.reduceEq, Int.reduceLT, Int.reduceLE, Int.reduceNeg, Int.reduceSub, Int.reduceAdd, Int.reduceMul, eZ_len, eR_len, seg_e, seg_ea, seg_en, seg_r, seg_ra, seg_rn, splice_e, splice_ea, splice_eaa, splice_en, splice_ec, splice_eca, splice_r, splice_ra, splice_raa, splice_rn, splice_rc, splice_rca, splice_nil, List.append_assoc, List.length_append, Tryz.results22, eV_len, seg_v, seg_va, seg_vn, splice_v, splice_va, splice_vc]
  refine callK (cwhole_ok g.2 h.2) ?_
  simp (maxSteps := 4000000) (dsimp := false) (disch := omega) only [go_sem, ↓reduceIte, Nat.reduceEqDiff, Nat.reduceMul, Nat.reduceAdd, Nat.reduceSub, Nat.reduceLT, Nat.reduceLeDiff, Nat.reduceBEq, reduceCtorEq, Int.reduceToNat, Int.reduceEq, Int.reduceLT, Int.reduceLE, Int.reduceNeg, Int.reduceSub, Int.reduceAdd, Int.reduceMul, eZ_len, eR_len, seg_e, seg_ea, seg_en, seg_r, seg_ra, seg_rn, splice_e, splice_ea, splice_eaa, splice_en, splice_ec, splice_eca, splice_r, splice_ra, splice_raa, splice_rn, splice_rc, splice_rca, splice_nil, List.append_assoc, List.length_append, Tryz.results22, eV_len, seg_v, seg_va, seg_vn, splice_v, splice_va, splice_vc, eV]
  rfl
theorem ccross_ok (a b : Pt) (n m : Nat) (ha : SV n a) (hb : SV m b) (hn : n + m < 2 ^ 32) : Ok Tryz.prog 26 [.ag (eV a), .ag (eV b)] ⟨[.ag (eR (a.cross b))], []⟩ := by
  refine ok_of_V (T := Tb) tb_ok mo Tryz.func26 rfl (by kernel_rfl) (by kernel_rfl) (by simp [Tryz.ntmps26, mts]) ?_
  simp (maxSteps := 4000000) (dsimp := false) (disch := omega) only [go_sem, ↓reduceIte, Nat.reduceEqDiff, Nat.reduceMul, Nat.reduceAdd, Nat.reduceSub, Nat.reduceLT, Nat.reduceLeDiff, Nat.reduceBEq, reduceCtorEq, Int.reduceToNat, Int.reduceEq, Int.reduceLT, Int.reduceLE, Int.reduceNeg, Int.reduceSub, Int.reduceAdd, Int.reduceMul, eZ_len, eR_len, seg_e, seg_ea, seg_en, seg_r, seg_ra, seg_rn, splice_e, splice_ea, splice_eaa, splice_en, splice_ec, splice_eca, splice_r, splice_ra, splice_raa, splice_rn, splice_rc, splice_rca, splice_nil, List.append_assoc, List.length_append, Tryz.results26, eV]
  refine callK (RMul_ok a.x b.y n m ha.1 hb.2 (by omega)) ?_
  simp (maxSteps := 4000000) (dsimp := false) (disch := omega) only [go_sem, ↓reduceIte, Nat.reduceEqDiff, Nat.reduceMul, Nat.reduceAdd, Nat.reduceSub, Nat.reduceLT, Nat.reduceLeDiff, Nat.reduceBEq, reduceCtorEq, Int.reduceToNat, Int.reduceEq, Int.reduceLT, Int.reduceLE, Int.reduceNeg, Int.reduceSub, Int.reduceAdd, Int.reduceMul, eZ_len, eR_len, seg_e, seg_ea, seg_en, seg_r, seg_ra, seg_rn, splice_e, splice_ea, splice_eaa, splice_en, splice_ec, splice_eca, splice_r, splice_ra, splice_raa, splice_rn, splice_rc, splice_rca, splice_nil, List.append_assoc, List.length_append, Tryz.results26, eV]
  refine callK (RMul_ok a.y b.x n m ha.2 hb.1 (by omega)) ?_
  simp (maxSteps := 4000000) (dsimp := false) (disch := omega) only [go_sem, ↓reduceIte, Nat.reduceEqDiff, Nat.reduceMul, Nat.reduceAdd, Nat.reduceSub, Nat.reduceLT, Nat.reduceLeDiff, Nat.reduceBEq, reduceCtorEq, Int.reduceToNat, Int.reduceEq, Int.reduceLT, Int.reduceLE, Int.reduceNeg, Int.reduceSub, Int.reduceAdd, Int.reduceMul, eZ_len, eR_len, seg_e, seg_ea, seg_en, seg_r, seg_ra, seg_rn, splice_e, splice_ea, splice_eaa, splice_en, splice_ec, splice_eca, splice_r, splice_ra, splice_raa, splice_rn, splice_rc, splice_rca, splice_nil, List.append_assoc, List.length_append, Tryz.results26, eV]
  refine callK (RSub_ok _ _ _ _ (SR_mul ha.1 hb.2) (SR_mul ha.2 hb.1) (by omega)) ?_
  simp (maxSteps := 4000000) (dsimp := false) (disch := omega) only [go_sem, ↓reduceIte, Nat.reduceEqDiff, Nat.reduceMul, Nat.reduceAdd, Nat.reduceSub, Nat.reduceLT, Nat.reduceLeDiff, Nat.reduceBEq, reduceCtorEq, Int.reduceToNat, Int.reduceEq, Int.reduceLT, Int.reduceLE, Int.reduceNeg, Int.reduceSub, Int.reduceAdd, Int.reduceMul, eZ_len, eR_len, seg_e, seg_ea, seg_en, seg_r, seg_ra, seg_rn, splice_e, splice_ea, splice_eaa, splice_en, splice_ec, splice_eca, splice_r, splice_ra, splice_raa, splice_rn, splice_rc, splice_rca, splice_nil, List.append_assoc, List.length_append, Tryz.results26, eV]
  rfl

/-- What an edge adds to the winding number. -/
def wAdd (a b v : Pt) : Int :=
  if a.y ≤ v.y ∧ ¬ b.y ≤ v.y ∧ 0 < (a.way b).cross (a.way v) then 1 else if ¬ a.y ≤ v.y ∧ b.y ≤ v.y ∧ (a.way b).cross (a.way v) < 0 then -1 else 0
def windI (p : Path) (v : Pt) : Nat → Int
  | 0 => 0
  | i + 1 => windI p v i + wAdd (ptOf (gp p i)) (ptOf (gp p (nx p i))) v
theorem windI_le (p : Path) (v : Pt) (i : Nat) : -(i : Int) ≤ windI p v i ∧ windI p v i ≤ i := by
  induction i with
  | zero => simp [windI]
  | succ i ih =>
    have : -1 ≤ wAdd (ptOf (gp p i)) (ptOf (gp p (nx p i))) v ∧ wAdd (ptOf (gp p i)) (ptOf (gp p (nx p i))) v ≤ 1 := by
      unfold wAdd; split; omega; split <;> omega
    rw [windI]
    omega
def onP (p : Path) (v : Pt) (i : Nat) : Prop := segs (ptOf (gp p i)) (ptOf (gp p (nx p i))) v = 0
instance (p : Path) (v : Pt) (i : Nat) : Decidable (onP p v i) := inferInstanceAs (Decidable (_ = _))
def wind (p : Path) (v : Pt) : Int × Int := if p.length = 0 ∨ ∃ i < p.length, onP p v i then (0, 1) else (windI p v p.length, 0)
theorem Winding_ok (p : Path) (v : Pt) (hp : PathOk p) (hl : p.length < 2 ^ 40) (hv : SV 3 v) : Ok Tryz.prog 11 [.lf (.sl 2 p.length (eG p)), .ag (eV v)] ⟨[.lf (.int .i64 (wind p v).1), .lf (.int .i64 (wind p v).2)], []⟩ := by
  refine ok_of_V (T := Tb) tb_ok mo Tryz.func11 rfl (by kernel_rfl) (by kernel_rfl) (by simp [Tryz.ntmps11, mts]) ?_
  simp (maxSteps := 4000000) (dsimp := false) (disch := omega) only [go_sem, ↓reduceIte, Nat.reduceEqDiff, Nat.reduceMul, Nat.reduceAdd, Nat.reduceSub, Nat.reduceLT, Nat.reduceLeDiff, Nat.reduceBEq, reduceCtorEq, Int.reduceToNat, Int.reduceEq, Int.reduceLT, Int.reduceLE, Int.reduceNeg, Int.reduceSub, Int.reduceAdd, Int.reduceMul, eZ_len, eR_len, seg_e, seg_ea, seg_en, seg_r, seg_ra, seg_rn, splice_e, splice_ea, splice_eaa, splice_en, splice_ec, splice_eca, splice_r, splice_ra, splice_raa, splice_rn, splice_rc, splice_rca, splice_nil, List.append_assoc, List.length_append, Tryz.results11, eV_len, seg_v, seg_va, seg_vn, splice_v, splice_va, splice_vc]
  refine ⟨fun c0 => ?_, fun c0 => ?_⟩
  · have : wind p v = (0, 1) := if_pos (.inl (by omega))
    rw [this]
    exact ⟨rfl, rfl⟩
  · have hl0 : 0 < p.length := by omega
    refine vloop (α := Nat) (fun i => ⟨[(0, .lf (.sl 2 p.length (eG p))), (3, .ad 1024 0), (6, .lf (.int .i64 (windI p v i))), (17, .lf (.sl 2 p.length (eG p))), (18, .lf (.int .i64 p.length)), (19, .lf (.int .i64 i))],
      [(1024, ⟨8, 1, eV v, 1⟩)]⟩) (fun i => i ≤ p.length ∧ ∀ j < i, ¬ onP p v j) (fun i => p.length - i) 0 ?_ ⟨Nat.zero_le _, by simp⟩ ?_
    · (refine weak' [] ?_; simp (maxSteps := 4000000) (dsimp := false) (disch := omega) only [slotsW, blksW, parW, List.map_cons, List.map_nil, renF, renA, idsIn, go_sem, ↓reduceIte, Nat.reduceEqDiff, Nat.reduceMul, Nat.reduceAdd, Nat.reduceSub, Nat.reduceLT, Nat.reduceLeDiff, Nat.reduceBEq, reduceCtorEq, Int.reduceToNat, Int.reduceEq, Int.reduceLT, Int.reduceLE, Int.reduceNeg, Int.reduceSub, Int.reduceAdd, Int.reduceMul, eZ_len, eR_len, seg_e, seg_ea, seg_en, seg_r, seg_ra, seg_rn, splice_e, splice_ea, splice_eaa, splice_en, splice_ec, splice_eca, splice_r, splice_ra, splice_raa, splice_rn, splice_rc, splice_rca, splice_nil, List.append_assoc, List.length_append])
      rfl
    · intro i ⟨h1, h2⟩
      have hw := windI_le p v i
      by_cases hi : i < p.length
      · have hn := nx_lt (i := i) hl0
        have g1 := gp_ok hp i
        have g2 := gp_ok hp (nx p i)
        have s1 := SV_pt g1
        have s2 := SV_pt g2
        simp (maxSteps := 4000000) (dsimp := false) (disch := omega) only [go_sem, ↓reduceIte, Nat.reduceEqDiff, Nat.reduceMul, Nat.reduceAdd, Nat.reduceSub, Nat.reduceLT, Nat.reduceLeDiff, Nat.reduceBEq, reduceCtorEq, Int.reduceToNat, Int.reduceEq, Int.reduceLT, Int.reduceLE, Int.reduceNeg, Int.reduceSub, Int.reduceAdd, Int.reduceMul, eZ_len, eR_len, seg_e, seg_ea, seg_en, seg_r, seg_ra, seg_rn, splice_e, splice_ea, splice_eaa, splice_en, splice_ec, splice_eca, splice_r, splice_ra, splice_raa, splice_rn, splice_rc, splice_rca, splice_nil, List.append_assoc, List.length_append, Tryz.results11, eV_len, seg_v, seg_va, seg_vn, splice_v, splice_va, splice_vc, seg_g, tmod_nx]
        refine ⟨fun _ => ⟨by omega, by omega, ?_⟩, fun h => by omega⟩
        refine callK (cvec_ok _ g1) ?_
        simp (maxSteps := 4000000) (dsimp := false) (disch := omega) only [go_sem, ↓reduceIte, Nat.reduceEqDiff, Nat.reduceMul, Nat.reduceAdd, Nat.reduceSub, Nat.reduceLT, Nat.reduceLeDiff, Nat.reduceBEq, reduceCtorEq, Int.reduceToNat, Int.reduceEq, Int.reduceLT, Int.reduceLE, Int.reduceNeg, Int.reduceSub, Int.reduceAdd, Int.reduceMul, eZ_len, eR_len, seg_e, seg_ea, seg_en, seg_r, seg_ra, seg_rn, splice_e, splice_ea, splice_eaa, splice_en, splice_ec, splice_eca, splice_r, splice_ra, splice_raa, splice_rn, splice_rc, splice_rca, splice_nil, List.append_assoc, List.length_append, Tryz.results11, eV_len, seg_v, seg_va, seg_vn, splice_v, splice_va, splice_vc, seg_g, tmod_nx]
        refine ⟨by omega, by omega, by omega, callK (cvec_ok _ g2) ?_⟩
        simp (maxSteps := 4000000) (dsimp := false) (disch := omega) only [go_sem, ↓reduceIte, Nat.reduceEqDiff, Nat.reduceMul, Nat.reduceAdd, Nat.reduceSub, Nat.reduceLT, Nat.reduceLeDiff, Nat.reduceBEq, reduceCtorEq, Int.reduceToNat, Int.reduceEq, Int.reduceLT, Int.reduceLE, Int.reduceNeg, Int.reduceSub, Int.reduceAdd, Int.reduceMul, eZ_len, eR_len, seg_e, seg_ea, seg_en, seg_r, seg_ra, seg_rn, splice_e, splice_ea, splice_eaa, splice_en, splice_ec, splice_eca, splice_r, splice_ra, splice_raa, splice_rn, splice_rc, splice_rca, splice_nil, List.append_assoc, List.length_append, Tryz.results11, eV_len, seg_v, seg_va, seg_vn, splice_v, splice_va, splice_vc, seg_g, tmod_nx]
        refine callK (segs_ok _ _ v 3 s1 s2 hv (by omega)) ?_
        simp (maxSteps := 4000000) (dsimp := false) (disch := omega) only [go_sem, ↓reduceIte, Nat.reduceEqDiff, Nat.reduceMul, Nat.reduceAdd, Nat.reduceSub, Nat.reduceLT, Nat.reduceLeDiff, Nat.reduceBEq, reduceCtorEq, Int.reduceToNat, Int.reduceEq, Int.reduceLT, Int.reduceLE, Int.reduceNeg, Int.reduceSub, Int.reduceAdd, Int.reduceMul, eZ_len, eR_len, seg_e, seg_ea, seg_en, seg_r, seg_ra, seg_rn, splice_e, splice_ea, splice_eaa, splice_en, splice_ec, splice_eca, splice_r, splice_ra, splice_raa, splice_rn, splice_rc, splice_rca, splice_nil, List.append_assoc, List.length_append, Tryz.results11, eV_len, seg_v, seg_va, seg_vn, splice_v, splice_va, splice_vc, seg_g, tmod_nx]
        refine callK (RSign_ok _) ?_
        simp (maxSteps := 4000000) (dsimp := false) (disch := omega) only [go_sem, ↓reduceIte, Nat.reduceEqDiff, Nat.reduceMul, Nat.reduceAdd, Nat.reduceSub, Nat.reduceLT, Nat.reduceLeDiff, Nat.reduceBEq, reduceCtorEq, Int.reduceToNat, Int.reduceEq, Int.reduceLT, Int.reduceLE, Int.reduceNeg, Int.reduceSub, Int.reduceAdd, Int.reduceMul, eZ_len, eR_len, seg_e, seg_ea, seg_en, seg_r, seg_ra, seg_rn, splice_e, splice_ea, splice_eaa, splice_en, splice_ec, splice_eca, splice_r, splice_ra, splice_raa, splice_rn, splice_rc, splice_rca, splice_nil, List.append_assoc, List.length_append, Tryz.results11, eV_len, seg_v, seg_va, seg_vn, splice_v, splice_va, splice_vc, seg_g, tmod_nx, sign_zero]
        refine ⟨fun h => ?_, fun h => ?_⟩
        · have : wind p v = (0, 1) := if_pos (.inr ⟨i, hi, h⟩)
          rw [this]
          exact ⟨rfl, rfl⟩
        · have hcr := SV_way s1 s2
          have hcw := SV_way s1 hv
          have hno : ∀ j < i + 1, ¬ onP p v j := fun j hj => by
            rcases Nat.lt_succ_iff_lt_or_eq.1 hj with hj | rfl
            · exact h2 j hj
            · exact h
          have hstep : windI p v (i + 1) = windI p v i + wAdd (ptOf (gp p i)) (ptOf (gp p (nx p i))) v := rfl
          generalize hA : ptOf (gp p i) = a at s1 hcr hcw hstep ⊢
          generalize hB : ptOf (gp p (nx p i)) = b at s2 hcr hstep ⊢
          simp (maxSteps := 4000000) (dsimp := false) (disch := omega) only [go_sem, ↓reduceIte, Nat.reduceEqDiff, Nat.reduceMul, Nat.reduceAdd, Nat.reduceSub, Nat.reduceLT, Nat.reduceLeDiff, Nat.reduceBEq, reduceCtorEq, Int.reduceToNat, Int.reduceEq, Int.reduceLT, Int.reduceLE, Int.reduceNeg, Int.reduceSub, Int.reduceAdd, Int.reduceMul, eZ_len, eR_len, seg_e, seg_ea, seg_en, seg_r, seg_ra, seg_rn, splice_e, splice_ea, splice_eaa, splice_en, splice_ec, splice_eca, splice_r, splice_ra, splice_raa, splice_rn, splice_rc, splice_rca, splice_nil, List.append_assoc, List.length_append, Tryz.results11, eV_len, seg_v, seg_va, seg_vn, splice_v, splice_va, splice_vc, eV]
          refine callK (RSub_ok b.x a.x _ _ s2.1 s1.1 (by omega)) ?_
          simp (maxSteps := 4000000) (dsimp := false) (disch := omega) only [go_sem, ↓reduceIte, Nat.reduceEqDiff, Nat.reduceMul, Nat.reduceAdd, Nat.reduceSub, Nat.reduceLT, Nat.reduceLeDiff, Nat.reduceBEq, reduceCtorEq, Int.reduceToNat, Int.reduceEq, Int.reduceLT, Int.reduceLE, Int.reduceNeg, Int.reduceSub, Int.reduceAdd, Int.reduceMul, eZ_len, eR_len, seg_e, seg_ea, seg_en, seg_r, seg_ra, seg_rn, splice_e, splice_ea, splice_eaa, splice_en, splice_ec, splice_eca, splice_r, splice_ra, splice_raa, splice_rn, splice_rc, splice_rca, splice_nil, List.append_assoc, List.length_append, Tryz.results11, eV_len, seg_v, seg_va, seg_vn, splice_v, splice_va, splice_vc, eV]
          refine callK (RSub_ok b.y a.y _ _ s2.2 s1.2 (by omega)) ?_
          simp (maxSteps := 4000000) (dsimp := false) (disch := omega) only [go_sem, ↓reduceIte, Nat.reduceEqDiff, Nat.reduceMul, Nat.reduceAdd, Nat.reduceSub, Nat.reduceLT, Nat.reduceLeDiff, Nat.reduceBEq, reduceCtorEq, Int.reduceToNat, Int.reduceEq, Int.reduceLT, Int.reduceLE, Int.reduceNeg, Int.reduceSub, Int.reduceAdd, Int.reduceMul, eZ_len, eR_len, seg_e, seg_ea, seg_en, seg_r, seg_ra, seg_rn, splice_e, splice_ea, splice_eaa, splice_en, splice_ec, splice_eca, splice_r, splice_ra, splice_raa, splice_rn, splice_rc, splice_rca, splice_nil, List.append_assoc, List.length_append, Tryz.results11, eV_len, seg_v, seg_va, seg_vn, splice_v, splice_va, splice_vc, eV]
          refine callK (RSub_ok v.x a.x _ _ hv.1 s1.1 (by omega)) ?_
          simp (maxSteps := 4000000) (dsimp := false) (disch := omega) only [go_sem, ↓reduceIte, Nat.reduceEqDiff, Nat.reduceMul, Nat.reduceAdd, Nat.reduceSub, Nat.reduceLT, Nat.reduceLeDiff, Nat.reduceBEq, reduceCtorEq, Int.reduceToNat, Int.reduceEq, Int.reduceLT, Int.reduceLE, Int.reduceNeg, Int.reduceSub, Int.reduceAdd, Int.reduceMul, eZ_len, eR_len, seg_e, seg_ea, seg_en, seg_r, seg_ra, seg_rn, splice_e, splice_ea, splice_eaa, splice_en, splice_ec, splice_eca, splice_r, splice_ra, splice_raa, splice_rn, splice_rc, splice_rca, splice_nil, List.append_assoc, List.length_append, Tryz.results11, eV_len, seg_v, seg_va, seg_vn, splice_v, splice_va, splice_vc, eV]
          refine callK (RSub_ok v.y a.y _ _ hv.2 s1.2 (by omega)) ?_
          simp (maxSteps := 4000000) (dsimp := false) (disch := omega) only [go_sem, ↓reduceIte, Nat.reduceEqDiff, Nat.reduceMul, Nat.reduceAdd, Nat.reduceSub, Nat.reduceLT, Nat.reduceLeDiff, Nat.reduceBEq, reduceCtorEq, Int.reduceToNat, Int.reduceEq, Int.reduceLT, Int.reduceLE, Int.reduceNeg, Int.reduceSub, Int.reduceAdd, Int.reduceMul, eZ_len, eR_len, seg_e, seg_ea, seg_en, seg_r, seg_ra, seg_rn, splice_e, splice_ea, splice_eaa, splice_en, splice_ec, splice_eca, splice_r, splice_ra, splice_raa, splice_rn, splice_rc, splice_rca, splice_nil, List.append_assoc, List.length_append, Tryz.results11, eV_len, seg_v, seg_va, seg_vn, splice_v, splice_va, splice_vc, eV]
          refine callK (ccross_ok (a.way b) (a.way v) _ _ hcr hcw (by omega)) ?_
          simp (maxSteps := 4000000) (dsimp := false) (disch := omega) only [go_sem, ↓reduceIte, Nat.reduceEqDiff, Nat.reduceMul, Nat.reduceAdd, Nat.reduceSub, Nat.reduceLT, Nat.reduceLeDiff, Nat.reduceBEq, reduceCtorEq, Int.reduceToNat, Int.reduceEq, Int.reduceLT, Int.reduceLE, Int.reduceNeg, Int.reduceSub, Int.reduceAdd, Int.reduceMul, eZ_len, eR_len, seg_e, seg_ea, seg_en, seg_r, seg_ra, seg_rn, splice_e, splice_ea, splice_eaa, splice_en, splice_ec, splice_eca, splice_r, splice_ra, splice_raa, splice_rn, splice_rc, splice_rca, splice_nil, List.append_assoc, List.length_append, Tryz.results11, eV_len, seg_v, seg_va, seg_vn, splice_v, splice_va, splice_vc, eV]
          refine callK (RSign_ok _) ?_
          simp (maxSteps := 4000000) (dsimp := false) (disch := omega) only [go_sem, ↓reduceIte, Nat.reduceEqDiff, Nat.reduceMul, Nat.reduceAdd, Nat.reduceSub, Nat.reduceLT, Nat.reduceLeDiff, Nat.reduceBEq, reduceCtorEq, Int.reduceToNat, Int.reduceEq, Int.reduceLT, Int.reduceLE, Int.reduceNeg, Int.reduceSub, Int.reduceAdd, Int.reduceMul, eZ_len, eR_len, seg_e, seg_ea, seg_en, seg_r, seg_ra, seg_rn, splice_e, splice_ea, splice_eaa, splice_en, splice_ec, splice_eca, splice_r, splice_ra, splice_raa, splice_rn, splice_rc, splice_rca, splice_nil, List.append_assoc, List.length_append, Tryz.results11, eV_len, seg_v, seg_va, seg_vn, splice_v, splice_va, splice_vc, eV]
          refine callK (RCmp_ok a.y v.y _ _ s1.2 hv.2 (by omega)) ?_
          simp (maxSteps := 4000000) (dsimp := false) (disch := omega) only [go_sem, ↓reduceIte, Nat.reduceEqDiff, Nat.reduceMul, Nat.reduceAdd, Nat.reduceSub, Nat.reduceLT, Nat.reduceLeDiff, Nat.reduceBEq, reduceCtorEq, Int.reduceToNat, Int.reduceEq, Int.reduceLT, Int.reduceLE, Int.reduceNeg, Int.reduceSub, Int.reduceAdd, Int.reduceMul, eZ_len, eR_len, seg_e, seg_ea, seg_en, seg_r, seg_ra, seg_rn, splice_e, splice_ea, splice_eaa, splice_en, splice_ec, splice_eca, splice_r, splice_ra, splice_raa, splice_rn, splice_rc, splice_rca, splice_nil, List.append_assoc, List.length_append, Tryz.results11, eV_len, seg_v, seg_va, seg_vn, splice_v, splice_va, splice_vc, eV]
          refine callK (RCmp_ok b.y v.y _ _ s2.2 hv.2 (by omega)) ?_
          simp (maxSteps := 4000000) (dsimp := false) (disch := omega) only [go_sem, ↓reduceIte, Nat.reduceEqDiff, Nat.reduceMul, Nat.reduceAdd, Nat.reduceSub, Nat.reduceLT, Nat.reduceLeDiff, Nat.reduceBEq, reduceCtorEq, Int.reduceToNat, Int.reduceEq, Int.reduceLT, Int.reduceLE, Int.reduceNeg, Int.reduceSub, Int.reduceAdd, Int.reduceMul, eZ_len, eR_len, seg_e, seg_ea, seg_en, seg_r, seg_ra, seg_rn, splice_e, splice_ea, splice_eaa, splice_en, splice_ec, splice_eca, splice_r, splice_ra, splice_raa, splice_rn, splice_rc, splice_rca, splice_nil, List.append_assoc, List.length_append, Tryz.results11, eV_len, seg_v, seg_va, seg_vn, splice_v, splice_va, splice_vc, eV, cmpR_le, sign_pos, sign_neg]
          by_cases c1 : a.y ≤ v.y <;> by_cases c2 : b.y ≤ v.y <;> by_cases c3 : 0 < (a.way b).cross (a.way v) <;> by_cases c4 : (a.way b).cross (a.way v) < 0
          all_goals
            simp only [c1, c2, c3, c4, decide_true, decide_false, Bool.not_true, Bool.not_false, true_implies, false_implies, not_true_eq_false, not_false_eq_true, reduceCtorEq, and_true, true_and, Bool.true_eq_false, Bool.false_eq_true, implies_true]
            refine ⟨i + 1, ?_, ⟨by omega, hno⟩, by omega⟩
            rw [hstep]
            first
              | (rw [show wAdd a b v = 0 by simp [wAdd, c1, c2, c3, c4], Int.add_zero]; (refine weak' [] ?_; simp (maxSteps := 4000000) (dsimp := false) (disch := omega) only [slotsW, blksW, parW, List.map_cons, List.map_nil, renF, renA, idsIn, go_sem, ↓reduceIte, Nat.reduceEqDiff, Nat.reduceMul, Nat.reduceAdd, Nat.reduceSub, Nat.reduceLT, Nat.reduceLeDiff, Nat.reduceBEq, reduceCtorEq, Int.reduceToNat, Int.reduceEq, Int.reduceLT, Int.reduceLE, Int.reduceNeg, Int.reduceSub, Int.reduceAdd, Int.reduceMul, eZ_len, eR_len, seg_e, seg_ea, seg_en, seg_r, seg_ra, seg_rn, splice_e, splice_ea, splice_eaa, splice_en, splice_ec, splice_eca, splice_r, splice_ra, splice_raa, splice_rn, splice_rc, splice_rca, splice_nil, List.append_assoc, List.length_append]); done)
              | (rw [show wAdd a b v = -1 by simp [wAdd, c1, c2, c3, c4], ← Int.sub_eq_add_neg]; (refine weak' [] ?_; simp (maxSteps := 4000000) (dsimp := false) (disch := omega) only [slotsW, blksW, parW, List.map_cons, List.map_nil, renF, renA, idsIn, go_sem, ↓reduceIte, Nat.reduceEqDiff, Nat.reduceMul, Nat.reduceAdd, Nat.reduceSub, Nat.reduceLT, Nat.reduceLeDiff, Nat.reduceBEq, reduceCtorEq, Int.reduceToNat, Int.reduceEq, Int.reduceLT, Int.reduceLE, Int.reduceNeg, Int.reduceSub, Int.reduceAdd, Int.reduceMul, eZ_len, eR_len, seg_e, seg_ea, seg_en, seg_r, seg_ra, seg_rn, splice_e, splice_ea, splice_eaa, splice_en, splice_ec, splice_eca, splice_r, splice_ra, splice_raa, splice_rn, splice_rc, splice_rca, splice_nil, List.append_assoc, List.length_append]); done)
              | (rw [show wAdd a b v = 1 by simp [wAdd, c1, c2, c3, c4]]; (refine weak' [] ?_; simp (maxSteps := 4000000) (dsimp := false) (disch := omega) only [slotsW, blksW, parW, List.map_cons, List.map_nil, renF, renA, idsIn, go_sem, ↓reduceIte, Nat.reduceEqDiff, Nat.reduceMul, Nat.reduceAdd, Nat.reduceSub, Nat.reduceLT, Nat.reduceLeDiff, Nat.reduceBEq, reduceCtorEq, Int.reduceToNat, Int.reduceEq, Int.reduceLT, Int.reduceLE, Int.reduceNeg, Int.reduceSub, Int.reduceAdd, Int.reduceMul, eZ_len, eR_len, seg_e, seg_ea, seg_en, seg_r, seg_ra, seg_rn, splice_e, splice_ea, splice_eaa, splice_en, splice_ec, splice_eca, splice_r, splice_ra, splice_raa, splice_rn, splice_rc, splice_rca, splice_nil, List.append_assoc, List.length_append]))
      · obtain rfl : i = p.length := by omega
        have : wind p v = (windI p v p.length, 0) := if_neg (by
          rintro (h | ⟨j, hj, h⟩)
          · omega
          · exact h2 j hj h)
        rw [this]
        simp (maxSteps := 4000000) (dsimp := false) (disch := omega) only [go_sem, ↓reduceIte, Nat.reduceEqDiff, Nat.reduceMul, Nat.reduceAdd, Nat.reduceSub, Nat.reduceLT, Nat.reduceLeDiff, Nat.reduceBEq, reduceCtorEq, Int.reduceToNat, Int.reduceEq, Int.reduceLT, Int.reduceLE, Int.reduceNeg, Int.reduceSub, Int.reduceAdd, Int.reduceMul, eZ_len, eR_len, seg_e, seg_ea, seg_en, seg_r, seg_ra, seg_rn, splice_e, splice_ea, splice_eaa, splice_en, splice_ec, splice_eca, splice_r, splice_ra, splice_raa, splice_rn, splice_rc, splice_rca, splice_nil, List.append_assoc, List.length_append, Tryz.results11, eV_len, seg_v, seg_va, seg_vn, splice_v, splice_va, splice_vc, seg_g]
        intro h
        omega
end Go.Proofs.YtdhgdpcmdmgchaaGreat.Fw
