/- Contracts: copies and moves of a path. Conditions: none. -/
import Derived.Test.YtdhgdpcmdmgchaaGreatFwDb
namespace Go.Proofs.YtdhgdpcmdmgchaaGreat.Fw
open Go Go.Proofs
set_option linter.unusedSimpArgs false
set_option linter.unusedVariables false
set_option maxHeartbeats 2000000
set_option maxRecDepth 10000

theorem Clone_ok (p : Path) (hl : p.length < 2 ^ 40) : Ok Tryz.prog 12 [.lf (.sl 2 p.length (eG p))] ⟨[.own 2 p.length (eG p)], []⟩ := by
  have he := eG_length p
  refine ok_of_V (T := Tb) tb_ok mo Tryz.func12 rfl (by kernel_rfl) (by kernel_rfl) (by simp [Tryz.ntmps12, mts]) ?_
  simp (maxSteps := 4000000) (dsimp := false) (disch := omega) only [go_sem, ↓reduceIte, Nat.reduceEqDiff, Nat.reduceMul, Nat.reduceAdd, Nat.reduceSub, Nat.reduceLT, Nat.reduceLeDiff, Nat.reduceBEq, reduceCtorEq, Int.reduceToNat, Int.reduceEq, Int.reduceLT, Int.reduceLE, Int.reduceNeg, Int.reduceSub, Int.reduceAdd, Int.reduceMul, eZ_len, eR_len, seg_e, seg_ea, seg_en, seg_r, seg_ra, seg_rn, splice_e, splice_ea, splice_eaa, splice_en, splice_ec, splice_eca, splice_r, splice_ra, splice_raa, splice_rn, splice_rc, splice_rca, splice_nil, List.append_assoc, List.length_append, Tryz.results12]
  intro b hb
  refine ⟨fun h => ?_, fun _ => by simp only [maxApp]; omega⟩
  obtain rfl : p = [] := List.eq_nil_of_length_eq_zero (hb h)
  exact ⟨rfl, rfl⟩

theorem getD_map {α : Type} {f : α → L} {l : List α} {k : Nat} {d : L} (e : α) (h : k < l.length) : (l.map f).getD k d = f (l.getD k e) := by
  simp [h]
/-- An edge within a radius of a point. -/
def hit (p : Path) (v : Pt) (r : Int) (i : Nat) : Prop := segs (ptOf (gp p i)) (ptOf (gp p (nx p i))) v ≤ (r : Rat) * r
instance (p : Path) (v : Pt) (r : Int) (i : Nat) : Decidable (hit p v r i) := inferInstanceAs (Decidable (_ ≤ _))
def hits (p : Path) (v : Pt) (r : Int) : Prop := ∃ i < p.length, hit p v r i
instance (p : Path) (v : Pt) (r : Int) : Decidable (hits p v r) := inferInstanceAs (Decidable (∃ i < p.length, _))
def covs (ps : List Path) (r : Int) (v : Pt) : Bool := decide (¬ r < 0) && ps.any fun p => decide (hits p v r)
theorem Covered_ok (ps : List Path) (r : Int) (v : Pt) (hp : ∀ p ∈ ps, PathOk p ∧ p.length < 2 ^ 40) (hl : ps.length < 2 ^ 40) (hr : inR r) (hv : SV 3 v) :
    Ok Tryz.prog 8 [.lf (.sl 1 ps.length (ps.map fun p => .sl 2 p.length (eG p))), .lf (.int .i64 r), .ag (eV v)] ⟨[.lf (.bool (covs ps r v))], []⟩ := by
  refine ok_of_V (T := Tb) tb_ok mo Tryz.func8 rfl (by kernel_rfl) (by kernel_rfl) (by simp [Tryz.ntmps8, mts]) ?_
  simp (maxSteps := 4000000) (dsimp := false) (disch := omega) only [go_sem, ↓reduceIte, Nat.reduceEqDiff, Nat.reduceMul, Nat.reduceAdd, Nat.reduceSub, Nat.reduceLT, Nat.reduceLeDiff, Nat.reduceBEq, reduceCtorEq, Int.reduceToNat, Int.reduceEq, Int.reduceLT, Int.reduceLE, Int.reduceNeg, Int.reduceSub, Int.reduceAdd, Int.reduceMul, eZ_len, eR_len, seg_e, seg_ea, seg_en, seg_r, seg_ra, seg_rn, splice_e, splice_ea, splice_eaa, splice_en, splice_ec, splice_eca, splice_r, splice_ra, splice_raa, splice_rn, splice_rc, splice_rca, splice_nil, List.append_assoc, List.length_append, Tryz.results8, eV_len, seg_v, seg_va, seg_vn, splice_v, splice_va, splice_vc]
  refine ⟨fun c0 => ?_, fun c0 => ?_⟩
  · simp [covs, c0]
  · have hsr := SR_int hr
    refine callK (cwhole_ok r hr) ?_
    simp (maxSteps := 4000000) (dsimp := false) (disch := omega) only [go_sem, ↓reduceIte, Nat.reduceEqDiff, Nat.reduceMul, Nat.reduceAdd, Nat.reduceSub, Nat.reduceLT, Nat.reduceLeDiff, Nat.reduceBEq, reduceCtorEq, Int.reduceToNat, Int.reduceEq, Int.reduceLT, Int.reduceLE, Int.reduceNeg, Int.reduceSub, Int.reduceAdd, Int.reduceMul, eZ_len, eR_len, seg_e, seg_ea, seg_en, seg_r, seg_ra, seg_rn, splice_e, splice_ea, splice_eaa, splice_en, splice_ec, splice_eca, splice_r, splice_ra, splice_raa, splice_rn, splice_rc, splice_rca, splice_nil, List.append_assoc, List.length_append, Tryz.results8, eV_len, seg_v, seg_va, seg_vn, splice_v, splice_va, splice_vc]
    refine callK (cwhole_ok r hr) ?_
    simp (maxSteps := 4000000) (dsimp := false) (disch := omega) only [go_sem, ↓reduceIte, Nat.reduceEqDiff, Nat.reduceMul, Nat.reduceAdd, Nat.reduceSub, Nat.reduceLT, Nat.reduceLeDiff, Nat.reduceBEq, reduceCtorEq, Int.reduceToNat, Int.reduceEq, Int.reduceLT, Int.reduceLE, Int.reduceNeg, Int.reduceSub, Int.reduceAdd, Int.reduceMul, eZ_len, eR_len, seg_e, seg_ea, seg_en, seg_r, seg_ra, seg_rn, splice_e, splice_ea, splice_eaa, splice_en, splice_ec, splice_eca, splice_r, splice_ra, splice_raa, splice_rn, splice_rc, splice_rca, splice_nil, List.append_assoc, List.length_append, Tryz.results8, eV_len, seg_v, seg_va, seg_vn, splice_v, splice_va, splice_vc]
    refine callK (RMul_ok _ _ _ _ hsr hsr (by omega)) ?_
    simp (maxSteps := 4000000) (dsimp := false) (disch := omega) only [go_sem, ↓reduceIte, Nat.reduceEqDiff, Nat.reduceMul, Nat.reduceAdd, Nat.reduceSub, Nat.reduceLT, Nat.reduceLeDiff, Nat.reduceBEq, reduceCtorEq, Int.reduceToNat, Int.reduceEq, Int.reduceLT, Int.reduceLE, Int.reduceNeg, Int.reduceSub, Int.reduceAdd, Int.reduceMul, eZ_len, eR_len, seg_e, seg_ea, seg_en, seg_r, seg_ra, seg_rn, splice_e, splice_ea, splice_eaa, splice_en, splice_ec, splice_eca, splice_r, splice_ra, splice_raa, splice_rn, splice_rc, splice_rca, splice_nil, List.append_assoc, List.length_append, Tryz.results8, eV_len, seg_v, seg_va, seg_vn, splice_v, splice_va, splice_vc]
    refine vloop (α := Nat) (fun k => ⟨[(5, .ad 1040 0), (7, .ad 1056 0), (19, .lf (.sl 1 ps.length (ps.map fun p => .sl 2 p.length (eG p)))), (20, .lf (.int .i64 ps.length)), (21, .lf (.int .i64 k))],
      [(1040, ⟨8, 1, eV v, 1⟩), (1056, ⟨4, 1, eR ((r : Rat) * r), 1⟩)]⟩) (fun k => k ≤ ps.length ∧ ∀ p ∈ ps.take k, ¬ hits p v r) (fun k => ps.length - k) 0 ?_ ⟨Nat.zero_le _, by simp⟩ ?_
    · (refine weak' [] ?_; simp (maxSteps := 4000000) (dsimp := false) (disch := omega) only [slotsW, blksW, parW, List.map_cons, List.map_nil, renF, renA, idsIn, go_sem, ↓reduceIte, Nat.reduceEqDiff, Nat.reduceMul, Nat.reduceAdd, Nat.reduceSub, Nat.reduceLT, Nat.reduceLeDiff, Nat.reduceBEq, reduceCtorEq, Int.reduceToNat, Int.reduceEq, Int.reduceLT, Int.reduceLE, Int.reduceNeg, Int.reduceSub, Int.reduceAdd, Int.reduceMul, eZ_len, eR_len, seg_e, seg_ea, seg_en, seg_r, seg_ra, seg_rn, splice_e, splice_ea, splice_eaa, splice_en, splice_ec, splice_eca, splice_r, splice_ra, splice_raa, splice_rn, splice_rc, splice_rca, splice_nil, List.append_assoc, List.length_append])
    · intro k ⟨h1, h2⟩
      by_cases hk : k < ps.length
      · have hqm : ps.getD k [] ∈ ps := by
          rw [List.getD_eq_getElem?_getD, List.getElem?_eq_getElem hk]; exact List.getElem_mem hk
        have htk : ∀ q : Path, q ∈ ps.take (k + 1) → q ∈ ps.take k ∨ q = ps.getD k [] := by
          intro q hq
          rw [List.take_succ_eq_append_getElem hk] at hq
          rw [List.getD_eq_getElem?_getD, List.getElem?_eq_getElem hk]
          rcases List.mem_append.1 hq with hq | hq
          · exact .inl hq
          · exact .inr (by simpa using hq)
        obtain ⟨hq1, hq2⟩ := hp _ hqm
        simp (maxSteps := 4000000) (dsimp := false) (disch := omega) only [go_sem, ↓reduceIte, Nat.reduceEqDiff, Nat.reduceMul, Nat.reduceAdd, Nat.reduceSub, Nat.reduceLT, Nat.reduceLeDiff, Nat.reduceBEq, reduceCtorEq, Int.reduceToNat, Int.reduceEq, Int.reduceLT, Int.reduceLE, Int.reduceNeg, Int.reduceSub, Int.reduceAdd, Int.reduceMul, eZ_len, eR_len, seg_e, seg_ea, seg_en, seg_r, seg_ra, seg_rn, splice_e, splice_ea, splice_eaa, splice_en, splice_ec, splice_eca, splice_r, splice_ra, splice_raa, splice_rn, splice_rc, splice_rca, splice_nil, List.append_assoc, List.length_append, Tryz.results8, eV_len, seg_v, seg_va, seg_vn, splice_v, splice_va, splice_vc, getD_map []]
        generalize ps.getD k [] = q at *
        refine ⟨fun _ => ⟨by omega, by omega, ?_⟩, fun h => by omega⟩
        refine vloop (α := Nat) (fun i => ⟨[(5, .ad 1040 0), (7, .ad 1056 0), (19, .lf (.sl 1 ps.length (ps.map fun p => .sl 2 p.length (eG p)))), (20, .lf (.int .i64 ps.length)), (21, .lf (.int .i64 k)), (9, .lf (.sl 2 q.length (eG q))), (25, .lf (.sl 2 q.length (eG q))), (26, .lf (.int .i64 q.length)), (27, .lf (.int .i64 i))],
          [(1040, ⟨8, 1, eV v, 1⟩), (1056, ⟨4, 1, eR ((r : Rat) * r), 1⟩)]⟩) (fun i => i ≤ q.length ∧ ∀ j < i, ¬ hit q v r j) (fun i => q.length - i) 0 ?_ ⟨Nat.zero_le _, by simp⟩ ?_
        · (refine weak' [] ?_; simp (maxSteps := 4000000) (dsimp := false) (disch := omega) only [slotsW, blksW, parW, List.map_cons, List.map_nil, renF, renA, idsIn, go_sem, ↓reduceIte, Nat.reduceEqDiff, Nat.reduceMul, Nat.reduceAdd, Nat.reduceSub, Nat.reduceLT, Nat.reduceLeDiff, Nat.reduceBEq, reduceCtorEq, Int.reduceToNat, Int.reduceEq, Int.reduceLT, Int.reduceLE, Int.reduceNeg, Int.reduceSub, Int.reduceAdd, Int.reduceMul, eZ_len, eR_len, seg_e, seg_ea, seg_en, seg_r, seg_ra, seg_rn, splice_e, splice_ea, splice_eaa, splice_en, splice_ec, splice_eca, splice_r, splice_ra, splice_raa, splice_rn, splice_rc, splice_rca, splice_nil, List.append_assoc, List.length_append])
        · intro i ⟨h3, h4⟩
          by_cases hi : i < q.length
          · have hn := nx_lt (p := q) (i := i) (by omega)
            have g1 := gp_ok hq1 i
            have g2 := gp_ok hq1 (nx q i)
            have s1 := SV_pt g1
            have s2 := SV_pt g2
            simp (maxSteps := 4000000) (dsimp := false) (disch := omega) only [go_sem, ↓reduceIte, Nat.reduceEqDiff, Nat.reduceMul, Nat.reduceAdd, Nat.reduceSub, Nat.reduceLT, Nat.reduceLeDiff, Nat.reduceBEq, reduceCtorEq, Int.reduceToNat, Int.reduceEq, Int.reduceLT, Int.reduceLE, Int.reduceNeg, Int.reduceSub, Int.reduceAdd, Int.reduceMul, eZ_len, eR_len, seg_e, seg_ea, seg_en, seg_r, seg_ra, seg_rn, splice_e, splice_ea, splice_eaa, splice_en, splice_ec, splice_eca, splice_r, splice_ra, splice_raa, splice_rn, splice_rc, splice_rca, splice_nil, List.append_assoc, List.length_append, Tryz.results8, eV_len, seg_v, seg_va, seg_vn, splice_v, splice_va, splice_vc, seg_g, tmod_nx]
            refine ⟨fun _ => ⟨by omega, by omega, ?_⟩, fun h => by omega⟩
            refine callK (cvec_ok _ g1) ?_
            simp (maxSteps := 4000000) (dsimp := false) (disch := omega) only [go_sem, ↓reduceIte, Nat.reduceEqDiff, Nat.reduceMul, Nat.reduceAdd, Nat.reduceSub, Nat.reduceLT, Nat.reduceLeDiff, Nat.reduceBEq, reduceCtorEq, Int.reduceToNat, Int.reduceEq, Int.reduceLT, Int.reduceLE, Int.reduceNeg, Int.reduceSub, Int.reduceAdd, Int.reduceMul, eZ_len, eR_len, seg_e, seg_ea, seg_en, seg_r, seg_ra, seg_rn, splice_e, splice_ea, splice_eaa, splice_en, splice_ec, splice_eca, splice_r, splice_ra, splice_raa, splice_rn, splice_rc, splice_rca, splice_nil, List.append_assoc, List.length_append, Tryz.results8, eV_len, seg_v, seg_va, seg_vn, splice_v, splice_va, splice_vc, seg_g, tmod_nx]
            refine ⟨by omega, by omega, by omega, callK (cvec_ok _ g2) ?_⟩
            simp (maxSteps := 4000000) (dsimp := false) (disch := omega) only [go_sem, ↓reduceIte, Nat.reduceEqDiff, Nat.reduceMul, Nat.reduceAdd, Nat.reduceSub, Nat.reduceLT, Nat.reduceLeDiff, Nat.reduceBEq, reduceCtorEq, Int.reduceToNat, Int.reduceEq, Int.reduceLT, Int.reduceLE, Int.reduceNeg, Int.reduceSub, Int.reduceAdd, Int.reduceMul, eZ_len, eR_len, seg_e, seg_ea, seg_en, seg_r, seg_ra, seg_rn, splice_e, splice_ea, splice_eaa, splice_en, splice_ec, splice_eca, splice_r, splice_ra, splice_raa, splice_rn, splice_rc, splice_rca, splice_nil, List.append_assoc, List.length_append, Tryz.results8, eV_len, seg_v, seg_va, seg_vn, splice_v, splice_va, splice_vc, seg_g, tmod_nx]
            refine callK (segs_ok _ _ v 3 s1 s2 hv (by omega)) ?_
            simp (maxSteps := 4000000) (dsimp := false) (disch := omega) only [go_sem, ↓reduceIte, Nat.reduceEqDiff, Nat.reduceMul, Nat.reduceAdd, Nat.reduceSub, Nat.reduceLT, Nat.reduceLeDiff, Nat.reduceBEq, reduceCtorEq, Int.reduceToNat, Int.reduceEq, Int.reduceLT, Int.reduceLE, Int.reduceNeg, Int.reduceSub, Int.reduceAdd, Int.reduceMul, eZ_len, eR_len, seg_e, seg_ea, seg_en, seg_r, seg_ra, seg_rn, splice_e, splice_ea, splice_eaa, splice_en, splice_ec, splice_eca, splice_r, splice_ra, splice_raa, splice_rn, splice_rc, splice_rca, splice_nil, List.append_assoc, List.length_append, Tryz.results8, eV_len, seg_v, seg_va, seg_vn, splice_v, splice_va, splice_vc, seg_g, tmod_nx]
            refine callK (RCmp_ok _ _ _ _ (SR_segsI s1 s2 hv 3) (SR_mul hsr hsr) (by omega)) ?_
            simp (maxSteps := 4000000) (dsimp := false) (disch := omega) only [go_sem, ↓reduceIte, Nat.reduceEqDiff, Nat.reduceMul, Nat.reduceAdd, Nat.reduceSub, Nat.reduceLT, Nat.reduceLeDiff, Nat.reduceBEq, reduceCtorEq, Int.reduceToNat, Int.reduceEq, Int.reduceLT, Int.reduceLE, Int.reduceNeg, Int.reduceSub, Int.reduceAdd, Int.reduceMul, eZ_len, eR_len, seg_e, seg_ea, seg_en, seg_r, seg_ra, seg_rn, splice_e, splice_ea, splice_eaa, splice_en, splice_ec, splice_eca, splice_r, splice_ra, splice_raa, splice_rn, splice_rc, splice_rca, splice_nil, List.append_assoc, List.length_append, Tryz.results8, eV_len, seg_v, seg_va, seg_vn, splice_v, splice_va, splice_vc, cmpR_le]
            refine ⟨fun h => ?_, fun h => ?_⟩
            · have hc : covs ps r v = true := by
                unfold covs
                rw [decide_eq_true c0, Bool.true_and, List.any_eq_true]
                exact ⟨q, hqm, decide_eq_true ⟨i, hi, h⟩⟩
              rw [hc]
            · have hno : ∀ j < i + 1, ¬ hit q v r j := fun j hj => by
                rcases Nat.lt_succ_iff_lt_or_eq.1 hj with hj | rfl
                · exact h4 j hj
                · exact h
              refine ⟨i + 1, ?_, ⟨by omega, hno⟩, by omega⟩
              (refine weak' [] ?_; simp (maxSteps := 4000000) (dsimp := false) (disch := omega) only [slotsW, blksW, parW, List.map_cons, List.map_nil, renF, renA, idsIn, go_sem, ↓reduceIte, Nat.reduceEqDiff, Nat.reduceMul, Nat.reduceAdd, Nat.reduceSub, Nat.reduceLT, Nat.reduceLeDiff, Nat.reduceBEq, reduceCtorEq, Int.reduceToNat, Int.reduceEq, Int.reduceLT, Int.reduceLE, Int.reduceNeg, Int.reduceSub, Int.reduceAdd, Int.reduceMul, eZ_len, eR_len, seg_e, seg_ea, seg_en, seg_r, seg_ra, seg_rn, splice_e, splice_ea, splice_eaa, splice_en, splice_ec, splice_eca, splice_r, splice_ra, splice_raa, splice_rn, splice_rc, splice_rca, splice_nil, List.append_assoc, List.length_append])
          · obtain rfl : i = q.length := by omega
            simp (maxSteps := 4000000) (dsimp := false) (disch := omega) only [go_sem, ↓reduceIte, Nat.reduceEqDiff, Nat.reduceMul, Nat.reduceAdd, Nat.reduceSub, Nat.reduceLT, Nat.reduceLeDiff, Nat.reduceBEq, reduceCtorEq, Int.reduceToNat, Int.reduceEq, Int.reduceLT, Int.reduceLE, Int.reduceNeg, Int.reduceSub, Int.reduceAdd, Int.reduceMul, eZ_len, eR_len, seg_e, seg_ea, seg_en, seg_r, seg_ra, seg_rn, splice_e, splice_ea, splice_eaa, splice_en, splice_ec, splice_eca, splice_r, splice_ra, splice_raa, splice_rn, splice_rc, splice_rca, splice_nil, List.append_assoc, List.length_append, Tryz.results8, eV_len, seg_v, seg_va, seg_vn, splice_v, splice_va, splice_vc]
            refine ⟨fun h => by omega, fun _ => ⟨k + 1, ?_, ⟨by omega, ?_⟩, by omega⟩⟩
            · (refine weak' [] ?_; simp (maxSteps := 4000000) (dsimp := false) (disch := omega) only [slotsW, blksW, parW, List.map_cons, List.map_nil, renF, renA, idsIn, go_sem, ↓reduceIte, Nat.reduceEqDiff, Nat.reduceMul, Nat.reduceAdd, Nat.reduceSub, Nat.reduceLT, Nat.reduceLeDiff, Nat.reduceBEq, reduceCtorEq, Int.reduceToNat, Int.reduceEq, Int.reduceLT, Int.reduceLE, Int.reduceNeg, Int.reduceSub, Int.reduceAdd, Int.reduceMul, eZ_len, eR_len, seg_e, seg_ea, seg_en, seg_r, seg_ra, seg_rn, splice_e, splice_ea, splice_eaa, splice_en, splice_ec, splice_eca, splice_r, splice_ra, splice_raa, splice_rn, splice_rc, splice_rca, splice_nil, List.append_assoc, List.length_append])
            · intro q' hq'
              rcases htk q' hq' with h | rfl
              · exact h2 q' h
              · rintro ⟨j, hj, h⟩
                exact h4 j hj h
      · obtain rfl : k = ps.length := by omega
        simp (maxSteps := 4000000) (dsimp := false) (disch := omega) only [go_sem, ↓reduceIte, Nat.reduceEqDiff, Nat.reduceMul, Nat.reduceAdd, Nat.reduceSub, Nat.reduceLT, Nat.reduceLeDiff, Nat.reduceBEq, reduceCtorEq, Int.reduceToNat, Int.reduceEq, Int.reduceLT, Int.reduceLE, Int.reduceNeg, Int.reduceSub, Int.reduceAdd, Int.reduceMul, eZ_len, eR_len, seg_e, seg_ea, seg_en, seg_r, seg_ra, seg_rn, splice_e, splice_ea, splice_eaa, splice_en, splice_ec, splice_eca, splice_r, splice_ra, splice_raa, splice_rn, splice_rc, splice_rca, splice_nil, List.append_assoc, List.length_append, Tryz.results8, eV_len, seg_v, seg_va, seg_vn, splice_v, splice_va, splice_vc]
        refine ⟨fun h => by omega, fun _ => ?_⟩
        rw [List.take_length] at h2
        unfold covs
        rw [decide_eq_true c0, Bool.true_and, eq_comm, List.any_eq_false]
        intro p hp'
        rw [decide_eq_true_iff]
        exact h2 p hp'
end Go.Proofs.YtdhgdpcmdmgchaaGreat.Fw
