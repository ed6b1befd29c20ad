/- The plain laws of seat Z: nearness, windings. The laws of Covered and Winding, walked. Conditions: none. -/
import Derived.Test.YtdhgdpcmdmgchaaGreatFwGa
namespace Go.Proofs.YtdhgdpcmdmgchaaGreat.Fw
open Go Go.Proofs
set_option linter.unusedSimpArgs false
set_option linter.unusedVariables false

theorem sq_nonneg (x : Rat) : 0 ≤ x * x := by
  rcases Rat.le_total (a := 0) (b := x) with hx | hx
  · exact Rat.mul_nonneg hx hx
  · have := Rat.mul_nonneg (a := -x) (b := -x) (by grind) (by grind)
    grind
theorem div_le {x y n : Rat} (hn : 0 < n) : x / n ≤ y ↔ x ≤ y * n := by
  rw [← Rat.not_lt, ← Rat.not_lt, Rat.lt_div_iff hn]
/-- The distance from a segment is not greater than those from its ends. -/
theorem toSeg_le (a b v : Pt) : toSeg a b v ≤ (a.way v).dot (a.way v) ∧ toSeg a b v ≤ (b.way v).dot (b.way v) := by
  have e1 : (b.way v).dot (b.way v) = (a.way v).dot (a.way v) - 2 * (a.way b).dot (a.way v) + (a.way b).dot (a.way b) := by
    simp only [Pt.dot, Pt.way]; grind
  have e2 : (a.way b).cross (a.way v) * (a.way b).cross (a.way v) = (a.way v).dot (a.way v) * (a.way b).dot (a.way b) - (a.way b).dot (a.way v) * (a.way b).dot (a.way v) := by
    simp only [Pt.dot, Pt.cross, Pt.way]; grind
  have hn : 0 ≤ (a.way b).dot (a.way b) := by
    have h1 := sq_nonneg (a.way b).x
    have h2 := sq_nonneg (a.way b).y
    unfold Pt.dot; grind
  simp only [toSeg]
  rw [e1, e2]
  generalize (a.way b).dot (a.way v) = t at *
  generalize (a.way b).dot (a.way b) = n at *
  generalize (a.way v).dot (a.way v) = w at *
  split
  · rename_i h; exact ⟨by grind, by grind⟩
  · rename_i h
    split
    · rename_i h'; exact ⟨by grind, by grind⟩
    · rename_i h'
      have h0 : 0 < n := by grind
      have s1 := sq_nonneg t
      have s2 := sq_nonneg (t - n)
      exact ⟨(div_le h0).2 (by grind), (div_le h0).2 (by grind)⟩
theorem toSeg_pt (v a : Pt) : toSeg v v a = (v.way a).dot (v.way a) := by
  have : (v.way v).dot (v.way a) = 0 := by simp only [Pt.dot, Pt.way]; grind
  simp only [toSeg]
  rw [if_pos (by grind)]
theorem segs_eq (a b v : Pt) : segs a b v = toSeg a b v := by
  obtain ⟨h1, h2⟩ := toSeg_le a b v
  have e1 : (v.way a).dot (v.way a) = (a.way v).dot (a.way v) := by simp only [Pt.dot, Pt.way]; grind
  have e2 : (v.way b).dot (v.way b) = (b.way v).dot (b.way v) := by simp only [Pt.dot, Pt.way]; grind
  simp only [segs, segsI, segsN, toSeg_pt, e1, e2]
  grind
theorem near_iff (a b v : Pt) (r : Rat) : near a b v r ↔ segs a b v ≤ r * r := by
  rw [segs_eq]
  simp only [near, toSeg]
  split
  · exact Iff.rfl
  · rename_i h
    split
    · exact Iff.rfl
    · rename_i h'
      rw [div_le (by grind)]
theorem passes_iff (p : Path) (v : Pt) (r : Int) : passes p v (r : Rat) ↔ hits p v r := by
  unfold passes hits nearP hit
  simp only [near_iff]
theorem covs_fcovs (ps : List Path) (r : Int) (v : Pt) : covs ps r v = fcovs ps r v := by
  unfold covs fcovs
  simp only [passes_iff]
theorem dot_nn (a : Pt) : 0 ≤ a.dot a := by
  have h1 := sq_nonneg a.x
  have h2 := sq_nonneg a.y
  unfold Pt.dot; grind
theorem toSeg_nn (a b v : Pt) : 0 ≤ toSeg a b v := by
  simp only [toSeg]
  split
  · exact dot_nn _
  · rename_i h
    split
    · exact dot_nn _
    · rename_i h'
      have h0 : 0 < (a.way b).dot (a.way b) := by grind
      rw [Rat.div_def]
      exact Rat.mul_nonneg (sq_nonneg _) (Rat.le_of_lt (Rat.inv_pos.2 h0))
theorem onP_iff (p : Path) (v : Pt) (i : Nat) : onP p v i ↔ hit p v 0 i := by
  unfold onP hit
  have h := toSeg_nn (ptOf (gp p i)) (ptOf (gp p (nx p i))) v
  rw [segs_eq]
  have e : (((0 : Int) : Rat) * ((0 : Int) : Rat)) = 0 := by simp
  rw [e]
  grind
theorem mul_pp {x y : Rat} (hx : 0 < x) : 0 < x * y ↔ 0 < y := by
  refine ⟨fun h => ?_, fun h => Rat.mul_pos hx h⟩
  rcases Rat.le_total (a := y) (b := 0) with hy | hy
  · have := Rat.mul_nonneg (a := x) (b := -y) (Rat.le_of_lt hx) (by grind)
    grind
  · rcases Rat.le_iff_lt_or_eq.1 hy with h' | h'
    · exact h'
    · rw [← h'] at h; grind
theorem mul_pn {x y : Rat} (hx : 0 < x) : x * y < 0 ↔ y < 0 := by
  have := mul_pp (y := -y) hx
  grind
/-- A point of a half line to the right. -/
def fR (a v : Pt) : Int := if a.y = v.y ∧ v.x < a.x then 1 else 0
theorem cross_a {a b v : Pt} (h : a.y = v.y) : (a.way b).cross (a.way v) = (b.y - v.y) * (a.x - v.x) := by
  simp only [Pt.cross, Pt.way]; grind
theorem cross_b {a b v : Pt} (h : b.y = v.y) : (a.way b).cross (a.way v) = (v.y - a.y) * (b.x - v.x) := by
  simp only [Pt.cross, Pt.way]; grind
theorem level {a b v : Pt} (h : toSeg a b v ≠ 0) (ha : a.y = v.y) (hb : b.y = v.y) : (v.x < a.x ↔ v.x < b.x) := by
  have hn := toSeg_nn a b v
  obtain ⟨l1, l2⟩ := toSeg_le a b v
  have e1 : (a.way v).dot (a.way v) = (a.x - v.x) * (a.x - v.x) := by simp only [Pt.dot, Pt.way]; grind
  have e2 : (b.way v).dot (b.way v) = (b.x - v.x) * (b.x - v.x) := by simp only [Pt.dot, Pt.way]; grind
  have e3 : (a.way b).dot (a.way v) = (a.x - b.x) * (a.x - v.x) := by simp only [Pt.dot, Pt.way]; grind
  have e4 : (a.way b).dot (a.way b) = (a.x - b.x) * (a.x - b.x) := by simp only [Pt.dot, Pt.way]; grind
  have e5 : (a.way b).cross (a.way v) = 0 := by rw [cross_a ha]; grind
  have z1 : a.x - v.x ≠ 0 := fun h0 => h (by rw [e1, h0] at l1; grind)
  have z2 : b.x - v.x ≠ 0 := fun h0 => h (by rw [e2, h0] at l2; grind)
  simp only [toSeg, e1, e2, e3, e4, e5] at h
  refine Classical.byContradiction fun hc => ?_
  have h3 : (0 < a.x - v.x ∧ b.x - v.x < 0) ∨ (a.x - v.x < 0 ∧ 0 < b.x - v.x) := by grind
  have h4 : 0 < (a.x - b.x) * (a.x - v.x) := by
    rcases h3 with ⟨h5, h6⟩ | ⟨h5, h6⟩
    · exact Rat.mul_pos (by grind) h5
    · have := Rat.mul_pos (a := -(a.x - b.x)) (b := -(a.x - v.x)) (by grind) (by grind)
      grind
  have h5 : (a.x - b.x) * (a.x - v.x) < (a.x - b.x) * (a.x - b.x) := by
    have : 0 < (a.x - b.x) * (v.x - b.x) := by
      rcases h3 with ⟨h5, h6⟩ | ⟨h5, h6⟩
      · exact Rat.mul_pos (by grind) (by grind)
      · have := Rat.mul_pos (a := -(a.x - b.x)) (b := -(v.x - b.x)) (by grind) (by grind)
        grind
    grind
  rw [if_neg (by grind), if_neg (by grind)] at h
  exact h (by rw [Rat.zero_mul, Rat.div_def, Rat.zero_mul])
/-- What both ways of counting differ by, at an edge. -/
theorem edge_law {a b v : Pt} (h : toSeg a b v ≠ 0) : wAdd a b v = fAdd a b v + (fR a v - fR b v) := by
  have hn := toSeg_nn a b v
  obtain ⟨l1, l2⟩ := toSeg_le a b v
  have e1 : (a.way v).dot (a.way v) = (a.x - v.x) * (a.x - v.x) + (a.y - v.y) * (a.y - v.y) := by simp only [Pt.dot, Pt.way]; grind
  have e2 : (b.way v).dot (b.way v) = (b.x - v.x) * (b.x - v.x) + (b.y - v.y) * (b.y - v.y) := by simp only [Pt.dot, Pt.way]; grind
  have za : a.y = v.y → a.x ≠ v.x := fun h0 h1 => h (by rw [e1, h0, h1] at l1; grind)
  have zb : b.y = v.y → b.x ≠ v.x := fun h0 h1 => h (by rw [e2, h0, h1] at l2; grind)
  unfold wAdd fAdd fR
  by_cases ha : a.y = v.y
  · by_cases hb : b.y = v.y
    · have := level h ha hb
      simp only [ha, hb, Rat.le_refl, not_true_eq_false, false_and, and_false, and_self, if_true, if_false, this, true_and]
      omega
    · rw [cross_a ha]
      have hza := za ha
      have hsw : ∀ x : Rat, x < v.y ∨ v.y < x → ((x ≤ v.y) = (x < v.y) ∧ (v.y ≤ x) = (v.y < x)) := fun x hx => ⟨propext (by grind), propext (by grind)⟩
      rcases (by grind : b.y < v.y ∨ v.y < b.y) with hlt | hlt
      · have hneg := mul_pn (x := v.y - b.y) (y := v.x - a.x) (by grind)
        have hs : (b.y - v.y) * (a.x - v.x) = (v.y - b.y) * (v.x - a.x) := by grind
        have h1 : ¬ v.y ≤ b.y := by grind
        have h2 : b.y ≤ v.y := by grind
        have h3 : (v.x - a.x < 0) ↔ v.x < a.x := by grind
        simp only [hs, hneg, ha, hb, h1, h2, h3, Rat.le_refl, not_true_eq_false, not_false_eq_true, false_and, and_false, and_self, true_and, and_true, if_true, if_false]
        split <;> omega
      · have hpos := mul_pp (x := b.y - v.y) (y := a.x - v.x) (by grind)
        have h1 : v.y ≤ b.y := by grind
        have h2 : ¬ b.y ≤ v.y := by grind
        have h3 : (0 < a.x - v.x) ↔ v.x < a.x := by grind
        simp only [hpos, ha, hb, h1, h2, h3, Rat.le_refl, not_true_eq_false, not_false_eq_true, false_and, and_false, and_self, true_and, and_true, if_true, if_false]
        split <;> omega
  · by_cases hb : b.y = v.y
    · rw [cross_b hb]
      have hzb := zb hb
      rcases (by grind : a.y < v.y ∨ v.y < a.y) with hlt | hlt
      · have hpos := mul_pp (x := v.y - a.y) (y := b.x - v.x) (by grind)
        have h1 : ¬ v.y ≤ a.y := by grind
        have h2 : a.y ≤ v.y := by grind
        have h3 : (0 < b.x - v.x) ↔ v.x < b.x := by grind
        simp only [hpos, ha, hb, h1, h2, h3, Rat.le_refl, not_true_eq_false, not_false_eq_true, false_and, and_false, and_self, true_and, and_true, if_true, if_false]
        split <;> omega
      · have hneg := mul_pn (x := a.y - v.y) (y := v.x - b.x) (by grind)
        have hs : (v.y - a.y) * (b.x - v.x) = (a.y - v.y) * (v.x - b.x) := by grind
        have h1 : v.y ≤ a.y := by grind
        have h2 : ¬ a.y ≤ v.y := by grind
        have h3 : (v.x - b.x < 0) ↔ v.x < b.x := by grind
        simp only [hs, hneg, ha, hb, h1, h2, h3, Rat.le_refl, not_true_eq_false, not_false_eq_true, false_and, and_false, and_self, true_and, and_true, if_true, if_false]
        split <;> omega
    · have h1 : a.y ≤ v.y ↔ ¬ v.y ≤ a.y := by grind
      have h2 : b.y ≤ v.y ↔ ¬ v.y ≤ b.y := by grind
      simp only [ha, hb, h1, h2, false_and, if_false]
      by_cases h3 : v.y ≤ a.y <;> by_cases h4 : v.y ≤ b.y <;> simp [h3, h4]
theorem fwindI_sum (p : Path) (v : Pt) (n : Nat) : fwindI p v n = sumI (fun i => fAdd (ptOf (gp p i)) (ptOf (gp p (nx p i))) v) n := by
  induction n with
  | zero => rfl
  | succ n ih => rw [fwindI, sumI, ih]
theorem sumI_tel (F G : Nat → Int) (n : Nat) : sumI (fun i => G i + (F i - F (i + 1))) n = sumI G n + (F 0 - F n) := by
  induction n with
  | zero => simp [sumI]
  | succ n ih => rw [sumI, sumI, ih]; omega
theorem windI_fwindI {p : Path} {v : Pt} (h : ∀ i < p.length, ¬ onP p v i) : windI p v p.length = fwindI p v p.length := by
  have hs : windI p v p.length = sumI (fun i => fAdd (ptOf (gp p i)) (ptOf (gp p (nx p i))) v + ((fun i => fR (ptOf (gp p (i % p.length))) v) i - (fun i => fR (ptOf (gp p (i % p.length))) v) (i + 1))) p.length := by
    rw [windI_sum]
    refine sumI_congr fun i hi => ?_
    have := h i hi
    unfold onP at this
    rw [segs_eq] at this
    rw [edge_law this]
    simp only [Nat.mod_eq_of_lt hi]
    rfl
  rw [hs, sumI_tel, ← fwindI_sum]
  simp only [Nat.mod_self, Nat.zero_mod]
  omega
theorem wind_fwind (p : Path) (v : Pt) : wind p v = fwind p v := by
  have he : (∃ i, i < p.length ∧ onP p v i) ↔ passes p v ((0 : Int) : Rat) := by
    rw [passes_iff]
    unfold hits
    exact ⟨fun ⟨i, h1, h2⟩ => ⟨i, h1, (onP_iff p v i).1 h2⟩, fun ⟨i, h1, h2⟩ => ⟨i, h1, (onP_iff p v i).2 h2⟩⟩
  unfold wind fwind
  by_cases h : p.length = 0 ∨ ∃ i, i < p.length ∧ onP p v i
  · rw [if_pos h, if_pos (h.imp id he.1)]
  · rw [if_neg h, if_neg (fun hh => h (hh.imp id he.2)), windI_fwindI (fun i h1 h2 => h (.inr ⟨i, h1, h2⟩))]
theorem hits_mono {p : Path} {v : Pt} {r s : Int} (h0 : 0 ≤ r) (hrs : r ≤ s) (h : hits p v r) : hits p v s := by
  obtain ⟨i, h1, h2⟩ := h
  refine ⟨i, h1, ?_⟩
  unfold hit at h2 ⊢
  have h3 : r * r ≤ s * s := Int.mul_le_mul hrs hrs h0 (by omega)
  have h4 : (r : Rat) * r ≤ (s : Rat) * s := by
    rw [← Rat.intCast_mul, ← Rat.intCast_mul]
    exact Rat.intCast_le_intCast.2 h3
  exact Rat.le_trans h2 h4
theorem covs_mono {ps : List Path} {r : Int} {v : Pt} (h : covs ps r v = true) : covs ps (r + 1) v = true := by
  unfold covs at h ⊢
  rw [Bool.and_eq_true, decide_eq_true_eq, List.any_eq_true] at h ⊢
  obtain ⟨h0, p, hp, hh⟩ := h
  refine ⟨by omega, p, hp, ?_⟩
  rw [decide_eq_true_eq] at hh ⊢
  exact hits_mono (by omega) (by omega) hh
theorem covs_more {ps : List Path} {q : Path} {r : Int} {v : Pt} (h : covs ps r v = true) : covs (q :: ps) r v = true := by
  unfold covs at h ⊢
  rw [Bool.and_eq_true] at h ⊢
  exact ⟨h.1, by rw [List.any_cons, h.2, Bool.or_true]⟩
end Go.Proofs.YtdhgdpcmdmgchaaGreat.Fw
namespace Go.Proofs.YtdhgdpcmdmgchaaGreat.Fw
open Go Go.Proofs
set_option linter.unusedSimpArgs false
set_option linter.unusedVariables false
set_option maxHeartbeats 2000000
set_option maxRecDepth 10000

theorem wind_le (p : Path) (v : Pt) : -(p.length : Int) ≤ (wind p v).1 ∧ (wind p v).1 ≤ p.length := by
  have := windI_le p v p.length
  unfold wind
  split
  · simp
  · exact this
/-- The way of the law of Winding where its input is not as it asks. -/
theorem ContourWinding_out (p : Path) (x y : QI) (b c : Bool) (cs : Ok Tryz.prog 7 [.ag (x.cells ++ y.cells)] ⟨[.lf (.bool b)], []⟩) (cf : Ok Tryz.prog 10 [.lf (.sl 2 p.length (eG p)), .lf (.int .i64 8)] ⟨[.lf (.bool c)], []⟩)
    (h : ¬ (c = true ∧ b = true)) : Ok Tryz.prog 4 [.lf (.sl 2 p.length (eG p)), .ag (x.cells ++ y.cells)] ⟨[.lf (.bool true)], []⟩ := by
  unfold QI.cells eI at cs ⊢
  refine ok_of_V (T := Tb) tb_ok mo Tryz.func4 rfl (by kernel_rfl) (by kernel_rfl) (by simp [Tryz.ntmps4, mts]) ?_
  simp (maxSteps := 4000000) (dsimp := false) (disch := omega) only [go_sem, eZ, ↓reduceIte, Nat.reduceEqDiff, Nat.reduceMul, Nat.reduceAdd, Nat.reduceSub, Nat.reduceLT, Nat.reduceLeDiff, Nat.reduceBEq, reduceCtorEq, Int.reduceToNat, Int.reduceEq, Int.reduceLT, Int.reduceLE, Int.reduceNeg, Int.reduceSub, Int.reduceAdd, Int.reduceMul, Tryz.results4]
  refine callK awake_ok ?_
  simp (maxSteps := 4000000) (dsimp := false) (disch := omega) only [go_sem, eZ, ↓reduceIte, Nat.reduceEqDiff, Nat.reduceMul, Nat.reduceAdd, Nat.reduceSub, Nat.reduceLT, Nat.reduceLeDiff, Nat.reduceBEq, reduceCtorEq, Int.reduceToNat, Int.reduceEq, Int.reduceLT, Int.reduceLE, Int.reduceNeg, Int.reduceSub, Int.reduceAdd, Int.reduceMul, Tryz.results4]
  refine callK cf ?_
  simp (maxSteps := 4000000) (dsimp := false) (disch := omega) only [go_sem, eZ, ↓reduceIte, Nat.reduceEqDiff, Nat.reduceMul, Nat.reduceAdd, Nat.reduceSub, Nat.reduceLT, Nat.reduceLeDiff, Nat.reduceBEq, reduceCtorEq, Int.reduceToNat, Int.reduceEq, Int.reduceLT, Int.reduceLE, Int.reduceNeg, Int.reduceSub, Int.reduceAdd, Int.reduceMul, Tryz.results4]
  refine ⟨fun h1 => ?_, fun h1 => ?_⟩
  · have hc : c = true := by simpa using h1
    have hb : b = false := by
      cases hb : b with
      | false => rfl
      | true => exact absurd ⟨hc, hb⟩ h
    rw [hb] at cs
    refine callK cs ?_
    simp (maxSteps := 4000000) (dsimp := false) (disch := omega) only [go_sem, eZ, ↓reduceIte, Nat.reduceEqDiff, Nat.reduceMul, Nat.reduceAdd, Nat.reduceSub, Nat.reduceLT, Nat.reduceLeDiff, Nat.reduceBEq, reduceCtorEq, Int.reduceToNat, Int.reduceEq, Int.reduceLT, Int.reduceLE, Int.reduceNeg, Int.reduceSub, Int.reduceAdd, Int.reduceMul, Tryz.results4]
    refine callK awake_ok ?_
    simp (maxSteps := 4000000) (dsimp := false) (disch := omega) only [go_sem, eZ, ↓reduceIte, Nat.reduceEqDiff, Nat.reduceMul, Nat.reduceAdd, Nat.reduceSub, Nat.reduceLT, Nat.reduceLeDiff, Nat.reduceBEq, reduceCtorEq, Int.reduceToNat, Int.reduceEq, Int.reduceLT, Int.reduceLE, Int.reduceNeg, Int.reduceSub, Int.reduceAdd, Int.reduceMul, Tryz.results4]
  · refine callK awake_ok ?_
    simp (maxSteps := 4000000) (dsimp := false) (disch := omega) only [go_sem, eZ, ↓reduceIte, Nat.reduceEqDiff, Nat.reduceMul, Nat.reduceAdd, Nat.reduceSub, Nat.reduceLT, Nat.reduceLeDiff, Nat.reduceBEq, reduceCtorEq, Int.reduceToNat, Int.reduceEq, Int.reduceLT, Int.reduceLE, Int.reduceNeg, Int.reduceSub, Int.reduceAdd, Int.reduceMul, Tryz.results4]
/-- The way of the law of Winding where its input is as it asks. -/
theorem ContourWinding_in (p : Path) (v : Pt) (hp : Grid p) (hl : p.length ≤ 8) (hv : SV 2 v) (cs : Ok Tryz.prog 7 [.ag (eV v)] ⟨[.lf (.bool true)], []⟩) (cf : Ok Tryz.prog 10 [.lf (.sl 2 p.length (eG p)), .lf (.int .i64 8)] ⟨[.lf (.bool true)], []⟩) :
    Ok Tryz.prog 4 [.lf (.sl 2 p.length (eG p)), .ag (eV v)] ⟨[.lf (.bool true)], []⟩ := by
  have hpo := grid_ok hp
  have hrl := rev_len p
  have hro : PathOk (rev p) := by
    intro g hg
    obtain ⟨i, _, rfl⟩ := List.mem_map.1 hg
    exact gp_ok hpo _
  have hv3 : SV 3 v := hv.mono (by omega)
  refine ok_of_V (T := Tb) tb_ok mo Tryz.func4 rfl (by kernel_rfl) (by kernel_rfl) (by simp [Tryz.ntmps4, mts]) ?_
  simp (maxSteps := 4000000) (dsimp := false) (disch := omega) only [go_sem, ↓reduceIte, Nat.reduceEqDiff, Nat.reduceMul, Nat.reduceAdd, Nat.reduceSub, Nat.reduceLT, Nat.reduceLeDiff, Nat.reduceBEq, reduceCtorEq, Int.reduceToNat, Int.reduceEq, Int.reduceLT, Int.reduceLE, Int.reduceNeg, Int.reduceSub, Int.reduceAdd, Int.reduceMul, eZ_len, eR_len, seg_e, seg_ea, seg_en, seg_r, seg_ra, seg_rn, splice_e, splice_ea, splice_eaa, splice_en, splice_ec, splice_eca, splice_r, splice_ra, splice_raa, splice_rn, splice_rc, splice_rca, splice_nil, List.append_assoc, List.length_append, Tryz.results4, eV_len, seg_v, seg_va, seg_vn, splice_v, splice_va, splice_vc]
  refine callK awake_ok ?_
  simp (maxSteps := 4000000) (dsimp := false) (disch := omega) only [go_sem, ↓reduceIte, Nat.reduceEqDiff, Nat.reduceMul, Nat.reduceAdd, Nat.reduceSub, Nat.reduceLT, Nat.reduceLeDiff, Nat.reduceBEq, reduceCtorEq, Int.reduceToNat, Int.reduceEq, Int.reduceLT, Int.reduceLE, Int.reduceNeg, Int.reduceSub, Int.reduceAdd, Int.reduceMul, eZ_len, eR_len, seg_e, seg_ea, seg_en, seg_r, seg_ra, seg_rn, splice_e, splice_ea, splice_eaa, splice_en, splice_ec, splice_eca, splice_r, splice_ra, splice_raa, splice_rn, splice_rc, splice_rca, splice_nil, List.append_assoc, List.length_append, Tryz.results4, eV_len, seg_v, seg_va, seg_vn, splice_v, splice_va, splice_vc]
  refine callK cf ?_
  simp (maxSteps := 4000000) (dsimp := false) (disch := omega) only [go_sem, ↓reduceIte, Nat.reduceEqDiff, Nat.reduceMul, Nat.reduceAdd, Nat.reduceSub, Nat.reduceLT, Nat.reduceLeDiff, Nat.reduceBEq, reduceCtorEq, Int.reduceToNat, Int.reduceEq, Int.reduceLT, Int.reduceLE, Int.reduceNeg, Int.reduceSub, Int.reduceAdd, Int.reduceMul, eZ_len, eR_len, seg_e, seg_ea, seg_en, seg_r, seg_ra, seg_rn, splice_e, splice_ea, splice_eaa, splice_en, splice_ec, splice_eca, splice_r, splice_ra, splice_raa, splice_rn, splice_rc, splice_rca, splice_nil, List.append_assoc, List.length_append, Tryz.results4, eV_len, seg_v, seg_va, seg_vn, splice_v, splice_va, splice_vc]
  refine callK cs ?_
  simp (maxSteps := 4000000) (dsimp := false) (disch := omega) only [go_sem, ↓reduceIte, Nat.reduceEqDiff, Nat.reduceMul, Nat.reduceAdd, Nat.reduceSub, Nat.reduceLT, Nat.reduceLeDiff, Nat.reduceBEq, reduceCtorEq, Int.reduceToNat, Int.reduceEq, Int.reduceLT, Int.reduceLE, Int.reduceNeg, Int.reduceSub, Int.reduceAdd, Int.reduceMul, eZ_len, eR_len, seg_e, seg_ea, seg_en, seg_r, seg_ra, seg_rn, splice_e, splice_ea, splice_eaa, splice_en, splice_ec, splice_eca, splice_r, splice_ra, splice_raa, splice_rn, splice_rc, splice_rca, splice_nil, List.append_assoc, List.length_append, Tryz.results4, eV_len, seg_v, seg_va, seg_vn, splice_v, splice_va, splice_vc]
  refine callK (Clone_ok p (by omega)) ?_
  simp (maxSteps := 4000000) (dsimp := false) (disch := omega) only [go_sem, ↓reduceIte, Nat.reduceEqDiff, Nat.reduceMul, Nat.reduceAdd, Nat.reduceSub, Nat.reduceLT, Nat.reduceLeDiff, Nat.reduceBEq, reduceCtorEq, Int.reduceToNat, Int.reduceEq, Int.reduceLT, Int.reduceLE, Int.reduceNeg, Int.reduceSub, Int.reduceAdd, Int.reduceMul, eZ_len, eR_len, seg_e, seg_ea, seg_en, seg_r, seg_ra, seg_rn, splice_e, splice_ea, splice_eaa, splice_en, splice_ec, splice_eca, splice_r, splice_ra, splice_raa, splice_rn, splice_rc, splice_rca, splice_nil, List.append_assoc, List.length_append, Tryz.results4, eV_len, seg_v, seg_va, seg_vn, splice_v, splice_va, splice_vc]
  refine callK (Winding_ok p v hpo (by omega) hv3) ?_
  simp (maxSteps := 4000000) (dsimp := false) (disch := omega) only [go_sem, ↓reduceIte, Nat.reduceEqDiff, Nat.reduceMul, Nat.reduceAdd, Nat.reduceSub, Nat.reduceLT, Nat.reduceLeDiff, Nat.reduceBEq, reduceCtorEq, Int.reduceToNat, Int.reduceEq, Int.reduceLT, Int.reduceLE, Int.reduceNeg, Int.reduceSub, Int.reduceAdd, Int.reduceMul, eZ_len, eR_len, seg_e, seg_ea, seg_en, seg_r, seg_ra, seg_rn, splice_e, splice_ea, splice_eaa, splice_en, splice_ec, splice_eca, splice_r, splice_ra, splice_raa, splice_rn, splice_rc, splice_rca, splice_nil, List.append_assoc, List.length_append, Tryz.results4, eV_len, seg_v, seg_va, seg_vn, splice_v, splice_va, splice_vc]
  refine callK (fWinding_ok p v hpo (by omega) hv3) ?_
  simp (maxSteps := 4000000) (dsimp := false) (disch := omega) only [go_sem, ↓reduceIte, Nat.reduceEqDiff, Nat.reduceMul, Nat.reduceAdd, Nat.reduceSub, Nat.reduceLT, Nat.reduceLeDiff, Nat.reduceBEq, reduceCtorEq, Int.reduceToNat, Int.reduceEq, Int.reduceLT, Int.reduceLE, Int.reduceNeg, Int.reduceSub, Int.reduceAdd, Int.reduceMul, eZ_len, eR_len, seg_e, seg_ea, seg_en, seg_r, seg_ra, seg_rn, splice_e, splice_ea, splice_eaa, splice_en, splice_ec, splice_eca, splice_r, splice_ra, splice_raa, splice_rn, splice_rc, splice_rca, splice_nil, List.append_assoc, List.length_append, Tryz.results4, eV_len, seg_v, seg_va, seg_vn, splice_v, splice_va, splice_vc]
  refine callK (Reversed_ok p (by omega)) ?_
  simp (maxSteps := 4000000) (dsimp := false) (disch := omega) only [go_sem, ↓reduceIte, Nat.reduceEqDiff, Nat.reduceMul, Nat.reduceAdd, Nat.reduceSub, Nat.reduceLT, Nat.reduceLeDiff, Nat.reduceBEq, reduceCtorEq, Int.reduceToNat, Int.reduceEq, Int.reduceLT, Int.reduceLE, Int.reduceNeg, Int.reduceSub, Int.reduceAdd, Int.reduceMul, eZ_len, eR_len, seg_e, seg_ea, seg_en, seg_r, seg_ra, seg_rn, splice_e, splice_ea, splice_eaa, splice_en, splice_ec, splice_eca, splice_r, splice_ra, splice_raa, splice_rn, splice_rc, splice_rca, splice_nil, List.append_assoc, List.length_append, Tryz.results4, eV_len, seg_v, seg_va, seg_vn, splice_v, splice_va, splice_vc]
  have w2 := Winding_ok (rev p) v hro (by omega) hv3
  rw [hrl] at w2
  refine callK w2 ?_
  obtain ⟨we, wn⟩ := wind_rev p v
  have wb := wind_le p v
  rw [we, wn, ← wind_fwind]
  generalize (wind p v).1 = n at *
  generalize (wind p v).2 = e at *
  simp (maxSteps := 4000000) (dsimp := false) (disch := omega) only [go_sem, ↓reduceIte, Nat.reduceEqDiff, Nat.reduceMul, Nat.reduceAdd, Nat.reduceSub, Nat.reduceLT, Nat.reduceLeDiff, Nat.reduceBEq, reduceCtorEq, Int.reduceToNat, Int.reduceEq, Int.reduceLT, Int.reduceLE, Int.reduceNeg, Int.reduceSub, Int.reduceAdd, Int.reduceMul, eZ_len, eR_len, seg_e, seg_ea, seg_en, seg_r, seg_ra, seg_rn, splice_e, splice_ea, splice_eaa, splice_en, splice_ec, splice_eca, splice_r, splice_ra, splice_raa, splice_rn, splice_rc, splice_rca, splice_nil, List.append_assoc, List.length_append, Tryz.results4, eV_len, seg_v, seg_va, seg_vn, splice_v, splice_va, splice_vc]
  intro h
  omega
/-- The law of Winding. -/
theorem ContourWinding_ok (p : Path) (x y : QI) (hp : PathOk p) (hx : x.ok) (hy : y.ok) : Ok Tryz.prog 4 [.lf (.sl 2 p.length (eG p)), .ag (x.cells ++ y.cells)] ⟨[.lf (.bool true)], []⟩ := by
  have cs := lsmall_ok x y hx hy
  have cf := Few_ok p 8 (by omega)
  by_cases hin : few p 8 = true ∧ (x.small && y.small) = true
  · obtain ⟨h1, h2⟩ := hin
    obtain ⟨hg, hl8⟩ := few_grid h1
    obtain ⟨v, hv, hsv⟩ := small_pt h2
    rw [h2, hv] at cs
    rw [h1] at cf
    rw [hv]
    exact ContourWinding_in p v hg hl8 hsv cs cf
  · exact ContourWinding_out p x y _ _ cs cf hin

def fewL (ps : List Path) : Bool := decide (ps.length ≤ 3) && ps.all fun p => few p 8
theorem lfew_ok (ps : List Path) : Ok Tryz.prog 6 [.lf (.sl 1 ps.length (ps.map fun p => .sl 2 p.length (eG p)))] ⟨[.lf (.bool (fewL ps))], []⟩ := by
  refine ok_of_V (T := Tb) tb_ok mo Tryz.func6 rfl (by kernel_rfl) (by kernel_rfl) (by simp [Tryz.ntmps6, mts]) ?_
  simp (maxSteps := 4000000) (dsimp := false) (disch := omega) only [go_sem, ↓reduceIte, Nat.reduceEqDiff, Nat.reduceMul, Nat.reduceAdd, Nat.reduceSub, Nat.reduceLT, Nat.reduceLeDiff, Nat.reduceBEq, reduceCtorEq, Int.reduceToNat, Int.reduceEq, Int.reduceLT, Int.reduceLE, Int.reduceNeg, Int.reduceSub, Int.reduceAdd, Int.reduceMul, eZ_len, eR_len, seg_e, seg_ea, seg_en, seg_r, seg_ra, seg_rn, splice_e, splice_ea, splice_eaa, splice_en, splice_ec, splice_eca, splice_r, splice_ra, splice_raa, splice_rn, splice_rc, splice_rca, splice_nil, List.append_assoc, List.length_append, Tryz.results6]
  refine ⟨fun h => ?_, fun h => ?_⟩
  · unfold fewL
    rw [decide_eq_false (show ¬ ps.length ≤ 3 by omega)]; rfl
  · refine vloop (α := Nat) (fun k => ⟨[(8, .lf (.sl 1 ps.length (ps.map fun p => .sl 2 p.length (eG p)))), (9, .lf (.int .i64 ps.length)), (10, .lf (.int .i64 k))], []⟩) (fun k => k ≤ ps.length ∧ ∀ p ∈ ps.take k, few p 8 = true) (fun k => ps.length - k) 0 ?_ ⟨Nat.zero_le _, by simp⟩ ?_
    · (refine weak' [] ?_; simp (maxSteps := 4000000) (dsimp := false) (disch := omega) only [slotsW, blksW, parW, List.map_cons, List.map_nil, renF, renA, idsIn, go_sem, ↓reduceIte, Nat.reduceEqDiff, Nat.reduceMul, Nat.reduceAdd, Nat.reduceSub, Nat.reduceLT, Nat.reduceLeDiff, Nat.reduceBEq, reduceCtorEq, Int.reduceToNat, Int.reduceEq, Int.reduceLT, Int.reduceLE, Int.reduceNeg, Int.reduceSub, Int.reduceAdd, Int.reduceMul, eZ_len, eR_len, seg_e, seg_ea, seg_en, seg_r, seg_ra, seg_rn, splice_e, splice_ea, splice_eaa, splice_en, splice_ec, splice_eca, splice_r, splice_ra, splice_raa, splice_rn, splice_rc, splice_rca, splice_nil, List.append_assoc, List.length_append])
    · intro k ⟨h1, h2⟩
      by_cases hk : k < ps.length
      · have hqm : ps.getD k [] ∈ ps := by
          rw [List.getD_eq_getElem?_getD, List.getElem?_eq_getElem hk]; exact List.getElem_mem hk
        have htk : ∀ q : Path, q ∈ ps.take (k + 1) → q ∈ ps.take k ∨ q = ps.getD k [] := by
          intro q hq
          rw [List.take_succ_eq_append_getElem hk] at hq
          rw [List.getD_eq_getElem?_getD, List.getElem?_eq_getElem hk]
          rcases List.mem_append.1 hq with hq | hq
          · exact .inl hq
          · exact .inr (by simpa using hq)
        simp (maxSteps := 4000000) (dsimp := false) (disch := omega) only [go_sem, ↓reduceIte, Nat.reduceEqDiff, Nat.reduceMul, Nat.reduceAdd, Nat.reduceSub, Nat.reduceLT, Nat.reduceLeDiff, Nat.reduceBEq, reduceCtorEq, Int.reduceToNat, Int.reduceEq, Int.reduceLT, Int.reduceLE, Int.reduceNeg, Int.reduceSub, Int.reduceAdd, Int.reduceMul, eZ_len, eR_len, seg_e, seg_ea, seg_en, seg_r, seg_ra, seg_rn, splice_e, splice_ea, splice_eaa, splice_en, splice_ec, splice_eca, splice_r, splice_ra, splice_raa, splice_rn, splice_rc, splice_rca, splice_nil, List.append_assoc, List.length_append, Tryz.results6, eV_len, seg_v, seg_va, seg_vn, splice_v, splice_va, splice_vc, getD_map []]
        generalize ps.getD k [] = q at *
        refine ⟨fun _ => ⟨by omega, by omega, ?_⟩, fun h => by omega⟩
        refine callK (Few_ok q 8 (by omega)) ?_
        simp (maxSteps := 4000000) (dsimp := false) (disch := omega) only [go_sem, ↓reduceIte, Nat.reduceEqDiff, Nat.reduceMul, Nat.reduceAdd, Nat.reduceSub, Nat.reduceLT, Nat.reduceLeDiff, Nat.reduceBEq, reduceCtorEq, Int.reduceToNat, Int.reduceEq, Int.reduceLT, Int.reduceLE, Int.reduceNeg, Int.reduceSub, Int.reduceAdd, Int.reduceMul, eZ_len, eR_len, seg_e, seg_ea, seg_en, seg_r, seg_ra, seg_rn, splice_e, splice_ea, splice_eaa, splice_en, splice_ec, splice_eca, splice_r, splice_ra, splice_raa, splice_rn, splice_rc, splice_rca, splice_nil, List.append_assoc, List.length_append, Tryz.results6, eV_len, seg_v, seg_va, seg_vn, splice_v, splice_va, splice_vc]
        refine ⟨fun h => ?_, fun h => ?_⟩
        · unfold fewL
          rw [eq_comm, Bool.and_eq_false_iff]
          refine .inr ?_
          rw [List.all_eq_false]
          exact ⟨q, hqm, by simpa using h⟩
        · refine ⟨k + 1, ?_, ⟨by omega, ?_⟩, by omega⟩
          · (refine weak' [] ?_; simp (maxSteps := 4000000) (dsimp := false) (disch := omega) only [slotsW, blksW, parW, List.map_cons, List.map_nil, renF, renA, idsIn, go_sem, ↓reduceIte, Nat.reduceEqDiff, Nat.reduceMul, Nat.reduceAdd, Nat.reduceSub, Nat.reduceLT, Nat.reduceLeDiff, Nat.reduceBEq, reduceCtorEq, Int.reduceToNat, Int.reduceEq, Int.reduceLT, Int.reduceLE, Int.reduceNeg, Int.reduceSub, Int.reduceAdd, Int.reduceMul, eZ_len, eR_len, seg_e, seg_ea, seg_en, seg_r, seg_ra, seg_rn, splice_e, splice_ea, splice_eaa, splice_en, splice_ec, splice_eca, splice_r, splice_ra, splice_raa, splice_rn, splice_rc, splice_rca, splice_nil, List.append_assoc, List.length_append])
          · intro q' hq'
            rcases htk q' hq' with h' | rfl
            · exact h2 q' h'
            · simpa using h
      · obtain rfl : k = ps.length := by omega
        simp (maxSteps := 4000000) (dsimp := false) (disch := omega) only [go_sem, ↓reduceIte, Nat.reduceEqDiff, Nat.reduceMul, Nat.reduceAdd, Nat.reduceSub, Nat.reduceLT, Nat.reduceLeDiff, Nat.reduceBEq, reduceCtorEq, Int.reduceToNat, Int.reduceEq, Int.reduceLT, Int.reduceLE, Int.reduceNeg, Int.reduceSub, Int.reduceAdd, Int.reduceMul, eZ_len, eR_len, seg_e, seg_ea, seg_en, seg_r, seg_ra, seg_rn, splice_e, splice_ea, splice_eaa, splice_en, splice_ec, splice_eca, splice_r, splice_ra, splice_raa, splice_rn, splice_rc, splice_rca, splice_nil, List.append_assoc, List.length_append, Tryz.results6, eV_len, seg_v, seg_va, seg_vn, splice_v, splice_va, splice_vc]
        refine ⟨fun h => by omega, fun _ => ?_⟩
        rw [List.take_length] at h2
        unfold fewL
        rw [decide_eq_true (show ps.length ≤ 3 by omega), Bool.true_and, eq_comm, List.all_eq_true]
        exact h2
/-- The way of the law of Covered where its input is not as it asks. -/
theorem ContourCovered_out (ps : List Path) (r : Int) (x y : QI) (b c : Bool) (hr : inR r) (cs : Ok Tryz.prog 7 [.ag (x.cells ++ y.cells)] ⟨[.lf (.bool b)], []⟩) (cf : Ok Tryz.prog 6 [.lf (.sl 1 ps.length (ps.map fun p => .sl 2 p.length (eG p)))] ⟨[.lf (.bool c)], []⟩)
    (h : ¬ (c = true ∧ b = true ∧ r ≤ 10000000)) : Ok Tryz.prog 3 [.lf (.sl 1 ps.length (ps.map fun p => .sl 2 p.length (eG p))), .lf (.int .i64 r), .ag (x.cells ++ y.cells)] ⟨[.lf (.bool true)], []⟩ := by
  unfold QI.cells eI at cs ⊢
  refine ok_of_V (T := Tb) tb_ok mo Tryz.func3 rfl (by kernel_rfl) (by kernel_rfl) (by simp [Tryz.ntmps3, mts]) ?_
  simp (maxSteps := 4000000) (dsimp := false) (disch := omega) only [go_sem, eZ, ↓reduceIte, Nat.reduceEqDiff, Nat.reduceMul, Nat.reduceAdd, Nat.reduceSub, Nat.reduceLT, Nat.reduceLeDiff, Nat.reduceBEq, reduceCtorEq, Int.reduceToNat, Int.reduceEq, Int.reduceLT, Int.reduceLE, Int.reduceNeg, Int.reduceSub, Int.reduceAdd, Int.reduceMul, Tryz.results3]
  refine callK awake_ok ?_
  simp (maxSteps := 4000000) (dsimp := false) (disch := omega) only [go_sem, eZ, ↓reduceIte, Nat.reduceEqDiff, Nat.reduceMul, Nat.reduceAdd, Nat.reduceSub, Nat.reduceLT, Nat.reduceLeDiff, Nat.reduceBEq, reduceCtorEq, Int.reduceToNat, Int.reduceEq, Int.reduceLT, Int.reduceLE, Int.reduceNeg, Int.reduceSub, Int.reduceAdd, Int.reduceMul, Tryz.results3]
  refine callK cf ?_
  cases c with
  | false =>
    simp (maxSteps := 4000000) (dsimp := false) (disch := omega) only [go_sem, eZ, ↓reduceIte, Nat.reduceEqDiff, Nat.reduceMul, Nat.reduceAdd, Nat.reduceSub, Nat.reduceLT, Nat.reduceLeDiff, Nat.reduceBEq, reduceCtorEq, Int.reduceToNat, Int.reduceEq, Int.reduceLT, Int.reduceLE, Int.reduceNeg, Int.reduceSub, Int.reduceAdd, Int.reduceMul, Tryz.results3]
    refine callK awake_ok ?_
    simp (maxSteps := 4000000) (dsimp := false) (disch := omega) only [go_sem, eZ, ↓reduceIte, Nat.reduceEqDiff, Nat.reduceMul, Nat.reduceAdd, Nat.reduceSub, Nat.reduceLT, Nat.reduceLeDiff, Nat.reduceBEq, reduceCtorEq, Int.reduceToNat, Int.reduceEq, Int.reduceLT, Int.reduceLE, Int.reduceNeg, Int.reduceSub, Int.reduceAdd, Int.reduceMul, Tryz.results3]
  | true =>
    simp (maxSteps := 4000000) (dsimp := false) (disch := omega) only [go_sem, eZ, ↓reduceIte, Nat.reduceEqDiff, Nat.reduceMul, Nat.reduceAdd, Nat.reduceSub, Nat.reduceLT, Nat.reduceLeDiff, Nat.reduceBEq, reduceCtorEq, Int.reduceToNat, Int.reduceEq, Int.reduceLT, Int.reduceLE, Int.reduceNeg, Int.reduceSub, Int.reduceAdd, Int.reduceMul, Tryz.results3]
    refine callK cs ?_
    cases b with
    | false =>
      simp (maxSteps := 4000000) (dsimp := false) (disch := omega) only [go_sem, eZ, ↓reduceIte, Nat.reduceEqDiff, Nat.reduceMul, Nat.reduceAdd, Nat.reduceSub, Nat.reduceLT, Nat.reduceLeDiff, Nat.reduceBEq, reduceCtorEq, Int.reduceToNat, Int.reduceEq, Int.reduceLT, Int.reduceLE, Int.reduceNeg, Int.reduceSub, Int.reduceAdd, Int.reduceMul, Tryz.results3]
      refine callK awake_ok ?_
      simp (maxSteps := 4000000) (dsimp := false) (disch := omega) only [go_sem, eZ, ↓reduceIte, Nat.reduceEqDiff, Nat.reduceMul, Nat.reduceAdd, Nat.reduceSub, Nat.reduceLT, Nat.reduceLeDiff, Nat.reduceBEq, reduceCtorEq, Int.reduceToNat, Int.reduceEq, Int.reduceLT, Int.reduceLE, Int.reduceNeg, Int.reduceSub, Int.reduceAdd, Int.reduceMul, Tryz.results3]
    | true =>
      have h1 : r > 10000000 := by simp at h; omega
      simp (maxSteps := 4000000) (dsimp := false) (disch := omega) only [go_sem, eZ, ↓reduceIte, Nat.reduceEqDiff, Nat.reduceMul, Nat.reduceAdd, Nat.reduceSub, Nat.reduceLT, Nat.reduceLeDiff, Nat.reduceBEq, reduceCtorEq, Int.reduceToNat, Int.reduceEq, Int.reduceLT, Int.reduceLE, Int.reduceNeg, Int.reduceSub, Int.reduceAdd, Int.reduceMul, Tryz.results3]
      refine ⟨fun _ => ?_, fun h2 => by omega⟩
      refine callK awake_ok ?_
      simp (maxSteps := 4000000) (dsimp := false) (disch := omega) only [go_sem, eZ, ↓reduceIte, Nat.reduceEqDiff, Nat.reduceMul, Nat.reduceAdd, Nat.reduceSub, Nat.reduceLT, Nat.reduceLeDiff, Nat.reduceBEq, reduceCtorEq, Int.reduceToNat, Int.reduceEq, Int.reduceLT, Int.reduceLE, Int.reduceNeg, Int.reduceSub, Int.reduceAdd, Int.reduceMul, Tryz.results3]
/-- The way of the law of Covered where its input is as it asks. -/
theorem ContourCovered_in (ps : List Path) (r : Int) (v : Pt) (hp : ∀ p ∈ ps, PathOk p ∧ p.length < 2 ^ 40) (hl : ps.length ≤ 3) (hr : inR r) (hrm : r ≤ 10000000) (hv : SV 2 v) (cs : Ok Tryz.prog 7 [.ag (eV v)] ⟨[.lf (.bool true)], []⟩) (cf : Ok Tryz.prog 6 [.lf (.sl 1 ps.length (ps.map fun p => .sl 2 p.length (eG p)))] ⟨[.lf (.bool true)], []⟩) :
    Ok Tryz.prog 3 [.lf (.sl 1 ps.length (ps.map fun p => .sl 2 p.length (eG p))), .lf (.int .i64 r), .ag (eV v)] ⟨[.lf (.bool true)], []⟩ := by
  have hv3 : SV 3 v := hv.mono (by omega)
  refine ok_of_V (T := Tb) tb_ok mo Tryz.func3 rfl (by kernel_rfl) (by kernel_rfl) (by simp [Tryz.ntmps3, mts]) ?_
  simp (maxSteps := 4000000) (dsimp := false) (disch := omega) only [go_sem, ↓reduceIte, Nat.reduceEqDiff, Nat.reduceMul, Nat.reduceAdd, Nat.reduceSub, Nat.reduceLT, Nat.reduceLeDiff, Nat.reduceBEq, reduceCtorEq, Int.reduceToNat, Int.reduceEq, Int.reduceLT, Int.reduceLE, Int.reduceNeg, Int.reduceSub, Int.reduceAdd, Int.reduceMul, eZ_len, eR_len, seg_e, seg_ea, seg_en, seg_r, seg_ra, seg_rn, splice_e, splice_ea, splice_eaa, splice_en, splice_ec, splice_eca, splice_r, splice_ra, splice_raa, splice_rn, splice_rc, splice_rca, splice_nil, List.append_assoc, List.length_append, Tryz.results3, eV_len, seg_v, seg_va, seg_vn, splice_v, splice_va, splice_vc]
  refine callK awake_ok ?_
  simp (maxSteps := 4000000) (dsimp := false) (disch := omega) only [go_sem, ↓reduceIte, Nat.reduceEqDiff, Nat.reduceMul, Nat.reduceAdd, Nat.reduceSub, Nat.reduceLT, Nat.reduceLeDiff, Nat.reduceBEq, reduceCtorEq, Int.reduceToNat, Int.reduceEq, Int.reduceLT, Int.reduceLE, Int.reduceNeg, Int.reduceSub, Int.reduceAdd, Int.reduceMul, eZ_len, eR_len, seg_e, seg_ea, seg_en, seg_r, seg_ra, seg_rn, splice_e, splice_ea, splice_eaa, splice_en, splice_ec, splice_eca, splice_r, splice_ra, splice_raa, splice_rn, splice_rc, splice_rca, splice_nil, List.append_assoc, List.length_append, Tryz.results3, eV_len, seg_v, seg_va, seg_vn, splice_v, splice_va, splice_vc]
  refine callK cf ?_
  simp (maxSteps := 4000000) (dsimp := false) (disch := omega) only [go_sem, ↓reduceIte, Nat.reduceEqDiff, Nat.reduceMul, Nat.reduceAdd, Nat.reduceSub, Nat.reduceLT, Nat.reduceLeDiff, Nat.reduceBEq, reduceCtorEq, Int.reduceToNat, Int.reduceEq, Int.reduceLT, Int.reduceLE, Int.reduceNeg, Int.reduceSub, Int.reduceAdd, Int.reduceMul, eZ_len, eR_len, seg_e, seg_ea, seg_en, seg_r, seg_ra, seg_rn, splice_e, splice_ea, splice_eaa, splice_en, splice_ec, splice_eca, splice_r, splice_ra, splice_raa, splice_rn, splice_rc, splice_rca, splice_nil, List.append_assoc, List.length_append, Tryz.results3, eV_len, seg_v, seg_va, seg_vn, splice_v, splice_va, splice_vc]
  refine callK cs ?_
  simp (maxSteps := 4000000) (dsimp := false) (disch := omega) only [go_sem, ↓reduceIte, Nat.reduceEqDiff, Nat.reduceMul, Nat.reduceAdd, Nat.reduceSub, Nat.reduceLT, Nat.reduceLeDiff, Nat.reduceBEq, reduceCtorEq, Int.reduceToNat, Int.reduceEq, Int.reduceLT, Int.reduceLE, Int.reduceNeg, Int.reduceSub, Int.reduceAdd, Int.reduceMul, eZ_len, eR_len, seg_e, seg_ea, seg_en, seg_r, seg_ra, seg_rn, splice_e, splice_ea, splice_eaa, splice_en, splice_ec, splice_eca, splice_r, splice_ra, splice_raa, splice_rn, splice_rc, splice_rca, splice_nil, List.append_assoc, List.length_append, Tryz.results3, eV_len, seg_v, seg_va, seg_vn, splice_v, splice_va, splice_vc]
  refine ⟨fun h => by omega, fun _ => ?_⟩
  refine callK (Covered_ok ps r v hp (by omega) hr hv3) ?_
  simp (maxSteps := 4000000) (dsimp := false) (disch := omega) only [go_sem, ↓reduceIte, Nat.reduceEqDiff, Nat.reduceMul, Nat.reduceAdd, Nat.reduceSub, Nat.reduceLT, Nat.reduceLeDiff, Nat.reduceBEq, reduceCtorEq, Int.reduceToNat, Int.reduceEq, Int.reduceLT, Int.reduceLE, Int.reduceNeg, Int.reduceSub, Int.reduceAdd, Int.reduceMul, eZ_len, eR_len, seg_e, seg_ea, seg_en, seg_r, seg_ra, seg_rn, splice_e, splice_ea, splice_eaa, splice_en, splice_ec, splice_eca, splice_r, splice_ra, splice_raa, splice_rn, splice_rc, splice_rca, splice_nil, List.append_assoc, List.length_append, Tryz.results3, eV_len, seg_v, seg_va, seg_vn, splice_v, splice_va, splice_vc]
  refine callK (fCovered_ok ps r v hp (by omega) hr hv3) ?_
  rw [← covs_fcovs]
  have c1 := Covered_ok ps (r + 1) v hp (by omega) (by unfold inR at *; omega) hv3
  have c2 := Covered_ok ([(5, 7)] :: ps) r v (fun q hq => by
    rcases List.mem_cons.1 hq with rfl | hq
    · exact ⟨by unfold PathOk inR; decide, by decide⟩
    · exact hp q hq) (by simp only [List.length_cons]; omega) hr hv3
  rw [List.map_cons, List.length_cons, Nat.add_comm] at c2
  have hr' := hr
  unfold inR at hr'
  have m1 : covs ps r v = true → covs ps (r + 1) v = true := covs_mono
  have m2 : covs ps r v = true → covs ([(5, 7)] :: ps) r v = true := covs_more
  generalize covs ps r v = a at *
  generalize covs ps (r + 1) v = a1 at *
  generalize covs ([(5, 7)] :: ps) r v = a2 at *
  simp (maxSteps := 4000000) (dsimp := false) (disch := omega) only [go_sem, ↓reduceIte, Nat.reduceEqDiff, Nat.reduceMul, Nat.reduceAdd, Nat.reduceSub, Nat.reduceLT, Nat.reduceLeDiff, Nat.reduceBEq, reduceCtorEq, Int.reduceToNat, Int.reduceEq, Int.reduceLT, Int.reduceLE, Int.reduceNeg, Int.reduceSub, Int.reduceAdd, Int.reduceMul, eZ_len, eR_len, seg_e, seg_ea, seg_en, seg_r, seg_ra, seg_rn, splice_e, splice_ea, splice_eaa, splice_en, splice_ec, splice_eca, splice_r, splice_ra, splice_raa, splice_rn, splice_rc, splice_rca, splice_nil, List.append_assoc, List.length_append, Tryz.results3, eV_len, seg_v, seg_va, seg_vn, splice_v, splice_va, splice_vc]
  refine ⟨fun h => by simp at h, fun _ => ⟨by simp only [maxApp]; omega, fun h => ?_⟩⟩
  have ha : a = true := by simpa using h
  rw [m1 ha] at c1
  rw [m2 ha] at c2
  refine callK c1 ?_
  simp (maxSteps := 4000000) (dsimp := false) (disch := omega) only [go_sem, ↓reduceIte, Nat.reduceEqDiff, Nat.reduceMul, Nat.reduceAdd, Nat.reduceSub, Nat.reduceLT, Nat.reduceLeDiff, Nat.reduceBEq, reduceCtorEq, Int.reduceToNat, Int.reduceEq, Int.reduceLT, Int.reduceLE, Int.reduceNeg, Int.reduceSub, Int.reduceAdd, Int.reduceMul, eZ_len, eR_len, seg_e, seg_ea, seg_en, seg_r, seg_ra, seg_rn, splice_e, splice_ea, splice_eaa, splice_en, splice_ec, splice_eca, splice_r, splice_ra, splice_raa, splice_rn, splice_rc, splice_rca, splice_nil, List.append_assoc, List.length_append, Tryz.results3, eV_len, seg_v, seg_va, seg_vn, splice_v, splice_va, splice_vc]
  refine callK c2 ?_
  simp (maxSteps := 4000000) (dsimp := false) (disch := omega) only [go_sem, ↓reduceIte, Nat.reduceEqDiff, Nat.reduceMul, Nat.reduceAdd, Nat.reduceSub, Nat.reduceLT, Nat.reduceLeDiff, Nat.reduceBEq, reduceCtorEq, Int.reduceToNat, Int.reduceEq, Int.reduceLT, Int.reduceLE, Int.reduceNeg, Int.reduceSub, Int.reduceAdd, Int.reduceMul, eZ_len, eR_len, seg_e, seg_ea, seg_en, seg_r, seg_ra, seg_rn, splice_e, splice_ea, splice_eaa, splice_en, splice_ec, splice_eca, splice_r, splice_ra, splice_raa, splice_rn, splice_rc, splice_rca, splice_nil, List.append_assoc, List.length_append, Tryz.results3, eV_len, seg_v, seg_va, seg_vn, splice_v, splice_va, splice_vc]
theorem fewL_grid {ps : List Path} (h : fewL ps = true) : ps.length ≤ 3 ∧ ∀ p ∈ ps, PathOk p ∧ p.length < 2 ^ 40 := by
  unfold fewL at h
  rw [Bool.and_eq_true, decide_eq_true_eq, List.all_eq_true] at h
  refine ⟨h.1, fun p hp => ?_⟩
  obtain ⟨hg, hl⟩ := few_grid (h.2 p hp)
  exact ⟨grid_ok hg, by omega⟩
/-- The law of Covered. -/
theorem ContourCovered_ok (ps : List Path) (r : Int) (x y : QI) (hr : inR r) (hx : x.ok) (hy : y.ok) : Ok Tryz.prog 3 [.lf (.sl 1 ps.length (ps.map fun p => .sl 2 p.length (eG p))), .lf (.int .i64 r), .ag (x.cells ++ y.cells)] ⟨[.lf (.bool true)], []⟩ := by
  have cs := lsmall_ok x y hx hy
  have cf := lfew_ok ps
  by_cases hin : fewL ps = true ∧ (x.small && y.small) = true ∧ r ≤ 10000000
  · obtain ⟨h1, h2, h3⟩ := hin
    obtain ⟨hl, hp⟩ := fewL_grid h1
    obtain ⟨v, hv, hsv⟩ := small_pt h2
    rw [h2, hv] at cs
    rw [h1] at cf
    rw [hv]
    exact ContourCovered_in ps r v hp hl hr h3 hsv cs cf
  · exact ContourCovered_out ps r x y _ _ hr cs cf hin
end Go.Proofs.YtdhgdpcmdmgchaaGreat.Fw
