/- Plain laws of reversal; the law's test on a point. Conditions: none. -/
import Derived.Test.YtdhgdpcmdmgchaaGreatFwDf
namespace Go.Proofs.YtdhgdpcmdmgchaaGreat.Fw
open Go Go.Proofs
set_option linter.unusedSimpArgs false
set_option linter.unusedVariables false
set_option maxHeartbeats 2000000
set_option maxRecDepth 10000

/-- Twice the area, in integers. -/
def areaI (p : Path) : Nat → Int
  | 0 => 0
  | i + 1 => areaI p i + ((gp p i).1 * (gp p (nx p i)).2 - (gp p i).2 * (gp p (nx p i)).1)
theorem cross_pt (g h : Int × Int) : (ptOf g).cross (ptOf h) = ((g.1 * h.2 - g.2 * h.1 : Int) : Rat) := by
  simp only [Pt.cross, ptOf, Rat.intCast_sub, Rat.intCast_mul]
/-- A path's coordinates lie within the grid. -/
def Grid (p : Path) : Prop := ∀ g ∈ p, okG g
theorem gp_grid {p : Path} (h : Grid p) (i : Nat) : okG (gp p i) := by
  unfold gp
  rw [List.getD_eq_getElem?_getD]
  by_cases hi : i < p.length
  · rw [List.getElem?_eq_getElem hi]; exact h _ (List.getElem_mem hi)
  · rw [List.getElem?_eq_none (by omega)]; simp [okG]
theorem grid_mul {a b : Int} (ha : -10000000 ≤ a ∧ a ≤ 10000000) (hb : -10000000 ≤ b ∧ b ≤ 10000000) : -100000000000000 ≤ a * b ∧ a * b ≤ 100000000000000 := by
  have h1 : (a * b).natAbs ≤ 10000000 * 10000000 := by
    rw [Int.natAbs_mul]; exact Nat.mul_le_mul (by omega) (by omega)
  omega
theorem areaI_le {p : Path} (h : Grid p) (i : Nat) : -(i * 200000000000000 : Int) ≤ areaI p i ∧ areaI p i ≤ i * 200000000000000 := by
  induction i with
  | zero => simp [areaI]
  | succ i ih =>
    have g1 := gp_grid h i
    have g2 := gp_grid h (nx p i)
    unfold okG at g1 g2
    have m1 := grid_mul (a := (gp p i).1) (b := (gp p (nx p i)).2) (by omega) (by omega)
    have m2 := grid_mul (a := (gp p i).2) (b := (gp p (nx p i)).1) (by omega) (by omega)
    rw [areaI]
    omega
theorem lz_i64 {a : Int} (h : inR a) : lz a ≤ 3 := lz_le (by unfold inR at h; simp only [Bs]; omega)
theorem grid_ok {p : Path} (h : Grid p) : PathOk p := fun g hg => by have := h g hg; unfold okG at this; unfold inR; omega
/-- The path turned as wanted. -/
def turned (p : Path) (ccw : Bool) : Path := if (0 < areaI p p.length ∧ ccw = false) ∨ (areaI p p.length < 0 ∧ ccw = true) then rev p else p
/-- A sum. -/
def sumI (f : Nat → Int) : Nat → Int
  | 0 => 0
  | n + 1 => sumI f n + f n
theorem sumI_congr {f g : Nat → Int} {n : Nat} (h : ∀ i < n, f i = g i) : sumI f n = sumI g n := by
  induction n with
  | zero => rfl
  | succ n ih => rw [sumI, sumI, ih (fun i hi => h i (by omega)), h n (by omega)]
theorem sumI_head (f : Nat → Int) (n : Nat) : sumI f (n + 1) = f 0 + sumI (fun i => f (i + 1)) n := by
  induction n with
  | zero => simp [sumI]
  | succ n ih => rw [sumI, ih, sumI]; omega
theorem sumI_neg (f : Nat → Int) (n : Nat) : sumI (fun i => -f i) n = -sumI f n := by
  induction n with
  | zero => rfl
  | succ n ih => rw [sumI, sumI, ih]; omega
theorem sumI_refl (f : Nat → Int) (n : Nat) : sumI (fun i => f (n - 1 - i)) n = sumI f n := by
  induction n generalizing f with
  | zero => rfl
  | succ n ih =>
    rw [sumI_head, sumI]
    have : sumI (fun i => f (n + 1 - 1 - (i + 1))) n = sumI f n := by
      rw [← ih f]
      exact sumI_congr fun i hi => by rw [show n + 1 - 1 - (i + 1) = n - 1 - i by omega]
    rw [this]
    simp only [Nat.add_sub_cancel, Nat.sub_zero]
    omega
/-- What the edges add up to. -/
theorem windI_sum (p : Path) (v : Pt) (n : Nat) : windI p v n = sumI (fun i => wAdd (ptOf (gp p i)) (ptOf (gp p (nx p i))) v) n := by
  induction n with
  | zero => rfl
  | succ n ih => rw [windI, sumI, ih]
theorem areaI_sum (p : Path) (n : Nat) : areaI p n = sumI (fun i => (gp p i).1 * (gp p (nx p i)).2 - (gp p i).2 * (gp p (nx p i)).1) n := by
  induction n with
  | zero => rfl
  | succ n ih => rw [areaI, sumI, ih]
theorem rev_len (p : Path) : (rev p).length = p.length := by simp [rev]
theorem gp_revp {p : Path} {i : Nat} (h : i < p.length) : gp (rev p) i = gp p (revI p i) := by simp [gp, rev, h]
/-- The edges of the reversed path. -/
theorem rev_edge {p : Path} {i : Nat} (h : i < p.length) : gp (rev p) i = gp p (nx p (p.length - 1 - i)) ∧ gp (rev p) (nx (rev p) i) = gp p (p.length - 1 - i) := by
  have h1 : nx p (p.length - 1 - i) = revI p i := by
    unfold nx revI
    rw [show p.length - 1 - i + 1 = p.length - i by omega]
  refine ⟨by rw [gp_revp h, h1], ?_⟩
  have hn : nx (rev p) i < p.length := by unfold nx; rw [rev_len]; exact Nat.mod_lt _ (by omega)
  rw [gp_revp hn]
  congr 1
  unfold nx revI
  rw [rev_len]
  by_cases hi : i + 1 = p.length
  · rw [hi, Nat.mod_self, Nat.sub_zero, Nat.mod_self]; omega
  · rw [Nat.mod_eq_of_lt (by omega : i + 1 < p.length), Nat.mod_eq_of_lt (by omega)]; omega
theorem wAdd_swap (a b v : Pt) : wAdd b a v = -wAdd a b v := by
  have hs : (b.way a).cross (b.way v) = -((a.way b).cross (a.way v)) := by
    simp only [Pt.cross, Pt.way]
    grind
  unfold wAdd
  rw [hs]
  generalize (a.way b).cross (a.way v) = s
  by_cases h1 : a.y ≤ v.y <;> by_cases h2 : b.y ≤ v.y <;> simp only [h1, h2, not_true_eq_false, not_false_eq_true, true_and, false_and, if_false]
  · rfl
  · have : -s < 0 ↔ 0 < s := by grind
    simp only [this]
    by_cases h3 : 0 < s <;> simp [h3]
  · have : 0 < -s ↔ s < 0 := by grind
    simp only [this]
    by_cases h3 : s < 0 <;> simp [h3]
  · rfl
theorem windI_rev (p : Path) (v : Pt) : windI (rev p) v p.length = -windI p v p.length := by
  rw [windI_sum, windI_sum, ← sumI_neg, ← sumI_refl (fun i => -wAdd (ptOf (gp p i)) (ptOf (gp p (nx p i))) v)]
  refine sumI_congr fun i hi => ?_
  obtain ⟨e1, e2⟩ := rev_edge hi
  rw [e1, e2, wAdd_swap]
theorem areaI_rev (p : Path) : areaI (rev p) p.length = -areaI p p.length := by
  rw [areaI_sum, areaI_sum, ← sumI_neg, ← sumI_refl (fun i => -((gp p i).1 * (gp p (nx p i)).2 - (gp p i).2 * (gp p (nx p i)).1))]
  refine sumI_congr fun i hi => ?_
  obtain ⟨e1, e2⟩ := rev_edge hi
  rw [e1, e2]
  grind
theorem turned_turned (p : Path) (ccw : Bool) : turned (turned p ccw) ccw = turned p ccw := by
  by_cases h : (0 < areaI p p.length ∧ ccw = false) ∨ (areaI p p.length < 0 ∧ ccw = true)
  · have e : turned p ccw = rev p := if_pos h
    rw [e]
    refine if_neg ?_
    rw [rev_len, areaI_rev]
    rintro (⟨h1, h2⟩ | ⟨h1, h2⟩) <;> rcases h with ⟨h3, h4⟩ | ⟨h3, h4⟩ <;> first | omega | (rw [h2] at h4; simp at h4)
  · have e : turned p ccw = p := if_neg h
    rw [e, e]
theorem sq_zero {x y : Rat} (h : x * x + y * y ≤ 0) : x = 0 ∧ y = 0 := by
  have hx : 0 ≤ x * x := by
    rcases Rat.le_total (a := 0) (b := x) with hx | hx
    · exact Rat.mul_nonneg hx hx
    · have := Rat.mul_nonneg (a := -x) (b := -x) (by grind) (by grind)
      grind
  have hy : 0 ≤ y * y := by
    rcases Rat.le_total (a := 0) (b := y) with hx | hx
    · exact Rat.mul_nonneg hx hx
    · have := Rat.mul_nonneg (a := -y) (b := -y) (by grind) (by grind)
      grind
  have h1 : x * x = 0 := by grind
  have h2 : y * y = 0 := by grind
  exact ⟨by rcases Rat.mul_eq_zero.1 h1 with h | h <;> exact h, by rcases Rat.mul_eq_zero.1 h2 with h | h <;> exact h⟩
theorem toSeg_swap (a b p : Pt) : toSeg b a p = toSeg a b p := by
  have e1 : (b.way a).dot (b.way p) = (a.way b).dot (a.way b) - (a.way b).dot (a.way p) := by
    simp only [Pt.dot, Pt.way]; grind
  have e2 : (b.way a).dot (b.way a) = (a.way b).dot (a.way b) := by
    simp only [Pt.dot, Pt.way]; grind
  have e3 : (b.way a).cross (b.way p) * (b.way a).cross (b.way p) = (a.way b).cross (a.way p) * (a.way b).cross (a.way p) := by
    simp only [Pt.cross, Pt.way]; grind
  simp only [toSeg, e1, e2, e3]
  by_cases h1 : (a.way b).dot (a.way p) ≤ 0
  · by_cases h2 : (a.way b).dot (a.way b) ≤ (a.way b).dot (a.way p)
    · obtain ⟨z1, z2⟩ := sq_zero (x := (a.way b).x) (y := (a.way b).y) (by unfold Pt.dot at h1 h2; grind)
      have hq : a.way p = b.way p := by
        simp only [Pt.way] at z1 z2 ⊢
        have : b.x = a.x := by grind
        have : b.y = a.y := by grind
        simp [*]
      rw [if_pos h1, if_pos (by grind), hq]
    · rw [if_pos h1, if_neg (by grind), if_pos (by grind)]
  · by_cases h2 : (a.way b).dot (a.way b) ≤ (a.way b).dot (a.way p)
    · rw [if_neg h1, if_pos h2, if_pos (by grind)]
    · rw [if_neg h1, if_neg h2, if_neg (by grind), if_neg (by grind)]
theorem segs_swap (a b v : Pt) : segs b a v = segs a b v := by
  simp only [segs, segsI, segsN, toSeg_swap a b v]
  generalize toSeg a b v = t
  generalize toSeg v v a = x
  generalize toSeg v v b = y
  grind
theorem on_rev {p : Path} {v : Pt} {i : Nat} (h : i < p.length) : onP (rev p) v i ↔ onP p v (p.length - 1 - i) := by
  obtain ⟨e1, e2⟩ := rev_edge h
  unfold onP
  rw [e1, e2, segs_swap]
theorem hit_rev {p : Path} {v : Pt} {r : Int} {i : Nat} (h : i < p.length) : hit (rev p) v r i ↔ hit p v r (p.length - 1 - i) := by
  obtain ⟨e1, e2⟩ := rev_edge h
  unfold hit
  rw [e1, e2, segs_swap]
theorem flip_ex {n : Nat} {P Q : Nat → Prop} (h : ∀ i < n, P i ↔ Q (n - 1 - i)) : (∃ i, i < n ∧ P i) ↔ ∃ i, i < n ∧ Q i := by
  refine ⟨fun ⟨i, hi, hp⟩ => ⟨n - 1 - i, by omega, (h i hi).1 hp⟩, fun ⟨i, hi, hq⟩ => ⟨n - 1 - i, by omega, (h _ (by omega)).2 ?_⟩⟩
  rwa [show n - 1 - (n - 1 - i) = i by omega]
theorem hits_rev (p : Path) (v : Pt) (r : Int) : hits (rev p) v r ↔ hits p v r := by
  unfold hits
  rw [rev_len]
  exact flip_ex fun i hi => hit_rev hi
theorem wind_rev (p : Path) (v : Pt) : (wind (rev p) v).2 = (wind p v).2 ∧ (wind (rev p) v).1 = -(wind p v).1 := by
  have he : (∃ i, i < p.length ∧ onP (rev p) v i) ↔ ∃ i, i < p.length ∧ onP p v i := flip_ex fun i hi => on_rev hi
  unfold wind
  rw [rev_len]
  by_cases h : p.length = 0 ∨ ∃ i, i < p.length ∧ onP p v i
  · rw [if_pos h, if_pos (h.imp id he.2)]; exact ⟨rfl, rfl⟩
  · rw [if_neg h, if_neg (fun hh => h (hh.imp id he.1)), windI_rev]; exact ⟨rfl, rfl⟩
theorem wind_turned (p : Path) (v : Pt) (ccw : Bool) : (wind (turned p ccw) v).2 = (wind p v).2 ∧ ((wind p v).1 = (wind (turned p ccw) v).1 ∨ (wind p v).1 = -(wind (turned p ccw) v).1) := by
  unfold turned
  split
  · obtain ⟨h1, h2⟩ := wind_rev p v
    exact ⟨h1, .inr (by rw [h2]; omega)⟩
  · exact ⟨rfl, .inl rfl⟩
theorem covs_turned (p : Path) (v : Pt) (r : Int) (ccw : Bool) : covs [turned p ccw] r v = covs [p] r v := by
  unfold turned
  split
  · simp only [covs, List.any_cons, List.any_nil, Bool.or_false]
    congr 1
    rw [decide_eq_decide]
    exact hits_rev p v r
  · rfl

/-- The cells of any fraction. -/
structure QI where
  n : Bool
  l : List Nat
  d : Bool
  m : List Nat
def QI.cells (q : QI) : List L := eI q.n q.l ++ eI q.d q.m
def QI.ok (q : QI) : Prop := (∀ v ∈ q.l, v < 4294967296) ∧ ∀ v ∈ q.m, v < 4294967296
noncomputable def QI.small (q : QI) : Bool := smallQ 2 q.n q.l q.d q.m
theorem qsmall_ok (q : QI) (h : q.ok) : Ok Tryz.prog 17 [.ag q.cells, .lf (.int .i64 2)] ⟨[.lf (.bool q.small)], []⟩ := FSmall_ok 2 q.n q.l q.d q.m (by omega) h.1 h.2
theorem lsmall_ok (x y : QI) (hx : x.ok) (hy : y.ok) : Ok Tryz.prog 7 [.ag (x.cells ++ y.cells)] ⟨[.lf (.bool (x.small && y.small))], []⟩ := by
  have c1 := qsmall_ok x hx
  have c2 := qsmall_ok y hy
  unfold QI.cells eI at c1 c2 ⊢
  refine ok_of_V (T := Tb) tb_ok mo Tryz.func7 rfl (by kernel_rfl) (by kernel_rfl) (by simp [Tryz.ntmps7, mts]) ?_
  simp (maxSteps := 4000000) (dsimp := false) (disch := omega) only [go_sem, eZ, ↓reduceIte, Nat.reduceEqDiff, Nat.reduceMul, Nat.reduceAdd, Nat.reduceSub, Nat.reduceLT, Nat.reduceLeDiff, Nat.reduceBEq, reduceCtorEq, Int.reduceToNat, Int.reduceEq, Int.reduceLT, Int.reduceLE, Int.reduceNeg, Int.reduceSub, Int.reduceAdd, Int.reduceMul, Tryz.results7]
  refine callK c1 ?_
  simp (maxSteps := 4000000) (dsimp := false) (disch := omega) only [go_sem, eZ, ↓reduceIte, Nat.reduceEqDiff, Nat.reduceMul, Nat.reduceAdd, Nat.reduceSub, Nat.reduceLT, Nat.reduceLeDiff, Nat.reduceBEq, reduceCtorEq, Int.reduceToNat, Int.reduceEq, Int.reduceLT, Int.reduceLE, Int.reduceNeg, Int.reduceSub, Int.reduceAdd, Int.reduceMul, Tryz.results7]
  refine ⟨fun h => ?_, fun h => by rw [h]; rfl⟩
  refine callK c2 ?_
  simp (maxSteps := 4000000) (dsimp := false) (disch := omega) only [go_sem, eZ, ↓reduceIte, Nat.reduceEqDiff, Nat.reduceMul, Nat.reduceAdd, Nat.reduceSub, Nat.reduceLT, Nat.reduceLeDiff, Nat.reduceBEq, reduceCtorEq, Int.reduceToNat, Int.reduceEq, Int.reduceLT, Int.reduceLE, Int.reduceNeg, Int.reduceSub, Int.reduceAdd, Int.reduceMul, Tryz.results7]
  rw [h]; rfl
/-- Small cells are a point's. -/
theorem small_pt {x y : QI} (h : (x.small && y.small) = true) : ∃ v : Pt, x.cells ++ y.cells = eV v ∧ SV 2 v := by
  rw [Bool.and_eq_true] at h
  obtain ⟨a, ha, hsa⟩ := smallQ_iff.1 h.1
  obtain ⟨b, hb, hsb⟩ := smallQ_iff.1 h.2
  refine ⟨⟨a, b⟩, ?_, hsa, hsb⟩
  unfold QI.cells eV
  rw [ha, hb]
theorem few_grid {p : Path} (h : few p 8 = true) : Grid p ∧ p.length ≤ 8 := by
  unfold few at h
  rw [Bool.and_eq_true, decide_eq_true_eq, List.all_eq_true] at h
  exact ⟨fun g hg => by have := h.2 g hg; rw [decide_eq_true_eq] at this; exact this, h.1⟩
end Go.Proofs.YtdhgdpcmdmgchaaGreat.Fw
