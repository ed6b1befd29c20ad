/- The rows of the laws of Covered and Winding. Conditions: none. -/
import Derived.Test.YtdhgdpcmdmgchaaGreatFwGd
import Derived.Test.YtdhgdpcmdmgchaaGreatFwEa
namespace Go.Proofs.YtdhgdpcmdmgchaaGreat.Fw
open Go Go.Proofs Go.ChangeShapes Go.WideShapes Go.ChangeAt Go.RowKit Go.Deep
set_option linter.unusedSimpArgs false
set_option linter.unusedVariables false
set_option maxHeartbeats 2000000
set_option maxRecDepth 100000


section
variable {H : Type} {enc : TypeId × Value → H} {W : World} {fuel : Nat}
theorem paths_of {a : Option Addr} {len cap : Nat} {x : DataW H × List MemPlace}
    (h : DataW.trod enc Tryz.prog W 0 (fun _ => true) true fuel 22 [.slice a len cap] = some x) :
    ∃ ps : List Path, (∀ p ∈ ps, PathOk p) ∧ RepL W (fun b => b < W.heap.size) (.slice a len cap) (.sl 1 ps.length (ps.map fun p => .sl 2 p.length (eG p))) := by
  rcases open_slice1 Tryz.underlying22 (by kernel_rfl) h with ⟨hcs, _⟩ | ⟨x, l, c, m, n, V0, D0, P0, hcs, _, hl, hm, hmm, rfl, hx⟩
  · obtain ⟨rfl, rfl, rfl⟩ : a = none ∧ len = 0 ∧ cap = 0 := by simpa using hcs
    exact ⟨[], by simp, .sl0 none 0 1⟩
  · obtain ⟨rfl, rfl, rfl⟩ : a = some x ∧ len = l ∧ cap = c := by simpa using hcs
    have each : ∀ i, i < len → ∃ p : Path, PathOk p ∧ W.cell? (x.add i) = some (V0 i) ∧ RepL W (fun b => b < W.heap.size) (V0 i) (.sl 2 p.length (eG p)) := by
      intro i hi
      obtain ⟨h1, h2⟩ := hx i (by rw [hmm]; simp; omega)
      have h3 := h2
      rcases DataW.trod_slice Tryz.underlying36 h3 with ⟨e1, _⟩ | ⟨a', len', cap', _, _, _, _, e1, _⟩
      · simp only [List.cons.injEq, and_true] at e1
        rw [e1] at h1 h2
        obtain ⟨p, hp, hr⟩ := path_of h2
        exact ⟨p, hp, by rw [e1]; exact h1, by rw [e1]; exact hr⟩
      · simp only [List.cons.injEq, and_true] at e1
        rw [e1] at h1 h2
        obtain ⟨p, hp, hr⟩ := path_of h2
        exact ⟨p, hp, by rw [e1]; exact h1, by rw [e1]; exact hr⟩
    obtain ⟨g, hg⟩ := choose_lt each
    refine ⟨(List.range len).map g, ?_, ?_⟩
    · intro q hq
      obtain ⟨i, hi, rfl⟩ := List.mem_map.1 hq
      exact (hg i (List.mem_range.1 hi)).1
    · by_cases h0 : len = 0
      · subst h0; exact .sl0 _ _ _
      · obtain ⟨b, off, spot⟩ := x
        have hspot : spot = none := by
          have := World.cell?_spot (hg 0 (by omega)).2.1
          simpa [Addr.add] using this
        subst hspot
        have hlen : ((List.range len).map g).length = len := by simp
        rw [hlen]
        have hb : b < W.heap.size := cell_lt (hg 0 (by omega)).2.1
        refine .sl b off len cap 1 _ V0 hb (by simp) hl (fun p hp => ?_) (fun p hp => ?_)
        · have hp' : p < len := by simpa using hp
          have := (hg p hp').2.1
          rw [add_none] at this; exact this
        · have hp' : p < len := by simpa using hp
          simpa using (hg p hp').2.2
end

theorem windingLifted (os : Os) (started : os.Started) (H : Type) (enc : TypeId × Value → H) :
    ReturnsInHanded {} Tryz.checked os 4 .any (Rows.contourWindingSpec.pre6 enc Tryz.prog Tryz.f4 Rows.contourWindingRow.domain false) (Rows.contourWindingSpec.post enc Tryz.prog Tryz.f4 false true false false) := by
  refine returnsInHanded_of_change (C := Tryz.checked) own started (by kernel_rfl) Tryz.func4
    (ChangeSpec.witness6 (enc := enc) (C := Tryz.checked) false ⟨#[], #[.slice none 0 0, .agg #[.bool false, .slice none 0 0, .bool false, .slice none 0 0, .bool false, .slice none 0 0, .bool false, .slice none 0 0]], []⟩ 8 (by kernel_rfl) (by kernel_rfl) (by kernel_rfl) (by kernel_rfl)) ?_
  intro W base args ds gs before hval0 hW hcnd _
  have hval : ∀ (j : Nat) t v, Tryz.f4.params[j]? = some t → args[j]? = some v → Value.okWide Tryz.prog W .any base t v := hval0
  have hW' := hW
  obtain ⟨p, q, hA0, hV, rfl, hfz, hnd⟩ := hW
  have hA : DataW.TrodAll enc Tryz.prog W 0 (fun _ => true) true Tryz.f4.params.toList args.toList ds p := hA0
  rw [Tryz.params4] at hA hval
  obtain ⟨v0, vs0, d0, ds0, p0, q0, hargs, rfl, rfl, h0, r0⟩ := trodAll_cons hA
  obtain ⟨v2, vs2, d2, ds2, p2, q2, rfl, rfl, rfl, h2, r2⟩ := trodAll_cons r0
  obtain ⟨rfl, rfl, rfl⟩ := trodAll_nil r2
  obtain rfl : args = #[v0, v2] := by cases args; simp_all
  obtain ⟨rfl, rfl⟩ := trodVars_none hV
  obtain ⟨a0, len0, cap0, rfl⟩ := okWide_slice Tryz.underlying36 (hval 0 36 v0 rfl rfl)
  have k0 := h0
  have lt0 : ∀ x ∈ p0, x.block < W.heap.size := by obtain ⟨m, hm⟩ := k0; exact DataW.trod_lt m _ _ _ hm
  have k2 := h2
  have lt2 : ∀ x ∈ p2, x.block < W.heap.size := by obtain ⟨m, hm⟩ := k2; exact DataW.trod_lt m _ _ _ hm
  obtain ⟨pp, hpp, hrep⟩ : ∃ p : Path, PathOk p ∧ RepL W (fun b => b < W.heap.size) (.slice a0 len0 cap0) (.sl 2 p.length (eG p)) := by
    obtain ⟨fuel, hf⟩ := h0
    exact path_of hf
  obtain ⟨c2, rfl, hsz⟩ := okWide_struct Tryz.underlying29 (hval 1 29 v2 rfl rfl)
  obtain ⟨qx, qy, hqx, hqy, hrv⟩ : ∃ q r : QI, q.ok ∧ r.ok ∧ RepLs W (fun b => b < W.heap.size) c2.toList (q.cells ++ r.cells) := by
    obtain ⟨fuel, hf⟩ := h2
    exact vec_of hf
  clear hA0 hval0
  refine (calls_true (ContourWinding_ok pp qx qy hpp hqx hqy) (.pure ⟨rfl, hrep⟩ (.pure ⟨rfl, c2.toList, rfl, hrv⟩ .nil))).mono fun e W' ⟨he, bel⟩ => ?_
  subst he
  exact ⟨_, rfl, _, _, _, [], _, [], hW', trodAll_mk1 (shut_bool Tryz.underlying4 _), (trodAll_cons_mk (Below.trod laidOut (by kernel_rfl) (of_decide_eq_true (by kernel_rfl)) k0 bel lt0) (trodAll_cons_mk (Below.trod laidOut (by kernel_rfl) (of_decide_eq_true (by kernel_rfl)) k2 bel lt2) trodAll_mk0)), rfl, bel.frame _, fun h => by cases h⟩

theorem windingOver : Rows.contourWindingRow.holds Tryz.pinned (OpenSpec.ofChange Rows.contourWindingSpec) :=
  OpenClaim.holds_of_wide 4 Tryz.f4 rfl rfl rfl rfl rfl rfl rfl ⟨rfl, rfl, rfl, rfl, rfl⟩ rfl rfl rfl rfl rfl (by kernel_rfl) Tryz.func4 (by kernel_rfl)
    (of_decide_eq_true (by kernel_rfl)) (by unfold Func.isWrapper; first | (rw [if_pos (by decide +kernel)]; kernel_rfl) | (rw [if_neg (by decide +kernel)]; exact ⟨rfl, rfl⟩))
    (fun os started H enc _ => windingLifted os started H enc)
theorem contourWinding_holds : Rows.ContourWindingSaid := windingOver
#print axioms contourWinding_holds

theorem coveredLifted (os : Os) (started : os.Started) (H : Type) (enc : TypeId × Value → H) :
    ReturnsInHanded {} Tryz.checked os 3 .any (Rows.contourCoveredSpec.pre6 enc Tryz.prog Tryz.f3 Rows.contourCoveredRow.domain false) (Rows.contourCoveredSpec.post enc Tryz.prog Tryz.f3 false true false false) := by
  refine returnsInHanded_of_change (C := Tryz.checked) own started (by kernel_rfl) Tryz.func3
    (ChangeSpec.witness6 (enc := enc) (C := Tryz.checked) false ⟨#[], #[.slice none 0 0, .int .i64 0, .agg #[.bool false, .slice none 0 0, .bool false, .slice none 0 0, .bool false, .slice none 0 0, .bool false, .slice none 0 0]], []⟩ 8 (by kernel_rfl) (by kernel_rfl) (by kernel_rfl) (by kernel_rfl)) ?_
  intro W base args ds gs before hval0 hW hcnd _
  have hval : ∀ (j : Nat) t v, Tryz.f3.params[j]? = some t → args[j]? = some v → Value.okWide Tryz.prog W .any base t v := hval0
  have hW' := hW
  obtain ⟨p, q, hA0, hV, rfl, hfz, hnd⟩ := hW
  have hA : DataW.TrodAll enc Tryz.prog W 0 (fun _ => true) true Tryz.f3.params.toList args.toList ds p := hA0
  rw [Tryz.params3] at hA hval
  obtain ⟨v0, vs0, d0, ds0, p0, q0, hargs, rfl, rfl, h0, r0⟩ := trodAll_cons hA
  obtain ⟨v1, vs1, d1, ds1, p1, q1, rfl, rfl, rfl, h1, r1⟩ := trodAll_cons r0
  obtain ⟨v2, vs2, d2, ds2, p2, q2, rfl, rfl, rfl, h2, r2⟩ := trodAll_cons r1
  obtain ⟨rfl, rfl, rfl⟩ := trodAll_nil r2
  obtain rfl : args = #[v0, v1, v2] := by cases args; simp_all
  obtain ⟨rfl, rfl⟩ := trodVars_none hV
  obtain ⟨a0, len0, cap0, rfl⟩ := okWide_slice Tryz.underlying22 (hval 0 22 v0 rfl rfl)
  have k0 := h0
  have lt0 : ∀ x ∈ p0, x.block < W.heap.size := by obtain ⟨m, hm⟩ := k0; exact DataW.trod_lt m _ _ _ hm
  have k2 := h2
  have lt2 : ∀ x ∈ p2, x.block < W.heap.size := by obtain ⟨m, hm⟩ := k2; exact DataW.trod_lt m _ _ _ hm
  obtain ⟨pp, hpp, hrep⟩ : ∃ ps : List Path, (∀ p ∈ ps, PathOk p) ∧ RepL W (fun b => b < W.heap.size) (.slice a0 len0 cap0) (.sl 1 ps.length (ps.map fun p => .sl 2 p.length (eG p))) := by
    obtain ⟨fuel, hf⟩ := h0
    exact paths_of hf
  obtain ⟨a1, rfl, rfl, rfl, w1⟩ := open_int Tryz.underlying2 (hval 1 2 v1 rfl rfl) h1
  obtain ⟨c2, rfl, hsz⟩ := okWide_struct Tryz.underlying29 (hval 2 29 v2 rfl rfl)
  obtain ⟨qx, qy, hqx, hqy, hrv⟩ : ∃ q r : QI, q.ok ∧ r.ok ∧ RepLs W (fun b => b < W.heap.size) c2.toList (q.cells ++ r.cells) := by
    obtain ⟨fuel, hf⟩ := h2
    exact vec_of hf
  clear hA0 hval0
  refine (calls_true (ContourCovered_ok pp a1 qx qy (bounds_i64 w1) hqx hqy) (.pure ⟨rfl, hrep⟩ (.pure ⟨rfl, .int _ _⟩ (.pure ⟨rfl, c2.toList, rfl, hrv⟩ .nil)))).mono fun e W' ⟨he, bel⟩ => ?_
  subst he
  exact ⟨_, rfl, _, _, _, [], _, [], hW', trodAll_mk1 (shut_bool Tryz.underlying4 _), (trodAll_cons_mk (Below.trod laidOut (by kernel_rfl) (of_decide_eq_true (by kernel_rfl)) k0 bel lt0) (trodAll_cons_mk (shut_int Tryz.underlying2 w1) (trodAll_cons_mk (Below.trod laidOut (by kernel_rfl) (of_decide_eq_true (by kernel_rfl)) k2 bel lt2) trodAll_mk0))), rfl, bel.frame _, fun h => by cases h⟩

theorem coveredOver : Rows.contourCoveredRow.holds Tryz.pinned (OpenSpec.ofChange Rows.contourCoveredSpec) :=
  OpenClaim.holds_of_wide 3 Tryz.f3 rfl rfl rfl rfl rfl rfl rfl ⟨rfl, rfl, rfl, rfl, rfl⟩ rfl rfl rfl rfl rfl (by kernel_rfl) Tryz.func3 (by kernel_rfl)
    (of_decide_eq_true (by kernel_rfl)) (by unfold Func.isWrapper; first | (rw [if_pos (by decide +kernel)]; kernel_rfl) | (rw [if_neg (by decide +kernel)]; exact ⟨rfl, rfl⟩))
    (fun os started H enc _ => coveredLifted os started H enc)
theorem contourCovered_holds : Rows.ContourCoveredSaid := coveredOver
#print axioms contourCovered_holds
end Go.Proofs.YtdhgdpcmdmgchaaGreat.Fw
