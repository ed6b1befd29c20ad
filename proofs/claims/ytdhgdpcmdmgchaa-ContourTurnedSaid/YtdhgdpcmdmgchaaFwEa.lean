/- From a reading of the arguments to abstract cells. Conditions: none. -/
import Derived.Test.YtdhgdpcmdmgchaaFwDf
import Derived.Test.YtdhgdpcmdmgchaaRows
import Derived.WalkKit
import Derived.ProofKit
import Derived.OpenShut
import Derived.ChangeOld
import Derived.Below
import Derived.SizedLaws
import Derived.Deep.SlicePairs
namespace Go.Proofs.Ytdhgdpcmdmgchaa.Fw
open Go Go.Proofs Go.ChangeShapes Go.WideShapes Go.ChangeAt Go.RowKit Go.Deep
set_option linter.unusedVariables false
set_option maxRecDepth 100000

theorem own : ownKnob Try.prog.godebug = none := by kernel_rfl
theorem laidOut : laidOutB Try.prog = true := by kernel_rfl

/-- A call that returns true as Ok says leaves what was there. -/
theorem calls_true {f : Nat} {args : List Arg} {w : World} {vs : List Value} (h : Ok Try.prog f args ⟨[.lf (.bool true)], []⟩) (hr : RepArgs w (fun b => b < w.heap.size) vs args []) :
    Calls Try.prog f vs.toArray w fun e w' => e = .returned (.bool true) ∧ Below w.heap.size w w' := by
  refine (h.2 w _ vs [] (fun b hb => hb) hr).mono fun e w' he => ?_
  obtain ⟨v, im', rfl, hfr, h1, h2, h3, hret, hout⟩ := he
  refine ⟨?_, hfr.os, hfr.tape, hfr.output, hfr.size, fun k hk => hfr.blk k hk (by simp)⟩
  have : RepL w' im' v (.bool true) := hret.1
  cases this; rfl

theorem add_none {b o n : Nat} : Addr.add ⟨b, o, none⟩ n = ⟨b, o + n, none⟩ := by
  unfold Addr.add; split
  · rename_i h; subst h; rfl
  · rfl
theorem cell_lt {W : World} {a : Addr} {n : Nat} {v : Value} (h : W.cell? (a.add n) = some v) : a.block < W.heap.size := by
  have hb : (a.add n).block = a.block := by unfold Addr.add; split <;> rfl
  rw [← hb]
  generalize a.add n = a at *
  by_cases hl : a.block < W.heap.size
  · exact hl
  · unfold World.cell? at h
    have : W.heap[a.block]? = none := Array.getElem?_eq_none (by omega)
    simp [this] at h
theorem path_of {H : Type} {enc : TypeId × Value → H} {W : World} {fuel : Nat} {a : Option Addr} {len cap : Nat} {x : DataW H × List MemPlace}
    (h : DataW.trod enc Try.prog W 0 (fun _ => true) true fuel 22 [.slice a len cap] = some x) :
    ∃ p : Path, PathOk p ∧ RepL W (fun b => b < W.heap.size) (.slice a len cap) (.sl 2 p.length (eG p)) := by
  rcases open_slice_pairs Try.underlying22 Try.underlying29 (by kernel_rfl) rfl rfl (by kernel_rfl) (by kernel_rfl) h with ⟨hcs, _⟩ | ⟨x, l, c, m, n, V0, V1, D0, D1, P0, P1, hcs, _, hl, hm, hmm, rfl, hx⟩
  · obtain ⟨rfl, rfl, rfl⟩ : a = none ∧ len = 0 ∧ cap = 0 := by simpa using hcs
    exact ⟨[], by simp [PathOk], .sl0 none 0 2⟩
  · obtain ⟨rfl, rfl, rfl⟩ : a = some x ∧ len = l ∧ cap = c := by simpa using hcs
    have each : ∀ i, i < len → ∃ g : Int × Int, (inR g.1 ∧ inR g.2) ∧ W.cell? (x.add (i * 2)) = some (.int .i64 g.1) ∧ W.cell? (x.add (i * 2 + 1)) = some (.int .i64 g.2) := by
      intro i hi
      obtain ⟨h1, h2, h3, h4⟩ := hx i (by rw [hmm]; simp; omega)
      obtain ⟨a0, e0, _, w0⟩ := DataW.trod_int Try.underlying2 h3
      obtain ⟨a1, e1, _, w1⟩ := DataW.trod_int Try.underlying2 h4
      simp only [List.cons.injEq, and_true] at e0 e1
      rw [e0] at h1
      rw [e1] at h2
      exact ⟨(a0, a1), ⟨bounds_i64 w0, bounds_i64 w1⟩, h1, h2⟩
    obtain ⟨g, hg⟩ := choose_lt each
    refine ⟨(List.range len).map g, ?_, ?_⟩
    · intro q hq
      obtain ⟨i, hi, rfl⟩ := List.mem_map.1 hq
      exact (hg i (List.mem_range.1 hi)).1
    · by_cases h0 : len = 0
      · subst h0; exact .sl0 _ _ _
      · obtain ⟨b, off, spot⟩ := x
        have hspot : spot = none := by
          have := World.cell?_spot (hg 0 (by omega)).2.1
          simpa [Addr.add] using this
        subst hspot
        have hlen : ((List.range len).map g).length = len := by simp
        have hcl := eG_length ((List.range len).map g)
        rw [hlen] at hcl ⊢
        have hb : b < W.heap.size := cell_lt (hg 0 (by omega)).2.1
        have key : ∀ p, p < len * 2 → W.cell? ⟨b, off + p, none⟩ = some (zval ((eG ((List.range len).map g)).getD p (.int .i64 0))) ∧ ((eG ((List.range len).map g)).getD p (.int .i64 0)).plain = true := by
          intro p hp
          obtain ⟨i, hi⟩ : ∃ i, p = i * 2 ∨ p = i * 2 + 1 := ⟨p / 2, by omega⟩
          have hil : i < len := by omega
          obtain ⟨e1, e2⟩ := getD_g (p := (List.range len).map g) (i := i) (by simpa using hil) (.int .i64 0)
          have hgp : gp ((List.range len).map g) i = g i := by simp [gp, hil]
          rw [hgp] at e1 e2
          have hgi := (hg i hil).2
          rcases hi with rfl | rfl
          · rw [e1]; exact ⟨by have := hgi.1; rw [add_none] at this; exact this, rfl⟩
          · rw [e2]; exact ⟨by have := hgi.2; rw [add_none] at this; exact this, rfl⟩
        refine .sl b off len cap 2 _ (fun p => zval ((eG ((List.range len).map g)).getD p (.int .i64 0))) hb hcl hl (fun p hp => (key p (by omega)).1) (fun p hp => ?_)
        have := rep_plain (w := W) (im := fun b => b < W.heap.size) (key p (by omega)).2
        rw [List.getD_eq_getElem?_getD, List.getElem?_eq_getElem hp] at this ⊢
        exact this

theorem closedLifted (os : Os) (started : os.Started) (H : Type) (enc : TypeId × Value → H) :
    ReturnsInHanded {} Try.checked os 3 .any (Rows.contourClosedSpec.pre6 enc Try.prog Try.f3 Rows.contourClosedRow.domain false) (Rows.contourClosedSpec.post enc Try.prog Try.f3 false true false false) := by
  refine returnsInHanded_of_change (C := Try.checked) own started (by kernel_rfl) Try.func3
    (ChangeSpec.witness6 (enc := enc) (C := Try.checked) false ⟨#[], #[.slice none 0 0, .int .i64 0, .int .i64 0], []⟩ 8 (by kernel_rfl) (by kernel_rfl) (by kernel_rfl) (by kernel_rfl)) ?_
  intro W base args ds gs before hval0 hW hcnd _
  have hval : ∀ (j : Nat) t v, Try.f3.params[j]? = some t → args[j]? = some v → Value.okWide Try.prog W .any base t v := hval0
  have hW' := hW
  obtain ⟨p, q, hA0, hV, rfl, hfz, hnd⟩ := hW
  have hA : DataW.TrodAll enc Try.prog W 0 (fun _ => true) true Try.f3.params.toList args.toList ds p := hA0
  rw [Try.params3] at hA hval
  obtain ⟨v0, vs0, d0, ds0, p0, q0, hargs, rfl, rfl, h0, r0⟩ := trodAll_cons hA
  obtain ⟨v1, vs1, d1, ds1, p1, q1, rfl, rfl, rfl, h1, r1⟩ := trodAll_cons r0
  obtain ⟨v2, vs2, d2, ds2, p2, q2, rfl, rfl, rfl, h2, r2⟩ := trodAll_cons r1
  obtain ⟨rfl, rfl, rfl⟩ := trodAll_nil r2
  obtain rfl : args = #[v0, v1, v2] := by cases args; simp_all
  obtain ⟨rfl, rfl⟩ := trodVars_none hV
  obtain ⟨a0, len0, cap0, rfl⟩ := okWide_slice Try.underlying22 (hval 0 22 v0 rfl rfl)
  have k0 := h0
  have lt0 : ∀ x ∈ p0, x.block < W.heap.size := by obtain ⟨m, hm⟩ := k0; exact DataW.trod_lt m _ _ _ hm
  obtain ⟨pp, hpp, hrep⟩ : ∃ p : Path, PathOk p ∧ RepL W (fun b => b < W.heap.size) (.slice a0 len0 cap0) (.sl 2 p.length (eG p)) := by
    obtain ⟨fuel, hf⟩ := h0
    exact path_of hf
  obtain ⟨a1, rfl, rfl, rfl, w1⟩ := open_int Try.underlying2 (hval 1 2 v1 rfl rfl) h1
  obtain ⟨a2, rfl, rfl, rfl, w2⟩ := open_int Try.underlying2 (hval 2 2 v2 rfl rfl) h2
  clear hA0 hval0
  refine (calls_true (ContourClosed_ok pp a1 a2 hpp) (.pure ⟨rfl, hrep⟩ (.pure ⟨rfl, .int _ _⟩ (.pure ⟨rfl, .int _ _⟩ .nil)))).mono fun e W' ⟨he, bel⟩ => ?_
  subst he
  exact ⟨_, rfl, _, _, _, [], _, [], hW', trodAll_mk1 (shut_bool Try.underlying4 _), (trodAll_cons_mk (Below.trod laidOut (by kernel_rfl) (of_decide_eq_true (by kernel_rfl)) k0 bel lt0) (trodAll_cons_mk (shut_int Try.underlying2 w1) (trodAll_cons_mk (shut_int Try.underlying2 w2) trodAll_mk0))), rfl, bel.frame _, fun h => by cases h⟩

theorem closedOver : Rows.contourClosedRow.holds Try.pinned (OpenSpec.ofChange Rows.contourClosedSpec) :=
  OpenClaim.holds_of_wide 3 Try.f3 rfl rfl rfl rfl rfl rfl rfl ⟨rfl, rfl, rfl, rfl, rfl⟩ rfl rfl rfl rfl rfl (by kernel_rfl) Try.func3 (by kernel_rfl)
    (of_decide_eq_true (by kernel_rfl)) (by unfold Func.isWrapper; first | (rw [if_pos (by decide +kernel)]; kernel_rfl) | (rw [if_neg (by decide +kernel)]; exact ⟨rfl, rfl⟩))
    (fun os started H enc _ => closedLifted os started H enc)
theorem contourClosed_holds : Rows.ContourClosedSaid := closedOver
#print axioms contourClosed_holds
end Go.Proofs.Ytdhgdpcmdmgchaa.Fw
