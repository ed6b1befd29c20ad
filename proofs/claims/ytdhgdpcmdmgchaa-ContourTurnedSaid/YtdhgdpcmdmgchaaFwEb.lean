/- The row of the law of Turned. Conditions: none. -/
import Derived.Test.YtdhgdpcmdmgchaaFwDg
import Derived.Test.YtdhgdpcmdmgchaaFwEa
namespace Go.Proofs.Ytdhgdpcmdmgchaa.Fw
open Go Go.Proofs Go.ChangeShapes Go.WideShapes Go.ChangeAt Go.RowKit Go.Deep
set_option linter.unusedVariables false
set_option linter.unusedSimpArgs false
set_option maxRecDepth 100000

section
variable {H : Type} {enc : TypeId × Value → H} {W : World} {fuel : Nat} {cs : List Value} {x : DataW H × List MemPlace}
theorem limbs_of {a : Option Addr} {len cap : Nat} (h : DataW.trod enc Try.prog W 0 (fun _ => true) true fuel 35 [.slice a len cap] = some x) :
    ∃ l : List Nat, (∀ v ∈ l, v < 4294967296) ∧ RepL W (fun b => b < W.heap.size) (.slice a len cap) (.sl 1 l.length (List.map (fun v : Nat => L.int .u32 (v : Int)) l)) := by
  rcases open_ints Try.underlying35 Try.underlying83 (by kernel_rfl) h with ⟨hcs, _⟩ | ⟨x, l, c, zs, hcs, _, hl, hm, hz, _, hcell, hwz⟩
  · obtain ⟨rfl, rfl, rfl⟩ : a = none ∧ len = 0 ∧ cap = 0 := by simpa using hcs
    exact ⟨[], by simp, .sl0 none 0 1⟩
  · obtain ⟨rfl, rfl, rfl⟩ : a = some x ∧ len = l ∧ cap = c := by simpa using hcs
    have hzl : zs.length = cap := by simpa using hz
    have hb : ∀ z ∈ zs, 0 ≤ z ∧ z ≤ 4294967295 := fun z hz => bounds_u32 (hwz z hz)
    refine ⟨(zs.take len).map Int.toNat, ?_, ?_⟩
    · intro v hv
      obtain ⟨z, hz, rfl⟩ := List.mem_map.1 hv
      have := hb z (List.mem_of_mem_take hz)
      omega
    · have hln : ((zs.take len).map Int.toNat).length = len := by simp; omega
      rw [hln]
      by_cases h0 : len = 0
      · subst h0; exact .sl0 _ _ _
      · obtain ⟨b, off, spot⟩ := x
        have hspot : spot = none := by
          have := World.cell?_spot (hcell 0 (by omega))
          simpa [Addr.add] using this
        subst hspot
        have hbl : b < W.heap.size := cell_lt (hcell 0 (by omega))
        refine .sl b off len cap 1 _ (fun p => .int .u32 (zs.getD p 0)) hbl (by simp; omega) hl (fun p hp => ?_) (fun p hp => ?_)
        · have hp' : p < len := by simp at hp; omega
          have := hcell p (by omega)
          rwa [add_none] at this
        · have hp' : p < len := by simp at hp; omega
          have hpz : p < zs.length := by omega
          have := hb zs[p] (List.getElem_mem hpz)
          simp only [List.getElem_map, List.getElem_take]
          rw [List.getD_eq_getElem?_getD, List.getElem?_eq_getElem hpz, Option.getD_some, Int.toNat_of_nonneg this.1]
          exact .int _ _
theorem int_of (h : DataW.trod enc Try.prog W 0 (fun _ => true) true fuel 37 cs = some x) :
    ∃ neg l, (∀ v ∈ l, v < 4294967296) ∧ RepLs W (fun b => b < W.heap.size) cs (eI neg l) := by
  obtain ⟨y0, y1, n, _, hl, h0, h1⟩ := trod_struct2 Try.underlying37 h
  have hl2 : cs.length = 2 := hl.trans (by kernel_rfl)
  match cs, hl2 with
  | [c0, c1], _ =>
    have h0' : DataW.trod enc Try.prog W 0 (fun _ => true) true n 4 [c0] = some y0 := h0
    have h1' : DataW.trod enc Try.prog W 0 (fun _ => true) true n 35 [c1] = some y1 := h1
    obtain ⟨b, e0, _⟩ := DataW.trod_bool Try.underlying4 h0'
    obtain rfl : c0 = .bool b := by simpa using e0
    rcases DataW.trod_slice Try.underlying35 h1' with ⟨e1, _⟩ | ⟨a, len, cap, _, _, _, _, e1, _⟩
    · obtain rfl : c1 = .slice none 0 0 := by simpa using e1
      obtain ⟨l, hv, hr⟩ := limbs_of h1'
      exact ⟨b, l, hv, .cons (.bool b) (.cons hr .nil)⟩
    · obtain rfl : c1 = .slice (some a) len cap := by simpa using e1
      obtain ⟨l, hv, hr⟩ := limbs_of h1'
      exact ⟨b, l, hv, .cons (.bool b) (.cons hr .nil)⟩
theorem rat_of (h : DataW.trod enc Try.prog W 0 (fun _ => true) true fuel 39 cs = some x) :
    ∃ q : QI, q.ok ∧ RepLs W (fun b => b < W.heap.size) cs q.cells := by
  obtain ⟨y0, y1, n, _, hl, h0, h1⟩ := trod_struct2 Try.underlying39 h
  have hl2 : cs.length = 4 := hl.trans (by kernel_rfl)
  match cs, hl2 with
  | [c0, c1, c2, c3], _ =>
    have h0' : DataW.trod enc Try.prog W 0 (fun _ => true) true n 37 [c0, c1] = some y0 := h0
    have h1' : DataW.trod enc Try.prog W 0 (fun _ => true) true n 37 [c2, c3] = some y1 := h1
    obtain ⟨a, l, hv, hr⟩ := int_of h0'
    obtain ⟨b, m, hv', hr'⟩ := int_of h1'
    exact ⟨⟨a, l, b, m⟩, ⟨hv, hv'⟩, hr.append hr'⟩
theorem vec_of (h : DataW.trod enc Try.prog W 0 (fun _ => true) true fuel 41 cs = some x) :
    ∃ q r : QI, q.ok ∧ r.ok ∧ RepLs W (fun b => b < W.heap.size) cs (q.cells ++ r.cells) := by
  obtain ⟨y0, y1, n, _, hl, h0, h1⟩ := trod_struct2 Try.underlying41 h
  have hl2 : cs.length = 8 := hl.trans (by kernel_rfl)
  match cs, hl2 with
  | [c0, c1, c2, c3, c4, c5, c6, c7], _ =>
    have h0' : DataW.trod enc Try.prog W 0 (fun _ => true) true n 39 [c0, c1, c2, c3] = some y0 := h0
    have h1' : DataW.trod enc Try.prog W 0 (fun _ => true) true n 39 [c4, c5, c6, c7] = some y1 := h1
    obtain ⟨q, hq, hr⟩ := rat_of h0'
    obtain ⟨r, hq', hr'⟩ := rat_of h1'
    exact ⟨q, r, hq, hq', hr.append hr'⟩
end

theorem turnedLifted (os : Os) (started : os.Started) (H : Type) (enc : TypeId × Value → H) :
    ReturnsInHanded {} Try.checked os 4 .any (Rows.contourTurnedSpec.pre6 enc Try.prog Try.f4 Rows.contourTurnedRow.domain false) (Rows.contourTurnedSpec.post enc Try.prog Try.f4 false true false false) := by
  refine returnsInHanded_of_change (C := Try.checked) own started (by kernel_rfl) Try.func4
    (ChangeSpec.witness6 (enc := enc) (C := Try.checked) false ⟨#[], #[.slice none 0 0, .bool false, .agg #[.bool false, .slice none 0 0, .bool false, .slice none 0 0, .bool false, .slice none 0 0, .bool false, .slice none 0 0]], []⟩ 8 (by kernel_rfl) (by kernel_rfl) (by kernel_rfl) (by kernel_rfl)) ?_
  intro W base args ds gs before hval0 hW hcnd _
  have hval : ∀ (j : Nat) t v, Try.f4.params[j]? = some t → args[j]? = some v → Value.okWide Try.prog W .any base t v := hval0
  have hW' := hW
  obtain ⟨p, q, hA0, hV, rfl, hfz, hnd⟩ := hW
  have hA : DataW.TrodAll enc Try.prog W 0 (fun _ => true) true Try.f4.params.toList args.toList ds p := hA0
  rw [Try.params4] at hA hval
  obtain ⟨v0, vs0, d0, ds0, p0, q0, hargs, rfl, rfl, h0, r0⟩ := trodAll_cons hA
  obtain ⟨v1, vs1, d1, ds1, p1, q1, rfl, rfl, rfl, h1, r1⟩ := trodAll_cons r0
  obtain ⟨v2, vs2, d2, ds2, p2, q2, rfl, rfl, rfl, h2, r2⟩ := trodAll_cons r1
  obtain ⟨rfl, rfl, rfl⟩ := trodAll_nil r2
  obtain rfl : args = #[v0, v1, v2] := by cases args; simp_all
  obtain ⟨rfl, rfl⟩ := trodVars_none hV
  obtain ⟨a0, len0, cap0, rfl⟩ := okWide_slice Try.underlying22 (hval 0 22 v0 rfl rfl)
  have k0 := h0
  have lt0 : ∀ x ∈ p0, x.block < W.heap.size := by obtain ⟨m, hm⟩ := k0; exact DataW.trod_lt m _ _ _ hm
  have k2 := h2
  have lt2 : ∀ x ∈ p2, x.block < W.heap.size := by obtain ⟨m, hm⟩ := k2; exact DataW.trod_lt m _ _ _ hm
  obtain ⟨pp, hpp, hrep⟩ : ∃ p : Path, PathOk p ∧ RepL W (fun b => b < W.heap.size) (.slice a0 len0 cap0) (.sl 2 p.length (eG p)) := by
    obtain ⟨fuel, hf⟩ := h0
    exact path_of hf
  obtain ⟨a1, rfl, rfl, rfl⟩ := open_bool Try.underlying4 (hval 1 4 v1 rfl rfl) h1
  obtain ⟨c2, rfl, hsz⟩ := okWide_struct Try.underlying41 (hval 2 41 v2 rfl rfl)
  obtain ⟨qx, qy, hqx, hqy, hrv⟩ : ∃ q r : QI, q.ok ∧ r.ok ∧ RepLs W (fun b => b < W.heap.size) c2.toList (q.cells ++ r.cells) := by
    obtain ⟨fuel, hf⟩ := h2
    exact vec_of hf
  clear hA0 hval0
  refine (calls_true (ContourTurned_ok pp a1 qx qy hpp hqx hqy) (.pure ⟨rfl, hrep⟩ (.pure ⟨rfl, .bool _⟩ (.pure ⟨rfl, c2.toList, rfl, hrv⟩ .nil)))).mono fun e W' ⟨he, bel⟩ => ?_
  subst he
  exact ⟨_, rfl, _, _, _, [], _, [], hW', trodAll_mk1 (shut_bool Try.underlying4 _), (trodAll_cons_mk (Below.trod laidOut (by kernel_rfl) (of_decide_eq_true (by kernel_rfl)) k0 bel lt0) (trodAll_cons_mk (shut_bool Try.underlying4 _) (trodAll_cons_mk (Below.trod laidOut (by kernel_rfl) (of_decide_eq_true (by kernel_rfl)) k2 bel lt2) trodAll_mk0))), rfl, bel.frame _, fun h => by cases h⟩

theorem turnedOver : Rows.contourTurnedRow.holds Try.pinned (OpenSpec.ofChange Rows.contourTurnedSpec) :=
  OpenClaim.holds_of_wide 4 Try.f4 rfl rfl rfl rfl rfl rfl rfl ⟨rfl, rfl, rfl, rfl, rfl⟩ rfl rfl rfl rfl rfl (by kernel_rfl) Try.func4 (by kernel_rfl)
    (of_decide_eq_true (by kernel_rfl)) (by unfold Func.isWrapper; first | (rw [if_pos (by decide +kernel)]; kernel_rfl) | (rw [if_neg (by decide +kernel)]; exact ⟨rfl, rfl⟩))
    (fun os started H enc _ => turnedLifted os started H enc)
theorem contourTurned_holds : Rows.ContourTurnedSaid := turnedOver
#print axioms contourTurned_holds
end Go.Proofs.Ytdhgdpcmdmgchaa.Fw
