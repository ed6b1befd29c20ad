/- From a reading of the arguments to abstract cells. Conditions: none. -/
import Derived.Test.YtdhgdpcmdmgchaaGreatFwDg
import Derived.Test.YtdhgdpcmdmgchaaGreatRows
import Derived.WalkKit
import Derived.ProofKit
import Derived.OpenShut
import Derived.ChangeOld
import Derived.Below
import Derived.SizedLaws
import Derived.Deep.SlicePairs
namespace Go.Proofs.YtdhgdpcmdmgchaaGreat.Fw
open Go Go.Proofs Go.ChangeShapes Go.WideShapes Go.ChangeAt Go.RowKit Go.Deep
set_option linter.unusedVariables false
set_option maxRecDepth 100000

theorem own : ownKnob Tryz.prog.godebug = none := by kernel_rfl
theorem laidOut : laidOutB Tryz.prog = true := by kernel_rfl

/-- A call that returns true as Ok says leaves what was there. -/
theorem calls_true {f : Nat} {args : List Arg} {w : World} {vs : List Value} (h : Ok Tryz.prog f args ⟨[.lf (.bool true)], []⟩) (hr : RepArgs w (fun b => b < w.heap.size) vs args []) :
    Calls Tryz.prog f vs.toArray w fun e w' => e = .returned (.bool true) ∧ Below w.heap.size w w' := by
  refine (h.2 w _ vs [] (fun b hb => hb) hr).mono fun e w' he => ?_
  obtain ⟨v, im', rfl, hfr, h1, h2, h3, hret, hout⟩ := he
  refine ⟨?_, hfr.os, hfr.tape, hfr.output, hfr.size, fun k hk => hfr.blk k hk (by simp)⟩
  have : RepL w' im' v (.bool true) := hret.1
  cases this; rfl

theorem add_none {b o n : Nat} : Addr.add ⟨b, o, none⟩ n = ⟨b, o + n, none⟩ := by
  unfold Addr.add; split
  · rename_i h; subst h; rfl
  · rfl
theorem cell_lt {W : World} {a : Addr} {n : Nat} {v : Value} (h : W.cell? (a.add n) = some v) : a.block < W.heap.size := by
  have hb : (a.add n).block = a.block := by unfold Addr.add; split <;> rfl
  rw [← hb]
  generalize a.add n = a at *
  by_cases hl : a.block < W.heap.size
  · exact hl
  · unfold World.cell? at h
    have : W.heap[a.block]? = none := Array.getElem?_eq_none (by omega)
    simp [this] at h
theorem path_of {H : Type} {enc : TypeId × Value → H} {W : World} {fuel : Nat} {a : Option Addr} {len cap : Nat} {x : DataW H × List MemPlace}
    (h : DataW.trod enc Tryz.prog W 0 (fun _ => true) true fuel 36 [.slice a len cap] = some x) :
    ∃ p : Path, PathOk p ∧ RepL W (fun b => b < W.heap.size) (.slice a len cap) (.sl 2 p.length (eG p)) := by
  rcases open_slice_pairs Tryz.underlying36 Tryz.underlying35 (by kernel_rfl) rfl rfl (by kernel_rfl) (by kernel_rfl) h with ⟨hcs, _⟩ | ⟨x, l, c, m, n, V0, V1, D0, D1, P0, P1, hcs, _, hl, hm, hmm, rfl, hx⟩
  · obtain ⟨rfl, rfl, rfl⟩ : a = none ∧ len = 0 ∧ cap = 0 := by simpa using hcs
    exact ⟨[], by simp [PathOk], .sl0 none 0 2⟩
  · obtain ⟨rfl, rfl, rfl⟩ : a = some x ∧ len = l ∧ cap = c := by simpa using hcs
    have each : ∀ i, i < len → ∃ g : Int × Int, (inR g.1 ∧ inR g.2) ∧ W.cell? (x.add (i * 2)) = some (.int .i64 g.1) ∧ W.cell? (x.add (i * 2 + 1)) = some (.int .i64 g.2) := by
      intro i hi
      obtain ⟨h1, h2, h3, h4⟩ := hx i (by rw [hmm]; simp; omega)
      obtain ⟨a0, e0, _, w0⟩ := DataW.trod_int Tryz.underlying2 h3
      obtain ⟨a1, e1, _, w1⟩ := DataW.trod_int Tryz.underlying2 h4
      simp only [List.cons.injEq, and_true] at e0 e1
      rw [e0] at h1
      rw [e1] at h2
      exact ⟨(a0, a1), ⟨bounds_i64 w0, bounds_i64 w1⟩, h1, h2⟩
    obtain ⟨g, hg⟩ := choose_lt each
    refine ⟨(List.range len).map g, ?_, ?_⟩
    · intro q hq
      obtain ⟨i, hi, rfl⟩ := List.mem_map.1 hq
      exact (hg i (List.mem_range.1 hi)).1
    · by_cases h0 : len = 0
      · subst h0; exact .sl0 _ _ _
      · obtain ⟨b, off, spot⟩ := x
        have hspot : spot = none := by
          have := World.cell?_spot (hg 0 (by omega)).2.1
          simpa [Addr.add] using this
        subst hspot
        have hlen : ((List.range len).map g).length = len := by simp
        have hcl := eG_length ((List.range len).map g)
        rw [hlen] at hcl ⊢
        have hb : b < W.heap.size := cell_lt (hg 0 (by omega)).2.1
        have key : ∀ p, p < len * 2 → W.cell? ⟨b, off + p, none⟩ = some (zval ((eG ((List.range len).map g)).getD p (.int .i64 0))) ∧ ((eG ((List.range len).map g)).getD p (.int .i64 0)).plain = true := by
          intro p hp
          obtain ⟨i, hi⟩ : ∃ i, p = i * 2 ∨ p = i * 2 + 1 := ⟨p / 2, by omega⟩
          have hil : i < len := by omega
          obtain ⟨e1, e2⟩ := getD_g (p := (List.range len).map g) (i := i) (by simpa using hil) (.int .i64 0)
          have hgp : gp ((List.range len).map g) i = g i := by simp [gp, hil]
          rw [hgp] at e1 e2
          have hgi := (hg i hil).2
          rcases hi with rfl | rfl
          · rw [e1]; exact ⟨by have := hgi.1; rw [add_none] at this; exact this, rfl⟩
          · rw [e2]; exact ⟨by have := hgi.2; rw [add_none] at this; exact this, rfl⟩
        refine .sl b off len cap 2 _ (fun p => zval ((eG ((List.range len).map g)).getD p (.int .i64 0))) hb hcl hl (fun p hp => (key p (by omega)).1) (fun p hp => ?_)
        have := rep_plain (w := W) (im := fun b => b < W.heap.size) (key p (by omega)).2
        rw [List.getD_eq_getElem?_getD, List.getElem?_eq_getElem hp] at this ⊢
        exact this

section
variable {H : Type} {enc : TypeId × Value → H} {W : World} {fuel : Nat} {cs : List Value} {x : DataW H × List MemPlace}
theorem limbs_of {a : Option Addr} {len cap : Nat} (h : DataW.trod enc Tryz.prog W 0 (fun _ => true) true fuel 23 [.slice a len cap] = some x) :
    ∃ l : List Nat, (∀ v ∈ l, v < 4294967296) ∧ RepL W (fun b => b < W.heap.size) (.slice a len cap) (.sl 1 l.length (List.map (fun v : Nat => L.int .u32 (v : Int)) l)) := by
  rcases open_ints Tryz.underlying23 Tryz.underlying84 (by kernel_rfl) h with ⟨hcs, _⟩ | ⟨x, l, c, zs, hcs, _, hl, hm, hz, _, hcell, hwz⟩
  · obtain ⟨rfl, rfl, rfl⟩ : a = none ∧ len = 0 ∧ cap = 0 := by simpa using hcs
    exact ⟨[], by simp, .sl0 none 0 1⟩
  · obtain ⟨rfl, rfl, rfl⟩ : a = some x ∧ len = l ∧ cap = c := by simpa using hcs
    have hzl : zs.length = cap := by simpa using hz
    have hb : ∀ z ∈ zs, 0 ≤ z ∧ z ≤ 4294967295 := fun z hz => bounds_u32 (hwz z hz)
    refine ⟨(zs.take len).map Int.toNat, ?_, ?_⟩
    · intro v hv
      obtain ⟨z, hz, rfl⟩ := List.mem_map.1 hv
      have := hb z (List.mem_of_mem_take hz)
      omega
    · have hln : ((zs.take len).map Int.toNat).length = len := by simp; omega
      rw [hln]
      by_cases h0 : len = 0
      · subst h0; exact .sl0 _ _ _
      · obtain ⟨b, off, spot⟩ := x
        have hspot : spot = none := by
          have := World.cell?_spot (hcell 0 (by omega))
          simpa [Addr.add] using this
        subst hspot
        have hbl : b < W.heap.size := cell_lt (hcell 0 (by omega))
        refine .sl b off len cap 1 _ (fun p => .int .u32 (zs.getD p 0)) hbl (by simp; omega) hl (fun p hp => ?_) (fun p hp => ?_)
        · have hp' : p < len := by simp at hp; omega
          have := hcell p (by omega)
          rwa [add_none] at this
        · have hp' : p < len := by simp at hp; omega
          have hpz : p < zs.length := by omega
          have := hb zs[p] (List.getElem_mem hpz)
          simp only [List.getElem_map, List.getElem_take]
          rw [List.getD_eq_getElem?_getD, List.getElem?_eq_getElem hpz, Option.getD_some, Int.toNat_of_nonneg this.1]
          exact .int _ _
theorem int_of (h : DataW.trod enc Tryz.prog W 0 (fun _ => true) true fuel 25 cs = some x) :
    ∃ neg l, (∀ v ∈ l, v < 4294967296) ∧ RepLs W (fun b => b < W.heap.size) cs (eI neg l) := by
  obtain ⟨y0, y1, n, _, hl, h0, h1⟩ := trod_struct2 Tryz.underlying25 h
  have hl2 : cs.length = 2 := hl.trans (by kernel_rfl)
  match cs, hl2 with
  | [c0, c1], _ =>
    have h0' : DataW.trod enc Tryz.prog W 0 (fun _ => true) true n 4 [c0] = some y0 := h0
    have h1' : DataW.trod enc Tryz.prog W 0 (fun _ => true) true n 23 [c1] = some y1 := h1
    obtain ⟨b, e0, _⟩ := DataW.trod_bool Tryz.underlying4 h0'
    obtain rfl : c0 = .bool b := by simpa using e0
    rcases DataW.trod_slice Tryz.underlying23 h1' with ⟨e1, _⟩ | ⟨a, len, cap, _, _, _, _, e1, _⟩
    · obtain rfl : c1 = .slice none 0 0 := by simpa using e1
      obtain ⟨l, hv, hr⟩ := limbs_of h1'
      exact ⟨b, l, hv, .cons (.bool b) (.cons hr .nil)⟩
    · obtain rfl : c1 = .slice (some a) len cap := by simpa using e1
      obtain ⟨l, hv, hr⟩ := limbs_of h1'
      exact ⟨b, l, hv, .cons (.bool b) (.cons hr .nil)⟩
theorem rat_of (h : DataW.trod enc Tryz.prog W 0 (fun _ => true) true fuel 27 cs = some x) :
    ∃ q : QI, q.ok ∧ RepLs W (fun b => b < W.heap.size) cs q.cells := by
  obtain ⟨y0, y1, n, _, hl, h0, h1⟩ := trod_struct2 Tryz.underlying27 h
  have hl2 : cs.length = 4 := hl.trans (by kernel_rfl)
  match cs, hl2 with
  | [c0, c1, c2, c3], _ =>
    have h0' : DataW.trod enc Tryz.prog W 0 (fun _ => true) true n 25 [c0, c1] = some y0 := h0
    have h1' : DataW.trod enc Tryz.prog W 0 (fun _ => true) true n 25 [c2, c3] = some y1 := h1
    obtain ⟨a, l, hv, hr⟩ := int_of h0'
    obtain ⟨b, m, hv', hr'⟩ := int_of h1'
    exact ⟨⟨a, l, b, m⟩, ⟨hv, hv'⟩, hr.append hr'⟩
theorem vec_of (h : DataW.trod enc Tryz.prog W 0 (fun _ => true) true fuel 29 cs = some x) :
    ∃ q r : QI, q.ok ∧ r.ok ∧ RepLs W (fun b => b < W.heap.size) cs (q.cells ++ r.cells) := by
  obtain ⟨y0, y1, n, _, hl, h0, h1⟩ := trod_struct2 Tryz.underlying29 h
  have hl2 : cs.length = 8 := hl.trans (by kernel_rfl)
  match cs, hl2 with
  | [c0, c1, c2, c3, c4, c5, c6, c7], _ =>
    have h0' : DataW.trod enc Tryz.prog W 0 (fun _ => true) true n 27 [c0, c1, c2, c3] = some y0 := h0
    have h1' : DataW.trod enc Tryz.prog W 0 (fun _ => true) true n 27 [c4, c5, c6, c7] = some y1 := h1
    obtain ⟨q, hq, hr⟩ := rat_of h0'
    obtain ⟨r, hq', hr'⟩ := rat_of h1'
    exact ⟨q, r, hq, hq', hr.append hr'⟩
end

end Go.Proofs.YtdhgdpcmdmgchaaGreat.Fw
