/- The framework's words: pure leaves, abstract values and states, and how they stand to the machine's. Conditions: none. -/
import Derived.Calls
import Derived.Orders
import Derived.Laws.AppendOwn
import Derived.Laws.MakeOwn
import Derived.Laws.CopyRow
import Derived.Laws.Rows
import Derived.Laws.Slices
import Derived.KernelRfl
namespace Go.Proofs.YtdhgdpcmdmgchaaGreat.Fw
open Go

/-- What one cell holds, as data: a slice is the list of its cells. -/
inductive L where
  | int (k : IntKind) (n : Int)
  | bool (b : Bool)
  | fn (f : FuncId)
  | sl (sz n : Nat) (cs : List L)

instance : Inhabited L := ⟨.bool false⟩

/-- A value in world w reads as leaf l; the slices' blocks are among those of im. -/
inductive RepL (w : World) (im : Nat → Prop) : Value → L → Prop where
  | int (k n) : RepL w im (.int k n) (.int k n)
  | bool (b) : RepL w im (.bool b) (.bool b)
  | fn (f) : RepL w im (.func (.func f) #[] #[]) (.fn f)
  | sl0 (A c sz) : RepL w im (.slice A 0 c) (.sl sz 0 [])
  | sl (b o n c sz : Nat) (cs : List L) (vf : Nat → Value) (hb : im b) (hl : cs.length = n * sz) (hc : n ≤ c)
      (hv : ∀ p, p < cs.length → w.cell? ⟨b, o + p, none⟩ = some (vf p))
      (hr : ∀ p (h : p < cs.length), RepL w im (vf p) cs[p]) : RepL w im (.slice (some ⟨b, o, none⟩) n c) (.sl sz n cs)

theorem RepL.mono {w w' : World} {im im' : Nat → Prop} (hi : ∀ b, im b → im' b) (hw : ∀ b, im b → w'.heap[b]? = w.heap[b]?) {v : Value} {l : L}
    (h : RepL w im v l) : RepL w' im' v l := by
  induction h with
  | int k n => exact .int k n
  | bool b => exact .bool b
  | fn f => exact .fn f
  | sl0 A c sz => exact .sl0 A c sz
  | sl b o n c sz cs vf hb hl hc hv hr ih =>
    exact .sl b o n c sz cs vf (hi b hb) hl hc (fun p hp => (World.cell?_of_block (w := w) (hw b hb)).trans (hv p hp)) ih

theorem RepL.oneCell {w : World} {im : Nat → Prop} {v : Value} {l : L} (h : RepL w im v l) : v.oneCell' = true := by
  cases h <;> rfl

theorem RepL.cells {w : World} {im : Nat → Prop} {v : Value} {l : L} (h : RepL w im v l) : v.cells = #[v] := by
  cases h <;> rfl

/-- A list of cells reads as a list of leaves. -/
def RepLs (w : World) (im : Nat → Prop) (vs : List Value) (ls : List L) : Prop :=
  vs.length = ls.length ∧ ∀ p (h : p < ls.length), ∃ v, vs[p]? = some v ∧ RepL w im v ls[p]

theorem RepLs.mono {w w' : World} {im im' : Nat → Prop} (hi : ∀ b, im b → im' b) (hw : ∀ b, im b → w'.heap[b]? = w.heap[b]?) {vs : List Value} {ls : List L}
    (h : RepLs w im vs ls) : RepLs w' im' vs ls :=
  ⟨h.1, fun p hp => let ⟨v, h1, h2⟩ := h.2 p hp; ⟨v, h1, h2.mono hi hw⟩⟩

theorem RepLs.nil {w : World} {im : Nat → Prop} : RepLs w im [] [] := ⟨rfl, fun p h => by simp at h⟩

theorem RepLs.cons {w : World} {im : Nat → Prop} {v : Value} {l : L} {vs : List Value} {ls : List L} (h : RepL w im v l) (h' : RepLs w im vs ls) : RepLs w im (v :: vs) (l :: ls) := by
  refine ⟨by simp [h'.1], fun p hp => ?_⟩
  cases p with
  | zero => exact ⟨v, rfl, h⟩
  | succ p => simpa using h'.2 p (by simpa using hp)

theorem RepLs.one {w : World} {im : Nat → Prop} {v : Value} {l : L} (h : RepL w im v l) : RepLs w im [v] [l] := .cons h .nil

theorem RepLs.append {w : World} {im : Nat → Prop} {vs vs' : List Value} {ls ls' : List L} (h : RepLs w im vs ls) (h' : RepLs w im vs' ls') : RepLs w im (vs ++ vs') (ls ++ ls') := by
  refine ⟨by simp [h.1, h'.1], fun p hp => ?_⟩
  by_cases hlt : p < ls.length
  · obtain ⟨v, h1, h2⟩ := h.2 p hlt
    refine ⟨v, ?_, by simpa [List.getElem_append_left hlt] using h2⟩
    rw [List.getElem?_append_left (by rw [h.1]; exact hlt)]; exact h1
  · have hp' : p - ls.length < ls'.length := by simp at hp; omega
    obtain ⟨v, h1, h2⟩ := h'.2 _ hp'
    refine ⟨v, ?_, by simpa [List.getElem_append_right (Nat.le_of_not_lt hlt)] using h2⟩
    rw [List.getElem?_append_right (by rw [h.1]; omega), h.1]; exact h1

theorem RepLs.drop {w : World} {im : Nat → Prop} {vs : List Value} {ls : List L} (n : Nat) (h : RepLs w im vs ls) : RepLs w im (vs.drop n) (ls.drop n) := by
  refine ⟨by simp [h.1], fun p hp => ?_⟩
  obtain ⟨v, h1, h2⟩ := h.2 (n + p) (by simp at hp; omega)
  exact ⟨v, by simpa using h1, by simpa using h2⟩

theorem RepLs.take {w : World} {im : Nat → Prop} {vs : List Value} {ls : List L} (n : Nat) (h : RepLs w im vs ls) : RepLs w im (vs.take n) (ls.take n) := by
  refine ⟨by simp [h.1], fun p hp => ?_⟩
  simp at hp
  obtain ⟨v, h1, h2⟩ := h.2 p (by omega)
  exact ⟨v, by rw [List.getElem?_take_of_lt (by omega)]; exact h1, by simpa using h2⟩

theorem RepLs.oneCell {w : World} {im : Nat → Prop} {vs : List Value} {ls : List L} (h : RepLs w im vs ls) : ∀ v ∈ vs, v.oneCell' = true := by
  intro v hv
  obtain ⟨p, hp, rfl⟩ := List.getElem_of_mem hv
  obtain ⟨v, h1, h2⟩ := h.2 p (h.1 ▸ hp)
  rw [List.getElem?_eq_getElem hp] at h1
  cases h1
  exact h2.oneCell

theorem RepLs.flatten {w : World} {im : Nat → Prop} {zs : List Value} {ls : List L} (h : RepLs w im zs ls) (n : Nat) : RepLs w im (List.replicate n zs).flatten (List.replicate n ls).flatten := by
  induction n with
  | zero => exact .nil
  | succ n ih => simp only [List.replicate_succ, List.flatten_cons]; exact h.append ih

/-- The cells of a stretch: from place p on, n of them. -/
def seg (p n : Nat) (cs : List L) : List L := (cs.drop p).take n
/-- ls written over cs from place p on. -/
def splice (p : Nat) (ls cs : List L) : List L := cs.take p ++ ls ++ cs.drop (p + ls.length)

theorem RepLs.seg {w : World} {im : Nat → Prop} {vs : List Value} {ls : List L} (p n : Nat) (h : RepLs w im vs ls) : RepLs w im ((vs.drop p).take n) (seg p n ls) := (h.drop p).take n
theorem RepLs.splice {w : World} {im : Nat → Prop} {vs us : List Value} {cs ls : List L} (p : Nat) (h : RepLs w im vs cs) (h' : RepLs w im us ls) :
    RepLs w im (vs.take p ++ us ++ vs.drop (p + us.length)) (splice p ls cs) := by
  rw [h'.1]; exact ((h.take p).append h').append (h.drop _)
theorem splice_length {p : Nat} {ls cs : List L} (h : p + ls.length ≤ cs.length) : (splice p ls cs).length = cs.length := by
  simp [Fw.splice]; omega

/-- A leaf that stands for itself in any world: a zero. -/
def zval : L → Value
  | .int k n => .int k n
  | .bool b => .bool b
  | .fn f => .func (.func f) #[] #[]
  | .sl _ _ _ => .slice none 0 0
def L.plain : L → Bool
  | .sl _ 0 [] => true
  | .sl _ _ _ => false
  | _ => true
theorem rep_plain {w : World} {im : Nat → Prop} {l : L} (h : l.plain = true) : RepL w im (zval l) l := by
  cases l with
  | int k n => exact .int k n
  | bool b => exact .bool b
  | fn f => exact .fn f
  | sl sz n cs => cases n <;> cases cs <;> first | exact .sl0 none 0 sz | (simp [L.plain] at h)

/-- What a slot holds. -/
inductive AV where
  | undef
  | lf (l : L)
  | ag (ls : List L)
  | nils
  | row (i sz off len : Nat)
  | ad (i p : Nat)
  | pt (sz n : Nat) (cs : List L) (p : Nat)
  | tup (vs : List AV)
instance : Inhabited AV := ⟨.undef⟩

/-- A block of the call's own: its elements' cells, how many elements, the cells; st: 0 may be written and appended to; 1 may be written; 2 read only; 3 gone. -/
structure Blk where
  sz : Nat
  n : Nat
  cs : List L
  st : Nat

structure Place where
  b : Nat
  o : Nat
  cap : Nat

structure St where
  slots : Nat → AV
  blks : Nat → Option Blk

inductive RepA (w : World) (im : Nat → Prop) (pl : Nat → Option Place) : Value → AV → Prop where
  | undef (v) : RepA w im pl v .undef
  | lf {v l} (h : RepL w im v l) : RepA w im pl v (.lf l)
  | ag {cs : List Value} {ls} (h : RepLs w im cs ls) : RepA w im pl (.agg cs.toArray) (.ag ls)
  | nils : RepA w im pl (.slice none 0 0) .nils
  | row0 (A i sz off) : RepA w im pl (.slice A 0 0) (.row i sz off 0)
  | row {i sz off len c} {p : Place} (hp : pl i = some p) (h1 : off + c ≤ p.cap) (h2 : len ≤ c) : RepA w im pl (.slice (some ⟨p.b, p.o + off * sz, none⟩) len c) (.row i sz off len)
  | ad {i q} {p : Place} (hp : pl i = some p) : RepA w im pl (.pointer (some ⟨p.b, p.o + q, none⟩)) (.ad i q)
  | pt {sz n p : Nat} {cs : List L} {b o : Nat} {vs : List Value} (hb : im b) (hl : cs.length = n * sz) (hv : ∀ q v, vs[q]? = some v → w.cell? ⟨b, o + q, none⟩ = some v) (hr : RepLs w im vs cs) :
      RepA w im pl (.pointer (some ⟨b, o + p, none⟩)) (.pt sz n cs p)
  | tup {vs : List Value} {as : List AV} (hl : vs.length = as.length) (h : ∀ p (h : p < as.length) (h' : p < vs.length), RepA w im pl vs[p] as[p]) : RepA w im pl (.tuple vs.toArray) (.tup as)

theorem RepA.mono {w w' : World} {im im' : Nat → Prop} {pl pl' : Nat → Option Place} (hi : ∀ b, im b → im' b) (hw : ∀ b, im b → w'.heap[b]? = w.heap[b]?)
    (hp : ∀ i p, pl i = some p → pl' i = some p) {v : Value} {x : AV} (h : RepA w im pl v x) : RepA w' im' pl' v x := by
  induction h with
  | undef v => exact .undef v
  | lf h => exact .lf (h.mono hi hw)
  | ag h => exact .ag (h.mono hi hw)
  | nils => exact .nils
  | row0 A i sz off => exact .row0 A i sz off
  | row h h1 h2 => exact .row (hp _ _ h) h1 h2
  | ad h => exact .ad (hp _ _ h)
  | pt hb hl hv hr => exact .pt (hi _ hb) hl (fun q v hq => (World.cell?_of_block (w := w) (hw _ hb)).trans (hv q v hq)) (hr.mono hi hw)
  | tup hl h ih => exact .tup hl ih

/-- The ids that an abstract value names. -/
def AV.ids : AV → List Nat
  | .row i _ _ _ => [i]
  | .ad i _ => [i]
  | .tup vs => idss vs
  | _ => []
where idss : List AV → List Nat
  | [] => []
  | a :: as => a.ids ++ idss as

theorem mem_idss {i : Nat} : ∀ {as : List AV}, i ∈ AV.ids.idss as ↔ ∃ a ∈ as, i ∈ a.ids
  | [] => by simp [AV.ids.idss]
  | a :: as => by simp [AV.ids.idss, mem_idss (as := as)]

/-- Placement may change at ids that are not named. -/
theorem RepA.pl_congr {w : World} {im : Nat → Prop} {pl pl' : Nat → Option Place} {v : Value} {x : AV} (h : RepA w im pl v x) (hp : ∀ i ∈ x.ids, pl' i = pl i) : RepA w im pl' v x := by
  induction h with
  | undef v => exact .undef v
  | lf h => exact .lf h
  | ag h => exact .ag h
  | nils => exact .nils
  | row0 A i sz off => exact .row0 A i sz off
  | row h h1 h2 => exact .row (by rw [hp _ (by simp [AV.ids])]; exact h) h1 h2
  | ad h => exact .ad (by rw [hp _ (by simp [AV.ids])]; exact h)
  | pt hb hl hv hr => exact .pt hb hl hv hr
  | tup hl h ih => exact .tup hl fun p h1 h2 => ih p h1 h2 fun i hi => hp i (by simp only [AV.ids]; exact mem_idss.2 ⟨_, List.getElem_mem h1, hi⟩)

/-- What one call may do to the world: blocks of the caller stay, but for the stretches that were handed in to be written. -/
structure Fr (segs : List (Nat × Nat × Nat)) (w w' : World) : Prop where
  os : w'.os = w.os
  tape : w'.tape = w.tape
  output : w'.output = w.output
  size : w.heap.size ≤ w'.heap.size
  blk : ∀ b, b < w.heap.size → (∀ g ∈ segs, g.1 ≠ b) → w'.heap[b]? = w.heap[b]?
  seg : ∀ g ∈ segs, ∃ cur cur' e, w.heap[g.1]? = some (.cells cur e (0, 0)) ∧ w'.heap[g.1]? = some (.cells cur' e (0, 0)) ∧ cur'.size = cur.size ∧
    ∀ p, (p < g.2.1 ∨ g.2.2 ≤ p) → cur'[p]? = cur[p]?

/-- A block of the call's own, as it lies in memory. B: the heap's size when the call began; par: the stretches handed in. -/
def RepB (B : Nat) (par : Nat → Option Place) (w : World) (im : Nat → Prop) (i : Nat) (p : Option Place) (k : Blk) : Prop :=
  k.cs.length = k.n * k.sz ∧
  (k.st = 3 ∨
   (p = none ∧ k.n = 0) ∨
   ∃ q cur e vs, p = some q ∧ w.heap[q.b]? = some (.cells cur e (0, 0)) ∧ (B ≤ q.b ∨ par i = some q) ∧ k.n ≤ q.cap ∧ q.o + q.cap * k.sz ≤ cur.size ∧
     (∀ (j : Nat) v, vs[j]? = some v → cur[q.o + j]? = some v) ∧ RepLs w im vs k.cs ∧ (k.st = 2 → im q.b) ∧ (k.st < 2 → ¬ im q.b) ∧ k.st < 3)

structure Ctx where
  w0 : World
  im0 : Nat → Prop
  par : Nat → Option Place
  segs : List (Nat × Nat × Nat)
  nt : Nat

/-- The blocks that an abstract value names are there, and a slice lies within its block. -/
def AV.wf (bl : Nat → Option Blk) : AV → Prop
  | .row i sz off len => ∃ k, bl i = some k ∧ k.sz = sz ∧ off + len ≤ k.n
  | .ad i _ => ∃ k, bl i = some k
  | .tup vs => wfs bl vs
  | _ => True
where wfs (bl : Nat → Option Blk) : List AV → Prop
  | [] => True
  | a :: as => AV.wf bl a ∧ wfs bl as

theorem wfs_iff {bl : Nat → Option Blk} : ∀ {as : List AV}, AV.wf.wfs bl as ↔ ∀ a ∈ as, a.wf bl
  | [] => by simp [AV.wf.wfs]
  | a :: as => by simp [AV.wf.wfs, wfs_iff (as := as)]

mutual
theorem AV.wf_mono {bl bl' : Nat → Option Blk} (h : ∀ i k, bl i = some k → ∃ k', bl' i = some k' ∧ k'.sz = k.sz ∧ k'.n = k.n) : ∀ {x : AV}, x.wf bl → x.wf bl'
  | .row i sz off len, hx => by
    obtain ⟨k, h1, h2, h3⟩ := hx
    obtain ⟨k', h4, h5, h6⟩ := h i k h1
    exact ⟨k', h4, by omega, by omega⟩
  | .ad i p, hx => by
    obtain ⟨k, h1⟩ := hx
    obtain ⟨k', h4, _⟩ := h i k h1
    exact ⟨k', h4⟩
  | .tup vs, hx => by simp only [AV.wf] at hx ⊢; exact AV.wfs_mono h hx
  | .undef, _ | .lf _, _ | .ag _, _ | .nils, _ | .pt _ _ _ _, _ => trivial
theorem AV.wfs_mono {bl bl' : Nat → Option Blk} (h : ∀ i k, bl i = some k → ∃ k', bl' i = some k' ∧ k'.sz = k.sz ∧ k'.n = k.n) : ∀ {xs : List AV}, AV.wf.wfs bl xs → AV.wf.wfs bl' xs
  | [], _ => trivial
  | _ :: _, hx => ⟨AV.wf_mono h hx.1, AV.wfs_mono h hx.2⟩
end
mutual
theorem AV.wf_ids {bl : Nat → Option Blk} : ∀ {x : AV}, x.wf bl → ∀ i ∈ x.ids, bl i ≠ none
  | .row i sz off len, hx, j, hj => by obtain ⟨k, h1, _⟩ := hx; simp [AV.ids] at hj; subst hj; simp [h1]
  | .ad i p, hx, j, hj => by obtain ⟨k, h1⟩ := hx; simp [AV.ids] at hj; subst hj; simp [h1]
  | .tup vs, hx, j, hj => by simp only [AV.wf] at hx; simp only [AV.ids] at hj; exact AV.wfs_ids hx j hj
  | .undef, _, j, hj | .lf _, _, j, hj | .ag _, _, j, hj | .nils, _, j, hj | .pt _ _ _ _, _, j, hj => by simp [AV.ids] at hj
theorem AV.wfs_ids {bl : Nat → Option Blk} : ∀ {xs : List AV}, AV.wf.wfs bl xs → ∀ i ∈ AV.ids.idss xs, bl i ≠ none
  | [], _, j, hj => by simp [AV.ids.idss] at hj
  | x :: xs, hx, j, hj => by
    simp only [AV.ids.idss, List.mem_append] at hj
    exact hj.elim (AV.wf_ids hx.1 j) (AV.wfs_ids hx.2 j)
end

structure CtxOk (c : Ctx) : Prop where
  parlt : ∀ i p, c.par i = some p → i < 100
  segsU : ∀ g ∈ c.segs, ∀ g' ∈ c.segs, g.1 = g'.1 → g = g'
  seglt : ∀ g ∈ c.segs, g.1 < c.w0.heap.size

/-- The abstract state s stands for the frame's slots a and the world w. -/
structure SimI (c : Ctx) (im : Nat → Prop) (pl : Nat → Option Place) (s : St) (a : Act) (w : World) : Prop where
  fr : Fr c.segs c.w0 w
  nt : a.tmps.size = c.nt
  df : a.defers = []
  im0 : ∀ b, c.im0 b → im b
  imlt : ∀ b, im b → b < w.heap.size
  imold : ∀ b, im b → c.im0 b ∨ c.w0.heap.size ≤ b
  slots : ∀ t, RepA w im pl (a.tmps.getD t undef) (s.slots t)
  wf : ∀ t, (s.slots t).wf s.blks
  blks : ∀ i k, s.blks i = some k → RepB c.w0.heap.size c.par w im i (pl i) k
  dist : ∀ i j k k' p p', s.blks i = some k → s.blks j = some k' → k.st < 2 → k'.st < 2 → pl i = some p → pl j = some p' → p.b = p'.b → i = j
  par : ∀ i p, c.par i = some p → pl i = some p ∧ ∃ k, s.blks i = some k ∧ k.st = 1 ∧ (p.b, p.o, p.o + k.cs.length) ∈ c.segs

def Sim (c : Ctx) (s : St) (a : Act) (w : World) : Prop := ∃ im pl, SimI c im pl s a w

end Go.Proofs.YtdhgdpcmdmgchaaGreat.Fw
