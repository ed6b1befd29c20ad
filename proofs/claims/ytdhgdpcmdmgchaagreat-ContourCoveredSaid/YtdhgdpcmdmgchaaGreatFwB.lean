/- What keeps the relation between abstract and real states: one lemma for each kind of change. Conditions: none. -/
import Derived.Test.YtdhgdpcmdmgchaaGreatFwA
namespace Go.Proofs.YtdhgdpcmdmgchaaGreat.Fw
open Go

def St.put (s : St) (d : Nat) (x : AV) : St := ⟨fun t => if t = d then x else s.slots t, s.blks⟩
def St.setB (s : St) (i : Nat) (k : Blk) : St := ⟨s.slots, fun j => if j = i then some k else s.blks j⟩
def St.frz1 (s : St) (i : Nat) : St :=
  match s.blks i with
  | some k => s.setB i { k with st := 2 }
  | none => s
def St.frz (s : St) (l : List Nat) : St := l.foldl St.frz1 s

theorem St.setB_same {s : St} {i : Nat} {k k' : Blk} (hk : s.blks i = some k) (h1 : k'.sz = k.sz) (h2 : k'.n = k.n) :
    ∀ j kj, s.blks j = some kj → ∃ kj', (s.setB i k').blks j = some kj' ∧ kj'.sz = kj.sz ∧ kj'.n = kj.n := by
  intro j kj hj
  by_cases e : j = i
  · subst e; rw [hk] at hj; cases hj; exact ⟨k', by simp [St.setB], h1, h2⟩
  · exact ⟨kj, by simp [St.setB, e, hj], rfl, rfl⟩
theorem St.setB_new {s : St} {i : Nat} {k : Blk} (hk : s.blks i = none) :
    ∀ j kj, s.blks j = some kj → ∃ kj', (s.setB i k).blks j = some kj' ∧ kj'.sz = kj.sz ∧ kj'.n = kj.n := by
  intro j kj hj
  have e : j ≠ i := by rintro rfl; rw [hk] at hj; cases hj
  exact ⟨kj, by simp [St.setB, e, hj], rfl, rfl⟩

section
variable {c : Ctx} {im : Nat → Prop} {pl : Nat → Option Place} {s : St} {a : Act} {w : World}

theorem SimI.put (h : SimI c im pl s a w) {d : Nat} {v : Value} {x : AV} (hx : RepA w im pl v x) (hi : x.wf s.blks) (hd : d < c.nt) :
    SimI c im pl (s.put d x) (a.put (some d) v) w := by
  refine { h with nt := by simp [Act.put, h.nt], df := h.df, slots := fun t => ?_, wf := fun t => ?_ }
  · by_cases e : t = d
    · subst e
      have hsz : t < a.tmps.size := h.nt ▸ hd
      simp [St.put, Act.put, hsz, hx]
    · have := h.slots t
      simp only [St.put, Act.put, if_neg e]
      rw [Array.getD_eq_getD_getElem?] at this ⊢
      rwa [Array.getElem?_setIfInBounds_ne (Ne.symm e)]
  · by_cases e : t = d
    · simpa [St.put, e] using hi
    · simpa [St.put, e] using h.wf t

/-- What is known of an id's slot may be forgotten. -/
theorem SimI.forget (h : SimI c im pl s a w) (d : Nat) : SimI c im pl (s.put d .undef) a w := by
  refine { h with slots := fun t => ?_, wf := fun t => ?_ }
  · by_cases e : t = d
    · simp [St.put, e]; exact .undef _
    · simpa [St.put, e] using h.slots t
  · by_cases e : t = d
    · simp [St.put, e, AV.wf]
    · simpa [St.put, e] using h.wf t

theorem Fr.refl {segs : List (Nat × Nat × Nat)} {w : World} (h : ∀ g ∈ segs, ∃ cur e, w.heap[g.1]? = some (.cells cur e (0, 0))) : Fr segs w w :=
  ⟨rfl, rfl, rfl, Nat.le_refl _, fun _ _ _ => rfl, fun g hg => let ⟨cur, e, hc⟩ := h g hg; ⟨cur, cur, e, hc, hc, rfl, fun _ _ => rfl⟩⟩

/-- Nothing that was there is turned. -/
theorem Fr.step {segs : List (Nat × Nat × Nat)} {w w1 w2 : World} (h : Fr segs w w1) (h' : Fr [] w1 w2) : Fr segs w w2 := by
  have hold : ∀ b, b < w1.heap.size → w2.heap[b]? = w1.heap[b]? := fun b hb => h'.blk b hb (by simp)
  refine ⟨h'.os.trans h.os, h'.tape.trans h.tape, h'.output.trans h.output, Nat.le_trans h.size h'.size, fun b hb hn => (hold b (Nat.lt_of_lt_of_le hb h.size)).trans (h.blk b hb hn), fun g hg => ?_⟩
  obtain ⟨cur, cur', e, h1, h2, h3, h4⟩ := h.seg g hg
  exact ⟨cur, cur', e, h1, (hold _ (Array.getElem?_eq_some_iff.1 h2).1).trans h2, h3, h4⟩

theorem RepB.world {B : Nat} {par : Nat → Option Place} {w w' : World} {im im' : Nat → Prop} {i : Nat} {p : Option Place} {k : Blk} (h : RepB B par w im i p k)
    (hi : ∀ b, im b → im' b) (hw : ∀ b, b < w.heap.size → w'.heap[b]? = w.heap[b]?) (hlt : ∀ b, im b → b < w.heap.size) (hn : ∀ b, b < w.heap.size → im' b → im b) : RepB B par w' im' i p k := by
  obtain ⟨h0, h⟩ := h
  refine ⟨h0, ?_⟩
  rcases h with h | h | ⟨q, cur, e, vs, h1, h2, h3, h4, h5, h6, h7, h8, h9, h10⟩
  · exact .inl h
  · exact .inr (.inl h)
  · have hq : q.b < w.heap.size := (Array.getElem?_eq_some_iff.1 h2).1
    exact .inr (.inr ⟨q, cur, e, vs, h1, (hw _ hq).trans h2, h3, h4, h5, h6, h7.mono hi (fun b hb => hw b (hlt b hb)), fun e => hi _ (h8 e), fun e he => h9 e (hn _ hq he), h10⟩)

/-- A call that writes nothing of what was there; what it hands back may lie in its own blocks. -/
theorem SimI.called (h : SimI c im pl s a w) {w' : World} {im' : Nat → Prop} (hf : Fr [] w w') (hi : ∀ b, im b → im' b) (hn : ∀ b, im' b → im b ∨ w.heap.size ≤ b) (hlt : ∀ b, im' b → b < w'.heap.size) :
    SimI c im' pl s a w' := by
  have hold : ∀ b, b < w.heap.size → w'.heap[b]? = w.heap[b]? := fun b hb => hf.blk b hb (by simp)
  refine { fr := h.fr.step hf, nt := h.nt, df := h.df, im0 := fun b hb => hi b (h.im0 b hb), imlt := hlt, imold := fun b hb => ?_, slots := fun t => (h.slots t).mono hi (fun b hb => hold b (h.imlt b hb)) (fun _ _ e => e), wf := h.wf, blks := fun i k hk => (h.blks i k hk).world hi hold h.imlt (fun b hb hb' => (hn b hb').resolve_right (by omega)), dist := h.dist, par := h.par }
  rcases hn b hb with h1 | h1
  · exact h.imold b h1
  · exact .inr (Nat.le_trans h.fr.size h1)

theorem SimI.grow (h : SimI c im pl s a w) {w' : World} (hf : Fr [] w w') : SimI c im pl s a w' :=
  h.called hf (fun _ h => h) (fun _ h => .inl h) (fun b hb => Nat.lt_of_lt_of_le (h.imlt b hb) hf.size)

theorem Fr.alloc (w : World) (o : Obj) : Fr [] w (w.alloc o) :=
  ⟨rfl, rfl, rfl, by simp, fun b hb _ => heap_alloc_old w o b hb, fun g hg => by simp at hg⟩
theorem Fr.drew (w : World) : Fr [] w w.drew := ⟨rfl, rfl, rfl, by simp, fun _ _ _ => rfl, fun g hg => by simp at hg⟩

/-- A block is no longer looked at. -/
theorem SimI.dead (h : SimI c im pl s a w) (ok : CtxOk c) {i : Nat} {k : Blk} (hk : s.blks i = some k) (hi : 100 ≤ i) : SimI c im pl (s.setB i { k with st := 3 }) a w := by
  refine { h with wf := fun t => AV.wf_mono (St.setB_same hk (by rfl) (by rfl)) (h.wf t), blks := fun j k' hj => ?_, dist := fun j j' k1 k2 p p' h1 h2 l1 l2 => ?_, par := fun j p hp => ?_ }
  · simp only [St.setB] at hj
    split at hj
    · cases hj; exact ⟨(h.blks i k hk).1, .inl rfl⟩
    · exact h.blks j k' hj
  · simp only [St.setB] at h1 h2
    split at h1
    · cases h1; simp at l1
    · split at h2
      · cases h2; simp at l2
      · exact h.dist j j' k1 k2 p p' h1 h2 l1 l2
  · obtain ⟨h1, k', h2⟩ := h.par j p hp
    have : j < 100 := ok.parlt j p hp
    refine ⟨h1, k', ?_⟩
    simp only [St.setB]; rw [if_neg (by omega)]; exact h2

/-- A block's value is handed on to be read: from now on it is only read. -/
theorem SimI.freeze1 (h : SimI c im pl s a w) (ok : CtxOk c) {i : Nat} (hi : 100 ≤ i) {k : Blk} (hk : s.blks i = some k) (hst : k.st ≠ 3) :
    SimI c (fun b => im b ∨ ∃ p, pl i = some p ∧ p.b = b) pl (s.frz1 i) a w := by
  have hpar : c.par i = none := by
    cases hp : c.par i with
    | none => rfl
    | some p => have := ok.parlt i p hp; omega
  obtain ⟨hk0, hk1⟩ := h.blks i k hk
  have hs' : s.frz1 i = s.setB i { k with st := 2 } := by simp [St.frz1, hk]
  rw [hs']
  have hmono : ∀ b, im b → (im b ∨ ∃ p, pl i = some p ∧ p.b = b) := fun b hb => .inl hb
  have hwhere : ∀ p, pl i = some p → ∃ cur e, w.heap[p.b]? = some (.cells cur e (0, 0)) ∧ c.w0.heap.size ≤ p.b ∧ (k.st < 2 ∨ im p.b) := by
    intro p hp
    rcases hk1 with h1 | ⟨h1, _⟩ | ⟨q, cur, e, vs, h1, h2, h3, h4, h5, h6, h7, h8, h9, h10⟩
    · exact absurd h1 hst
    · rw [h1] at hp; cases hp
    · rw [h1] at hp; cases hp
      refine ⟨cur, e, h2, h3.resolve_right (by simp [hpar]), ?_⟩
      by_cases e2 : k.st = 2
      · exact .inr (h8 e2)
      · exact .inl (by omega)
  refine { fr := h.fr, nt := h.nt, df := h.df, im0 := fun b hb => .inl (h.im0 b hb), imlt := ?_, imold := ?_, slots := fun t => (h.slots t).mono hmono (fun _ _ => rfl) (fun _ _ e => e), wf := fun t => AV.wf_mono (St.setB_same hk (by rfl) (by rfl)) (h.wf t), blks := ?_, dist := ?_, par := ?_ }
  · rintro b (hb | ⟨p, hp, rfl⟩)
    · exact h.imlt b hb
    · obtain ⟨cur, e, h2, _⟩ := hwhere p hp; exact (Array.getElem?_eq_some_iff.1 h2).1
  · rintro b (hb | ⟨p, hp, rfl⟩)
    · exact h.imold b hb
    · obtain ⟨cur, e, _, h3, _⟩ := hwhere p hp; exact .inr h3
  · intro j k' hj
    simp only [St.setB] at hj
    split at hj
    · rename_i e; subst e
      cases hj
      refine ⟨hk0, ?_⟩
      rcases hk1 with h1 | ⟨h1, h2⟩ | ⟨q, cur, e, vs, h1, h2, h3, h4, h5, h6, h7, h8, h9, h10⟩
      · exact absurd h1 hst
      · exact .inr (.inl ⟨h1, h2⟩)
      · exact .inr (.inr ⟨q, cur, e, vs, h1, h2, h3, h4, h5, h6, h7.mono hmono (fun _ _ => rfl), fun _ => .inr ⟨q, h1, rfl⟩, fun h => by simp at h, by simp⟩)
    · rename_i hne
      obtain ⟨hj0, hj1⟩ := h.blks j k' hj
      refine ⟨hj0, ?_⟩
      rcases hj1 with h1 | h1 | ⟨q, cur, e, vs, h1, h2, h3, h4, h5, h6, h7, h8, h9, h10⟩
      · exact .inl h1
      · exact .inr (.inl h1)
      · refine .inr (.inr ⟨q, cur, e, vs, h1, h2, h3, h4, h5, h6, h7.mono hmono (fun _ _ => rfl), fun e => .inl (h8 e), fun hl => ?_, h10⟩)
        rintro (hb | ⟨p, hp, hpq⟩)
        · exact h9 hl hb
        · obtain ⟨cur', e', h2', _, h4'⟩ := hwhere p hp
          rcases h4' with h4' | h4'
          · exact hne (h.dist j i k' k q p hj hk hl h4' h1 hp hpq.symm)
          · exact h9 hl (hpq ▸ h4')
  · intro j j' k1 k2 p p' h1 h2 l1 l2
    simp only [St.setB] at h1 h2
    split at h1
    · cases h1; simp at l1
    · split at h2
      · cases h2; simp at l2
      · exact h.dist j j' k1 k2 p p' h1 h2 l1 l2
  · intro j p hp
    obtain ⟨h1, k', h2⟩ := h.par j p hp
    have : j < 100 := ok.parlt j p hp
    refine ⟨h1, k', ?_⟩
    simp only [St.setB]; rw [if_neg (by omega)]; exact h2

/-- Several blocks at once. im grows. -/
theorem SimI.freeze (ok : CtxOk c) : ∀ (l : List Nat) {im : Nat → Prop} {s : St} (_ : SimI c im pl s a w), (∀ i ∈ l, 100 ≤ i ∧ ∃ k, s.blks i = some k ∧ k.st ≠ 3) →
    ∃ im', SimI c im' pl (s.frz l) a w ∧ (∀ b, im b → im' b) ∧ (∀ i ∈ l, ∀ p, pl i = some p → im' p.b) ∧ (∀ b, im' b → im b ∨ ∃ i ∈ l, ∃ p, pl i = some p ∧ p.b = b)
  | [], im, s, h, _ => ⟨im, h, fun _ h => h, fun i hi => by simp at hi, fun _ h => .inl h⟩
  | i :: l, im, s, h, hl => by
    obtain ⟨h100, k, hk, hst⟩ := hl i (by simp)
    have h1 := h.freeze1 ok h100 hk hst
    obtain ⟨im', h2, h3, h4, h5⟩ := SimI.freeze ok l h1 (fun j hj => by
      obtain ⟨j1, k', j2, j3⟩ := hl j (by simp [hj])
      refine ⟨j1, ?_⟩
      simp only [St.frz1, hk, St.setB]
      split
      · exact ⟨_, rfl, by simp⟩
      · exact ⟨k', j2, j3⟩)
    refine ⟨im', h2, fun b hb => h3 b (.inl hb), fun j hj p hp => ?_, fun b hb => ?_⟩
    · rcases List.mem_cons.1 hj with rfl | hj
      · exact h3 _ (.inr ⟨p, hp, rfl⟩)
      · exact h4 j hj p hp
    · rcases h5 b hb with (hb | ⟨p, hp, rfl⟩) | ⟨j, hj, p, hp, rfl⟩
      · exact .inl hb
      · exact .inr ⟨i, by simp, p, hp, rfl⟩
      · exact .inr ⟨j, by simp [hj], p, hp, rfl⟩

/-- A new block of the call's own, that lies where no live one does. -/
theorem SimI.adopt (h : SimI c im pl s a w) (ok : CtxOk c) {d : Nat} (hd : s.blks d = none) (h100 : 100 ≤ d) {q : Place} {cur : Array Value} {e : TypeId} {vs : List Value} {k : Blk}
    (hh : w.heap[q.b]? = some (.cells cur e (0, 0))) (hB : c.w0.heap.size ≤ q.b) (hcap : k.n ≤ q.cap) (hfit : q.o + q.cap * k.sz ≤ cur.size)
    (hv : ∀ (j : Nat) v, vs[j]? = some v → cur[q.o + j]? = some v) (hr : RepLs w im vs k.cs) (him : ¬ im q.b) (hst : k.st < 2) (hl : k.cs.length = k.n * k.sz)
    (hfree : ∀ j k' p', s.blks j = some k' → k'.st < 2 → pl j = some p' → p'.b ≠ q.b) :
    SimI c im (fun j => if j = d then some q else pl j) (s.setB d k) a w := by
  have hpl : ∀ t, ∀ i ∈ (s.slots t).ids, (if i = d then some q else pl i) = pl i := fun t i hi => by
    have := AV.wf_ids (h.wf t) i hi
    rw [if_neg]; rintro rfl; exact this hd
  refine { fr := h.fr, nt := h.nt, df := h.df, im0 := h.im0, imlt := h.imlt, imold := h.imold, slots := fun t => (h.slots t).pl_congr (hpl t), wf := fun t => AV.wf_mono (St.setB_new hd) (h.wf t), blks := fun j k' hj => ?_, dist := ?_, par := fun j p hp => ?_ }
  · simp only [St.setB] at hj
    split at hj
    · rename_i e; subst e; cases hj
      exact ⟨hl, .inr (.inr ⟨q, cur, e, vs, by simp, hh, .inl hB, hcap, hfit, hv, hr, fun e => by omega, fun _ => him, by omega⟩)⟩
    · rename_i hne
      rw [if_neg hne]; exact h.blks j k' hj
  · intro i j k1 k2 p p' h1 h2 l1 l2 p1 p2 hb
    simp only [St.setB] at h1 h2
    by_cases ei : i = d <;> by_cases ej : j = d
    · omega
    · rw [if_neg ej] at h2; simp only [if_neg ej] at p2; simp only [if_pos ei] at p1; cases p1
      exact absurd hb.symm (hfree j k2 p' h2 l2 p2)
    · rw [if_neg ei] at h1; simp only [if_neg ei] at p1; simp only [if_pos ej] at p2; cases p2
      exact absurd hb (hfree i k1 p h1 l1 p1)
    · rw [if_neg ei] at h1; rw [if_neg ej] at h2; simp only [if_neg ei] at p1; simp only [if_neg ej] at p2
      exact h.dist i j k1 k2 p p' h1 h2 l1 l2 p1 p2 hb
  · obtain ⟨h1, k', h2, h3⟩ := h.par j p hp
    have hne : j ≠ d := by have := ok.parlt j p hp; omega
    simp only [St.setB, if_neg hne]
    exact ⟨h1, k', h2, h3⟩

/-- An empty block that lies nowhere. -/
theorem SimI.adopt0 (h : SimI c im pl s a w) (ok : CtxOk c) {d : Nat} (hd : s.blks d = none) (h100 : 100 ≤ d) (sz : Nat) :
    SimI c im (fun j => if j = d then none else pl j) (s.setB d ⟨sz, 0, [], 0⟩) a w := by
  have hpl : ∀ t, ∀ i ∈ (s.slots t).ids, (if i = d then none else pl i) = pl i := fun t i hi => by
    have := AV.wf_ids (h.wf t) i hi
    rw [if_neg]; rintro rfl; exact this hd
  refine { fr := h.fr, nt := h.nt, df := h.df, im0 := h.im0, imlt := h.imlt, imold := h.imold, slots := fun t => (h.slots t).pl_congr (hpl t), wf := fun t => AV.wf_mono (St.setB_new hd) (h.wf t), blks := fun j k' hj => ?_, dist := ?_, par := fun j p hp => ?_ }
  · simp only [St.setB] at hj
    split at hj
    · rename_i e; subst e; cases hj
      exact ⟨by simp, .inr (.inl ⟨by simp, rfl⟩)⟩
    · rename_i hne
      rw [if_neg hne]; exact h.blks j k' hj
  · intro i j k1 k2 p p' h1 h2 l1 l2 p1 p2 hb
    simp only [St.setB] at h1 h2
    by_cases ei : i = d
    · simp [ei] at p1
    · by_cases ej : j = d
      · simp [ej] at p2
      · rw [if_neg ei] at h1; rw [if_neg ej] at h2; simp only [if_neg ei] at p1; simp only [if_neg ej] at p2
        exact h.dist i j k1 k2 p p' h1 h2 l1 l2 p1 p2 hb
  · obtain ⟨h1, k', h2, h3⟩ := h.par j p hp
    have hne : j ≠ d := by have := ok.parlt j p hp; omega
    simp only [St.setB, if_neg hne]
    exact ⟨h1, k', h2, h3⟩

/-- Every live block that lies somewhere lies below the heap's end. -/
theorem SimI.plt (h : SimI c im pl s a w) {i : Nat} {k : Blk} {p : Place} (hk : s.blks i = some k) (hst : k.st ≠ 3) (hp : pl i = some p) : p.b < w.heap.size := by
  obtain ⟨_, h1 | ⟨h1, _⟩ | ⟨q, cur, e, vs, h1, h2, _⟩⟩ := h.blks i k hk
  · exact absurd h1 hst
  · rw [h1] at hp; cases hp
  · rw [h1] at hp; cases hp; exact (Array.getElem?_eq_some_iff.1 h2).1

/-- A new block is made. -/
theorem SimI.make (h : SimI c im pl s a w) (ok : CtxOk c) {d : Nat} (hd : s.blks d = none) (h100 : 100 ≤ d) {w' : World} (hf : Fr [] w w') {q : Place} {cur : Array Value} {e : TypeId} {vs : List Value} {k : Blk}
    (hq : w.heap.size ≤ q.b) (hh : w'.heap[q.b]? = some (.cells cur e (0, 0))) (hcap : k.n ≤ q.cap) (hfit : q.o + q.cap * k.sz ≤ cur.size)
    (hv : ∀ (j : Nat) v, vs[j]? = some v → cur[q.o + j]? = some v) (hr : RepLs w im vs k.cs) (hst : k.st < 2) (hl : k.cs.length = k.n * k.sz) :
    SimI c im (fun j => if j = d then some q else pl j) (s.setB d k) a w' := by
  refine (h.grow hf).adopt ok hd h100 hh (Nat.le_trans h.fr.size hq) hcap hfit hv (hr.mono (fun _ h => h) (fun b hb => hf.blk b (h.imlt b hb) (by simp))) (fun hb => ?_) hst hl (fun j k' p' h1 h2 h3 hb => ?_)
  · have := h.imlt _ hb; omega
  · have := h.plt h1 (by omega) h3; omega

/-- A stretch of one live block has been written, by a store or by a call that it was handed to. -/
theorem SimI.wrote (h : SimI c im pl s a w) (ok : CtxOk c) {i : Nat} {k : Blk} {q : Place} (hk : s.blks i = some k) (hst : k.st < 2) (hp : pl i = some q) {w' : World} {lo hi : Nat}
    (hf : Fr [(q.b, lo, hi)] w w') (hlo : q.o ≤ lo) (hhi : hi ≤ q.o + k.cs.length) {im' : Nat → Prop} (hi1 : ∀ b, im b → im' b) (hi2 : ∀ b, im' b → im b ∨ w.heap.size ≤ b) (hi3 : ∀ b, im' b → b < w'.heap.size)
    {cs' : List L} {vs' : List Value} (hl : cs'.length = k.cs.length) (hr : RepLs w' im' vs' cs')
    (hv : ∀ cur e, w'.heap[q.b]? = some (.cells cur e (0, 0)) → ∀ (j : Nat) v, vs'[j]? = some v → cur[q.o + j]? = some v) :
    SimI c im' pl (s.setB i { k with cs := cs' }) a w' := by
  obtain ⟨hk0, hk1⟩ := h.blks i k hk
  obtain ⟨cur, cur', e, hc1, hc2, hc3, hc4⟩ := hf.seg _ (List.mem_singleton.2 rfl)
  simp only at hc1 hc2 hc3 hc4
  have hqlt : q.b < w.heap.size := (Array.getElem?_eq_some_iff.1 hc1).1
  have hother : ∀ b, b < w.heap.size → b ≠ q.b → w'.heap[b]? = w.heap[b]? := fun b hb hne => hf.blk b hb (by simp; exact fun e => hne e.symm)
  have hwhere : (c.w0.heap.size ≤ q.b ∨ c.par i = some q) ∧ ¬ im q.b ∧ k.n ≤ q.cap ∧ q.o + q.cap * k.sz ≤ cur.size := by
    rcases hk1 with h1 | ⟨h1, _⟩ | ⟨q', cur0, e0, vs, h1, h2, h3, h4, h5, h6, h7, h8, h9, h10⟩
    · omega
    · rw [h1] at hp; cases hp
    · rw [h1] at hp; cases hp; rw [h2] at hc1; cases hc1; exact ⟨h3, h9 hst, h4, h5⟩
  obtain ⟨hB, him, hcap, hfit⟩ := hwhere
  have him' : ¬ im' q.b := fun hb => (hi2 _ hb).elim him (by omega)
  have himo : ∀ b, im b → w'.heap[b]? = w.heap[b]? := fun b hb => hother b (h.imlt b hb) (fun e => him (e ▸ hb))
  refine { fr := ⟨hf.os.trans h.fr.os, hf.tape.trans h.fr.tape, hf.output.trans h.fr.output, Nat.le_trans h.fr.size hf.size, fun b hb hn => ?_, fun g hg => ?_⟩, nt := h.nt, df := h.df, im0 := fun b hb => hi1 b (h.im0 b hb), imlt := hi3, imold := fun b hb => ?_, slots := fun t => (h.slots t).mono hi1 himo (fun _ _ e => e), wf := fun t => AV.wf_mono (St.setB_same hk (by rfl) (by rfl)) (h.wf t), blks := fun j k' hj => ?_, dist := ?_, par := fun j p hj => ?_ }
  · have hb' : b < w.heap.size := Nat.lt_of_lt_of_le hb h.fr.size
    rw [hother b hb' ?_]
    · exact h.fr.blk b hb hn
    · rintro rfl
      rcases hB with hB | hB
      · omega
      · obtain ⟨_, k', h1, _, h3⟩ := h.par i q hB
        exact hn _ h3 rfl
  · obtain ⟨c1, c2, e1, g1, g2, g3, g4⟩ := h.fr.seg g hg
    by_cases hgq : g.1 = q.b
    · rw [hgq] at g1 g2 ⊢
      rw [hc1] at g2; cases g2
      refine ⟨c1, cur', _, g1, hc2, hc3.trans g3, fun p hp => ?_⟩
      rcases hB with hB | hB
      · have := ok.seglt g hg; omega
      · obtain ⟨_, k', h1, _, h3⟩ := h.par i q hB
        rw [hk] at h1; cases h1
        have := ok.segsU g hg _ h3 hgq
        subst this
        simp only at hp
        rw [hc4 p (by omega), g4 p hp]
    · refine ⟨c1, c2, e1, g1, ?_, g3, g4⟩
      rw [hother _ (Array.getElem?_eq_some_iff.1 g2).1 hgq]; exact g2
  · rcases hi2 b hb with h1 | h1
    · exact h.imold b h1
    · exact .inr (Nat.le_trans h.fr.size h1)
  · simp only [St.setB] at hj
    split at hj
    · rename_i e; subst e; cases hj
      exact ⟨hl.trans hk0, .inr (.inr ⟨q, cur', e, vs', hp, hc2, hB, hcap, by rw [hc3]; exact hfit, hv cur' e hc2, hr, fun (e2 : k.st = 2) => by omega, fun _ => him', by show k.st < 3; omega⟩)⟩
    · rename_i hne
      obtain ⟨hj0, hj1⟩ := h.blks j k' hj
      refine ⟨hj0, ?_⟩
      rcases hj1 with h1 | h1 | ⟨q', cur0, e0, vs, h1, h2, h3, h4, h5, h6, h7, h8, h9, h10⟩
      · exact .inl h1
      · exact .inr (.inl h1)
      · have hq' : q'.b < w.heap.size := (Array.getElem?_eq_some_iff.1 h2).1
        have hne' : q'.b ≠ q.b := fun hb => by
          by_cases hl' : k'.st < 2
          · exact hne (h.dist j i k' k q' q hj hk hl' hst h1 hp hb)
          · exact him (hb ▸ h8 (by omega))
        exact .inr (.inr ⟨q', cur0, e0, vs, h1, (hother _ hq' hne').trans h2, h3, h4, h5, h6, h7.mono hi1 himo, fun e => hi1 _ (h8 e), fun hl' hb => (hi2 _ hb).elim (h9 hl') (by omega), h10⟩)
  · intro j j' k1 k2 p p' h1 h2 l1 l2 p1 p2 hb
    simp only [St.setB] at h1 h2
    by_cases e1 : j = i <;> by_cases e2 : j' = i
    · omega
    · subst e1; rw [if_neg e2] at h2; exact h.dist j j' k k2 p p' hk h2 hst l2 p1 p2 hb
    · subst e2; rw [if_neg e1] at h1; exact h.dist j j' k1 k p p' h1 hk l1 hst p1 p2 hb
    · rw [if_neg e1] at h1; rw [if_neg e2] at h2; exact h.dist j j' k1 k2 p p' h1 h2 l1 l2 p1 p2 hb
  · obtain ⟨h1, k', h2, h3, h4⟩ := h.par j p hj
    refine ⟨h1, ?_⟩
    simp only [St.setB]
    by_cases e1 : j = i
    · subst e1; rw [hk] at h2; cases h2
      exact ⟨{ k with cs := cs' }, if_pos rfl, h3, by simpa [hl] using h4⟩
    · exact ⟨k', by rw [if_neg e1]; exact h2, h3, h4⟩

/-- A block of the call's own that no live one claims is written. -/
theorem SimI.scribble (h : SimI c im pl s a w) {b : Nat} {w' : World} (hB : c.w0.heap.size ≤ b) (him : ¬ im b) (hos : w'.os = w.os) (htape : w'.tape = w.tape) (hout : w'.output = w.output) (hsize : w'.heap.size = w.heap.size)
    (hother : ∀ b', b' ≠ b → w'.heap[b']? = w.heap[b']?) (hfree : ∀ j k' p', s.blks j = some k' → k'.st < 3 → pl j = some p' → p'.b ≠ b) (hseg : ∀ g ∈ c.segs, g.1 < c.w0.heap.size) : SimI c im pl s a w' := by
  have himo : ∀ b', im b' → w'.heap[b']? = w.heap[b']? := fun b' hb => hother b' (fun e => him (e ▸ hb))
  refine { fr := ⟨hos.trans h.fr.os, htape.trans h.fr.tape, hout.trans h.fr.output, by rw [hsize]; exact h.fr.size, fun b' hb hn => (hother b' (by omega)).trans (h.fr.blk b' hb hn), fun g hg => ?_⟩, nt := h.nt, df := h.df, im0 := h.im0, imlt := fun b' hb => by rw [hsize]; exact h.imlt b' hb, imold := h.imold, slots := fun t => (h.slots t).mono (fun _ h => h) himo (fun _ _ e => e), wf := h.wf, blks := fun j k' hj => ?_, dist := h.dist, par := h.par }
  · obtain ⟨c1, c2, e1, g1, g2, g3, g4⟩ := h.fr.seg g hg
    have := hseg g hg
    exact ⟨c1, c2, e1, g1, (hother _ (by omega)).trans g2, g3, g4⟩
  · obtain ⟨hj0, hj1⟩ := h.blks j k' hj
    refine ⟨hj0, ?_⟩
    rcases hj1 with h1 | h1 | ⟨q', cur0, e0, vs, h1, h2, h3, h4, h5, h6, h7, h8, h9, h10⟩
    · exact .inl h1
    · exact .inr (.inl h1)
    · exact .inr (.inr ⟨q', cur0, e0, vs, h1, (hother _ (hfree j k' q' hj h10 h1)).trans h2, h3, h4, h5, h6, h7.mono (fun _ h => h) himo, h8, h9, h10⟩)

end
end Go.Proofs.YtdhgdpcmdmgchaaGreat.Fw
