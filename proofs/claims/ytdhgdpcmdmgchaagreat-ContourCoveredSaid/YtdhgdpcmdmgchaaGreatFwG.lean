/- The framework's steps are the machine's: operations that make or write memory. Conditions: none. -/
import Derived.Test.YtdhgdpcmdmgchaaGreatFwF
namespace Go.Proofs.YtdhgdpcmdmgchaaGreat.Fw
open Go
set_option linter.unusedSimpArgs false
set_option linter.unusedVariables false
set_option linter.unusedSimpArgs false

section
variable {P : Program} {T : Tab} {c : Ctx} {im im' : Nat → Prop} {pl : Nat → Option Place} {s : St} {a : Act} {w : World}

theorem frz1_none {i j : Nat} (h : s.blks j = none) : (s.frz1 i).blks j = none := by
  unfold St.frz1; split
  · rename_i k hk
    simp only [St.setB]; split
    · rename_i e; subst e; rw [h] at hk; cases hk
    · exact h
  · exact h
theorem frz_none : ∀ {l : List Nat} {s : St} {j : Nat}, s.blks j = none → (s.frz l).blks j = none
  | [], _, _, h => h
  | _ :: l, _, _, h => frz_none (l := l) (frz1_none h)

theorem frz1_other {i j : Nat} (h : i ≠ j) : (s.frz1 i).blks j = s.blks j := by
  unfold St.frz1; split
  · simp only [St.setB]; rw [if_neg (Ne.symm h)]
  · rfl
theorem frz_other : ∀ {l : List Nat} {s : St} {j : Nat}, j ∉ l → (s.frz l).blks j = s.blks j
  | [], _, _, _ => rfl
  | i :: l, s, j, h => by
    simp only [List.mem_cons, not_or] at h
    exact (frz_other (l := l) (s := s.frz1 i) h.2).trans (frz1_other (Ne.symm h.1))

theorem plain_reps (w : World) (im : Nat → Prop) : ∀ {ls : List L}, (∀ l ∈ ls, l.plain = true) → RepLs w im (ls.map zval) ls
  | [], _ => .nil
  | l :: ls, h => .cons (rep_plain (h l (by simp))) (plain_reps w im fun x hx => h x (by simp [hx]))

theorem done_alloc (hT : TabOk P T) (ok : CtxOk c) (h : SimI c im pl s a w) {o : Oper} {t : Nat} (ho : o.op = .alloc t) {out : Out} (hs : step T (evO s.slots) s.blks o = some out)
    (hm : out.mak ≠ none → s.blks (idOf o.dst 0) = none) (hd : ∀ t, o.dst = some t → t < c.nt) : Done P c o a w (s.out o.dst out) := by
  simp only [step, ho] at hs
  cases hd' : T.td t with
  | none => simp [hd'] at hs
  | some d =>
    simp only [hd'] at hs
    cases out_inj hs
    have ht := hT t d hd'
    obtain ⟨i, zv, hi, hsz, _, hz, hzc⟩ := ht.info
    have hnew := hm (by simp)
    have hrun : (execOp a.eval o).run P w = .ok (.value (.pointer (some ⟨w.heap.size, 0, none⟩))) (w.alloc (.cells zv.cells t)) := by
      simp [execOp, ho, Instr.alloc, zeroValue, typeInfo, hi, hz, newVar, newRow]
    have hlen : zv.cells.size = d.size := by
      have := congrArg List.length hzc
      simpa [ht.zl] using this
    have hmk := h.make ok hnew (by unfold idOf; omega) (Fr.alloc w (.cells zv.cells t)) (q := ⟨w.heap.size, 0, 1⟩) (cur := zv.cells) (e := t) (vs := zv.cells.toList) (k := ⟨d.size, 1, d.zero, 1⟩) (Nat.le_refl _)
      (heap_alloc_new w _) (Nat.le_refl _) (by simp [hlen]) (fun j v hj => by simpa using hj) (by rw [hzc]; exact plain_reps _ _ ht.zp) (by simp) (by simp [ht.zl])
    refine ⟨_, _, _, _, .inl hrun, hmk.putD (x := .ad (idOf o.dst 0) 0) ?_ ?_ hd⟩
    · exact RepA.ad (pl := fun j => if j = idOf o.dst 0 then some ⟨w.heap.size, 0, 1⟩ else pl j) (i := idOf o.dst 0) (q := 0) (p := ⟨w.heap.size, 0, 1⟩) (if_pos rfl)
    · exact ⟨_, if_pos rfl⟩

/-- What is handed on is read only from now on: the state behind that, and how its cells read. -/
theorem froz (ok : CtxOk c) (h : SimI c im pl s a w) {ty : Nat} {x : Operand} {ls : List L} {fz : List Nat} (hc : cellsOf T s.blks ty (evO s.slots x) = some (ls, fz)) (h100 : fz.all (100 ≤ ·) = true) :
    ∃ im', SimI c im' pl (s.frz fz) a w ∧ (∀ b, im b → im' b) ∧ RepLs w im' (a.eval x).cells.toList ls := by
  have h1 := (cells_rep (im' := fun _ => True) h (h.op x) (h.opwf x) hc (fun _ _ => trivial) (fun _ _ _ _ => trivial)).2
  obtain ⟨im', g1, g2, g3, _⟩ := SimI.freeze ok fz h (fun i hi => ⟨by simpa using List.all_eq_true.1 h100 i hi, h1 i hi⟩)
  exact ⟨im', g1, g2, (cells_rep h (h.op x) (h.opwf x) hc g2 g3).1⟩

theorem done_box (hT : TabOk P T) (ok : CtxOk c) (h : SimI c im pl s a w) {o : Oper} {t : Nat} {x : Operand} (ho : o.op = .box t x) {out : Out} (hs : step T (evO s.slots) s.blks o = some out) (hp : out.pre)
    (hf : out.frz.all (100 ≤ ·) = true) (hm : out.mak ≠ none → s.blks (idOf o.dst 0) = none) (hd : ∀ t, o.dst = some t → t < c.nt) : Done P c o a w (s.out o.dst out) := by
  simp only [step, ho] at hs
  cases hd' : T.td t with
  | none => simp [hd'] at hs
  | some d =>
    simp only [hd'] at hs
    cases hc : cellsOf T s.blks t (evO s.slots x) with
    | none => simp [hc] at hs
    | some lf =>
      obtain ⟨ls, fz⟩ := lf
      simp only [hc] at hs
      cases out_inj hs
      simp only at hp hf
      obtain ⟨im', g1, g2, g3⟩ := froz ok h hc hf
      have hnew := hm (by simp)
      have hrun : (execOp a.eval o).run P w = .ok (.value (.pointer (some ⟨w.heap.size, 0, none⟩))) (w.alloc (.cells (a.eval x).cells t)) := by
        simp [execOp, ho, Instr.box, newVar, newRow]
      have hlen : (a.eval x).cells.size = d.size := by have := g3.1; simp at this; omega
      have hmk := g1.make ok (frz_none hnew) (by unfold idOf; omega) (Fr.alloc w (.cells (a.eval x).cells t)) (q := ⟨w.heap.size, 0, 1⟩) (cur := (a.eval x).cells) (e := t) (vs := (a.eval x).cells.toList) (k := ⟨d.size, 1, ls, 1⟩) (Nat.le_refl _)
        (heap_alloc_new w _) (Nat.le_refl _) (by simp [hlen]) (fun j v hj => by simpa using hj) g3 (by simp) (by simp [hp])
      refine ⟨_, _, _, _, .inl hrun, hmk.putD (x := .ad (idOf o.dst 0) 0) ?_ ?_ hd⟩
      · exact RepA.ad (pl := fun j => if j = idOf o.dst 0 then some ⟨w.heap.size, 0, 1⟩ else pl j) (i := idOf o.dst 0) (q := 0) (p := ⟨w.heap.size, 0, 1⟩) (if_pos rfl)
      · exact ⟨_, if_pos rfl⟩

/-! ### literals -/

theorem set_fold (off : Nat) : ∀ (l : List Value) (k : Nat) (cells : Array Value), off + k + l.length ≤ cells.size →
    ((l.zipIdx k).foldl (fun cs x => cs.setIfInBounds (off + x.2) x.1) cells).toList = cells.toList.take (off + k) ++ l ++ cells.toList.drop (off + k + l.length)
  | [], k, cells, _ => by simp
  | v :: l, k, cells, h => by
    simp only [List.length_cons] at h
    have ih := set_fold off l (k + 1) (cells.setIfInBounds (off + k) v) (by simp; omega)
    simp only [List.zipIdx_cons, List.foldl_cons]
    rw [ih]
    apply List.ext_getElem?
    intro j
    simp only [Array.toList_setIfInBounds, List.getElem?_append, List.length_append, List.length_take, List.length_set, Array.length_toList, List.getElem?_drop, List.getElem?_take, List.length_cons, List.getElem?_set]
    by_cases h1 : j < off + k
    · simp [h1, show j < off + (k + 1) by omega, show min (off + (k + 1)) cells.size = off + (k + 1) by omega, show min (off + k) cells.size = off + k by omega, show ¬ off + k = j by omega, show j < off + (k + 1) + l.length by omega, show j < off + k + (l.length + 1) by omega]
    · by_cases h2 : j = off + k
      · subst h2
        simp [show off + k < off + (k + 1) by omega, show min (off + (k + 1)) cells.size = off + (k + 1) by omega, show min (off + k) cells.size = off + k by omega, show off + k < cells.size by omega, show off + k < off + (k + 1) + l.length by omega]
      · simp only [show min (off + (k + 1)) cells.size = off + (k + 1) by omega, show min (off + k) cells.size = off + k by omega, if_neg h1, show ¬ j < off + (k + 1) by omega, if_false]
        by_cases h3 : j < off + (k + 1) + l.length
        · simp only [h3, show j < off + k + (l.length + 1) by omega, if_true]
          rw [show j - (off + k) = (j - (off + (k + 1))) + 1 by omega]; simp
        · simp only [h3, show ¬ j < off + k + (l.length + 1) by omega, if_false]
          rw [if_neg (by omega)]
          congr 1; omega

/-- What is put into a literal, place by place. -/
inductive PartsRep (w : World) (im : Nat → Prop) : List (Nat × Value) → List (Nat × List L) → Prop where
  | nil : PartsRep w im [] []
  | cons {i v ls ps qs} (h : RepLs w im v.cells.toList ls) (h' : PartsRep w im ps qs) : PartsRep w im ((i, v) :: ps) ((i, ls) :: qs)

theorem fill_rep {place : Nat → Option (Nat × Nat)} {place' : Nat → Option (Nat × Nat)} (hpl : ∀ i x, place i = some x → place' i = some x) {total : Nat} : ∀ {ps : List (Nat × Value)} {qs : List (Nat × List L)} {cells : Array Value} {cs cs' : List L} {p : Prop},
    PartsRep w im ps qs → fillP place total qs cs = some (cs', p) → p → RepLs w im cells.toList cs → cs.length = total →
    ∃ cells', Instr.fill place' cells ps = some cells' ∧ RepLs w im cells'.toList cs' ∧ cs'.length = total
  | _, _, cells, cs, cs', p, .nil, hf, hp, hr, hl => by
    simp [fillP] at hf; obtain ⟨rfl, _⟩ := hf
    exact ⟨cells, by simp [Instr.fill], hr, hl⟩
  | _, _, cells, cs, cs', p, .cons (i := i) (v := v) (ls := ls) (ps := ps) (qs := qs) h h', hf, hp, hr, hl => by
    simp only [fillP] at hf
    cases hi : place i with
    | none => simp [hi] at hf
    | some x =>
      obtain ⟨off, size⟩ := x
      simp only [hi] at hf
      cases hg : fillP place total qs (splice off ls cs) with
      | none => simp [hg] at hf
      | some y =>
        obtain ⟨cs2, p2⟩ := y
        simp only [hg, Option.some.injEq, Prod.mk.injEq] at hf
        obtain ⟨rfl, rfl⟩ := hf
        obtain ⟨⟨e1, e2⟩, hp2⟩ := hp
        have hvs : v.cells.size = ls.length := by simpa using h.1
        have hcs : cells.size = cs.length := by simpa using hr.1
        have hfold : (v.cells.zipIdx.foldl (fun cs x => cs.setIfInBounds (off + x.2) x.1) cells).toList = cells.toList.take off ++ v.cells.toList ++ cells.toList.drop (off + v.cells.toList.length) := by
          rw [← Array.foldl_toList, Array.toList_zipIdx]
          have := set_fold off v.cells.toList 0 cells (by simp; omega)
          simpa using this
        obtain ⟨cells', g1, g2, g3⟩ := fill_rep hpl (cells := v.cells.zipIdx.foldl (fun cs x => cs.setIfInBounds (off + x.2) x.1) cells) h' hg hp2 (by rw [hfold]; exact hr.splice off h) (by rw [splice_length (by omega)]; exact hl)
        refine ⟨cells', ?_, g2, g3⟩
        simp only [Instr.fill, hpl _ _ hi]
        rw [if_neg (by simp; omega)]
        exact g1

theorem parts_frz (h : SimI c im pl s a w) {ty : Nat → Option Nat} : ∀ {ps : List (Nat × Operand)} {qs : List (Nat × List L)} {fz : List Nat}, partsOf T s.blks (evO s.slots) ty ps = some (qs, fz) →
    (∀ i ∈ fz, ∃ k, s.blks i = some k ∧ k.st ≠ 3) ∧ ∀ {im' : Nat → Prop}, (∀ b, im b → im' b) → (∀ i ∈ fz, ∀ p, pl i = some p → im' p.b) → PartsRep w im' (ps.map fun x => (x.1, a.eval x.2)) qs
  | [], qs, fz, hq => by simp [partsOf] at hq; obtain ⟨rfl, rfl⟩ := hq; exact ⟨by simp, fun _ _ => .nil⟩
  | (i, x) :: ps, qs, fz, hq => by
    simp only [partsOf] at hq
    cases h1 : ty i with
    | none => simp [h1] at hq
    | some t =>
      simp only [h1] at hq
      cases h2 : cellsOf T s.blks t (evO s.slots x) with
      | none => simp [h2] at hq
      | some y =>
        obtain ⟨ls, f1⟩ := y
        simp only [h2] at hq
        cases h3 : partsOf T s.blks (evO s.slots) ty ps with
        | none => simp [h3] at hq
        | some z =>
          obtain ⟨qs', f2⟩ := z
          simp only [h3, Option.some.injEq, Prod.mk.injEq] at hq
          obtain ⟨rfl, rfl⟩ := hq
          obtain ⟨g1, g2⟩ := parts_frz h h3
          refine ⟨fun j hj => ?_, fun {im'} hi hp => ?_⟩
          · rcases List.mem_append.1 hj with hj | hj
            · exact (cells_rep (im' := fun _ => True) h (h.op x) (h.opwf x) h2 (fun _ _ => trivial) (fun _ _ _ _ => trivial)).2 j hj
            · exact g1 j hj
          · exact .cons (cells_rep h (h.op x) (h.opwf x) h2 hi (fun j hj => hp j (List.mem_append_left _ hj))).1 (g2 hi (fun j hj => hp j (List.mem_append_right _ hj)))

theorem froz_parts (ok : CtxOk c) (h : SimI c im pl s a w) {ty : Nat → Option Nat} {ps : List (Nat × Operand)} {qs : List (Nat × List L)} {fz : List Nat} (hc : partsOf T s.blks (evO s.slots) ty ps = some (qs, fz)) (h100 : fz.all (100 ≤ ·) = true) :
    ∃ im', SimI c im' pl (s.frz fz) a w ∧ (∀ b, im b → im' b) ∧ PartsRep w im' (ps.map fun x => (x.1, a.eval x.2)) qs := by
  obtain ⟨h1, h2⟩ := parts_frz h hc
  obtain ⟨im', g1, g2, g3, _⟩ := SimI.freeze ok fz h (fun i hi => ⟨by simpa using List.all_eq_true.1 h100 i hi, h1 i hi⟩)
  exact ⟨im', g1, g2, h2 g2 g3⟩

theorem mapM_places (hT : TabOk P T) : ∀ {fs : List Field}, (∀ f ∈ fs, ∃ i, P.info? f.type = some i) →
    ∃ places, fs.mapM (fun f => (P.info? f.type).map fun i => (f.offset, i.size)) = some places ∧
      ∀ (j : Nat) o ft df, (fs.map fun f => (f.offset, f.type))[j]? = some (o, ft) → T.td ft = some df → places[j]? = some (o, df.size)
  | [], _ => ⟨[], by simp, by simp⟩
  | f :: fs, h => by
    obtain ⟨i, hi⟩ := h f (by simp)
    obtain ⟨places, h1, h2⟩ := mapM_places hT (fs := fs) fun f hf => h f (by simp [hf])
    refine ⟨(f.offset, i.size) :: places, by simp [List.mapM_cons, hi, h1], fun j o ft df hj hdf => ?_⟩
    cases j with
    | zero =>
      simp at hj
      obtain ⟨rfl, rfl⟩ := hj
      obtain ⟨i', _, hi', hs, _⟩ := (hT _ df hdf).info
      rw [hi] at hi'; cases hi'
      simp [hs]
    | succ j => exact h2 j o ft df (by simpa using hj) hdf

theorem done_build (hT : TabOk P T) (ok : CtxOk c) (h : SimI c im pl s a w) {o : Oper} {t : Nat} {ps : Array (Nat × Operand)} (ho : o.op = .build t ps) {out : Out} (hs : step T (evO s.slots) s.blks o = some out) (hp : out.pre)
    (hf : out.frz.all (100 ≤ ·) = true) (hd : ∀ t, o.dst = some t → t < c.nt) : Done P c o a w (s.out o.dst out) := by
  simp only [step, ho] at hs
  cases hd' : T.td t with
  | none => simp [hd'] at hs
  | some d =>
    simp only [hd'] at hs
    cases hc : partsOf T s.blks (evO s.slots) (fun f => (d.flds[f]?).map (·.2)) ps.toList with
    | none => simp [hc] at hs
    | some lf =>
      obtain ⟨qs, fz⟩ := lf
      simp only [hc] at hs
      cases hg : fillP (fun f => (T.fld d f).map fun x => (x.1, x.2.size)) d.size qs d.zero with
      | none => simp [hg] at hs
      | some y =>
        obtain ⟨cs, p⟩ := y
        simp only [hg] at hs
        cases out_inj hs
        simp only at hp hf
        obtain ⟨hp1, hagg, hfl⟩ := hp
        obtain ⟨im', g1, g2, g3⟩ := froz_parts ok h hc hf
        have ht := hT t d hd'
        obtain ⟨i, zv, hi, hsz, _, hz, hzc⟩ := ht.info
        obtain ⟨u, hu, _, _, _, _, hstr⟩ := ht.und
        obtain ⟨fs, rfl, hfs, hall⟩ := hstr hfl
        obtain ⟨places, hpl1, hpl2⟩ := mapM_places hT hall
        have hplace : ∀ i x, (fun f => (T.fld d f).map fun x => (x.1, x.2.size)) i = some x → (fun i => places.toArray[i]?) i = some x := by
          intro f x hx
          simp only [Tab.fld] at hx
          cases hff : d.flds[f]? with
          | none => simp [hff] at hx
          | some oft =>
            obtain ⟨off, ft⟩ := oft
            simp only [hff] at hx
            cases hft : T.td ft with
            | none => simp [hft] at hx
            | some df =>
              simp [hft] at hx
              subst hx
              simpa using hpl2 f off ft df (by rw [hfs]; exact hff) hft
        obtain ⟨cells', k1, k2, k3⟩ := fill_rep hplace (cells := zv.cells) g3 hg hp1 (by rw [hzc]; exact plain_reps _ _ ht.zp) ht.zl
        have hb : P.built t (ps.map fun x => (x.1, a.eval x.2)).toList = some cells' := by
          simp only [Program.built, hi, hu, hz, hpl1, Array.toList_map]
          exact k1
        have hrun : (execOp a.eval o).run P w = .ok (.value (.agg cells')) w := by
          have := run_build w t (ps.map fun x => (x.1, a.eval x.2)) cells' hb
          simp [execOp, ho, this]
        refine ⟨_, _, _, _, .inl hrun, g1.putD (x := .ag cs) ?_ trivial hd⟩
        have := RepA.ag (pl := pl) k2
        simpa using this

theorem done_buildSlice (hT : TabOk P T) (ok : CtxOk c) (h : SimI c im pl s a w) {o : Oper} {t n : Nat} {ps : Array (Nat × Operand)} (ho : o.op = .buildSlice t n ps) {out : Out} (hs : step T (evO s.slots) s.blks o = some out) (hp : out.pre)
    (hf : out.frz.all (100 ≤ ·) = true) (hm : out.mak ≠ none → s.blks (idOf o.dst 0) = none) (hd : ∀ t, o.dst = some t → t < c.nt) : Done P c o a w (s.out o.dst out) := by
  simp only [step, ho] at hs
  cases hd' : T.td t with
  | none => simp [hd'] at hs
  | some d =>
    simp only [hd'] at hs
    cases he : d.elem with
    | none => simp [he] at hs
    | some e =>
      simp only [he] at hs
      cases hte : T.td e with
      | none => simp [hte] at hs
      | some de =>
        simp only [hte] at hs
        cases hc : partsOf T s.blks (evO s.slots) (fun _ => some e) ps.toList with
        | none => simp [hc] at hs
        | some lf =>
          obtain ⟨qs, fz⟩ := lf
          simp only [hc] at hs
          cases hg : fillP (fun i => some (i * de.size, de.size)) (n * de.size) qs (List.replicate n de.zero).flatten with
          | none => simp [hg] at hs
          | some y =>
            obtain ⟨cs, p⟩ := y
            simp only [hg] at hs
            cases out_inj hs
            simp only at hp hf
            obtain ⟨hp1, hsmall⟩ := hp
            obtain ⟨im', g1, g2, g3⟩ := froz_parts ok h hc hf
            have ht := hT t d hd'
            have hte' := hT e de hte
            obtain ⟨i, zv, hi, hsz, _, hz, hzc⟩ := hte'.info
            obtain ⟨u, hu, _, hel, _⟩ := ht.und
            obtain rfl := hel e he
            have hnew := hm (by simp)
            have hzs : zv.cells.size = de.size := by
              have := congrArg List.length hzc
              simpa [hte'.zl] using this
            have hmade : (madeCells zv.cells (n * de.size)).toList = (List.replicate n zv.cells.toList).flatten := by
              apply List.ext_getElem?
              intro j
              have hpos := hte'.pos
              have hflat : ∀ (m j : Nat), ((List.replicate m zv.cells.toList).flatten)[j]? = if j < m * de.size then some (zv.cells[j % de.size]!) else none := by
                intro m
                induction m with
                | zero => intro j; simp
                | succ m ih =>
                  intro j
                  simp only [List.replicate_succ, List.flatten_cons, List.getElem?_append, Array.length_toList, hzs]
                  by_cases hj : j < de.size
                  · have : j < (m + 1) * de.size := by rw [Nat.add_mul]; omega
                    simp only [hj, this, if_true, Nat.mod_eq_of_lt hj]
                    simp [hzs, hj]
                  · simp only [hj, if_false, ih]
                    have e1 : (j - de.size) % de.size = j % de.size := by
                      have hh := Nat.add_mod_right (j - de.size) de.size
                      rw [Nat.sub_add_cancel (Nat.le_of_not_lt hj)] at hh
                      exact hh.symm
                    rw [e1]
                    have e2 : (j - de.size < m * de.size) ↔ (j < (m + 1) * de.size) := by rw [Nat.add_mul]; omega
                    simp only [e2]
              rw [hflat]
              simp only [madeCells, hzs]
              by_cases hj : j < n * de.size
              · simp [hj]
              · simp [hj]
            have hz0 : RepLs w im' (madeCells zv.cells (n * de.size)).toList (List.replicate n de.zero).flatten := by
              rw [hmade, hzc]
              exact (plain_reps w im' hte'.zp).flatten n
            have hl0 : (List.replicate n de.zero).flatten.length = n * de.size := by simp [hte'.zl]
            obtain ⟨cells', k1, k2, k3⟩ := fill_rep (place' := fun i => some (i * de.size, de.size)) (fun _ _ h => h) g3 hg hp1 hz0 hl0
            have hcells : cells'.size = n * de.size := by have := k2.1; simp at this; omega
            have hrun : (execOp a.eval o).run P w = .ok (.value (.slice (some ⟨w.heap.size, 0, none⟩) n n)) (w.alloc (.cells cells' e)) := by
              by_cases hn0 : n * de.size = 0
              · have hmn : madeCells zv.cells (n * de.size) = #[] := by simp [madeCells, hn0, Array.range_zero']
                rw [hmn] at k1
                have k1' : Instr.fill (fun i => some (i * de.size, de.size)) #[] (List.map (fun x => (x.fst, a.eval x.snd)) ps.toList) = some cells' := k1
                have hn : n = 0 := by have := hte'.pos; rcases Nat.mul_eq_zero.1 hn0 with h | h <;> omega
                subst hn
                simp [execOp, ho, Instr.buildSlice, run_underlying hu, hte'.sizeOf, Array.range_zero', k1', newRow]
              · have := run_buildSlice (P := P) w t e n (ps.map fun x => (x.1, a.eval x.2)) cells' i zv hu hi hz (by rw [hsz]; omega) (by rw [hsz]; exact hn0) (by rw [hsz]; simpa [madeCells] using k1)
                simp [execOp, ho, this]
            have hmk := g1.make ok (frz_none hnew) (by unfold idOf; omega) (Fr.alloc w (.cells cells' e)) (q := ⟨w.heap.size, 0, n⟩) (cur := cells') (e := e) (vs := cells'.toList) (k := ⟨de.size, n, cs, 0⟩) (Nat.le_refl _)
              (heap_alloc_new w _) (Nat.le_refl _) (by simp [hcells]) (fun j v hj => by simpa using hj) k2 (by simp) (by simp [k3])
            refine ⟨_, _, _, _, .inl hrun, hmk.putD (x := .row (idOf o.dst 0) de.size 0 n) ?_ ?_ hd⟩
            · have := RepA.row (w := w.alloc (.cells cells' e)) (im := im') (pl := fun j => if j = idOf o.dst 0 then some ⟨w.heap.size, 0, n⟩ else pl j) (i := idOf o.dst 0) (sz := de.size) (off := 0) (len := n) (c := n) (p := ⟨w.heap.size, 0, n⟩) (by simp) (by simp) (Nat.le_refl _)
              simpa using this
            · exact ⟨⟨de.size, n, cs, 0⟩, by simp [St.setB, St.updO], rfl, by simp⟩

end
end Go.Proofs.YtdhgdpcmdmgchaaGreat.Fw
