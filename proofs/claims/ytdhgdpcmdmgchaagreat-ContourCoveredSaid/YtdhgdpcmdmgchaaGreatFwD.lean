/- The framework's steps are the machine's: small laws on reading, writing and handing on. Conditions: none. -/
import Derived.Test.YtdhgdpcmdmgchaaGreatFwC
namespace Go.Proofs.YtdhgdpcmdmgchaaGreat.Fw
open Go

theorem addr_add (b o j : Nat) : (⟨b, o, none⟩ : Addr).add j = ⟨b, o + j, none⟩ := by
  unfold Addr.add; split <;> simp_all

theorem rowCells_eq {k : Blk} {off len : Nat} (hl : k.cs.length = k.n * k.sz) : rowCells k off len = seg (off * k.sz) (len * k.sz) k.cs := by
  unfold rowCells
  split
  · rename_i h
    obtain ⟨rfl, rfl⟩ := h
    simp [seg, ← hl]
  · rfl

theorem rowCells_len {k : Blk} {off len : Nat} (hl : k.cs.length = k.n * k.sz) (h : off + len ≤ k.n) : (rowCells k off len).length = len * k.sz := by
  rw [rowCells_eq hl]
  simp only [seg, List.length_take, List.length_drop, hl]
  have : (off + len) * k.sz ≤ k.n * k.sz := Nat.mul_le_mul_right _ h
  rw [Nat.add_mul] at this
  omega

section
variable {P : Program} {T : Tab} {c : Ctx} {im im' : Nat → Prop} {pl : Nat → Option Place} {s : St} {a : Act} {w : World}

theorem RepA.const (v : Value) : RepA w im pl v (AV.ofConst v) := by
  unfold AV.ofConst
  split
  · exact .lf (.int _ _)
  · exact .lf (.bool _)
  · exact .nils
  · exact .undef _

theorem SimI.op (h : SimI c im pl s a w) (x : Operand) : RepA w im pl (a.eval x) (evO s.slots x) := by
  cases x with
  | tmp t => exact h.slots t
  | const v => exact .const v
  | global g => exact .undef _
  | func f => exact .lf (.fn f)

theorem wf_const (v : Value) : (AV.ofConst v).wf s.blks := by
  unfold AV.ofConst; split <;> trivial

theorem SimI.opwf (h : SimI c im pl s a w) (x : Operand) : (evO s.slots x).wf s.blks := by
  cases x with
  | tmp t => exact h.wf t
  | const v => exact wf_const v
  | global g => trivial
  | func f => trivial

/-- A slice of the call's own, as a list of cells. -/
theorem row_at {i sz off len : Nat} {k : Blk} {v : Value} (hB : RepB c.w0.heap.size c.par w im i (pl i) k) (hst : k.st < 3) (hsz : k.sz = sz) (hle : off + len ≤ k.n) (h : RepA w im pl v (.row i sz off len)) :
    ∃ A cp vs, v = .slice A len cp ∧ RepLs w im vs (rowCells k off len) ∧ (len = 0 ∨ ∃ p cur e, pl i = some p ∧ A = some ⟨p.b, p.o + off * sz, none⟩ ∧ len ≤ cp ∧ off + cp ≤ p.cap ∧ w.heap[p.b]? = some (.cells cur e (0, 0)) ∧
      (∀ (j : Nat) u, vs[j]? = some u → cur[p.o + off * sz + j]? = some u)) := by
  obtain ⟨hl, hB⟩ := hB
  subst hsz
  have hlen := rowCells_len hl hle
  have hzero : len = 0 → rowCells k off len = [] := fun e => List.eq_nil_of_length_eq_zero (by rw [hlen, e, Nat.zero_mul])
  cases h with
  | row0 A => exact ⟨A, 0, [], rfl, by rw [hzero rfl]; exact .nil, .inl rfl⟩
  | row hp h1 h2 =>
    rename_i cp p
    rcases hB with hB | ⟨hB, _⟩ | ⟨q, cur, e, vs, g1, g2, g3, g4, g5, g6, g7, g8, g9, g10⟩
    · omega
    · rw [hB] at hp; cases hp
    · rw [g1] at hp; cases hp
      refine ⟨_, cp, (vs.drop (off * k.sz)).take (len * k.sz), rfl, by rw [rowCells_eq hl]; exact g7.seg _ _, ?_⟩
      refine .inr ⟨p, cur, e, g1, rfl, h2, h1, g2, fun j u hj => ?_⟩
      rw [List.getElem?_take] at hj
      split at hj
      · rw [List.getElem?_drop] at hj
        have := g6 _ _ hj
        rwa [← Nat.add_assoc] at this
      · cases hj

theorem cell_at {b o : Nat} {cur : Array Value} {e : TypeId} {u : Value} (hh : w.heap[b]? = some (.cells cur e (0, 0))) (h : cur[o]? = some u) : w.cell? ⟨b, o, none⟩ = some u := by
  rw [cell_of_row w b o cur e (0, 0) hh]; exact h

/-- A slice of the call's own that is only read from now on. -/
theorem row_rep {i sz off len : Nat} {k : Blk} {v : Value} (hB : RepB c.w0.heap.size c.par w im i (pl i) k) (hst : k.st < 3) (hsz : k.sz = sz) (hle : off + len ≤ k.n) (h : RepA w im pl v (.row i sz off len))
    (hi : ∀ b, im b → im' b) (hp : ∀ p, pl i = some p → im' p.b) : RepL w im' v (.sl k.sz len (rowCells k off len)) := by
  have hlen := rowCells_len hB.1 hle
  obtain ⟨A, cp, vs, rfl, h2, h3⟩ := row_at hB hst hsz hle h
  by_cases e0 : len = 0
  · subst e0
    have : rowCells k off 0 = [] := List.eq_nil_of_length_eq_zero (by simp [hlen])
    rw [this]; exact .sl0 A cp _
  · rcases h3 with h3 | ⟨p, cur, e, h3, rfl, h5, h6, h7, h8⟩
    · exact absurd h3 e0
    · refine .sl p.b _ len cp _ _ (fun j => vs.getD j undef) (hp p h3) hlen h5 (fun j hj => ?_) (fun j hj => ?_)
      · obtain ⟨u, g1, g2⟩ := h2.2 j hj
        refine cell_at h7 ?_
        rw [h8 j u g1]
        simp [List.getD, g1]
      · obtain ⟨u, g1, g2⟩ := h2.2 j hj
        simp only [List.getD, g1, Option.getD_some]
        exact g2.mono hi (fun _ _ => rfl)

/-- What is handed on. -/
theorem cells_rep (h : SimI c im pl s a w) {ty : Nat} {x : AV} {v : Value} {ls : List L} {fz : List Nat} (hx : RepA w im pl v x) (hwf : x.wf s.blks) (hc : cellsOf T s.blks ty x = some (ls, fz))
    (hi : ∀ b, im b → im' b) (hp : ∀ i ∈ fz, ∀ p, pl i = some p → im' p.b) : RepLs w im' v.cells.toList ls ∧ (∀ i ∈ fz, ∃ k, s.blks i = some k ∧ k.st ≠ 3) := by
  cases hx with
  | undef => simp [cellsOf] at hc
  | lf h => simp [cellsOf] at hc; obtain ⟨rfl, rfl⟩ := hc; exact ⟨by rw [h.cells]; exact .one (h.mono hi (fun _ _ => rfl)), by simp⟩
  | ag h => simp [cellsOf] at hc; obtain ⟨rfl, rfl⟩ := hc; exact ⟨by simpa [Value.cells] using h.mono hi (fun _ _ => rfl), by simp⟩
  | nils =>
    simp only [cellsOf] at hc
    split at hc
    · simp at hc; obtain ⟨rfl, rfl⟩ := hc; exact ⟨.one (.sl0 none 0 _), by simp⟩
    · simp at hc
  | row0 A i sz off =>
    have hx : RepA w im pl (.slice A 0 0) (.row i sz off 0) := .row0 A i sz off
    obtain ⟨k, hk, h2, h3⟩ := hwf
    simp only [cellsOf, hk] at hc
    split at hc
    · simp at hc; obtain ⟨rfl, rfl⟩ := hc
      exact ⟨.one (row_rep (h.blks i k hk) (by assumption) h2 h3 hx hi (hp i (by simp))), by simp [hk]; omega⟩
    · simp at hc
  | row g1 g2 g3 =>
    rename_i i sz off len cp p
    have hx : RepA w im pl _ (.row i sz off len) := .row g1 g2 g3
    obtain ⟨k, hk, h2, h3⟩ := hwf
    simp only [cellsOf, hk] at hc
    split at hc
    · simp at hc; obtain ⟨rfl, rfl⟩ := hc
      exact ⟨.one (row_rep (h.blks i k hk) (by assumption) h2 h3 hx hi (hp i (by simp))), by simp [hk]; omega⟩
    · simp at hc
  | ad _ => simp [cellsOf] at hc
  | pt _ _ _ _ => simp [cellsOf] at hc
  | tup _ _ => simp [cellsOf] at hc

theorem RepLs.size_eq {vs : Array Value} {ls : List L} (h : RepLs w im vs.toList ls) : vs.size = ls.length := by simpa using h.1

/-! ### reading -/

theorem TdOk.isAgg {t : Nat} {d : TD} (h : TdOk P t d) : (isAgg t).run P w = .ok d.agg w := by
  obtain ⟨u, hu, ha, _⟩ := h.und
  simp only [Go.isAgg, Sem.run_bind, run_underlying hu, Result.andThen_ok]
  rw [ha]; cases u <;> rfl
theorem TdOk.sizeOf {t : Nat} {d : TD} (h : TdOk P t d) : (sizeOf t).run P w = .ok d.size w := by
  obtain ⟨i, zv, hi, hs, _⟩ := h.info
  simp [Go.sizeOf, typeInfo, hi, hs]

theorem load_run {t : Nat} {d : TD} (h : TdOk P t d) {b o : Nat} {vs : List Value} (hl : vs.length = d.size) (hc : ∀ (j : Nat) v, vs[j]? = some v → w.cell? ⟨b, o + j, none⟩ = some v) :
    (loadVar t ⟨b, o, none⟩).run P w = .ok (if d.agg then .agg vs.toArray else vs.headD undef) w := by
  simp only [loadVar, Sem.run_bind, h.isAgg, Result.andThen_ok]
  split
  · simp only [Sem.run_bind, h.sizeOf, Result.andThen_ok, ← hl]
    rw [run_loadCells_list w ⟨b, o, none⟩ vs (fun j v hj => by rw [addr_add]; exact hc j v hj)]
    rfl
  · cases vs with
    | nil => have := h.pos; simp at hl; omega
    | cons v vs =>
      have := hc 0 v rfl
      simp only [Nat.add_zero] at this
      simp [run_load, this]

/-- What a load gives. -/
theorem load_rep {t : Nat} {d : TD} (h : TdOk P t d) {cs : List L} {vs : List Value} {p : Nat} (hr : RepLs w im vs cs) (hp : p + d.size ≤ cs.length) :
    RepA w im pl (if d.agg then .agg ((vs.drop p).take d.size).toArray else ((vs.drop p).take d.size).headD undef) (if d.agg then .ag (seg p d.size cs) else .lf (cs.getD p (d.zero.headD default))) := by
  split
  · exact .ag (hr.seg _ _)
  · have hpos := h.pos
    obtain ⟨v, h1, h2⟩ := hr.2 p (by omega)
    have e1 : ((vs.drop p).take d.size).headD undef = v := by
      rw [List.headD_eq_head?_getD, List.head?_take, List.head?_drop]
      simp [h1, Nat.ne_of_gt hpos]
    have e2 : cs.getD p (d.zero.headD default) = cs[p]'(by omega) := by
      rw [List.getD_eq_getElem?_getD, List.getElem?_eq_getElem (by omega)]; rfl
    rw [e1, e2]
    exact .lf h2

theorem wf_load {d : TD} {x y} : (if d.agg then AV.ag x else .lf y).wf s.blks := by split <;> trivial

theorem load_len {d : TD} {vs : List Value} {cs : List L} {p : Nat} (hr : RepLs w im vs cs) (hp : p + d.size ≤ cs.length) : ((vs.drop p).take d.size).length = d.size := by
  simp [hr.1]; omega

end
end Go.Proofs.YtdhgdpcmdmgchaaGreat.Fw
