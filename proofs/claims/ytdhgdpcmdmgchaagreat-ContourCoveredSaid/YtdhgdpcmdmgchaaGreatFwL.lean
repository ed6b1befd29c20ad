/- The framework's regions: two moves that nothing orders may change places. Conditions: none. -/
import Derived.Test.YtdhgdpcmdmgchaaGreatFwK
namespace Go.Proofs.YtdhgdpcmdmgchaaGreat.Fw
open Go
set_option linter.unusedSimpArgs false
set_option linter.unusedVariables false

section
variable {P : Program} {T : Tab} {ρ : Operand → AV} {rd rd' : Nat → Option Blk}

/-- rd' knows all that rd knows. -/
def Ext (rd rd' : Nat → Option Blk) : Prop := ∀ i v, view rd i = some v → view rd' i = some v

theorem view_of {i : Nat} {k : Blk} (h : rd i = some k) (hst : k.st < 3) : view rd i = some (k.sz, k.n, k.cs) := by simp [view, h, hst]
theorem of_view {i sz n : Nat} {cs : List L} (h : view rd i = some (sz, n, cs)) : ∃ k, rd i = some k ∧ k.st < 3 ∧ k.sz = sz ∧ k.n = n ∧ k.cs = cs := by
  simp only [view] at h
  split at h
  · split at h
    · simp at h; obtain ⟨rfl, rfl, rfl⟩ := h; exact ⟨_, by assumption, by assumption, rfl, rfl, rfl⟩
    · simp at h
  · simp at h

theorem cellsOf_ext (he : Ext rd rd') {ty : Nat} {x : AV} {y : List L × List Nat} (h : cellsOf T rd ty x = some y) : cellsOf T rd' ty x = some y := by
  cases x with
  | row i sz off len =>
    simp only [cellsOf] at h ⊢
    cases hk : rd i with
    | none => simp [hk] at h
    | some k =>
      simp only [hk] at h
      split at h
      · rename_i hst
        obtain ⟨k', h1, h2, h3, h4, h5⟩ := of_view (he i _ (view_of hk hst))
        simp only [h1, h2, if_true, h3, rowCells_view h3 h4 h5]; exact h
      · simp at h
  | _ => exact h

theorem elemsOf_ext (he : Ext rd rd') {sz : Nat} {x : AV} {y : Nat × List L} (h : elemsOf rd sz x = some y) : elemsOf rd' sz x = some y := by
  cases x with
  | row i sz' off len =>
    simp only [elemsOf] at h ⊢
    cases hk : rd i with
    | none => simp [hk] at h
    | some k =>
      simp only [hk] at h
      split at h
      · rename_i hst
        obtain ⟨k', h1, h2, h3, h4, h5⟩ := of_view (he i _ (view_of hk hst.2))
        simp only [h1, h2, h3, hst.1, and_self, if_true, rowCells_view h3 h4 h5]; exact h
      · simp at h
  | lf l => cases l <;> exact h
  | _ => exact h

theorem argOf_ext (he : Ext rd rd') {ty : Nat} {x : AV} {y : Arg × List Nat} (h : argOf T rd ty x = some y) : argOf T rd' ty x = some y := by
  cases x with
  | ag ls => exact h
  | _ =>
    simp only [argOf] at h ⊢
    split at h
    · rename_i l fz hc; rw [cellsOf_ext he hc]; exact h
    · simp at h

theorem partsOf_ext (he : Ext rd rd') {ty : Nat → Option Nat} : ∀ {ps : List (Nat × Operand)} {y : List (Nat × List L) × List Nat}, partsOf T rd ρ ty ps = some y → partsOf T rd' ρ ty ps = some y
  | [], _, h => h
  | (i, x) :: ps, y, h => by
    simp only [partsOf] at h ⊢
    split at h
    · rename_i t ht
      split at h
      · rename_i ls fz hc
        split at h
        · rename_i qs fz' hr
          simp only [ht, cellsOf_ext he hc, partsOf_ext he hr]; exact h
        · simp at h
      · simp at h
    · simp at h

theorem argsOf_ext (he : Ext rd rd') : ∀ {xs : List (Operand × Nat)} {y : List Arg × List Nat}, argsOf T rd ρ xs = some y → argsOf T rd' ρ xs = some y
  | [], _, h => h
  | (x, ty) :: xs, y, h => by
    simp only [argsOf] at h ⊢
    split at h
    · rename_i a f hc
      split at h
      · rename_i as fz hr
        simp only [argOf_ext he hc, argsOf_ext he hr]; exact h
      · simp at h
    · simp at h

theorem step_ext (he : Ext rd rd') {o : Oper} {out : Out} (hc : cls T o.op ≤ 1) (hs : step T ρ rd o = some out) : step T ρ rd' o = some out := by
  cases hop : o.op <;> try (simp only [step, hop] at hs ⊢; exact hs)
  case box t x =>
    simp only [step, hop] at hs ⊢
    split at hs
    · rename_i d hd
      split at hs
      · rename_i ls fz hcl
        simp only [hd, cellsOf_ext he hcl]; exact hs
      · simp at hs
    · simp at hs
  case build t ps =>
    simp only [step, hop] at hs ⊢
    split at hs
    · rename_i d hd
      split at hs
      · rename_i qs fz hcl
        simp only [hd, partsOf_ext he hcl]; exact hs
      · simp at hs
    · simp at hs
  case buildSlice t n ps =>
    simp only [step, hop] at hs ⊢
    split at hs
    · rename_i d hd
      split at hs
      · rename_i e hel
        split at hs
        · rename_i de hde
          split at hs
          · rename_i qs fz hcl
            simp only [hd, hel, hde, partsOf_ext he hcl]; exact hs
          · simp at hs
        · simp at hs
      · simp at hs
    · simp at hs
  case load t x =>
    simp only [step, hop] at hs ⊢
    cases hd : T.td t with
    | none => simp [hd] at hs
    | some d =>
      simp only [hd] at hs ⊢
      cases hx : ρ x with
      | ad i p =>
        simp only [hx] at hs ⊢
        cases hk : rd i with
        | none => simp [hk] at hs
        | some k =>
          simp only [hk] at hs
          split at hs
          · rename_i hst
            obtain ⟨k', h1, h2, h3, h4, h5⟩ := of_view (he i _ (view_of hk hst))
            simp only [h1, h2, if_true, h3, h4, h5]; exact hs
          · simp at hs
      | pt sz n cs p => simp only [hx] at hs ⊢; exact hs
      | _ => simp [hx] at hs
  case store t x y => simp [cls, hop] at hc
  case call cl =>
    obtain ⟨callee, args, argTypes⟩ := cl
    cases callee with
    | builtin b =>
      cases b <;> try (simp only [step, hop] at hs ⊢; exact hs)
      case append =>
        rw [hop] at hc
        obtain ⟨x, y, hx, hn⟩ := append_nil hc
        simp only [step, hop, hx] at hs ⊢
        split at hs
        · rename_i x' y' t t' e1 e2
          cases e1
          simp only [hn, if_true] at hs ⊢
          repeat' (split at hs)
          all_goals first
            | (simp at hs; done)
            | simp_all [elemsOf_ext he]
        · simp at hs
    | _ => simp [step, hop] at hs

theorem moves_ext (he : Ext rd rd') {o : Oper} {d : Delta} (hρf : ∀ f, ρ (.func f) = .lf (.fn f)) (hc : cls T o.op ≤ 1) (h : moves P T o ρ rd d) (hfr : ∀ x ∈ d.mks, rd' x.1 = none) : moves P T o ρ rd' d := by
  unfold moves at h ⊢
  split
  · rename_i f args argTypes ho
    simp only [ho] at h
    split
    · rename_i fid hfid
      simp only [hfid] at h
      have hfun : T.mu fid = none := by
        cases f with
        | func f' =>
          rw [hρf] at hfid; cases hfid
          simp only [cls, ho] at hc
          split at hc
          · assumption
          · omega
        | _ => simp [cls, ho] at hc
      refine ⟨?_, h.2⟩
      have h := h.1
      unfold callM at h ⊢
      simp only [hfun] at h ⊢
      obtain ⟨as, fz, res, g1, g2, g3, g4, g5⟩ := h
      exact ⟨as, fz, res, argsOf_ext he g1, g2, g3, by rcases g5 with ⟨_, _, rfl⟩ | ⟨_, _, rfl⟩ <;> exact hfr, g5⟩
    · rename_i hne
      split at h
      · rename_i fid hfid; exact absurd hfid (hne fid)
      · exact h
  · rename_i hne
    split at h
    · rename_i f args argTypes ho; exact absurd ho (hne f args argTypes)
    · obtain ⟨out, g1, g2, g3, g4, rfl⟩ := h
      refine ⟨out, step_ext he hc g1, g2, g3, fun hm => ?_, rfl⟩
      cases hm' : out.mak with
      | none => exact absurd hm' hm
      | some k => exact hfr (idOf o.dst 0, k) (by simp [opDelta, hm'])

end

/-! ### moves in a region -/

def wantOf (ops : Array Oper) (o : Oper) (sl : Nat → AV) : Option Bool :=
  match o.guard with
  | none => some true
  | some (j, want) => match (ops[j]?).bind (·.dst) with
    | some d => match sl d with
      | .lf (.bool b) => some (b == want)
      | .tup [] => some false
      | _ => none
    | none => none

def Mv (P : Program) (T : Tab) (ops : Array Oper) (o : Oper) (s : St) (d : Delta) : Prop :=
  (wantOf ops o s.slots = some true ∧ moves P T o (evO s.slots) s.blks d) ∨ (wantOf ops o s.slots = some false ∧ d = { dst := o.dst, v := .tup [] })

section
variable {P : Program} {T : Tab} {ops : Array Oper} {s s' : St} {o : Oper} {d : Delta}

/-- What an operation looks at, and nothing else, is alike. -/
def Same (ops : Array Oper) (o : Oper) (s s' : St) : Prop := ∀ t ∈ o.looksAt ops, s'.slots t = s.slots t

theorem Same.op (h : Same ops o s s') : ∀ x ∈ o.op.operands.toList, evO s.slots x = evO s'.slots x := by
  intro x hx
  cases x with
  | tmp t => exact (h t (List.mem_append_left _ (List.mem_filterMap.2 ⟨.tmp t, by simpa using hx, rfl⟩))).symm
  | _ => rfl

theorem Same.want (h : Same ops o s s') : wantOf ops o s'.slots = wantOf ops o s.slots := by
  unfold wantOf
  cases hg : o.guard with
  | none => rfl
  | some gw =>
    obtain ⟨j, want⟩ := gw
    simp only
    cases ht : (ops[j]?).bind (·.dst) with
    | none => rfl
    | some t =>
      simp only
      rw [h t (by simp [Oper.looksAt, hg, ht])]

theorem evO_fn (s : St) (f : Nat) : evO s.slots (.func f) = .lf (.fn f) := rfl

theorem Mv.dst (h : Mv P T ops o s d) : d.dst = o.dst := by
  rcases h with ⟨_, h⟩ | ⟨_, rfl⟩
  · exact moves_dst h
  · rfl

theorem Mv.slots (h : Mv P T ops o s d) (hs : Same ops o s s') (hb : s'.blks = s.blks) : Mv P T ops o s' d := by
  rcases h with ⟨h1, h2⟩ | ⟨h1, h2⟩
  · exact .inl ⟨hs.want.trans h1, by rw [hb]; exact moves_slots hs.op h2⟩
  · exact .inr ⟨hs.want.trans h1, h2⟩

theorem Mv.pure (h : Mv P T ops o s d) (hc : cls T o.op = 0) : d = { dst := o.dst, v := d.v } ∧ ∀ s', Same ops o s s' → Mv P T ops o s' d := by
  rcases h with ⟨h1, h2⟩ | ⟨h1, h2⟩
  · obtain ⟨g1, g2⟩ := moves_pure hc h2
    exact ⟨g1, fun s' hs => .inl ⟨hs.want.trans h1, moves_slots hs.op (g2 _)⟩⟩
  · subst h2; exact ⟨rfl, fun s' hs => .inr ⟨hs.want.trans h1, rfl⟩⟩

/-- The ids that an operation's operands name. -/
def names (o : Oper) (s : St) (i : Nat) : Prop := ∃ x ∈ o.op.operands.toList, i ∈ (evO s.slots x).ids

theorem Mv.one (h : Mv P T ops o s d) (hc : cls T o.op ≤ 1) :
    d.upd = none ∧ (∀ i ∈ d.frz, names o s i ∧ view s.blks i ≠ none) ∧ (∀ x ∈ d.mks, s.blks x.1 = none) ∧
    (∀ s', Same ops o s s' → (∀ i, names o s i → view s.blks i = view s'.blks i) → (∀ x ∈ d.mks, s'.blks x.1 = none) → Mv P T ops o s' d) ∧
    (∀ s', Same ops o s s' → Ext s.blks s'.blks → (∀ x ∈ d.mks, s'.blks x.1 = none) → Mv P T ops o s' d) := by
  rcases h with ⟨h1, h2⟩ | ⟨h1, h2⟩
  · obtain ⟨g1, g2, g3, g4⟩ := moves_one (evO_fn s) hc h2
    refine ⟨g1, fun i hi => ?_, g3, fun s' hs hv hf => ?_, fun s' hs he hf => ?_⟩
    · obtain ⟨x, k1, k2, k3⟩ := g2 i hi; exact ⟨⟨x, k1, k2⟩, k3⟩
    · exact .inl ⟨hs.want.trans h1, moves_slots hs.op (g4 _ (fun x hx i hi => hv i ⟨x, hx, hi⟩) hf)⟩
    · exact .inl ⟨hs.want.trans h1, moves_slots hs.op (moves_ext he (evO_fn s) hc h2 hf)⟩
  · subst h2
    exact ⟨rfl, by simp, by simp, fun s' hs _ _ => .inr ⟨hs.want.trans h1, rfl⟩, fun s' hs _ _ => .inr ⟨hs.want.trans h1, rfl⟩⟩

/-! ### changes commute -/

theorem St.ext_ {s s' : St} (h1 : s.slots = s'.slots) (h2 : s.blks = s'.blks) : s = s' := by cases s; cases s'; simp_all

theorem frz1_blks (s : St) (i j : Nat) : (s.frz1 i).blks j = if j = i then (s.blks j).map (fun k => { k with st := 2 }) else s.blks j := by
  unfold St.frz1
  cases hk : s.blks i with
  | none =>
    simp only
    split
    · rename_i e; subst e; simp [hk]
    · rfl
  | some k =>
    simp only [St.setB]
    split
    · rename_i e; subst e; simp [hk]
    · rfl
theorem frz_blks : ∀ (l : List Nat) (s : St) (j : Nat), (s.frz l).blks j = if j ∈ l then (s.blks j).map (fun k => { k with st := 2 }) else s.blks j
  | [], s, j => by simp [St.frz]
  | i :: l, s, j => by
    have := frz_blks l (s.frz1 i) j
    simp only [St.frz, List.foldl_cons] at this ⊢
    rw [this, frz1_blks]
    by_cases h2 : j = i
    · subst h2
      by_cases h1 : j ∈ l
      · simp only [h1, if_true, List.mem_cons, true_or]; cases s.blks j <;> rfl
      · simp [h1]
    · simp [h2]
theorem frz1_slots (s : St) (i : Nat) : (s.frz1 i).slots = s.slots := by unfold St.frz1; split <;> rfl
theorem frz_slots : ∀ (l : List Nat) (s : St), (s.frz l).slots = s.slots
  | [], s => rfl
  | i :: l, s => by have := frz_slots l (s.frz1 i); simp only [St.frz, List.foldl_cons] at this ⊢; rw [this, frz1_slots]
theorem mkL_slots : ∀ (l : List (Nat × Blk)) (s : St), (s.mkL l).slots = s.slots
  | [], s => rfl
  | x :: l, s => by have := mkL_slots l (s.setB x.1 x.2); simp only [St.mkL, List.foldl_cons] at this ⊢; rw [this]; rfl
theorem mkL_other : ∀ (l : List (Nat × Blk)) (s : St) (j : Nat), (∀ x ∈ l, x.1 ≠ j) → (s.mkL l).blks j = s.blks j
  | [], s, j, _ => rfl
  | x :: l, s, j, h => by
    have := mkL_other l (s.setB x.1 x.2) j (fun y hy => h y (by simp [hy]))
    simp only [St.mkL, List.foldl_cons] at this ⊢
    rw [this]; simp only [St.setB]; rw [if_neg (Ne.symm (h x (by simp)))]
theorem mkL_has : ∀ (l : List (Nat × Blk)) (s : St) (j : Nat), (∃ x ∈ l, x.1 = j) → ∃ k, ∀ s' : St, (s'.mkL l).blks j = some k
  | [], s, j, h => by simp at h
  | x :: l, s, j, h => by
    by_cases h2 : ∃ y ∈ l, y.1 = j
    · obtain ⟨k, hk⟩ := mkL_has l s j h2
      exact ⟨k, fun s' => by have := hk (s'.setB x.1 x.2); simpa [St.mkL] using this⟩
    · have hx : x.1 = j := by
        obtain ⟨y, hy, e⟩ := h
        rcases List.mem_cons.1 hy with rfl | hy
        · exact e
        · exact absurd ⟨y, hy, e⟩ h2
      refine ⟨x.2, fun s' => ?_⟩
      have := mkL_other l (s'.setB x.1 x.2) j (fun y hy e => h2 ⟨y, hy, e⟩)
      simp only [St.mkL, List.foldl_cons] at this ⊢
      rw [this]; simp [St.setB, hx]

theorem putD_blks (s : St) (d : Option Nat) (x : AV) : (s.putD d x).blks = s.blks := by cases d <;> rfl
theorem putD_slots (s : St) (d : Option Nat) (x : AV) (t : Nat) : (s.putD d x).slots t = if d = some t then x else s.slots t := by
  cases d with
  | none => simp [St.putD]
  | some e =>
    simp only [St.putD, St.put, Option.some.injEq]
    by_cases h : t = e
    · simp [h]
    · simp [h, Ne.symm h]

/-- What a change without a write makes of the blocks. -/
theorem app_blks (hu : d.upd = none) (i : Nat) : (d.app s).blks i = ((s.frz d.frz).mkL d.mks).blks i := by
  unfold Delta.app; rw [putD_blks, hu]; rfl
theorem app_slots (t : Nat) : (d.app s).slots t = if d.dst = some t then d.v else s.slots t := by
  unfold Delta.app
  rw [putD_slots, mkL_slots]
  cases hu : d.upd with
  | none => simp only [St.updO]; rw [frz_slots]
  | some x => simp only [St.updO, St.setB]; rw [frz_slots]

theorem app_pure (h : d = { dst := o.dst, v := d.v }) : (d.app s).blks = s.blks := by
  rw [h]; unfold Delta.app; rw [putD_blks]; rfl

theorem app_comm_pure {d1 d2 : Delta} (h1 : d1.frz = [] ∧ d1.upd = none ∧ d1.mks = []) (hne : ∀ t, d1.dst = some t → d2.dst ≠ some t) : d1.app (d2.app s) = d2.app (d1.app s) := by
  have hb : ∀ s : St, (d1.app s).blks = s.blks := fun s => by unfold Delta.app; rw [putD_blks, h1.1, h1.2.1, h1.2.2]; rfl
  refine St.ext_ (funext fun t => ?_) ?_
  · rw [app_slots, app_slots, app_slots, app_slots]
    by_cases e1 : d1.dst = some t
    · rw [if_pos e1, if_neg (hne t e1), if_pos e1]
    · rw [if_neg e1, if_neg e1]
  · rw [hb]
    unfold Delta.app at *
    rw [putD_blks, putD_blks]
    have hb' := hb s
    generalize hs1 : (((s.frz d1.frz).updO d1.upd).mkL d1.mks).putD d1.dst d1.v = s1 at *
    have key : ∀ (f : List Nat) (u : Option (Nat × Blk)) (m : List (Nat × Blk)) (s s1 : St), s1.blks = s.blks → (((s.frz f).updO u).mkL m).blks = (((s1.frz f).updO u).mkL m).blks := by
      intro f u m s s1 hb
      have h1 : ∀ (f : List Nat) (s s1 : St), s1.blks = s.blks → (s.frz f).blks = (s1.frz f).blks := fun f s s1 hb => funext fun j => by rw [frz_blks, frz_blks, hb]
      have h2 : ∀ (u : Option (Nat × Blk)) (s s1 : St), s1.blks = s.blks → (s.updO u).blks = (s1.updO u).blks := fun u s s1 hb => by cases u <;> simp [St.updO, St.setB, hb]
      have h3 : ∀ (m : List (Nat × Blk)) (s s1 : St), s1.blks = s.blks → (s.mkL m).blks = (s1.mkL m).blks := by
        intro m
        induction m with
        | nil => intro s s1 hb; exact hb.symm
        | cons x m ih => intro s s1 hb; exact ih (s.setB x.1 x.2) (s1.setB x.1 x.2) (by simp [St.setB, hb])
      exact h3 _ _ _ (h2 _ _ _ (h1 _ _ _ hb).symm).symm
    exact key _ _ _ _ _ hb'

theorem app_comm_one {d1 d2 : Delta} (hu1 : d1.upd = none) (hu2 : d2.upd = none) (hne : ∀ t, d1.dst = some t → d2.dst ≠ some t)
    (hd : ∀ x ∈ d1.mks, ∀ y ∈ d2.mks, x.1 ≠ y.1) (hf1 : ∀ i ∈ d1.frz, ∀ y ∈ d2.mks, y.1 ≠ i) (hf2 : ∀ i ∈ d2.frz, ∀ x ∈ d1.mks, x.1 ≠ i) : d1.app (d2.app s) = d2.app (d1.app s) := by
  refine St.ext_ (funext fun t => ?_) (funext fun j => ?_)
  · rw [app_slots, app_slots, app_slots, app_slots]
    by_cases e1 : d1.dst = some t
    · rw [if_pos e1, if_neg (hne t e1), if_pos e1]
    · rw [if_neg e1, if_neg e1]
  · rw [app_blks hu1, app_blks hu2]
    by_cases m1 : ∃ x ∈ d1.mks, x.1 = j
    · obtain ⟨k, hk⟩ := mkL_has d1.mks s j m1
      rw [hk]
      have m2 : ∀ y ∈ d2.mks, y.1 ≠ j := by obtain ⟨x, hx, rfl⟩ := m1; exact fun y hy e => hd x hx y hy e.symm
      have f2 : j ∉ d2.frz := by obtain ⟨x, hx, rfl⟩ := m1; exact fun hj => hf2 _ hj x hx rfl
      rw [mkL_other _ _ _ m2, frz_blks, if_neg f2, app_blks hu1, hk]
    · have m1' : ∀ x ∈ d1.mks, x.1 ≠ j := fun x hx e => m1 ⟨x, hx, e⟩
      rw [mkL_other _ _ _ m1', frz_blks]
      by_cases m2 : ∃ y ∈ d2.mks, y.1 = j
      · obtain ⟨k, hk⟩ := mkL_has d2.mks s j m2
        have f1 : j ∉ d1.frz := by obtain ⟨y, hy, rfl⟩ := m2; exact fun hj => hf1 _ hj y hy rfl
        rw [if_neg f1, app_blks hu2, hk, hk]
      · have m2' : ∀ x ∈ d2.mks, x.1 ≠ j := fun x hx e => m2 ⟨x, hx, e⟩
        rw [app_blks hu2, mkL_other _ _ _ m2', frz_blks, mkL_other _ _ _ m2', frz_blks, app_blks hu1, mkL_other _ _ _ m1', frz_blks]
        by_cases e1 : j ∈ d1.frz <;> by_cases e2 : j ∈ d2.frz <;> simp [e1, e2]

/-- May they change places? -/
def indep (T : Tab) (ops : Array Oper) (x y : Oper) : Bool :=
  x.apart ops y && (cls T x.op == 0 || cls T y.op == 0 || (cls T x.op ≤ 1 && cls T y.op ≤ 1))

/-- What an operation names is there. -/
def Named (o : Oper) (s : St) : Prop := ∀ i, names o s i → s.blks i ≠ none

theorem app_grows {i : Nat} (h : s.blks i ≠ none) : (d.app s).blks i ≠ none := by
  unfold Delta.app
  rw [putD_blks]
  have h1 : (s.frz d.frz).blks i ≠ none := by rw [frz_blks]; split <;> simp [h]
  have h2 : ((s.frz d.frz).updO d.upd).blks i ≠ none := by
    cases d.upd with
    | none => exact h1
    | some x => simp only [St.updO, St.setB]; split <;> simp [h1]
  generalize (s.frz d.frz).updO d.upd = s1 at h2
  by_cases m : ∃ x ∈ d.mks, x.1 = i
  · obtain ⟨k, hk⟩ := mkL_has d.mks s1 i m; rw [hk]; simp
  · rw [mkL_other _ _ _ (fun x hx e => m ⟨x, hx, e⟩)]; exact h2

theorem same_app {p : Oper} {dp : Delta} (hdst : dp.dst = p.dst) (hap : ∀ t, p.dst = some t → t ∉ o.looksAt ops) : Same ops o s (dp.app s) := by
  intro t ht
  rw [app_slots, if_neg]
  rw [hdst]; intro e; exact hap t e ht

theorem names_app {p : Oper} {dp : Delta} (hdst : dp.dst = p.dst) (hap : ∀ t, p.dst = some t → t ∉ o.looksAt ops) {i : Nat} : names o (dp.app s) i ↔ names o s i := by
  have hs : Same ops o s (dp.app s) := same_app hdst hap
  constructor <;> rintro ⟨x, h1, h2⟩ <;> refine ⟨x, h1, ?_⟩
  · rw [hs.op x h1]; exact h2
  · rw [← hs.op x h1]; exact h2

theorem view_app (hu : d.upd = none) {i : Nat} (hf : ∀ j ∈ d.frz, view s.blks j ≠ none) (hm : ∀ x ∈ d.mks, x.1 ≠ i) : view (d.app s).blks i = view s.blks i := by
  have h1 : (d.app s).blks i = (s.frz d.frz).blks i := by rw [app_blks hu, mkL_other _ _ _ hm]
  unfold view
  rw [h1, frz_blks]
  by_cases e : i ∈ d.frz
  · have := hf i e
    rw [if_pos e]
    unfold view at this
    cases hk : s.blks i with
    | none => simp [hk] at this
    | some k =>
      simp only [hk] at this
      simp only [Option.map_some]
      split at this
      · rename_i hst; simp [hst]
      · simp at this
  · rw [if_neg e]

/-- Two moves that may change places do. -/
theorem swap {p : Oper} {dp : Delta} (hn : Named o s) (hi : indep T ops p o = true) (hp : Mv P T ops p s dp) (ho : Mv P T ops o (dp.app s) d) :
    Mv P T ops o s d ∧ Mv P T ops p (d.app s) dp ∧ d.app (dp.app s) = dp.app (d.app s) := by
  simp only [indep, Bool.and_eq_true, Bool.or_eq_true, beq_iff_eq, decide_eq_true_eq] at hi
  obtain ⟨hap, hcl⟩ := hi
  obtain ⟨a1, a2, a3⟩ := Oper.apart_spec hap
  have hpd := hp.dst
  have hod := ho.dst
  have hsame : Same ops o s (dp.app s) := same_app hpd a1
  have hsame' : Same ops o (dp.app s) s := fun t ht => (hsame t ht).symm
  have hsame2 : Same ops p s (d.app s) := same_app hod a3
  have hne : ∀ t, d.dst = some t → dp.dst ≠ some t := by
    intro t h1 h2
    rw [hod] at h1; rw [hpd] at h2
    exact a2 t h2 h1
  have hne' : ∀ t, dp.dst = some t → d.dst ≠ some t := fun t h1 h2 => hne t h2 h1
  by_cases c1 : cls T o.op = 0
  · obtain ⟨g1, g2⟩ := ho.pure c1
    refine ⟨g2 s hsame', hp.slots hsame2 (app_pure g1), app_comm_pure ⟨by rw [g1], by rw [g1], by rw [g1]⟩ hne⟩
  · by_cases c2 : cls T p.op = 0
    · obtain ⟨g1, g2⟩ := hp.pure c2
      refine ⟨ho.slots hsame' (app_pure g1).symm, g2 _ hsame2, (app_comm_pure ⟨by rw [g1], by rw [g1], by rw [g1]⟩ hne').symm⟩
    · have hcp : cls T p.op ≤ 1 := by omega
      have hco : cls T o.op ≤ 1 := by omega
      obtain ⟨p1, p2, p3, p4, p5⟩ := hp.one hcp
      obtain ⟨o1, o2, o3, o4, o5⟩ := ho.one hco
      have hfrp : ∀ j ∈ dp.frz, view s.blks j ≠ none := fun j hj => (p2 j hj).2
      have hnm : ∀ i, names o s i → view s.blks i = view (dp.app s).blks i := fun i hi => (view_app p1 hfrp (fun x hx e => hn i hi (by rw [← e]; exact p3 x hx))).symm
      have hmks : ∀ x ∈ d.mks, s.blks x.1 = none := fun x hx => by
        cases hs : s.blks x.1 with
        | none => rfl
        | some k => exact absurd (o3 x hx) (app_grows (by simp [hs]))
      have hO : Mv P T ops o s d := o4 s hsame' (fun i hi => ((names_app hpd a1).1 hi |> hnm i).symm) hmks
      have hdis : ∀ x ∈ dp.mks, ∀ y ∈ d.mks, x.1 ≠ y.1 := by
        intro x hx y hy e
        have := o3 y hy
        rw [app_blks p1] at this
        obtain ⟨k, hk⟩ := mkL_has dp.mks s y.1 ⟨x, hx, e⟩
        rw [hk] at this; cases this
      have hfo : ∀ j ∈ d.frz, s.blks j ≠ none := fun j hj => hn j ((names_app hpd a1).1 (o2 j hj).1)
      have hfo' : ∀ j ∈ d.frz, view s.blks j ≠ none := fun j hj => by
        have := (o2 j hj).2
        rwa [← hnm j ((names_app hpd a1).1 (o2 j hj).1)] at this
      have hfp' : ∀ j ∈ dp.frz, s.blks j ≠ none := fun j hj => by
        have := hfrp j hj
        intro e; simp [view, e] at this
      refine ⟨hO, p5 _ hsame2 ?_ ?_, app_comm_one o1 p1 hne (fun x hx y hy e => hdis y hy x hx e.symm) (fun i hi y hy e => hfo i hi (by rw [← e]; exact p3 y hy)) (fun i hi x hx e => hfp' i hi (by rw [← e]; exact hmks x hx))⟩
      · intro i v hv
        rw [view_app o1 hfo' (fun x hx e => ?_)]; exact hv
        rw [← e] at hv; simp [view, hmks x hx] at hv
      · intro x hx
        rw [app_blks o1, mkL_other _ _ _ (fun y hy e => hdis x hx y hy e.symm), frz_blks]
        rw [p3 x hx]; split <;> rfl

end
end Go.Proofs.YtdhgdpcmdmgchaaGreat.Fw
