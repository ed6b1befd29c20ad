/- The framework's regions: an order that Go leaves open makes no difference. Conditions: none. -/
import Derived.Test.YtdhgdpcmdmgchaaGreatFwJ
namespace Go.Proofs.YtdhgdpcmdmgchaaGreat.Fw
open Go
set_option linter.unusedSimpArgs false
set_option linter.unusedVariables false

/-- What an operation does beside yielding a value: 0 nothing, 1 it reads or makes, 2 it writes, 3 not served. -/
def cls (T : Tab) (op : Op) : Nat :=
  match op with
  | .move x | .assign x => if isNil x then 1 else 0
  | .pick .. | .fieldAddr .. | .field .. | .indexAddr .. | .slice .. | .binOp .. | .unOp .. | .convert .. | .extract .. => 0
  | .alloc _ | .box .. | .build .. | .buildSlice .. | .load .. | .makeSlice .. => 1
  | .store .. => 2
  | .call { callee := .builtin .len, .. } | .call { callee := .builtin .max, .. } | .call { callee := .builtin .min, .. } => 0
  | .call { callee := .builtin .append, args, .. } => match args.toList with
    | [x, _] => if isNil x then 1 else 2
    | _ => 2
  | .call { callee := .value (.func f), .. } => match T.mu f with
    | none => 1
    | some _ => 2
  | .call { callee := .value _, .. } => 2
  | _ => 3

/-- A block as one that reads it sees it. -/
def view (rd : Nat → Option Blk) (i : Nat) : Option (Nat × Nat × List L) :=
  match rd i with
  | some k => if k.st < 3 then some (k.sz, k.n, k.cs) else none
  | none => none

section
variable {P : Program} {T : Tab} {ρ ρ' : Operand → AV} {rd rd' : Nat → Option Blk}

theorem view_some {i : Nat} {k : Blk} (h : rd i = some k) (hst : k.st < 3) (hv : view rd i = view rd' i) : ∃ k', rd' i = some k' ∧ k'.st < 3 ∧ k'.sz = k.sz ∧ k'.n = k.n ∧ k'.cs = k.cs := by
  simp only [view, h, hst, if_true] at hv
  split at hv
  · rename_i k' hk'
    split at hv
    · rename_i hst'
      simp at hv
      exact ⟨k', hk', hst', hv.1.symm, hv.2.1.symm, hv.2.2.symm⟩
    · simp at hv
  · simp at hv
theorem view_none {i : Nat} (h : ∀ k, rd i = some k → ¬ k.st < 3) (hv : view rd i = view rd' i) : ∀ k, rd' i = some k → ¬ k.st < 3 := by
  intro k hk hst
  obtain ⟨k', h1, h2, _⟩ := view_some hk hst hv.symm
  exact h k' h1 h2

theorem rowCells_view {k k' : Blk} (h1 : k'.sz = k.sz) (h2 : k'.n = k.n) (h3 : k'.cs = k.cs) (off len : Nat) : rowCells k' off len = rowCells k off len := by
  simp [rowCells, h1, h2, h3]

theorem cellsOf_view {ty : Nat} {x : AV} (h : ∀ i ∈ x.ids, view rd i = view rd' i) : cellsOf T rd ty x = cellsOf T rd' ty x := by
  cases x with
  | row i sz off len =>
    have hv := h i (by simp [AV.ids])
    simp only [cellsOf]
    cases hk : rd i with
    | none =>
      cases hk' : rd' i with
      | none => rfl
      | some k' => simp only []; rw [if_neg (view_none (by simp [hk]) hv k' hk')]
    | some k =>
      by_cases hst : k.st < 3
      · obtain ⟨k', h1, h2, h3, h4, h5⟩ := view_some hk hst hv
        simp only [h1, hst, h2, if_true, h3, rowCells_view h3 h4 h5]
      · cases hk' : rd' i with
        | none => simp [hst]
        | some k' => simp only [hst, if_false]; rw [if_neg (view_none (fun k2 hk2 => by rw [hk] at hk2; cases hk2; exact hst) hv k' hk')]
  | _ => rfl

theorem argOf_view {ty : Nat} {x : AV} (h : ∀ i ∈ x.ids, view rd i = view rd' i) : argOf T rd ty x = argOf T rd' ty x := by
  cases x <;> simp only [argOf, cellsOf_view h]

theorem partsOf_congr {ty : Nat → Option Nat} : ∀ {ps : List (Nat × Operand)}, (∀ p ∈ ps, ρ p.2 = ρ' p.2) → (∀ p ∈ ps, ∀ i ∈ (ρ p.2).ids, view rd i = view rd' i) → partsOf T rd ρ ty ps = partsOf T rd' ρ' ty ps
  | [], _, _ => rfl
  | (i, x) :: ps, h, hv => by
    have h1 := h (i, x) (by simp)
    have h2 := hv (i, x) (by simp)
    simp only at h1 h2
    simp only [partsOf, ← h1, cellsOf_view h2, partsOf_congr (ps := ps) (fun p hp => h p (by simp [hp])) (fun p hp => hv p (by simp [hp]))]

theorem argsOf_congr : ∀ {xs : List (Operand × Nat)}, (∀ p ∈ xs, ρ p.1 = ρ' p.1) → (∀ p ∈ xs, ∀ i ∈ (ρ p.1).ids, view rd i = view rd' i) → argsOf T rd ρ xs = argsOf T rd' ρ' xs
  | [], _, _ => rfl
  | (x, ty) :: xs, h, hv => by
    have h1 := h (x, ty) (by simp)
    have h2 := hv (x, ty) (by simp)
    simp only at h1 h2
    simp only [argsOf, ← h1, argOf_view h2, argsOf_congr (xs := xs) (fun p hp => h p (by simp [hp])) (fun p hp => hv p (by simp [hp]))]

theorem argsMut_congr : ∀ {n : Nat} {xs : List (Operand × Nat)}, (∀ p ∈ xs, ρ p.1 = ρ' p.1) → argsMut T rd ρ n xs = argsMut T rd ρ' n xs
  | 0, [], _ | _ + 1, [], _ => rfl
  | 0, (x, ty) :: xs, h => by
    have h1 := h (x, ty) (by simp)
    simp only at h1
    simp only [argsMut, ← h1, argsOf_congr (ρ := ρ) (ρ' := ρ') (rd := rd) (rd' := rd) (xs := xs) (fun p hp => h p (by simp [hp])) (fun _ _ _ _ => rfl)]
  | n + 1, (x, ty) :: xs, h => by
    have h1 := h (x, ty) (by simp)
    simp only at h1
    simp only [argsMut, ← h1, argsMut_congr (n := n) (xs := xs) (fun p hp => h p (by simp [hp]))]

theorem bndOf_congr {d : Nat} {x : Option Operand} (h : ∀ y, x = some y → ρ y = ρ' y) : bndOf ρ d x = bndOf ρ' d x := by
  cases x with
  | none => rfl
  | some y => simp only [bndOf, h y rfl]

/-- A step looks at its operands alone. -/
theorem step_slots {o : Oper} (h : ∀ x ∈ o.op.operands.toList, ρ x = ρ' x) : step T ρ rd o = step T ρ' rd o := by
  cases hop : o.op <;> simp only [hop, Op.operands] at h <;> try (simp only [step, hop]; done)
  case move x => simp only [step, hop, h x (by simp)]
  case assign x => simp only [step, hop, h x (by simp)]
  case pick b x y => simp only [step, hop, h b (by simp), h x (by simp), h y (by simp)]
  case box t x => simp only [step, hop, h x (by simp)]
  case build t ps => simp only [step, hop, partsOf_congr (ρ := ρ) (ρ' := ρ') (rd := rd) (rd' := rd) (ps := ps.toList) (fun p hp => h p.2 (by simp; exact ⟨p.1, by simpa using hp⟩)) (fun _ _ _ _ => rfl)]
  case buildSlice t n ps => simp only [step, hop, partsOf_congr (ρ := ρ) (ρ' := ρ') (rd := rd) (rd' := rd) (ps := ps.toList) (fun p hp => h p.2 (by simp; exact ⟨p.1, by simpa using hp⟩)) (fun _ _ _ _ => rfl)]
  case load t x => simp only [step, hop, h x (by simp)]
  case store t x y => simp only [step, hop, h x (by simp), h y (by simp)]
  case binOp op xt x y yt => simp only [step, hop, h x (by simp), h y (by simp)]
  case unOp op t x => simp only [step, hop, h x (by simp)]
  case convert t u x => simp only [step, hop, h x (by simp)]
  case makeSlice t x y => simp only [step, hop, h x (by simp), h y (by simp)]
  case slice t x lo hi mx =>
    have hlo : ∀ d, bndOf ρ d lo = bndOf ρ' d lo := fun d => bndOf_congr fun y hy => h y (by simp [hy])
    have hhi : ∀ d, bndOf ρ d hi = bndOf ρ' d hi := fun d => bndOf_congr fun y hy => h y (by simp [hy])
    cases mx with
    | none => simp only [step, hop, h x (by simp), hlo, hhi]
    | some m =>
      have hmx : ∀ d, bndOf ρ d (some m) = bndOf ρ' d (some m) := fun d => bndOf_congr fun y hy => h y (by cases hy; simp)
      simp only [step, hop, h x (by simp), hlo, hhi, hmx]
  case fieldAddr t x f => simp only [step, hop, h x (by simp)]
  case field t x f => simp only [step, hop, h x (by simp)]
  case indexAddr t x y => simp only [step, hop, h x (by simp), h y (by simp)]
  case extract x i => simp only [step, hop, h x (by simp)]
  case call cl =>
    obtain ⟨callee, args, argTypes⟩ := cl
    simp only [Call.operands] at h
    cases callee with
    | builtin b =>
      simp only [Array.empty_append] at h
      cases b <;> try (simp only [step, hop]; done)
      case len =>
        simp only [step, hop]
        split
        · rename_i x t hx ht
          simp only [h x (by simp [hx])]
        · rfl
      case max =>
        simp only [step, hop]
        split
        · rename_i x y hx
          simp only [h x (by simp [hx]), h y (by simp [hx])]
        · rfl
      case min =>
        simp only [step, hop]
        split
        · rename_i x y hx
          simp only [h x (by simp [hx]), h y (by simp [hx])]
        · rfl
      case append =>
        simp only [step, hop]
        split
        · rename_i x y t t' hx ht
          simp only [h x (by simp [hx]), h y (by simp [hx])]
        · rfl
    | _ => simp only [step, hop]

theorem append_nil {args : Array Operand} {argTypes : Array TypeId} (hc : cls T (.call { callee := .builtin .append, args, argTypes }) ≤ 1) : ∃ x y, args.toList = [x, y] ∧ isNil x = true := by
  simp only [cls] at hc
  split at hc
  · rename_i x y hx
    split at hc
    · rename_i hn; exact ⟨x, y, hx, hn⟩
    · omega
  · omega

theorem elemsOf_view {sz : Nat} {x : AV} (h : ∀ i ∈ x.ids, view rd i = view rd' i) : elemsOf rd sz x = elemsOf rd' sz x := by
  cases x with
  | row i sz' off len =>
    have hv := h i (by simp [AV.ids])
    simp only [elemsOf]
    cases hk : rd i with
    | none =>
      cases hk' : rd' i with
      | none => rfl
      | some k' => simp only []; rw [if_neg (fun hh => view_none (by simp [hk]) hv k' hk' hh.2)]
    | some k =>
      by_cases hst : k.st < 3
      · obtain ⟨k', h1, h2, h3, h4, h5⟩ := view_some hk hst hv
        simp only [h1, hst, h2, h3, and_true, rowCells_view h3 h4 h5]
      · cases hk' : rd' i with
        | none => simp [hst]
        | some k' =>
          simp only []
          rw [if_neg (fun hh => hst hh.2), if_neg (fun hh => view_none (fun k2 hk2 => by rw [hk] at hk2; cases hk2; exact hst) hv k' hk' hh.2)]
  | lf l => cases l <;> rfl
  | _ => rfl

/-- A step that writes nothing sees blocks as one that reads them does. -/
theorem step_view {o : Oper} (hc : cls T o.op ≤ 1) (h : ∀ x ∈ o.op.operands.toList, ∀ i ∈ (ρ x).ids, view rd i = view rd' i) : step T ρ rd o = step T ρ rd' o := by
  cases hop : o.op <;> simp only [hop, Op.operands] at h <;> try (simp only [step, hop]; done)
  case box t x => simp only [step, hop, cellsOf_view (h x (by simp))]
  case build t ps => simp only [step, hop, partsOf_congr (ρ := ρ) (ρ' := ρ) (rd := rd) (rd' := rd') (ps := ps.toList) (fun _ _ => rfl) (fun p hp => h p.2 (by simp; exact ⟨p.1, by simpa using hp⟩))]
  case buildSlice t n ps => simp only [step, hop, partsOf_congr (ρ := ρ) (ρ' := ρ) (rd := rd) (rd' := rd') (ps := ps.toList) (fun _ _ => rfl) (fun p hp => h p.2 (by simp; exact ⟨p.1, by simpa using hp⟩))]
  case load t x =>
    have hx := h x (by simp)
    simp only [step, hop]
    cases T.td t with
    | none => rfl
    | some d =>
      simp only
      cases hρ : ρ x with
      | ad i p =>
        rw [hρ] at hx
        have hv := hx i (by simp [AV.ids])
        simp only
        cases hk : rd i with
        | none =>
          cases hk' : rd' i with
          | none => rfl
          | some k' => simp only []; rw [if_neg (view_none (by simp [hk]) hv k' hk')]
        | some k =>
          by_cases hst : k.st < 3
          · obtain ⟨k', h1, h2, h3, h4, h5⟩ := view_some hk hst hv
            simp only [h1, hst, h2, if_true, h3, h4, h5]
          · cases hk' : rd' i with
            | none => simp [hst]
            | some k' => simp only [hst, if_false]; rw [if_neg (view_none (fun k2 hk2 => by rw [hk] at hk2; cases hk2; exact hst) hv k' hk')]
      | _ => rfl
  case store t x y => simp [cls, hop] at hc
  case call cl =>
    obtain ⟨callee, args, argTypes⟩ := cl
    cases callee with
    | builtin b =>
      cases b <;> try (simp only [step, hop]; done)
      case append =>
        rw [hop] at hc
        obtain ⟨x, y, hx, hn⟩ := append_nil hc
        have hy := h y (by simp [Call.operands, hx, ← Array.mem_toList_iff])
        have hel : ∀ sz, elemsOf rd sz (ρ y) = elemsOf rd' sz (ρ y) := fun sz => elemsOf_view hy
        simp only [step, hop, hx]
        split
        · rename_i x' y' t t' e1 e2
          cases e1
          simp only [hn, if_true, hel]
        · rfl
    | _ => simp only [step, hop]

/-! ### what a move changes -/

theorem moves_dst {o : Oper} {d : Delta} (h : moves P T o ρ rd d) : d.dst = o.dst := by
  unfold moves at h
  split at h
  · split at h
    · unfold callM at h
      split at h
      · obtain ⟨⟨as, fz, res, _, _, _, _, h1⟩, _⟩ := h
        rcases h1 with ⟨_, _, rfl⟩ | ⟨_, _, rfl⟩ <;> rfl
      · obtain ⟨⟨as, fz, i, q, m, res, k, _, _, _, _, _, h1⟩, _⟩ := h
        rcases h1 with ⟨_, _, _, rfl⟩ | ⟨_, _, rfl⟩ <;> rfl
    · exact h.elim
  · obtain ⟨out, _, _, _, _, rfl⟩ := h; rfl

/-- A move that only yields a value. -/
theorem moves_pure {o : Oper} {d : Delta} (hc : cls T o.op = 0) (h : moves P T o ρ rd d) : d = { dst := o.dst, v := d.v } ∧ ∀ rd', moves P T o ρ rd' d := by
  have main : ∀ {out}, step T ρ rd o = some out → out.frz = [] ∧ out.upd = none ∧ out.mak = none ∧ ∀ rd', step T ρ rd' o = some out := by
    intro out hs
    cases hop : o.op with
    | move x =>
      simp only [cls, hop] at hc
      simp only [step, hop] at hs ⊢
      split at hs
      · rename_i hn; simp [hn] at hc
      · rename_i hn; cases out_inj hs; simp [hn]
    | assign x =>
      simp only [cls, hop] at hc
      simp only [step, hop] at hs ⊢
      split at hs
      · rename_i hn; simp [hn] at hc
      · rename_i hn; cases out_inj hs; simp [hn]
    | pick b x y =>
      simp only [step, hop] at hs ⊢
      split at hs
      · cases out_inj hs; simp_all
      · simp at hs
    | fieldAddr t x f =>
      simp only [step, hop] at hs ⊢
      repeat' (split at hs)
      all_goals first
        | (simp at hs; done)
        | (cases out_inj hs; simp_all)
    | field t x f =>
      simp only [step, hop] at hs ⊢
      repeat' (split at hs)
      all_goals first
        | (simp at hs; done)
        | (cases out_inj hs; simp_all)
    | indexAddr t x y =>
      simp only [step, hop] at hs ⊢
      repeat' (split at hs)
      all_goals first
        | (simp at hs; done)
        | (cases out_inj hs; simp_all)
    | slice t x lo hi mx =>
      simp only [step, hop] at hs ⊢
      refine ⟨?_, ?_, ?_, fun _ => hs⟩ <;>
      · repeat' (split at hs)
        all_goals first
          | (simp at hs; done)
          | (cases out_inj hs; rfl)
    | binOp op xt x y yt =>
      simp only [step, hop] at hs ⊢
      refine ⟨?_, ?_, ?_, fun _ => hs⟩ <;>
      · repeat' (split at hs)
        all_goals first
          | (simp at hs; done)
          | (cases out_inj hs; rfl)
    | unOp op t x =>
      simp only [step, hop] at hs ⊢
      refine ⟨?_, ?_, ?_, fun _ => hs⟩ <;>
      · repeat' (split at hs)
        all_goals first
          | (simp at hs; done)
          | (cases out_inj hs; rfl)
    | convert t u x =>
      simp only [step, hop] at hs ⊢
      refine ⟨?_, ?_, ?_, fun _ => hs⟩ <;>
      · repeat' (split at hs)
        all_goals first
          | (simp at hs; done)
          | (cases out_inj hs; rfl)
    | extract x i =>
      simp only [step, hop] at hs ⊢
      refine ⟨?_, ?_, ?_, fun _ => hs⟩ <;>
      · repeat' (split at hs)
        all_goals first
          | (simp at hs; done)
          | (cases out_inj hs; rfl)
    | call cl =>
      obtain ⟨callee, args, argTypes⟩ := cl
      cases callee with
      | builtin b =>
        cases b <;> try (simp [cls, hop] at hc; done)
        case append =>
          exfalso
          simp only [cls, hop] at hc
          repeat' (split at hc)
          all_goals omega
        all_goals
          simp only [step, hop] at hs ⊢
          refine ⟨?_, ?_, ?_, fun _ => hs⟩ <;>
          · repeat' (split at hs)
            all_goals first
              | (simp at hs; done)
              | (cases out_inj hs; rfl)
      | value f =>
        cases f <;> simp only [cls, hop] at hc
        all_goals first
          | (split at hc <;> simp at hc; done)
          | (simp at hc; done)
      | invoke => simp [cls, hop] at hc
    | _ => simp [cls, hop] at hc
  by_cases hcall : ∃ f args argTypes, o.op = .call { callee := .value f, args, argTypes }
  · obtain ⟨f, args, argTypes, ho⟩ := hcall
    exfalso
    rw [ho] at hc
    cases f <;> simp only [cls] at hc
    all_goals first
      | (split at hc <;> simp at hc; done)
      | (simp at hc; done)
  · have hm' : ∃ out, step T ρ rd o = some out ∧ out.pre ∧ out.frz.all (100 ≤ ·) = true ∧ (out.mak ≠ none → rd (idOf o.dst 0) = none) ∧ d = opDelta o.dst out := by
      unfold moves at h
      split at h
      · rename_i f args argTypes ho; exact absurd ⟨f, args, argTypes, ho⟩ hcall
      · exact h
    obtain ⟨out, g1, g2, g3, g4, rfl⟩ := hm'
    obtain ⟨k1, k2, k3, k4⟩ := main g1
    refine ⟨by simp [opDelta, k1, k2, k3], fun rd' => ?_⟩
    unfold moves
    split
    · rename_i f args argTypes ho; exact absurd ⟨f, args, argTypes, ho⟩ hcall
    · exact ⟨out, k4 rd', g2, g3, fun hn => absurd k3 hn, rfl⟩

/-- A move looks at its operands alone. -/
theorem moves_slots {o : Oper} {d : Delta} (hρ : ∀ x ∈ o.op.operands.toList, ρ x = ρ' x) (h : moves P T o ρ rd d) : moves P T o ρ' rd d := by
  unfold moves at h ⊢
  split
  · rename_i f args argTypes ho
    simp only [ho] at h
    simp only [ho, Op.operands, Call.operands] at hρ
    have hf : ρ f = ρ' f := hρ f (by simp)
    have hx : ∀ p ∈ args.toList.zip argTypes.toList, ρ p.1 = ρ' p.1 := fun p hp => hρ p.1 (by have := (List.of_mem_zip hp).1; simp; exact .inr (by simpa using this))
    rw [← hf]
    split
    · rename_i fid hfid
      simp only [hfid] at h
      refine ⟨?_, h.2⟩
      have h := h.1
      unfold callM at h ⊢
      split
      · rename_i hmu
        simp only [hmu] at h
        rwa [argsOf_congr (rd := rd) (rd' := rd) hx (fun _ _ _ _ => rfl)] at h
      · rename_i pos hmu
        simp only [hmu] at h
        rwa [argsMut_congr hx] at h
    · rename_i hne
      split at h
      · rename_i fid hfid; exact absurd hfid (hne fid)
      · exact h
  · rename_i hne
    split at h
    · rename_i f args argTypes ho; exact absurd ho (hne f args argTypes)
    · rwa [step_slots hρ] at h

theorem cellsOf_frz {ty : Nat} {x : AV} {ls : List L} {fz : List Nat} (h : cellsOf T rd ty x = some (ls, fz)) : ∀ i ∈ fz, i ∈ x.ids ∧ view rd i ≠ none := by
  cases x with
  | row j sz off len =>
    simp only [cellsOf] at h
    split at h
    · rename_i k hk
      split at h
      · rename_i hst
        simp at h
        obtain ⟨rfl, rfl⟩ := h
        intro i hi
        simp at hi; subst hi
        exact ⟨by simp [AV.ids], by simp [view, hk, hst]⟩
      · simp at h
    · simp at h
  | nils => simp only [cellsOf] at h; split at h <;> simp at h; obtain ⟨_, rfl⟩ := h; simp
  | lf l => simp [cellsOf] at h; obtain ⟨_, rfl⟩ := h; simp
  | ag l => simp [cellsOf] at h; obtain ⟨_, rfl⟩ := h; simp
  | _ => simp [cellsOf] at h

theorem argOf_frz {ty : Nat} {x : AV} {y : Arg} {fz : List Nat} (h : argOf T rd ty x = some (y, fz)) : ∀ i ∈ fz, i ∈ x.ids ∧ view rd i ≠ none := by
  cases x with
  | ag ls => simp [argOf] at h; obtain ⟨_, rfl⟩ := h; simp
  | _ =>
    simp only [argOf] at h
    split at h
    · rename_i l f hc; simp at h; obtain ⟨_, rfl⟩ := h; exact cellsOf_frz hc
    · simp at h

theorem partsOf_frz {ty : Nat → Option Nat} : ∀ {ps : List (Nat × Operand)} {qs : List (Nat × List L)} {fz : List Nat}, partsOf T rd ρ ty ps = some (qs, fz) → ∀ i ∈ fz, ∃ p ∈ ps, i ∈ (ρ p.2).ids ∧ view rd i ≠ none
  | [], qs, fz, h => by simp [partsOf] at h; obtain ⟨_, rfl⟩ := h; simp
  | (j, x) :: ps, qs, fz, h => by
    simp only [partsOf] at h
    split at h
    · rename_i t ht
      split at h
      · rename_i ls f hc
        split at h
        · rename_i qs' fz' hr
          simp at h
          obtain ⟨_, rfl⟩ := h
          intro i hi
          rcases List.mem_append.1 hi with hi | hi
          · exact ⟨(j, x), by simp, cellsOf_frz hc i hi⟩
          · obtain ⟨p, hp, h1⟩ := partsOf_frz hr i hi
            exact ⟨p, by simp [hp], h1⟩
        · simp at h
      · simp at h
    · simp at h

theorem argsOf_frz : ∀ {xs : List (Operand × Nat)} {as : List Arg} {fz : List Nat}, argsOf T rd ρ xs = some (as, fz) → ∀ i ∈ fz, ∃ p ∈ xs, i ∈ (ρ p.1).ids ∧ view rd i ≠ none
  | [], as, fz, h => by simp [argsOf] at h; obtain ⟨_, rfl⟩ := h; simp
  | (x, ty) :: xs, as, fz, h => by
    simp only [argsOf] at h
    split at h
    · rename_i y f hc
      split at h
      · rename_i as' fz' hr
        simp at h
        obtain ⟨_, rfl⟩ := h
        intro i hi
        rcases List.mem_append.1 hi with hi | hi
        · exact ⟨(x, ty), by simp, argOf_frz hc i hi⟩
        · obtain ⟨p, hp, h1⟩ := argsOf_frz hr i hi
          exact ⟨p, by simp [hp], h1⟩
      · simp at h
    · simp at h

theorem step_one {o : Oper} {out : Out} (hc : cls T o.op ≤ 1) (hs : step T ρ rd o = some out) : out.upd = none ∧ ∀ i ∈ out.frz, ∃ x ∈ o.op.operands.toList, i ∈ (ρ x).ids ∧ view rd i ≠ none := by
  cases hop : o.op with
  | box t x =>
    simp only [step, hop] at hs
    split at hs
    · split at hs
      · rename_i ls fz hcl
        cases out_inj hs
        exact ⟨rfl, fun i hi => ⟨x, by simp [Op.operands], cellsOf_frz hcl i hi⟩⟩
      · simp at hs
    · simp at hs
  | build t ps =>
    simp only [step, hop] at hs
    split at hs
    · split at hs
      · rename_i qs fz hcl
        split at hs
        · cases out_inj hs
          refine ⟨rfl, fun i hi => ?_⟩
          obtain ⟨p, hp, h1⟩ := partsOf_frz hcl i hi
          exact ⟨p.2, by simp [Op.operands]; exact ⟨p.1, by simpa using hp⟩, h1⟩
        · simp at hs
      · simp at hs
    · simp at hs
  | buildSlice t n ps =>
    simp only [step, hop] at hs
    split at hs
    · split at hs
      · split at hs
        · split at hs
          · rename_i qs fz hcl
            split at hs
            · cases out_inj hs
              refine ⟨rfl, fun i hi => ?_⟩
              obtain ⟨p, hp, h1⟩ := partsOf_frz hcl i hi
              exact ⟨p.2, by simp [Op.operands]; exact ⟨p.1, by simpa using hp⟩, h1⟩
            · simp at hs
          · simp at hs
        · simp at hs
      · simp at hs
    · simp at hs
  | store t x y => simp [cls, hop] at hc
  | move x =>
    simp only [step, hop] at hs
    repeat' (split at hs)
    all_goals first
      | (simp at hs; done)
      | (cases out_inj hs; exact ⟨rfl, by simp⟩)
  | assign x =>
    simp only [step, hop] at hs
    repeat' (split at hs)
    all_goals first
      | (simp at hs; done)
      | (cases out_inj hs; exact ⟨rfl, by simp⟩)
  | pick b x y =>
    simp only [step, hop] at hs
    split at hs
    · cases out_inj hs; exact ⟨rfl, by simp⟩
    · simp at hs
  | alloc t =>
    simp only [step, hop] at hs
    split at hs
    · cases out_inj hs; exact ⟨rfl, by simp⟩
    · simp at hs
  | load t x =>
    simp only [step, hop] at hs
    repeat' (split at hs)
    all_goals first
      | (simp at hs; done)
      | (cases out_inj hs; exact ⟨rfl, by simp⟩)
  | makeSlice t x y =>
    simp only [step, hop] at hs
    repeat' (split at hs)
    all_goals first
      | (simp at hs; done)
      | (cases out_inj hs; exact ⟨rfl, by simp⟩)
  | fieldAddr t x f =>
    simp only [step, hop] at hs
    repeat' (split at hs)
    all_goals first
      | (simp at hs; done)
      | (cases out_inj hs; exact ⟨rfl, by simp⟩)
  | field t x f =>
    simp only [step, hop] at hs
    repeat' (split at hs)
    all_goals first
      | (simp at hs; done)
      | (cases out_inj hs; exact ⟨rfl, by simp⟩)
  | indexAddr t x y =>
    simp only [step, hop] at hs
    repeat' (split at hs)
    all_goals first
      | (simp at hs; done)
      | (cases out_inj hs; exact ⟨rfl, by simp⟩)
  | slice t x lo hi mx =>
    simp only [step, hop] at hs
    repeat' (split at hs)
    all_goals first
      | (simp at hs; done)
      | (cases out_inj hs; exact ⟨rfl, by simp⟩)
  | binOp op xt x y yt =>
    simp only [step, hop] at hs
    repeat' (split at hs)
    all_goals first
      | (simp at hs; done)
      | (cases out_inj hs; exact ⟨rfl, by simp⟩)
  | unOp op t x =>
    simp only [step, hop] at hs
    repeat' (split at hs)
    all_goals first
      | (simp at hs; done)
      | (cases out_inj hs; exact ⟨rfl, by simp⟩)
  | convert t u x =>
    simp only [step, hop] at hs
    repeat' (split at hs)
    all_goals first
      | (simp at hs; done)
      | (cases out_inj hs; exact ⟨rfl, by simp⟩)
  | extract x i =>
    simp only [step, hop] at hs
    repeat' (split at hs)
    all_goals first
      | (simp at hs; done)
      | (cases out_inj hs; exact ⟨rfl, by simp⟩)
  | call cl =>
    obtain ⟨callee, args, argTypes⟩ := cl
    cases callee with
    | builtin b =>
      cases b <;> try (simp [step, hop] at hs; done)
      case append =>
        rw [hop] at hc
        obtain ⟨x, y, hx, hn⟩ := append_nil hc
        simp only [step, hop, hx] at hs
        split at hs
        · rename_i x' y' t t' e1 e2
          cases e1
          simp only [hn, if_true] at hs
          repeat' (split at hs)
          all_goals first
            | (simp at hs; done)
            | (cases out_inj hs; exact ⟨rfl, by simp⟩)
        · simp at hs
      all_goals
        simp only [step, hop] at hs
        repeat' (split at hs)
        all_goals first
          | (simp at hs; done)
          | (cases out_inj hs; exact ⟨rfl, by simp⟩)
    | _ => simp [step, hop] at hs
  | _ => simp [step, hop] at hs

/-- A move that writes nothing: what it changes, and that it sees blocks as one that reads them does. -/
theorem moves_one {o : Oper} {d : Delta} (hρf : ∀ f, ρ (.func f) = .lf (.fn f)) (hc : cls T o.op ≤ 1) (h : moves P T o ρ rd d) :
    d.upd = none ∧ (∀ i ∈ d.frz, ∃ x ∈ o.op.operands.toList, i ∈ (ρ x).ids ∧ view rd i ≠ none) ∧ (∀ x ∈ d.mks, rd x.1 = none) ∧
    ∀ rd', (∀ x ∈ o.op.operands.toList, ∀ i ∈ (ρ x).ids, view rd i = view rd' i) → (∀ x ∈ d.mks, rd' x.1 = none) → moves P T o ρ rd' d := by
  unfold moves at h
  split at h
  · rename_i f args argTypes ho
    have hsub : ∀ p ∈ args.toList.zip argTypes.toList, p.1 ∈ o.op.operands.toList := fun p hp => by
      have := (List.of_mem_zip hp).1
      simp only [ho, Op.operands, Call.operands]
      simp; exact .inr (by simpa using this)
    split at h
    · rename_i fid hfid
      have hfun : T.mu fid = none := by
        cases f with
        | func f' =>
          rw [hρf] at hfid; cases hfid
          simp only [cls, ho] at hc
          split at hc
          · assumption
          · omega
        | _ => simp [cls, ho] at hc
      obtain ⟨h, hsz⟩ := h
      unfold callM at h
      simp only [hfun] at h
      obtain ⟨as, fz, res, g1, g2, g3, g4, g5⟩ := h
      have hmk : ∀ x ∈ d.mks, rd x.1 = none := by rcases g5 with ⟨_, _, rfl⟩ | ⟨_, _, rfl⟩ <;> exact g4
      refine ⟨?_, ?_, hmk, fun rd' hv hfr => ?_⟩
      · rcases g5 with ⟨_, _, rfl⟩ | ⟨_, _, rfl⟩ <;> rfl
      · rcases g5 with ⟨_, _, rfl⟩ | ⟨_, _, rfl⟩
        · simp [callDelta]
        · intro i hi
          obtain ⟨p, hp, h1⟩ := argsOf_frz g1 i hi
          exact ⟨p.1, hsub p hp, h1⟩
      · unfold moves
        simp only [ho, hfid]
        refine ⟨?_, hsz⟩
        unfold callM
        simp only [hfun]
        refine ⟨as, fz, res, ?_, g2, g3, ?_, g5⟩
        · rw [← argsOf_congr (ρ := ρ) (ρ' := ρ) (rd := rd) (rd' := rd') (fun _ _ => rfl) (fun p hp => hv p.1 (hsub p hp))]; exact g1
        · rcases g5 with ⟨_, _, rfl⟩ | ⟨_, _, rfl⟩ <;> exact hfr
    · exact h.elim
  · rename_i hne
    obtain ⟨out, g1, g2, g3, g4, rfl⟩ := h
    have hmk : ∀ x ∈ (opDelta o.dst out).mks, rd x.1 = none := by
      intro x hx
      simp only [opDelta] at hx
      cases hm : out.mak with
      | none => simp [hm] at hx
      | some k => simp [hm] at hx; subst hx; exact g4 (by simp [hm])
    obtain ⟨k1, k2⟩ := step_one hc g1
    refine ⟨k1, k2, hmk, fun rd' hv hfr => ?_⟩
    · unfold moves
      split
      · rename_i f args argTypes ho; exact absurd ho (hne f args argTypes)
      · refine ⟨out, by rw [← step_view hc hv]; exact g1, g2, g3, fun hm => ?_, rfl⟩
        cases hm' : out.mak with
        | none => exact absurd hm' hm
        | some k => exact hfr (idOf o.dst 0, k) (by simp [opDelta, hm'])

end
end Go.Proofs.YtdhgdpcmdmgchaaGreat.Fw
