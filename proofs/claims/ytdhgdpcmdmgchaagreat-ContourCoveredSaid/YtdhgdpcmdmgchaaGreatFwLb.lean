/- The framework's regions that write: stores to variables of their own change places with what does not name these. Conditions: none. -/
import Derived.Test.YtdhgdpcmdmgchaaGreatFwL
namespace Go.Proofs.YtdhgdpcmdmgchaaGreat.Fw
open Go
set_option linter.unusedSimpArgs false
set_option linter.unusedVariables false

/-- What writes slot t in a list of operations. -/
def defAt (t : Nat) : List Oper → Option Op
  | [] => none
  | o :: l => if o.dst = some t then some o.op else defAt t l

/-- The variable that an address slot belongs to. -/
def rtS (ops : List Oper) : Nat → Nat → Option Nat
  | 0, _ => none
  | n + 1, t => match defAt t ops with
    | none => some t
    | some (.alloc _) => some t
    | some (.box _ _) => some t
    | some (.fieldAddr _ (.tmp u) _) => rtS ops n u
    | some _ => none
def rt (ops : List Oper) : Operand → Option Nat
  | .tmp t => rtS ops 4 t
  | _ => none

def isSt (op : Op) : Bool := match op with
  | .store _ _ _ => true
  | _ => false
def hasSt : List Oper → Bool
  | [] => false
  | o :: l => if isSt o.op = true then true else hasSt l

/-- The root of a load's or a store's address. -/
def rootOp (ops : List Oper) (op : Op) : Option Nat :=
  match op with
  | .load _ x => rt ops x
  | .store _ x _ => rt ops x
  | _ => none
def rootAdd (r : Option Nat) (l : List Nat) : List Nat := match r with
  | some r => idOf (some r) 0 :: l
  | none => l
/-- The variables that a region's loads and stores touch. -/
def roots (ops : List Oper) : List Oper → List Nat
  | [] => []
  | o :: l => rootAdd (rootOp ops o.op) (roots ops l)

def allX (G : AV → Prop) (ρ : Operand → AV) : List Operand → Prop
  | [] => True
  | x :: l => G (ρ x) ∧ allX G ρ l
def allP (G : AV → Prop) (ρ : Operand → AV) : List (Nat × Operand) → Prop
  | [] => True
  | p :: l => G (ρ p.2) ∧ allP G ρ l
theorem allX_iff {G : AV → Prop} {ρ : Operand → AV} : ∀ {l : List Operand}, allX G ρ l ↔ ∀ x ∈ l, G (ρ x)
  | [] => by simp [allX]
  | x :: l => by simp [allX, allX_iff (l := l)]
theorem allP_iff {G : AV → Prop} {ρ : Operand → AV} : ∀ {l : List (Nat × Operand)}, allP G ρ l ↔ ∀ p ∈ l, G (ρ p.2)
  | [] => by simp [allP]
  | x :: l => by simp [allP, allP_iff (l := l)]

/-- Operands name variables as their text says. -/
def gdOp (ops : List Oper) (G : AV → Prop) (E : Nat → AV → Prop) (ρ : Operand → AV) (op : Op) : Prop :=
  match op with
  | .load _ x => match rt ops x with
    | some r => E (idOf (some r) 0) (ρ x)
    | none => G (ρ x)
  | .store _ x y => (match rt ops x with
    | some r => E (idOf (some r) 0) (ρ x)
    | none => G (ρ x)) ∧ G (ρ y)
  | .box _ x => G (ρ x)
  | .build _ ps => allP G ρ ps.toList
  | .buildSlice _ _ ps => allP G ρ ps.toList
  | .call { callee := _, args, argTypes := _ } => allX G ρ args.toList
  | _ => True

def idG (R : List Nat) (bl : Nat → Option Blk) (x : AV) : Prop := ∀ i ∈ x.ids, i ∉ R ∧ bl i ≠ none
def idE (bl : Nat → Option Blk) (r : Nat) (x : AV) : Prop := ∀ i ∈ x.ids, i = r ∧ bl i ≠ none

def Gd (ops : List Oper) (s : St) (o : Oper) : Prop := gdOp ops (idG (roots ops ops) s.blks) (idE s.blks) (evO s.slots) o.op

def rtDis : Option Nat → Option Nat → Bool
  | some a, some b => a != b
  | some _, none => true
  | none, _ => false

/-- A store and another operation that do not touch the same variable. -/
def sdis (T : Tab) (ops : List Oper) (p o : Op) : Bool :=
  match p, o with
  | .store _ x _, .store _ y _ => rtDis (rt ops x) (rt ops y) && rtDis (rt ops y) (rt ops x)
  | .store _ x _, .load _ y => rtDis (rt ops x) (rt ops y)
  | .load _ x, .store _ y _ => rtDis (rt ops y) (rt ops x)
  | .store _ x _, op => (rt ops x).isSome && decide (cls T op ≤ 1)
  | op, .store _ x _ => (rt ops x).isSome && decide (cls T op ≤ 1)
  | _, _ => false

section
variable {P : Program} {T : Tab} {ops : Array Oper} {s s' : St} {o : Oper} {d : Delta}

theorem roots_mem {all : List Oper} : ∀ {l : List Oper} {o : Oper}, o ∈ l → ∀ r, (∃ t x y, o.op = .store t x y ∧ rt all x = some r) ∨ (∃ t x, o.op = .load t x ∧ rt all x = some r) → idOf (some r) 0 ∈ roots all l
  | [], o, h, _, _ => by simp at h
  | p :: l, o, h, r, hr => by
    rcases List.mem_cons.1 h with rfl | h
    · have : rootOp all o.op = some r := by
        rcases hr with ⟨t, x, y, h1, h2⟩ | ⟨t, x, h1, h2⟩ <;> simp [rootOp, h1, h2]
      simp [roots, rootAdd, this]
    · have ih := roots_mem h r hr
      simp only [roots]
      unfold rootAdd
      split
      · exact List.mem_cons_of_mem _ ih
      · exact ih

/-- A change that leaves no trace but a value. -/
def Plain (P : Program) (T : Tab) (ops : Array Oper) (o : Oper) (s : St) (d : Delta) : Prop := d = { dst := o.dst, v := d.v } ∧ ∀ s', Same ops o s s' → Mv P T ops o s' d

/-- What a change reads and writes. -/
structure Eff (P : Program) (T : Tab) (ops : Array Oper) (o : Oper) (s : St) (d : Delta) : Prop where
  frz : ∀ i ∈ d.frz, names o s i ∧ view s.blks i ≠ none
  upd : ∀ u, d.upd = some u → (∃ t x y, o.op = .store t x y ∧ u.1 ∈ (evO s.slots x).ids) ∧ s.blks u.1 ≠ none
  mks : ∀ x ∈ d.mks, s.blks x.1 = none
  go : ∀ s', Same ops o s s' → (∀ i, names o s i → view s.blks i = view s'.blks i) → (∀ u, d.upd = some u → s'.blks u.1 = s.blks u.1) → (∀ x ∈ d.mks, s'.blks x.1 = none) → Mv P T ops o s' d

theorem eff_one (h : Mv P T ops o s d) (hc : cls T o.op ≤ 1) : Eff P T ops o s d := by
  obtain ⟨h1, h2, h3, h4, _⟩ := h.one hc
  exact ⟨h2, fun u hu => (by rw [h1] at hu; cases hu), h3, fun s' hs hv _ hm => h4 s' hs hv hm⟩

theorem eff_store (h : Mv P T ops o s d) (hw : wantOf ops o s.slots = some true) {t : Nat} {x y : Operand} (hop : o.op = .store t x y) : Eff P T ops o s d := by
  rcases h with ⟨h1, h2⟩ | ⟨h1, _⟩
  · have hm : ∃ out, step T (evO s.slots) s.blks o = some out ∧ out.pre ∧ out.frz.all (100 ≤ ·) = true ∧ (out.mak ≠ none → s.blks (idOf o.dst 0) = none) ∧ d = opDelta o.dst out := by
      unfold moves at h2; simp only [hop] at h2; exact h2
    obtain ⟨out, g1, g2, g3, g4, rfl⟩ := hm
    have g0 := g1
    simp only [step, hop] at g1
    cases htd : T.td t with
    | none => simp [htd] at g1
    | some df =>
      simp only [htd] at g1
      cases hx : evO s.slots x with
      | ad i p =>
        simp only [hx] at g1
        cases hk : s.blks i with
        | none => simp [hk] at g1
        | some k =>
          simp only [hk] at g1
          cases hcl : cellsOf T s.blks t (evO s.slots y) with
          | none => simp [hcl] at g1
          | some lf =>
            obtain ⟨ls, fz⟩ := lf
            simp only [hcl] at g1
            split at g1
            · rename_i hst
              cases out_inj g1
              have hyn : ∀ j ∈ (evO s.slots y).ids, names o s j := fun j hj => ⟨y, by simp [hop, Op.operands], hj⟩
              refine ⟨fun j hj => ?_, fun u hu => ?_, by simp [opDelta], fun s' hs hv hu hm => ?_⟩
              · obtain ⟨j1, j2⟩ := cellsOf_frz hcl j hj
                exact ⟨hyn j j1, j2⟩
              · simp only [opDelta, Option.some.injEq] at hu
                subst hu
                exact ⟨⟨t, x, y, hop, by simp [hx, AV.ids]⟩, by simp [hk]⟩
              · refine .inl ⟨hs.want.trans h1, moves_slots hs.op ?_⟩
                have hk' : s'.blks i = some k := by rw [hu (i, _) rfl]; exact hk
                have hcl' : cellsOf T s'.blks t (evO s.slots y) = some (ls, fz) := by rw [← cellsOf_view (fun j hj => hv j (hyn j hj))]; exact hcl
                unfold moves
                simp only [hop]
                refine ⟨_, ?_, g2, g3, by simp, rfl⟩
                simp only [step, hop, htd, hx, hk', hcl', hst, and_self, if_true]
            · simp at g1
      | _ => simp [hx] at g1
  · rw [hw] at h1; cases h1

/-- A change's blocks. -/
theorem app_at (d : Delta) (s : St) (j : Nat) (hm : ∀ x ∈ d.mks, x.1 ≠ j) : (d.app s).blks j = match d.upd with
    | some u => if j = u.1 then some u.2 else (s.frz d.frz).blks j
    | none => (s.frz d.frz).blks j := by
  unfold Delta.app
  rw [putD_blks, mkL_other _ _ _ hm]
  cases hu : d.upd with
  | none => rfl
  | some u => rfl

theorem app_keeps (e : Eff P T ops o s d) {i : Nat} (hi : s.blks i ≠ none) (hu : ∀ u, d.upd = some u → u.1 ≠ i) : view (d.app s).blks i = view s.blks i ∧ (i ∉ d.frz → (d.app s).blks i = s.blks i) := by
  have hm : ∀ x ∈ d.mks, x.1 ≠ i := fun x hx e' => hi (by rw [← e']; exact e.mks x hx)
  have hb : (d.app s).blks i = (s.frz d.frz).blks i := by
    rw [app_at d s i hm]
    cases h : d.upd with
    | none => rfl
    | some u => simp only; rw [if_neg (Ne.symm (hu u h))]
  refine ⟨?_, fun hf => by rw [hb, frz_blks, if_neg hf]⟩
  unfold view
  rw [hb, frz_blks]
  by_cases hf : i ∈ d.frz
  · have := (e.frz i hf).2
    rw [if_pos hf]
    unfold view at this
    cases hk : s.blks i with
    | none => simp [hk] at this
    | some k =>
      simp only [hk] at this
      simp only [Option.map_some]
      split at this
      · rename_i hst; simp [hst]
      · simp at this
  · rw [if_neg hf]

theorem app_comm_gen {d1 d2 : Delta} (hne : ∀ t, d1.dst = some t → d2.dst ≠ some t)
    (hd : ∀ x ∈ d1.mks, ∀ y ∈ d2.mks, x.1 ≠ y.1) (hf1 : ∀ i ∈ d1.frz, ∀ y ∈ d2.mks, y.1 ≠ i) (hf2 : ∀ i ∈ d2.frz, ∀ x ∈ d1.mks, x.1 ≠ i)
    (hu1 : ∀ u, d1.upd = some u → (∀ y ∈ d2.mks, y.1 ≠ u.1) ∧ u.1 ∉ d2.frz ∧ ∀ u', d2.upd = some u' → u.1 ≠ u'.1)
    (hu2 : ∀ u, d2.upd = some u → (∀ y ∈ d1.mks, y.1 ≠ u.1) ∧ u.1 ∉ d1.frz) : d1.app (d2.app s) = d2.app (d1.app s) := by
  refine St.ext_ (funext fun t => ?_) (funext fun j => ?_)
  · rw [app_slots, app_slots, app_slots, app_slots]
    by_cases e1 : d1.dst = some t
    · rw [if_pos e1, if_neg (hne t e1), if_pos e1]
    · rw [if_neg e1, if_neg e1]
  · have hasm : ∀ (d : Delta), (∃ x ∈ d.mks, x.1 = j) → ∃ k, ∀ s : St, (d.app s).blks j = some k := by
      intro d hx
      obtain ⟨k, hk⟩ := mkL_has d.mks s j hx
      obtain ⟨k', hk'⟩ : ∃ k', ∀ s' : St, (s'.mkL d.mks).blks j = some k' := by
        have : ∀ (l : List (Nat × Blk)), (∃ x ∈ l, x.1 = j) → ∃ k', ∀ s' : St, (s'.mkL l).blks j = some k' := by
          intro l
          induction l with
          | nil => rintro ⟨x, hx, _⟩; simp at hx
          | cons y l ih =>
            rintro ⟨x, hx, e⟩
            by_cases h2 : ∃ z ∈ l, z.1 = j
            · obtain ⟨k', hk'⟩ := ih h2
              exact ⟨k', fun s' => hk' _⟩
            · have hy : y.1 = j := by
                rcases List.mem_cons.1 hx with rfl | hx
                · exact e
                · exact absurd ⟨x, hx, e⟩ h2
              refine ⟨y.2, fun s' => ?_⟩
              have := mkL_other l (s'.setB y.1 y.2) j (fun z hz e' => h2 ⟨z, hz, e'⟩)
              show ((s'.setB y.1 y.2).mkL l).blks j = _
              rw [this]; simp [St.setB, hy]
        exact this d.mks hx
      exact ⟨k', fun s' => by unfold Delta.app; rw [putD_blks]; exact hk' _⟩
    by_cases m1 : ∃ x ∈ d1.mks, x.1 = j
    · obtain ⟨k, hk⟩ := hasm d1 m1
      rw [hk]
      have m2 : ∀ y ∈ d2.mks, y.1 ≠ j := by obtain ⟨x, hx, rfl⟩ := m1; exact fun y hy e => hd x hx y hy e.symm
      have f2 : j ∉ d2.frz := by obtain ⟨x, hx, rfl⟩ := m1; exact fun hj => hf2 _ hj x hx rfl
      have hfz : ((d1.app s).frz d2.frz).blks j = some k := by rw [frz_blks, if_neg f2, hk]
      rw [app_at d2 _ j m2]
      cases hu : d2.upd with
      | none => exact hfz.symm
      | some u =>
        simp only
        rw [if_neg, hfz]
        rintro rfl
        obtain ⟨x, hx, e⟩ := m1
        exact (hu2 u hu).1 x hx e
    · have m1' : ∀ x ∈ d1.mks, x.1 ≠ j := fun x hx e => m1 ⟨x, hx, e⟩
      by_cases m2 : ∃ y ∈ d2.mks, y.1 = j
      · obtain ⟨k, hk⟩ := hasm d2 m2
        rw [hk]
        have f1 : j ∉ d1.frz := by obtain ⟨y, hy, rfl⟩ := m2; exact fun hj => hf1 _ hj y hy rfl
        have hfz : ((d2.app s).frz d1.frz).blks j = some k := by rw [frz_blks, if_neg f1, hk]
        rw [app_at d1 _ j m1']
        cases hu : d1.upd with
        | none => exact hfz
        | some u =>
          simp only
          rw [if_neg, hfz]
          rintro rfl
          obtain ⟨y, hy, e⟩ := m2
          exact (hu1 u hu).1 y hy e
      · have m2' : ∀ x ∈ d2.mks, x.1 ≠ j := fun x hx e => m2 ⟨x, hx, e⟩
        rw [app_at d1 _ j m1', app_at d2 _ j m2']
        have e1 : ((d2.app s).frz d1.frz).blks j = if j ∈ d1.frz then ((d2.app s).blks j).map (fun k => { k with st := 2 }) else (d2.app s).blks j := frz_blks _ _ _
        have e2 : ((d1.app s).frz d2.frz).blks j = if j ∈ d2.frz then ((d1.app s).blks j).map (fun k => { k with st := 2 }) else (d1.app s).blks j := frz_blks _ _ _
        rw [app_at d2 s j m2'] at e1
        rw [app_at d1 s j m1'] at e2
        cases hu1' : d1.upd with
        | none =>
          rw [hu1'] at e2
          cases hu2' : d2.upd with
          | none =>
            rw [hu2'] at e1
            simp only at e1 e2 ⊢
            rw [e1, e2, frz_blks, frz_blks]
            by_cases a1 : j ∈ d1.frz <;> by_cases a2 : j ∈ d2.frz <;> simp [a1, a2]
          | some u2 =>
            rw [hu2'] at e1
            simp only at e1 e2 ⊢
            rw [e1]
            by_cases a : j = u2.1
            · subst a
              rw [if_neg (hu2 u2 hu2').2]; simp
            · rw [if_neg a, if_neg a, e2, frz_blks, frz_blks]
              by_cases a1 : j ∈ d1.frz <;> by_cases a2 : j ∈ d2.frz <;> simp [a1, a2]
        | some u1 =>
          rw [hu1'] at e2
          obtain ⟨b1, b2, b3⟩ := hu1 u1 hu1'
          cases hu2' : d2.upd with
          | none =>
            rw [hu2'] at e1
            simp only at e1 e2 ⊢
            rw [e2]
            by_cases a : j = u1.1
            · subst a
              rw [if_neg b2]; simp
            · rw [if_neg a, if_neg a, e1, frz_blks, frz_blks]
              by_cases a1 : j ∈ d1.frz <;> by_cases a2 : j ∈ d2.frz <;> simp [a1, a2]
          | some u2 =>
            rw [hu2'] at e1
            simp only at e1 e2 ⊢
            rw [e1, e2]
            by_cases a : j = u1.1
            · subst a
              rw [if_pos rfl, if_neg (b3 u2 hu2'), if_neg b2, if_pos rfl]
            · rw [if_neg a, if_neg a]
              by_cases a' : j = u2.1
              · subst a'
                rw [if_neg (hu2 u2 hu2').2]; simp
              · rw [if_neg a', if_neg a', frz_blks, frz_blks]
                by_cases a1 : j ∈ d1.frz <;> by_cases a2 : j ∈ d2.frz <;> simp [a1, a2]

/-- Two changes of which neither writes what the other names. -/
theorem swapE {p : Oper} {dp : Delta} (hap : p.apart ops o = true) (hno : Named o s) (hnp : Named p s) (hp : Mv P T ops p s dp) (ho : Mv P T ops o (dp.app s) d)
    (ep : Eff P T ops p s dp) (eo : Eff P T ops o (dp.app s) d) (u1 : ∀ u, dp.upd = some u → ¬ names o s u.1) (u2 : ∀ u, d.upd = some u → ¬ names p s u.1) :
    Mv P T ops o s d ∧ Mv P T ops p (d.app s) dp ∧ d.app (dp.app s) = dp.app (d.app s) := by
  obtain ⟨a1, a2, a3⟩ := Oper.apart_spec hap
  have hpd := hp.dst
  have hod := ho.dst
  have hsame : Same ops o s (dp.app s) := same_app hpd a1
  have hsame' : Same ops o (dp.app s) s := fun t ht => (hsame t ht).symm
  have hsame2 : Same ops p s (d.app s) := same_app hod a3
  have hne : ∀ t, d.dst = some t → dp.dst ≠ some t := fun t h1 h2 => by
    rw [hod] at h1; rw [hpd] at h2; exact a2 t h2 h1
  have hnm : ∀ i, names o (dp.app s) i ↔ names o s i := fun i => names_app hpd a1
  have kp : ∀ i, names o s i → view (dp.app s).blks i = view s.blks i ∧ (i ∉ dp.frz → (dp.app s).blks i = s.blks i) := fun i hi => app_keeps ep (hno i hi) (fun u hu e => u1 u hu (e ▸ hi))
  have hmk : ∀ x ∈ d.mks, s.blks x.1 = none := fun x hx => by
    cases hs : s.blks x.1 with
    | none => rfl
    | some k => exact absurd (eo.mks x hx) (app_grows (by simp [hs]))
  have hun : ∀ u, d.upd = some u → names o s u.1 := fun u hu => by
    obtain ⟨⟨t, x, y, h1, h2⟩, _⟩ := eo.upd u hu
    exact (hnm _).1 ⟨x, by simp [h1, Op.operands], h2⟩
  have hup : ∀ u, dp.upd = some u → names p s u.1 := fun u hu => by
    obtain ⟨⟨t, x, y, h1, h2⟩, _⟩ := ep.upd u hu
    exact ⟨x, by simp [h1, Op.operands], h2⟩
  have huo : ∀ u, d.upd = some u → (dp.app s).blks u.1 = s.blks u.1 := fun u hu => (kp _ (hun u hu)).2 (fun hf => u2 u hu (ep.frz _ hf).1)
  have hO : Mv P T ops o s d := eo.go s hsame' (fun i hi => (kp i ((hnm i).1 hi)).1) (fun u hu => (huo u hu).symm) hmk
  have eo' : Eff P T ops o s d := by
    refine ⟨fun i hi => ?_, fun u hu => ?_, hmk, fun s' hs hv hu hm => ?_⟩
    · obtain ⟨h1, h2⟩ := eo.frz i hi
      have h1' := (hnm i).1 h1
      exact ⟨h1', by rw [← (kp i h1').1]; exact h2⟩
    · obtain ⟨⟨t, x, y, h1, h2⟩, h3⟩ := eo.upd u hu
      refine ⟨⟨t, x, y, h1, ?_⟩, hno _ (hun u hu)⟩
      rw [hsame.op x (by simp [h1, Op.operands])]; exact h2
    · refine eo.go s' (fun t ht => by rw [hs t ht, hsame t ht]) (fun i hi => ?_) (fun u hu' => by rw [hu u hu', huo u hu']) hm
      rw [(kp i ((hnm i).1 hi)).1]; exact hv i ((hnm i).1 hi)
  have ko : ∀ i, names p s i → view (d.app s).blks i = view s.blks i ∧ (i ∉ d.frz → (d.app s).blks i = s.blks i) := fun i hi => app_keeps eo' (hnp i hi) (fun u hu e => u2 u hu (e ▸ hi))
  have hdis : ∀ x ∈ dp.mks, ∀ y ∈ d.mks, x.1 ≠ y.1 := by
    intro x hx y hy e
    have h1 := eo.mks y hy
    obtain ⟨k, hk⟩ := mkL_has dp.mks ((s.frz dp.frz).updO dp.upd) y.1 ⟨x, hx, e⟩
    unfold Delta.app at h1
    rw [putD_blks, hk] at h1; cases h1
  refine ⟨hO, ep.go _ hsame2 (fun i hi => (ko i hi).1.symm) (fun u hu => (ko _ (hup u hu)).2 (fun hf => u1 u hu (eo'.frz _ hf).1)) (fun x hx => ?_), ?_⟩
  · have h1 := ep.mks x hx
    rw [app_at d s x.1 (fun y hy e => hdis x hx y hy e.symm)]
    have h2 : (s.frz d.frz).blks x.1 = none := by rw [frz_blks, h1]; split <;> rfl
    cases hu : d.upd with
    | none => exact h2
    | some u =>
      simp only
      rw [if_neg]; exact h2
      intro e
      exact (hno _ (hun u hu)) (e ▸ h1)
  · refine app_comm_gen hne (fun x hx y hy e => hdis y hy x hx e.symm) (fun i hi y hy e => hno i (eo'.frz i hi).1 (by rw [← e]; exact ep.mks y hy)) (fun i hi x hx e => hnp i (ep.frz i hi).1 (by rw [← e]; exact hmk x hx)) (fun u hu => ⟨fun y hy e => hno _ (hun u hu) (by rw [← e]; exact ep.mks y hy), fun hf => u2 u hu (ep.frz _ hf).1, fun u' hu' e => u2 u hu (e ▸ hup u' hu')⟩) (fun u hu => ⟨fun y hy e => hnp _ (hup u hu) (by rw [← e]; exact hmk y hy), fun hf => u1 u hu (eo'.frz _ hf).1⟩)

/-! ### which operations of a region may change places -/

/-- May they change places? -/
def cnd (T : Tab) (ops : Array Oper) (x y : Oper) : Bool := indep T ops x y || (hasSt ops.toList && x.apart ops y && sdis T ops.toList x.op y.op)

/-- An operation that is executed names variables as its text says. -/
def Gds (ops : Array Oper) (s : St) (o : Oper) : Prop := hasSt ops.toList = true → wantOf ops o s.slots = some true → Gd ops.toList s o

theorem plain_skip (h : Mv P T ops o s d) (hw : wantOf ops o s.slots ≠ some true) : Plain P T ops o s d := by
  rcases h with ⟨h1, _⟩ | ⟨h1, rfl⟩
  · exact absurd h1 hw
  · exact ⟨rfl, fun s' hs => .inr ⟨hs.want.trans h1, rfl⟩⟩

theorem swap_plain {p : Oper} {dp : Delta} (hap : p.apart ops o = true) (hp : Mv P T ops p s dp) (ho : Mv P T ops o (dp.app s) d) (h : Plain P T ops p s dp ∨ Plain P T ops o (dp.app s) d) :
    Mv P T ops o s d ∧ Mv P T ops p (d.app s) dp ∧ d.app (dp.app s) = dp.app (d.app s) := by
  obtain ⟨a1, a2, a3⟩ := Oper.apart_spec hap
  have hpd := hp.dst
  have hod := ho.dst
  have hsame : Same ops o s (dp.app s) := same_app hpd a1
  have hsame' : Same ops o (dp.app s) s := fun t ht => (hsame t ht).symm
  have hsame2 : Same ops p s (d.app s) := same_app hod a3
  have hne : ∀ t, d.dst = some t → dp.dst ≠ some t := by
    intro t h1 h2
    rw [hod] at h1; rw [hpd] at h2
    exact a2 t h2 h1
  have hne' : ∀ t, dp.dst = some t → d.dst ≠ some t := fun t h1 h2 => hne t h2 h1
  rcases h with ⟨g1, g2⟩ | ⟨g1, g2⟩
  · exact ⟨ho.slots hsame' (app_pure g1).symm, g2 _ hsame2, (app_comm_pure ⟨by rw [g1], by rw [g1], by rw [g1]⟩ hne').symm⟩
  · exact ⟨g2 s hsame', hp.slots hsame2 (app_pure g1), app_comm_pure ⟨by rw [g1], by rw [g1], by rw [g1]⟩ hne⟩

theorem gd_names {G : AV → Prop} {E : Nat → AV → Prop} {Q : Nat → Prop} {l : List Oper} (h : gdOp l G E (evO s.slots) o.op) (hc : 1 ≤ cls T o.op) (hm : Mv P T ops o s d) (hw : wantOf ops o s.slots = some true)
    (hG : ∀ x, G x → ∀ i ∈ x.ids, Q i) (hE : ∀ r x, (∃ t y, o.op = .load t y ∧ rt l y = some r ∨ ∃ t y z, o.op = .store t y z ∧ rt l y = some r) → E (idOf (some r) 0) x → ∀ i ∈ x.ids, Q i) : ∀ i, names o s i → Q i := by
  rintro i ⟨x, hx, hi⟩
  cases hop : o.op with
  | load t y =>
    simp only [hop, Op.operands] at hx
    simp at hx; subst hx
    simp only [hop, gdOp] at h
    split at h
    · rename_i r hr; exact hE r _ ⟨t, _, .inl ⟨hop, hr⟩⟩ h i hi
    · exact hG _ h i hi
  | store t y z =>
    simp only [hop, Op.operands] at hx
    simp only [hop, gdOp] at h
    simp at hx
    rcases hx with rfl | rfl
    · have h := h.1
      split at h
      · rename_i r hr; exact hE r _ ⟨t, x, .inr ⟨t, x, z, hop, hr⟩⟩ h i hi
      · exact hG _ h i hi
    · exact hG _ h.2 i hi
  | box t y =>
    simp only [hop, Op.operands] at hx
    simp at hx; subst hx
    simp only [hop, gdOp] at h
    exact hG _ h i hi
  | build t ps =>
    simp only [hop, Op.operands] at hx
    simp only [hop, gdOp] at h
    rw [allP_iff] at h
    simp at hx
    obtain ⟨a, hx⟩ := hx
    exact hG _ (h (a, x) (by simpa using hx)) i hi
  | buildSlice t n ps =>
    simp only [hop, Op.operands] at hx
    simp only [hop, gdOp] at h
    rw [allP_iff] at h
    simp at hx
    obtain ⟨a, hx⟩ := hx
    exact hG _ (h (a, x) (by simpa using hx)) i hi
  | alloc t => simp [hop, Op.operands] at hx
  | move y =>
    simp only [hop, cls] at hc
    split at hc
    · rename_i hn
      simp only [hop, Op.operands] at hx
      simp at hx; subst hx
      rw [isNil_ev hn] at hi; simp [AV.ids] at hi
    · omega
  | assign y =>
    simp only [hop, cls] at hc
    split at hc
    · rename_i hn
      simp only [hop, Op.operands] at hx
      simp at hx; subst hx
      rw [isNil_ev hn] at hi; simp [AV.ids] at hi
    · omega
  | makeSlice t n c =>
    rcases hm with ⟨_, hm⟩ | ⟨hm, _⟩
    · unfold moves at hm
      simp only [hop] at hm
      obtain ⟨out, g1, _⟩ := hm
      simp only [step, hop] at g1
      simp only [hop, Op.operands] at hx
      simp at hx
      repeat' (split at g1)
      all_goals first
        | (simp at g1; done)
        | (rename_i e1 e2; rcases hx with rfl | rfl
           · rw [e1] at hi; simp [AV.ids] at hi
           · rw [e2] at hi; simp [AV.ids] at hi)
    · rw [hw] at hm; cases hm
  | call cl =>
    obtain ⟨callee, args, argTypes⟩ := cl
    simp only [hop, gdOp] at h
    rw [allX_iff] at h
    simp only [hop, Op.operands, Call.operands] at hx
    have key : x ∈ args.toList → Q i := fun hx => hG _ (h x hx) i hi
    cases callee with
    | value f =>
      simp at hx
      rcases hx with rfl | hx
      · rcases hm with ⟨_, hm⟩ | ⟨hm, _⟩
        · unfold moves at hm
          simp only [hop] at hm
          split at hm
          · rename_i fid hf; rw [hf] at hi; simp [AV.ids] at hi
          · exact hm.elim
        · rw [hw] at hm; cases hm
      · exact key (by simpa using hx)
    | builtin b => exact key (by simpa using hx)
    | invoke m r =>
      exfalso
      rcases hm with ⟨_, hm⟩ | ⟨hm, _⟩
      · unfold moves at hm
        simp only [hop] at hm
        obtain ⟨out, g1, _⟩ := hm
        simp [step, hop] at g1
      · rw [hw] at hm; cases hm
  | pick b x y => simp [hop, cls] at hc
  | fieldAddr t x f => simp [hop, cls] at hc
  | field t x f => simp [hop, cls] at hc
  | indexAddr t x y => simp [hop, cls] at hc
  | slice t x lo hi mx => simp [hop, cls] at hc
  | binOp op xt x y yt => simp [hop, cls] at hc
  | unOp op t x => simp [hop, cls] at hc
  | convert t u x => simp [hop, cls] at hc
  | extract x i => simp [hop, cls] at hc
  | _ =>
    exfalso
    rcases hm with ⟨_, hm⟩ | ⟨hm, _⟩
    · unfold moves at hm
      simp only [hop] at hm
      obtain ⟨out, g1, _⟩ := hm
      simp [step, hop] at g1
    · rw [hw] at hm; cases hm

theorem idOf_inj {a b : Nat} (h : idOf (some a) 0 = idOf (some b) 0) : a = b := by
  unfold idOf at h; simp at h; omega

theorem gd_named (h : Gd ops.toList s o) (hc : 1 ≤ cls T o.op) (hm : Mv P T ops o s d) (hw : wantOf ops o s.slots = some true) : Named o s :=
  gd_names (Q := fun i => s.blks i ≠ none) h hc hm hw (fun x hx i hi => (hx i hi).2) (fun r x _ hx i hi => (hx i hi).2)

theorem gd_same (h : Gd ops.toList s o) (hs : Same ops o s s') (hb : ∀ i, names o s i → s.blks i ≠ none → s'.blks i ≠ none) : Gd ops.toList s' o := by
  have hop := hs.op
  have hG : ∀ x ∈ o.op.operands.toList, idG (roots ops.toList ops.toList) s.blks (evO s.slots x) → idG (roots ops.toList ops.toList) s'.blks (evO s'.slots x) := fun x hx h i hi => by
    rw [← hop x hx] at hi
    exact ⟨(h i hi).1, hb i ⟨x, hx, hi⟩ (h i hi).2⟩
  have hE : ∀ r, ∀ x ∈ o.op.operands.toList, idE s.blks r (evO s.slots x) → idE s'.blks r (evO s'.slots x) := fun r x hx h i hi => by
    rw [← hop x hx] at hi
    exact ⟨(h i hi).1, hb i ⟨x, hx, hi⟩ (h i hi).2⟩
  unfold Gd at h ⊢
  cases ho : o.op with
  | load t x =>
    simp only [ho, gdOp, Op.operands] at h hG hE ⊢
    split
    · rename_i r hr; rw [hr] at h; exact hE _ x (by simp) h
    · rename_i hr; rw [hr] at h; exact hG x (by simp) h
  | store t x y =>
    simp only [ho, gdOp, Op.operands] at h hG hE ⊢
    refine ⟨?_, hG y (by simp) h.2⟩
    have h := h.1
    split
    · rename_i r hr; rw [hr] at h; exact hE _ x (by simp) h
    · rename_i hr; rw [hr] at h; exact hG x (by simp) h
  | box t x => simp only [ho, gdOp, Op.operands] at h hG ⊢; exact hG x (by simp) h
  | build t ps => simp only [ho, gdOp, Op.operands] at h hG ⊢; rw [allP_iff] at h ⊢; exact fun p hp => hG p.2 (by simp; exact ⟨p.1, by simpa using hp⟩) (h p hp)
  | buildSlice t n ps => simp only [ho, gdOp, Op.operands] at h hG ⊢; rw [allP_iff] at h ⊢; exact fun p hp => hG p.2 (by simp; exact ⟨p.1, by simpa using hp⟩) (h p hp)
  | call cl =>
    obtain ⟨callee, args, argTypes⟩ := cl
    simp only [ho, gdOp, Op.operands, Call.operands] at h hG ⊢
    rw [allX_iff] at h ⊢
    exact fun x hx => hG x (by simp; exact .inr (by simpa using hx)) (h x hx)
  | _ => trivial

theorem gds_same (h : Gds ops s o) (hs : Same ops o s s') (hb : ∀ i, names o s i → s.blks i ≠ none → s'.blks i ≠ none) : Gds ops s' o := fun h1 h2 => gd_same (h h1 (by rw [← hs.want]; exact h2)) hs hb

theorem sdis_l {l : List Oper} {p o : Op} (h : sdis T l p o = true) : (∃ t x y, p = .store t x y) ∨ cls T p ≤ 1 := by
  unfold sdis at h
  split at h
  · exact .inl ⟨_, _, _, rfl⟩
  · exact .inl ⟨_, _, _, rfl⟩
  · exact .inr (by simp [cls])
  · exact .inl ⟨_, _, _, rfl⟩
  · simp only [Bool.and_eq_true, decide_eq_true_eq] at h; exact .inr h.2
  · simp at h
theorem sdis_r {l : List Oper} {p o : Op} (h : sdis T l p o = true) : (∃ t x y, o = .store t x y) ∨ cls T o ≤ 1 := by
  unfold sdis at h
  split at h
  · exact .inl ⟨_, _, _, rfl⟩
  · exact .inr (by simp [cls])
  · exact .inl ⟨_, _, _, rfl⟩
  · simp only [Bool.and_eq_true, decide_eq_true_eq] at h; exact .inr h.2
  · exact .inl ⟨_, _, _, rfl⟩
  · simp at h

/-- Two operations that may change places do. -/
theorem swapC {p : Oper} {dp : Delta} (hpm : p ∈ ops.toList) (hom : o ∈ ops.toList) (hn : Named o s) (hi : cnd T ops p o = true) (hp : Mv P T ops p s dp) (ho : Mv P T ops o (dp.app s) d) (gp : Gds ops s p) (go : Gds ops s o) :
    Mv P T ops o s d ∧ Mv P T ops p (d.app s) dp ∧ d.app (dp.app s) = dp.app (d.app s) := by
  by_cases hin : indep T ops p o = true
  · exact swap hn hin hp ho
  simp only [cnd, hin, Bool.false_or, Bool.and_eq_true] at hi
  obtain ⟨⟨hst, hap⟩, hsd⟩ := hi
  obtain ⟨a1, a2, a3⟩ := Oper.apart_spec hap
  have hsame : Same ops o s (dp.app s) := same_app hp.dst a1
  by_cases wp : wantOf ops p s.slots = some true
  case neg => exact swap_plain hap hp ho (.inl (plain_skip hp wp))
  by_cases wo : wantOf ops o s.slots = some true
  case neg => exact swap_plain hap hp ho (.inr (plain_skip ho (by rw [hsame.want]; exact wo)))
  have gp := gp hst wp
  have go := go hst wo
  have cp : 1 ≤ cls T p.op := by
    rcases Nat.eq_zero_or_pos (cls T p.op) with h | h
    · simp [indep, hap, h] at hin
    · exact h
  have co : 1 ≤ cls T o.op := by
    rcases Nat.eq_zero_or_pos (cls T o.op) with h | h
    · simp [indep, hap, h] at hin
    · exact h
  have wo' : wantOf ops o (dp.app s).slots = some true := by rw [hsame.want]; exact wo
  have go' : Gd ops.toList (dp.app s) o := gd_same go hsame (fun i _ hi => app_grows hi)
  have ep : Eff P T ops p s dp := by
    rcases sdis_l hsd with ⟨t, x, y, h⟩ | h
    · exact eff_store hp wp h
    · exact eff_one hp h
  have eo : Eff P T ops o (dp.app s) d := by
    rcases sdis_r hsd with ⟨t, x, y, h⟩ | h
    · exact eff_store ho wo' h
    · exact eff_one ho h
  have hnp : Named p s := gd_named gp cp hp wp
  -- the store's own root, and the other's
  have key : ∀ {q r : Oper}, q ∈ ops.toList → sdis T ops.toList q.op r.op = true ∨ sdis T ops.toList r.op q.op = true → (∃ t x y, q.op = .store t x y) → 1 ≤ cls T r.op → ∃ t x y a, q.op = .store t x y ∧ rt ops.toList x = some a ∧ rootOp ops.toList r.op ≠ some a := by
    intro q r _ hsd hs hr
    obtain ⟨t, x, y, hq⟩ := hs
    have dis1 : ∀ l, rtDis (rt ops.toList x) l = true → ∃ a, rt ops.toList x = some a ∧ l ≠ some a := by
      intro l h
      cases hx : rt ops.toList x with
      | none => rw [hx] at h; simp [rtDis] at h
      | some a =>
        rw [hx] at h
        refine ⟨a, rfl, ?_⟩
        rintro rfl
        simp [rtDis] at h
    rcases hsd with hsd | hsd
    · rw [hq] at hsd
      cases hro : r.op with
      | load t' z =>
        rw [hro] at hsd
        obtain ⟨a, h1, h2⟩ := dis1 _ (by simpa [sdis] using hsd)
        exact ⟨t, x, y, a, hq, h1, by simpa [rootOp] using h2⟩
      | store t' z z' =>
        rw [hro] at hsd
        simp only [sdis, Bool.and_eq_true] at hsd
        obtain ⟨a, h1, h2⟩ := dis1 _ hsd.1
        exact ⟨t, x, y, a, hq, h1, by simpa [rootOp] using h2⟩
      | _ =>
        rw [hro] at hsd
        simp only [sdis, Bool.and_eq_true] at hsd
        obtain ⟨a, h1⟩ := Option.isSome_iff_exists.1 hsd.1
        exact ⟨t, x, y, a, hq, h1, by simp [rootOp]⟩
    · rw [hq] at hsd
      cases hro : r.op with
      | load t' z =>
        rw [hro] at hsd
        obtain ⟨a, h1, h2⟩ := dis1 _ (by simpa [sdis] using hsd)
        exact ⟨t, x, y, a, hq, h1, by simpa [rootOp] using h2⟩
      | store t' z z' =>
        rw [hro] at hsd
        simp only [sdis, Bool.and_eq_true] at hsd
        obtain ⟨a, h1, h2⟩ := dis1 _ hsd.2
        exact ⟨t, x, y, a, hq, h1, by simpa [rootOp] using h2⟩
      | _ =>
        rw [hro] at hsd
        simp only [sdis, Bool.and_eq_true] at hsd
        obtain ⟨a, h1⟩ := Option.isSome_iff_exists.1 hsd.1
        exact ⟨t, x, y, a, hq, h1, by simp [rootOp]⟩
  -- o, seen from s: a first look that uses only what p writes
  have hnmo : ∀ i, names o (dp.app s) i ↔ names o s i := fun i => names_app hp.dst a1
  have u1 : ∀ u, dp.upd = some u → ¬ names o s u.1 := by
    intro u hu hnu
    obtain ⟨⟨t, x, y, h1, _⟩, _⟩ := ep.upd u hu
    obtain ⟨t, x, y, a, k1, k2, k3⟩ := key hpm (.inl hsd) ⟨t, x, y, h1⟩ co
    have hmem : idOf (some a) 0 ∈ roots ops.toList ops.toList := roots_mem hpm a (.inl ⟨t, x, y, k1, k2⟩)
    have hu1 : u.1 = idOf (some a) 0 := by
      obtain ⟨⟨t', x', y', h1', h2'⟩, _⟩ := ep.upd u hu
      rw [k1] at h1'; cases h1'
      unfold Gd at gp
      simp only [k1, gdOp, k2] at gp
      exact (gp.1 _ h2').1
    refine gd_names (Q := fun i => i ≠ idOf (some a) 0) go' co ho wo' (fun x hx i hi e => (hx i hi).1 (e ▸ hmem)) (fun r x hr hx i hi e => ?_) u.1 ((hnmo _).2 hnu) hu1
    have e2 := (hx i hi).1
    have : r = a := idOf_inj (e2 ▸ e)
    subst this
    obtain ⟨t, y, h⟩ := hr
    rcases h with ⟨h3, h4⟩ | ⟨t, y, z, h3, h4⟩
    · exact k3 (by simp [rootOp, h3, h4])
    · exact k3 (by simp [rootOp, h3, h4])
  have u2 : ∀ u, d.upd = some u → ¬ names p s u.1 := by
    intro u hu hnu
    obtain ⟨⟨t, x, y, h1, _⟩, _⟩ := eo.upd u hu
    obtain ⟨t, x, y, a, k1, k2, k3⟩ := key hom (.inr hsd) ⟨t, x, y, h1⟩ cp
    have hmem : idOf (some a) 0 ∈ roots ops.toList ops.toList := roots_mem hom a (.inl ⟨t, x, y, k1, k2⟩)
    have hu1 : u.1 = idOf (some a) 0 := by
      obtain ⟨⟨t', x', y', h1', h2'⟩, _⟩ := eo.upd u hu
      rw [k1] at h1'; cases h1'
      unfold Gd at go'
      simp only [k1, gdOp, k2] at go'
      exact (go'.1 _ h2').1
    refine gd_names (Q := fun i => i ≠ idOf (some a) 0) gp cp hp wp (fun x hx i hi e => (hx i hi).1 (e ▸ hmem)) (fun r x hr hx i hi e => ?_) u.1 hnu hu1
    have e2 := (hx i hi).1
    have : r = a := idOf_inj (e2 ▸ e)
    subst this
    obtain ⟨t, y, h⟩ := hr
    rcases h with ⟨h3, h4⟩ | ⟨t, y, z, h3, h4⟩
    · exact k3 (by simp [rootOp, h3, h4])
    · exact k3 (by simp [rootOp, h3, h4])
  exact swapE hap hn hnp hp ho ep eo u1 u2

end
end Go.Proofs.YtdhgdpcmdmgchaaGreat.Fw
