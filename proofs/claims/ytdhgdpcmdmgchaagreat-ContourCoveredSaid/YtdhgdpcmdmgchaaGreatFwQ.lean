/- The framework's walk on lists, for the simplifier. Conditions: none. -/
import Derived.Test.YtdhgdpcmdmgchaaGreatFwP
namespace Go.Proofs.YtdhgdpcmdmgchaaGreat.Fw
open Go
set_option linter.unusedSimpArgs false
set_option linter.unusedVariables false

/-- A proposition, of a type that names what the simplifier is not to look into. -/
abbrev Pd.{u} {α : Sort u} (_a : α) : Type := Prop

/-- A state as lists. -/
structure Sx where
  sl : List (Nat × AV)
  bl : List (Nat × Blk)
def Sx.st (x : Sx) : St := mkS x.sl x.bl

def putA (d : Nat) (x : AV) (l : List (Nat × AV)) : List (Nat × AV) := (d, x) :: l
def putOA (d : Option Nat) (x : AV) (l : List (Nat × AV)) : List (Nat × AV) :=
  match d with
  | some d => putA d x l
  | none => l
def setL (i : Nat) (k : Blk) : List (Nat × Blk) → List (Nat × Blk)
  | [] => [(i, k)]
  | (j, k') :: l => if i = j then (i, k) :: l else (j, k') :: setL i k l
def setOL (u : Option (Nat × Blk)) (l : List (Nat × Blk)) : List (Nat × Blk) :=
  match u with
  | some (i, k) => setL i k l
  | none => l
def frzL : List Nat → List (Nat × Blk) → List (Nat × Blk)
  | [], bl => bl
  | i :: l, bl => match getB i bl with
    | some k => frzL l (setL i { k with st := 2 } bl)
    | none => frzL l bl
def mkB : List (Nat × Blk) → List (Nat × Blk) → List (Nat × Blk)
  | [], bl => bl
  | (i, k) :: l, bl => mkB l (setL i k bl)

def evA (sl : List (Nat × AV)) : Operand → AV
  | .tmp t => getA t sl
  | .const v => .ofConst v
  | .func f => .lf (.fn f)
  | .global _ => .undef

theorem getA_put (t d : Nat) (x : AV) (l : List (Nat × AV)) : getA t (putA d x l) = if t = d then x else getA t l := rfl
theorem getB_set (i j : Nat) (k : Blk) : ∀ l, getB j (setL i k l) = if j = i then some k else getB j l
  | [] => by simp [setL, getB]
  | (u, y) :: l => by
    simp only [setL]
    split
    · rename_i e; subst e; simp only [getB]; split <;> rfl
    · rename_i e
      simp only [getB, getB_set i j k l]
      by_cases h1 : j = u
      · subst h1; simp [Ne.symm e]
      · simp [h1]

theorem evA_ev (sl : List (Nat × AV)) (bl : List (Nat × Blk)) : evA sl = evO (mkS sl bl).slots := by funext x; cases x <;> rfl

theorem mk_put (d : Nat) (x : AV) (sl : List (Nat × AV)) (bl : List (Nat × Blk)) : (mkS sl bl).put d x = mkS (putA d x sl) bl := by
  simp only [St.put, mkS, getA_put]
theorem mk_putD (d : Option Nat) (x : AV) (sl : List (Nat × AV)) (bl : List (Nat × Blk)) : (mkS sl bl).putD d x = mkS (putOA d x sl) bl := by
  cases d with
  | none => rfl
  | some d => exact mk_put d x sl bl
theorem mk_set (i : Nat) (k : Blk) (sl : List (Nat × AV)) (bl : List (Nat × Blk)) : (mkS sl bl).setB i k = mkS sl (setL i k bl) := by
  simp only [St.setB, mkS, getB_set]
theorem mk_upd (u : Option (Nat × Blk)) (sl : List (Nat × AV)) (bl : List (Nat × Blk)) : (mkS sl bl).updO u = mkS sl (setOL u bl) := by
  cases u with
  | none => rfl
  | some u => exact mk_set _ _ sl bl
theorem mk_frz : ∀ (l : List Nat) (sl : List (Nat × AV)) (bl : List (Nat × Blk)), (mkS sl bl).frz l = mkS sl (frzL l bl)
  | [], _, _ => rfl
  | i :: l, sl, bl => by
    show ((mkS sl bl).frz1 i).frz l = _
    simp only [frzL, St.frz1]
    show (match getB i bl with | some k => _ | none => _ : St).frz l = _
    cases getB i bl with
    | none => exact mk_frz l sl bl
    | some k => simp only [mk_set]; exact mk_frz l sl _
theorem mk_mkL : ∀ (l : List (Nat × Blk)) (sl : List (Nat × AV)) (bl : List (Nat × Blk)), (mkS sl bl).mkL l = mkS sl (mkB l bl)
  | [], _, _ => rfl
  | (i, k) :: l, sl, bl => by
    show ((mkS sl bl).setB i k).mkL l = _
    rw [mk_set]; exact mk_mkL l sl _
theorem mk_app (d : Delta) (sl : List (Nat × AV)) (bl : List (Nat × Blk)) : d.app (mkS sl bl) = mkS (putOA d.dst d.v sl) (mkB d.mks (setOL d.upd (frzL d.frz bl))) := by
  simp only [Delta.app, mk_frz, mk_upd, mk_mkL, mk_putD]

def freshL (bl : List (Nat × Blk)) : List (Nat × Blk) → Prop
  | [] => True
  | (i, _) :: l => getB i bl = none ∧ freshL bl l
theorem freshL_ok {bl : List (Nat × Blk)} : ∀ {l : List (Nat × Blk)}, freshL bl l → fresh (fun i => getB i bl) l
  | [], _ => fun x hx => by simp at hx
  | (i, k) :: l, h => fun x hx => by
    rcases List.mem_cons.1 hx with rfl | hx
    · exact h.1
    · exact freshL_ok h.2 x hx

section
variable (P : Program) (T : Tab)

/-- A call that writes nothing of the caller's, its arguments known. -/
def CallK (f : Nat) (as : List Arg) (fz : List Nat) (dst : Option Nat) (s : Sx) (K : Sx → Prop) : Pd K :=
  ∃ res, Ok P f as res ∧ res.out = [] ∧ freshL s.bl (mksOf dst 0 res.vals) ∧
    (if T.bo f then res.vals.all RV.flat = true ∧ K ⟨putOA dst (resAV dst res.vals) s.sl, mkB (mksOf dst 0 res.vals) s.bl⟩
     else fz.all (100 ≤ ·) = true ∧ K ⟨putOA dst (resAV dst res.vals) s.sl, mkB (mksOf dst 0 res.vals) (frzL fz s.bl)⟩)

/-- A call that writes into block i, from cell q on, m cells. -/
def CallM (f : Nat) (as : List Arg) (fz : List Nat) (i q m : Nat) (dst : Option Nat) (s : Sx) (K : Sx → Prop) : Pd K :=
  ∃ res k, getB i s.bl = some k ∧ Ok P f as res ∧ res.out.length = m ∧ freshL s.bl (mksOf dst 0 res.vals) ∧
    (if T.bo f then res.vals.all RV.flat = true ∧ res.out.all L.flat = true ∧ K ⟨putOA dst (resAV dst res.vals) s.sl, mkB (mksOf dst 0 res.vals) (setL i { k with cs := splice q res.out k.cs } s.bl)⟩
     else fz.all (100 ≤ ·) = true ∧ K ⟨putOA dst (resAV dst res.vals) s.sl, mkB (mksOf dst 0 res.vals) (setL i { k with cs := splice q res.out k.cs } (frzL fz s.bl))⟩)

def VCall (f : Nat) (xs : List (Operand × Nat)) (dst : Option Nat) (s : Sx) (K : Sx → Prop) : Prop :=
  match T.mu f with
  | none => match argsOf T (fun i => getB i s.bl) (evA s.sl) xs with
    | some (as, fz) => CallK P T f as fz dst s K
    | none => False
  | some pos => match argsMut T (fun i => getB i s.bl) (evA s.sl) pos xs with
    | some (as, fz, i, q, m) => CallM P T f as fz i q m dst s K
    | none => False

/-- An operation that is no call. -/
def VStep (o : Oper) (s : Sx) (K : Sx → Prop) : Prop :=
  match step T (evA s.sl) (fun i => getB i s.bl) o with
  | none => False
  | some out => out.pre ∧ out.frz.all (100 ≤ ·) = true ∧ match out.mak with
    | none => K ⟨putOA o.dst out.v s.sl, setOL out.upd (frzL out.frz s.bl)⟩
    | some k => getB (idOf o.dst 0) s.bl = none ∧ K ⟨putOA o.dst out.v s.sl, setL (idOf o.dst 0) k (setOL out.upd (frzL out.frz s.bl))⟩

def VOp (o : Oper) (s : Sx) (K : Sx → Prop) : Prop :=
  match o.op with
  | .call { callee := .value f, args, argTypes } => match evA s.sl f with
    | .lf (.fn fid) => args.size = argTypes.size ∧ VCall P T fid (args.toList.zip argTypes.toList) o.dst s K
    | _ => False
  | _ => VStep T o s K

def VNil (o : Oper) (s : Sx) (K : Sx → Prop) : Prop :=
  match o.op with
  | .binOp .eql xt x (.const (.slice none 0 0)) _ => match T.esz xt with
    | some _ => match evA s.sl x with
      | .lf (.sl _ n _) => ∀ b : Bool, (b = true → n = 0) → K ⟨putOA o.dst (.lf (.bool b)) s.sl, s.bl⟩
      | _ => False
    | none => False
  | .assign (.const (.slice none 0 0)) => match T.esz o.type with
    | some sz => match getB (idOf o.dst 0) s.bl with
      | some k => K ⟨putOA o.dst (.row (idOf o.dst 0) k.sz 0 0) s.sl, s.bl⟩
      | none => K ⟨putOA o.dst (.row (idOf o.dst 0) sz 0 0) s.sl, setL (idOf o.dst 0) ⟨sz, 0, [], 0⟩ s.bl⟩
    | none => False
  | _ => False

def nilOp (o : Oper) : Bool := match o.op with | .binOp .eql _ _ (.const (.slice none 0 0)) _ => true | .assign (.const (.slice none 0 0)) => true | _ => false

/-- A value that names none of the variables R. -/
def xG (R : List Nat) (bl : List (Nat × Blk)) : AV → Prop
  | .row i _ _ _ => i ∉ R ∧ getB i bl ≠ none
  | .ad i _ => i ∉ R ∧ getB i bl ≠ none
  | .tup _ => False
  | _ => True
/-- A value that names variable r alone. -/
def xE (bl : List (Nat × Blk)) (r : Nat) : AV → Prop
  | .row i _ _ _ => i = r ∧ getB i bl ≠ none
  | .ad i _ => i = r ∧ getB i bl ≠ none
  | .tup _ => False
  | _ => True

/-- In which order a region's operations come: in that of the text; in any; in any, where what they name must be asked. -/
inductive DM where
  | text
  | free
  | ask (R : List Nat)
def dmOf (draw : Bool) (ops : List Oper) : DM := if draw = true then (if hasSt ops = true then .ask (roots ops ops) else .free) else .text

def nilM (dm : DM) (o : Oper) : Bool := match dm with | .text => nilOp o | _ => false

/-- What is asked of an operation's operands. -/
def VAsk (dm : DM) (ops : Array Oper) (o : Oper) (s : Sx) : Prop :=
  match dm with
  | .ask R => gdOp ops.toList (xG R s.bl) (xE s.bl) (evA s.sl) o.op
  | _ => True

/-- The operations of a region. -/
def VO (dm : DM) (ops : Array Oper) : List Oper → Sx → (Sx → Prop) → Prop
  | [], s, K => K s
  | o :: l, s, K => match o.guard with
    | none => if nilM dm o = true then VNil T o s fun s' => VO dm ops l s' K else VAsk dm ops o s ∧ VOp P T o s fun s' => VO dm ops l s' K
    | some (j, want) => match (ops[j]?).bind (·.dst) with
      | some d => match getA d s.sl with
        | .lf (.bool b) => (b = want → VAsk dm ops o ⟨putA d (.lf (.bool want)) s.sl, s.bl⟩ ∧ VOp P T o ⟨putA d (.lf (.bool want)) s.sl, s.bl⟩ fun s' => VO dm ops l s' K) ∧
            (b = (!want) → VO dm ops l ⟨putOA o.dst (.tup []) (putA d (.lf (.bool (!want))) s.sl), s.bl⟩ K)
        | .tup [] => VO dm ops l ⟨putOA o.dst (.tup []) s.sl, s.bl⟩ K
        | _ => False
      | none => False

def putOp (x : Operand) (v : AV) (sl : List (Nat × AV)) : List (Nat × AV) :=
  match x with
  | .tmp t => putA t v sl
  | _ => sl

/-- A loop. -/
def VLoop (c : Code) (s : Sx) (N : Sx → Prop) (X : Exit → Sx → Prop) : Pd (c, N, X) :=
  pw P T (.loop c) s.st (fun s' => ∃ x : Sx, s' = x.st ∧ N x) (fun e s' => ∃ x : Sx, s' = x.st ∧ X e x)

/-- A test whose ways are joined again. -/
def VJoin (c : Operand) (t e : Code) (s : Sx) (N : Sx → Prop) (X : Exit → Sx → Prop) : Pd (t, e, N, X) :=
  pw P T (.cond c t e) s.st (fun s' => ∃ x : Sx, s' = x.st ∧ N x) (fun e s' => ∃ x : Sx, s' = x.st ∧ X e x)

def joins (js : List Nat) (c : Operand) : Bool := match c with
  | .tmp t => js.contains t
  | _ => false

def V : Code → Sx → (Sx → Prop) → (Exit → Sx → Prop) → Prop
  | .skip, s, N, _ => N s
  | .label _, s, N, _ => N s
  | .region _ ops draw, s, N, _ => VO P T (dmOf draw ops.toList) ops ops.toList s N
  | .seq a b, s, N, X => V a s (fun s' => V b s' N X) X
  | .cond c t e, s, N, X => if joins T.js c = true then VJoin P T c t e s N X else match evA s.sl c with
    | .lf (.bool b) => (b = true → V t ⟨putOp c (.lf (.bool true)) s.sl, s.bl⟩ N X) ∧ (b = false → V e ⟨putOp c (.lf (.bool false)) s.sl, s.bl⟩ N X)
    | _ => False
  | .block id c, s, N, X => V c s N fun e s' => match e with
    | .exit id' => if id' = id then N s' else X (.exit id') s'
    | e => X e s'
  | .loop c, s, N, X => VLoop P T c s N X
  | .exit id, s, _, X => X (.exit id) s
  | .ret, s, _, X => X .ret s
  | _, _, _, _ => False

end

section
variable {P : Program} {T : Tab}

theorem apw_mono {ops : Array Oper} {K K' : St → Prop} (h : ∀ s, K s → K' s) : ∀ (l : List Nat) (s : St), apw P T ops l s K → apw P T ops l s K'
  | [], s, hk => h s hk
  | i :: l, s, hk => by
    simp only [apw] at hk ⊢
    cases hi : ops[i]? with
    | none => simp only [hi] at hk ⊢; exact apw_mono h l s hk
    | some o =>
      simp only [hi] at hk ⊢
      rcases hk with ⟨d, h1, h2⟩ | ⟨hg, ⟨xt, x, yt, esz, sz, n, cs, h1, h2, h3, h4⟩ | ⟨k, h1, h2, h3⟩⟩
      · exact .inl ⟨d, h1, apw_mono h l _ h2⟩
      · exact .inr ⟨hg, .inl ⟨xt, x, yt, esz, sz, n, cs, h1, h2, h3, fun b hb => apw_mono h l _ (h4 b hb)⟩⟩
      · exact .inr ⟨hg, .inr ⟨k, h1, h2, apw_mono h l _ h3⟩⟩

theorem apm_mono {ops : Array Oper} {K K' : St → Prop} (h : ∀ s, K s → K' s) : ∀ (l : List Nat) (s : St), apm P T ops l s K → apm P T ops l s K'
  | [], s, hk => h s hk
  | i :: l, s, hk => by
    simp only [apm] at hk ⊢
    cases hi : ops[i]? with
    | none => simp only [hi] at hk ⊢; exact apm_mono h l s hk
    | some o =>
      simp only [hi] at hk ⊢
      obtain ⟨d, h1, hg, h2⟩ := hk
      exact ⟨d, h1, hg, apm_mono h l _ h2⟩

theorem pw_mono : ∀ (c : Code) (s : St) (N N' : St → Prop) (X X' : Exit → St → Prop), (∀ s, N s → N' s) → (∀ e s, X e s → X' e s) → pw P T c s N X → pw P T c s N' X' := by
  intro c
  induction c with
  | skip => intro s N N' X X' hN hX h; exact hN _ h
  | label l => intro s N N' X X' hN hX h; exact hN _ h
  | region id ops draw =>
    intro s N N' X X' hN hX h
    simp only [pw] at h ⊢
    split
    · rename_i e; rw [if_pos e] at h; exact apm_mono hN _ _ h
    · rename_i e; rw [if_neg e] at h; exact apw_mono hN _ _ h
  | seq a b iha ihb => intro s N N' X X' hN hX h; exact iha _ _ _ _ _ (fun s' h' => ihb _ _ _ _ _ hN hX h') hX h
  | cond cd t e iht ihe =>
    intro s N N' X X' hN hX h
    obtain ⟨b, h1, M, h2, h3, h4⟩ := h
    exact ⟨b, h1, M, fun hb => iht _ _ _ _ _ (fun _ h => h) hX (h2 hb), fun hb => ihe _ _ _ _ _ (fun _ h => h) hX (h3 hb), fun s' hs' => let ⟨s'', g1, g2⟩ := h4 s' hs'; ⟨s'', g1, hN _ g2⟩⟩
  | block id c ih =>
    intro s N N' X X' hN hX h
    refine ih _ _ _ _ _ hN (fun e s' h' => ?_) h
    cases e with
    | exit id' =>
      simp only at h' ⊢
      split
      · rename_i e; rw [if_pos e] at h'; exact hN _ h'
      · rename_i e; rw [if_neg e] at h'; exact hX _ _ h'
    | _ => exact hX _ _ h'
  | loop c ih =>
    intro s N N' X X' hN hX h
    obtain ⟨α, st, J, μ, h0, h1⟩ := h
    exact ⟨α, st, J, μ, h0, fun x hx => ih _ _ _ _ _ (fun _ h => h) hX (h1 x hx)⟩
  | exit id => intro s N N' X X' hN hX h; exact hX _ _ h
  | ret => intro s N N' X X' hN hX h; exact hX _ _ h
  | rangeFunc f ps as b => intro s N N' X X' hN hX h; exact h.elim
  | scope b => intro s N N' X X' hN hX h; exact h.elim
  | goto l => intro s N N' X X' hN hX h; exact h.elim
  | refuse why => intro s N N' X X' hN hX h; exact h.elim

theorem moves_step {o : Oper} (h : ∀ f a t, o.op ≠ .call { callee := .value f, args := a, argTypes := t }) {ρ : Operand → AV} {rd : Nat → Option Blk} {d : Delta} :
    moves P T o ρ rd d = ∃ out, step T ρ rd o = some out ∧ out.pre ∧ out.frz.all (100 ≤ ·) = true ∧ (out.mak ≠ none → rd (idOf o.dst 0) = none) ∧ d = opDelta o.dst out := by
  unfold moves
  split
  · rename_i e; exact absurd e (h _ _ _)
  · rfl

theorem vstep_mv {o : Oper} {s : Sx} {K : Sx → Prop} (h : VStep T o s K) (hn : ∀ f a t, o.op ≠ .call { callee := .value f, args := a, argTypes := t }) : ∃ d, moves P T o (evO s.st.slots) s.st.blks d ∧ ∃ x : Sx, d.app s.st = x.st ∧ K x := by
  unfold VStep at h
  rw [evA_ev s.sl s.bl] at h
  have hb : (fun i => getB i s.bl) = s.st.blks := rfl
  rw [hb] at h
  have hs : mkS s.sl s.bl = s.st := rfl
  rw [hs] at h
  cases hst : step T (evO s.st.slots) s.st.blks o with
  | none => simp [hst] at h
  | some out =>
    simp only [hst] at h
    obtain ⟨h1, h2, h3⟩ := h
    cases hm : out.mak with
    | none =>
      simp only [hm] at h3
      refine ⟨opDelta o.dst out, ?_, _, ?_, h3⟩
      · rw [moves_step hn]; exact ⟨out, hst, h1, h2, by simp [hm], rfl⟩
      · show (opDelta o.dst out).app (mkS s.sl s.bl) = _
        rw [mk_app]; simp [opDelta, hm, mkB, Sx.st]
    | some k =>
      simp only [hm] at h3
      obtain ⟨h3, h4⟩ := h3
      refine ⟨opDelta o.dst out, ?_, _, ?_, h4⟩
      · rw [moves_step hn]; exact ⟨out, hst, h1, h2, fun _ => h3, rfl⟩
      · show (opDelta o.dst out).app (mkS s.sl s.bl) = _
        rw [mk_app]; simp [opDelta, hm, mkB, Sx.st]

theorem vcall_mv {f : Nat} {xs : List (Operand × Nat)} {dst : Option Nat} {s : Sx} {K : Sx → Prop} (h : VCall P T f xs dst s K) : ∃ d, callM P T f xs dst (evO s.st.slots) s.st.blks d ∧ ∃ x : Sx, d.app s.st = x.st ∧ K x := by
  unfold VCall at h
  rw [evA_ev s.sl s.bl] at h
  have hb : (fun i => getB i s.bl) = s.st.blks := rfl
  rw [hb] at h
  have hs : mkS s.sl s.bl = s.st := rfl
  rw [hs] at h
  unfold callM
  cases hmu : T.mu f with
  | none =>
    simp only [hmu] at h ⊢
    cases ha : argsOf T s.st.blks (evO s.st.slots) xs with
    | none => simp [ha] at h
    | some p =>
      obtain ⟨as, fz⟩ := p
      simp only [ha] at h
      obtain ⟨res, h1, h2, h3, h4⟩ := h
      split at h4
      · rename_i e
        refine ⟨_, ⟨as, fz, res, rfl, h1, h2, freshL_ok h3, .inl ⟨e, h4.1, rfl⟩⟩, _, ?_, h4.2⟩
        show (callDelta dst [] none res).app (mkS s.sl s.bl) = _
        rw [mk_app]; rfl
      · rename_i e
        refine ⟨_, ⟨as, fz, res, rfl, h1, h2, freshL_ok h3, .inr ⟨by simpa using e, h4.1, rfl⟩⟩, _, ?_, h4.2⟩
        show (callDelta dst fz none res).app (mkS s.sl s.bl) = _
        rw [mk_app]; rfl
  | some pos =>
    simp only [hmu] at h ⊢
    cases ha : argsMut T s.st.blks (evO s.st.slots) pos xs with
    | none => simp [ha] at h
    | some p =>
      obtain ⟨as, fz, i, q, m⟩ := p
      simp only [ha] at h
      obtain ⟨res, k, hk, h1, h2, h3, h4⟩ := h
      split at h4
      · rename_i e
        refine ⟨_, ⟨as, fz, i, q, m, res, k, rfl, hk, h1, h2, freshL_ok h3, .inl ⟨e, h4.1, h4.2.1, rfl⟩⟩, _, ?_, h4.2.2⟩
        show (callDelta dst [] _ res).app (mkS s.sl s.bl) = _
        rw [mk_app]; rfl
      · rename_i e
        refine ⟨_, ⟨as, fz, i, q, m, res, k, rfl, hk, h1, h2, freshL_ok h3, .inr ⟨by simpa using e, h4.1, rfl⟩⟩, _, ?_, h4.2⟩
        show (callDelta dst fz _ res).app (mkS s.sl s.bl) = _
        rw [mk_app]; rfl

theorem vop_mv {o : Oper} {s : Sx} {K : Sx → Prop} (h : VOp P T o s K) : ∃ d, moves P T o (evO s.st.slots) s.st.blks d ∧ ∃ x : Sx, d.app s.st = x.st ∧ K x := by
  unfold VOp at h
  split at h
  · rename_i f args argTypes hop
    unfold moves
    simp only [hop]
    have he : evA s.sl = evO s.st.slots := evA_ev s.sl s.bl
    rw [he] at h
    split at h
    · rename_i fid hf
      obtain ⟨h1, h2⟩ := h
      obtain ⟨d, h3, h4⟩ := vcall_mv h2
      refine ⟨d, ?_, h4⟩
      simp only [hf]
      exact ⟨h3, h1⟩
    · exact h.elim
  · rename_i hn
    exact vstep_mv h hn

theorem vnil_q {o : Oper} {s : Sx} {K : Sx → Prop} (h : VNil T o s K) : (∃ d, moves P T o (evO s.st.slots) s.st.blks d ∧ ∃ x : Sx, d.app s.st = x.st ∧ K x) ∨ NilQ T o s.st fun s' => ∃ x : Sx, s' = x.st ∧ K x := by
  unfold VNil at h
  split at h
  · rename_i xt x yt hop
    split at h
    · rename_i esz he
      split at h
      · rename_i sz n cs hx
        refine .inr (.inl ⟨xt, x, yt, esz, sz, n, cs, hop, he, by rw [evA_ev s.sl s.bl] at hx; exact hx, fun b hb => ⟨_, ?_, h b hb⟩⟩)
        exact mk_putD _ _ _ _
      · exact h.elim
    · exact h.elim
  · rename_i hop
    split at h
    · rename_i sz he
      split at h
      · rename_i k hk
        exact .inr (.inr ⟨k, hop, hk, ⟨_, _⟩, mk_putD _ _ _ _, h⟩)
      · rename_i hk
        refine .inl (vstep_mv ?_ (by simp [hop]))
        unfold VStep
        simp only [step, hop, isNil, if_true, he]
        exact ⟨trivial, rfl, hk, h⟩
    · exact h.elim
  · exact h.elim

theorem put_same {sl : List (Nat × AV)} {bl : List (Nat × Blk)} {d : Nat} {x : AV} (h : getA d sl = x) : mkS (putA d x sl) bl = mkS sl bl := by
  have : (fun t => getA t (putA d x sl)) = fun t => getA t sl := by
    funext t; rw [getA_put]; split
    · rename_i e; rw [e, h]
    · rfl
  simp only [mkS, this]

theorem xG_ok {R : List Nat} {s : Sx} {x : AV} (h : xG R s.bl x) : idG R s.st.blks x := by
  intro i hi
  cases x with
  | row j sz off len => simp [AV.ids] at hi; subst hi; exact h
  | ad j p => simp [AV.ids] at hi; subst hi; exact h
  | tup vs => exact h.elim
  | _ => simp [AV.ids] at hi
theorem xE_ok {s : Sx} {r : Nat} {x : AV} (h : xE s.bl r x) : idE s.st.blks r x := by
  intro i hi
  cases x with
  | row j sz off len => simp [AV.ids] at hi; subst hi; exact h
  | ad j p => simp [AV.ids] at hi; subst hi; exact h
  | tup vs => exact h.elim
  | _ => simp [AV.ids] at hi
theorem gdOp_mono {l : List Oper} {G G' : AV → Prop} {E E' : Nat → AV → Prop} {ρ : Operand → AV} {op : Op} (hG : ∀ x, G x → G' x) (hE : ∀ r x, E r x → E' r x) (h : gdOp l G E ρ op) : gdOp l G' E' ρ op := by
  unfold gdOp at h ⊢
  split at h
  · split at h
    · exact hE _ _ h
    · exact hG _ h
  · refine ⟨?_, hG _ h.2⟩
    have h := h.1
    split at h
    · exact hE _ _ h
    · exact hG _ h
  · exact hG _ h
  · rw [allP_iff] at h ⊢; exact fun p hp => hG _ (h p hp)
  · rw [allP_iff] at h ⊢; exact fun p hp => hG _ (h p hp)
  · rw [allX_iff] at h ⊢; exact fun p hp => hG _ (h p hp)
  · trivial
theorem vask_ok {ops : Array Oper} {o : Oper} {s : Sx} (h : VAsk (.ask (roots ops.toList ops.toList)) ops o s) : Gd ops.toList s.st o := by
  unfold VAsk at h
  simp only at h
  rw [evA_ev s.sl s.bl] at h
  exact gdOp_mono (fun x hx => xG_ok hx) (fun r x hx => xE_ok hx) h

/-- One operation of a region. -/
theorem vo_cons {dm : DM} {ops : Array Oper} {o : Oper} {l : List Oper} {s : Sx} {K : Sx → Prop} (h : VO P T dm ops (o :: l) s K) :
    (∃ d, Mv P T ops o s.st d ∧ (wantOf ops o s.st.slots = some true → VAsk dm ops o s ∨ ∃ s0 : Sx, s0.st = s.st ∧ VAsk dm ops o s0) ∧ ∃ x : Sx, d.app s.st = x.st ∧ VO P T dm ops l x K) ∨ (dm = .text ∧ o.guard = none ∧ NilQ T o s.st fun s' => ∃ x : Sx, s' = x.st ∧ VO P T dm ops l x K) := by
  unfold VO at h
  split at h
  · rename_i hg
    split at h
    · rename_i e
      have hdm : dm = .text := by cases dm <;> simp [nilM] at e ⊢
      rcases vnil_q (P := P) h with ⟨d, h1, h2⟩ | h2
      · exact .inl ⟨d, .inl ⟨by simp [wantOf, hg], h1⟩, fun _ => .inl (by rw [hdm]; trivial), h2⟩
      · exact .inr ⟨hdm, hg, h2⟩
    · obtain ⟨d, h1, h2⟩ := vop_mv h.2
      exact .inl ⟨d, .inl ⟨by simp [wantOf, hg], h1⟩, fun _ => .inl h.1, h2⟩
  · rename_i j want hg
    split at h
    · rename_i d hd
      split at h
      · rename_i b hb
        have hw : wantOf ops o s.st.slots = some (b == want) := by
          simp only [wantOf, hg, hd]
          show (match getA d s.sl with | .lf (.bool b) => some (b == want) | .tup [] => some false | _ => none) = _
          rw [hb]
        by_cases e : b = want
        · subst e
          have e2 : (⟨putA d (.lf (.bool b)) s.sl, s.bl⟩ : Sx).st = s.st := put_same hb
          obtain ⟨ha, h⟩ := h.1 rfl
          obtain ⟨d, h1, h2⟩ := vop_mv h
          rw [e2] at h1 h2
          exact .inl ⟨d, .inl ⟨by simp [hw], h1⟩, fun _ => .inr ⟨_, e2, ha⟩, h2⟩
        · have e' : b = !want := by cases b <;> cases want <;> simp_all
          subst e'
          refine .inl ⟨{ dst := o.dst, v := .tup [] }, .inr ⟨by rw [hw]; simp, rfl⟩, fun h' => ?_, _, ?_, h.2 rfl⟩
          · rw [hw] at h'; simp at h'
          · show Delta.app _ (mkS s.sl s.bl) = _
            rw [← put_same (bl := s.bl) hb, mk_app]; rfl
      · rename_i hb
        have hw : wantOf ops o s.st.slots = some false := by
          simp only [wantOf, hg, hd]
          show (match getA d s.sl with | .lf (.bool b) => some (b == want) | .tup [] => some false | _ => none) = _
          rw [hb]
        refine .inl ⟨{ dst := o.dst, v := .tup [] }, .inr ⟨hw, rfl⟩, fun h' => ?_, _, ?_, h⟩
        · rw [hw] at h'; simp at h'
        · show Delta.app _ (mkS s.sl s.bl) = _
          rw [mk_app]; rfl
      · exact h.elim
    · exact h.elim

theorem vo_apw {ops : Array Oper} {K : Sx → Prop} : ∀ (n i : Nat) (s : Sx), i + n = ops.size → VO P T .text ops (ops.toList.drop i) s K → apw P T ops (List.range' i n) s.st (fun s' => ∃ x : Sx, s' = x.st ∧ K x)
  | 0, i, s, hi, h => by
    rw [List.drop_eq_nil_of_le (by simp; omega)] at h
    exact ⟨s, rfl, h⟩
  | n + 1, i, s, hi, h => by
    have hlt : i < ops.toList.length := by simp; omega
    rw [List.drop_eq_getElem_cons hlt] at h
    have hget : ops[i]? = some (ops.toList[i]) := by simp
    rw [List.range'_succ]
    simp only [apw, hget]
    rcases vo_cons h with ⟨d, h1, _, x, h2, h3⟩ | ⟨_, hg, ⟨xt, x, yt, esz, sz, n', cs, h1, h2, h3, h4⟩ | ⟨k, h1, h2, y, e, h5⟩⟩
    · exact .inl ⟨d, h1, by rw [h2]; exact vo_apw n (i + 1) x (by omega) h3⟩
    · refine .inr ⟨hg, .inl ⟨xt, x, yt, esz, sz, n', cs, h1, h2, h3, fun b hb => ?_⟩⟩
      obtain ⟨y, e, h5⟩ := h4 b hb
      rw [e]; exact vo_apw n (i + 1) y (by omega) h5
    · refine .inr ⟨hg, .inr ⟨k, h1, h2, ?_⟩⟩
      rw [e]; exact vo_apw n (i + 1) y (by omega) h5

theorem vo_apm {ops : Array Oper} {K : Sx → Prop} : ∀ (n i : Nat) (s : Sx), i + n = ops.size → VO P T (dmOf true ops.toList) ops (ops.toList.drop i) s K → apm P T ops (List.range' i n) s.st (fun s' => ∃ x : Sx, s' = x.st ∧ K x)
  | 0, i, s, hi, h => by
    rw [List.drop_eq_nil_of_le (by simp; omega)] at h
    exact ⟨s, rfl, h⟩
  | n + 1, i, s, hi, h => by
    have hlt : i < ops.toList.length := by simp; omega
    rw [List.drop_eq_getElem_cons hlt] at h
    have hget : ops[i]? = some (ops.toList[i]) := by simp
    rw [List.range'_succ]
    simp only [apm, hget]
    rcases vo_cons h with ⟨d, h1, ha, x, h2, h3⟩ | ⟨h0, _⟩
    · refine ⟨d, h1, fun hst hw => ?_, by rw [h2]; exact vo_apm n (i + 1) x (by omega) h3⟩
      have e : dmOf true ops.toList = .ask (roots ops.toList ops.toList) := by unfold dmOf; rw [if_pos rfl, if_pos hst]
      rw [e] at ha
      rcases ha hw with ha | ⟨s0, e0, ha⟩
      · exact vask_ok ha
      · rw [← e0]; exact vask_ok ha
    · unfold dmOf at h0
      rw [if_pos rfl] at h0
      split at h0 <;> cases h0

/-- The walk on lists is the walk. -/
theorem V_pw : ∀ (c : Code) (s : Sx) (N : Sx → Prop) (X : Exit → Sx → Prop), V P T c s N X → pw P T c s.st (fun s' => ∃ x : Sx, s' = x.st ∧ N x) (fun e s' => ∃ x : Sx, s' = x.st ∧ X e x) := by
  intro c
  induction c with
  | skip => intro s N X h; exact ⟨s, rfl, h⟩
  | label l => intro s N X h; exact ⟨s, rfl, h⟩
  | region id ops draw =>
    intro s N X h
    simp only [pw, List.range_eq_range']
    cases draw with
    | true => rw [if_pos rfl]; exact vo_apm ops.size 0 s (by simp) h
    | false => rw [if_neg (by simp)]; exact vo_apw ops.size 0 s (by simp) (by simpa [V, dmOf] using h)
  | seq a b iha ihb =>
    intro s N X h
    refine pw_mono a _ _ _ _ _ (fun s' hs' => ?_) (fun _ _ h => h) (iha s _ X h)
    obtain ⟨x, rfl, hx⟩ := hs'
    exact ihb x N X hx
  | cond cd t e iht ihe =>
    intro s N X h
    simp only [V] at h
    split at h
    · exact h
    split at h
    · rename_i b hb
      have hput : ∀ b', b = b' → (⟨putOp cd (.lf (.bool b')) s.sl, s.bl⟩ : Sx).st = s.st := by
        rintro b' rfl
        cases cd with
        | tmp t => exact put_same hb
        | _ => rfl
      refine ⟨b, by rw [evA_ev s.sl s.bl] at hb; exact hb, _, fun e => ?_, fun e => ?_, fun s' hs' => ⟨s', fun _ _ _ _ h => h, hs'⟩⟩
      · have := iht _ N X (h.1 e); rwa [hput _ e] at this
      · have := ihe _ N X (h.2 e); rwa [hput _ e] at this
    · exact h.elim
  | block id c ih =>
    intro s N X h
    refine pw_mono c _ _ _ _ _ (fun _ h => h) (fun e s' hs' => ?_) (ih s _ _ h)
    obtain ⟨x, rfl, hx⟩ := hs'
    cases e with
    | exit id' =>
      simp only at hx ⊢
      split
      · rename_i e; rw [if_pos e] at hx; exact ⟨x, rfl, hx⟩
      · rename_i e; rw [if_neg e] at hx; exact ⟨x, rfl, hx⟩
    | _ => exact ⟨x, rfl, hx⟩
  | loop c ih => intro s N X h; exact h
  | exit id => intro s N X h; exact ⟨s, rfl, h⟩
  | ret => intro s N X h; exact ⟨s, rfl, h⟩
  | rangeFunc f ps as b => intro s N X h; exact h.elim
  | scope b => intro s N X h; exact h.elim
  | goto l => intro s N X h; exact h.elim
  | refuse why => intro s N X h; exact h.elim

/-- A test whose ways are joined again, by what both keep. -/
theorem vjoin {c : Operand} {t e : Code} {s : Sx} {N : Sx → Prop} {X : Exit → Sx → Prop} {b : Bool} {α : Type} (st : α → Sx) (J : α → Prop) (hc : evA s.sl c = .lf (.bool b))
    (h1 : b = true → V P T t ⟨putOp c (.lf (.bool true)) s.sl, s.bl⟩ (fun s' => ∃ x, Weak s'.st (st x).st ∧ J x) X) (h2 : b = false → V P T e ⟨putOp c (.lf (.bool false)) s.sl, s.bl⟩ (fun s' => ∃ x, Weak s'.st (st x).st ∧ J x) X)
    (h3 : ∀ x, J x → N (st x)) : VJoin P T c t e s N X := by
  have hput : ∀ b', b = b' → (⟨putOp c (.lf (.bool b')) s.sl, s.bl⟩ : Sx).st = s.st := by
    rintro b' rfl
    cases c with
    | tmp t => exact put_same hc
    | _ => rfl
  refine ⟨b, by rw [evA_ev s.sl s.bl] at hc; exact hc, fun s' => ∃ y : Sx, s' = y.st ∧ ∃ x, Weak y.st (st x).st ∧ J x, fun hb => ?_, fun hb => ?_, fun s' hs' => ?_⟩
  · have := V_pw t _ _ _ (h1 hb); rwa [hput _ hb] at this
  · have := V_pw e _ _ _ (h2 hb); rwa [hput _ hb] at this
  · obtain ⟨y, rfl, x, g1, g2⟩ := hs'
    exact ⟨(st x).st, g1, st x, rfl, h3 x g2⟩

/-- A loop, by what each round keeps. -/
theorem vloop {c : Code} {s : Sx} {N : Sx → Prop} {X : Exit → Sx → Prop} {α : Type} (st : α → Sx) (J : α → Prop) (μ : α → Nat) (x : α) (h0 : Weak s.st (st x).st) (hJ : J x)
    (h : ∀ x, J x → V P T c (st x) (fun s' => ∃ x', Weak s'.st (st x').st ∧ J x' ∧ μ x' < μ x) X) : VLoop P T c s N X := by
  refine ⟨α, fun x => (st x).st, J, μ, ⟨x, h0, hJ⟩, fun x hx => ?_⟩
  refine pw_mono c _ _ _ _ _ (fun s' hs' => ?_) (fun _ _ h => h) (V_pw c _ _ _ (h x hx))
  obtain ⟨y, rfl, hy⟩ := hs'
  exact hy

theorem callK {f : Nat} {as : List Arg} {fz : List Nat} {dst : Option Nat} {s : Sx} {K : Sx → Prop} {res : Res} (h : Ok P f as res) (hk : res.out = [] ∧ freshL s.bl (mksOf dst 0 res.vals) ∧
    (if T.bo f then res.vals.all RV.flat = true ∧ K ⟨putOA dst (resAV dst res.vals) s.sl, mkB (mksOf dst 0 res.vals) s.bl⟩
     else fz.all (100 ≤ ·) = true ∧ K ⟨putOA dst (resAV dst res.vals) s.sl, mkB (mksOf dst 0 res.vals) (frzL fz s.bl)⟩)) : CallK P T f as fz dst s K := ⟨res, h, hk⟩

end
end Go.Proofs.YtdhgdpcmdmgchaaGreat.Fw
