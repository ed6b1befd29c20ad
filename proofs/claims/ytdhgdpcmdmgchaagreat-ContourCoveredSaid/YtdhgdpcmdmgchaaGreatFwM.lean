/- The framework's walk: a whole function's code on abstract states. Conditions: none. -/
import Derived.Test.YtdhgdpcmdmgchaaGreatFwLb
import Derived.Deep.LoopGhost
namespace Go.Proofs.YtdhgdpcmdmgchaaGreat.Fw
open Go
set_option linter.unusedSimpArgs false
set_option linter.unusedVariables false

/-- A slice held against nil: an empty one may be either. -/
def NilE (T : Tab) (o : Oper) (s : St) (K : St → Prop) : Prop :=
  ∃ xt x yt esz sz n cs, o.op = .binOp .eql xt x (.const (.slice none 0 0)) yt ∧ T.esz xt = some esz ∧ evO s.slots x = .lf (.sl sz n cs) ∧
    ∀ b : Bool, (b = true → n = 0) → K (s.putD o.dst (.lf (.bool b)))

/-- nil is assigned once more. -/
def NilA (o : Oper) (s : St) (K : St → Prop) : Prop :=
  ∃ k, o.op = .assign (.const (.slice none 0 0)) ∧ s.blks (idOf o.dst 0) = some k ∧ K (s.putD o.dst (.row (idOf o.dst 0) k.sz 0 0))

def NilQ (T : Tab) (o : Oper) (s : St) (K : St → Prop) : Prop := NilE T o s K ∨ NilA o s K

def absOp (P : Program) (T : Tab) (ops : Array Oper) (o : Oper) (s : St) (K : St → Prop) : Prop :=
  (∃ d, Mv P T ops o s d ∧ K (d.app s)) ∨ (o.guard = none ∧ NilQ T o s K)

/-- The operations of a region, one behind the other. -/
def apw (P : Program) (T : Tab) (ops : Array Oper) : List Nat → St → (St → Prop) → Prop
  | [], s, K => K s
  | i :: l, s, K => match ops[i]? with
    | none => apw P T ops l s K
    | some o => absOp P T ops o s fun s' => apw P T ops l s' K

/-- The same, without a slice held against nil. -/
def apm (P : Program) (T : Tab) (ops : Array Oper) : List Nat → St → (St → Prop) → Prop
  | [], s, K => K s
  | i :: l, s, K => match ops[i]? with
    | none => apm P T ops l s K
    | some o => ∃ d, Mv P T ops o s d ∧ Gds ops s o ∧ apm P T ops l (d.app s) K

def nilFree (ops : Array Oper) : Bool := ops.all fun o => match o.op with | .binOp .eql _ _ (.const (.slice none 0 0)) _ => false | _ => true

def dstOk (nt : Nat) (ops : Array Oper) : Bool := ops.all fun o => match o.dst with | some d => decide (d < nt) | none => true

/-- Does the order that Go leaves open make no difference? -/
def chkOps (T : Tab) (ops : Array Oper) : Bool :=
  nilFree ops &&
  (List.range ops.size).all fun i => match ops[i]? with
    | none => true
    | some o => (o.after.all fun e => !Region.binds .any e || decide (e.on < i)) &&
      (List.range i).all fun j => ((Region.before ops).getD i 0).testBit j || match ops[j]? with
        | none => true
        | some p => cnd T ops p o

def chk (T : Tab) (nt : Nat) : Code → Bool
  | .region _ ops draw => dstOk nt ops && (!draw || chkOps T ops)
  | .seq a b => chk T nt a && chk T nt b
  | .cond _ a b => chk T nt a && chk T nt b
  | .block _ c => chk T nt c
  | .loop c => chk T nt c
  | _ => true

/-- s' knows less than s. -/
def Weak (s s' : St) : Prop := ∀ c a w, CtxOk c → Sim c s a w → Sim c s' a w

def pw (P : Program) (T : Tab) : Code → St → (St → Prop) → (Exit → St → Prop) → Prop
  | .skip, s, N, _ => N s
  | .label _, s, N, _ => N s
  | .region _ ops draw, s, N, _ => if draw then apm P T ops (List.range ops.size) s N else apw P T ops (List.range ops.size) s N
  | .seq a b, s, N, X => pw P T a s (fun s' => pw P T b s' N X) X
  | .cond c t e, s, N, X => ∃ b, evO s.slots c = .lf (.bool b) ∧ ∃ N' : St → Prop, (b = true → pw P T t s N' X) ∧ (b = false → pw P T e s N' X) ∧ ∀ s', N' s' → ∃ s'', Weak s' s'' ∧ N s''
  | .block id c, s, N, X => pw P T c s N fun e s' => match e with
    | .exit id' => if id' = id then N s' else X (.exit id') s'
    | e => X e s'
  | .loop c, s, N, X => ∃ (α : Type) (st : α → St) (J : α → Prop) (μ : α → Nat), (∃ x, Weak s (st x) ∧ J x) ∧ ∀ x, J x → pw P T c (st x) (fun s' => ∃ x', Weak s' (st x') ∧ J x' ∧ μ x' < μ x) X
  | .exit id, s, _, X => X (.exit id) s
  | .ret, s, _, X => X .ret s
  | _, _, _, _ => False

section
variable {P : Program} {T : Tab} {c : Ctx} {s : St} {a : Act} {w : World}

theorem want_ok (h : Sim c s a w) {ops : Array Oper} {o : Oper} {b : Bool} (hw : wantOf ops o s.slots = some b) : Region.wanted o (yielded ops a.tmps) = b := by
  obtain ⟨im, pl, h⟩ := h
  unfold wantOf at hw
  unfold Region.wanted
  cases hg : o.guard with
  | none => simp [hg] at hw; simp [hw]
  | some gw =>
    obtain ⟨j, want⟩ := gw
    simp only [hg] at hw ⊢
    cases hd : (ops[j]?).bind (·.dst) with
    | none => simp [hd] at hw
    | some d =>
      simp only [hd] at hw
      have hs := h.slots d
      split at hw
      · rename_i b' hb
        rw [hb] at hs
        have := rep_bool hs
        have hd' : a.tmps[d]? = some (.bool b') := by
          rw [Array.getD_eq_getD_getElem?] at this
          cases hq : a.tmps[d]? with
          | none => simp [hq, undef] at this
          | some v => simp [hq] at this; simp [this]
        simp only [Option.some.injEq] at hw
        unfold yielded
        simp only [hd, Option.bind_some, hd']
        rw [← hw]
        cases b' <;> cases want <;> rfl
      · rename_i hb
        rw [hb] at hs
        have hd' : (a.tmps[d]?).getD (.tuple #[]) = .tuple #[] := by
          rw [Array.getD_eq_getD_getElem?] at hs
          show (a.tmps[d]?).getD undef = _
          generalize (a.tmps[d]?).getD undef = v at hs ⊢
          cases hs with
          | tup hl h =>
            rename_i vs
            have : vs = [] := List.length_eq_zero_iff.1 hl
            subst this; rfl
        simp only [Option.some.injEq] at hw
        unfold yielded
        simp only [hd, Option.bind_some]
        rw [← hw]
        cases hq : a.tmps[d]? with
        | none => rfl
        | some v => rw [hq] at hd'; simp only [Option.getD_some] at hd'; subst hd'; rfl
      · simp at hw

/-- One operation. -/
theorem mv_wpOp (hT : TabOk P T) (ok : CtxOk c) (h : Sim c s a w) {ops : Array Oper} {i : Nat} {o : Oper} (hi : ops[i]? = some o) (hd : ∀ t, o.dst = some t → t < c.nt) {d : Delta} (hm : Mv P T ops o s d)
    {K : Act → World → Prop} {Q : Exit → Act → World → Prop} (hK : ∀ a' w', Sim c (d.app s) a' w' → K a' w') : wpOp P ops Q i K a w := by
  unfold wpOp
  simp only [hi]
  rcases hm with ⟨h1, h2⟩ | ⟨h1, rfl⟩
  · rw [want_ok h h1]
    simp only [if_true]
    exact .inl (moves_wp hT ok h h2 hd hK)
  · rw [want_ok h h1]
    simp only [Bool.false_eq_true, if_false]
    refine hK _ _ ?_
    obtain ⟨im, pl, h⟩ := h
    exact ⟨im, pl, h.putD (.tup (vs := []) (as := []) rfl (fun p h => absurd h (by simp))) trivial hd⟩

theorem nil_wp (hT : TabOk P T) (h : Sim c s a w) {o : Oper} {K : St → Prop} (hn : NilQ T o s K) (hd : ∀ t, o.dst = some t → t < c.nt) {K' : Act → World → Prop} {Q : Exit → Act → World → Prop}
    (hK : ∀ s' a' w', K s' → Sim c s' a' w' → K' a' w') : o.wp P a w K' Q := by
  rcases hn with ⟨xt, x, yt, esz, sz, n, cs, ho, hesz, hx, hb⟩ | ⟨k, ho, hk, hK'⟩
  case inr =>
    obtain ⟨im, pl, h⟩ := h
    have hr : (execOp a.eval o).run P w = .ok (.value (.slice none 0 0)) w := by simp [execOp, ho]; rfl
    unfold Oper.wp
    rw [hr]
    exact hK _ _ _ hK' ⟨im, pl, h.putD (x := .row (idOf o.dst 0) k.sz 0 0) (.row0 none _ _ _) ⟨k, hk, rfl, by simp⟩ hd⟩
  obtain ⟨im, pl, h⟩ := h
  obtain ⟨e, de, hu, _, _⟩ := Tab.esz_spec hT hesz
  have hxr := h.op x
  rw [hx] at hxr
  have main : ∀ {A : Option Addr} {cp : Nat}, a.eval x = .slice A n cp → (A.isNone = true → n = 0) → o.wp P a w K' Q := by
    intro A cp hv hA
    have heq : ∀ d, (Op.equalIn (d + 1) xt (.slice A n cp) (.slice none 0 0)).run P w = .ok A.isNone w := by
      intro d
      simp only [Op.equalIn, Sem.run_bind, run_underlying hu, Result.andThen_ok]
      cases A <;> rfl
    have heq' : (Op.equal xt (.slice A n cp) (.slice none 0 0)).run P w = .ok A.isNone w := heq 9999
    have hg : (eqGuard .eql xt x (.const (.slice none 0 0)) (.slice A n cp) (.slice none 0 0)).run P w = .ok () w := by simp [eqGuard]
    have hrun : (execOp a.eval o).run P w = .ok (.value (.bool A.isNone)) w := by
      have hbin : (Go.binOp .eql xt (.slice A n cp) (.slice none 0 0)).run P w = .ok (.bool A.isNone) w := by
        simp only [Go.binOp, Sem.run_bind, heq', Result.andThen_ok]; rfl
      have hev : a.eval (.const (.slice none 0 0)) = .slice none 0 0 := rfl
      simp only [execOp, ho, hv, hev, Sem.run_bind, hg, hbin, Result.andThen_ok]
      rfl
    unfold Oper.wp
    rw [hrun]
    exact hK _ _ _ (hb A.isNone hA) ⟨im, pl, h.putD (.lf (.bool _)) trivial hd⟩
  cases hxr' : a.eval x with
  | slice A n' cp =>
    rw [hxr'] at hxr
    cases hxr with
    | lf hr => cases hr with
      | sl0 => exact main hxr' (fun _ => rfl)
      | sl => exact main hxr' (fun hA => by simp at hA)
  | _ => rw [hxr'] at hxr; cases hxr with | lf hr => cases hr

theorem dst_lt {nt : Nat} {ops : Array Oper} (h : dstOk nt ops = true) {i : Nat} {o : Oper} (hi : ops[i]? = some o) : ∀ t, o.dst = some t → t < nt := by
  intro t ht
  have := Array.all_eq_true_iff_forall_mem.1 h o (Array.mem_of_getElem? hi)
  simpa [ht] using this

/-- A region in the order of its text. -/
theorem apw_ops (hT : TabOk P T) (ok : CtxOk c) {ops : Array Oper} (hd : dstOk c.nt ops = true) {N : St → Prop} {Q : Exit → Act → World → Prop} (hQ : ∀ s' a' w', N s' → Sim c s' a' w' → Q .normal a' w') :
    ∀ (l : List Nat) (s : St) (a : Act) (w : World), apw P T ops l s N → Sim c s a w → wpOps P ops Q l a w
  | [], s, a, w, h, hs => hQ s a w h hs
  | i :: l, s, a, w, h, hs => by
    rw [wpOps_cons]
    simp only [apw] at h
    cases hi : ops[i]? with
    | none =>
      simp only [hi] at h
      unfold wpOp
      simp only [hi]
      exact apw_ops hT ok hd hQ l s a w h hs
    | some o =>
      simp only [hi] at h
      rcases h with ⟨d, h1, h2⟩ | ⟨hg, hn⟩
      · exact mv_wpOp hT ok hs hi (dst_lt hd hi) h1 fun a' w' hs' => apw_ops hT ok hd hQ l _ a' w' h2 hs'
      · unfold wpOp
        have hwant : Region.wanted o (yielded ops a.tmps) = true := by simp [Region.wanted, hg]
        simp only [hi, hwant, if_true]
        exact .inl (nil_wp hT hs hn (dst_lt hd hi) fun s' a' w' h' hs' => apw_ops hT ok hd hQ l s' a' w' h' hs')

theorem apm_to {ops : Array Oper} {N : St → Prop} : ∀ (l : List Nat) (s : St), apm P T ops l s N → apw P T ops l s N
  | [], s, h => h
  | i :: l, s, h => by
    simp only [apm] at h
    simp only [apw]
    cases hi : ops[i]? with
    | none => simp only [hi] at h ⊢; exact apm_to l s h
    | some o => simp only [hi] at h ⊢; obtain ⟨d, h1, _, h2⟩ := h; exact .inl ⟨d, h1, apm_to l _ h2⟩

/-- An operation that waits for none of those ahead of it may come first. -/
theorem bubble {ops : Array Oper} {i : Nat} {o : Oper} (hi : ops[i]? = some o) {N : St → Prop} {post : List Nat} : ∀ (pre : List Nat) (s : St), Named o s → (∀ p ∈ pre, ∀ po, ops[p]? = some po → cnd T ops po o = true) →
    apm P T ops (pre ++ i :: post) s N → ∃ d, Mv P T ops o s d ∧ Gds ops s o ∧ apm P T ops (pre ++ post) (d.app s) N
  | [], s, hn, _, h => by
    simp only [List.nil_append, apm, hi] at h
    obtain ⟨d, h1, h2, h3⟩ := h
    exact ⟨d, h1, h2, h3⟩
  | p :: pre, s, hn, hp, h => by
    simp only [List.cons_append, apm] at h ⊢
    cases hpo : ops[p]? with
    | none =>
      simp only [hpo] at h ⊢
      exact bubble hi pre s hn (fun q hq => hp q (by simp [hq])) h
    | some po =>
      simp only [hpo] at h ⊢
      obtain ⟨dp, h1, hg, h2⟩ := h
      have hind := hp p (by simp) po hpo
      have hap : po.apart ops o = true := by
        simp only [cnd, indep, Bool.or_eq_true, Bool.and_eq_true] at hind
        rcases hind with h | h
        · exact h.1
        · exact h.1.2
      obtain ⟨a1, a2, a3⟩ := Oper.apart_spec hap
      have hn' : Named o (dp.app s) := fun j hj => app_grows (hn j ((names_app h1.dst a1).1 hj))
      obtain ⟨d, g1, gg, g2⟩ := bubble hi pre (dp.app s) hn' (fun q hq => hp q (by simp [hq])) h2
      have hsame : Same ops o s (dp.app s) := same_app h1.dst a1
      have go : Gds ops s o := gds_same gg (fun t ht => (hsame t ht).symm) (fun j hj _ => hn j ((names_app h1.dst a1).1 hj))
      obtain ⟨k1, k2, k3⟩ := swapC (by simpa using Array.mem_of_getElem? hpo) (by simpa using Array.mem_of_getElem? hi) hn hind h1 g1 hg go
      have hsame2 : Same ops po s (d.app s) := same_app g1.dst a3
      exact ⟨d, k1, go, dp, k2, gds_same hg hsame2 (fun j _ hj => app_grows hj), by rw [← k3]; exact g2⟩

/-! ### what waits for what -/

theorem before_size (ops : Array Oper) : (Region.before ops).size = ops.size := by
  unfold Region.before
  rw [← Array.foldl_toList]
  have : ∀ (l : List Oper) (acc : Array Nat), (l.foldl (fun acc o => acc.push (o.after.foldl (fun s e => if Region.binds .any e then s ||| 2 ^ e.on ||| acc.getD e.on 0 else s) 0)) acc).size = acc.size + l.length := by
    intro l
    induction l with
    | nil => intro acc; simp
    | cons o l ih => intro acc; simp only [List.foldl_cons]; rw [ih]; simp; omega
  have h := this ops.toList #[]
  simpa using h

theorem before_go (l : List Oper) : ∀ (acc : Array Nat) (i : Nat), i < acc.size → (l.foldl (fun acc o => acc.push (o.after.foldl (fun s e => if Region.binds .any e then s ||| 2 ^ e.on ||| acc.getD e.on 0 else s) 0)) acc).getD i 0 = acc.getD i 0 := by
  induction l with
  | nil => intro acc i h; rfl
  | cons o l ih =>
    intro acc i h
    simp only [List.foldl_cons]
    rw [ih _ _ (by simp; omega)]
    simp [Array.getElem?_push_lt, h, show i < acc.size by omega, Array.getElem?_push]

theorem bits_of (acc : Array Nat) (j : Nat) : ∀ (es : List Edge) (s : Nat), (es.foldl (fun s e => if Region.binds .any e then s ||| 2 ^ e.on ||| acc.getD e.on 0 else s) s).testBit j = true →
    s.testBit j = true ∨ ∃ e ∈ es, Region.binds .any e = true ∧ (e.on = j ∨ (acc.getD e.on 0).testBit j = true)
  | [], s, h => .inl h
  | e :: es, s, h => by
    simp only [List.foldl_cons] at h
    rcases bits_of acc j es _ h with h1 | ⟨e', he', h2⟩
    · split at h1
      · rename_i hb
        simp only [Nat.testBit_or, Bool.or_eq_true] at h1
        rcases h1 with (h1 | h1) | h1
        · exact .inl h1
        · exact .inr ⟨e, by simp, hb, .inl (by simpa [Nat.testBit_two_pow] using h1)⟩
        · exact .inr ⟨e, by simp, hb, .inr h1⟩
      · exact .inl h1
    · exact .inr ⟨e', by simp [he'], h2⟩

/-- Who stands in 'before' is waited for, or is waited for by one that is. -/
theorem before_spec (ops : Array Oper) {i j : Nat} {o : Oper} (hi : ops[i]? = some o) (hlt : ∀ e ∈ o.after, Region.binds .any e = true → e.on < i) (h : ((Region.before ops).getD i 0).testBit j = true) :
    ∃ e ∈ o.after, Region.binds .any e = true ∧ (e.on = j ∨ ((Region.before ops).getD e.on 0).testBit j = true) := by
  have hil : i < ops.size := (Array.getElem?_eq_some_iff.1 hi).1
  have hoi : ops.toList[i]? = some o := by simpa using hi
  have hsplit : ops.toList = ops.toList.take i ++ o :: ops.toList.drop (i + 1) := by
    rw [List.getElem?_eq_some_iff] at hoi
    obtain ⟨h1, rfl⟩ := hoi
    rw [← List.drop_eq_getElem_cons h1, List.take_append_drop]
  have hb : Region.before ops = ((ops.toList.take i ++ o :: ops.toList.drop (i + 1)).foldl (fun acc o => acc.push (o.after.foldl (fun s e => if Region.binds .any e then s ||| 2 ^ e.on ||| acc.getD e.on 0 else s) 0)) #[]) := by
    unfold Region.before
    rw [← Array.foldl_toList, ← hsplit]
  rw [List.foldl_append, List.foldl_cons] at hb
  generalize hacc : (ops.toList.take i).foldl (fun acc o => acc.push (o.after.foldl (fun s e => if Region.binds .any e then s ||| 2 ^ e.on ||| acc.getD e.on 0 else s) 0)) (#[] : Array Nat) = acc at hb
  have hsz : acc.size = i := by
    rw [← hacc]
    have : ∀ (l : List Oper) (acc : Array Nat), (l.foldl (fun acc o => acc.push (o.after.foldl (fun s e => if Region.binds .any e then s ||| 2 ^ e.on ||| acc.getD e.on 0 else s) 0)) acc).size = acc.size + l.length := by
      intro l
      induction l with
      | nil => intro acc; simp
      | cons o l ih => intro acc; simp only [List.foldl_cons]; rw [ih]; simp; omega
    rw [this]; simp; omega
  have hlow : ∀ k, k < i → (Region.before ops).getD k 0 = acc.getD k 0 := by
    intro k hk
    rw [hb, before_go _ _ _ (by simp; omega)]
    simp [Array.getElem?_push, show k ≠ acc.size by omega]
  have hmid : (Region.before ops).getD i 0 = o.after.foldl (fun s e => if Region.binds .any e then s ||| 2 ^ e.on ||| acc.getD e.on 0 else s) 0 := by
    rw [hb, before_go _ _ _ (by simp; omega)]
    rw [Array.getD_eq_getD_getElem?, Array.getElem?_push, if_pos hsz.symm]; rfl
  rw [hmid, ← Array.foldl_toList] at h
  rcases bits_of acc j o.after.toList 0 h with h | ⟨e, he, hbd, h2⟩
  · simp at h
  · refine ⟨e, by simpa using he, hbd, h2.imp id fun h3 => ?_⟩
    rw [hlow _ (hlt e (by simpa using he) hbd)]; exact h3

/-- What is still to come, in the order of the text; whatever one that has come waits for has come. -/
structure Left (ops : Array Oper) (listed : Array Bool) (l : List Nat) : Prop where
  size : listed.size = ops.size
  mem : ∀ j, j < ops.size → (listed.getD j true = false ↔ j ∈ l)
  lt : ∀ j ∈ l, j < ops.size
  sorted : l.Pairwise (· < ·)
  closed : ∀ j o, ops[j]? = some o → listed.getD j true = true → ∀ e ∈ o.after, Region.binds .any e = true → listed.getD e.on false = true

theorem getD_tf {listed : Array Bool} {j : Nat} (h : listed.getD j false = true) : listed.getD j true = true := by
  rw [Array.getD_eq_getD_getElem?] at h ⊢
  cases hq : listed[j]? <;> simp [hq] at h ⊢
  exact h

theorem chk_edges {T : Tab} {ops : Array Oper} (h : chkOps T ops = true) {i : Nat} {o : Oper} (hi : ops[i]? = some o) :
    (∀ e ∈ o.after, Region.binds .any e = true → e.on < i) ∧ ∀ j, j < i → ((Region.before ops).getD i 0).testBit j = true ∨ ∀ p, ops[j]? = some p → cnd T ops p o = true := by
  simp only [chkOps, Bool.and_eq_true, List.all_eq_true, List.mem_range] at h
  have h1 := h.2 i (Array.getElem?_eq_some_iff.1 hi).1
  simp only [hi, Bool.and_eq_true, List.all_eq_true, List.mem_range, Bool.or_eq_true] at h1
  refine ⟨fun e he hb => by simpa [hb] using Array.all_eq_true_iff_forall_mem.1 h1.1 e he, fun j hj => (h1.2 j hj).imp id fun h2 p hp => ?_⟩
  simpa [hp] using h2

/-- Who waits for nobody that is to come waits, by whatever way, for nobody that is to come. -/
theorem before_listed {ops : Array Oper} {listed : Array Bool} {l : List Nat} (hL : Left ops listed l) (hc : chkOps T ops = true) : ∀ (i : Nat) (o : Oper), ops[i]? = some o →
    (∀ e ∈ o.after, Region.binds .any e = true → listed.getD e.on false = true) → ∀ j, ((Region.before ops).getD i 0).testBit j = true → listed.getD j false = true := by
  intro i
  induction i using Nat.strongRecOn with
  | _ i ih =>
    intro o hi hall j hj
    obtain ⟨hlt, _⟩ := chk_edges hc hi
    obtain ⟨e, he, hb, h2⟩ := before_spec ops hi hlt hj
    rcases h2 with rfl | h2
    · exact hall e he hb
    · have hel := hall e he hb
      have heo : e.on < ops.size := Nat.lt_trans (hlt e he hb) (Array.getElem?_eq_some_iff.1 hi).1
      obtain ⟨eo, heo'⟩ : ∃ eo, ops[e.on]? = some eo := ⟨ops[e.on], by simp [heo]⟩
      exact ih e.on (hlt e he hb) eo heo' (fun e' he' hb' => hL.closed e.on eo heo' (getD_tf hel) e' he' hb') j h2

theorem named_sim (h : Sim c s a w) (o : Oper) : Named o s := by
  obtain ⟨im, pl, h⟩ := h
  rintro i ⟨x, _, hx⟩
  exact AV.wf_ids (h.opwf x) i hx

/-- A region in whatever order its edges allow. -/
theorem apm_any (hT : TabOk P T) (ok : CtxOk c) {ops : Array Oper} (hd : dstOk c.nt ops = true) (hc : chkOps T ops = true) {N : St → Prop} {Q : Exit → Act → World → Prop} (hQ : ∀ s' a' w', N s' → Sim c s' a' w' → Q .normal a' w') :
    ∀ (fuel : Nat) (listed : Array Bool) (l : List Nat) (s : St) (a : Act) (w : World), l.length ≤ fuel → Left ops listed l → apm P T ops l s N → Sim c s a w → wpAny P .any ops Q fuel listed a w := by
  -- when nothing may come up, nothing is left
  have hempty : ∀ (listed : Array Bool) (l : List Nat), Left ops listed l → Region.ready .any ops listed = [] → l = [] := by
    intro listed l hL hr
    cases l with
    | nil => rfl
    | cons i l =>
      exfalso
      have hlt := hL.lt i (by simp)
      obtain ⟨o, ho⟩ : ∃ o, ops[i]? = some o := ⟨ops[i], by simp [hlt]⟩
      have : i ∈ Region.ready .any ops listed := by
        rw [mem_ready]
        refine ⟨(hL.mem i hlt).2 (by simp), o, ho, fun e he hb => ?_⟩
        have hei := (chk_edges hc ho).1 e he hb
        have hne : e.on ∉ i :: l := by
          intro hm
          rcases List.mem_cons.1 hm with e1 | hm
          · omega
          · have := (List.pairwise_cons.1 hL.sorted).1 _ hm; omega
        have hsz : e.on < ops.size := by omega
        have hno := mt (hL.mem e.on hsz).1 hne
        have hl : e.on < listed.size := by rw [hL.size]; exact hsz
        rw [Array.getD_eq_getD_getElem?] at hno ⊢
        simp [hl] at hno ⊢
        exact hno
      rw [hr] at this; cases this
  intro fuel
  induction fuel with
  | zero =>
    intro listed l s a w hf hL h hs
    have : l = [] := List.eq_nil_of_length_eq_zero (by omega)
    subst this
    refine ⟨?_, hQ s a w h hs⟩
    cases hr : Region.ready .any ops listed with
    | nil => rfl
    | cons i r =>
      have hi : i ∈ Region.ready .any ops listed := by rw [hr]; simp
      obtain ⟨h1, o, h2, _⟩ := mem_ready.1 hi
      have := (hL.mem i (Array.getElem?_eq_some_iff.1 h2).1).1 h1
      simp at this
  | succ fuel ih =>
    intro listed l s a w hf hL h hs
    refine ⟨fun hr => ?_, fun i hi => ?_⟩
    · have := hempty listed l hL hr
      subst this
      exact hQ s a w h hs
    · obtain ⟨h1, o, h2, h3⟩ := mem_ready.1 hi
      have hil := (Array.getElem?_eq_some_iff.1 h2).1
      have hmem := (hL.mem i hil).1 h1
      obtain ⟨pre, post, rfl⟩ := List.append_of_mem hmem
      have hsort := List.pairwise_append.1 hL.sorted
      have hpre : ∀ p ∈ pre, p < i := fun p hp => hsort.2.2 p hp i (by simp)
      have hpost : ∀ p ∈ post, i < p := fun p hp => (List.pairwise_cons.1 hsort.2.1).1 p hp
      have hind : ∀ p ∈ pre, ∀ po, ops[p]? = some po → cnd T ops po o = true := by
        intro p hp po hpo
        rcases (chk_edges hc h2).2 p (hpre p hp) with hb | hb
        · have hlis := before_listed hL hc i o h2 h3 p hb
          have := (hL.mem p (Array.getElem?_eq_some_iff.1 hpo).1).2 (by simp [hp])
          rw [getD_tf hlis] at this; cases this
        · exact hb po hpo
      obtain ⟨d, g1, _, g2⟩ := bubble h2 pre s (named_sim hs o) hind h
      refine mv_wpOp hT ok hs h2 (dst_lt hd h2) g1 fun a' w' hs' => ?_
      refine ih _ (pre ++ post) _ a' w' (by simp at hf ⊢; omega) ?_ g2 hs'
      refine ⟨by simp [hL.size], fun j hj => ?_, fun j hj => hL.lt j (by simp at hj ⊢; rcases hj with hj | hj <;> simp [hj]), ?_, fun j oj hj hlj e he hb => ?_⟩
      · by_cases e : j = i
        · subst e
          have hl : j < listed.size := by rw [hL.size]; exact hj
          rw [Array.getD_eq_getD_getElem?]
          simp [hl]
          exact ⟨fun hp => by have := hpre j hp; omega, fun hp => by have := hpost j hp; omega⟩
        · rw [getD_set_ne true (Ne.symm e), hL.mem j hj]
          simp [e]
      · refine List.pairwise_append.2 ⟨hsort.1, (List.pairwise_cons.1 hsort.2.1).2, fun p hp q hq => hsort.2.2 p hp q (by simp [hq])⟩
      · refine getD_set_true ?_
        by_cases e1 : j = i
        · subst e1; rw [h2] at hj; cases hj; exact h3 e he hb
        · rw [getD_set_ne true (Ne.symm e1)] at hlj
          exact hL.closed j oj hj hlj e he hb

end
end Go.Proofs.YtdhgdpcmdmgchaaGreat.Fw
