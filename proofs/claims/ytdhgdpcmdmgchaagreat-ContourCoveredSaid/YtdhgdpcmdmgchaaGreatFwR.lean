/- The framework's rules for the walk on lists: forgetting and renaming, results, functions. Conditions: none. -/
import Derived.Test.YtdhgdpcmdmgchaaGreatFwQ
namespace Go.Proofs.YtdhgdpcmdmgchaaGreat.Fw
open Go
set_option linter.unusedSimpArgs false
set_option linter.unusedVariables false

def renF : List (Nat × Nat) → Nat → Nat
  | [], i => i
  | (a, b) :: l, i => if i = a then b else renF l i
def renA (r : List (Nat × Nat)) : AV → AV
  | .row i sz off len => .row (renF r i) sz off len
  | .ad i p => .ad (renF r i) p
  | x => x
/-- The ids of a value are in the list of blocks. -/
def idsIn (bl : List (Nat × Blk)) : AV → Prop
  | .row i _ _ _ => getB i bl ≠ none
  | .ad i _ => getB i bl ≠ none
  | .tup _ => False
  | _ => True
def slotsW (r : List (Nat × Nat)) (sl : List (Nat × AV)) (bl' : List (Nat × Blk)) : List (Nat × AV) → Prop
  | [] => True
  | (t, x) :: l => (getA t sl = renA r x ∧ idsIn bl' x) ∧ slotsW r sl bl' l
def blksW (r : List (Nat × Nat)) (bl : List (Nat × Blk)) : List (Nat × Blk) → Prop
  | [] => True
  | (i, k) :: l => (getB (renF r i) bl = some k ∧ (i < 100 → renF r i = i) ∧ (100 ≤ i → 100 ≤ renF r i)) ∧ blksW r bl l
def parW (bl' : List (Nat × Blk)) : List (Nat × Blk) → Prop
  | [] => True
  | (i, k) :: l => (i < 100 → getB i bl' = some k) ∧ parW bl' l

theorem slotsW_get {r : List (Nat × Nat)} {sl : List (Nat × AV)} {bl' : List (Nat × Blk)} : ∀ {l : List (Nat × AV)}, slotsW r sl bl' l → ∀ t, getA t l = .undef ∨ (getA t sl = renA r (getA t l) ∧ idsIn bl' (getA t l))
  | [], _, t => .inl rfl
  | (u, x) :: l, h, t => by
    simp only [getA]
    split
    · rename_i e; subst e; exact .inr h.1
    · exact slotsW_get h.2 t
theorem blksW_get {r : List (Nat × Nat)} {bl : List (Nat × Blk)} : ∀ {l : List (Nat × Blk)}, blksW r bl l → ∀ i k, getB i l = some k → getB (renF r i) bl = some k ∧ (i < 100 → renF r i = i) ∧ (100 ≤ i → 100 ≤ renF r i)
  | [], _, i, k, h => by simp [getB] at h
  | (j, x) :: l, h, i, k, hk => by
    simp only [getB] at hk
    split at hk
    · rename_i e; subst e; cases hk; exact h.1
    · exact blksW_get h.2 i k hk
theorem parW_get {bl' : List (Nat × Blk)} : ∀ {l : List (Nat × Blk)}, parW bl' l → ∀ i k, i < 100 → getB i l = some k → getB i bl' = some k
  | [], _, i, k, _, h => by simp [getB] at h
  | (j, x) :: l, h, i, k, hi, hk => by
    simp only [getB] at hk
    split at hk
    · rename_i e; subst e; cases hk; exact h.1 hi
    · exact parW_get h.2 i k hi hk

theorem getB_mem {i : Nat} {k : Blk} : ∀ {l : List (Nat × Blk)}, getB i l = some k → i ∈ l.map (·.1)
  | [], h => by simp [getB] at h
  | (j, x) :: l, h => by
    simp only [getB] at h
    split at h
    · rename_i e; simp [e]
    · have := getB_mem h; simp at this ⊢; exact .inr this

theorem inj_of_nodup {f : Nat → Nat} : ∀ {l : List Nat}, (l.map f).Nodup → ∀ i j, i ∈ l → j ∈ l → f i = f j → i = j
  | [], _, i, j, hi, _, _ => by simp at hi
  | a :: l, h, i, j, hi, hj, e => by
    simp only [List.map_cons, List.nodup_cons, List.mem_map, not_exists, not_and] at h
    rcases List.mem_cons.1 hi with hi' | hi'
    · rcases List.mem_cons.1 hj with hj' | hj'
      · rw [hi', hj']
      · exact absurd (hi' ▸ e.symm) (h.1 j hj')
    · rcases List.mem_cons.1 hj with hj' | hj'
      · exact absurd (hj' ▸ e) (h.1 i hi')
      · exact inj_of_nodup h.2 i j hi' hj' e

theorem ren_rep {w : World} {im : Nat → Prop} {pl : Nat → Option Place} {r : List (Nat × Nat)} {v : Value} {x : AV} (hx : ∀ vs, x ≠ .tup vs) (h : RepA w im pl v (renA r x)) : RepA w im (fun i => pl (renF r i)) v x := by
  cases x with
  | row i sz off len =>
    cases h with
    | row0 => exact .row0 _ _ _ _
    | row hp h1 h2 => exact .row hp h1 h2
  | ad i p => cases h with | ad hp => exact .ad hp
  | tup vs => exact absurd rfl (hx vs)
  | undef => exact .undef _
  | lf l => cases h with | lf h => exact .lf h
  | ag ls => cases h with | ag h => exact .ag h
  | nils => cases h; exact .nils
  | pt sz n cs p => cases h with | pt h1 h2 h3 h4 => exact .pt h1 h2 h3 h4

/-- Forgetting and renaming. -/
theorem weak (r : List (Nat × Nat)) {s s' : Sx} (hn : (s'.bl.map fun x => renF r x.1).Nodup) (hb : blksW r s.bl s'.bl) (hp : parW s'.bl s.bl) (hs : slotsW r s.sl s'.bl s'.sl) : Weak s.st s'.st := by
  intro c a w ok ⟨im, pl, h⟩
  refine ⟨im, fun i => pl (renF r i), { fr := h.fr, nt := h.nt, df := h.df, im0 := h.im0, imlt := h.imlt, imold := h.imold, slots := fun t => ?_, wf := fun t => ?_, blks := fun i k hk => ?_, dist := fun i j k k' p p' hi hj h1 h2 h3 h4 h5 => ?_, par := fun i p hi => ?_ }⟩
  · rcases slotsW_get hs t with e | ⟨e, h2⟩
    · show RepA w im _ _ (getA t s'.sl); rw [e]; exact .undef _
    · have := h.slots t
      rw [show s.st.slots t = getA t s.sl from rfl, e] at this
      exact ren_rep (fun vs e' => by have e'' : getA t s'.sl = .tup vs := e'; rw [e''] at h2; exact h2) this
  · rcases slotsW_get hs t with e | ⟨e, h2⟩
    · show (getA t s'.sl).wf _; rw [e]; trivial
    · have := h.wf t
      rw [show s.st.slots t = getA t s.sl from rfl, e] at this
      show (getA t s'.sl).wf _
      generalize getA t s'.sl = x at this h2
      cases x with
      | row i sz off len =>
        obtain ⟨k, h3, h4, h5⟩ := this
        cases hk : getB i s'.bl with
        | none => exact absurd hk h2
        | some k' =>
          have := (blksW_get hb i k' hk).1
          rw [show s.st.blks (renF r i) = getB (renF r i) s.bl from rfl, this] at h3
          cases h3
          exact ⟨_, hk, h4, h5⟩
      | ad i p =>
        cases hk : getB i s'.bl with
        | none => exact absurd hk h2
        | some k' => exact ⟨_, hk⟩
      | tup vs => exact h2.elim
      | _ => trivial
  · obtain ⟨h1, h2, h3⟩ := blksW_get hb i k hk
    have hB := h.blks (renF r i) k h1
    by_cases hi : i < 100
    · rw [h2 hi] at hB ⊢; exact hB
    · have e1 : c.par i = none := by cases hq : c.par i with | none => rfl | some p => have := ok.parlt i p hq; omega
      have e2 : c.par (renF r i) = none := by cases hq : c.par (renF r i) with | none => rfl | some p => have := ok.parlt _ p hq; have := h3 (by omega); omega
      obtain ⟨g1, g2⟩ := hB
      refine ⟨g1, ?_⟩
      rcases g2 with g2 | g2 | ⟨q, cur, e, vs, q1, q2, q3, q4⟩
      · exact .inl g2
      · exact .inr (.inl g2)
      · refine .inr (.inr ⟨q, cur, e, vs, q1, q2, ?_, q4⟩)
        rw [e2] at q3
        exact q3.imp id (fun h => by cases h)
  · have hi1 := (blksW_get hb i k hi).1
    have hj1 := (blksW_get hb j k' hj).1
    have := h.dist _ _ k k' p p' hi1 hj1 h1 h2 h3 h4 h5
    have hn' : ((s'.bl.map (·.1)).map (renF r)).Nodup := by rw [List.map_map]; exact hn
    exact inj_of_nodup hn' i j (getB_mem hi) (getB_mem hj) this
  · obtain ⟨h1, k, h2, h3, h4⟩ := h.par i p hi
    have hlt := ok.parlt i p hi
    have hk := parW_get hp i k hlt h2
    have := (blksW_get hb i k hk).2.1 hlt
    exact ⟨by rw [this]; exact h1, k, hk, h3, h4⟩

/-! ### results -/

def retIs (bl : List (Nat × Blk)) : AV → RV → Prop
  | x, .ag ls => x = .ag ls
  | .row i sz' off len, .own sz n cs => sz' = sz ∧ len = n ∧ 100 ≤ i ∧ match getB i bl with
    | some k => k.st = 0 ∧ rowCells k off len = cs
    | none => False
  | .lf l', .lf l => l' = l
  | .row i _ off len, .lf (.sl sz n cs) => 100 ≤ i ∧ match getB i bl with
    | some k => k.st < 3 ∧ k.sz = sz ∧ len = n ∧ rowCells k off len = cs
    | none => False
  | _, _ => False

def retsIs (bl : List (Nat × Blk)) : List AV → List RV → Prop
  | [], [] => True
  | x :: xs, r :: rs => retIs bl x r ∧ retsIs bl xs rs
  | _, _ => False

def outIs (bl : List (Nat × Blk)) (res : Res) : Option (Nat × Nat) → Prop
  | none => res.out = []
  | some (i, m) => res.out.length = m ∧ match getB i bl with
    | some k => k.cs = res.out
    | none => False

/-- A result's variable, by lists. -/
def resX (T : Tab) (s : Sx) : ResultVar → Option AV
  | .tmp t => some (getA t s.sl)
  | .cell a t => match getA a s.sl with
    | .ad i p => match getB i s.bl, T.td t with
      | some k, some d => if k.st < 3 ∧ p + d.size ≤ k.n * k.sz then some (if d.agg then .ag (seg p d.size k.cs) else .lf (k.cs.getD p (d.zero.headD default))) else none
      | _, _ => none
    | _ => none
def ressX (T : Tab) (s : Sx) : List ResultVar → Option (List AV)
  | [] => some []
  | r :: rs => match resX T s r, ressX T s rs with
    | some x, some xs => some (x :: xs)
    | _, _ => none

def VRets (T : Tab) (rs : List ResultVar) (par : Option (Nat × Nat)) (res : Res) (s : Sx) : Prop :=
  match ressX T s rs with
  | some xs => retsIs s.bl xs res.vals ∧ (ownIds xs res.vals).Nodup ∧ (∀ i ∈ ownIds xs res.vals, i ∉ lentIds xs res.vals) ∧ outIs s.bl res par
  | none => False

section
variable {P : Program} {T : Tab}

theorem ressX_eq {s : Sx} : ∀ (rs : List ResultVar), rs.mapM (resVal T s.st) = ressX T s rs
  | [] => rfl
  | r :: rs => by
    have h1 : resVal T s.st r = resX T s r := by cases r <;> rfl
    simp only [List.mapM_cons, h1, ressX_eq rs, ressX, Option.bind_eq_bind, Option.pure_def]
    cases resX T s r with
    | none => rfl
    | some x => cases ressX T s rs <;> rfl

theorem retIs_ok {s : Sx} {x : AV} {r : RV} (h : retIs s.bl x r) : RetIs T s.st x r := by
  have hb : s.st.blks = fun i => getB i s.bl := rfl
  cases r with
  | ag ls => cases x <;> exact h
  | own sz n cs =>
    cases x with
    | row i sz' off len =>
      simp only [retIs] at h
      obtain ⟨rfl, rfl, h1, h2⟩ := h
      split at h2
      · rename_i k hk
        exact ⟨i, off, k, rfl, h1, hk, h2.1, h2.2⟩
      · exact h2.elim
    | _ => exact h.elim
  | lf l =>
    cases x with
    | lf l' => exact h
    | row i sz' off len =>
      cases l with
      | sl sz n cs =>
        simp only [retIs] at h
        obtain ⟨h1, h2⟩ := h
        split at h2
        · rename_i k hk
          exact ⟨h1, k, hk, h2.1, h2.2.1, h2.2.2.1, h2.2.2.2⟩
        · exact h2.elim
      | _ => exact h.elim
    | _ => exact h.elim

theorem retsIs_ok {s : Sx} : ∀ {xs : List AV} {rs : List RV}, retsIs s.bl xs rs → xs.length = rs.length ∧ ∀ p (h : p < xs.length) (h' : p < rs.length), RetIs T s.st xs[p] rs[p]
  | [], [], _ => ⟨rfl, fun p h => by simp at h⟩
  | x :: xs, r :: rs, h => by
    obtain ⟨h1, h2⟩ := retsIs_ok h.2
    refine ⟨by simp [h1], fun p hp hp' => ?_⟩
    cases p with
    | zero => exact retIs_ok h.1
    | succ p => exact h2 p (by simpa using hp) (by simpa using hp')
  | [], _ :: _, h => h.elim
  | _ :: _, [], h => h.elim

theorem VRets_ok {rs : List ResultVar} {par : Option (Nat × Nat)} {res : Res} {s : Sx} (h : VRets T rs par res s) : Rets T rs par res s.st := by
  unfold VRets at h
  split at h
  · rename_i xs hxs
    obtain ⟨h1, h2, h3, h4⟩ := h
    obtain ⟨h5, h6⟩ := retsIs_ok h1
    refine ⟨xs, by rw [ressX_eq]; exact hxs, h5, h6, h2, h3, ?_⟩
    cases par with
    | none => exact h4
    | some q =>
      obtain ⟨i, m⟩ := q
      simp only [outIs] at h4
      obtain ⟨h7, h8⟩ := h4
      split at h8
      · rename_i k hk; exact ⟨h7, k, hk, h8⟩
      · exact h8.elim
  · exact h.elim

def startX (args : List Arg) : Sx := ⟨numbered 0 (argAV 0 args), argB 0 args⟩

/-- What is asked at a function's end. -/
def VEnd (T : Tab) (rs : List ResultVar) (par : Option (Nat × Nat)) (res : Res) (e : Exit) (s : Sx) : Prop :=
  match e with
  | .ret => VRets T rs par res s
  | _ => False

/-- A function whose code is walked keeps its contract. -/
theorem ok_of_V (hT : TabOk P T) (hm : P.follows .mixedOrders = true) {f : Nat} {fn : Func} {code : Code} (hf : P.funcs[f]? = some fn) (hb : fn.body = some code) (hname : (fn.name == "runtime.NumGoroutine") = false)
    (hc : chk T fn.ntmps code = true) {args : List Arg} {res : Res} (hn : args.length ≤ fn.ntmps ∧ args.length ≤ 100 ∧ mts args ≤ 1)
    (h : V P T code (startX args) (VRets T fn.results.toList (mutAt 0 args) res) (VEnd T fn.results.toList (mutAt 0 args) res)) : Ok P f args res := by
  refine ok_of_pw hT hm hf hb hname hn.1 hn.2.1 hn.2.2 hc (pw_mono _ _ _ _ _ _ (fun s hs => ?_) (fun e s hs => ?_) (V_pw code (startX args) _ _ h))
  · obtain ⟨x, rfl, hx⟩ := hs; exact VRets_ok hx
  · obtain ⟨x, rfl, hx⟩ := hs
    cases e with
    | ret => exact VRets_ok hx
    | _ => exact hx.elim

theorem callMk {f : Nat} {as : List Arg} {fz : List Nat} {i q m : Nat} {dst : Option Nat} {s : Sx} {K : Sx → Prop} {res : Res} (h : Ok P f as res) (hk : match getB i s.bl with
    | some k => res.out.length = m ∧ freshL s.bl (mksOf dst 0 res.vals) ∧
      (if T.bo f then res.vals.all RV.flat = true ∧ res.out.all L.flat = true ∧ K ⟨putOA dst (resAV dst res.vals) s.sl, mkB (mksOf dst 0 res.vals) (setL i { k with cs := splice q res.out k.cs } s.bl)⟩
       else fz.all (100 ≤ ·) = true ∧ K ⟨putOA dst (resAV dst res.vals) s.sl, mkB (mksOf dst 0 res.vals) (setL i { k with cs := splice q res.out k.cs } (frzL fz s.bl))⟩)
    | none => False) : CallM P T f as fz i q m dst s K := by
  cases hb : getB i s.bl with
  | none => rw [hb] at hk; exact hk.elim
  | some k => rw [hb] at hk; exact ⟨res, k, hb, h, hk⟩

theorem Weak.trans {s s' s'' : St} (h : Weak s s') (h' : Weak s' s'') : Weak s s'' := fun c a w ok hs => h' c a w ok (h c a w ok hs)

/-- A slice of the call's own is only read from now on: it is what it holds. -/
theorem weak_lend (t : Nat) {i sz off len : Nat} {k : Blk} {s : Sx} (h : getA t s.sl = .row i sz off len) (hk : getB i s.bl = some k) (hst : k.st < 3) (h100 : 100 ≤ i) :
    Weak s.st (⟨putA t (.lf (.sl k.sz len (rowCells k off len))) s.sl, setL i { k with st := 2 } s.bl⟩ : Sx).st := by
  intro c a w ok ⟨im, pl, hs⟩
  obtain ⟨im', h1, h2, h3, h4⟩ := SimI.freeze ok [i] hs (fun j hj => by
    obtain rfl : j = i := by simpa using hj
    exact ⟨h100, k, hk, by omega⟩)
  have e : s.st.frz [i] = mkS s.sl (setL i { k with st := 2 } s.bl) := by
    show (mkS s.sl s.bl).frz [i] = _
    rw [mk_frz]
    simp only [frzL, hk]
  rw [e] at h1
  refine ⟨im', pl, { h1 with slots := fun u => ?_, wf := fun u => ?_ }⟩
  · show RepA w im' pl _ (getA u (putA t _ s.sl))
    rw [getA_put]
    split
    · rename_i e'; subst e'
      have hr := hs.slots u
      have hw := hs.wf u
      rw [show s.st.slots u = .row i sz off len from h] at hr hw
      obtain ⟨k', g1, g2, g3⟩ := hw
      rw [show s.st.blks i = some k from hk] at g1; cases g1
      exact .lf (row_rep (hs.blks i k hk) hst g2 g3 hr h2 (h3 i (by simp)))
    · exact h1.slots u
  · show (getA u (putA t _ s.sl)).wf _
    rw [getA_put]
    split
    · trivial
    · exact h1.wf u

end
end Go.Proofs.YtdhgdpcmdmgchaaGreat.Fw
