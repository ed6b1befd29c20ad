/- The framework's theorem: a function whose code is walked on abstract states keeps its contract. Conditions: none. -/
import Derived.Test.YtdhgdpcmdmgchaaGreatFwM
namespace Go.Proofs.YtdhgdpcmdmgchaaGreat.Fw
open Go
set_option linter.unusedSimpArgs false
set_option linter.unusedVariables false

/-- What is asked behind a piece of code. -/
def Post (c : Ctx) (N : St → Prop) (X : Exit → St → Prop) : Exit → Act → World → Prop
  | .normal, a, w => ∃ s, N s ∧ Sim c s a w
  | .exit id, a, w => ∃ s, X (.exit id) s ∧ Sim c s a w
  | .ret, a, w => ∃ s, X .ret s ∧ Sim c s a w
  | _, _, _ => False

section
variable {P : Program} {T : Tab} {c : Ctx}

theorem left_start (ops : Array Oper) : Left ops (Array.replicate ops.size false) (List.range ops.size) := by
  refine ⟨by simp, fun j hj => ?_, fun j hj => by simpa using hj, ?_, fun j o hj hl => ?_⟩
  · simp [hj]
  · exact List.pairwise_lt_range
  · have hlt := (Array.getElem?_eq_some_iff.1 hj).1
    simp [hlt] at hl

theorem Sim.drew {s : St} {a : Act} {w : World} (h : Sim c s a w) : Sim c s a { w with drawn := w.drawn + 1 } := by
  obtain ⟨im, pl, h⟩ := h
  exact ⟨im, pl, h.grow (Fr.drew w)⟩

/-- The walk is the machine's. -/
theorem pw_sound (hT : TabOk P T) (ok : CtxOk c) (hm : P.follows .mixedOrders = true) : ∀ (code : Code), chk T c.nt code = true → ∀ (s : St) (N : St → Prop) (X : Exit → St → Prop) (a : Act) (w : World), pw P T code s N X → Sim c s a w → code.wp P (Post c N X) a w := by
  intro code
  induction code with
  | skip => intro _ s N X a w h hs; exact wp_skip ⟨s, h, hs⟩
  | label l => intro _ s N X a w h hs; exact wp_label ⟨s, h, hs⟩
  | region id ops draw =>
    intro hc s N X a w h hs
    simp only [chk, Bool.and_eq_true, Bool.or_eq_true, Bool.not_eq_true'] at hc
    obtain ⟨hd, hc⟩ := hc
    simp only [pw] at h
    have hQ : ∀ s' a' w', N s' → Sim c s' a' w' → Post c N X .normal a' w' := fun s' a' w' h1 h2 => ⟨s', h1, h2⟩
    cases draw with
    | false => exact wp_region (apw_ops hT ok hd hQ _ s a w h hs)
    | true =>
      have hc := hc.resolve_left (by simp)
      exact wp_region_any hm (apm_any hT ok hd hc hQ _ _ _ s a _ (by simp) (left_start ops) h hs.drew)
  | seq x y ihx ihy =>
    intro hc s N X a w h hs
    simp only [chk, Bool.and_eq_true] at hc
    refine wp_seq (wp_mono (ihx hc.1 s _ X a w h hs) fun e a' w' hq => ?_)
    cases e with
    | normal => obtain ⟨s', h1, h2⟩ := hq; exact ihy hc.2 s' N X a' w' h1 h2
    | exit id => exact hq
    | goto l => exact hq
    | ret => exact hq
    | panic ch => exact hq
    | outgrown => exact hq
  | cond cd x y ihx ihy =>
    intro hc s N X a w h hs
    simp only [chk, Bool.and_eq_true] at hc
    obtain ⟨b, hb, N', h1, h2, h3⟩ := h
    obtain ⟨im, pl, hs'⟩ := id hs
    have hev := hs'.op cd
    rw [hb] at hev
    refine wp_cond (rep_bool hev) ?_
    have hpost : ∀ e a' w', Post c N' X e a' w' → Post c N X e a' w' := fun e a' w' hq => by
      cases e with
      | normal =>
        obtain ⟨s', g1, g2⟩ := hq
        obtain ⟨s'', g3, g4⟩ := h3 s' g1
        exact ⟨s'', g4, g3 c a' w' ok g2⟩
      | exit id => exact hq
      | ret => exact hq
      | goto l => exact hq
      | panic ch => exact hq
      | outgrown => exact hq
    cases b with
    | true => exact wp_mono (ihx hc.1 s N' X a w (h1 rfl) hs) hpost
    | false => exact wp_mono (ihy hc.2 s N' X a w (h2 rfl) hs) hpost
  | block id x ih =>
    intro hc s N X a w h hs
    refine wp_block (wp_mono (ih hc s N _ a w h hs) fun e a' w' hq => ?_)
    cases e with
    | normal => exact hq
    | exit id' =>
      obtain ⟨s', h1, h2⟩ := hq
      show (if id' = id then Post c N X .normal a' w' else Post c N X (.exit id') a' w')
      simp only at h1
      split at h1
      · rename_i e; rw [if_pos e]; exact ⟨s', h1, h2⟩
      · rename_i e; rw [if_neg e]; exact ⟨s', h1, h2⟩
    | goto l => exact hq
    | ret => exact hq
    | panic ch => exact hq
    | outgrown => exact hq
  | loop x ih =>
    intro hc s N X a w h hs
    obtain ⟨α, st, J, μ, ⟨x0, h1, h2⟩, hround⟩ := h
    refine wp_loop_ghost (fun n a w => ∃ y, μ y = n ∧ J y ∧ Sim c (st y) a w) (μ x0) ⟨x0, rfl, h2, h1 c a w ok hs⟩ ?_
    rintro n a w ⟨y, rfl, hJ, hsim⟩
    refine wp_mono (ih hc (st y) _ X a w (hround y hJ) hsim) fun e a' w' hq => ?_
    cases e with
    | normal => obtain ⟨s', ⟨y', g1, g2, g3⟩, hs'⟩ := hq; exact ⟨μ y', g3, y', rfl, g2, g1 c a' w' ok hs'⟩
    | exit id => exact hq
    | goto l => exact hq
    | ret => exact hq
    | panic ch => exact hq
    | outgrown => exact hq
  | exit id => intro _ s N X a w h hs; exact wp_exit ⟨s, h, hs⟩
  | ret => intro _ s N X a w h hs; exact wp_ret ⟨s, h, hs⟩
  | rangeFunc f ps as b => intro _ s N X a w h hs; exact h.elim
  | scope b => intro _ s N X a w h hs; exact h.elim
  | goto l => intro _ s N X a w h hs; exact h.elim
  | refuse why => intro _ s N X a w h hs; exact h.elim

end

/-! ### a function's results -/

/-- What a result's variable holds. -/
def resVal (T : Tab) (s : St) : ResultVar → Option AV
  | .tmp t => some (s.slots t)
  | .cell a t => match s.slots a with
    | .ad i p => match s.blks i, T.td t with
      | some k, some d => if k.st < 3 ∧ p + d.size ≤ k.n * k.sz then some (if d.agg then .ag (seg p d.size k.cs) else .lf (k.cs.getD p (d.zero.headD default))) else none
      | _, _ => none
    | _ => none

/-- A slot's value as a result. -/
def RetIs (T : Tab) (s : St) (x : AV) : RV → Prop
  | .ag ls => x = .ag ls
  | .own sz n cs => ∃ i off k, x = .row i sz off n ∧ 100 ≤ i ∧ s.blks i = some k ∧ k.st = 0 ∧ rowCells k off n = cs
  | .lf l => match x, l with
    | .lf l', l => l' = l
    | .row i _ off len, .sl sz n cs => 100 ≤ i ∧ ∃ k, s.blks i = some k ∧ k.st < 3 ∧ k.sz = sz ∧ len = n ∧ rowCells k off len = cs
    | _, _ => False

/-- The blocks that results own are theirs alone. -/
def ownIds : List AV → List RV → List Nat
  | .row i _ _ _ :: xs, .own _ _ _ :: rs => i :: ownIds xs rs
  | _ :: xs, _ :: rs => ownIds xs rs
  | _, _ => []
def lentIds : List AV → List RV → List Nat
  | .row i _ _ _ :: xs, .lf _ :: rs => i :: lentIds xs rs
  | _ :: xs, _ :: rs => lentIds xs rs
  | _, _ => []

/-- The results of a function that has come to its end in state s. -/
def Rets (T : Tab) (rs : List ResultVar) (par : Option (Nat × Nat)) (res : Res) (s : St) : Prop :=
  ∃ xs, rs.mapM (resVal T s) = some xs ∧ List.length xs = res.vals.length ∧ (∀ p (h : p < xs.length) (h' : p < res.vals.length), RetIs T s xs[p] res.vals[p]) ∧
    (ownIds xs res.vals).Nodup ∧ (∀ i ∈ ownIds xs res.vals, i ∉ lentIds xs res.vals) ∧
    match par with
    | none => res.out = []
    | some (i, m) => res.out.length = m ∧ ∃ k, s.blks i = some k ∧ k.cs = res.out

def argAV : Nat → List Arg → List AV
  | _, [] => []
  | j, .lf l :: as => .lf l :: argAV (j + 1) as
  | j, .ag ls :: as => .ag ls :: argAV (j + 1) as
  | j, .mt sz n _ :: as => .row j sz 0 n :: argAV (j + 1) as
def argB : Nat → List Arg → List (Nat × Blk)
  | _, [] => []
  | j, .mt sz n cs :: as => (j, ⟨sz, n, cs, 1⟩) :: argB (j + 1) as
  | j, _ :: as => argB (j + 1) as
def mutAt : Nat → List Arg → Option (Nat × Nat)
  | _, [] => none
  | j, .mt sz n _ :: _ => some (j, n * sz)
  | j, _ :: as => mutAt (j + 1) as

/-- Assoc lists as states. -/
def getA (t : Nat) : List (Nat × AV) → AV
  | [] => .undef
  | (u, x) :: l => if t = u then x else getA t l
def getB (i : Nat) : List (Nat × Blk) → Option Blk
  | [] => none
  | (j, k) :: l => if i = j then some k else getB i l
def mkS (sl : List (Nat × AV)) (bl : List (Nat × Blk)) : St := ⟨fun t => getA t sl, fun i => getB i bl⟩

def numbered : Nat → List AV → List (Nat × AV)
  | _, [] => []
  | j, x :: xs => (j, x) :: numbered (j + 1) xs

def start (args : List Arg) : St := mkS (numbered 0 (argAV 0 args)) (argB 0 args)

/-! ### the start of a call -/

structure StartOk (w : World) (im : Nat → Prop) (j : Nat) (vs : List Value) (args : List Arg) (segs : List (Nat × Nat × Nat)) (par : Nat → Option Place) : Prop where
  dom : ∀ i p, par i = some p → j ≤ i ∧ i < j + args.length
  len : vs.length = args.length
  slots : ∀ t, RepA w im par (vs.getD t undef) ((argAV j args).getD t .undef)
  wf : ∀ t, ((argAV j args).getD t .undef).wf (fun i => getB i (argB j args))
  blks : ∀ i k, getB i (argB j args) = some k → k.st = 1 ∧ RepB w.heap.size par w im i (par i) k
  uniq : ∀ i i' p p', par i = some p → par i' = some p' → i = i'
  par : ∀ i p, par i = some p → ∃ k, getB i (argB j args) = some k ∧ (p.b, p.o, p.o + k.cs.length) ∈ segs
  segs : segs = [] ∨ ∃ g cur e, segs = [g] ∧ w.heap[g.1]? = some (.cells cur e (0, 0))

theorem argB_low : ∀ {args : List Arg} {j i : Nat}, i < j → getB i (argB j args) = none
  | [], _, _, _ => rfl
  | .lf _ :: as, j, i, h => argB_low (args := as) (by omega)
  | .ag _ :: as, j, i, h => argB_low (args := as) (by omega)
  | .mt sz n cs :: as, j, i, h => by simp only [argB, getB]; rw [if_neg (by omega)]; exact argB_low (args := as) (by omega)

section
variable {w : World} {im : Nat → Prop}

/-- At most one argument is handed in to be written. -/
def mts : List Arg → Nat
  | [] => 0
  | .mt _ _ _ :: as => mts as + 1
  | _ :: as => mts as

/-- Where the argument to be written lies. -/
def ParOk (segs : List (Nat × Nat × Nat)) (par : Nat → Option Place) : Option (Nat × Nat) → Prop
  | none => segs = []
  | some (i, m) => i < 100 ∧ ((segs = [] ∧ m = 0) ∨ ∃ p, par i = some p ∧ segs = [(p.b, p.o, p.o + m)])

theorem mutAt_none : ∀ {args : List Arg} {j : Nat}, mts args = 0 → mutAt j args = none
  | [], _, _ => rfl
  | .lf _ :: as, j, h => mutAt_none (args := as) h
  | .ag _ :: as, j, h => mutAt_none (args := as) h
  | .mt sz n cs :: as, j, h => by simp [mts] at h

theorem start_ok : ∀ {vs : List Value} {args : List Arg} {segs : List (Nat × Nat × Nat)}, RepArgs w im vs args segs → ∀ j, mts args ≤ 1 → j + args.length ≤ 100 → ∃ par, StartOk w im j vs args segs par ∧ ParOk segs par (mutAt j args) := by
  intro vs args segs h
  induction h with
  | nil =>
    intro j _ _
    exact ⟨fun _ => none, ⟨by simp, rfl, fun t => by simp [argAV]; exact .undef _, fun t => by simp [argAV, AV.wf], fun i k hk => by simp [argB, getB] at hk, by simp, by simp, .inl rfl⟩, rfl⟩
  | pure h h' ih =>
    rename_i v x vs xs segs
    intro j h1 h100
    obtain ⟨par, hp, hm⟩ := ih (j + 1) (by cases x <;> simp [mts] at h1 ⊢ <;> omega) (by simp at h100 ⊢; omega)
    cases x with
    | lf l =>
      obtain ⟨_, hr⟩ := h
      refine ⟨par, ⟨fun i p hi => by have := hp.dom i p hi; simp; omega, by simp [hp.len], fun t => ?_, fun t => ?_, hp.blks, hp.uniq, hp.par, hp.segs⟩, hm⟩
      · cases t with
        | zero => exact .lf hr
        | succ t => simpa [argAV] using hp.slots t
      · cases t with
        | zero => trivial
        | succ t => simpa [argAV, argB] using hp.wf t
    | ag ls =>
      obtain ⟨_, cs, rfl, hr⟩ := h
      refine ⟨par, ⟨fun i p hi => by have := hp.dom i p hi; simp; omega, by simp [hp.len], fun t => ?_, fun t => ?_, hp.blks, hp.uniq, hp.par, hp.segs⟩, hm⟩
      · cases t with
        | zero => exact .ag hr
        | succ t => simpa [argAV] using hp.slots t
      · cases t with
        | zero => trivial
        | succ t => simpa [argAV, argB] using hp.wf t
    | mt sz n cs =>
      rcases h with ⟨_, rfl, rfl, A, rfl⟩ | ⟨b, lo, cp, cur, e, us, h1, _⟩
      · have hj : par j = none := by
          cases hq : par j with
          | none => rfl
          | some p => have := hp.dom j p hq; omega
        have hext : ∀ i k, getB i (argB (j + 1) xs) = some k → getB i (argB j (.mt sz 0 [] :: xs)) = some k := by
          intro i k hk
          simp only [argB, getB]
          rw [if_neg]; exact hk
          rintro rfl; rw [argB_low (by omega)] at hk; cases hk
        refine ⟨par, ⟨fun i p hi => by have := hp.dom i p hi; simp; omega, by simp [hp.len], fun t => ?_, fun t => ?_, fun i k hk => ?_, hp.uniq, fun i p hi => ?_, hp.segs⟩, (by
          rw [mutAt_none (by simp [mts] at h1; omega)] at hm
          exact ⟨by simp at h100; omega, .inl ⟨hm, by simp⟩⟩)⟩
        · cases t with
          | zero => exact .row0 _ _ _ _
          | succ t => simpa [argAV] using hp.slots t
        · cases t with
          | zero => exact ⟨⟨sz, 0, [], 1⟩, by simp [argB, getB], rfl, by simp⟩
          | succ t =>
            have := hp.wf t
            exact AV.wf_mono (fun i k hk => ⟨k, hext i k hk, rfl, rfl⟩) this
        · simp only [argB, getB] at hk
          split at hk
          · rename_i e; subst e; cases hk
            exact ⟨rfl, by simp, .inr (.inl ⟨hj, rfl⟩)⟩
          · exact hp.blks i k hk
        · obtain ⟨k, h1, h2⟩ := hp.par i p hi
          exact ⟨k, hext i k h1, h2⟩
      · simp at h1
  | wr h h' ih =>
    rename_i v x vs xs g
    intro j h1 h100
    obtain ⟨par, hp, hm⟩ := ih (j + 1) (by cases x <;> simp [mts] at h1 ⊢ <;> omega) (by simp at h100 ⊢; omega)
    have hnone : ∀ i, par i = none := by
      intro i
      cases hq : par i with
      | none => rfl
      | some p => obtain ⟨k, _, h2⟩ := hp.par i p hq; simp at h2
    cases x with
    | lf l => obtain ⟨h1, _⟩ := h; simp at h1
    | ag ls => obtain ⟨h1, _⟩ := h; simp at h1
    | mt sz n cs =>
      rcases h with ⟨h1, _⟩ | ⟨b, lo, cp, cur, e, us, h1, rfl, h3, h4, h5, h6, h7, h8, h9⟩
      · simp at h1
      · simp at h1; subst h1
        have hext : ∀ i k, getB i (argB (j + 1) xs) = some k → getB i (argB j (.mt sz n cs :: xs)) = some k := by
          intro i k hk
          simp only [argB, getB]
          rw [if_neg]; exact hk
          rintro rfl; rw [argB_low (by omega)] at hk; cases hk
        refine ⟨fun i => if i = j then some ⟨b, lo, cp⟩ else none, ⟨fun i p hi => ?_, by simp [hp.len], fun t => ?_, fun t => ?_, fun i k hk => ?_, fun i i' p p' h1 h2 => ?_, fun i p hi => ?_, .inr ⟨_, cur, e, rfl, h4⟩⟩, ⟨by simp at h100; omega, .inr ⟨⟨b, lo, cp⟩, by simp, rfl⟩⟩⟩
        · have hi : (if i = j then some (⟨b, lo, cp⟩ : Place) else none) = some p := hi
          split at hi
          · simp; omega
          · cases hi
        · cases t with
          | zero =>
            have := RepA.row (w := w) (im := im) (pl := fun i => if i = j then some ⟨b, lo, cp⟩ else none) (i := j) (sz := sz) (off := 0) (len := n) (c := cp) (p := ⟨b, lo, cp⟩) (if_pos rfl) (by simp) h3
            simpa [argAV] using this
          | succ t =>
            have := hp.slots t
            have : RepA w im (fun i => if i = j then some ⟨b, lo, cp⟩ else none) (vs.getD t undef) ((argAV (j + 1) xs).getD t .undef) := this.mono (fun _ h => h) (fun _ _ => rfl) (fun i p hi => by rw [hnone] at hi; cases hi)
            simpa [argAV] using this
        · cases t with
          | zero => exact ⟨⟨sz, n, cs, 1⟩, by simp [argB, getB], rfl, by simp⟩
          | succ t => exact AV.wf_mono (fun i k hk => ⟨k, hext i k hk, rfl, rfl⟩) (hp.wf t)
        · simp only [argB, getB] at hk
          split at hk
          · rename_i e'; subst e'; cases hk
            refine ⟨rfl, h9, .inr (.inr ⟨⟨b, lo, cp⟩, cur, e, us, by simp, h4, .inr (by simp), h3, h6, h7, h8, by simp, fun _ => h5, by simp⟩)⟩
          · rename_i hne
            obtain ⟨k1, k2, k3⟩ := hp.blks i k hk
            refine ⟨k1, k2, ?_⟩
            simp only [if_neg hne]
            rcases k3 with k3 | k3 | ⟨q, cur', e', vs', q1, _⟩
            · exact .inl k3
            · exact .inr (.inl ⟨trivial, k3.2⟩)
            · rw [hnone] at q1; cases q1
        · have h1 : (if i = j then some (⟨b, lo, cp⟩ : Place) else none) = some p := h1
          have h2 : (if i' = j then some (⟨b, lo, cp⟩ : Place) else none) = some p' := h2
          split at h1
          · split at h2
            · omega
            · cases h2
          · cases h1
        · have hi : (if i = j then some (⟨b, lo, cp⟩ : Place) else none) = some p := hi
          by_cases hij : i = j
          · rw [if_pos hij] at hi
            cases hi
            exact ⟨⟨sz, n, cs, 1⟩, by simp [argB, getB, hij], by simp [h9]⟩
          · rw [if_neg hij] at hi; cases hi

theorem getA_numbered : ∀ (xs : List AV) (j t : Nat), getA t (numbered j xs) = if t < j then .undef else xs.getD (t - j) .undef
  | [], j, t => by simp [numbered, getA]
  | x :: xs, j, t => by
    simp only [numbered, getA, getA_numbered xs (j + 1) t]
    by_cases h1 : t = j
    · subst h1; simp
    · rw [if_neg h1]
      by_cases h2 : t < j
      · simp [h2, show t < j + 1 by omega]
      · rw [if_neg (by omega), if_neg h2, show t - j = (t - (j + 1)) + 1 by omega]; simp
end

section
variable {P : Program} {T : Tab}

/-- The call's first state. -/
theorem sim_start {w : World} {im : Nat → Prop} {vs : List Value} {args : List Arg} {segs : List (Nat × Nat × Nat)} {par : Nat → Option Place} {nt : Nat} (himlt : ∀ b, im b → b < w.heap.size) (h : StartOk w im 0 vs args segs par) (hn : args.length ≤ nt) :
    SimI { w0 := w, im0 := im, par, segs, nt } im par (start args) { tmps := vs.toArray ++ Array.replicate (nt - vs.toArray.size) undef, defers := [] } w := by
  have hgA : ∀ t, getA t (numbered 0 (argAV 0 args)) = (argAV 0 args).getD t .undef := fun t => by rw [getA_numbered]; simp
  refine { fr := Fr.refl fun g hg => ?_, nt := ?_, df := rfl, im0 := fun _ h => h, imlt := himlt, imold := fun _ h => .inl h, slots := fun t => ?_, wf := fun t => ?_, blks := fun i k hk => (h.blks i k hk).2, dist := fun i j k k' p p' hi hj _ _ hp hp' _ => h.uniq i j p p' hp hp', par := fun i p hi => ?_ }
  · rcases h.segs with hs | ⟨g', cur, e, hs, hc⟩
    · simp only at hg; rw [hs] at hg; simp at hg
    · simp only at hg; rw [hs] at hg; obtain rfl := List.mem_singleton.1 hg; exact ⟨cur, e, hc⟩
  · simp [h.len]; omega
  · show RepA w im par _ (getA t (numbered 0 (argAV 0 args)))
    rw [hgA]
    have := h.slots t
    have hval : ((vs.toArray ++ Array.replicate (nt - vs.toArray.size) undef).getD t undef) = vs.getD t undef := by
      rw [Array.getD_eq_getD_getElem?, List.getD_eq_getElem?_getD, Array.getElem?_append]
      split
      · simp
      · rename_i hge
        simp at hge
        rw [List.getElem?_eq_none hge]
        simp only [Array.getElem?_replicate]
        split <;> rfl
    rw [hval]; exact this
  · show (getA t (numbered 0 (argAV 0 args))).wf _
    rw [hgA]; exact h.wf t
  · obtain ⟨k, h1, h2⟩ := h.par i p hi
    exact ⟨hi, k, h1, (h.blks i k h1).1, h2⟩

end
end Go.Proofs.YtdhgdpcmdmgchaaGreat.Fw
