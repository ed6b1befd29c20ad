/- The framework's contracts: what a call of a function does, and how a caller takes it. Conditions: none. -/
import Derived.Test.YtdhgdpcmdmgchaaGreatFwH
namespace Go.Proofs.YtdhgdpcmdmgchaaGreat.Fw
open Go
set_option linter.unusedSimpArgs false
set_option linter.unusedVariables false

section
variable {P : Program} {T : Tab} {c : Ctx} {im im' : Nat → Prop} {pl : Nat → Option Place} {s : St} {a : Act} {w : World}

/-- Each step is the machine's. -/
theorem step_done (hT : TabOk P T) (ok : CtxOk c) (h : SimI c im pl s a w) {o : Oper} {out : Out} (hs : step T (evO s.slots) s.blks o = some out) (hp : out.pre)
    (hf : out.frz.all (100 ≤ ·) = true) (hm : out.mak ≠ none → s.blks (idOf o.dst 0) = none) (hd : ∀ t, o.dst = some t → t < c.nt) : Done P c o a w (s.out o.dst out) := by
  cases hop : o.op with
  | move x => exact done_move ok h (.inl hop) hs hp hm hd
  | assign x => exact done_move ok h (.inr hop) hs hp hm hd
  | pick b x y => exact done_pick h hop hs hd
  | alloc t => exact done_alloc hT ok h hop hs hm hd
  | box t x => exact done_box hT ok h hop hs hp hf hm hd
  | build t ps => exact done_build hT ok h hop hs hp hf hd
  | buildSlice t n ps => exact done_buildSlice hT ok h hop hs hp hf hm hd
  | load t x => exact done_load hT h hop hs hp hd
  | store t x y => exact done_store hT ok h hop hs hp hf hd
  | fieldAddr t x f => exact done_fieldAddr hT h hop hs hd
  | field t x f => exact done_field hT h hop hs hp hd
  | indexAddr t x ix => exact done_indexAddr hT h hop hs hp hd
  | slice t x lo hi mx => exact done_slice hT h hop hs hp hd
  | makeSlice t n cp => exact done_makeSlice hT ok h hop hs hp hm hd
  | binOp op xt x y yt => exact done_binOp hT h hop hs hp hd
  | unOp op t x => exact done_unOp h hop hs hd
  | convert t u x => exact done_convert hT h hop hs hd
  | extract x i => exact done_extract h hop hs hd
  | call cl =>
    obtain ⟨callee, args, argTypes⟩ := cl
    cases callee with
    | builtin b =>
      cases b with
      | len => exact done_len hT h hop hs hd
      | max => exact done_max h hop hs hd
      | min => exact done_min h hop hs hd
      | append => exact done_append hT ok h hop hs hp hm hd
      | _ => simp [step, hop] at hs
    | _ => simp [step, hop] at hs
  | _ => simp [step, hop] at hs

end

/-! ### contracts -/

inductive Arg where
  | lf (l : L)
  | ag (ls : List L)
  | mt (sz n : Nat) (cs : List L)

inductive RV where
  | lf (l : L)
  | ag (ls : List L)
  | own (sz n : Nat) (cs : List L)

structure Res where
  vals : List RV
  out : List L := []

def RepArg (w : World) (im : Nat → Prop) (v : Value) : Arg → List (Nat × Nat × Nat) → Prop
  | .lf l, segs => segs = [] ∧ RepL w im v l
  | .ag ls, segs => segs = [] ∧ ∃ cs : List Value, v = .agg cs.toArray ∧ RepLs w im cs ls
  | .mt sz n cs, segs => (segs = [] ∧ n = 0 ∧ cs = [] ∧ ∃ A, v = .slice A 0 0) ∨ ∃ b lo cp cur e vs, segs = [(b, lo, lo + n * sz)] ∧ v = .slice (some ⟨b, lo, none⟩) n cp ∧ n ≤ cp ∧ w.heap[b]? = some (.cells cur e (0, 0)) ∧ ¬ im b ∧ lo + cp * sz ≤ cur.size ∧
      (∀ (j : Nat) u, vs[j]? = some u → cur[lo + j]? = some u) ∧ RepLs w im vs cs ∧ cs.length = n * sz

/-- Arguments, of which one at most is handed in to be written. -/
inductive RepArgs (w : World) (im : Nat → Prop) : List Value → List Arg → List (Nat × Nat × Nat) → Prop where
  | nil : RepArgs w im [] [] []
  | pure {v x vs xs segs} (h : RepArg w im v x []) (h' : RepArgs w im vs xs segs) : RepArgs w im (v :: vs) (x :: xs) segs
  | wr {v x vs xs g} (h : RepArg w im v x [g]) (h' : RepArgs w im vs xs []) : RepArgs w im (v :: vs) (x :: xs) [g]

def RepRVs (w w' : World) (im : Nat → Prop) : List Nat → List Value → List RV → Prop
  | _, [], [] => True
  | used, v :: vs, .lf l :: rs => RepL w' im v l ∧ RepRVs w w' im used vs rs
  | used, v :: vs, .ag ls :: rs => (∃ cs : List Value, v = .agg cs.toArray ∧ RepLs w' im cs ls) ∧ RepRVs w w' im used vs rs
  | used, v :: vs, .own sz n cs :: rs =>
    (((∃ A, v = .slice A 0 0) ∧ n = 0 ∧ cs = []) ∧ RepRVs w w' im used vs rs) ∨
    ∃ b lo cp cur e us, (v = .slice (some ⟨b, lo, none⟩) n cp ∧ n ≤ cp ∧ w.heap.size ≤ b ∧ ¬ im b ∧ b ∉ used ∧ w'.heap[b]? = some (.cells cur e (0, 0)) ∧ lo + cp * sz ≤ cur.size ∧
      (∀ (j : Nat) u, us[j]? = some u → cur[lo + j]? = some u) ∧ RepLs w' im us cs ∧ cs.length = n * sz) ∧ RepRVs w w' im (b :: used) vs rs
  | _, _, _ => False

def RepRet (w w' : World) (im : Nat → Prop) (v : Value) (rs : List RV) : Prop :=
  match rs with
  | [r] => RepRVs w w' im [] [v] [r]
  | rs => ∃ vs, v = .tuple vs.toArray ∧ RepRVs w w' im [] vs rs

def RepOut (w' : World) (im : Nat → Prop) (segs : List (Nat × Nat × Nat)) (cs : List L) : Prop :=
  match segs with
  | [] => cs = []
  | (b, lo, hi) :: _ => ∃ cur e vs, w'.heap[b]? = some (.cells cur e (0, 0)) ∧ (∀ (j : Nat) u, vs[j]? = some u → cur[lo + j]? = some u) ∧ RepLs w' im vs cs ∧ lo + cs.length = hi

def Ends (w : World) (im : Nat → Prop) (segs : List (Nat × Nat × Nat)) (res : Res) (e : Ending) (w' : World) : Prop :=
  ∃ v im', e = .returned v ∧ Fr segs w w' ∧ (∀ b, im b → im' b) ∧ (∀ b, im' b → im b ∨ w.heap.size ≤ b) ∧ (∀ b, im' b → b < w'.heap.size) ∧ RepRet w w' im' v res.vals ∧ RepOut w' im' segs res.out

def Callable (P : Program) (f : Nat) : Prop := ∃ fn, P.funcs[f]? = some fn ∧ fn.body.isSome = true ∧ (fn.name == "runtime.NumGoroutine") = false

/-- Called with these arguments, f returns these results, and turns nothing else of what was there. -/
def Ok (P : Program) (f : Nat) (args : List Arg) (res : Res) : Prop :=
  Callable P f ∧ ∀ (w : World) (im : Nat → Prop) (vs : List Value) (segs : List (Nat × Nat × Nat)), (∀ b, im b → b < w.heap.size) → RepArgs w im vs args segs →
    Calls P f vs.toArray w (Ends w im segs res)

/-! ### the caller's side -/

def argOf (T : Tab) (rd : Nat → Option Blk) (ty : Nat) : AV → Option (Arg × List Nat)
  | .ag ls => some (.ag ls, [])
  | x => match cellsOf T rd ty x with
    | some ([l], fz) => some (.lf l, fz)
    | _ => none

/-- The arguments of a call; the blocks that are only read from now on. -/
def argsOf (T : Tab) (rd : Nat → Option Blk) (ρ : Operand → AV) : List (Operand × Nat) → Option (List Arg × List Nat)
  | [] => some ([], [])
  | (x, ty) :: r => match argOf T rd ty (ρ x) with
    | some (y, f) => match argsOf T rd ρ r with
      | some (as, fz) => some (y :: as, f ++ fz)
      | none => none
    | none => none

/-- The same where one argument is handed in to be written: its block, where in it, and how many cells. -/
def argsMut (T : Tab) (rd : Nat → Option Blk) (ρ : Operand → AV) : Nat → List (Operand × Nat) → Option (List Arg × List Nat × Nat × Nat × Nat)
  | _, [] => none
  | 0, (x, _) :: r => match ρ x with
    | .row i sz off len => match rd i with
      | some k => match argsOf T rd ρ r with
        | some (as, fz) => if k.st < 2 ∧ k.sz = sz ∧ fz.contains i = false then some (.mt sz len (rowCells k off len) :: as, fz, i, off * sz, len * sz) else none
        | none => none
      | none => none
    | _ => none
  | n + 1, (x, ty) :: r => match argOf T rd ty (ρ x) with
    | some (y, f) => match argsMut T rd ρ n r with
      | some (as, fz, i, q, m) => if f.contains i = false then some (y :: as, f ++ fz, i, q, m) else none
      | none => none
    | none => none

/-- The results as slots' values, and the blocks that come with them. -/
def avOf (d : Option Nat) : Nat → List RV → List AV
  | _, [] => []
  | j, .lf l :: rs => .lf l :: avOf d (j + 1) rs
  | j, .ag ls :: rs => .ag ls :: avOf d (j + 1) rs
  | j, .own sz n _ :: rs => .row (idOf d j) sz 0 n :: avOf d (j + 1) rs
def St.addRV (s : St) (d : Option Nat) : Nat → List RV → St
  | _, [] => s
  | j, .own sz n cs :: rs => (s.setB (idOf d j) ⟨sz, n, cs, 0⟩).addRV d (j + 1) rs
  | j, _ :: rs => s.addRV d (j + 1) rs
def mksOf (d : Option Nat) : Nat → List RV → List (Nat × Blk)
  | _, [] => []
  | j, .own sz n cs :: rs => (idOf d j, ⟨sz, n, cs, 0⟩) :: mksOf d (j + 1) rs
  | j, _ :: rs => mksOf d (j + 1) rs
theorem mksOf_ids {d : Option Nat} : ∀ {rs : List RV} {j : Nat} {x : Nat × Blk}, x ∈ mksOf d j rs → ∃ k, j ≤ k ∧ x.1 = idOf d k
  | [], _, _, h => by simp [mksOf] at h
  | .lf _ :: rs, j, x, h => let ⟨k, h1, h2⟩ := mksOf_ids (rs := rs) (j := j + 1) h; ⟨k, by omega, h2⟩
  | .ag _ :: rs, j, x, h => let ⟨k, h1, h2⟩ := mksOf_ids (rs := rs) (j := j + 1) h; ⟨k, by omega, h2⟩
  | .own sz n cs :: rs, j, x, h => by
    rcases List.mem_cons.1 h with rfl | h
    · exact ⟨j, Nat.le_refl _, rfl⟩
    · obtain ⟨k, h1, h2⟩ := mksOf_ids (rs := rs) (j := j + 1) h
      exact ⟨k, by omega, h2⟩
def resAV (d : Option Nat) (rs : List RV) : AV :=
  match rs with
  | [_] => (avOf d 0 rs).headD .undef
  | _ => .tup (avOf d 0 rs)
def L.flat : L → Bool
  | .sl _ _ _ => false
  | _ => true
def RV.flat : RV → Bool
  | .lf l => l.flat
  | .ag ls => ls.all L.flat
  | .own _ _ _ => false

section
variable {P : Program} {T : Tab} {c : Ctx} {im im' : Nat → Prop} {pl : Nat → Option Place} {s : St} {a : Act} {w : World}

theorem arg_rep (h : SimI c im pl s a w) {ty : Nat} {x : AV} {v : Value} {y : Arg} {fz : List Nat} (hx : RepA w im pl v x) (hwf : x.wf s.blks) (hc : argOf T s.blks ty x = some (y, fz)) :
    (∀ i ∈ fz, ∃ k, s.blks i = some k ∧ k.st ≠ 3) ∧ ∀ {im' : Nat → Prop}, (∀ b, im b → im' b) → (∀ i ∈ fz, ∀ p, pl i = some p → im' p.b) → RepArg w im' v y [] := by
  have lift : ∀ {l}, cellsOf T s.blks ty x = some ([l], fz) → y = .lf l → (∀ cs, v ≠ .agg cs) → (∀ i ∈ fz, ∃ k, s.blks i = some k ∧ k.st ≠ 3) ∧ ∀ {im' : Nat → Prop}, (∀ b, im b → im' b) → (∀ i ∈ fz, ∀ p, pl i = some p → im' p.b) → RepArg w im' v y [] := by
    intro l hl hy hv
    refine ⟨(cells_rep (im' := fun _ => True) h hx hwf hl (fun _ _ => trivial) (fun _ _ _ _ => trivial)).2, fun {im'} hi hp => ?_⟩
    subst hy
    have := (cells_rep h hx hwf hl hi hp).1
    refine ⟨rfl, ?_⟩
    obtain ⟨u, h1, h2⟩ := this.2 0 (by simp)
    have hvc : v.cells = #[v] := by cases v <;> first | rfl | exact absurd rfl (hv _)
    rw [hvc] at h1
    simp at h1
    subst h1; exact h2
  cases hx with
  | ag hr =>
    simp [argOf] at hc
    obtain ⟨rfl, rfl⟩ := hc
    exact ⟨by simp, fun hi _ => ⟨rfl, _, rfl, hr.mono hi (fun _ _ => rfl)⟩⟩
  | undef => simp [argOf, cellsOf] at hc
  | lf hr =>
    simp only [argOf] at hc
    split at hc
    · rename_i l fz' heq
      simp at hc
      obtain ⟨rfl, rfl⟩ := hc
      exact lift heq rfl (by intro cs e; subst e; cases hr)
    · simp at hc
  | nils =>
    simp only [argOf] at hc
    split at hc
    · rename_i l fz' heq
      simp at hc
      obtain ⟨rfl, rfl⟩ := hc
      exact lift heq rfl (by intro cs e; cases e)
    · simp at hc
  | row0 A i sz off =>
    simp only [argOf] at hc
    split at hc
    · rename_i l fz' heq
      simp at hc
      obtain ⟨rfl, rfl⟩ := hc
      exact lift heq rfl (by intro cs e; cases e)
    · simp at hc
  | row h1 h2 h3 =>
    simp only [argOf] at hc
    split at hc
    · rename_i l fz' heq
      simp at hc
      obtain ⟨rfl, rfl⟩ := hc
      exact lift heq rfl (by intro cs e; cases e)
    · simp at hc
  | ad _ => simp [argOf, cellsOf] at hc
  | pt _ _ _ _ => simp [argOf, cellsOf] at hc
  | tup _ _ => simp [argOf, cellsOf] at hc

/-- The arguments as values. -/
theorem args_rep (h : SimI c im pl s a w) : ∀ {xs : List (Operand × Nat)} {as : List Arg} {fz : List Nat}, argsOf T s.blks (evO s.slots) xs = some (as, fz) →
    (∀ i ∈ fz, ∃ k, s.blks i = some k ∧ k.st ≠ 3) ∧
    (∀ {im' : Nat → Prop}, (∀ b, im b → im' b) → (∀ i ∈ fz, ∀ p, pl i = some p → im' p.b) → RepArgs w im' (xs.map fun x => a.eval x.1) as [])
  | [], as, fz, hq => by simp [argsOf] at hq; obtain ⟨rfl, rfl⟩ := hq; exact ⟨by simp, fun _ _ => .nil⟩
  | (x, ty) :: xs, as, fz, hq => by
    simp only [argsOf] at hq
    cases hy : argOf T s.blks ty (evO s.slots x) with
    | none => simp [hy] at hq
    | some yf =>
      obtain ⟨y, f⟩ := yf
      simp only [hy] at hq
      cases hrest : argsOf T s.blks (evO s.slots) xs with
      | none => simp [hrest] at hq
      | some r =>
        obtain ⟨as', fz'⟩ := r
        simp [hrest] at hq
        obtain ⟨rfl, rfl⟩ := hq
        obtain ⟨g1, g2⟩ := args_rep h hrest
        obtain ⟨k1, k2⟩ := arg_rep h (h.op x) (h.opwf x) hy
        refine ⟨fun j hj => (List.mem_append.1 hj).elim (k1 j) (g1 j), fun hi hp => ?_⟩
        exact .pure (k2 hi (fun j hj => hp j (List.mem_append_left _ hj))) (g2 hi (fun j hj => hp j (List.mem_append_right _ hj)))

/-- With one that is written. -/
theorem args_mut (h : SimI c im pl s a w) : ∀ {mu : Nat} {xs : List (Operand × Nat)} {as : List Arg} {fz : List Nat} {i q m : Nat}, argsMut T s.blks (evO s.slots) mu xs = some (as, fz, i, q, m) →
    ∃ k segs, s.blks i = some k ∧ k.st < 2 ∧ i ∉ fz ∧ q + m ≤ k.cs.length ∧ (∀ j ∈ fz, ∃ k, s.blks j = some k ∧ k.st ≠ 3) ∧ ((segs = [] ∧ m = 0) ∨ ∃ p, pl i = some p ∧ segs = [(p.b, p.o + q, p.o + q + m)]) ∧
      ∀ {im' : Nat → Prop}, (∀ b, im b → im' b) → (∀ j ∈ fz, ∀ p, pl j = some p → im' p.b) → (∀ p, pl i = some p → ¬ im' p.b) → RepArgs w im' (xs.map fun x => a.eval x.1) as segs
  | 0, [], as, fz, i, q, m, hq | _ + 1, [], as, fz, i, q, m, hq => by simp [argsMut] at hq
  | 0, (x, ty) :: xs, as, fz, i, q, m, hq => by
    have hxr := h.op x
    have hwf := h.opwf x
    simp only [argsMut] at hq
    generalize hv : a.eval x = v at hxr
    generalize evO s.slots x = ax at hq hxr hwf
    cases ax with
    | row i' sz off len =>
      simp only at hq
      cases hk : s.blks i' with
      | none => simp [hk] at hq
      | some k =>
        simp only [hk] at hq
        cases hrest : argsOf T s.blks (evO s.slots) xs with
        | none => simp [hrest] at hq
        | some r =>
          obtain ⟨as', fz'⟩ := r
          simp only [hrest] at hq
          split at hq
          · rename_i hcond
            obtain ⟨hst, hsz, hcont⟩ := hcond
            simp at hq
            obtain ⟨rfl, rfl, rfl, rfl, rfl⟩ := hq
            obtain ⟨k', hk', hk2, hk3⟩ := hwf
            rw [hk] at hk'; cases hk'
            subst hsz
            have hB := h.blks i' k hk
            have hlen := rowCells_len hB.1 hk3
            have hle : off * k.sz + len * k.sz ≤ k.cs.length := by
              rw [hB.1, ← Nat.add_mul]; exact Nat.mul_le_mul_right _ hk3
            have hxr' := hxr
            cases hxr with
            | row0 A =>
              refine ⟨k, [], hk, hst, by simpa using hcont, hle, (args_rep h hrest).1, .inl ⟨rfl, by simp⟩, fun {im'} hi hp hnp => ?_⟩
              exact .pure (.inl ⟨rfl, rfl, List.eq_nil_of_length_eq_zero (by simpa using hlen), A, hv⟩) ((args_rep h hrest).2 hi hp)
            | row hpl hle1 hle2 =>
              rename_i cp p
              obtain ⟨hkl, hB' | ⟨hB', _⟩ | ⟨q, cur, e, vs, q1, q2, q3, q4, q5, q6, q7, q8, q9, q10⟩⟩ := hB
              · omega
              · rw [hB'] at hpl; cases hpl
              · rw [q1] at hpl; cases hpl
                refine ⟨k, _, hk, hst, by simpa using hcont, hle, (args_rep h hrest).1, .inr ⟨p, q1, rfl⟩, fun {im'} hi hp hnp => ?_⟩
                refine .wr (.inr ⟨p.b, p.o + off * k.sz, cp, cur, e, (vs.drop (off * k.sz)).take (len * k.sz), rfl, hv, hle2, q2, hnp p q1, ?_, fun j u hj => ?_, ?_, hlen⟩) ((args_rep h hrest).2 hi hp)
                · have : (off + cp) * k.sz ≤ p.cap * k.sz := Nat.mul_le_mul_right _ hle1
                  rw [Nat.add_mul] at this
                  omega
                · rw [List.getElem?_take] at hj
                  split at hj
                  · rw [List.getElem?_drop] at hj
                    have := q6 _ _ hj
                    rwa [← Nat.add_assoc] at this
                  · cases hj
                · rw [rowCells_eq hkl]; exact (q7.mono hi (fun _ _ => rfl)).seg _ _
          · simp at hq
    | _ => simp at hq
  | mu + 1, (x, ty) :: xs, as, fz, i, q, m, hq => by
    simp only [argsMut] at hq
    cases hy : argOf T s.blks ty (evO s.slots x) with
    | none => simp [hy] at hq
    | some yf =>
      obtain ⟨y, f⟩ := yf
      simp only [hy] at hq
      cases hrest : argsMut T s.blks (evO s.slots) mu xs with
      | none => simp [hrest] at hq
      | some r =>
        obtain ⟨as', fz', i', q', m'⟩ := r
        simp only [hrest] at hq
        split at hq
        · rename_i hcont
          simp at hq
          obtain ⟨rfl, rfl, rfl, rfl, rfl⟩ := hq
          obtain ⟨k, segs, g1, g2, g3, g4, g5, g6, g8⟩ := args_mut h hrest
          obtain ⟨k1, k2⟩ := arg_rep h (h.op x) (h.opwf x) hy
          refine ⟨k, segs, g1, g2, ?_, g4, fun j hj => (List.mem_append.1 hj).elim (k1 j) (g5 j), g6, fun {im'} hi hp hnp => ?_⟩
          · simp at hcont ⊢; exact ⟨hcont, g3⟩
          · exact .pure (k2 hi (fun j hj => hp j (List.mem_append_left _ hj))) (g8 hi (fun j hj => hp j (List.mem_append_right _ hj)) hnp)
        · simp at hq

/-! ### the results taken in -/

/-- The blocks that come with results are the caller's from now on. -/
theorem take_rvs (ok : CtxOk c) {w0 : World} {d : Option Nat} (hc0 : c.w0.heap.size ≤ w0.heap.size) : ∀ {rs : List RV} {j : Nat} {used : List Nat} {vs : List Value} {s : St} {pl : Nat → Option Place},
    SimI c im pl s a w → RepRVs w0 w im used vs rs → (∀ x ∈ mksOf d j rs, s.blks x.1 = none) →
    (∀ i k p, s.blks i = some k → k.st < 3 → pl i = some p → p.b < w0.heap.size ∨ p.b ∈ used) →
    ∃ pl', SimI c im pl' (s.addRV d j rs) a w ∧ vs.length = (avOf d j rs).length ∧ (∀ p (h : p < (avOf d j rs).length) (h' : p < vs.length), RepA w im pl' vs[p] (avOf d j rs)[p] ∧ (avOf d j rs)[p].wf (s.addRV d j rs).blks) ∧
      (∀ i, s.blks i ≠ none → pl' i = pl i ∧ (s.addRV d j rs).blks i = s.blks i)
  | [], j, used, vs, s, pl, h, hr, hn, hu => by
    cases vs with
    | nil => exact ⟨pl, h, rfl, fun p h => by simp [avOf] at h, fun _ _ => ⟨rfl, rfl⟩⟩
    | cons v vs => simp [RepRVs] at hr
  | .lf l :: rs, j, used, vs, s, pl, h, hr, hn, hu => by
    cases vs with
    | nil => simp [RepRVs] at hr
    | cons v vs =>
      obtain ⟨h1, h2⟩ := hr
      obtain ⟨pl', g1, g2, g3, g4⟩ := take_rvs ok (d := d) hc0 (j := j + 1) h h2 hn hu
      refine ⟨pl', g1, by simp [avOf, g2], fun p hp hp' => ?_, g4⟩
      cases p with
      | zero => exact ⟨.lf h1, trivial⟩
      | succ p => exact g3 p (by simpa [avOf] using hp) (by simpa using hp')
  | .ag ls :: rs, j, used, vs, s, pl, h, hr, hn, hu => by
    cases vs with
    | nil => simp [RepRVs] at hr
    | cons v vs =>
      obtain ⟨⟨cs, rfl, h1⟩, h2⟩ := hr
      obtain ⟨pl', g1, g2, g3, g4⟩ := take_rvs ok (d := d) hc0 (j := j + 1) h h2 hn hu
      refine ⟨pl', g1, by simp [avOf, g2], fun p hp hp' => ?_, g4⟩
      cases p with
      | zero => exact ⟨.ag h1, trivial⟩
      | succ p => exact g3 p (by simpa [avOf] using hp) (by simpa using hp')
  | .own sz n cs :: rs, j, used, vs, s, pl, h, hr, hn, hu => by
    cases vs with
    | nil => simp [RepRVs] at hr
    | cons v vs =>
      have hnew : s.blks (idOf d j) = none := hn _ List.mem_cons_self
      have h100 : 100 ≤ idOf d j := by unfold idOf; omega
      have hfresh : ∀ (s' : St), (∀ i, i ≠ idOf d j → s'.blks i = s.blks i) → ∀ x ∈ mksOf d (j + 1) rs, s'.blks x.1 = none := by
        intro s' hs' x hx
        obtain ⟨k, h1, h2⟩ := mksOf_ids hx
        rw [hs' _ (by rw [h2]; unfold idOf; omega)]
        exact hn x (List.mem_cons_of_mem _ hx)
      rcases hr with ⟨⟨⟨A, rfl⟩, rfl, rfl⟩, h2⟩ | ⟨b, lo, cp, cur, e, us, ⟨rfl, h3, h4, h5, h6, h7, h8, h9, h10, h11⟩, h2⟩
      · have hs1 := h.adopt0 ok hnew h100 sz
        obtain ⟨pl', g1, g2, g3, g4⟩ := take_rvs ok (d := d) hc0 (j := j + 1) hs1 h2 (hfresh _ (fun i hi => by simp [St.setB, hi])) (fun i k p hk hst hp => by
          by_cases e : i = idOf d j
          · simp [e] at hp
          · simp only [St.setB, if_neg e] at hk; simp only [if_neg e] at hp; exact hu i k p hk hst hp)
        refine ⟨pl', g1, by simp [avOf, g2], fun p hp hp' => ?_, fun i hi => ?_⟩
        · cases p with
          | zero =>
            obtain ⟨e1, e2⟩ := g4 (idOf d j) (by simp [St.setB])
            exact ⟨.row0 _ _ _ _, ⟨⟨sz, 0, [], 0⟩, by show ((s.setB (idOf d j) ⟨sz, 0, [], 0⟩).addRV d (j + 1) rs).blks (idOf d j) = _; rw [e2]; simp [St.setB], rfl, by simp⟩⟩
          | succ p => exact g3 p (by simpa [avOf] using hp) (by simpa using hp')
        · have hne : i ≠ idOf d j := by rintro rfl; exact hi hnew
          obtain ⟨e1, e2⟩ := g4 i (by simp [St.setB, hne]; exact hi)
          exact ⟨by rw [e1, if_neg hne], by show ((s.setB (idOf d j) ⟨sz, 0, [], 0⟩).addRV d (j + 1) rs).blks i = _; rw [e2]; simp [St.setB, hne]⟩
      · have hs1 := h.adopt ok hnew h100 (q := ⟨b, lo, cp⟩) (cur := cur) (e := e) (vs := us) (k := ⟨sz, n, cs, 0⟩) h7 (Nat.le_trans hc0 h4) h3 h8 h9 h10 h5 (by simp) h11
          (fun j' k' p' hj' hst' hp' hbb => by
            rcases hu j' k' p' hj' (by omega) hp' with g | g
            · simp only at hbb; omega
            · have hbb' : p'.b = b := hbb
              exact h6 (hbb' ▸ g))
        obtain ⟨pl', g1, g2, g3, g4⟩ := take_rvs ok (d := d) hc0 (j := j + 1) hs1 h2 (hfresh _ (fun i hi => by simp [St.setB, hi])) (fun i k p hk hst hp => by
          by_cases e : i = idOf d j
          · simp only [e, if_true] at hp; cases hp; exact .inr (by simp)
          · simp only [St.setB, if_neg e] at hk; simp only [if_neg e] at hp
            exact (hu i k p hk hst hp).imp id (fun g => by simp [g]))
        refine ⟨pl', g1, by simp [avOf, g2], fun p hp hp' => ?_, fun i hi => ?_⟩
        · cases p with
          | zero =>
            obtain ⟨e1, e2⟩ := g4 (idOf d j) (by simp [St.setB])
            refine ⟨?_, ⟨⟨sz, n, cs, 0⟩, by show ((s.setB (idOf d j) ⟨sz, n, cs, 0⟩).addRV d (j + 1) rs).blks (idOf d j) = _; rw [e2]; simp [St.setB], rfl, by simp⟩⟩
            have := RepA.row (w := w) (im := im) (pl := pl') (i := idOf d j) (sz := sz) (off := 0) (len := n) (c := cp) (p := ⟨b, lo, cp⟩) (by rw [e1]; simp) (by simp) h3
            simpa [avOf] using this
          | succ p => exact g3 p (by simpa [avOf] using hp) (by simpa using hp')
        · have hne : i ≠ idOf d j := by rintro rfl; exact hi hnew
          obtain ⟨e1, e2⟩ := g4 i (by simp [St.setB, hne]; exact hi)
          exact ⟨by rw [e1, if_neg hne], by show ((s.setB (idOf d j) ⟨sz, n, cs, 0⟩).addRV d (j + 1) rs).blks i = _; rw [e2]; simp [St.setB, hne]⟩

theorem headD_one {l : List AV} (h : l.length = 1) : l.headD .undef = l[0]'(by omega) := by
  cases l with
  | nil => simp at h
  | cons x xs => rfl

/-- The value of a call, taken in. -/
theorem take_ret (ok : CtxOk c) {w0 : World} {d : Option Nat} (hc0 : c.w0.heap.size ≤ w0.heap.size) {rs : List RV} {v : Value} (h : SimI c im pl s a w) (hr : RepRet w0 w im v rs)
    (hn : ∀ x ∈ mksOf d 0 rs, s.blks x.1 = none) (hu : ∀ i k p, s.blks i = some k → k.st < 3 → pl i = some p → p.b < w0.heap.size) (hd : ∀ t, d = some t → t < c.nt) :
    ∃ pl', SimI c im pl' ((s.addRV d 0 rs).putD d (resAV d rs)) (a.put d v) w := by
  have main : ∀ vs, RepRVs w0 w im [] vs rs → ∃ pl', SimI c im pl' (s.addRV d 0 rs) a w ∧ vs.length = (avOf d 0 rs).length ∧ (∀ p (h : p < (avOf d 0 rs).length) (h' : p < vs.length), RepA w im pl' vs[p] (avOf d 0 rs)[p] ∧ (avOf d 0 rs)[p].wf (s.addRV d 0 rs).blks) := by
    intro vs hrv
    obtain ⟨pl', g1, g2, g3, _⟩ := take_rvs ok (d := d) hc0 (j := 0) h hrv hn (fun i k p h1 h2 h3 => .inl (hu i k p h1 h2 h3))
    exact ⟨pl', g1, g2, g3⟩
  have many : (∃ vs, v = .tuple vs.toArray ∧ RepRVs w0 w im [] vs rs) → ∃ pl', SimI c im pl' ((s.addRV d 0 rs).putD d (.tup (avOf d 0 rs))) (a.put d v) w := by
    rintro ⟨vs, rfl, hrv⟩
    obtain ⟨pl', g1, g2, g3⟩ := main vs hrv
    refine ⟨pl', g1.putD (.tup g2 fun p h h' => (g3 p h h').1) ?_ hd⟩
    simp only [AV.wf]
    refine wfs_iff.2 fun x hx => ?_
    obtain ⟨p, hp, rfl⟩ := List.getElem_of_mem hx
    exact (g3 p hp (by omega)).2
  rcases rs with _ | ⟨r, _ | ⟨r2, rs⟩⟩
  · exact many hr
  · obtain ⟨pl', g1, g2, g3⟩ := main [v] hr
    have hlen : (avOf d 0 [r]).length = 1 := by simpa using g2.symm
    have h0 := g3 0 (by omega) (by simp)
    have heq : resAV d [r] = (avOf d 0 [r])[0]'(by omega) := by
      exact headD_one hlen
    exact ⟨pl', g1.putD (by rw [heq]; exact h0.1) (by rw [heq]; exact h0.2) hd⟩
  · exact many hr

end
end Go.Proofs.YtdhgdpcmdmgchaaGreat.Fw
