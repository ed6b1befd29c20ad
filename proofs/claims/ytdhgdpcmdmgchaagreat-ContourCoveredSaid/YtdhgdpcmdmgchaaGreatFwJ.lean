/- The framework's moves: an operation of a region as a change of the abstract state, calls among them. Conditions: none. -/
import Derived.Test.YtdhgdpcmdmgchaaGreatFwI
namespace Go.Proofs.YtdhgdpcmdmgchaaGreat.Fw
open Go
set_option linter.unusedSimpArgs false
set_option linter.unusedVariables false

/-- What an operation changes. -/
structure Delta where
  frz : List Nat := []
  upd : Option (Nat × Blk) := none
  mks : List (Nat × Blk) := []
  dst : Option Nat
  v : AV

def St.mkL (s : St) (l : List (Nat × Blk)) : St := l.foldl (fun s x => s.setB x.1 x.2) s
def Delta.app (d : Delta) (s : St) : St := (((s.frz d.frz).updO d.upd).mkL d.mks).putD d.dst d.v

theorem addRV_eq (d : Option Nat) : ∀ (rs : List RV) (j : Nat) (s : St), s.addRV d j rs = s.mkL (mksOf d j rs)
  | [], _, _ => rfl
  | .lf _ :: rs, j, s => addRV_eq d rs (j + 1) s
  | .ag _ :: rs, j, s => addRV_eq d rs (j + 1) s
  | .own sz n cs :: rs, j, s => by simp only [St.addRV, mksOf, St.mkL, List.foldl_cons]; exact addRV_eq d rs (j + 1) _

/-- An operation that is no call of a function. -/
def opDelta (dst : Option Nat) (o : Out) : Delta := { frz := o.frz, upd := o.upd, mks := (o.mak.map fun k => (idOf dst 0, k)).toList, dst, v := o.v }

/-- A call: its arguments by its contract. -/
def callDelta (dst : Option Nat) (fz : List Nat) (upd : Option (Nat × Blk)) (res : Res) : Delta := { frz := fz, upd, mks := mksOf dst 0 res.vals, dst, v := resAV dst res.vals }

def fresh (rd : Nat → Option Blk) (l : List (Nat × Blk)) : Prop := ∀ x ∈ l, rd x.1 = none

/-- A call of function f. -/
def callM (P : Program) (T : Tab) (f : Nat) (xs : List (Operand × Nat)) (dst : Option Nat) (ρ : Operand → AV) (rd : Nat → Option Blk) (d : Delta) : Prop :=
  match T.mu f with
  | none => ∃ as fz res, argsOf T rd ρ xs = some (as, fz) ∧ Ok P f as res ∧ res.out = [] ∧ fresh rd (mksOf dst 0 res.vals) ∧
      ((T.bo f = true ∧ res.vals.all RV.flat = true ∧ d = callDelta dst [] none res) ∨ (T.bo f = false ∧ fz.all (100 ≤ ·) = true ∧ d = callDelta dst fz none res))
  | some pos => ∃ as fz i q m res k, argsMut T rd ρ pos xs = some (as, fz, i, q, m) ∧ rd i = some k ∧ Ok P f as res ∧ res.out.length = m ∧ fresh rd (mksOf dst 0 res.vals) ∧
      ((T.bo f = true ∧ res.vals.all RV.flat = true ∧ res.out.all L.flat = true ∧ d = callDelta dst [] (some (i, { k with cs := splice q res.out k.cs })) res) ∨
       (T.bo f = false ∧ fz.all (100 ≤ ·) = true ∧ d = callDelta dst fz (some (i, { k with cs := splice q res.out k.cs })) res))

def moves (P : Program) (T : Tab) (o : Oper) (ρ : Operand → AV) (rd : Nat → Option Blk) (d : Delta) : Prop :=
  match o.op with
  | .call { callee := .value f, args, argTypes } => match ρ f with
    | .lf (.fn fid) => callM P T fid (args.toList.zip argTypes.toList) o.dst ρ rd d ∧ args.size = argTypes.size
    | _ => False
  | _ => ∃ out, step T ρ rd o = some out ∧ out.pre ∧ out.frz.all (100 ≤ ·) = true ∧ (out.mak ≠ none → rd (idOf o.dst 0) = none) ∧ d = opDelta o.dst out

section
variable {P : Program} {T : Tab} {c : Ctx} {im im' : Nat → Prop} {pl : Nat → Option Place} {s : St} {a : Act} {w : World}

theorem opDelta_app (o : Oper) (out : Out) : (opDelta o.dst out).app s = s.out o.dst out := by
  unfold Delta.app opDelta St.out
  cases out.mak <;> rfl

theorem run_call {o : Oper} {f : Operand} {args : Array Operand} {argTypes : Array TypeId} (ho : o.op = .call { callee := .value f, args, argTypes }) {fid : Nat} (hc : Callable P fid) (hf : a.eval f = .func (.func fid) #[] #[]) :
    (execOp a.eval o).run P w = .ok (.enter fid (args.map a.eval)) w := by
  obtain ⟨fn, h1, h2, h3⟩ := hc
  have h4 : fn.body ≠ none := by intro hb; simp [hb] at h2
  have h5 : fn.name ≠ "runtime.NumGoroutine" := by simpa using h3
  simp [execOp, ho, resolve, hf, Deferred.ofValue, invoke, callFunc, h1, h4, h5]

theorem flat_rep {w' : World} {im1 im2 : Nat → Prop} {v : Value} {l : L} (hf : l.flat = true) (h : RepL w' im1 v l) : RepL w' im2 v l := by
  cases h with
  | int k n => exact .int k n
  | bool b => exact .bool b
  | fn f => exact .fn f
  | sl0 => simp [L.flat] at hf
  | sl => simp [L.flat] at hf

theorem flats_rep {w' : World} {im1 im2 : Nat → Prop} {vs : List Value} {ls : List L} (hf : ls.all L.flat = true) (h : RepLs w' im1 vs ls) : RepLs w' im2 vs ls :=
  ⟨h.1, fun p hp => let ⟨v, h1, h2⟩ := h.2 p hp; ⟨v, h1, flat_rep (List.all_eq_true.1 hf _ (List.getElem_mem hp)) h2⟩⟩

theorem flat_rvs {w0 w' : World} {im1 im2 : Nat → Prop} : ∀ {used : List Nat} {vs : List Value} {rs : List RV}, rs.all RV.flat = true → RepRVs w0 w' im1 used vs rs → RepRVs w0 w' im2 used vs rs
  | _, [], [], _, _ => trivial
  | _, v :: vs, .lf l :: rs, hf, h => by
    simp only [List.all_cons, Bool.and_eq_true] at hf
    exact ⟨flat_rep hf.1 h.1, flat_rvs hf.2 h.2⟩
  | _, v :: vs, .ag ls :: rs, hf, h => by
    simp only [List.all_cons, Bool.and_eq_true] at hf
    obtain ⟨⟨cs, h1, h2⟩, h3⟩ := h
    exact ⟨⟨cs, h1, flats_rep hf.1 h2⟩, flat_rvs hf.2 h3⟩
  | _, v :: vs, .own sz n cs :: rs, hf, h => by simp [RV.flat] at hf
  | _, [], _ :: _, _, h => by simp [RepRVs] at h
  | _, _ :: _, [], _, h => by simp [RepRVs] at h

theorem flat_ret {w0 w' : World} {im1 im2 : Nat → Prop} {v : Value} {rs : List RV} (hf : rs.all RV.flat = true) (h : RepRet w0 w' im1 v rs) : RepRet w0 w' im2 v rs := by
  rcases rs with _ | ⟨r, _ | ⟨r2, rs⟩⟩
  · obtain ⟨vs, h1, h2⟩ := h
    exact ⟨vs, h1, flat_rvs hf h2⟩
  · exact flat_rvs (used := []) (vs := [v]) (rs := [r]) hf h
  · obtain ⟨vs, h1, h2⟩ := h
    exact ⟨vs, h1, flat_rvs hf h2⟩

/-- Blocks that are lent for a call: read by the callee, the caller's own again behind it. -/
theorem lent_called (h : SimI c im pl s a w) {im1 im2 : Nat → Prop} {w' : World} (hf : Fr [] w w') (h1 : ∀ b, im b → im1 b) (h2 : ∀ b, im1 b → im2 b) (h3 : ∀ b, im2 b → im1 b ∨ w.heap.size ≤ b) (h4 : ∀ b, im2 b → b < w'.heap.size) :
    SimI c (fun b => im b ∨ (im2 b ∧ w.heap.size ≤ b)) pl s a w' :=
  h.called hf (fun _ h => .inl h) (fun _ h => h.imp id (·.2)) (fun b hb => hb.elim (fun h' => Nat.lt_of_lt_of_le (h.imlt b h') hf.size) (fun h' => h4 b h'.1))

theorem live_below (h : SimI c im pl s a w) : ∀ i k p, s.blks i = some k → k.st < 3 → pl i = some p → p.b < w.heap.size := fun i k p hk hst hp => h.plt hk (by omega) hp

/-- A call that writes nothing of the caller's. -/
theorem call_pure (ok : CtxOk c) (h : SimI c im pl s a w) {f : Nat} {xs : List (Operand × Nat)} {dst : Option Nat} {as : List Arg} {fz : List Nat} {res : Res} (ha : argsOf T s.blks (evO s.slots) xs = some (as, fz)) (hok : Ok P f as res)
    (ho : res.out = []) (hfr : fresh s.blks (mksOf dst 0 res.vals)) (hd : ∀ t, dst = some t → t < c.nt) {d : Delta}
    (hb : (res.vals.all RV.flat = true ∧ d = callDelta dst [] none res) ∨ (fz.all (100 ≤ ·) = true ∧ d = callDelta dst fz none res)) :
    Calls P f (xs.map fun x => a.eval x.1).toArray w fun e w' => ∃ v, e = .returned v ∧ Sim c (d.app s) (a.put dst v) w' := by
  obtain ⟨hfz, hargs⟩ := args_rep h ha
  rcases hb with ⟨hflat, rfl⟩ | ⟨h100, rfl⟩
  · -- lent
    have hlt : ∀ b, (im b ∨ ∃ i ∈ fz, ∃ p, pl i = some p ∧ p.b = b) → b < w.heap.size := by
      rintro b (hb | ⟨i, hi, p, hp, rfl⟩)
      · exact h.imlt b hb
      · obtain ⟨k, hk, hst⟩ := hfz i hi; exact h.plt hk hst hp
    refine (hok.2 w (fun b => im b ∨ ∃ i ∈ fz, ∃ p, pl i = some p ∧ p.b = b) _ [] hlt (hargs (fun _ h => .inl h) (fun i hi p hp => .inr ⟨i, hi, p, hp, rfl⟩))).mono ?_
    rintro e w' ⟨v, im2, rfl, g1, g2, g3, g4, g5, g6⟩
    have hsim := lent_called h (im1 := fun b => im b ∨ ∃ i ∈ fz, ∃ p, pl i = some p ∧ p.b = b) g1 (fun _ h => .inl h) g2 g3 g4
    obtain ⟨pl', k1⟩ := take_ret ok (d := dst) (w0 := w) h.fr.size hsim (flat_ret hflat g5) hfr (live_below h) hd
    rw [addRV_eq] at k1
    exact ⟨v, rfl, _, pl', k1⟩
  · obtain ⟨im', k1, k2, k3, k4⟩ := SimI.freeze ok fz h (fun i hi => ⟨by simpa using List.all_eq_true.1 h100 i hi, hfz i hi⟩)
    refine (hok.2 w im' _ [] k1.imlt (hargs k2 k3)).mono ?_
    rintro e w' ⟨v, im2, rfl, g1, g2, g3, g4, g5, g6⟩
    have hsim := k1.called g1 g2 g3 g4
    obtain ⟨pl', k5⟩ := take_ret ok (d := dst) (w0 := w) h.fr.size hsim g5 (fun x hx => frz_none (hfr x hx)) (live_below k1) hd
    rw [addRV_eq] at k5
    exact ⟨v, rfl, _, pl', k5⟩

theorem splice_nil (q : Nat) (cs : List L) : splice q [] cs = cs := by simp [splice]

theorem setB_self {i : Nat} {k : Blk} (hk : s.blks i = some k) : s.setB i k = s := by
  unfold St.setB
  congr 1
  funext j
  by_cases e : j = i
  · subst e; simp [hk]
  · simp [e]

/-- The stretch that was written, taken in. -/
theorem take_out (ok : CtxOk c) (h : SimI c im pl s a w) {i q m : Nat} {k : Blk} (hk : s.blks i = some k) (hst : k.st < 2) (hle : q + m ≤ k.cs.length) {segs : List (Nat × Nat × Nat)}
    (hs : (segs = [] ∧ m = 0) ∨ ∃ p, pl i = some p ∧ segs = [(p.b, p.o + q, p.o + q + m)]) {w' : World} {out : List L} (hf : Fr segs w w') (hi1 : ∀ b, im b → im' b) (hi2 : ∀ b, im' b → im b ∨ w.heap.size ≤ b) (hi3 : ∀ b, im' b → b < w'.heap.size)
    (ho : RepOut w' im' segs out) (hm : out.length = m) : SimI c im' pl (s.setB i { k with cs := splice q out k.cs }) a w' := by
  rcases hs with ⟨rfl, rfl⟩ | ⟨p, hp, rfl⟩
  · obtain rfl : out = [] := List.eq_nil_of_length_eq_zero hm
    rw [splice_nil]
    have : ({ k with cs := k.cs } : Blk) = k := rfl
    rw [this, setB_self hk]
    exact h.called hf hi1 hi2 hi3
  · obtain ⟨cur', e', us, g1, g2, g3, g4⟩ := ho
    obtain ⟨c1, c2, e, f1, f2, f3, f4⟩ := hf.seg _ (List.mem_singleton.2 rfl)
    simp only at f1 f2 f4
    rw [f2] at g1; cases g1
    obtain ⟨hkl, hB | ⟨hB, _⟩ | ⟨p', cur, e'', vs, q1, q2, q3, q4, q5, q6, q7, q8, q9, q10⟩⟩ := h.blks i k hk
    · omega
    · rw [hB] at hp; cases hp
    · rw [q1] at hp; cases hp
      rw [q2] at f1; cases f1
      have himo : ∀ b, im b → w'.heap[b]? = w.heap[b]? := fun b hb => hf.blk b (h.imlt b hb) (fun g hg => by
        obtain rfl := List.mem_singleton.1 hg
        rintro rfl; exact q9 hst hb)
      refine h.wrote ok hk hst q1 hf (by omega) (by omega) hi1 hi2 hi3 (splice_length (by omega)) ((q7.mono hi1 himo).splice q g3) ?_
      intro cur2 e2 hc2 j u hj
      rw [f2] at hc2; cases hc2
      have hvl := q7.1
      have hul := g3.1
      simp only [List.getElem?_append, List.length_append, List.length_take, List.getElem?_take, List.getElem?_drop] at hj
      have hmin : min q vs.length = q := by omega
      rw [hmin] at hj
      by_cases h1 : j < q
      · rw [if_pos (by omega), if_pos (by omega), if_pos (by omega)] at hj
        rw [f4 _ (.inl (by omega))]; exact q6 j u hj
      · by_cases h2 : j < q + us.length
        · rw [if_pos h2, if_neg h1] at hj
          have := g2 _ _ hj
          rwa [show p.o + q + (j - q) = p.o + j by omega] at this
        · rw [if_neg h2] at hj
          rw [show q + us.length + (j - (q + us.length)) = j by omega] at hj
          rw [f4 _ (.inr (by omega))]; exact q6 j u hj

/-- A call that writes into one argument. -/
theorem call_mut (ok : CtxOk c) (h : SimI c im pl s a w) {f pos : Nat} {xs : List (Operand × Nat)} {dst : Option Nat} {as : List Arg} {fz : List Nat} {i q m : Nat} {res : Res} {k : Blk} (ha : argsMut T s.blks (evO s.slots) pos xs = some (as, fz, i, q, m))
    (hk : s.blks i = some k) (hok : Ok P f as res) (ho : res.out.length = m) (hfr : fresh s.blks (mksOf dst 0 res.vals)) (hd : ∀ t, dst = some t → t < c.nt) {d : Delta}
    (hb : (res.vals.all RV.flat = true ∧ res.out.all L.flat = true ∧ d = callDelta dst [] (some (i, { k with cs := splice q res.out k.cs })) res) ∨
      (fz.all (100 ≤ ·) = true ∧ d = callDelta dst fz (some (i, { k with cs := splice q res.out k.cs })) res)) :
    Calls P f (xs.map fun x => a.eval x.1).toArray w fun e w' => ∃ v, e = .returned v ∧ Sim c (d.app s) (a.put dst v) w' := by
  obtain ⟨k', segs, hk', hst, hnot, hle, hfz, hsegs, hargs⟩ := args_mut h ha
  rw [hk] at hk'; cases hk'
  have hbelow := live_below h
  rcases hb with ⟨hflat, hoflat, rfl⟩ | ⟨h100, rfl⟩
  · have hlt : ∀ b, (im b ∨ ∃ j ∈ fz, ∃ p, pl j = some p ∧ p.b = b) → b < w.heap.size := by
      rintro b (hb | ⟨i, hi, p, hp, rfl⟩)
      · exact h.imlt b hb
      · obtain ⟨k, hk, hst⟩ := hfz i hi; exact h.plt hk hst hp
    have hni : ∀ p, pl i = some p → ¬ (im p.b ∨ ∃ j ∈ fz, ∃ p', pl j = some p' ∧ p'.b = p.b) := by
      rintro p hp (hb | ⟨j, hj, p', hp', hbb⟩)
      · obtain ⟨_, hB | ⟨hB, _⟩ | ⟨p2, cur, e'', vs, q1, q2, q3, q4, q5, q6, q7, q8, q9, q10⟩⟩ := h.blks i k hk
        · omega
        · rw [hB] at hp; cases hp
        · rw [q1] at hp; cases hp; exact q9 hst hb
      · obtain ⟨kj, hkj, hstj⟩ := hfz j hj
        have hji : j ≠ i := by rintro rfl; exact hnot hj
        by_cases hl : kj.st < 2
        · exact hji (h.dist j i kj k p' p hkj hk hl hst hp' hp hbb)
        · obtain ⟨_, hB | ⟨hB, _⟩ | ⟨p2, cur, e'', vs, q1, q2, q3, q4, q5, q6, q7, q8, q9, q10⟩⟩ := h.blks j kj hkj
          · omega
          · rw [hB] at hp'; cases hp'
          · rw [q1] at hp'; cases hp'
            have him := q8 (by omega)
            rw [hbb] at him
            obtain ⟨_, hB | ⟨hB, _⟩ | ⟨p2, cur, e'', vs, q1, q2, q3, q4, q5, q6, q7, q8, q9, q10⟩⟩ := h.blks i k hk
            · omega
            · rw [hB] at hp; cases hp
            · rw [q1] at hp; cases hp; exact q9 hst him
    refine (hok.2 w (fun b => im b ∨ ∃ j ∈ fz, ∃ p, pl j = some p ∧ p.b = b) _ segs hlt (hargs (fun _ h => .inl h) (fun i hi p hp => .inr ⟨i, hi, p, hp, rfl⟩) hni)).mono ?_
    rintro e w' ⟨v, im2, rfl, g1, g2, g3, g4, g5, g6⟩
    have g6' : RepOut w' (fun b => im b ∨ (im2 b ∧ w.heap.size ≤ b)) segs res.out := by
      unfold RepOut at g6 ⊢
      split at g6
      · exact g6
      · obtain ⟨cur, e, vs, h1, h2, h3, h4⟩ := g6
        exact ⟨cur, e, vs, h1, h2, flats_rep hoflat h3, h4⟩
    have hsim := take_out ok h hk hst hle hsegs g1 (im' := fun b => im b ∨ (im2 b ∧ w.heap.size ≤ b)) (fun _ h => .inl h) (fun _ h => h.imp id (·.2)) (fun b hb => hb.elim (fun h' => Nat.lt_of_lt_of_le (h.imlt b h') g1.size) (fun h' => g4 b h'.1)) g6' ho
    obtain ⟨pl', k1⟩ := take_ret ok (d := dst) (w0 := w) h.fr.size hsim (flat_ret hflat g5) (fun x hx => by
        simp only [St.setB]; rw [if_neg]; exact hfr x hx
        rintro e; rw [← e] at hk; rw [hfr x hx] at hk; cases hk)
      (fun j kj p hj hst' hp => by
        simp only [St.setB] at hj
        split at hj
        · rename_i e; subst e; exact hbelow j k p hk (by omega) hp
        · exact hbelow j kj p hj hst' hp) hd
    rw [addRV_eq] at k1
    exact ⟨v, rfl, _, pl', k1⟩
  · obtain ⟨im', k1, k2, k3, k4⟩ := SimI.freeze ok fz h (fun i hi => ⟨by simpa using List.all_eq_true.1 h100 i hi, hfz i hi⟩)
    have hk1 : (s.frz fz).blks i = some k := by rw [frz_other hnot]; exact hk
    have hni : ∀ p, pl i = some p → ¬ im' p.b := by
      intro p hp
      obtain ⟨_, hB | ⟨hB, _⟩ | ⟨p2, cur, e'', vs, q1, q2, q3, q4, q5, q6, q7, q8, q9, q10⟩⟩ := k1.blks i k hk1
      · omega
      · rw [hB] at hp; cases hp
      · rw [q1] at hp; cases hp; exact q9 hst
    refine (hok.2 w im' _ segs k1.imlt (hargs k2 k3 hni)).mono ?_
    rintro e w' ⟨v, im2, rfl, g1, g2, g3, g4, g5, g6⟩
    have hsim := take_out ok k1 hk1 hst hle hsegs g1 g2 g3 g4 g6 ho
    obtain ⟨pl', k5⟩ := take_ret ok (d := dst) (w0 := w) h.fr.size hsim g5 (fun x hx => by
        simp only [St.setB]; rw [if_neg]; exact frz_none (hfr x hx)
        rintro e; rw [← e] at hk; rw [hfr x hx] at hk; cases hk)
      (fun j kj p hj hst' hp => by
        simp only [St.setB] at hj
        split at hj
        · rename_i e; subst e; exact hbelow j k p hk (by omega) hp
        · exact live_below k1 j kj p hj hst' hp) hd
    rw [addRV_eq] at k5
    exact ⟨v, rfl, _, pl', k5⟩

/-- A move is what the machine does. -/
theorem moves_wp (hT : TabOk P T) (ok : CtxOk c) (h : Sim c s a w) {o : Oper} {d : Delta} (hm : moves P T o (evO s.slots) s.blks d) (hd : ∀ t, o.dst = some t → t < c.nt) {K : Act → World → Prop} {Q : Exit → Act → World → Prop}
    (hK : ∀ a' w', Sim c (d.app s) a' w' → K a' w') : o.wp P a w K Q := by
  obtain ⟨im, pl, h⟩ := h
  by_cases hc : ∃ f args argTypes, o.op = .call { callee := .value f, args, argTypes }
  · obtain ⟨f, args, argTypes, ho⟩ := hc
    simp only [moves, ho] at hm
    have hf := h.op f
    generalize evO s.slots f = af at hm hf
    have calls : ∀ {fid : Nat} {xs : List (Operand × Nat)}, a.eval f = .func (.func fid) #[] #[] → Callable P fid → (Calls P fid (args.map a.eval) w fun e w' => ∃ v, e = .returned v ∧ Sim c (d.app s) (a.put o.dst v) w') → o.wp P a w K Q := by
      intro fid xs hef hcall hcs
      unfold Oper.wp
      rw [run_call ho hcall hef, Oper.upon_enter]
      refine hcs.mono ?_
      rintro e w' ⟨v, rfl, hs⟩
      exact hK _ _ hs
    cases af with
    | lf l => cases l with
      | fn fid =>
        obtain ⟨hm, hsz⟩ := hm
        have hef : a.eval f = .func (.func fid) #[] #[] := by
          generalize a.eval f = v at hf
          cases hf with | lf hf => cases hf; rfl
        have hargs : ((args.toList.zip argTypes.toList).map fun x => a.eval x.1).toArray = args.map a.eval := by
          apply Array.ext'
          have hz : (args.toList.zip argTypes.toList).map Prod.fst = args.toList := List.map_fst_zip (by simp [hsz])
          have hz2 : (args.toList.zip argTypes.toList).map (fun x => a.eval x.1) = ((args.toList.zip argTypes.toList).map Prod.fst).map a.eval := by rw [List.map_map]; rfl
          show (args.toList.zip argTypes.toList).map (fun x => a.eval x.1) = _
          rw [hz2, hz, Array.toList_map]
        unfold callM at hm
        split at hm
        · obtain ⟨as, fz, res, g1, g2, g3, g4, g5⟩ := hm
          refine calls (xs := []) hef g2.1 ?_
          rw [← hargs]
          exact call_pure ok h g1 g2 g3 g4 hd (g5.imp (fun x => ⟨x.2.1, x.2.2⟩) (fun x => ⟨x.2.1, x.2.2⟩))
        · obtain ⟨as, fz, i, q, m, res, k, g1, g2, g3, g4, g5, g6⟩ := hm
          refine calls (xs := []) hef g3.1 ?_
          rw [← hargs]
          exact call_mut ok h g1 g2 g3 g4 g5 hd (g6.imp (fun x => ⟨x.2.1, x.2.2.1, x.2.2.2⟩) (fun x => ⟨x.2.1, x.2.2⟩))
      | _ => exact hm.elim
    | _ => exact hm.elim
  · have hm' : ∃ out, step T (evO s.slots) s.blks o = some out ∧ out.pre ∧ out.frz.all (100 ≤ ·) = true ∧ (out.mak ≠ none → s.blks (idOf o.dst 0) = none) ∧ d = opDelta o.dst out := by
      unfold moves at hm
      split at hm
      · rename_i f args argTypes ho; exact absurd ⟨f, args, argTypes, ho⟩ hc
      · exact hm
    obtain ⟨out, g1, g2, g3, g4, rfl⟩ := hm'
    obtain ⟨v, w', im', pl', hr, hs⟩ := step_done hT ok h g1 g2 g3 g4 hd
    rw [opDelta_app] at hK
    unfold Oper.wp
    rcases hr with hr | ⟨hr, rfl⟩
    · rw [hr]; exact hK _ _ ⟨im', pl', hs⟩
    · rw [hr]; exact hK _ _ ⟨im', pl', hs⟩

end
end Go.Proofs.YtdhgdpcmdmgchaaGreat.Fw
