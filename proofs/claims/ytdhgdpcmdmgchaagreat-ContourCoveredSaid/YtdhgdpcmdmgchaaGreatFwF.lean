/- The framework's steps are the machine's: arithmetic and cuts. Conditions: none. -/
import Derived.Test.YtdhgdpcmdmgchaaGreatFwE
import Derived.Laws.StructEq
namespace Go.Proofs.YtdhgdpcmdmgchaaGreat.Fw
open Go
set_option linter.unusedSimpArgs false

section
variable {P : Program} {T : Tab} {c : Ctx} {im im' : Nat → Prop} {pl : Nat → Option Place} {s : St} {a : Act} {w : World}

theorem run_eqGuard_int (op : BinOp) (t : TypeId) (x y : Operand) (k k' : IntKind) (m n : Int) : (eqGuard op t x y (.int k m) (.int k' n)).run P w = .ok () w := by
  unfold eqGuard; split <;> simp
theorem run_eqGuard_bool (op : BinOp) (t : TypeId) (x y : Operand) (m n : Bool) : (eqGuard op t x y (.bool m) (.bool n)).run P w = .ok () w := by
  unfold eqGuard; split <;> simp

theorem run_binI {op : BinOp} {k : IntKind} {x y : Int} {p : Prop} {l : L} (h : binI op k x y = some (p, l)) (hp : p) (t : TypeId) : ∃ v, (Go.binOp op t (.int k x) (.int k y)).run P w = .ok v w ∧ RepL w im v l := by
  cases op <;> simp only [binI, Option.some.injEq, Prod.mk.injEq, reduceCtorEq] at h <;> obtain ⟨rfl, rfl⟩ := h
  all_goals first
    | (refine ⟨_, ?_, .int _ _⟩; simp only [Go.binOp, Op.intArith, ne_eq, not_true_eq_false, if_false]; rfl)
    | (refine ⟨_, ?_, .bool _⟩; simp only [Go.binOp, Op.intCmp, ne_eq, not_true_eq_false, if_false]; rfl)
    | (refine ⟨_, ?_, .int _ _⟩; simp only [Go.binOp, Op.intBits, ne_eq, not_true_eq_false, if_false]; rfl)
    | (refine ⟨_, ?_, .int _ _⟩; simp only [Go.binOp, Op.intDiv, ne_eq, not_true_eq_false, if_false, if_neg hp]; rfl)

theorem equalIn_bool (d : Nat) {t : Nat} (hu : P.underlying t = some .bool) (m n : Bool) : (Op.equalIn (d + 1) t (.bool m) (.bool n)).run P w = .ok (m == n) w := by
  simp only [Op.equalIn, Sem.run_bind, run_underlying hu, Result.andThen_ok]; rfl

theorem rep_agg {v : Value} {ls : List L} (h : RepA w im pl v (.ag ls)) : ∃ cs : List Value, v = .agg cs.toArray ∧ RepLs w im cs ls := by
  cases h with | ag h => exact ⟨_, rfl, h⟩

/-- A value of a type, from its cells. -/
def valOf (d : TD) (xs : List Value) : Value := if d.agg then .agg xs.toArray else xs.headD undef

theorem part_run {t : Nat} {d : TD} (h : TdOk P t d) {cs : List Value} {off : Nat} (hl : off + d.size ≤ cs.length) : (part t cs.toArray off).run P w = .ok (valOf d ((cs.drop off).take d.size)) w := by
  have hpos := h.pos
  have hlt : off < cs.length := by omega
  simp only [part, Sem.run_bind, h.isAgg, Result.andThen_ok, valOf]
  cases hag : d.agg with
  | true => simp [h.sizeOf]
  | false =>
    have e1 : ((cs.drop off).take d.size).headD undef = cs[off] := by
      rw [List.headD_eq_head?_getD, List.head?_take, List.head?_drop]
      simp [Nat.ne_of_gt hpos, hlt]
    rw [List.headD_eq_head?_getD] at e1
    simp [hlt, e1]

theorem eqv_run (hT : TabOk P T) (m : Nat) : ∀ (n t : Nat) (d : TD) (lx ly : List L) (xs ys : List Value) (r : Bool), T.td t = some d → T.eqv n t lx ly = some r → RepLs w im xs lx → RepLs w im ys ly →
    (Op.equalIn (m + n) t (valOf d xs) (valOf d ys)).run P w = .ok r w := by
  intro n
  induction n with
  | zero => intro t d lx ly xs ys r _ h; simp [Tab.eqv] at h
  | succ n ih =>
    intro t d lx ly xs ys r hd h hx hy
    simp only [Tab.eqv, hd] at h
    have ht := hT t d hd
    obtain ⟨u, hu, hag, _, hik, hb, hfl⟩ := ht.und
    split at h
    · rename_i he
      obtain ⟨hst, _, fs, hfs, hflds, hnm⟩ := ht.eqs he
      rw [hu] at hfs; cases hfs
      have hag' : d.agg = true := hag
      have hF : P.fieldsOf t = fs := by simp [Program.fieldsOf, hu]
      simp only [valOf, hag', if_true]
      rw [← Nat.add_assoc, run_equalIn_struct (P := P) w (m + n) t _ _ (by rw [hF]; exact hu) hst, hF]
      rw [← hflds] at h
      have key : ∀ (l : List Field) (r : Bool), (∀ f ∈ l, (f.name == "_") = false) → T.eqF (T.eqv n) (l.map (fun f => (f.offset, f.type))) lx ly = some r → (Op.eqFields (m + n) xs.toArray ys.toArray l).run P w = .ok r w := by
        intro l
        induction l with
        | nil => intro r _ h; simp [Tab.eqF] at h; subst h; simp [Op.eqFields]
        | cons f l ihl =>
          intro r hn h
          simp only [List.map_cons, Tab.eqF] at h
          cases hdf : T.td f.type with
          | none => simp [hdf] at h
          | some df =>
            simp only [hdf] at h
            split at h
            · rename_i hle
              cases hg : T.eqv n f.type (seg f.offset df.size lx) (seg f.offset df.size ly) with
              | none => simp [hg] at h
              | some b =>
                cases hr : T.eqF (T.eqv n) (l.map (fun f => (f.offset, f.type))) lx ly with
                | none => simp [hg, hr] at h
                | some b' =>
                  simp [hg, hr] at h
                  have hne : f.name ≠ "_" := by simpa using hn f (by simp)
                  have e1 := ih f.type df _ _ ((xs.drop f.offset).take df.size) ((ys.drop f.offset).take df.size) b hdf hg (hx.seg _ _) (hy.seg _ _)
                  have e2 := ihl b' (fun g hg => hn g (by simp [hg])) hr
                  simp only [Op.eqFields, if_pos hne, Sem.run_bind, part_run (P := P) (w := w) (hT _ _ hdf) (cs := xs) (off := f.offset) (by rw [hx.1]; exact hle.1), part_run (P := P) (w := w) (hT _ _ hdf) (cs := ys) (off := f.offset) (by rw [hy.1]; exact hle.2), e1, Result.andThen_ok]
                  subst h
                  cases b
                  · simp
                  · simpa using e2
            · simp at h
      exact key fs.toList r hnm h
    · have hrep1 : ∀ {l : L} {vs : List Value}, RepLs w im vs [l] → ∃ v, vs = [v] ∧ RepL w im v l := by
        intro l vs hv
        match vs, hv with
        | [v], hv => obtain ⟨v', h1, h2⟩ := hv.2 0 (by simp); simp at h1; subst h1; exact ⟨v, rfl, h2⟩
        | [], hv => have := hv.1; simp at this
        | _ :: _ :: _, hv => have := hv.1; simp at this
      split at h
      · rename_i k a k' b
        split at h
        · rename_i hc
          obtain ⟨hc, rfl⟩ := hc
          cases h
          obtain ⟨k0, hk0⟩ := Option.isSome_iff_exists.1 hc
          obtain rfl := hik k0 hk0
          have hag' : d.agg = false := hag
          obtain ⟨vx, rfl, h1⟩ := hrep1 hx
          obtain ⟨vy, rfl, h2⟩ := hrep1 hy
          cases h1; cases h2
          simp only [valOf, hag', Bool.false_eq_true, if_false, List.headD_cons]
          exact run_equalIn_int w (m + n) t k k0 a b hu
        · simp at h
      · rename_i a b
        split at h
        · rename_i hc
          cases h
          obtain rfl := hb hc
          have hag' : d.agg = false := hag
          obtain ⟨vx, rfl, h1⟩ := hrep1 hx
          obtain ⟨vy, rfl, h2⟩ := hrep1 hy
          cases h1; cases h2
          simp only [valOf, hag', Bool.false_eq_true, if_false, List.headD_cons]
          exact equalIn_bool (m + n) hu a b
        · simp at h
      · simp at h

theorem done_binOp (hT : TabOk P T) (h : SimI c im pl s a w) {o : Oper} {op : BinOp} {xt yt : Nat} {x y : Operand} (ho : o.op = .binOp op xt x y yt) {out : Out} (hs : step T (evO s.slots) s.blks o = some out) (hp : out.pre)
    (hd : ∀ t, o.dst = some t → t < c.nt) : Done P c o a w (s.out o.dst out) := by
  have hx := h.op x
  have hy := h.op y
  simp only [step, ho] at hs
  generalize evO s.slots x = ax at hs hx
  generalize evO s.slots y = ay at hs hy
  have plain : ∀ {p : Prop} {l : L} {v : Value}, (Go.binOp op xt (a.eval x) (a.eval y)).run P w = .ok v w → (eqGuard op xt x y (a.eval x) (a.eval y)).run P w = .ok () w → RepL w im v l →
      Done P c o a w (s.out o.dst { pre := p, v := .lf l }) := by
    intro p l v h1 h2 h3
    exact done_pure h (v := v) (by simp [execOp, ho, h1, h2]) (.lf h3) trivial hd
  cases ax with
  | lf lx => cases lx with
    | int k m => cases ay with
      | lf ly => cases ly with
        | int k' n =>
          have e1 := rep_int hx
          have e2 := rep_int hy
          have hg := run_eqGuard_int (P := P) (w := w) op xt x y k k' m n
          rw [← e1, ← e2] at hg
          simp only at hs
          split at hs
          · cases out_inj hs
            simp only at hp
            refine plain ?_ hg (.int k _)
            rw [e1, e2]; simp [Go.binOp, Op.shift, hp, show ¬ n < 0 by omega]
          · cases out_inj hs
            simp only at hp
            refine plain ?_ hg (.int k _)
            rw [e1, e2]; simp [Go.binOp, Op.shift, hp, show ¬ n < 0 by omega]
          · split at hs
            · rename_i hk
              subst hk
              split at hs
              · rename_i p l hb
                cases out_inj hs
                obtain ⟨v, h1, h2⟩ := run_binI (P := P) (w := w) (im := im) hb hp xt
                exact plain (by rw [e1, e2]; exact h1) hg h2
              · simp at hs
            · simp at hs
        | _ => simp at hs
      | _ => simp at hs
    | bool m => cases ay with
      | lf ly => cases ly with
        | bool n =>
          have e1 := rep_bool hx
          have e2 := rep_bool hy
          have hg := run_eqGuard_bool (P := P) (w := w) op xt x y m n
          rw [← e1, ← e2] at hg
          simp only at hs
          cases hd' : T.td xt with
          | none => simp [hd'] at hs
          | some d =>
            simp only [hd'] at hs
            split at hs
            · rename_i hB
              obtain ⟨u, hu, _, _, _, hb, _⟩ := (hT xt d hd').und
              obtain rfl := hb hB
              have heq : (Op.equal xt (.bool m) (.bool n)).run P w = .ok (m == n) w := equalIn_bool 9999 hu m n
              split at hs
              · cases out_inj hs
                exact plain (v := .bool (m == n)) (by rw [e1, e2]; simp only [Go.binOp, Sem.run_bind, heq, Result.andThen_ok]; rfl) hg (.bool _)
              · cases out_inj hs
                exact plain (v := .bool (!(m == n))) (by rw [e1, e2]; simp only [Go.binOp, Sem.run_bind, heq, Result.andThen_ok]; rfl) hg (.bool _)
              · simp at hs
            · simp at hs
        | _ => simp at hs
      | _ => simp at hs
    | _ => simp at hs
  | ag lx => cases ay with
    | ag ly =>
      have hx' := rep_agg hx
      have hy' := rep_agg hy
      obtain ⟨csx, hex, hx'⟩ := hx'
      obtain ⟨csy, hey, hy'⟩ := hy'
      · 
        simp only at hs
        cases hd' : T.td xt with
        | none => simp [hd'] at hs
        | some d =>
          simp only [hd'] at hs
          split at hs
          · rename_i hB
            cases he : T.eqv 5 xt lx ly with
            | none => simp [he] at hs
            | some r =>
              have ht := hT xt d hd'
              obtain ⟨_, hgt, fs, hfs, _, _⟩ := ht.eqs hB
              obtain ⟨u, hu, hag, _⟩ := ht.und
              rw [hu] at hfs; cases hfs
              have hag' : d.agg = true := hag
              have heq := eqv_run (P := P) (w := w) (im := im) hT 9995 5 xt d lx ly _ _ r hd' he hx' hy'
              simp only [valOf, hag', if_true] at heq
              simp only [he] at hs
              split at hs
              · cases out_inj hs
                refine plain (v := .bool r) ?_ ?_ (.bool _)
                · rw [hex, hey, run_eql_struct, heq]; rfl
                · rw [hex, hey]; exact run_eqGuard_agg w .eql xt x y _ _ hgt
              · cases out_inj hs
                refine plain (v := .bool (!r)) ?_ ?_ (.bool _)
                · rw [hex, hey, run_neq_struct, heq]; rfl
                · rw [hex, hey]; exact run_eqGuard_agg w .neq xt x y _ _ hgt
              · simp at hs
          · simp at hs
    | _ => simp at hs
  | _ => simp at hs

theorem done_unOp (h : SimI c im pl s a w) {o : Oper} {op : UnOp} {xt : Nat} {x : Operand} (ho : o.op = .unOp op xt x) {out : Out} (hs : step T (evO s.slots) s.blks o = some out)
    (hd : ∀ t, o.dst = some t → t < c.nt) : Done P c o a w (s.out o.dst out) := by
  have hx := h.op x
  simp only [step, ho] at hs
  generalize evO s.slots x = ax at hs hx
  split at hs
  · cases out_inj hs
    have e1 := rep_bool hx
    exact done_pure h (v := .bool _) (by simp [execOp, ho, e1, Op.unary]) (.lf (.bool _)) trivial hd
  · cases out_inj hs
    have e1 := rep_int hx
    exact done_pure h (v := .int _ _) (by simp only [execOp, ho, e1, Op.unary, Op.intArith]; rfl) (.lf (.int _ _)) trivial hd
  · simp at hs

theorem done_convert (hT : TabOk P T) (h : SimI c im pl s a w) {o : Oper} {src dst : Nat} {x : Operand} (ho : o.op = .convert src dst x) {out : Out} (hs : step T (evO s.slots) s.blks o = some out)
    (hd : ∀ t, o.dst = some t → t < c.nt) : Done P c o a w (s.out o.dst out) := by
  have hx := h.op x
  simp only [step, ho] at hs
  generalize evO s.slots x = ax at hs hx
  cases h1 : T.td src with
  | none => simp [h1] at hs
  | some d1 =>
    cases h2 : T.td dst with
    | none => simp [h1, h2] at hs
    | some d2 =>
      simp only [h1, h2] at hs
      cases hik : d2.ik with
      | none => simp [hik] at hs
      | some k =>
        simp only [hik] at hs
        split at hs
        · rename_i k1 k2 kk n heq1
          cases heq1
          cases out_inj hs
          have e1 := rep_int hx
          obtain ⟨u1, hu1, _⟩ := (hT src d1 h1).und
          obtain ⟨u2, hu2, _, _, hk, _⟩ := (hT dst d2 h2).und
          obtain rfl := hk k hik
          refine done_pure h (v := .int k (k.wrap n)) ?_ (.lf (.int _ _)) trivial hd
          simp only [execOp, ho, e1, Go.convert, Sem.run_bind, run_underlying hu1, run_underlying hu2, Result.andThen_ok]
          simp [Conv.intToInt]
        · simp at hs

theorem done_extract (h : SimI c im pl s a w) {o : Oper} {i : Nat} {x : Operand} (ho : o.op = .extract x i) {out : Out} (hs : step T (evO s.slots) s.blks o = some out)
    (hd : ∀ t, o.dst = some t → t < c.nt) : Done P c o a w (s.out o.dst out) := by
  have hx := h.op x
  have hwf := h.opwf x
  simp only [step, ho] at hs
  generalize hv : a.eval x = v at hx
  generalize evO s.slots x = ax at hs hx hwf
  cases hx with
  | tup hl hall =>
    rename_i vs as
    simp only at hs
    split at hs
    · rename_i av hav
      cases out_inj hs
      obtain ⟨hi, rfl⟩ := List.getElem?_eq_some_iff.1 hav
      refine done_pure h (v := vs[i]'(by omega)) (by simp [execOp, ho, hv, Instr.extract, show i < vs.length by omega]) (hall i hi (by omega)) ?_ hd
      simp only [AV.wf] at hwf
      exact wfs_iff.1 hwf _ (List.getElem_mem hi)
    · simp at hs
  | _ => simp at hs

theorem Tab.esz_spec (hT : TabOk P T) {t sz : Nat} (h : T.esz t = some sz) : ∃ e de, P.underlying t = some (.slice e) ∧ TdOk P e de ∧ de.size = sz := by
  simp only [Tab.esz] at h
  cases h1 : T.td t with
  | none => simp [h1] at h
  | some d =>
    simp only [h1] at h
    cases h2 : d.elem with
    | none => simp [h2] at h
    | some e =>
      simp only [h2] at h
      cases h3 : T.td e with
      | none => simp [h3] at h
      | some de =>
        simp [h3] at h
        obtain ⟨u, hu, _, hel, _⟩ := (hT t d h1).und
        obtain rfl := hel e h2
        exact ⟨e, de, hu, hT e de h3, h⟩

theorem done_len (hT : TabOk P T) (h : SimI c im pl s a w) {o : Oper} {args : Array Operand} {argTypes : Array TypeId} (ho : o.op = .call { callee := .builtin .len, args, argTypes }) {out : Out} (hs : step T (evO s.slots) s.blks o = some out)
    (hd : ∀ t, o.dst = some t → t < c.nt) : Done P c o a w (s.out o.dst out) := by
  simp only [step, ho] at hs
  split at hs
  · rename_i x t hx1 ht1
    have ha : args = #[x] := by cases args; simp at hx1; simp [hx1]
    have ht : argTypes = #[t] := by cases argTypes; simp at ht1; simp [ht1]
    subst ha ht
    have hx := h.op x
    cases hsz : T.esz t with
    | none => simp [hsz] at hs
    | some sz =>
      simp only [hsz] at hs
      obtain ⟨e, de, hu, _, _⟩ := Tab.esz_spec hT hsz
      generalize hv : a.eval x = v at hx
      generalize evO s.slots x = ax at hs hx
      have hrun : ∀ {A : Option Addr} {n cp : Nat}, v = .slice A n cp → (execOp a.eval o).run P w = .ok (.value (.int .i64 n)) w := by
        intro A n cp e
        simp [execOp, ho, resolve, invoke, Go.builtin, Builtin.len_, run_underlying hu, hv, e, goInt]
      cases hx with
      | row0 A i sz' off => cases out_inj hs; exact done_pure h (hrun rfl) (.lf (.int _ _)) trivial hd
      | row g1 g2 g3 => cases out_inj hs; exact done_pure h (hrun rfl) (.lf (.int _ _)) trivial hd
      | lf hr => cases hr with
        | sl0 A cp sz' => cases out_inj hs; exact done_pure h (hrun rfl) (.lf (.int _ _)) trivial hd
        | sl b q n cp sz' cs vf hb hl hc hvv hrr => cases out_inj hs; exact done_pure h (hrun rfl) (.lf (.int _ _)) trivial hd
        | _ => simp at hs
      | _ => simp at hs
  · simp at hs

theorem done_max (h : SimI c im pl s a w) {o : Oper} {args : Array Operand} {argTypes : Array TypeId} (ho : o.op = .call { callee := .builtin .max, args, argTypes }) {out : Out} (hs : step T (evO s.slots) s.blks o = some out)
    (hd : ∀ t, o.dst = some t → t < c.nt) : Done P c o a w (s.out o.dst out) := by
  simp only [step, ho] at hs
  split at hs
  · rename_i x y hx1
    have ha : args = #[x, y] := by cases args; simp at hx1; simp [hx1]
    subst ha
    have hx := h.op x
    have hy := h.op y
    generalize evO s.slots x = ax at hs hx
    generalize evO s.slots y = ay at hs hy
    split at hs
    · cases out_inj hs
      have e1 := rep_int hx
      have e2 := rep_int hy
      exact done_pure h (v := .int _ _) (by simp [execOp, ho, resolve, invoke, Go.builtin, Builtin.max_, Builtin.max2, e1, e2]) (.lf (.int _ _)) trivial hd
    · simp at hs
  · simp at hs

theorem done_min (h : SimI c im pl s a w) {o : Oper} {args : Array Operand} {argTypes : Array TypeId} (ho : o.op = .call { callee := .builtin .min, args, argTypes }) {out : Out} (hs : step T (evO s.slots) s.blks o = some out)
    (hd : ∀ t, o.dst = some t → t < c.nt) : Done P c o a w (s.out o.dst out) := by
  simp only [step, ho] at hs
  split at hs
  · rename_i x y hx1
    have ha : args = #[x, y] := by cases args; simp at hx1; simp [hx1]
    subst ha
    have hx := h.op x
    have hy := h.op y
    generalize evO s.slots x = ax at hs hx
    generalize evO s.slots y = ay at hs hy
    split at hs
    · cases out_inj hs
      have e1 := rep_int hx
      have e2 := rep_int hy
      exact done_pure h (v := .int _ _) (by simp [execOp, ho, resolve, invoke, Go.builtin, Builtin.min_, Builtin.min2, e1, e2]) (.lf (.int _ _)) trivial hd
    · simp at hs
  · simp at hs

/-- What a slice expression cuts out. -/
theorem bnd_val (h : SimI c im pl s a w) {d : Nat} {x : Option Operand} {n : Int} (hb : bndOf (evO s.slots) d x = some n) :
    (x = none ∧ n = d) ∨ ∃ y k, x = some y ∧ a.eval y = .int k n := by
  cases x with
  | none => simp [bndOf] at hb; exact .inl ⟨rfl, hb.symm⟩
  | some y =>
    simp only [bndOf] at hb
    have hy := h.op y
    generalize evO s.slots y = ay at hb hy
    split at hb
    · rename_i k m
      cases hb
      exact .inr ⟨y, k, rfl, rep_int hy⟩
    · simp at hb

theorem run_slice_gen {t e : Nat} {de : TD} (hu : P.underlying t = some (.slice e)) (hde : TdOk P e de) {A : Option Addr} {len cp : Nat} {lo hi mx : Option Operand} {l hh m : Int} (ev : Operand → Value)
    (hl : (lo = none ∧ l = 0) ∨ ∃ y k, lo = some y ∧ ev y = .int k l) (hhi : (hi = none ∧ hh = len) ∨ ∃ y k, hi = some y ∧ ev y = .int k hh)
    (hm : (mx = none ∧ m = cp) ∨ ∃ y k, mx = some y ∧ ev y = .int k m ∧ hi.isSome = true) (h0 : 0 ≤ l) (h1 : l ≤ hh) (h2 : hh ≤ m) (h3 : m ≤ cp) :
    (Instr.sliceAt t (.slice A len cp) (lo.map ev) (hi.map ev) (mx.map ev)).run P w =
      .ok (.slice (if m.toNat = l.toNat then A else A.map (·.add (l.toNat * de.size))) (hh.toNat - l.toNat) (m.toNat - l.toNat)) w := by
  have hm0 : 0 ≤ m := by omega
  have hh0 : 0 ≤ hh := by omega
  have em0 : max m 0 = m := by omega
  have eh0 : max hh 0 = hh := by omega
  rcases hl with ⟨rfl, rfl⟩ | ⟨yl, kl, rfl, el⟩ <;> rcases hhi with ⟨rfl, rfl⟩ | ⟨yh, kh, rfl, eh⟩ <;> rcases hm with ⟨rfl, rfl⟩ | ⟨ym, km, rfl, em, hsome⟩ <;>
    first
    | (simp at hsome; done)
    | (simp [Instr.sliceAt, run_underlying hu, Instr.slice, Instr.sliceBounds, Instr.sliceBound, asIntOf, hde.sizeOf, *]; done)

theorem seg_zero (p : Nat) (cs : List L) : seg p 0 cs = [] := by simp [seg]

/-- What is cut out of a list that is only read. -/
theorem rep_cut {b o n sz : Nat} {cs : List L} {vf : Nat → Value} (hb : im b) (hl : cs.length = n * sz)
    (hv : ∀ p, p < cs.length → w.cell? ⟨b, o + p, none⟩ = some (vf p)) (hr : ∀ p (h : p < cs.length), RepL w im (vf p) cs[p]) {l h m : Nat} (h1 : l ≤ h) (h2 : h ≤ n) (h3 : h ≤ m) {A : Option Addr} (hA : l < h → A = some ⟨b, o + l * sz, none⟩) :
    RepL w im (.slice A (h - l) (m - l)) (.sl sz (h - l) (seg (l * sz) ((h - l) * sz) cs)) := by
  by_cases e : l < h
  · rw [hA e]
    have hseg : (seg (l * sz) ((h - l) * sz) cs).length = (h - l) * sz := by
      simp only [seg, List.length_take, List.length_drop, hl]
      have e1 : (l + (h - l)) * sz ≤ n * sz := Nat.mul_le_mul_right _ (by omega)
      rw [Nat.add_mul] at e1
      omega
    refine .sl b _ (h - l) (m - l) sz _ (fun p => vf (l * sz + p)) hb hseg (by omega) (fun p hp => ?_) (fun p hp => ?_)
    · have hlt : l * sz + p < cs.length := by
        rw [hseg] at hp; rw [hl]
        have e1 : (l + (h - l)) * sz ≤ n * sz := Nat.mul_le_mul_right _ (by omega)
        rw [Nat.add_mul] at e1
        omega
      rw [Nat.add_assoc]; exact hv _ hlt
    · have hlt : l * sz + p < cs.length := by
        rw [hseg] at hp; rw [hl]
        have e1 : (l + (h - l)) * sz ≤ n * sz := Nat.mul_le_mul_right _ (by omega)
        rw [Nat.add_mul] at e1
        omega
      have : (seg (l * sz) ((h - l) * sz) cs)[p] = cs[l * sz + p] := by simp [seg]
      rw [this]; exact hr _ hlt
  · have e0 : h - l = 0 := by omega
    rw [e0, Nat.zero_mul, seg_zero]
    exact .sl0 A _ sz

theorem cut_row {i sz off len : Nat} {v : Value} (hx : RepA w im pl v (.row i sz off len)) : ∃ A cp, v = .slice A len cp ∧ len ≤ cp ∧
    ∀ l h m : Nat, l ≤ h → h ≤ len → h ≤ m → m ≤ cp → RepA w im pl (.slice (if m = l then A else A.map (·.add (l * sz))) (h - l) (m - l)) (.row i sz (off + l) (h - l)) := by
  cases hx with
  | row0 A =>
    refine ⟨A, 0, rfl, Nat.le_refl _, fun l h m h1 h2 h3 h4 => ?_⟩
    obtain rfl : h = 0 := by omega
    obtain rfl : l = 0 := by omega
    obtain rfl : m = 0 := by omega
    exact .row0 _ _ _ _
  | row hp g1 g2 =>
    rename_i cp p
    refine ⟨_, cp, rfl, g2, fun l h m h1 h2 h3 h4 => ?_⟩
    by_cases e : m = l
    · obtain rfl : h = l := by omega
      subst e
      simp only [Nat.sub_self]
      exact .row0 _ _ _ _
    · rw [if_neg e]
      simp only [Option.map_some, addr_add]
      have e1 : p.o + off * sz + l * sz = p.o + (off + l) * sz := by rw [Nat.add_mul]; omega
      rw [e1]
      exact .row hp (by omega) (by omega)

theorem cut_sl {sz len : Nat} {cs : List L} {v : Value} (hx : RepA w im pl v (.lf (.sl sz len cs))) : ∃ A cp, v = .slice A len cp ∧ len ≤ cp ∧
    ∀ l h m : Nat, l ≤ h → h ≤ len → h ≤ m → m ≤ cp → RepA w im pl (.slice (if m = l then A else A.map (·.add (l * sz))) (h - l) (m - l)) (.lf (.sl sz (h - l) (seg (l * sz) ((h - l) * sz) cs))) := by
  cases hx with
  | lf hr => cases hr with
    | sl0 A cp sz =>
      refine ⟨A, cp, rfl, by omega, fun l h m h1 h2 h3 h4 => .lf ?_⟩
      have : h - l = 0 := by omega
      rw [this, Nat.zero_mul, seg_zero]; exact .sl0 _ _ _
    | sl b q n cp sz cs vf hb hl hc hvv hrr =>
      refine ⟨_, cp, rfl, hc, fun l h m h1 h2 h3 h4 => .lf (rep_cut hb hl hvv hrr h1 h2 h3 (fun hlt => ?_))⟩
      rw [if_neg (by omega)]
      simp [addr_add]

theorem done_slice (hT : TabOk P T) (h : SimI c im pl s a w) {o : Oper} {t : Nat} {x : Operand} {lo hi mx : Option Operand} (ho : o.op = .slice t x lo hi mx) {out : Out} (hs : step T (evO s.slots) s.blks o = some out) (hp : out.pre)
    (hd : ∀ t, o.dst = some t → t < c.nt) : Done P c o a w (s.out o.dst out) := by
  have hx := h.op x
  have hwf := h.opwf x
  simp only [step, ho] at hs
  cases hsz : T.esz t with
  | none => simp [hsz] at hs
  | some sz =>
    simp only [hsz] at hs
    obtain ⟨e, de, hu, hde, rfl⟩ := Tab.esz_spec hT hsz
    generalize hv : a.eval x = v at hx
    generalize evO s.slots x = ax at hs hx hwf
    -- the run, whatever the slice
    have hrun : ∀ {A : Option Addr} {len cp : Nat} {l hh m : Int}, v = .slice A len cp → bndOf (evO s.slots) 0 lo = some l → bndOf (evO s.slots) len hi = some hh →
        ((mx = none ∧ m = cp) ∨ (bndOf (evO s.slots) 0 mx = some m ∧ hi.isSome = true ∧ mx.isSome = true)) → 0 ≤ l → l ≤ hh → hh ≤ m → m ≤ cp →
        (execOp a.eval o).run P w = .ok (.value (.slice (if m.toNat = l.toNat then A else A.map (·.add (l.toNat * de.size))) (hh.toNat - l.toNat) (m.toNat - l.toNat))) w := by
      intro A len cp l hh m ev h1 h2 h3 g0 g1 g2 g3
      have e3 : (mx = none ∧ m = cp) ∨ ∃ y k, mx = some y ∧ a.eval y = .int k m ∧ hi.isSome = true := by
        rcases h3 with h3 | ⟨h3, h4, h5⟩
        · exact .inl h3
        · rcases bnd_val h h3 with ⟨h6, _⟩ | ⟨y, k, h6, h7⟩
          · simp [h6] at h5
          · exact .inr ⟨y, k, h6, h7, h4⟩
      have := run_slice_gen (P := P) (w := w) hu hde (A := A) (len := len) (cp := cp) a.eval (bnd_val h h1) (bnd_val h h2) e3 g0 g1 g2 g3
      simp [execOp, ho, hv, ev, this]
    have fin : ∀ {av : AV} {len cp : Nat} {A : Option Addr} {l hh m : Int}, v = .slice A len cp → bndOf (evO s.slots) 0 lo = some l → bndOf (evO s.slots) len hi = some hh →
        ((mx = none ∧ m = cp) ∨ (bndOf (evO s.slots) 0 mx = some m ∧ hi.isSome = true ∧ mx.isSome = true)) → 0 ≤ l → l ≤ hh → hh ≤ m → m ≤ cp →
        RepA w im pl (.slice (if m.toNat = l.toNat then A else A.map (·.add (l.toNat * de.size))) (hh.toNat - l.toNat) (m.toNat - l.toNat)) av → av.wf s.blks → ∀ p,
        Done P c o a w (s.out o.dst { pre := p, v := av }) := by
      intro av len cp A l hh m ev h1 h2 h3 g0 g1 g2 g3 hrep hw p
      exact done_pure h (hrun ev h1 h2 h3 g0 g1 g2 g3) hrep hw hd
    cases ax with
    | row i sz' off len =>
      obtain ⟨A, cp, rfl, hlc, hcut⟩ := cut_row hx
      obtain ⟨k, hk1, hk2, hk3⟩ := hwf
      simp only at hs
      split at hs
      · rename_i l hh hl hhh
        split at hs
        · split at hs
          · rename_i hsz'
            subst hsz'
            cases out_inj hs
            simp only at hp
            exact fin rfl hl hhh (.inl ⟨rfl, rfl⟩) hp.1 hp.2.1 (by omega) (Int.le_refl _) (hcut _ _ _ (by omega) (by omega) (by omega) (by omega)) ⟨k, hk1, hk2, by omega⟩ _
          · simp at hs
        · split at hs
          · rename_i m' m hm
            split at hs
            · rename_i hsz'
              obtain ⟨hsz', hsome⟩ := hsz'
              subst hsz'
              cases out_inj hs
              simp only at hp
              exact fin rfl hl hhh (.inr ⟨hm, hsome, rfl⟩) hp.1 hp.2.1 hp.2.2.1 (by omega) (hcut _ _ _ (by omega) (by omega) (by omega) (by omega)) ⟨k, hk1, hk2, by omega⟩ _
            · simp at hs
          · simp at hs
      · simp at hs
    | lf q => cases q with
      | sl sz' len cs =>
        obtain ⟨A, cp, rfl, hlc, hcut⟩ := cut_sl hx
        simp only at hs
        split at hs
        · rename_i l hh hl hhh
          split at hs
          · split at hs
            · rename_i hsz'
              subst hsz'
              cases out_inj hs
              simp only at hp
              exact fin rfl hl hhh (.inl ⟨rfl, rfl⟩) hp.1 hp.2.1 (by omega) (Int.le_refl _) (hcut _ _ _ (by omega) (by omega) (by omega) (by omega)) trivial _
            · simp at hs
          · split at hs
            · rename_i m' m hm
              split at hs
              · rename_i hsz'
                obtain ⟨hsz', hsome⟩ := hsz'
                subst hsz'
                cases out_inj hs
                simp only at hp
                exact fin rfl hl hhh (.inr ⟨hm, hsome, rfl⟩) hp.1 hp.2.1 hp.2.2.1 (by omega) (hcut _ _ _ (by omega) (by omega) (by omega) (by omega)) trivial _
              · simp at hs
            · simp at hs
        · simp at hs
      | _ => simp at hs
    | _ => simp at hs

end
end Go.Proofs.YtdhgdpcmdmgchaaGreat.Fw
