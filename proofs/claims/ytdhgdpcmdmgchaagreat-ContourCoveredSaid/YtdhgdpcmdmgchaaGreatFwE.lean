/- The framework's steps are the machine's: operations that make nothing. Conditions: none. -/
import Derived.Test.YtdhgdpcmdmgchaaGreatFwD
namespace Go.Proofs.YtdhgdpcmdmgchaaGreat.Fw
open Go

def St.putD (s : St) (d : Option Nat) (x : AV) : St :=
  match d with
  | some d => s.put d x
  | none => s
def St.updO (s : St) (u : Option (Nat × Blk)) : St :=
  match u with
  | some (i, k) => s.setB i k
  | none => s
def St.mkO (s : St) (i : Nat) (m : Option Blk) : St :=
  match m with
  | some k => s.setB i k
  | none => s
def St.out (s : St) (dst : Option Nat) (o : Out) : St := (((s.frz o.frz).updO o.upd).mkO (idOf dst 0) o.mak).putD dst o.v

section
variable {P : Program} {T : Tab} {c : Ctx} {im im' : Nat → Prop} {pl : Nat → Option Place} {s : St} {a : Act} {w : World}

/-- The operation has run, and the state behind it is s'. -/
def Done (P : Program) (c : Ctx) (o : Oper) (a : Act) (w : World) (s' : St) : Prop :=
  ∃ v w' im' pl', ((execOp a.eval o).run P w = .ok (.value v) w' ∨ ((execOp a.eval o).run P w = .ok .skip w' ∧ v = undef)) ∧ SimI c im' pl' s' (a.put o.dst v) w'

theorem SimI.putD (h : SimI c im pl s a w) {d : Option Nat} {v : Value} {x : AV} (hx : RepA w im pl v x) (hi : x.wf s.blks) (hd : ∀ t, d = some t → t < c.nt) :
    SimI c im pl (s.putD d x) (a.put d v) w := by
  cases d with
  | none => exact h
  | some d => exact h.put hx hi (hd d rfl)

/-- An operation that only yields a value. -/
theorem done_pure (h : SimI c im pl s a w) {o : Oper} {v : Value} {x : AV} (hr : (execOp a.eval o).run P w = .ok (.value v) w) (hx : RepA w im pl v x) (hi : x.wf s.blks) (hd : ∀ t, o.dst = some t → t < c.nt) :
    Done P c o a w (s.out o.dst { pre := True, v := x }) :=
  ⟨v, w, im, pl, .inl hr, h.putD hx hi hd⟩

theorem rep_int {v : Value} {k : IntKind} {n : Int} (h : RepA w im pl v (.lf (.int k n))) : v = .int k n := by cases h with | lf h => cases h; rfl
theorem rep_nils {v : Value} (h : RepA w im pl v .nils) : v = .slice none 0 0 := by cases h; rfl
theorem rep_bool {v : Value} {b : Bool} (h : RepA w im pl v (.lf (.bool b))) : v = .bool b := by cases h with | lf h => cases h; rfl

theorem out_inj {x y : Out} (h : some x = some y) : x = y := by cases h; rfl

theorem done_move (ok : CtxOk c) (h : SimI c im pl s a w) {o : Oper} {x : Operand} (ho : o.op = .move x ∨ o.op = .assign x) {out : Out} (hs : step T (evO s.slots) s.blks o = some out) (hp : out.pre)
    (hm : out.mak ≠ none → s.blks (idOf o.dst 0) = none) (hd : ∀ t, o.dst = some t → t < c.nt) : Done P c o a w (s.out o.dst out) := by
  have hx := h.op x
  have hwf := h.opwf x
  have hr : (execOp a.eval o).run P w = .ok (.value (a.eval x)) w := by rcases ho with ho | ho <;> simp [execOp, ho]
  have hstep : (if isNil x = true then match T.esz o.type with
      | some sz => some ({ pre := True, v := .row (idOf o.dst 0) sz 0 0, mak := some ⟨sz, 0, [], 0⟩ } : Out)
      | none => none
    else some { pre := True, v := evO s.slots x }) = some out := by
    rw [← hs]; rcases ho with ho | ho <;> simp only [step, ho] <;> cases isNil x <;> cases T.esz o.type <;> rfl
  clear hs
  split at hstep
  · rename_i hnil
    split at hstep
    · rename_i sz _
      cases out_inj hstep
      have hnew := hm (by simp)
      have hvx : a.eval x = .slice none 0 0 := by
        unfold isNil at hnil
        split at hnil
        · rfl
        · cases hnil
      rw [hvx] at hr
      refine ⟨_, w, im, _, .inl hr, ((h.adopt0 ok hnew (by unfold idOf; omega) sz).putD (x := .row (idOf o.dst 0) sz 0 0) (.row0 none _ _ _) ?_ hd)⟩
      exact ⟨⟨sz, 0, [], 0⟩, by simp [St.setB], rfl, by simp⟩
    · simp at hstep
  · cases out_inj hstep
    exact done_pure h hr hx hwf hd

theorem done_pick (h : SimI c im pl s a w) {o : Oper} {b x y : Operand} (ho : o.op = .pick b x y) {out : Out} (hs : step T (evO s.slots) s.blks o = some out)
    (hd : ∀ t, o.dst = some t → t < c.nt) : Done P c o a w (s.out o.dst out) := by
  have hb := h.op b
  simp only [step, ho] at hs
  generalize evO s.slots b = av at hs hb
  cases av with
  | lf l => cases l with
    | bool t =>
      cases out_inj hs
      have := rep_bool hb
      refine done_pure h (v := if t then a.eval x else a.eval y) ?_ ?_ ?_ hd
      · simp [execOp, ho, this, asBool]
      · cases t
        · exact h.op y
        · exact h.op x
      · cases t
        · exact h.opwf y
        · exact h.opwf x
    | _ => simp at hs
  | _ => simp at hs

theorem done_load (hT : TabOk P T) (h : SimI c im pl s a w) {o : Oper} {t : Nat} {x : Operand} (ho : o.op = .load t x) {out : Out} (hs : step T (evO s.slots) s.blks o = some out) (hp : out.pre)
    (hd : ∀ t, o.dst = some t → t < c.nt) : Done P c o a w (s.out o.dst out) := by
  have hx := h.op x
  have hwf := h.opwf x
  simp only [step, ho] at hs
  cases hd' : T.td t with
  | none => simp [hd'] at hs
  | some d =>
    simp only [hd'] at hs
    have ht := hT t d hd'
    generalize hv : a.eval x = v at hx
    generalize evO s.slots x = av at hs hx hwf
    have hrun : ∀ {b q : Nat} {vs : List Value}, v = .pointer (some ⟨b, q, none⟩) → vs.length = d.size → (∀ (j : Nat) u, vs[j]? = some u → w.cell? ⟨b, q + j, none⟩ = some u) →
        (execOp a.eval o).run P w = .ok (.value (if d.agg then .agg vs.toArray else vs.headD undef)) w := by
      intro b q vs e hl hc
      simp [execOp, ho, hv, e, Instr.loadAt, Instr.sureAddr, load_run ht hl hc]
    cases hx with
    | ad hpl =>
      rename_i i q p
      obtain ⟨k, hk⟩ := hwf
      simp only [hk] at hs
      split at hs
      · rename_i hst
        cases out_inj hs
        obtain ⟨hl, hB⟩ := h.blks i k hk
        simp only at hp
        rw [← hl] at hp
        rcases hB with hB | ⟨hB, _⟩ | ⟨p', cur, e, vs, g1, g2, g3, g4, g5, g6, g7, g8, g9, g10⟩
        · omega
        · rw [hB] at hpl; cases hpl
        · rw [g1] at hpl; cases hpl
          refine done_pure h (hrun (vs := (vs.drop q).take d.size) rfl (load_len g7 hp) (fun j u hj => ?_)) (load_rep ht g7 hp) wf_load hd
          rw [List.getElem?_take] at hj
          split at hj
          · rw [List.getElem?_drop] at hj
            exact cell_at g2 (by rw [Nat.add_assoc]; exact g6 _ _ hj)
          · cases hj
      · simp at hs
    | pt hb hl hvs hr =>
      rename_i sz n q cs b o' vs
      cases out_inj hs
      simp only at hp
      rw [← hl] at hp
      refine done_pure h (hrun (vs := (vs.drop q).take d.size) rfl (load_len hr hp) (fun j u hj => ?_)) (load_rep ht hr hp) wf_load hd
      rw [List.getElem?_take] at hj
      split at hj
      · rw [List.getElem?_drop] at hj
        rw [Nat.add_assoc]; exact hvs _ _ hj
      · cases hj
    | _ => simp at hs

theorem done_fieldAddr (hT : TabOk P T) (h : SimI c im pl s a w) {o : Oper} {t f : Nat} {x : Operand} (ho : o.op = .fieldAddr t x f) {out : Out} (hs : step T (evO s.slots) s.blks o = some out)
    (hd : ∀ t, o.dst = some t → t < c.nt) : Done P c o a w (s.out o.dst out) := by
  have hx := h.op x
  have hwf := h.opwf x
  simp only [step, ho] at hs
  cases hd' : T.td t with
  | none => simp [hd'] at hs
  | some d =>
    simp only [hd', Tab.fld] at hs
    have ht := hT t d hd'
    cases hf : d.flds[f]? with
    | none => simp [hf] at hs
    | some oft =>
      obtain ⟨off, ft⟩ := oft
      simp only [hf] at hs
      cases hft : T.td ft with
      | none => simp [hft] at hs
      | some df =>
        simp only [hft] at hs
        have htf := hT ft df hft
        obtain ⟨u, hu, _, _, _, _, hfl⟩ := ht.und
        obtain ⟨fs, rfl, hfs, _⟩ := hfl (by intro e; simp [e] at hf)
        have hff : ∃ fd, fs[f]? = some fd ∧ fd.offset = off ∧ fd.type = ft := by
          rw [← hfs] at hf
          rw [List.getElem?_map] at hf
          cases hq : fs.toList[f]? with
          | none => simp [hq] at hf
          | some fd => simp [hq] at hf; exact ⟨fd, by simpa using hq, hf.1, hf.2⟩
        obtain ⟨fd, hfd, rfl, rfl⟩ := hff
        generalize hv : a.eval x = v at hx
        generalize evO s.slots x = av at hs hx hwf
        have hpos := htf.pos
        have hrun : ∀ {b q : Nat}, v = .pointer (some ⟨b, q, none⟩) → (execOp a.eval o).run P w = .ok (.value (.pointer (some ⟨b, q + fd.offset, none⟩))) w := by
          intro b q e
          simp [execOp, ho, hv, e, Instr.fieldAt, run_underlying hu, hfd, Instr.sureAddr, fieldPlace, htf.sizeOf, Nat.ne_of_gt hpos, addr_add]
        cases hx with
        | ad hpl =>
          cases out_inj hs
          exact done_pure h (hrun rfl) (by rw [Nat.add_assoc]; exact .ad hpl) hwf hd
        | pt hb hl hvs hr =>
          cases out_inj hs
          exact done_pure h (hrun rfl) (by rw [Nat.add_assoc]; exact .pt hb hl hvs hr) trivial hd
        | _ => simp at hs

theorem done_field (hT : TabOk P T) (h : SimI c im pl s a w) {o : Oper} {t f : Nat} {x : Operand} (ho : o.op = .field t x f) {out : Out} (hs : step T (evO s.slots) s.blks o = some out) (hp : out.pre)
    (hd : ∀ t, o.dst = some t → t < c.nt) : Done P c o a w (s.out o.dst out) := by
  have hx := h.op x
  simp only [step, ho] at hs
  cases hd' : T.td t with
  | none => simp [hd'] at hs
  | some d =>
    simp only [hd', Tab.fld] at hs
    have ht := hT t d hd'
    cases hf : d.flds[f]? with
    | none => simp [hf] at hs
    | some oft =>
      obtain ⟨off, ft⟩ := oft
      simp only [hf] at hs
      cases hft : T.td ft with
      | none => simp [hft] at hs
      | some df =>
        simp only [hft] at hs
        have htf := hT ft df hft
        obtain ⟨u, hu, _, _, _, _, hfl⟩ := ht.und
        obtain ⟨fs, rfl, hfs, _⟩ := hfl (by intro e; simp [e] at hf)
        have hff : ∃ fd, fs[f]? = some fd ∧ fd.offset = off ∧ fd.type = ft := by
          rw [← hfs] at hf
          rw [List.getElem?_map] at hf
          cases hq : fs.toList[f]? with
          | none => simp [hq] at hf
          | some fd => simp [hq] at hf; exact ⟨fd, by simpa using hq, hf.1, hf.2⟩
        obtain ⟨fd, hfd, rfl, rfl⟩ := hff
        generalize hv : a.eval x = v at hx
        generalize evO s.slots x = av at hs hx
        cases hx with
        | ag hr =>
          rename_i cs ls
          cases out_inj hs
          simp only at hp
          have hpos := htf.pos
          refine done_pure h (v := if df.agg then .agg ((cs.drop fd.offset).take df.size).toArray else ((cs.drop fd.offset).take df.size).headD undef) ?_ (load_rep htf hr hp) wf_load hd
          have hlt : fd.offset < cs.length := by rw [hr.1]; omega
          simp only [execOp, ho, hv, Instr.field, Sem.run_bind, run_underlying hu, Result.andThen_ok, hfd, asAgg, Sem.run_pure, part, htf.isAgg]
          cases hag : df.agg with
          | true =>
            simp [htf.sizeOf]
          | false =>
            have e1 : ((cs.drop fd.offset).take df.size).headD undef = cs[fd.offset] := by
              rw [List.headD_eq_head?_getD, List.head?_take, List.head?_drop]
              simp [Nat.ne_of_gt hpos, hlt]
            rw [List.headD_eq_head?_getD] at e1
            simp [hlt, e1]
        | _ => simp at hs

theorem done_indexAddr (hT : TabOk P T) (h : SimI c im pl s a w) {o : Oper} {t : Nat} {x ix : Operand} (ho : o.op = .indexAddr t x ix) {out : Out} (hs : step T (evO s.slots) s.blks o = some out) (hp : out.pre)
    (hd : ∀ t, o.dst = some t → t < c.nt) : Done P c o a w (s.out o.dst out) := by
  have hx := h.op x
  have hix := h.op ix
  have hwf := h.opwf x
  simp only [step, ho, Tab.esz] at hs
  cases hd' : T.td t with
  | none => simp [hd'] at hs
  | some d =>
    simp only [hd'] at hs
    cases he : d.elem with
    | none => simp [he] at hs
    | some e =>
      simp only [he] at hs
      cases hte : T.td e with
      | none => simp [hte] at hs
      | some de =>
        simp only [hte] at hs
        have ht := hT t d hd'
        have hte := hT e de hte
        obtain ⟨u, hu, _, hel, _⟩ := ht.und
        obtain rfl := hel e he
        generalize evO s.slots ix = ai at hs hix
        cases ai with
        | lf l => cases l with
          | int k n =>
            have hn := rep_int hix
            simp only at hs
            generalize hv : a.eval x = v at hx
            generalize evO s.slots x = av at hs hx hwf
            have hrun : ∀ {b q len cp : Nat}, v = .slice (some ⟨b, q, none⟩) len cp → 0 ≤ n → n < (len : Int) → (execOp a.eval o).run P w = .ok (.value (.pointer (some ⟨b, q + n.toNat * de.size, none⟩))) w := by
              intro b q len cp e h0 h1
              simp [execOp, ho, hv, e, hn, Instr.indexAt, asIntOf, run_underlying hu, h0, h1, hte.sizeOf, addr_add]
            cases hx with
            | row0 A i sz off =>
              simp only at hs
              split at hs
              · cases out_inj hs; simp only at hp; omega
              · simp at hs
            | row g1 g2 g3 =>
              rename_i i sz off len cp p
              simp only at hs
              split at hs
              · rename_i hsz
                cases out_inj hs
                simp only at hp
                subst hsz
                obtain ⟨k', hk', _⟩ := hwf
                refine done_pure h (hrun rfl hp.1 hp.2) ?_ ⟨k', hk'⟩ hd
                have e1 : p.o + off * de.size + n.toNat * de.size = p.o + (off + n.toNat) * de.size := by rw [Nat.add_mul]; omega
                rw [e1]; exact .ad g1
              · simp at hs
            | lf hr =>
              cases hr with
              | sl0 A cp sz =>
                simp only at hs
                split at hs
                · cases out_inj hs; simp only at hp; omega
                · simp at hs
              | sl b q len cp sz cs vf hb hl hc hvv hrr =>
                simp only at hs
                split at hs
                · rename_i hsz
                  subst hsz
                  cases out_inj hs
                  simp only at hp
                  refine done_pure h (hrun rfl hp.1 hp.2) (.pt (vs := (List.range cs.length).map vf) hb hl (fun j u hj => ?_) ⟨by simp, fun j hj => ⟨vf j, by simp [hj], hrr j hj⟩⟩) trivial hd
                  by_cases hjl : j < cs.length
                  · simp [hjl] at hj; subst hj; exact hvv j hjl
                  · simp [hjl] at hj
                · simp at hs
              | _ => simp at hs
            | _ => simp at hs
          | _ => simp at hs
        | _ => simp at hs

end
end Go.Proofs.YtdhgdpcmdmgchaaGreat.Fw
