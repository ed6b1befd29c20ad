/- The framework's theorem on contracts. Conditions: none. -/
import Derived.Test.YtdhgdpcmdmgchaaGreatFwN
namespace Go.Proofs.YtdhgdpcmdmgchaaGreat.Fw
open Go
set_option linter.unusedSimpArgs false
set_option linter.unusedVariables false

section
variable {P : Program} {T : Tab} {c : Ctx} {im : Nat → Prop} {pl : Nat → Option Place} {s s0 : St} {a : Act} {w : World}

/-- A result, once what is lent out has been frozen. -/
def Ret1 (im : Nat → Prop) (pl : Nat → Option Place) (s : St) (x : AV) : RV → Prop
  | .ag ls => x = .ag ls
  | .lf l => x = .lf l ∨ ∃ i sz off len k, x = .row i sz off len ∧ s.blks i = some k ∧ k.st < 3 ∧ (∀ p, pl i = some p → im p.b) ∧ l = .sl k.sz len (rowCells k off len)
  | .own sz n cs => ∃ i off k, x = .row i sz off n ∧ 100 ≤ i ∧ s.blks i = some k ∧ k.st = 0 ∧ rowCells k off n = cs

theorem rets_rep (ok : CtxOk c) (h : SimI c im pl s a w) : ∀ {rs : List RV} {xs : List AV} {vs : List Value} {used : List Nat} {ids : List Nat}, xs.length = rs.length → vs.length = rs.length →
    (∀ p (h1 : p < xs.length) (h2 : p < rs.length), Ret1 im pl s xs[p] rs[p]) → (∀ p (h1 : p < xs.length) (h2 : p < vs.length), RepA w im pl vs[p] xs[p] ∧ xs[p].wf s.blks) →
    (ids ++ ownIds xs rs).Nodup → (∀ b ∈ used, ∃ i ∈ ids, ∃ k p, s.blks i = some k ∧ k.st = 0 ∧ pl i = some p ∧ p.b = b) → RepRVs c.w0 w im used vs rs
  | [], xs, vs, used, ids, hx, hv, hr, hs, hn, hu => by
    have : vs = [] := List.eq_nil_of_length_eq_zero (by simpa using hv)
    subst this; trivial
  | r :: rs, [], vs, used, ids, hx, _, _, _, _, _ => by simp at hx
  | r :: rs, x :: xs, [], used, ids, _, hv, _, _, _, _ => by simp at hv
  | r :: rs, x :: xs, v :: vs, used, ids, hx, hv, hr, hs, hn, hu => by
    simp only [List.length_cons, Nat.add_right_cancel_iff] at hx hv
    have h0 := hr 0 (by simp) (by simp)
    have k0 := hs 0 (by simp) (by simp)
    have htl : ∀ {used' ids'}, (ids' ++ ownIds xs rs).Nodup → (∀ b ∈ used', ∃ i ∈ ids', ∃ k p, s.blks i = some k ∧ k.st = 0 ∧ pl i = some p ∧ p.b = b) → RepRVs c.w0 w im used' vs rs := fun hn' hu' =>
      rets_rep ok h hx hv (fun p h1 h2 => hr (p + 1) (by simp; omega) (by simp; omega)) (fun p h1 h2 => hs (p + 1) (by simp; omega) (by simp; omega)) hn' hu'
    simp only [List.getElem_cons_zero] at h0 k0
    cases r with
    | ag ls =>
      obtain rfl := h0
      refine ⟨rep_agg k0.1, htl (by simpa [ownIds] using hn) hu⟩
    | lf l =>
      rcases h0 with rfl | ⟨i, sz, off, len, k, rfl, g1, g2, g3, rfl⟩
      · refine ⟨by cases k0.1 with | lf h => exact h, htl (by simpa [ownIds] using hn) hu⟩
      · obtain ⟨k', hk', q2, q3⟩ := k0.2
        rw [g1] at hk'; cases hk'
        exact ⟨row_rep (h.blks i k g1) g2 q2 q3 k0.1 (fun _ h => h) g3, htl (by simpa [ownIds] using hn) hu⟩
    | own sz n cs =>
      obtain ⟨i, off, k, rfl, g1, g2, g3, rfl⟩ := h0
      obtain ⟨k', hk', q2, q3⟩ := k0.2
      rw [g2] at hk'; cases hk'
      have hB := h.blks i k g2
      have hlen := rowCells_len hB.1 q3
      have hrow := k0.1
      simp only [ownIds] at hn
      have hin : (ids ++ i :: ownIds xs rs).Nodup := hn
      have hn1 : (ids ++ ownIds xs rs).Nodup := (List.nodup_append.1 hin).1 |> fun h1 => List.nodup_append.2 ⟨h1, (List.nodup_cons.1 (List.nodup_append.1 hin).2.1).2, fun x hx y hy => (List.nodup_append.1 hin).2.2 x hx y (by simp [hy])⟩
      cases k0.1 with
      | row0 A =>
        exact .inl ⟨⟨⟨A, rfl⟩, rfl, List.eq_nil_of_length_eq_zero (by simpa using hlen)⟩, htl hn1 hu⟩
      | row hpl hle1 hle2 =>
        rename_i cp p
        obtain ⟨hkl, hB' | ⟨hB', _⟩ | ⟨q, cur, e, us, q1, q2', q3', q4, q5, q6, q7, q8, q9, q10⟩⟩ := hB
        · omega
        · rw [hB'] at hpl; cases hpl
        · rw [q1] at hpl; cases hpl
          have hpar : c.par i = none := by
            cases hp : c.par i with
            | none => rfl
            | some p => have := ok.parlt i p hp; omega
          refine .inr ⟨p.b, p.o + off * sz, cp, cur, e, (us.drop (off * k.sz)).take (n * k.sz), ⟨rfl, hle2, q3'.resolve_right (by simp [hpar]), q9 (by omega), ?_, q2', ?_, fun j u hj => ?_, ?_, by rw [hlen, q2]⟩, htl (ids' := i :: ids) ?_ ?_⟩
          · intro hb
            obtain ⟨i', hi', k', p', e1, e2, e3, e4⟩ := hu p.b hb
            have := h.dist i' i k' k p' p e1 g2 (by omega) (by omega) e3 q1 e4
            subst this
            exact (List.nodup_append.1 hin).2.2 i' hi' i' (by simp) rfl
          · have : (off + cp) * k.sz ≤ p.cap * k.sz := Nat.mul_le_mul_right _ hle1
            rw [Nat.add_mul, q2] at this
            rw [q2] at q5
            omega
          · rw [q2] at hj
            rw [List.getElem?_take] at hj
            split at hj
            · rw [List.getElem?_drop] at hj
              have := q6 _ _ hj
              rwa [← Nat.add_assoc] at this
            · cases hj
          · rw [rowCells_eq hkl]; exact q7.seg _ _
          · have := List.nodup_append.1 hin
            have h2 := List.nodup_cons.1 this.2.1
            refine List.nodup_append.2 ⟨List.nodup_cons.2 ⟨fun hi => this.2.2 i hi i (by simp) rfl, this.1⟩, h2.2, fun x hx y hy => ?_⟩
            rcases List.mem_cons.1 hx with rfl | hx
            · rintro rfl; exact h2.1 hy
            · exact this.2.2 x hx y (by simp [hy])
          · intro b hb
            rcases List.mem_cons.1 hb with rfl | hb
            · exact ⟨i, by simp, k, p, g2, g3, q1, rfl⟩
            · obtain ⟨i', hi', h3⟩ := hu b hb
              exact ⟨i', by simp [hi'], h3⟩

theorem asAddr_run {v : Value} {A : Addr} (h : v = .pointer (some A)) : (asAddr v).run P w = .ok A w := by subst h; rfl

/-- Reading the results. -/
theorem results_run (hT : TabOk P T) (h : SimI c im pl s a w) : ∀ {rs : List ResultVar} {xs : List AV}, rs.mapM (resVal T s) = some xs →
    ∃ vs : List Value, (rs.mapM (fun r : ResultVar => (match r with
      | .tmp t => Pure.pure (a.tmps.getD t undef)
      | .cell x t => do loadVar t (← asAddr (a.tmps.getD x undef)) : Sem Value))).run P w = .ok vs w ∧ vs.length = xs.length ∧ ∀ p (h1 : p < xs.length) (h2 : p < vs.length), RepA w im pl vs[p] xs[p] ∧ xs[p].wf s.blks
  | [], xs, hx => by simp at hx; subst hx; exact ⟨[], by simp, rfl, fun p h => by simp at h⟩
  | r :: rs, xs, hx => by
    simp only [List.mapM_cons, Option.bind_eq_bind, Option.pure_def] at hx
    cases hr : resVal T s r with
    | none => simp [hr] at hx
    | some x =>
      cases hrs : rs.mapM (resVal T s) with
      | none => simp [hr, hrs] at hx
      | some xs' =>
        simp [hr, hrs] at hx
        subst hx
        obtain ⟨vs, g1, g2, g3⟩ := results_run hT h hrs
        have hone : ∃ v, ((match r with
            | .tmp t => Pure.pure (a.tmps.getD t undef)
            | .cell x t => do loadVar t (← asAddr (a.tmps.getD x undef)) : Sem Value)).run P w = .ok v w ∧ RepA w im pl v x ∧ x.wf s.blks := by
          cases r with
          | tmp t => simp [resVal] at hr; subst hr; exact ⟨_, rfl, h.slots t, h.wf t⟩
          | cell y t =>
            simp only [resVal] at hr
            have hy := h.slots y
            generalize hv : a.tmps.getD y undef = v at hy
            generalize s.slots y = ay at hr hy
            cases hy with
            | ad hpl =>
              rename_i i q p
              simp only at hr
              cases hk : s.blks i with
              | none => simp [hk] at hr
              | some k =>
                cases hd : T.td t with
                | none => simp [hk, hd] at hr
                | some d =>
                  simp only [hk, hd] at hr
                  split at hr
                  · rename_i hcond
                    obtain ⟨hst, hle⟩ := hcond
                    cases hr
                    have ht := hT t d hd
                    obtain ⟨hl, hB | ⟨hB, _⟩ | ⟨p', cur, e, us, k1, k2, k3, k4, k5, k6, k7, k8, k9, k10⟩⟩ := h.blks i k hk
                    · omega
                    · rw [hB] at hpl; cases hpl
                    · rw [k1] at hpl; cases hpl
                      rw [← hl] at hle
                      refine ⟨_, ?_, load_rep ht k7 hle, wf_load⟩
                      simp only [Sem.run_bind, asAddr_run hv, Result.andThen_ok]
                      refine load_run ht (load_len k7 hle) fun j u hj => ?_
                      rw [List.getElem?_take] at hj
                      split at hj
                      · rw [List.getElem?_drop] at hj
                        exact cell_at k2 (by rw [Nat.add_assoc]; exact k6 _ _ hj)
                      · cases hj
                  · simp at hr
            | _ => simp at hr
        obtain ⟨v, q1, q2, q3⟩ := hone
        refine ⟨v :: vs, ?_, by simp [g2], fun p h1 h2 => ?_⟩
        · simp only [List.mapM_cons, Sem.run_bind, q1, Result.andThen_ok, g1, Sem.run_pure]
        · cases p with
          | zero => exact ⟨q2, q3⟩
          | succ p => exact g3 p (by simpa using h1) (by simpa using h2)

theorem lent_spec : ∀ {xs : List AV} {rs : List RV}, (∀ p (h1 : p < xs.length) (h2 : p < rs.length), RetIs T s xs[p] rs[p]) → ∀ i ∈ lentIds xs rs, 100 ≤ i ∧ ∃ k, s.blks i = some k ∧ k.st ≠ 3
  | [], rs, _, i, hi => by cases rs <;> simp [lentIds] at hi
  | x :: xs, [], _, i, hi => by cases x <;> simp [lentIds] at hi
  | x :: xs, r :: rs, h, i, hi => by
    have htl := lent_spec (xs := xs) (rs := rs) fun p h1 h2 => h (p + 1) (by simp; omega) (by simp; omega)
    have h0 := h 0 (by simp) (by simp)
    simp only [List.getElem_cons_zero] at h0
    cases x <;> cases r <;> simp only [lentIds] at hi <;> try (exact htl i hi)
    rename_i j sz off len l
    rcases List.mem_cons.1 hi with rfl | hi
    · cases l <;> simp only [RetIs] at h0
      obtain ⟨h1, k, h2, h3, _⟩ := h0
      exact ⟨h1, k, h2, by omega⟩
    · exact htl i hi

theorem own_not_lent {i : Nat} : ∀ {xs : List AV} {rs : List RV} {p : Nat} (h1 : p < xs.length) (h2 : p < rs.length), (∃ sz off n sz' n' cs, xs[p] = .row i sz off n ∧ rs[p] = .own sz' n' cs) → i ∈ ownIds xs rs
  | [], _, _, h1, _, _ => by simp at h1
  | _ :: _, [], _, _, h2, _ => by simp at h2
  | x :: xs, r :: rs, p, h1, h2, h => by
    cases p with
    | zero =>
      obtain ⟨sz, off, n, sz', n', cs, e1, e2⟩ := h
      simp only [List.getElem_cons_zero] at e1 e2
      subst e1 e2
      simp [ownIds]
    | succ p =>
      have := own_not_lent (xs := xs) (rs := rs) (p := p) (by simpa using h1) (by simpa using h2) (by simpa using h)
      cases x <;> cases r <;> simp [ownIds, this]

theorem lent_mem {i : Nat} : ∀ {xs : List AV} {rs : List RV} {p : Nat} (h1 : p < xs.length) (h2 : p < rs.length), (∃ sz off n l, xs[p] = .row i sz off n ∧ rs[p] = .lf l) → i ∈ lentIds xs rs
  | [], _, _, h1, _, _ => by simp at h1
  | _ :: _, [], _, _, h2, _ => by simp at h2
  | x :: xs, r :: rs, p, h1, h2, h => by
    cases p with
    | zero =>
      obtain ⟨sz, off, n, l, e1, e2⟩ := h
      simp only [List.getElem_cons_zero] at e1 e2
      subst e1 e2
      simp [lentIds]
    | succ p =>
      have := lent_mem (xs := xs) (rs := rs) (p := p) (by simpa using h1) (by simpa using h2) (by simpa using h)
      cases x <;> cases r <;> simp [lentIds, this]

theorem lent_live {i : Nat} : ∀ {xs : List AV} {rs : List RV}, (∀ p (h1 : p < xs.length) (h2 : p < rs.length), RetIs T s xs[p] rs[p]) → i ∈ lentIds xs rs → ∃ k, s.blks i = some k ∧ k.st < 3
  | [], rs, _, hi => by cases rs <;> simp [lentIds] at hi
  | x :: xs, [], _, hi => by cases x <;> simp [lentIds] at hi
  | x :: xs, r :: rs, h, hi => by
    have htl := lent_live (i := i) (xs := xs) (rs := rs) fun p h1 h2 => h (p + 1) (by simp; omega) (by simp; omega)
    have h0 := h 0 (by simp) (by simp)
    simp only [List.getElem_cons_zero] at h0
    cases x <;> cases r <;> simp only [lentIds] at hi <;> try (exact htl hi)
    rename_i j sz off len l
    rcases List.mem_cons.1 hi with rfl | hi
    · cases l <;> simp only [RetIs] at h0
      obtain ⟨h1, k, h2, h3, _⟩ := h0
      exact ⟨k, h2, h3⟩
    · exact htl hi

theorem resVal_frz {l : List Nat} (hl : ∀ i ∈ l, ∃ k, s.blks i = some k ∧ k.st < 3) (r : ResultVar) : resVal T (s.frz l) r = resVal T s r := by
  cases r with
  | tmp t => simp [resVal, frz_slots]
  | cell y t =>
    simp only [resVal, frz_slots]
    cases s.slots y with
    | ad i p =>
      simp only [frz_blks]
      by_cases hi : i ∈ l
      · obtain ⟨k, hk, hst⟩ := hl i hi
        simp only [hi, if_true, hk, Option.map_some]
        cases T.td t <;> simp [hst]
      · simp [hi]
    | _ => rfl

theorem ret1_frz {xs : List AV} {rs : List RV} {im' : Nat → Prop} {pl : Nat → Option Place} (hlen : xs.length = rs.length) (h3 : ∀ p (h : p < xs.length) (h' : p < rs.length), RetIs T s xs[p] rs[p]) (h5 : ∀ i ∈ ownIds xs rs, i ∉ lentIds xs rs)
    (k3 : ∀ i ∈ lentIds xs rs, ∀ p, pl i = some p → im' p.b) : ∀ p (h1 : p < xs.length) (h2 : p < rs.length), Ret1 im' pl (s.frz (lentIds xs rs)) xs[p] rs[p] := by
  intro p h1 h2
  have h0 := h3 p h1 h2
  have hlm := fun i => lent_mem (i := i) h1 h2
  have hom := fun i => own_not_lent (i := i) h1 h2
  generalize xs[p] = x at *
  generalize rs[p] = r at *
  cases r with
  | ag ls => simpa [RetIs, Ret1] using h0
  | own sz n cs =>
    obtain ⟨i, off, k, rfl, g1, g2, g3, g4⟩ := h0
    refine ⟨i, off, k, rfl, g1, ?_, g3, g4⟩
    rw [frz_other (h5 i (hom i ⟨_, _, _, _, _, _, rfl, rfl⟩))]; exact g2
  | lf l =>
    cases x with
    | lf l' => simp only [RetIs] at h0; subst h0; exact .inl rfl
    | row i sz off len =>
      cases l with
      | sl sz' n cs =>
        simp only [RetIs] at h0
        obtain ⟨_, k, g2, g3, rfl, rfl, rfl⟩ := h0
        have hm := hlm i ⟨_, _, _, _, rfl, rfl⟩
        exact .inr ⟨i, sz, off, len, { k with st := 2 }, rfl, by rw [frz_blks, if_pos hm, g2]; rfl, by simp, k3 i hm, rfl⟩
      | _ => simp [RetIs] at h0
    | _ => simp [RetIs] at h0

theorem ret_of {w0 w : World} {im' : Nat → Prop} : ∀ {rv : List RV} {vs : List Value}, vs.length = rv.length → RepRVs w0 w im' [] vs rv → RepRet w0 w im' (if h : vs.toArray.size = 1 then vs.toArray[0] else .tuple vs.toArray) rv
  | [], [], _, h => ⟨[], rfl, h⟩
  | [r], [v], _, h => h
  | r :: r2 :: rv, v :: v2 :: vs, _, h => ⟨v :: v2 :: vs, by rw [dif_neg (by simp)], h⟩

/-- The end of a call. -/
theorem ends_of (hT : TabOk P T) (ok : CtxOk c) {par : Option (Nat × Nat)} {res : Res} {rs : List ResultVar} (h : Sim c s a w) (hr : Rets T rs par res s)
    (hpar : ParOk c.segs c.par par) {fn : Func} (hfn : fn.results.toList = rs) :
    a.defers = [] ∧ ∃ v, (results fn a.tmps).run P w = .ok v w ∧ Ends c.w0 c.im0 c.segs res (.returned v) w := by
  obtain ⟨im, pl, h⟩ := h
  obtain ⟨xs, h1, h2, h3, h4, h5, h6⟩ := hr
  refine ⟨h.df, ?_⟩
  obtain ⟨im', k1, k2, k3, k4⟩ := SimI.freeze ok (lentIds xs res.vals) h (lent_spec h3)
  obtain ⟨vs, g1, g2, g3⟩ := results_run hT k1 (rs := rs) (xs := xs) (by
    rw [← h1]; congr 1; funext r; exact resVal_frz (fun i hi => lent_live h3 hi) r)
  have hrvs : RepRVs c.w0 w im' [] vs res.vals :=
    rets_rep ok k1 (ids := []) h2 (g2.trans h2) (ret1_frz h2 h3 h5 k3) (fun p q1 q2 => g3 p q1 q2) (by simpa using h4) (by simp)
  have hlenv : vs.length = res.vals.length := g2.trans h2
  have harr : (fn.results.mapM (fun r : ResultVar => (match r with
      | .tmp t => Pure.pure (a.tmps.getD t undef)
      | .cell x t => do loadVar t (← asAddr (a.tmps.getD x undef)) : Sem Value))).run P w = .ok vs.toArray w := by
    rw [Array.mapM_eq_mapM_toList, hfn, map_eq_pure_bind, Sem.run_bind, g1]
    rfl
  have hout : RepOut w im' c.segs res.out := by
    cases par with
    | none => simp only [ParOk] at hpar h6; rw [hpar, h6]; rfl
    | some q =>
      obtain ⟨i, m⟩ := q
      simp only [ParOk] at hpar h6
      obtain ⟨hi, ⟨e1, rfl⟩ | ⟨p, e1, e2⟩⟩ := hpar
      · rw [e1]; exact List.eq_nil_of_length_eq_zero h6.1
      · obtain ⟨q1, k, q2, q3, q4⟩ := k1.par i p e1
        obtain ⟨h7, k', h8, h9⟩ := h6
        
        have hni : i ∉ lentIds xs res.vals := fun hm => by have := (lent_spec h3 i hm).1; omega
        rw [frz_other hni, h8] at q2; obtain rfl := Option.some.inj q2
        have hB := k1.blks i k' (by rw [frz_other hni]; exact h8)
        obtain ⟨r1, r2 | ⟨r2, _⟩ | ⟨q', cur, e, us, r2, r3, r4, r5, r6, r7, r8, r9, r10, r11⟩⟩ := hB
        · omega
        · rw [r2] at q1; cases q1
        · rw [r2] at q1; cases q1
          rw [e2]
          exact ⟨cur, e, us, r3, r7, h9 ▸ r8, by rw [h7]⟩
  have hret : ∀ v, RepRet c.w0 w im' v res.vals → Ends c.w0 c.im0 c.segs res (.returned v) w := fun v hv =>
    ⟨v, im', rfl, k1.fr, k1.im0, k1.imold, k1.imlt, hv, hout⟩
  have hres : (results fn a.tmps).run P w = .ok (if h : vs.toArray.size = 1 then vs.toArray[0] else .tuple vs.toArray) w := by
    have e : results fn a.tmps = ((fn.results.mapM (fun r : ResultVar => (match r with
      | .tmp t => Pure.pure (a.tmps.getD t undef)
      | .cell x t => do loadVar t (← asAddr (a.tmps.getD x undef)) : Sem Value))) >>= fun vs => Pure.pure (if h : vs.size = 1 then vs[0] else .tuple vs)) := rfl
    rw [e, Sem.run_bind, harr]
    rfl
  exact ⟨_, hres, hret _ (ret_of hlenv hrvs)⟩

end
end Go.Proofs.YtdhgdpcmdmgchaaGreat.Fw
