/- The framework's steps are the machine's: stores, make and append. Conditions: none. -/
import Derived.Test.YtdhgdpcmdmgchaaGreatFwG
namespace Go.Proofs.YtdhgdpcmdmgchaaGreat.Fw
open Go
set_option linter.unusedSimpArgs false
set_option linter.unusedVariables false

section
variable {P : Program} {T : Tab} {c : Ctx} {im im' : Nat → Prop} {pl : Nat → Option Place} {s : St} {a : Act} {w : World}

theorem done_store (hT : TabOk P T) (ok : CtxOk c) (h : SimI c im pl s a w) {o : Oper} {t : Nat} {x y : Operand} (ho : o.op = .store t x y) {out : Out} (hs : step T (evO s.slots) s.blks o = some out) (hp : out.pre)
    (hf : out.frz.all (100 ≤ ·) = true) (hd : ∀ t, o.dst = some t → t < c.nt) : Done P c o a w (s.out o.dst out) := by
  have hx := h.op x
  simp only [step, ho] at hs
  cases hd' : T.td t with
  | none => simp [hd'] at hs
  | some d =>
    simp only [hd'] at hs
    have ht := hT t d hd'
    generalize hv : a.eval x = v at hx
    generalize evO s.slots x = ax at hs hx
    cases hx with
    | ad hpl =>
      rename_i i q p
      simp only at hs
      cases hk : s.blks i with
      | none => simp [hk] at hs
      | some k =>
        simp only [hk] at hs
        cases hc : cellsOf T s.blks t (evO s.slots y) with
        | none => simp [hc] at hs
        | some lf =>
          obtain ⟨ls, fz⟩ := lf
          simp only [hc] at hs
          split at hs
          · rename_i hcond
            obtain ⟨hst, hnot⟩ := hcond
            cases out_inj hs
            simp only at hp hf
            obtain ⟨hp1, hp2⟩ := hp
            obtain ⟨im', g1, g2, g3⟩ := froz ok h hc hf
            have hni : i ∉ fz := by simpa using hnot
            have hk' : (s.frz fz).blks i = some k := by rw [frz_other hni]; exact hk
            obtain ⟨hl, hB⟩ := g1.blks i k hk'
            rcases hB with hB | ⟨hB, _⟩ | ⟨q', cur, e, vs, k1, k2, k3, k4, k5, k6, k7, k8, k9, k10⟩
            · omega
            · rw [hB] at hpl; cases hpl
            · rw [k1] at hpl; cases hpl
              have hsize : (a.eval y).cells.toList.length = d.size := by rw [g3.1, hp2]
              have hcapn : k.n * k.sz ≤ p.cap * k.sz := Nat.mul_le_mul_right _ k4
              have hst1 := run_storeCells_at P p.b (p.o + q) e (a.eval y).cells.toList 0 cur w k2 (by omega) g3.oneCell
              have hrun : (execOp a.eval o).run P w = .ok .skip (w.setRow p.b (cur.toList.take (p.o + q + 0) ++ (a.eval y).cells.toList ++ cur.toList.drop (p.o + q + 0 + (a.eval y).cells.toList.length)).toArray) := by
                have hsz : (a.eval y).cells.size = d.size := by simpa using hsize
                simp [execOp, ho, hv, Instr.storeAt, Instr.sureAddr, storeVar, ht.sizeOf, hsz, hst1]
              simp only [Nat.add_zero] at hrun
              have hrow := setRow_heap w p.b cur (cur.toList.take (p.o + q) ++ (a.eval y).cells.toList ++ cur.toList.drop (p.o + q + (a.eval y).cells.toList.length)).toArray e (0, 0) k2
              have hFr : Fr [(p.b, p.o + q, p.o + q + d.size)] w (w.setRow p.b (cur.toList.take (p.o + q) ++ (a.eval y).cells.toList ++ cur.toList.drop (p.o + q + (a.eval y).cells.toList.length)).toArray) := by
                refine ⟨rfl, rfl, rfl, by simp, fun b hb hn => setRow_other w p.b b _ (fun e => hn _ (List.mem_singleton.2 rfl) e.symm), fun g hg => ?_⟩
                obtain rfl := List.mem_singleton.1 hg
                refine ⟨cur, _, e, k2, hrow, ?_, fun j hj => ?_⟩
                · have hszc : (a.eval y).cells.size = d.size := by simpa using hsize
                  simp only [List.size_toArray, List.length_append, List.length_take, List.length_drop, Array.length_toList, hszc]; omega
                · rw [hsize]
                  simp only [List.getElem?_toArray, List.getElem?_append, List.length_append, List.length_take, Array.length_toList, List.getElem?_take, List.getElem?_drop, hsize]
                  simp only at hj
                  have hmin : min (p.o + q) cur.size = p.o + q := by omega
                  rw [hmin]
                  rcases hj with hj | hj
                  · simp [hj, show j < p.o + q + d.size by omega]
                  · rw [if_neg (by omega), show p.o + q + d.size + (j - (p.o + q + d.size)) = j by omega]; simp
              have hgr := g1.wrote ok hk' hst k1 hFr (by omega) (by omega) (im' := im') (fun _ h => h) (fun _ h => .inl h) (fun b hb => by simpa using g1.imlt b hb) (cs' := splice q ls k.cs) (splice_length (by omega))
                ((k7.mono (fun _ h => h) (fun b hb => setRow_other w p.b b _ (fun e => k9 hst (e ▸ hb)))).splice q (g3.mono (fun _ h => h) (fun b hb => setRow_other w p.b b _ (fun e => k9 hst (e ▸ hb)))))
                (fun cur' e' he j u hj => by
                  rw [hrow] at he; cases he
                  simp only [List.getElem?_toArray]
                  have hvl := k7.1
                  simp only [List.getElem?_append, List.length_append, List.length_take, Array.length_toList, List.getElem?_take, List.getElem?_drop, hsize] at hj ⊢
                  have hmin : min (p.o + q) cur.size = p.o + q := by omega
                  have hmin2 : min q vs.length = q := by omega
                  rw [hmin]
                  rw [hmin2] at hj
                  by_cases h1 : j < q
                  · simp only [h1, show j < q + d.size by omega, if_true] at hj
                    simp only [show p.o + j < p.o + q by omega, show p.o + j < p.o + q + d.size by omega, if_true]
                    simpa using k6 j u hj
                  · by_cases h2 : j < q + d.size
                    · simp only [h1, h2, if_true, if_false] at hj
                      simp only [show ¬ p.o + j < p.o + q by omega, show p.o + j < p.o + q + d.size by omega, if_true, if_false]
                      rw [show p.o + j - (p.o + q) = j - q by omega]; exact hj
                    · simp only [h2, if_false] at hj
                      rw [if_neg (by omega)]
                      rw [show q + d.size + (j - (q + d.size)) = j by omega] at hj
                      rw [show p.o + q + d.size + (p.o + j - (p.o + q + d.size)) = p.o + j by omega]
                      simpa using k6 j u hj)
              refine ⟨undef, _, im', pl, .inr ⟨hrun, rfl⟩, hgr.putD (.undef _) trivial hd⟩
          · simp at hs
    | pt => simp at hs
    | _ => simp at hs

theorem flat_get {z : Array Value} {sz : Nat} (hz : z.size = sz) : ∀ (m j : Nat), ((List.replicate m z.toList).flatten)[j]? = if j < m * sz then some (z[j % sz]!) else none := by
  intro m
  induction m with
  | zero => intro j; simp
  | succ m ih =>
    intro j
    simp only [List.replicate_succ, List.flatten_cons, List.getElem?_append, Array.length_toList, hz]
    by_cases hj : j < sz
    · have : j < (m + 1) * sz := by rw [Nat.add_mul]; omega
      simp only [hj, this, if_true, Nat.mod_eq_of_lt hj]
      simp [hz, hj]
    · simp only [hj, if_false, ih]
      have e1 : (j - sz) % sz = j % sz := by
        have hh := Nat.add_mod_right (j - sz) sz
        rw [Nat.sub_add_cancel (Nat.le_of_not_lt hj)] at hh
        exact hh.symm
      rw [e1]
      have e2 : (j - sz < m * sz) ↔ (j < (m + 1) * sz) := by rw [Nat.add_mul]; omega
      simp only [e2]

theorem done_makeSlice (hT : TabOk P T) (ok : CtxOk c) (h : SimI c im pl s a w) {o : Oper} {t : Nat} {n cp : Operand} (ho : o.op = .makeSlice t n cp) {out : Out} (hs : step T (evO s.slots) s.blks o = some out) (hp : out.pre)
    (hm : out.mak ≠ none → s.blks (idOf o.dst 0) = none) (hd : ∀ t, o.dst = some t → t < c.nt) : Done P c o a w (s.out o.dst out) := by
  have hn := h.op n
  have hcp := h.op cp
  simp only [step, ho] at hs
  cases hd' : T.td t with
  | none => simp [hd'] at hs
  | some d =>
    simp only [hd'] at hs
    cases he : d.elem with
    | none => simp [he] at hs
    | some e =>
      simp only [he] at hs
      cases hte : T.td e with
      | none => simp [hte] at hs
      | some de =>
        simp only [hte] at hs
        generalize evO s.slots n = an at hs hn
        generalize evO s.slots cp = ac at hs hcp
        split at hs
        · rename_i kn nn kc nc
          cases out_inj hs
          simp only at hp
          obtain ⟨p0, p1, p2, p3⟩ := hp
          have e1 := rep_int hn
          have e2 := rep_int hcp
          have ht := hT t d hd'
          have hte' := hT e de hte
          obtain ⟨i, zv, hi, hsz, hby, hz, hzc⟩ := hte'.info
          obtain ⟨u, hu, _, hel, _⟩ := ht.und
          obtain rfl := hel e he
          have hnew := hm (by simp)
          have hzs : zv.cells.size = de.size := by
            have := congrArg List.length hzc
            simpa [hte'.zl] using this
          unfold maxApp at p2
          have hc63 : nc ≤ 70368744177664 := by
            have : nc * 1 ≤ nc * (de.bytes : Int) := Int.mul_le_mul_of_nonneg_left (by omega) (by omega)
            omega
          have hr := run_make (P := P) w t e i zv hu hi hz kn kc nn nc p0 p1 (by rw [hby, Int.mul_comm]; omega) (by omega)
          have hrun : (execOp a.eval o).run P w = .ok (.value (.slice (some ⟨w.heap.size, 0, none⟩) nn.toNat nc.toNat)) (w.alloc (.cells (madeCells zv.cells (nc.toNat * i.size)) e)) := by
            simp [execOp, ho, e1, e2, hr]
          rw [hsz] at hrun
          have hle : nn.toNat * de.size ≤ nc.toNat * de.size := Nat.mul_le_mul_right _ (by omega)
          have hmk := h.make ok hnew (by unfold idOf; omega) (Fr.alloc w (.cells (madeCells zv.cells (nc.toNat * de.size)) e)) (q := ⟨w.heap.size, 0, nc.toNat⟩) (cur := madeCells zv.cells (nc.toNat * de.size)) (e := e)
            (vs := (List.replicate nn.toNat zv.cells.toList).flatten) (k := ⟨de.size, nn.toNat, (List.replicate nn.toNat de.zero).flatten, 0⟩) (Nat.le_refl _)
            (heap_alloc_new w _) (by show nn.toNat ≤ nc.toNat; omega) (by simp [size_madeCells]) (fun j v hj => by
              rw [flat_get hzs] at hj
              split at hj
              · rename_i hjl
                cases hj
                simp only [madeCells, hzs]
                simp [show j < nc.toNat * de.size by omega]
              · cases hj) (by rw [hzc]; exact (plain_reps w im hte'.zp).flatten _) (by simp) (by simp [hte'.zl])
          refine ⟨_, _, _, _, .inl hrun, hmk.putD (x := .row (idOf o.dst 0) de.size 0 nn.toNat) ?_ ?_ hd⟩
          · have := RepA.row (w := w.alloc (.cells (madeCells zv.cells (nc.toNat * de.size)) e)) (im := im) (pl := fun j => if j = idOf o.dst 0 then some ⟨w.heap.size, 0, nc.toNat⟩ else pl j) (i := idOf o.dst 0) (sz := de.size) (off := 0) (len := nn.toNat) (c := nc.toNat) (p := ⟨w.heap.size, 0, nc.toNat⟩) (if_pos rfl) (by simp) (by omega)
            simpa using this
          · exact ⟨_, if_pos rfl, rfl, by simp⟩
        · simp at hs

/-! ### append -/

theorem elems_rep (h : SimI c im pl s a w) {sz m : Nat} {ys : List L} {x : AV} {v : Value} (hx : RepA w im pl v x) (hwf : x.wf s.blks) (he : elemsOf s.blks sz x = some (m, ys)) :
    ∃ B cp news, v = .slice B m cp ∧ RepLs w im news ys ∧ ys.length = m * sz ∧ (m = 0 ∨ ∃ b q, B = some ⟨b, q, none⟩ ∧ ∀ (j : Nat) u, news[j]? = some u → w.cell? ⟨b, q + j, none⟩ = some u) := by
  cases x with
  | lf l => cases l with
    | sl sz' n cs =>
      simp only [elemsOf] at he
      split at he
      · rename_i hsz
        subst hsz
        simp at he
        obtain ⟨rfl, rfl⟩ := he
        cases hx with
        | lf hr => cases hr with
          | sl0 A cp sz => exact ⟨A, cp, [], rfl, .nil, by simp, .inl rfl⟩
          | sl b q n cp sz cs vf hb hl hc hvv hrr =>
            refine ⟨_, cp, (List.range cs.length).map vf, rfl, ⟨by simp, fun j hj => ⟨vf j, by simp [hj], hrr j hj⟩⟩, hl, .inr ⟨b, q, rfl, fun j u hj => ?_⟩⟩
            by_cases hjl : j < cs.length
            · simp [hjl] at hj; subst hj; exact hvv j hjl
            · simp [hjl] at hj
      · simp at he
    | _ => simp [elemsOf] at he
  | nils =>
    simp [elemsOf] at he
    obtain ⟨rfl, rfl⟩ := he
    cases hx
    exact ⟨none, 0, [], rfl, .nil, by simp, .inl rfl⟩
  | row i sz' off len =>
    obtain ⟨k, hk, h2, h3⟩ := hwf
    simp only [elemsOf, hk] at he
    split at he
    · rename_i hcond
      obtain ⟨hsz, hst⟩ := hcond
      simp at he
      obtain ⟨rfl, rfl⟩ := he
      obtain ⟨A, cp, vs, g1, g2, g3⟩ := row_at (h.blks i k hk) hst h2 h3 hx
      refine ⟨A, cp, vs, g1, g2, by rw [rowCells_len (h.blks i k hk).1 h3, hsz], ?_⟩
      rcases g3 with g3 | ⟨p, cur, e, g4, g5, g6, g7, g8, g9⟩
      · exact .inl g3
      · exact .inr ⟨p.b, p.o + off * sz', g5, fun j u hj => cell_at g8 (g9 j u hj)⟩
    · simp at he
  | _ => simp [elemsOf] at he

theorem first_run {size m : Nat} {B : Option Addr} {cp : Nat} {news : List Value} (hl : news.length = m * size) (hc : m = 0 ∨ ∃ b q, B = some ⟨b, q, none⟩ ∧ ∀ (j : Nat) u, news[j]? = some u → w.cell? ⟨b, q + j, none⟩ = some u) :
    (Builtin.firstCells size m (.slice B m cp)).run P w = .ok news.toArray w := by
  rcases hc with rfl | ⟨b, q, rfl, hc⟩
  · have : news = [] := List.eq_nil_of_length_eq_zero (by simpa using hl)
    subst this
    cases B with
    | none => simp [Builtin.firstCells]
    | some A => simp [Builtin.firstCells, loadCells, loadCellsFrom]
  · exact run_firstCells_some w size m _ m cp news hl (fun j u hj => by rw [addr_add]; exact hc j u hj)

theorem run_append_fit {t ty e : Nat} {i : TypeInfo} (ht : P.underlying t = some (.slice e)) (hi : P.info? e = some i) {base : Option Addr} {sLen sCap m cp : Nat} {B : Option Addr} {news : List Value}
    (hf : (Builtin.firstCells i.size m (.slice B m cp)).run P w = .ok news.toArray w) (hroom : sLen + m ≤ sCap) {w' : World}
    (hst : ∀ A, base = some A → (storeCells (A.add (sLen * i.size)) news).run P w = .ok () w') (hb : base = none → w' = w) :
    (Builtin.append_ #[t, t] ty #[.slice base sLen sCap, .slice B m cp]).run P w = .ok (.slice base (sLen + m) sCap) w' := by
  cases base with
  | none => obtain rfl := hb rfl; simp [Builtin.append_, run_underlying ht, sizeOf, typeInfo, hi, Builtin.lenOf, hroom, hf]
  | some A => simp [Builtin.append_, run_underlying ht, sizeOf, typeInfo, hi, Builtin.lenOf, hroom, hf, hst A rfl]

theorem run_append_more {t ty e : Nat} {i : TypeInfo} {z : Value} (ht : P.underlying t = some (.slice e)) (hi : P.info? e = some i) (hz : i.zero = some z) {base : Option Addr} {sLen sCap m cp : Nat} {B : Option Addr} {olds news : List Value}
    (hfo : (Builtin.firstCells i.size sLen (.slice base sLen sCap)).run P w.drew = .ok olds.toArray w.drew)
    (hf : (Builtin.firstCells i.size m (.slice B m cp)).run P w.drew = .ok news.toArray w.drew) (hroom : sCap < sLen + m) (h63 : ((sLen + m : Nat) : Int) ≤ 9223372036854775807) (hfit : Builtin.nextslicecap (sLen + m) sCap * i.bytes ≤ 281474976710656) :
    (Builtin.append_ #[t, t] ty #[.slice base sLen sCap, .slice B m cp]).run P w =
      .ok (.slice (some ⟨w.heap.size, 0, none⟩) (sLen + m) (grownCap w (sLen + m) sCap e)) (w.drew.alloc (.cells (olds.toArray ++ news.toArray ++ Builtin.zeroCells z.cells (grownCap w (sLen + m) sCap e - (sLen + m))) e)) := by
  have hn : ¬ (sLen + m ≤ sCap) := by omega
  have h63' : ¬ (9223372036854775807 < ((sLen : Int) + (m : Int))) := by omega
  have h48' : ¬ (281474976710656 < Builtin.nextslicecap (sLen + m) sCap * i.bytes) := by omega
  simp [Builtin.append_, run_underlying ht, sizeOf, typeInfo, zeroValue, hi, hz, Builtin.lenOf, hn, h63', h48', Question.forced, hf, hfo, newRow, grownCap]
  congr 2
  apply Array.ext'
  simp [List.append_assoc]

theorem drew_cells {P : Program} {size m : Nat} {x : Value} {news : List Value} (h : ∀ w', w'.heap = w.heap → (Builtin.firstCells size m x).run P w' = .ok news.toArray w') : (Builtin.firstCells size m x).run P w.drew = .ok news.toArray w.drew := h w.drew rfl

theorem first_run' {size m : Nat} {B : Option Addr} {cp : Nat} {news : List Value} (hl : news.length = m * size) (hc : m = 0 ∨ ∃ b q, B = some ⟨b, q, none⟩ ∧ ∀ (j : Nat) u, news[j]? = some u → w.cell? ⟨b, q + j, none⟩ = some u) :
    (Builtin.firstCells size m (.slice B m cp)).run P w.drew = .ok news.toArray w.drew :=
  first_run (w := w.drew) hl hc

/-- The new block of an append that has made one. -/
theorem append_made (ok : CtxOk c) {s1 : St} (h : SimI c im pl s1 a w) {d sz n : Nat} (hd : s1.blks d = none) (h100 : 100 ≤ d) {e : Nat} {cells rest : List Value} {z : Array Value} {cap : Nat} {ls : List L} (hn : n ≤ cap) (hz : z.size = sz)
    (hr : RepLs w im cells ls) (hl : ls.length = n * sz) :
    SimI c im (fun j => if j = d then some ⟨w.heap.size, 0, cap⟩ else pl j) (s1.setB d ⟨sz, n, ls, 0⟩) a (w.drew.alloc (.cells (cells.toArray ++ Builtin.zeroCells z (cap - n)) e)) := by
  have hf : Fr [] w (w.drew.alloc (.cells (cells.toArray ++ Builtin.zeroCells z (cap - n)) e)) := (Fr.drew w).step (Fr.alloc w.drew _)
  have hcl : cells.length = n * sz := by rw [hr.1, hl]
  have h2 : n * sz + (cap - n) * sz = cap * sz := by rw [← Nat.add_mul]; congr 1; omega
  refine h.make ok hd h100 hf (q := ⟨w.heap.size, 0, cap⟩) (cur := cells.toArray ++ Builtin.zeroCells z (cap - n)) (e := e) (vs := cells) (k := ⟨sz, n, ls, 0⟩) (Nat.le_refl _) (heap_alloc_new w.drew _) hn ?_ (fun j v hj => ?_) hr (by simp) hl
  · simp only [Array.size_append, List.size_toArray, size_zeroCells, hz, hcl]; omega
  · have hjl : j < cells.length := (List.getElem?_eq_some_iff.1 hj).1
    simp only [Nat.zero_add]
    rw [Array.getElem?_append_left (by simpa using hjl)]
    simpa using hj

theorem isNil_ev {x : Operand} {sl : Nat → AV} (h : isNil x = true) : evO sl x = .nils := by
  unfold isNil at h
  split at h
  · rfl
  · cases h

theorem done_append (hT : TabOk P T) (ok : CtxOk c) (h : SimI c im pl s a w) {o : Oper} {args : Array Operand} {argTypes : Array TypeId} (ho : o.op = .call { callee := .builtin .append, args, argTypes }) {out : Out} (hs : step T (evO s.slots) s.blks o = some out) (hp : out.pre)
    (hm : out.mak ≠ none → s.blks (idOf o.dst 0) = none) (hd : ∀ t, o.dst = some t → t < c.nt) : Done P c o a w (s.out o.dst out) := by
  simp only [step, ho] at hs
  split at hs
  · rename_i x y t t' hx1 ht1
    have hnil : (if isNil x = true then AV.nils else evO s.slots x) = evO s.slots x := by
      split
      · rename_i hx0; exact (isNil_ev hx0).symm
      · rfl
    rw [hnil] at hs
    have ha : args = #[x, y] := by cases args; simp at hx1; simp [hx1]
    have hta : argTypes = #[t, t'] := by cases argTypes; simp at ht1; simp [ht1]
    subst ha hta
    have hx := h.op x
    have hy := h.op y
    have hwx := h.opwf x
    have hwy := h.opwf y
    cases hd' : T.td t with
    | none => simp [hd'] at hs
    | some d =>
      simp only [hd'] at hs
      cases he : d.elem with
      | none => simp [he] at hs
      | some e =>
        simp only [he] at hs
        cases hte : T.td e with
        | none => simp [hte] at hs
        | some de =>
          simp only [hte] at hs
          split at hs
          · rename_i htt
            obtain ⟨htt, hbpos⟩ := htt
            have htt' := htt.symm
            subst htt'
            have ht := hT t d hd'
            have hte' := hT e de hte
            obtain ⟨i, zv, hi, hsz, hby, hz, hzc⟩ := hte'.info
            obtain ⟨u, hu, _, hel, _⟩ := ht.und
            obtain rfl := hel e he
            have hzs : zv.cells.size = de.size := by
              have := congrArg List.length hzc
              simpa [hte'.zl] using this
            cases hey : elemsOf s.blks de.size (evO s.slots y) with
            | none => simp [hey] at hs
            | some my =>
              obtain ⟨m, ys⟩ := my
              simp only [hey] at hs
              obtain ⟨B, cy, news, hvy, hry, hly, hcy⟩ := elems_rep h hy hwy hey
              have hln : news.length = m * de.size := by rw [hry.1, hly]
              have hexec : ∀ {vx r w'}, a.eval x = vx → (Builtin.append_ #[t, t] o.type #[vx, .slice B m cy]).run P w = .ok r w' → (execOp a.eval o).run P w = .ok (.value r) w' := by
                intro vx r w' hvx hr
                simp [execOp, ho, resolve, invoke, Go.builtin, hvx, hvy, hr]
              have h100 : 100 ≤ idOf o.dst 0 := by unfold idOf; omega
              -- what the append reads
              have hfy : (Builtin.firstCells i.size m (.slice B m cy)).run P w = .ok news.toArray w := by rw [hsz]; exact first_run hln hcy
              have hfy' : (Builtin.firstCells i.size m (.slice B m cy)).run P w.drew = .ok news.toArray w.drew := by rw [hsz]; exact first_run' hln hcy
              -- onto nothing
              have onto0 : ∀ {s1 : St} {A : Option Addr}, SimI c im pl s1 a w → s1.blks (idOf o.dst 0) = none → a.eval x = .slice A 0 0 → m * de.bytes ≤ maxApp →
                  ∃ v w' im' pl', (execOp a.eval o).run P w = .ok (.value v) w' ∧ SimI c im' pl' ((s1.setB (idOf o.dst 0) ⟨de.size, m, ys, 0⟩).putD o.dst (.row (idOf o.dst 0) de.size 0 m)) (a.put o.dst v) w' := by
                intro s1 A h1 hnew hvx hb
                unfold maxApp at hb
                by_cases hm0 : m = 0
                · subst hm0
                  have hys : ys = [] := List.eq_nil_of_length_eq_zero (by simpa using hly)
                  have hnews : news = [] := List.eq_nil_of_length_eq_zero (by simpa using hln)
                  subst hys hnews
                  have hr := run_append_fit (P := P) (w := w) (t := t) (ty := o.type) hu hi (base := A) (sLen := 0) (sCap := 0) hfy (by omega) (w' := w) (fun A hA => by simp [storeCells]) (fun _ => rfl)
                  refine ⟨_, _, im, _, hexec hvx hr, (h1.adopt0 ok hnew h100 de.size).putD (x := .row (idOf o.dst 0) de.size 0 0) (.row0 _ _ _ _) ⟨_, if_pos rfl, rfl, by simp⟩ hd⟩
                · have hm63 : m ≤ 70368744177664 := by
                    have : m * 1 ≤ m * de.bytes := Nat.mul_le_mul_left _ hbpos
                    omega
                  have hr := run_append_more (P := P) (w := w) (t := t) (ty := o.type) hu hi hz (base := A) (sLen := 0) (sCap := 0) (olds := []) (by simpa using first_run' (P := P) (w := w) (size := i.size) (m := 0) (B := A) (cp := 0) (news := []) (by simp) (.inl rfl)) hfy' (by omega) (by omega) (growslice_fits (by omega) (by rw [hby]; simp; omega))
                  simp only [Nat.zero_add, Array.empty_append] at hr
                  have hcap := grownCap_ge w m 0 e
                  have hmade := append_made (rest := []) ok h1 hnew h100 (e := e) hcap hzs hry hly
                  refine ⟨_, _, im, _, hexec hvx hr, hmade.putD (x := .row (idOf o.dst 0) de.size 0 m) ?_ ⟨_, if_pos rfl, rfl, by simp⟩ hd⟩
                  have := RepA.row (w := w.drew.alloc (.cells (news.toArray ++ Builtin.zeroCells zv.cells (grownCap w m 0 e - m)) e)) (im := im) (pl := fun j => if j = idOf o.dst 0 then some ⟨w.heap.size, 0, grownCap w m 0 e⟩ else pl j) (i := idOf o.dst 0) (sz := de.size) (off := 0) (len := m) (c := grownCap w m 0 e) (p := ⟨w.heap.size, 0, grownCap w m 0 e⟩) (if_pos rfl) (by simp) hcap
                  simpa using this
              generalize hvx : a.eval x = vx at hx
              generalize evO s.slots x = ax at hs hx hwx
              cases ax with
              | nils =>
                simp only at hs
                cases out_inj hs
                have := rep_nils hx
                subst this
                obtain ⟨v, w', im', pl', g1, g2⟩ := onto0 h (hm (by simp)) hvx hp
                exact ⟨v, w', im', pl', .inl g1, g2⟩
              | row j sz' off len =>
                simp only at hs
                cases hk : s.blks j with
                | none => simp [hk] at hs
                | some k =>
                  simp only [hk] at hs
                  split at hs
                  · rename_i hcond
                    obtain ⟨hsz', hst, hj100⟩ := hcond
                    subst hsz'
                    cases out_inj hs
                    simp only at hp
                    have hnew := hm (by simp)
                    obtain ⟨k2, hk2, hk3, hk4⟩ := hwx
                    rw [hk] at hk2; cases hk2
                    have hjd : j ≠ idOf o.dst 0 := by rintro rfl; rw [hk] at hnew; cases hnew
                    have h1 := h.dead ok hk hj100
                    have hnew1 : (s.setB j { k with st := 3 }).blks (idOf o.dst 0) = none := by simp only [St.setB]; rw [if_neg (Ne.symm hjd)]; exact hnew
                    have hkB := h.blks j k hk
                    obtain ⟨A, cp, olds, hvx', hro, hwhere⟩ := row_at hkB (by omega) hk3 hk4 hx
                    have hlo : (rowCells k off len).length = len * de.size := by rw [rowCells_len hkB.1 hk4, hk3]
                    have hlol : olds.length = len * de.size := by rw [hro.1, hlo]
                    have hpar : c.par j = none := by
                      cases hpp : c.par j with
                      | none => rfl
                      | some p => have := ok.parlt j p hpp; omega
                    have hmax : len + m ≤ 70368744177664 := by
                      unfold maxApp at hp
                      have : (len + m) * 1 ≤ (len + m) * de.bytes := Nat.mul_le_mul_left _ hbpos
                      omega
                    have hall : RepLs w im (olds ++ news) (rowCells k off len ++ ys) := hro.append hry
                    have hlall : (rowCells k off len ++ ys).length = (len + m) * de.size := by rw [List.length_append, hlo, hly, Nat.add_mul]
                    have hfo : (Builtin.firstCells i.size len (.slice A len cp)).run P w.drew = .ok olds.toArray w.drew := by
                      rw [hsz]
                      refine first_run' hlol ?_
                      rcases hwhere with hw0 | ⟨p, cur, e', g4, g5, g6, g7, g8, g9⟩
                      · exact .inl hw0
                      · exact .inr ⟨_, _, g5, fun j u hj => cell_at g8 (g9 j u hj)⟩
                    -- is there room?
                    by_cases hroom : len + m ≤ cp
                    · -- where the slice lies
                      cases hx with
                      | row0 A' =>
                        cases hvx'
                        obtain rfl : m = 0 := by omega
                        have hz0 : rowCells k off 0 = [] := List.eq_nil_of_length_eq_zero (by simpa using hlo)
                        have := onto0 h1 hnew1 hvx (by unfold maxApp; simp)
                        obtain ⟨v, w', im', pl', g1, g2⟩ := this
                        refine ⟨v, w', im', pl', .inl g1, ?_⟩
                        simpa [hz0, St.out, St.frz, St.updO, St.mkO] using g2
                      | row hpl hle1 hle2 =>
                        rename_i cp' p
                        cases hvx'
                        obtain ⟨hkl, hkB'⟩ := hkB
                        rcases hkB' with hB | ⟨hB, _⟩ | ⟨q', cur, e', vs, q1, q2, q3, q4, q5, q6, q7, q8, q9, q10⟩
                        · omega
                        · rw [hB] at hpl; cases hpl
                        · rw [q1] at hpl; cases hpl
                          have hbB : c.w0.heap.size ≤ p.b := q3.resolve_right (by simp [hpar])
                          have him : ¬ im p.b := q9 (by omega)
                          rw [hk3] at q5
                          have hcapm : (off + cp) * de.size ≤ p.cap * de.size := Nat.mul_le_mul_right _ hle1
                          have hroomm : (len + m) * de.size ≤ cp * de.size := Nat.mul_le_mul_right _ hroom
                          rw [Nat.add_mul] at hcapm hroomm
                          have hfit : p.o + off * de.size + len * de.size + 0 + news.length ≤ cur.size := by rw [hln]; omega
                          have hstc := run_storeCells_at P p.b (p.o + off * de.size + len * de.size) e' news 0 cur w q2 hfit hry.oneCell
                          have hr := run_append_fit (P := P) (w := w) (t := t) (ty := o.type) hu hi (base := some ⟨p.b, p.o + off * de.size, none⟩) (sLen := len) (sCap := cp) hfy hroom (fun A hA => by cases hA; rw [addr_add, hsz]; exact hstc) (fun hn => by cases hn)
                          simp only [Nat.add_zero] at hr
                          generalize hcur' : (cur.toList.take (p.o + off * de.size + len * de.size) ++ news ++ cur.toList.drop (p.o + off * de.size + len * de.size + news.length)).toArray = cur' at hr
                          have hcs' : cur'.size = cur.size := by
                            rw [← hcur']
                            simp only [List.size_toArray, List.length_append, List.length_take, List.length_drop, Array.length_toList]; omega
                          have hrow := setRow_heap w p.b cur cur' e' (0, 0) q2
                          have hfree : ∀ j' k' p', (s.setB j { k with st := 3 }).blks j' = some k' → k'.st < 3 → pl j' = some p' → p'.b ≠ p.b := by
                            intro j' k' p' hj' hst' hp' hbb
                            simp only [St.setB] at hj'
                            by_cases ej : j' = j
                            · rw [if_pos ej] at hj'; cases hj'; simp at hst'
                            · rw [if_neg ej] at hj'
                              by_cases hl' : k'.st < 2
                              · exact ej (h.dist j' j k' k p' p hj' hk hl' (by omega) hp' q1 hbb)
                              · obtain ⟨_, hB' | ⟨hB', _⟩ | ⟨q2', cur2, e2, vs2, r1, r2, r3, r4, r5, r6, r7, r8, r9, r10⟩⟩ := h.blks j' k' hj'
                                · omega
                                · rw [hB'] at hp'; cases hp'
                                · rw [r1] at hp'; cases hp'
                                  exact him (hbb ▸ r8 (by omega))
                          have h2 := h1.scribble (b := p.b) (w' := w.setRow p.b cur') hbB him rfl rfl rfl (by simp) (fun b' hb' => setRow_other w p.b b' cur' hb') hfree ok.seglt
                          have himo : ∀ b, im b → (w.setRow p.b cur').heap[b]? = w.heap[b]? := fun b hb => setRow_other w p.b b cur' (fun e => him (e ▸ hb))
                          have h3 := h2.adopt ok hnew1 h100 (q := ⟨p.b, p.o + off * de.size, cp⟩) (cur := cur') (e := e') (vs := olds ++ news) (k := ⟨de.size, len + m, rowCells k off len ++ ys, 0⟩) hrow hbB hroom (by rw [hcs']; show p.o + off * de.size + cp * de.size ≤ cur.size; omega)
                            (fun jj u hj => by
                              rw [← hcur']
                              show (_ : Array Value)[p.o + off * de.size + jj]? = some u
                              simp only [List.getElem?_toArray, List.getElem?_append, List.length_append, List.length_take, Array.length_toList, List.getElem?_take, List.getElem?_drop] at hj ⊢
                              have hmin : min (p.o + off * de.size + len * de.size) cur.size = p.o + off * de.size + len * de.size := by omega
                              rw [hmin]
                              by_cases h5 : jj < olds.length
                              · rw [if_pos h5] at hj
                                rw [if_pos (by omega), if_pos (by omega), if_pos (by omega)]
                                rcases hwhere with hw0 | ⟨p2, cur2, e2, g4, g5, g6, g7, g8, g9⟩
                                · subst hw0; simp at hlol; subst hlol; simp at h5
                                · rw [q1] at g4; cases g4; rw [q2] at g8; cases g8
                                  simpa using g9 jj u hj
                              · rw [if_neg h5] at hj
                                have h6 : jj - olds.length < news.length := (List.getElem?_eq_some_iff.1 hj).1
                                rw [if_pos (by omega), if_neg (by omega)]
                                rw [show p.o + off * de.size + jj - (p.o + off * de.size + len * de.size) = jj - olds.length by omega]
                                exact hj)
                            (hall.mono (fun _ h => h) himo) him (by simp) hlall (fun j' k' p' h4 h5 h6 => hfree j' k' p' h4 (by omega) h6)
                          refine ⟨_, _, im, _, .inl (hexec hvx hr), h3.putD (x := .row (idOf o.dst 0) de.size 0 (len + m)) ?_ ⟨_, if_pos rfl, rfl, by simp⟩ hd⟩
                          have := RepA.row (w := w.setRow p.b cur') (im := im) (pl := fun j => if j = idOf o.dst 0 then some ⟨p.b, p.o + off * de.size, cp⟩ else pl j) (i := idOf o.dst 0) (sz := de.size) (off := 0) (len := len + m) (c := cp) (p := ⟨p.b, p.o + off * de.size, cp⟩) (if_pos rfl) (by simp) hroom
                          simpa using this
                    · -- a new block
                      subst hvx'
                      unfold maxApp at hp
                      have hr := run_append_more (P := P) (w := w) (t := t) (ty := o.type) hu hi hz (base := A) (sLen := len) (sCap := cp) hfo hfy' (by omega) (by omega) (growslice_fits (by omega) (by rw [hby]; omega))
                      have hcap := grownCap_ge w (len + m) cp e
                      have hmade := append_made (rest := []) ok h1 hnew1 h100 (e := e) hcap hzs hall hlall
                      have hcells : olds.toArray ++ news.toArray = (olds ++ news).toArray := by simp
                      rw [hcells] at hr
                      refine ⟨_, _, im, _, .inl (hexec hvx hr), hmade.putD (x := .row (idOf o.dst 0) de.size 0 (len + m)) ?_ ⟨_, if_pos rfl, rfl, by simp⟩ hd⟩
                      have := RepA.row (w := w.drew.alloc (.cells ((olds ++ news).toArray ++ Builtin.zeroCells zv.cells (grownCap w (len + m) cp e - (len + m))) e)) (im := im) (pl := fun j => if j = idOf o.dst 0 then some ⟨w.heap.size, 0, grownCap w (len + m) cp e⟩ else pl j) (i := idOf o.dst 0) (sz := de.size) (off := 0) (len := len + m) (c := grownCap w (len + m) cp e) (p := ⟨w.heap.size, 0, grownCap w (len + m) cp e⟩) (if_pos rfl) (by simp) hcap
                      simpa using this
                  · simp at hs
              | _ => simp at hs
          · simp at hs
  · simp at hs

end
end Go.Proofs.YtdhgdpcmdmgchaaGreat.Fw
