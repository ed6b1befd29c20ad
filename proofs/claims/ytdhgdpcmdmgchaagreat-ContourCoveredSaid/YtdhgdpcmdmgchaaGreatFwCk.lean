/- Contracts: long division. Conditions: none. -/
import Derived.Test.YtdhgdpcmdmgchaaGreatFwCj
import Derived.Test.YtdhgdpcmdmgchaaGreatFwZ
namespace Go.Proofs.YtdhgdpcmdmgchaaGreat.Fw
open Go Go.Proofs
set_option linter.unusedSimpArgs false
set_option linter.unusedVariables false
set_option maxHeartbeats 2000000
set_option maxRecDepth 10000

/-- The numbers of limbs of a quotient and of a remainder. -/
def dk (a b : Nat) : Nat := if nd b = 1 then nd a else if a < b then 0 else nd a + 2 - nd b
def dr (a b : Nat) : Nat := if nd b = 1 then 1 else if a < b then nd a else nd (a % b * (Bs / (dgt b (nd b - 1) + 1)))

theorem divide_ok (a b k j : Nat) (ha : a < Bs ^ k) (hk : k < 2 ^ 38) (hb : b < Bs ^ j) (hj : j < 2 ^ 38) (hb0 : b ≠ 0) :
    Ok Tryz.prog 85 [.lf (.sl 1 k (du a k)), .lf (.sl 1 j (du b j))] ⟨[.lf (.sl 1 (dk a b) (du (a / b) (dk a b))), .lf (.sl 1 (dr a b) (du (a % b) (dr a b)))], []⟩ := by
  refine ok_of_V (T := Tb) tb_ok mo Tryz.func85 rfl (by kernel_rfl) (by kernel_rfl) (by simp [Tryz.ntmps85, mts]) ?_
  simp (maxSteps := 4000000) (dsimp := false) (disch := omega) only [go_sem, eZ, ↓reduceIte, Nat.reduceEqDiff, Nat.reduceMul, Nat.reduceAdd, Nat.reduceSub, Nat.reduceLT, Nat.reduceLeDiff, Nat.reduceBEq, reduceCtorEq, Int.reduceToNat, Int.reduceEq, Int.reduceLT, Int.reduceLE, Int.reduceNeg, Int.reduceSub, Int.reduceAdd, Int.reduceMul, Tryz.results85]
  refine callK (trim_ok a k ha (by omega)) ?_
  simp (maxSteps := 4000000) (dsimp := false) (disch := omega) only [go_sem, eZ, ↓reduceIte, Nat.reduceEqDiff, Nat.reduceMul, Nat.reduceAdd, Nat.reduceSub, Nat.reduceLT, Nat.reduceLeDiff, Nat.reduceBEq, reduceCtorEq, Int.reduceToNat, Int.reduceEq, Int.reduceLT, Int.reduceLE, Int.reduceNeg, Int.reduceSub, Int.reduceAdd, Int.reduceMul, Tryz.results85]
  refine callK (trim_ok b j hb (by omega)) ?_
  have hka := nd_le ha
  have hkb := nd_le hb
  have hb1 : nd b ≠ 0 := fun h => hb0 (nd_eq_zero.1 h)
  have hla := nd_lt a
  have hlb := nd_lt b
  simp (maxSteps := 4000000) (dsimp := false) (disch := omega) only [go_sem, eZ, ↓reduceIte, Nat.reduceEqDiff, Nat.reduceMul, Nat.reduceAdd, Nat.reduceSub, Nat.reduceLT, Nat.reduceLeDiff, Nat.reduceBEq, reduceCtorEq, Int.reduceToNat, Int.reduceEq, Int.reduceLT, Int.reduceLE, Int.reduceNeg, Int.reduceSub, Int.reduceAdd, Int.reduceMul, Tryz.results85]
  have g0 := dgt_lt b 0
  refine ⟨fun h1 => ?_, fun h1 => ?_⟩
  · have h1 : nd b = 1 := by omega
    have hb2 : b < 1000000000 := by rw [h1] at hlb; simpa using hlb
    have e0 : dgt b 0 = b := by simp only [dgt, Nat.pow_zero, Nat.div_one]; exact Nat.mod_eq_of_lt hb2
    refine ⟨by omega, by omega, ?_⟩
    refine callK (byWord_ok a (nd a) (dgt b 0) (nd_lt a) (by omega) (by omega)) ?_
    simp (maxSteps := 4000000) (dsimp := false) (disch := omega) only [go_sem, eZ, ↓reduceIte, Nat.reduceEqDiff, Nat.reduceMul, Nat.reduceAdd, Nat.reduceSub, Nat.reduceLT, Nat.reduceLeDiff, Nat.reduceBEq, reduceCtorEq, Int.reduceToNat, Int.reduceEq, Int.reduceLT, Int.reduceLE, Int.reduceNeg, Int.reduceSub, Int.reduceAdd, Int.reduceMul, Tryz.results85]
    simp only [dk, dr, h1, if_true, e0]
    simp
  · refine callK (compare_ok a (nd a) b (nd b) hla (by omega) hlb (by omega)) ?_
    have h1 : nd b ≠ 1 := by omega
    have hn : nd b = nd b - 1 + 1 := by omega
    obtain ⟨hs0, hsB, hsV, hsn⟩ := scaled hn
    rw [← hn] at hsV hsn
    have hd1 := dgt_lt b (nd b - 1)
    obtain ⟨d, hd⟩ : ∃ d, dgt b (nd b - 1) + 1 = d := ⟨_, rfl⟩
    have hd' : (dgt b (nd b - 1) : Int) + 1 = (d : Int) := by omega
    rw [hd] at hs0 hsB hsV hsn
    obtain ⟨s, hs⟩ : ∃ s, 1000000000 / d = s := ⟨_, rfl⟩
    rw [show Bs / d = s from hs] at hs0 hsB hsV hsn
    simp only [Bs] at hsB
    have t1 := times_ok a s (nd a) 1 hla (by omega) (by simp only [Bs]; omega) (by omega)
    have t2 := times_ok b s (nd b) 1 hlb (by omega) (by simp only [Bs]; omega) (by omega)
    rw [du_one (m := s) (by simp only [Bs]; omega)] at t1 t2
    have las : a * s < Bs ^ (nd a + 1) := by
      rw [Nat.pow_succ]
      exact Nat.mul_lt_mul'' hla (by simp only [Bs]; omega)
    have lbs : b * s < Bs ^ (nd b + 1) := by
      rw [Nat.pow_succ]
      exact Nat.mul_lt_mul'' hlb (by simp only [Bs]; omega)
    simp (maxSteps := 4000000) (dsimp := false) (disch := omega) only [go_sem, eZ, ↓reduceIte, Nat.reduceEqDiff, Nat.reduceMul, Nat.reduceAdd, Nat.reduceSub, Nat.reduceLT, Nat.reduceLeDiff, Nat.reduceBEq, reduceCtorEq, Int.reduceToNat, Int.reduceEq, Int.reduceLT, Int.reduceLE, Int.reduceNeg, Int.reduceSub, Int.reduceAdd, Int.reduceMul, Tryz.results85, toNat_s1, toNat_s2, toNat_as1, toNat_as2, toNat_aa1, hd', tdiv_NB, hs]
    refine ⟨fun h2 => ?_, fun h2 => ⟨by omega, by omega, by omega, ?_⟩⟩
    · have h3 : a < b := by unfold cmpN at h2; split at h2; assumption; split at h2 <;> omega
      simp only [dk, dr, h1, h3, if_true, if_false, Nat.div_eq_of_lt h3, Nat.mod_eq_of_lt h3]
      refine ⟨by simp only [maxApp]; omega, ⟨trivial, rfl⟩, trivial, trivial⟩
    · have h3 : ¬ a < b := fun h3 => by simp [cmpN, h3] at h2
      have h4 : nd b ≤ nd a := nd_le (Nat.lt_of_le_of_lt (by omega) hla)
      refine callK t1 ?_
      simp (maxSteps := 4000000) (dsimp := false) (disch := omega) only [go_sem, eZ, ↓reduceIte, Nat.reduceEqDiff, Nat.reduceMul, Nat.reduceAdd, Nat.reduceSub, Nat.reduceLT, Nat.reduceLeDiff, Nat.reduceBEq, reduceCtorEq, Int.reduceToNat, Int.reduceEq, Int.reduceLT, Int.reduceLE, Int.reduceNeg, Int.reduceSub, Int.reduceAdd, Int.reduceMul, Tryz.results85, toNat_s1, toNat_s2, toNat_as1, toNat_as2, toNat_aa1, du_grow las]
      refine ⟨by simp only [maxApp]; omega, ?_⟩
      refine callK t2 ?_
      simp (maxSteps := 4000000) (dsimp := false) (disch := omega) only [go_sem, eZ, ↓reduceIte, Nat.reduceEqDiff, Nat.reduceMul, Nat.reduceAdd, Nat.reduceSub, Nat.reduceLT, Nat.reduceLeDiff, Nat.reduceBEq, reduceCtorEq, Int.reduceToNat, Int.reduceEq, Int.reduceLT, Int.reduceLE, Int.reduceNeg, Int.reduceSub, Int.reduceAdd, Int.reduceMul, Tryz.results85, toNat_s1, toNat_s2, toNat_as1, toNat_as2, toNat_aa1]
      refine callK (trim_ok (b * s) _ lbs (by omega)) ?_
      rw [hsn]
      obtain ⟨K, hK⟩ : ∃ K, nd a + 2 = K + nd b := ⟨nd a + 2 - nd b, by omega⟩
      have hK' : (nd a : Int) + 1 + 1 - (nd b : Int) = (K : Int) := by omega
      simp (maxSteps := 4000000) (dsimp := false) (disch := omega) only [go_sem, eZ, ↓reduceIte, Nat.reduceEqDiff, Nat.reduceMul, Nat.reduceAdd, Nat.reduceSub, Nat.reduceLT, Nat.reduceLeDiff, Nat.reduceBEq, reduceCtorEq, Int.reduceToNat, Int.reduceEq, Int.reduceLT, Int.reduceLE, Int.reduceNeg, Int.reduceSub, Int.reduceAdd, Int.reduceMul, Tryz.results85, toNat_s1, toNat_s2, toNat_as1, toNat_as2, toNat_aa1, hK']
      refine ⟨by simp only [maxApp]; omega, ?_⟩
      have hX := las
      obtain ⟨X, hXe⟩ : ∃ X, a * s = X := ⟨_, rfl⟩
      obtain ⟨V, hVe⟩ : ∃ V, b * s = V := ⟨_, rfl⟩
      rw [hXe] at hX
      rw [hVe] at hsV hsn
      have hV0 : 0 < V := by rw [← hVe]; exact Nat.mul_pos (Nat.pos_of_ne_zero hb0) hs0
      have hXV : X / V = a / b := by rw [← hXe, ← hVe]; exact Nat.mul_div_mul_right a b hs0
      have hXm : X % V = a % b * s := by rw [← hXe, ← hVe]; exact Nat.mul_mod_mul_right s a b
      obtain ⟨n, hn2⟩ : ∃ n, nd b = n + 2 := ⟨nd b - 2, by omega⟩
      have hV1 : 0 < dgt V (n + 1) := top_pos (by omega)
      have hVn : V < Bs ^ (n + 2) := by rw [← hn2]; exact hsV
      have hKV : X / Bs ^ K < V := by
        have h5 := nd_ge (b := V) (by omega)
        rw [hsn] at h5
        refine Nat.lt_of_lt_of_le ((Nat.div_lt_iff_lt_mul (Bp_pos K)).2 ?_) h5
        rw [← Nat.pow_add, show nd b - 1 + K = nd a + 1 by omega]; exact hX
      simp only [hXe, hVe]
      refine vloop (α := Nat) (fun i => ⟨[(6, .lf (.int .i64 (nd b))), (7, .lf (.int .u32 s)), (8, .row 1424 1 0 (nd a + 1 + 1)), (9, .lf (.sl 1 (nd b) (du V (nd b)))), (10, .row 1504 1 0 K), (11, .lf (.int .i64 ((i : Int) - 1)))],
        [(1424, ⟨1, nd a + 1 + 1, du (rem X V i) (nd a + 1 + 1), 0⟩), (1504, ⟨1, K, dm 0 (a / b) i K, 0⟩)]⟩) (fun i => i ≤ K) id K ?_ (Nat.le_refl _) ?_
      · rw [dm_full, rem_start hKV]
        (refine weak' [] ?_; simp (maxSteps := 4000000) (dsimp := false) (disch := omega) only [slotsW, blksW, parW, List.map_cons, List.map_nil, renF, renA, idsIn, go_sem, eZ, ↓reduceIte, Nat.reduceEqDiff, Nat.reduceMul, Nat.reduceAdd, Nat.reduceSub, Nat.reduceLT, Nat.reduceLeDiff, Nat.reduceBEq, reduceCtorEq, Int.reduceToNat, Int.reduceEq, Int.reduceLT, Int.reduceLE, Int.reduceNeg, Int.reduceSub, Int.reduceAdd, Int.reduceMul])
      · intro i h5
        cases i with
        | zero =>
          rw [rem_zero, dm_zero]
          simp (maxSteps := 4000000) (dsimp := false) (disch := omega) only [go_sem, eZ, ↓reduceIte, Nat.reduceEqDiff, Nat.reduceMul, Nat.reduceAdd, Nat.reduceSub, Nat.reduceLT, Nat.reduceLeDiff, Nat.reduceBEq, reduceCtorEq, Int.reduceToNat, Int.reduceEq, Int.reduceLT, Int.reduceLE, Int.reduceNeg, Int.reduceSub, Int.reduceAdd, Int.reduceMul, Tryz.results85, toNat_s1, toNat_s2, toNat_as1, toNat_as2, toNat_aa1, Int.reduceGE]
          have h6 : X % V < V := Nat.mod_lt _ hV0
          have h7 : X % V < Bs ^ nd b := Nat.lt_trans h6 hsV
          refine ⟨⟨by omega, by omega⟩, ?_⟩
          rw [rowCells_du (by omega), Nat.pow_zero, Nat.div_one]
          refine callK (trim_ok (X % V) (nd b) h7 (by omega)) ?_
          have h8 := nd_le h7
          simp (maxSteps := 4000000) (dsimp := false) (disch := omega) only [go_sem, eZ, ↓reduceIte, Nat.reduceEqDiff, Nat.reduceMul, Nat.reduceAdd, Nat.reduceSub, Nat.reduceLT, Nat.reduceLeDiff, Nat.reduceBEq, reduceCtorEq, Int.reduceToNat, Int.reduceEq, Int.reduceLT, Int.reduceLE, Int.reduceNeg, Int.reduceSub, Int.reduceAdd, Int.reduceMul, Tryz.results85, toNat_s1, toNat_s2, toNat_as1, toNat_as2, toNat_aa1, Int.reduceGE]
          refine callK (byWord_ok (X % V) _ s (nd_lt _) (by omega) ⟨hs0, hsB⟩) ?_
          simp (maxSteps := 4000000) (dsimp := false) (disch := omega) only [go_sem, eZ, ↓reduceIte, Nat.reduceEqDiff, Nat.reduceMul, Nat.reduceAdd, Nat.reduceSub, Nat.reduceLT, Nat.reduceLeDiff, Nat.reduceBEq, reduceCtorEq, Int.reduceToNat, Int.reduceEq, Int.reduceLT, Int.reduceLE, Int.reduceNeg, Int.reduceSub, Int.reduceAdd, Int.reduceMul, Tryz.results85, toNat_s1, toNat_s2, toNat_as1, toNat_as2, toNat_aa1, Int.reduceGE]
          have e1 : K = dk a b := by simp only [dk, h1, h3, if_false]; omega
          have e2 : nd (X % V) = dr a b := by
            simp only [dr, h1, h3, if_false]
            rw [hXm, hd, show Bs / d = s from hs]
          have e3 : X % V / s = a % b := by rw [hXm, Nat.mul_div_cancel _ hs0]
          rw [e2, e3, ← e1]
          exact ⟨⟨rfl, rfl⟩, rfl, rfl⟩
        | succ i =>
          have hW := win_lt (X := X) (i := i) hV0
          have hU := rem_lt (X := X) (i := i + 1) hV0 hsV
          have hWB : win X V i < Bs ^ (n + 3) := by
            have : V * Bs ≤ Bs ^ (n + 2) * Bs := Nat.mul_le_mul_right _ (Nat.le_of_lt hVn)
            rw [← Nat.pow_succ] at this
            exact Nat.lt_of_lt_of_le hW this
          have f0 : dgt (rem X V (i + 1)) (i + nd b) = dgt (win X V i) (n + 2) := by rw [dgt_shift, rem_div, hn2]
          have f1 : dgt (rem X V (i + 1)) (i + nd b - 1) = dgt (win X V i) (n + 1) := by rw [show i + nd b - 1 = i + (n + 1) by omega, dgt_shift, rem_div]
          have f2 : dgt (rem X V (i + 1)) (i + nd b - 2) = dgt (win X V i) n := by rw [show i + nd b - 2 = i + n by omega, dgt_shift, rem_div]
          have f3 := est_top hWB
          have g0 := dgt_lt (win X V i) (n + 2)
          have g1 := dgt_lt (win X V i) (n + 1)
          have g2 := dgt_lt (win X V i) n
          have g3 := dgt_lt V (n + 1)
          have g4 := dgt_lt V n
          have hE := est_start (W := win X V i) hVn hV1
          obtain ⟨hEb, hTb⟩ := est_bound hVn hV1 hW hE
          have hv : (dgt (win X V i) (n + 2) : Int) * 1000000000 + (dgt (win X V i) (n + 1) : Int) = ((win X V i / Bs ^ (n + 1) : Nat) : Int) := by rw [← f3]; simp
          have hr0 := Nat.mod_lt (win X V i / Bs ^ (n + 1)) hV1
          have hn1 : nd b - 1 = n + 1 := by omega
          have hn0 : nd b - 2 = n := by omega
          generalize win X V i / Bs ^ (n + 1) = T at *
          generalize dgt (win X V i) (n + 2) = u0 at *
          generalize dgt (win X V i) (n + 1) = u1 at *
          obtain ⟨u2, hu2⟩ : ∃ u2, dgt (win X V i) n = u2 := ⟨_, rfl⟩
          rw [hu2] at g2 f2
          obtain ⟨v1, hv1⟩ : ∃ v1, dgt V (n + 1) = v1 := ⟨_, rfl⟩
          obtain ⟨v2, hv2⟩ : ∃ v2, dgt V n = v2 := ⟨_, rfl⟩
          rw [hv1] at g3 hE hr0
          rw [hv2] at g4
          have hU' : rem X V (i + 1) < Bs ^ (nd a + 1 + 1) := by
            refine Nat.lt_of_lt_of_le hU (Nat.pow_le_pow_right Bs_pos (by omega))
          simp (maxSteps := 4000000) (dsimp := false) (disch := omega) only [go_sem, eZ, ↓reduceIte, Nat.reduceEqDiff, Nat.reduceMul, Nat.reduceAdd, Nat.reduceSub, Nat.reduceLT, Nat.reduceLeDiff, Nat.reduceBEq, reduceCtorEq, Int.reduceToNat, Int.reduceEq, Int.reduceLT, Int.reduceLE, Int.reduceNeg, Int.reduceSub, Int.reduceAdd, Int.reduceMul, Tryz.results85, toNat_s1, toNat_s2, toNat_as1, toNat_as2, toNat_aa1, f0, f1, f2, hn1, hn0, hv, hv1, hv2, tdiv_N, tmod_N]
          refine ⟨fun _ => ⟨by omega, by omega, by omega, by omega, by omega, by omega, by omega, by omega, by omega, by omega, ?_⟩, fun h => by omega⟩
          rw [hv1] at hEb
          obtain ⟨g, hg⟩ : ∃ g, T / v1 = g := ⟨_, rfl⟩
          obtain ⟨r, hr⟩ : ∃ r, T % v1 = r := ⟨_, rfl⟩
          rw [hg] at hE hEb
          rw [hr] at hE hr0
          rw [hg, hr, wrap_u64 (by omega)]
          have hfit : i + nd b < nd a + 1 + 1 := by omega
          have hi : i + 1 ≤ K := h5
          clear hv hg hr h5 hXe hVe t1 t2 hs hd hd'
          refine vloop (α := Nat × Nat) (fun x => ⟨[(6, .lf (.int .i64 (nd b))), (7, .lf (.int .u32 s)), (8, .row 1424 1 0 (nd a + 1 + 1)), (9, .lf (.sl 1 (nd b) (du V (nd b)))), (10, .row 1504 1 0 K), (11, .lf (.int .i64 i)), (13, .lf (.int .u64 x.1)), (14, .lf (.int .u64 x.2))],
            [(1424, ⟨1, nd a + 1 + 1, du (rem X V (i + 1)) (nd a + 1 + 1), 0⟩), (1504, ⟨1, K, dm 0 (a / b) (i + 1) K, 0⟩)]⟩) (fun x => Est (win X V i) V n x.1 x.2 ∧ x.2 < 1000000000) (fun x => x.1) (g, r) ?_ ⟨hE, by omega⟩ ?_
          · (refine weak' [] ?_; simp (maxSteps := 4000000) (dsimp := false) (disch := omega) only [slotsW, blksW, parW, List.map_cons, List.map_nil, renF, renA, idsIn, go_sem, eZ, ↓reduceIte, Nat.reduceEqDiff, Nat.reduceMul, Nat.reduceAdd, Nat.reduceSub, Nat.reduceLT, Nat.reduceLeDiff, Nat.reduceBEq, reduceCtorEq, Int.reduceToNat, Int.reduceEq, Int.reduceLT, Int.reduceLE, Int.reduceNeg, Int.reduceSub, Int.reduceAdd, Int.reduceMul])
          · intro ⟨g, r⟩ ⟨hE, hr⟩
            simp only at hE hr
            obtain ⟨hgb, _⟩ := est_bound hVn (by omega) hW hE
            obtain ⟨p, hp⟩ : ∃ p, g * v2 = p := ⟨_, rfl⟩
            have hp' : (g : Int) * (v2 : Int) = (p : Int) := by rw [← hp]; simp
            have hpb : p ≤ 2000000000000000000 := by
              rw [← hp]
              exact Nat.le_trans (Nat.mul_le_mul (Nat.le_of_lt hgb) (Nat.le_of_lt g4)) (by decide)
            have hrest : True := trivial
            have hb2 : 2 ≤ nd b := by omega
            have hka' : nd a < 2 ^ 38 := by omega
            have hmod0 : win X V i % V < Bs ^ (nd b + 1) := Nat.lt_trans (Nat.mod_lt _ hV0) (Nat.lt_trans hsV (Nat.pow_lt_pow_right (by decide) (Nat.lt_succ_self _)))
            have hdig : dgt (a / b) i = win X V i / V := by rw [← hXV]; exact (bw_dig X V i hV0).symm
            rw [show n + 3 = nd b + 1 by omega] at hWB
            clear hb1 hka hkb hla hlb h1 hn hsn hs0 las lbs h2 h3 hK' hXV hXm hn2 hKV f3 g0 g1 ha hb hj hk hb0 hU hTb hrest hr0
            simp (maxSteps := 4000000) (dsimp := false) (disch := omega) only [go_sem, eZ, ↓reduceIte, Nat.reduceEqDiff, Nat.reduceMul, Nat.reduceAdd, Nat.reduceSub, Nat.reduceLT, Nat.reduceLeDiff, Nat.reduceBEq, reduceCtorEq, Int.reduceToNat, Int.reduceEq, Int.reduceLT, Int.reduceLE, Int.reduceNeg, Int.reduceSub, Int.reduceAdd, Int.reduceMul, Tryz.results85, toNat_s1, toNat_s2, toNat_as1, toNat_as2, toNat_aa1, f0, f1, f2, hn1, hn0, hv1, hv2, hp', tdiv_N, tmod_N]
            have el : 0 < g → IntKind.u64.wrap ((g : Int) - 1) = ((g - 1 : Nat) : Int) := fun h => by rw [wrap_u64 (by omega)]; omega
            refine ⟨fun c1 => ⟨by omega, by omega, by omega, by omega, fun c2 => ?_, fun c2 => ⟨by omega, ?_⟩⟩, fun c1 => ?_⟩
            · obtain ⟨hg0, hE'⟩ := est_less hVn hV0 hW hE (.inr (by rw [hu2, hv2, hp]; simp only [Bs]; omega))
              rw [hv1] at hE'
              refine ⟨by omega, by omega, fun c3 => ⟨by omega, ?_⟩, fun c3 => ⟨(g - 1, r + v1), ?_, ⟨hE', by simp only; omega⟩, by simp only; omega⟩⟩
              · simp only [el hg0]
                obtain ⟨hg9, hq1, hq2⟩ := est_end hVn (by omega) hW hE' (.inr (by simp only [Bs]; omega))
                generalize g - 1 = g' at *
                rw [show i + nd b + 1 - i = nd b + 1 by omega, rowCells_du (by omega), rem_div]
                rcases step_cases (N := nd b) hV0 hsV hW hq1 hq2 with ⟨hgq, hneg, hmod⟩ | ⟨hgq, hneg, D, hD, hmod, hres⟩
                · have sub := subtract_ok (win X V i % V) (win X V i) V g' (nd b + 1) (nd b) (by omega) hWB hsV (by omega) hg9 hmod0 hmod
                  rw [decide_eq_false hneg] at sub
                  refine callMk sub ?_
                  simp (maxSteps := 4000000) (dsimp := false) (disch := omega) only [go_sem, eZ, ↓reduceIte, Nat.reduceEqDiff, Nat.reduceMul, Nat.reduceAdd, Nat.reduceSub, Nat.reduceLT, Nat.reduceLeDiff, Nat.reduceBEq, reduceCtorEq, Int.reduceToNat, Int.reduceEq, Int.reduceLT, Int.reduceLE, Int.reduceNeg, Int.reduceSub, Int.reduceAdd, Int.reduceMul, Tryz.results85, toNat_s1, toNat_s2, toNat_as1, toNat_as2, toNat_aa1, du_len, du_flat]
                  rw [blk_set hV0 hsV (by omega) hmod0, blk_fin, hgq, ← hdig]
                  refine ⟨by omega, by omega, i, ?_, by omega, by omega⟩
                  (refine weak' [] ?_; simp (maxSteps := 4000000) (dsimp := false) (disch := omega) only [slotsW, blksW, parW, List.map_cons, List.map_nil, renF, renA, idsIn, go_sem, eZ, ↓reduceIte, Nat.reduceEqDiff, Nat.reduceMul, Nat.reduceAdd, Nat.reduceSub, Nat.reduceLT, Nat.reduceLeDiff, Nat.reduceBEq, reduceCtorEq, Int.reduceToNat, Int.reduceEq, Int.reduceLT, Int.reduceLE, Int.reduceNeg, Int.reduceSub, Int.reduceAdd, Int.reduceMul])
                  exact dm_down (by omega) rfl
                · have sub := subtract_ok D (win X V i) V g' (nd b + 1) (nd b) (by omega) hWB hsV (by omega) hg9 hD hmod
                  rw [decide_eq_true hneg] at sub
                  refine callMk sub ?_
                  simp (maxSteps := 4000000) (dsimp := false) (disch := omega) only [go_sem, eZ, ↓reduceIte, Nat.reduceEqDiff, Nat.reduceMul, Nat.reduceAdd, Nat.reduceSub, Nat.reduceLT, Nat.reduceLeDiff, Nat.reduceBEq, reduceCtorEq, Int.reduceToNat, Int.reduceEq, Int.reduceLT, Int.reduceLE, Int.reduceNeg, Int.reduceSub, Int.reduceAdd, Int.reduceMul, Tryz.results85, toNat_s1, toNat_s2, toNat_as1, toNat_as2, toNat_aa1, du_len, du_flat]
                  rw [show i + nd b + 1 - i = nd b + 1 by omega, blk_set hV0 hsV (by omega) hD, blk_get (by omega)]
                  refine ⟨by omega, ?_⟩
                  have res := restore_ok D V (nd b + 1) (nd b) (by omega) hD hsV (by omega)
                  rw [hres] at res
                  refine callMk res ?_
                  simp (maxSteps := 4000000) (dsimp := false) (disch := omega) only [go_sem, eZ, ↓reduceIte, Nat.reduceEqDiff, Nat.reduceMul, Nat.reduceAdd, Nat.reduceSub, Nat.reduceLT, Nat.reduceLeDiff, Nat.reduceBEq, reduceCtorEq, Int.reduceToNat, Int.reduceEq, Int.reduceLT, Int.reduceLE, Int.reduceNeg, Int.reduceSub, Int.reduceAdd, Int.reduceMul, Tryz.results85, toNat_s1, toNat_s2, toNat_as1, toNat_as2, toNat_aa1, du_len, du_flat]
                  rw [blk_rest hV0 hsV (by omega) hD]
                  refine ⟨by omega, by omega, i, ?_, by omega, by omega⟩
                  (refine weak' [] ?_; simp (maxSteps := 4000000) (dsimp := false) (disch := omega) only [slotsW, blksW, parW, List.map_cons, List.map_nil, renF, renA, idsIn, go_sem, eZ, ↓reduceIte, Nat.reduceEqDiff, Nat.reduceMul, Nat.reduceAdd, Nat.reduceSub, Nat.reduceLT, Nat.reduceLeDiff, Nat.reduceBEq, reduceCtorEq, Int.reduceToNat, Int.reduceEq, Int.reduceLT, Int.reduceLE, Int.reduceNeg, Int.reduceSub, Int.reduceAdd, Int.reduceMul])
                  exact dm_down (by omega) (by rw [hgq, hdig, Int.natCast_add]; exact Int.add_sub_cancel _ _)
              · simp only [el hg0]
                (refine weak' [] ?_; simp (maxSteps := 4000000) (dsimp := false) (disch := omega) only [slotsW, blksW, parW, List.map_cons, List.map_nil, renF, renA, idsIn, go_sem, eZ, ↓reduceIte, Nat.reduceEqDiff, Nat.reduceMul, Nat.reduceAdd, Nat.reduceSub, Nat.reduceLT, Nat.reduceLeDiff, Nat.reduceBEq, reduceCtorEq, Int.reduceToNat, Int.reduceEq, Int.reduceLT, Int.reduceLE, Int.reduceNeg, Int.reduceSub, Int.reduceAdd, Int.reduceMul])
            · have a1 : g < 1000000000 := by omega
              have a2 : p ≤ r * 1000000000 + u2 := by omega
              rw [← hp, ← hv2, ← hu2] at a2
              obtain ⟨hg9, hq1, hq2⟩ := est_end hVn (by omega) hW hE (.inl ⟨a1, a2⟩)
              · skip
                rw [show i + nd b + 1 - i = nd b + 1 by omega, rowCells_du (by omega), rem_div]
                rcases step_cases (N := nd b) hV0 hsV hW hq1 hq2 with ⟨hgq, hneg, hmod⟩ | ⟨hgq, hneg, D, hD, hmod, hres⟩
                · have sub := subtract_ok (win X V i % V) (win X V i) V g (nd b + 1) (nd b) (by omega) hWB hsV (by omega) hg9 hmod0 hmod
                  rw [decide_eq_false hneg] at sub
                  refine callMk sub ?_
                  simp (maxSteps := 4000000) (dsimp := false) (disch := omega) only [go_sem, eZ, ↓reduceIte, Nat.reduceEqDiff, Nat.reduceMul, Nat.reduceAdd, Nat.reduceSub, Nat.reduceLT, Nat.reduceLeDiff, Nat.reduceBEq, reduceCtorEq, Int.reduceToNat, Int.reduceEq, Int.reduceLT, Int.reduceLE, Int.reduceNeg, Int.reduceSub, Int.reduceAdd, Int.reduceMul, Tryz.results85, toNat_s1, toNat_s2, toNat_as1, toNat_as2, toNat_aa1, du_len, du_flat]
                  rw [blk_set hV0 hsV (by omega) hmod0, blk_fin, hgq, ← hdig]
                  refine ⟨by omega, by omega, i, ?_, by omega, by omega⟩
                  (refine weak' [] ?_; simp (maxSteps := 4000000) (dsimp := false) (disch := omega) only [slotsW, blksW, parW, List.map_cons, List.map_nil, renF, renA, idsIn, go_sem, eZ, ↓reduceIte, Nat.reduceEqDiff, Nat.reduceMul, Nat.reduceAdd, Nat.reduceSub, Nat.reduceLT, Nat.reduceLeDiff, Nat.reduceBEq, reduceCtorEq, Int.reduceToNat, Int.reduceEq, Int.reduceLT, Int.reduceLE, Int.reduceNeg, Int.reduceSub, Int.reduceAdd, Int.reduceMul])
                  exact dm_down (by omega) rfl
                · have sub := subtract_ok D (win X V i) V g (nd b + 1) (nd b) (by omega) hWB hsV (by omega) hg9 hD hmod
                  rw [decide_eq_true hneg] at sub
                  refine callMk sub ?_
                  simp (maxSteps := 4000000) (dsimp := false) (disch := omega) only [go_sem, eZ, ↓reduceIte, Nat.reduceEqDiff, Nat.reduceMul, Nat.reduceAdd, Nat.reduceSub, Nat.reduceLT, Nat.reduceLeDiff, Nat.reduceBEq, reduceCtorEq, Int.reduceToNat, Int.reduceEq, Int.reduceLT, Int.reduceLE, Int.reduceNeg, Int.reduceSub, Int.reduceAdd, Int.reduceMul, Tryz.results85, toNat_s1, toNat_s2, toNat_as1, toNat_as2, toNat_aa1, du_len, du_flat]
                  rw [show i + nd b + 1 - i = nd b + 1 by omega, blk_set hV0 hsV (by omega) hD, blk_get (by omega)]
                  refine ⟨by omega, ?_⟩
                  have res := restore_ok D V (nd b + 1) (nd b) (by omega) hD hsV (by omega)
                  rw [hres] at res
                  refine callMk res ?_
                  simp (maxSteps := 4000000) (dsimp := false) (disch := omega) only [go_sem, eZ, ↓reduceIte, Nat.reduceEqDiff, Nat.reduceMul, Nat.reduceAdd, Nat.reduceSub, Nat.reduceLT, Nat.reduceLeDiff, Nat.reduceBEq, reduceCtorEq, Int.reduceToNat, Int.reduceEq, Int.reduceLT, Int.reduceLE, Int.reduceNeg, Int.reduceSub, Int.reduceAdd, Int.reduceMul, Tryz.results85, toNat_s1, toNat_s2, toNat_as1, toNat_as2, toNat_aa1, du_len, du_flat]
                  rw [blk_rest hV0 hsV (by omega) hD]
                  refine ⟨by omega, by omega, i, ?_, by omega, by omega⟩
                  (refine weak' [] ?_; simp (maxSteps := 4000000) (dsimp := false) (disch := omega) only [slotsW, blksW, parW, List.map_cons, List.map_nil, renF, renA, idsIn, go_sem, eZ, ↓reduceIte, Nat.reduceEqDiff, Nat.reduceMul, Nat.reduceAdd, Nat.reduceSub, Nat.reduceLT, Nat.reduceLeDiff, Nat.reduceBEq, reduceCtorEq, Int.reduceToNat, Int.reduceEq, Int.reduceLT, Int.reduceLE, Int.reduceNeg, Int.reduceSub, Int.reduceAdd, Int.reduceMul])
                  exact dm_down (by omega) (by rw [hgq, hdig, Int.natCast_add]; exact Int.add_sub_cancel _ _)
            · obtain ⟨hg0, hE'⟩ := est_less hVn hV0 hW hE (.inl (by simp only [Bs]; omega))
              rw [hv1] at hE'
              refine ⟨by omega, by omega, fun c3 => ⟨by omega, ?_⟩, fun c3 => ⟨(g - 1, r + v1), ?_, ⟨hE', by simp only; omega⟩, by simp only; omega⟩⟩
              · simp only [el hg0]
                obtain ⟨hg9, hq1, hq2⟩ := est_end hVn (by omega) hW hE' (.inr (by simp only [Bs]; omega))
                generalize g - 1 = g' at *
                rw [show i + nd b + 1 - i = nd b + 1 by omega, rowCells_du (by omega), rem_div]
                rcases step_cases (N := nd b) hV0 hsV hW hq1 hq2 with ⟨hgq, hneg, hmod⟩ | ⟨hgq, hneg, D, hD, hmod, hres⟩
                · have sub := subtract_ok (win X V i % V) (win X V i) V g' (nd b + 1) (nd b) (by omega) hWB hsV (by omega) hg9 hmod0 hmod
                  rw [decide_eq_false hneg] at sub
                  refine callMk sub ?_
                  simp (maxSteps := 4000000) (dsimp := false) (disch := omega) only [go_sem, eZ, ↓reduceIte, Nat.reduceEqDiff, Nat.reduceMul, Nat.reduceAdd, Nat.reduceSub, Nat.reduceLT, Nat.reduceLeDiff, Nat.reduceBEq, reduceCtorEq, Int.reduceToNat, Int.reduceEq, Int.reduceLT, Int.reduceLE, Int.reduceNeg, Int.reduceSub, Int.reduceAdd, Int.reduceMul, Tryz.results85, toNat_s1, toNat_s2, toNat_as1, toNat_as2, toNat_aa1, du_len, du_flat]
                  rw [blk_set hV0 hsV (by omega) hmod0, blk_fin, hgq, ← hdig]
                  refine ⟨by omega, by omega, i, ?_, by omega, by omega⟩
                  (refine weak' [] ?_; simp (maxSteps := 4000000) (dsimp := false) (disch := omega) only [slotsW, blksW, parW, List.map_cons, List.map_nil, renF, renA, idsIn, go_sem, eZ, ↓reduceIte, Nat.reduceEqDiff, Nat.reduceMul, Nat.reduceAdd, Nat.reduceSub, Nat.reduceLT, Nat.reduceLeDiff, Nat.reduceBEq, reduceCtorEq, Int.reduceToNat, Int.reduceEq, Int.reduceLT, Int.reduceLE, Int.reduceNeg, Int.reduceSub, Int.reduceAdd, Int.reduceMul])
                  exact dm_down (by omega) rfl
                · have sub := subtract_ok D (win X V i) V g' (nd b + 1) (nd b) (by omega) hWB hsV (by omega) hg9 hD hmod
                  rw [decide_eq_true hneg] at sub
                  refine callMk sub ?_
                  simp (maxSteps := 4000000) (dsimp := false) (disch := omega) only [go_sem, eZ, ↓reduceIte, Nat.reduceEqDiff, Nat.reduceMul, Nat.reduceAdd, Nat.reduceSub, Nat.reduceLT, Nat.reduceLeDiff, Nat.reduceBEq, reduceCtorEq, Int.reduceToNat, Int.reduceEq, Int.reduceLT, Int.reduceLE, Int.reduceNeg, Int.reduceSub, Int.reduceAdd, Int.reduceMul, Tryz.results85, toNat_s1, toNat_s2, toNat_as1, toNat_as2, toNat_aa1, du_len, du_flat]
                  rw [show i + nd b + 1 - i = nd b + 1 by omega, blk_set hV0 hsV (by omega) hD, blk_get (by omega)]
                  refine ⟨by omega, ?_⟩
                  have res := restore_ok D V (nd b + 1) (nd b) (by omega) hD hsV (by omega)
                  rw [hres] at res
                  refine callMk res ?_
                  simp (maxSteps := 4000000) (dsimp := false) (disch := omega) only [go_sem, eZ, ↓reduceIte, Nat.reduceEqDiff, Nat.reduceMul, Nat.reduceAdd, Nat.reduceSub, Nat.reduceLT, Nat.reduceLeDiff, Nat.reduceBEq, reduceCtorEq, Int.reduceToNat, Int.reduceEq, Int.reduceLT, Int.reduceLE, Int.reduceNeg, Int.reduceSub, Int.reduceAdd, Int.reduceMul, Tryz.results85, toNat_s1, toNat_s2, toNat_as1, toNat_as2, toNat_aa1, du_len, du_flat]
                  rw [blk_rest hV0 hsV (by omega) hD]
                  refine ⟨by omega, by omega, i, ?_, by omega, by omega⟩
                  (refine weak' [] ?_; simp (maxSteps := 4000000) (dsimp := false) (disch := omega) only [slotsW, blksW, parW, List.map_cons, List.map_nil, renF, renA, idsIn, go_sem, eZ, ↓reduceIte, Nat.reduceEqDiff, Nat.reduceMul, Nat.reduceAdd, Nat.reduceSub, Nat.reduceLT, Nat.reduceLeDiff, Nat.reduceBEq, reduceCtorEq, Int.reduceToNat, Int.reduceEq, Int.reduceLT, Int.reduceLE, Int.reduceNeg, Int.reduceSub, Int.reduceAdd, Int.reduceMul])
                  exact dm_down (by omega) (by rw [hgq, hdig, Int.natCast_add]; exact Int.add_sub_cancel _ _)
              · simp only [el hg0]
                (refine weak' [] ?_; simp (maxSteps := 4000000) (dsimp := false) (disch := omega) only [slotsW, blksW, parW, List.map_cons, List.map_nil, renF, renA, idsIn, go_sem, eZ, ↓reduceIte, Nat.reduceEqDiff, Nat.reduceMul, Nat.reduceAdd, Nat.reduceSub, Nat.reduceLT, Nat.reduceLeDiff, Nat.reduceBEq, reduceCtorEq, Int.reduceToNat, Int.reduceEq, Int.reduceLT, Int.reduceLE, Int.reduceNeg, Int.reduceSub, Int.reduceAdd, Int.reduceMul])
end Go.Proofs.YtdhgdpcmdmgchaaGreat.Fw
