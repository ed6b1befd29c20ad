/- Contracts: the reference's division. Conditions: none. -/
import Derived.Test.YtdhgdpcmdmgchaaGreatFwRb
namespace Go.Proofs.YtdhgdpcmdmgchaaGreat.Fw
open Go Go.Proofs
set_option linter.unusedSimpArgs false
set_option linter.unusedVariables false
set_option maxHeartbeats 2000000
set_option maxRecDepth 10000

theorem fparts_ok (a b : Nat) (ha : nd a < 2 ^ 36) (hb : nd b < 2 ^ 36) (hb0 : b ≠ 0) :
    Ok Tryz.prog 81 [.lf (.sl 1 (nd a) (du a (nd a))), .lf (.sl 1 (nd b) (du b (nd b)))] ⟨[.lf (.sl 1 (nd (a / b)) (du (a / b) (nd (a / b)))), .lf (.sl 1 (nd (a % b)) (du (a % b) (nd (a % b))))], []⟩ := by
  refine ok_of_V (T := Tb.join [91,103,117]) (join_ok (js := [91,103,117]) tb_ok) mo Tryz.func81 rfl (by kernel_rfl) (by kernel_rfl) (by simp [Tryz.ntmps81, mts]) ?_
  simp (maxSteps := 4000000) (dsimp := false) (disch := omega) only [go_sem, eZ, ↓reduceIte, Nat.reduceEqDiff, Nat.reduceMul, Nat.reduceAdd, Nat.reduceSub, Nat.reduceLT, Nat.reduceLeDiff, Nat.reduceBEq, reduceCtorEq, Int.reduceToNat, Int.reduceEq, Int.reduceLT, Int.reduceLE, Int.reduceNeg, Int.reduceSub, Int.reduceAdd, Int.reduceMul, Tryz.results81]
  refine ⟨fun c1 => ⟨fun c2 => ?_, fun c2 => ?_⟩, fun c1 => ?_⟩
  · have c1' : nd a ≤ 2 := by omega
    have c2' : nd b ≤ 2 := by omega
    have ha' := small_nat c1'
    have hb' := small_nat c2'
    have q1 : a / b ≤ a := Nat.div_le_self a b
    have q2 : a % b < b := Nat.mod_lt _ (Nat.pos_of_ne_zero hb0)
    have q3 : (0 : Int) ≤ ((a / b : Nat) : Int) := Int.natCast_nonneg _
    refine callK (fshort_ok a _ (nd_lt a) c1') ?_
    simp (maxSteps := 4000000) (dsimp := false) (disch := omega) only [go_sem, eZ, ↓reduceIte, Nat.reduceEqDiff, Nat.reduceMul, Nat.reduceAdd, Nat.reduceSub, Nat.reduceLT, Nat.reduceLeDiff, Nat.reduceBEq, reduceCtorEq, Int.reduceToNat, Int.reduceEq, Int.reduceLT, Int.reduceLE, Int.reduceNeg, Int.reduceSub, Int.reduceAdd, Int.reduceMul, Tryz.results81]
    refine callK (fshort_ok b _ (nd_lt b) c2') ?_
    simp (maxSteps := 4000000) (dsimp := false) (disch := omega) only [go_sem, eZ, ↓reduceIte, Nat.reduceEqDiff, Nat.reduceMul, Nat.reduceAdd, Nat.reduceSub, Nat.reduceLT, Nat.reduceLeDiff, Nat.reduceBEq, reduceCtorEq, Int.reduceToNat, Int.reduceEq, Int.reduceLT, Int.reduceLE, Int.reduceNeg, Int.reduceSub, Int.reduceAdd, Int.reduceMul, Tryz.results81, tdiv_N, tmod_N]
    refine ⟨by omega, ?_⟩
    refine callK (flimbs_ok (a / b) (by omega)) ?_
    simp (maxSteps := 4000000) (dsimp := false) (disch := omega) only [go_sem, eZ, ↓reduceIte, Nat.reduceEqDiff, Nat.reduceMul, Nat.reduceAdd, Nat.reduceSub, Nat.reduceLT, Nat.reduceLeDiff, Nat.reduceBEq, reduceCtorEq, Int.reduceToNat, Int.reduceEq, Int.reduceLT, Int.reduceLE, Int.reduceNeg, Int.reduceSub, Int.reduceAdd, Int.reduceMul, Tryz.results81, tdiv_N, tmod_N]
    refine ⟨by omega, ?_⟩
    refine callK (flimbs_ok (a % b) (by omega)) ?_
    simp (maxSteps := 4000000) (dsimp := false) (disch := omega) only [go_sem, eZ, ↓reduceIte, Nat.reduceEqDiff, Nat.reduceMul, Nat.reduceAdd, Nat.reduceSub, Nat.reduceLT, Nat.reduceLeDiff, Nat.reduceBEq, reduceCtorEq, Int.reduceToNat, Int.reduceEq, Int.reduceLT, Int.reduceLE, Int.reduceNeg, Int.reduceSub, Int.reduceAdd, Int.reduceMul, Tryz.results81]
  · skip
    have hn0 : nd b ≠ 0 := fun h => hb0 (nd_eq_zero.1 h)
    have hn : nd b = nd b - 1 + 1 := by omega
    have hla := nd_lt a
    have hlb := nd_lt b
    obtain ⟨hs0, hsB, hsV, hsn⟩ := scaled hn
    rw [← hn] at hsV hsn
    have hd1 := dgt_lt b (nd b - 1)
    obtain ⟨d, hd⟩ : ∃ d, dgt b (nd b - 1) + 1 = d := ⟨_, rfl⟩
    have hd' : (dgt b (nd b - 1) : Int) + 1 = (d : Int) := by omega
    rw [hd] at hs0 hsB hsV hsn
    obtain ⟨s, hs⟩ : ∃ s, 1000000000 / d = s := ⟨_, rfl⟩
    rw [show Bs / d = s from hs] at hs0 hsB hsV hsn
    simp only [Bs] at hsB
    have hX : a * s < Bs ^ (nd a + 1) := by
      rw [Nat.pow_succ]
      exact Nat.mul_lt_mul'' hla (by simp only [Bs]; omega)
    simp (maxSteps := 4000000) (dsimp := false) (disch := omega) only [go_sem, eZ, ↓reduceIte, Nat.reduceEqDiff, Nat.reduceMul, Nat.reduceAdd, Nat.reduceSub, Nat.reduceLT, Nat.reduceLeDiff, Nat.reduceBEq, reduceCtorEq, Int.reduceToNat, Int.reduceEq, Int.reduceLT, Int.reduceLE, Int.reduceNeg, Int.reduceSub, Int.reduceAdd, Int.reduceMul, Tryz.results81, toNat_s1, hd', tdiv_NB, hs]
    refine ⟨by omega, by omega, by omega, ?_⟩
    refine callK (fby_ok b (nd b) s hlb (by omega) hsB) ?_
    rw [hsn]
    obtain ⟨V, hVe⟩ : ∃ V, b * s = V := ⟨_, rfl⟩
    rw [hVe] at hsV hsn ⊢
    have hV1 : dgt V (nd b - 1) < 1000000000 := dgt_lt _ _
    simp (maxSteps := 4000000) (dsimp := false) (disch := omega) only [go_sem, eZ, ↓reduceIte, Nat.reduceEqDiff, Nat.reduceMul, Nat.reduceAdd, Nat.reduceSub, Nat.reduceLT, Nat.reduceLeDiff, Nat.reduceBEq, reduceCtorEq, Int.reduceToNat, Int.reduceEq, Int.reduceLT, Int.reduceLE, Int.reduceNeg, Int.reduceSub, Int.reduceAdd, Int.reduceMul, Tryz.results81, toNat_s1]
    refine ⟨by omega, by omega, by simp only [maxApp]; omega, ?_⟩
    refine callK (fby_ok a (nd a) s hla (by omega) hsB) ?_
    obtain ⟨X, hXe⟩ : ∃ X, a * s = X := ⟨_, rfl⟩
    rw [hXe] at hX ⊢
    have hV0 : 0 < V := by rw [← hVe]; exact Nat.mul_pos (Nat.pos_of_ne_zero hb0) hs0
    have hXV : X / V = a / b := by rw [← hXe, ← hVe]; exact Nat.mul_div_mul_right a b hs0
    have hXm : X % V = a % b * s := by rw [← hXe, ← hVe]; exact Nat.mul_mod_mul_right s a b
    have hXn := nd_le hX
    have hV2 : 0 < dgt V (nd b - 1) := top_pos (by omega)
    have hXl := nd_lt X
    have hq : X / V < Bs ^ nd X := Nat.lt_of_le_of_lt (Nat.div_le_self _ _) hXl
    have hst : dm 0 (X / V) (nd X) (nd a + 1) = du 0 (nd a + 1) := by
      simp only [dm, du]
      refine List.map_congr_left fun r hr => ?_
      split
      · rfl
      · rw [dgt_top hq (by omega), dgt_zero]
    simp (maxSteps := 4000000) (dsimp := false) (disch := omega) only [go_sem, eZ, ↓reduceIte, Nat.reduceEqDiff, Nat.reduceMul, Nat.reduceAdd, Nat.reduceSub, Nat.reduceLT, Nat.reduceLeDiff, Nat.reduceBEq, reduceCtorEq, Int.reduceToNat, Int.reduceEq, Int.reduceLT, Int.reduceLE, Int.reduceNeg, Int.reduceSub, Int.reduceAdd, Int.reduceMul, Tryz.results81, toNat_s1]
    refine ⟨by omega, ?_⟩
    refine vloop (α := Nat) (fun i => ⟨[(8, .lf (.int .u32 s)), (9, .lf (.sl 1 (nd b) (du V (nd b)))), (10, .lf (.int .u64 (dgt V (nd b - 1)))), (11, .lf (.sl 1 (nd (rm X V i)) (du (rm X V i) (nd (rm X V i))))), (12, .row 1512 1 0 (nd X)), (13, .lf (.sl 1 (nd X) (du X (nd X)))), (14, .lf (.int .i64 ((i : Int) - 1)))],
        [(1512, ⟨1, nd a + 1, dm 0 (X / V) i (nd a + 1), 0⟩)]⟩) (fun i => i ≤ nd X) id (nd X) ?_ (Nat.le_refl _) ?_
    · refine Weak.trans (weak_lend 11 (i := 1088) (k := ⟨1, 0, [], 0⟩) (by simp only [getA]; rfl) (by simp only [getB]; rfl) (by decide) (by decide)) ?_
      rw [hst, rm_start hXl, nd_zero, du_zero, du0_cons]
      (refine weak' [] ?_; simp (maxSteps := 4000000) (dsimp := false) (disch := omega) only [slotsW, blksW, parW, List.map_cons, List.map_nil, renF, renA, idsIn, go_sem, eZ, ↓reduceIte, Nat.reduceEqDiff, Nat.reduceMul, Nat.reduceAdd, Nat.reduceSub, Nat.reduceLT, Nat.reduceLeDiff, Nat.reduceBEq, reduceCtorEq, Int.reduceToNat, Int.reduceEq, Int.reduceLT, Int.reduceLE, Int.reduceNeg, Int.reduceSub, Int.reduceAdd, Int.reduceMul])
    · intro i h1
      cases i with
      | zero =>
        rw [rm_zero, dm_zero]
        have hYn : nd (X % V) ≤ nd b := nd_le (Nat.lt_trans (Nat.mod_lt _ hV0) hsV)
        have hYl := nd_lt (X % V)
        have hYs : X % V / s = a % b := by rw [hXm]; exact Nat.mul_div_cancel _ hs0
        rw [← hXV, ← hYs]
        have hYq : X % V / s < Bs ^ nd (X % V) := Nat.lt_of_le_of_lt (Nat.div_le_self _ _) hYl
        have hK : Hold (0 < s ∧ s < 1000000000 ∧ X / V < Bs ^ nd X ∧ X % V < Bs ^ nd (X % V) ∧ X % V / s < Bs ^ nd (X % V)) := ⟨hs0, hsB, hq, hYl, hYq⟩
        generalize X / V = Q at *
        generalize X % V = Y at *
        clear hst hq hX hs hXV hXm hlb hla hd hd' hV2 hXl hXe hVe hd1 hV0 hsV hn hsn hn0 hYs hYl hYq
        simp (maxSteps := 4000000) (dsimp := false) (disch := omega) only [go_sem, eZ, ↓reduceIte, Nat.reduceEqDiff, Nat.reduceMul, Nat.reduceAdd, Nat.reduceSub, Nat.reduceLT, Nat.reduceLeDiff, Nat.reduceBEq, reduceCtorEq, Int.reduceToNat, Int.reduceEq, Int.reduceLT, Int.reduceLE, Int.reduceNeg, Int.reduceSub, Int.reduceAdd, Int.reduceMul, Tryz.results81, toNat_s1, Int.reduceGE]
        refine ⟨⟨by omega, by simp only [maxApp]; omega⟩, ?_⟩
        refine vloop (α := Nat) (fun i => ⟨[(8, .lf (.int .u32 s)), (11, .lf (.sl 1 (nd Y) (du Y (nd Y)))), (12, .row 1512 1 0 (nd X)), (18, .lf (.int .u64 (rm Y s i))), (19, .row 2128 1 0 (nd Y)), (20, .lf (.int .i64 ((i : Int) - 1)))],
            [(1512, ⟨1, nd a + 1, du Q (nd a + 1), 0⟩), (2128, ⟨1, nd Y, dm 0 (Y / s) i (nd Y), 0⟩)]⟩) (fun i => i ≤ nd Y) id (nd Y) ?_ (Nat.le_refl _) ?_
        · rw [rm_start hK.h.2.2.2.1, dm_full]
          (refine weak' [] ?_; simp (maxSteps := 4000000) (dsimp := false) (disch := omega) only [slotsW, blksW, parW, List.map_cons, List.map_nil, renF, renA, idsIn, go_sem, eZ, ↓reduceIte, Nat.reduceEqDiff, Nat.reduceMul, Nat.reduceAdd, Nat.reduceSub, Nat.reduceLT, Nat.reduceLeDiff, Nat.reduceBEq, reduceCtorEq, Int.reduceToNat, Int.reduceEq, Int.reduceLT, Int.reduceLE, Int.reduceNeg, Int.reduceSub, Int.reduceAdd, Int.reduceMul])
        · intro i h2
          cases i with
          | zero =>
            rw [dm_zero]
            simp (maxSteps := 4000000) (dsimp := false) (disch := omega) only [go_sem, eZ, ↓reduceIte, Nat.reduceEqDiff, Nat.reduceMul, Nat.reduceAdd, Nat.reduceSub, Nat.reduceLT, Nat.reduceLeDiff, Nat.reduceBEq, reduceCtorEq, Int.reduceToNat, Int.reduceEq, Int.reduceLT, Int.reduceLE, Int.reduceNeg, Int.reduceSub, Int.reduceAdd, Int.reduceMul, Tryz.results81, toNat_s1, Int.reduceGE, rowCells_du, Nat.pow_zero, Nat.div_one]
            refine callK (ftrim_ok Q (nd X) hK.h.2.2.1 (by omega)) ?_
            simp (maxSteps := 4000000) (dsimp := false) (disch := omega) only [go_sem, eZ, ↓reduceIte, Nat.reduceEqDiff, Nat.reduceMul, Nat.reduceAdd, Nat.reduceSub, Nat.reduceLT, Nat.reduceLeDiff, Nat.reduceBEq, reduceCtorEq, Int.reduceToNat, Int.reduceEq, Int.reduceLT, Int.reduceLE, Int.reduceNeg, Int.reduceSub, Int.reduceAdd, Int.reduceMul, Tryz.results81, toNat_s1]
            refine callK (ftrim_ok (Y / s) (nd Y) hK.h.2.2.2.2 (by omega)) ?_
            simp (maxSteps := 4000000) (dsimp := false) (disch := omega) only [go_sem, eZ, ↓reduceIte, Nat.reduceEqDiff, Nat.reduceMul, Nat.reduceAdd, Nat.reduceSub, Nat.reduceLT, Nat.reduceLeDiff, Nat.reduceBEq, reduceCtorEq, Int.reduceToNat, Int.reduceEq, Int.reduceLT, Int.reduceLE, Int.reduceNeg, Int.reduceSub, Int.reduceAdd, Int.reduceMul, Tryz.results81, toNat_s1]
          | succ i =>
            have hYl := hK.h.2.2.2.1
            have hd1 := dgt_lt Y i
            have hr1 := rm_lt (X := Y) (i := i + 1) hs0
            have hw : rm Y s (i + 1) * 1000000000 + dgt Y i = win Y s i := rfl
            have hw1 : win Y s i / s = dgt (Y / s) i := bw_dig Y s i hs0
            have hw2 : win Y s i % s = rm Y s i := rm_next Y s i
            have hw3 : (rm Y s (i + 1) : Int) * 1000000000 + dgt Y i = win Y s i := by omega
            have hq3 := dgt_lt (Y / s) i
            simp (maxSteps := 4000000) (dsimp := false) (disch := omega) only [go_sem, eZ, ↓reduceIte, Nat.reduceEqDiff, Nat.reduceMul, Nat.reduceAdd, Nat.reduceSub, Nat.reduceLT, Nat.reduceLeDiff, Nat.reduceBEq, reduceCtorEq, Int.reduceToNat, Int.reduceEq, Int.reduceLT, Int.reduceLE, Int.reduceNeg, Int.reduceSub, Int.reduceAdd, Int.reduceMul, Tryz.results81, toNat_s1, Int.reduceGE, tdiv_N, tmod_N, hw3, hw1]
            refine ⟨fun _ => ?_, fun h => by omega⟩
            repeat refine And.intro (by omega) ?_
            refine ⟨i, ?_, by omega, Nat.lt_succ_self _⟩
            rw [dm_down (by omega) rfl, hw2]
            (refine weak' [] ?_; simp (maxSteps := 4000000) (dsimp := false) (disch := omega) only [slotsW, blksW, parW, List.map_cons, List.map_nil, renF, renA, idsIn, go_sem, eZ, ↓reduceIte, Nat.reduceEqDiff, Nat.reduceMul, Nat.reduceAdd, Nat.reduceSub, Nat.reduceLT, Nat.reduceLeDiff, Nat.reduceBEq, reduceCtorEq, Int.reduceToNat, Int.reduceEq, Int.reduceLT, Int.reduceLE, Int.reduceNeg, Int.reduceSub, Int.reduceAdd, Int.reduceMul])
      | succ i =>
        have hRn : nd (rm X V (i + 1)) ≤ nd b := nd_le (Nat.lt_trans (rm_lt hV0) hsV)
        have hdi := dgt_lt X i
        have hw := rwin (X := X) (i := i) hsV (by omega) hV2 hV0
        have hnx : win X V i = rm X V (i + 1) * Bs + dgt X i := rfl
        have hwm : win X V i % V < V := Nat.mod_lt _ hV0
        obtain ⟨W, hWe⟩ : ∃ W, win X V i = W := ⟨_, rfl⟩
        rw [hWe] at hw hnx hwm
        have hK : Hold (RWin X V i (nd b) W ∧ W = rm X V (i + 1) * Bs + dgt X i ∧ V < Bs ^ nd b ∧ 0 < V ∧ 0 < dgt V (nd b - 1) ∧ nd b ≠ 0 ∧ X < Bs ^ nd X) := ⟨hw, hnx, hsV, hV0, hV2, hn0, hXl⟩
        obtain ⟨nR, hnR⟩ : ∃ n, nd (rm X V (i + 1)) = n := ⟨_, rfl⟩
        have hRn' := nd_lt (rm X V (i + 1))
        rw [hnR] at hRn hRn'
        rw [hnR]
        clear hst hq hX hs hs0 hsB hXV hXm hlb hla hd hd' hV2 hXl hw hnx hWe hXe hVe hd1 hV0 hsV hn hsn hnR hwm
        generalize rm X V (i + 1) = R at *
        have hXl := hK.h.2.2.2.2.2.2
        simp (maxSteps := 4000000) (dsimp := false) (disch := omega) only [go_sem, eZ, ↓reduceIte, Nat.reduceEqDiff, Nat.reduceMul, Nat.reduceAdd, Nat.reduceSub, Nat.reduceLT, Nat.reduceLeDiff, Nat.reduceBEq, reduceCtorEq, Int.reduceToNat, Int.reduceEq, Int.reduceLT, Int.reduceLE, Int.reduceNeg, Int.reduceSub, Int.reduceAdd, Int.reduceMul, Tryz.results81, toNat_s1]
        clear hXl
        refine ⟨fun _ => ⟨by omega, by omega, by simp only [maxApp]; omega, ?_⟩, fun h => by omega⟩
        rw [Nat.add_comm 1 nR, du_cons _ _ _ hdi, ← hK.h.2.1]
        have hWt := nd_le hK.h.1.top
        have hWR : W < Bs ^ (nR + 1) := by
          rw [hK.h.2.1, Nat.pow_succ]
          have := hRn'
          simp only [Bs] at this ⊢
          omega
        refine callK (ftrim_ok W (nR + 1) hWR (by omega)) ?_
        clear hWR
        have hWl := nd_lt W
        have hw1 := dgt_lt W (nd b)
        have hw2 := dgt_lt W (nd b - 1)
        simp (maxSteps := 4000000) (dsimp := false) (disch := omega) only [go_sem, eZ, ↓reduceIte, Nat.reduceEqDiff, Nat.reduceMul, Nat.reduceAdd, Nat.reduceSub, Nat.reduceLT, Nat.reduceLeDiff, Nat.reduceBEq, reduceCtorEq, Int.reduceToNat, Int.reduceEq, Int.reduceLT, Int.reduceLE, Int.reduceNeg, Int.reduceSub, Int.reduceAdd, Int.reduceMul, Tryz.results81, toNat_s1]
        refine vjoin (α := Unit) (fun _ => ⟨[(8, .lf (.int .u32 s)), (9, .lf (.sl 1 (nd b) (du V (nd b)))), (10, .lf (.int .u64 (dgt V (nd b - 1)))), (11, .lf (.sl 1 (nd W) (du W (nd W)))), (12, .row 1512 1 0 (nd X)), (13, .lf (.sl 1 (nd X) (du X (nd X)))), (14, .lf (.int .i64 (i : Int))), (15, .lf (.int .u64 ((dgt W (nd b) : Int) * 1000000000)))], [(1512, ⟨1, nd a + 1, dm 0 (X / V) (i + 1) (nd a + 1), 0⟩)]⟩) (fun _ => True) rfl ?_ ?_ ?_
        · intro hc
          rw [decide_eq_true_eq] at hc
          simp (maxSteps := 4000000) (dsimp := false) (disch := omega) only [go_sem, eZ, ↓reduceIte, Nat.reduceEqDiff, Nat.reduceMul, Nat.reduceAdd, Nat.reduceSub, Nat.reduceLT, Nat.reduceLeDiff, Nat.reduceBEq, reduceCtorEq, Int.reduceToNat, Int.reduceEq, Int.reduceLT, Int.reduceLE, Int.reduceNeg, Int.reduceSub, Int.reduceAdd, Int.reduceMul, Tryz.results81, toNat_s1]
          refine ⟨by omega, by omega, (), ?_⟩
          (refine weak' [] ?_; simp (maxSteps := 4000000) (dsimp := false) (disch := omega) only [slotsW, blksW, parW, List.map_cons, List.map_nil, renF, renA, idsIn, go_sem, eZ, ↓reduceIte, Nat.reduceEqDiff, Nat.reduceMul, Nat.reduceAdd, Nat.reduceSub, Nat.reduceLT, Nat.reduceLeDiff, Nat.reduceBEq, reduceCtorEq, Int.reduceToNat, Int.reduceEq, Int.reduceLT, Int.reduceLE, Int.reduceNeg, Int.reduceSub, Int.reduceAdd, Int.reduceMul])
        · intro hc
          rw [decide_eq_false_iff_not] at hc
          simp (maxSteps := 4000000) (dsimp := false) (disch := omega) only [go_sem, eZ, ↓reduceIte, Nat.reduceEqDiff, Nat.reduceMul, Nat.reduceAdd, Nat.reduceSub, Nat.reduceLT, Nat.reduceLeDiff, Nat.reduceBEq, reduceCtorEq, Int.reduceToNat, Int.reduceEq, Int.reduceLT, Int.reduceLE, Int.reduceNeg, Int.reduceSub, Int.reduceAdd, Int.reduceMul, Tryz.results81, toNat_s1]
          refine ⟨(), ?_⟩
          rw [dgt_top hWl (by omega)]
          (refine weak' [] ?_; simp (maxSteps := 4000000) (dsimp := false) (disch := omega) only [slotsW, blksW, parW, List.map_cons, List.map_nil, renF, renA, idsIn, go_sem, eZ, ↓reduceIte, Nat.reduceEqDiff, Nat.reduceMul, Nat.reduceAdd, Nat.reduceSub, Nat.reduceLT, Nat.reduceLeDiff, Nat.reduceBEq, reduceCtorEq, Int.reduceToNat, Int.reduceEq, Int.reduceLT, Int.reduceLE, Int.reduceNeg, Int.reduceSub, Int.reduceAdd, Int.reduceMul])
        · intro _ _
          simp (maxSteps := 4000000) (dsimp := false) (disch := omega) only [go_sem, eZ, ↓reduceIte, Nat.reduceEqDiff, Nat.reduceMul, Nat.reduceAdd, Nat.reduceSub, Nat.reduceLT, Nat.reduceLeDiff, Nat.reduceBEq, reduceCtorEq, Int.reduceToNat, Int.reduceEq, Int.reduceLT, Int.reduceLE, Int.reduceNeg, Int.reduceSub, Int.reduceAdd, Int.reduceMul, Tryz.results81, toNat_s1]
          refine vjoin (α := Unit) (fun _ => ⟨[(8, .lf (.int .u32 s)), (9, .lf (.sl 1 (nd b) (du V (nd b)))), (10, .lf (.int .u64 (dgt V (nd b - 1)))), (11, .lf (.sl 1 (nd W) (du W (nd W)))), (12, .row 1512 1 0 (nd X)), (13, .lf (.sl 1 (nd X) (du X (nd X)))), (14, .lf (.int .i64 (i : Int))), (15, .lf (.int .u64 ((W / Bs ^ (nd b - 1) : Nat) : Int)))], [(1512, ⟨1, nd a + 1, dm 0 (X / V) (i + 1) (nd a + 1), 0⟩)]⟩) (fun _ => True) rfl ?_ ?_ ?_
          · intro hc
            rw [decide_eq_true_eq] at hc
            rw [← hK.h.1.est]
            simp (maxSteps := 4000000) (dsimp := false) (disch := omega) only [go_sem, eZ, ↓reduceIte, Nat.reduceEqDiff, Nat.reduceMul, Nat.reduceAdd, Nat.reduceSub, Nat.reduceLT, Nat.reduceLeDiff, Nat.reduceBEq, reduceCtorEq, Int.reduceToNat, Int.reduceEq, Int.reduceLT, Int.reduceLE, Int.reduceNeg, Int.reduceSub, Int.reduceAdd, Int.reduceMul, Tryz.results81, toNat_s1]
            refine ⟨by omega, by omega, (), ?_⟩
            (refine weak' [] ?_; simp (maxSteps := 4000000) (dsimp := false) (disch := omega) only [slotsW, blksW, parW, List.map_cons, List.map_nil, renF, renA, idsIn, go_sem, eZ, ↓reduceIte, Nat.reduceEqDiff, Nat.reduceMul, Nat.reduceAdd, Nat.reduceSub, Nat.reduceLT, Nat.reduceLeDiff, Nat.reduceBEq, reduceCtorEq, Int.reduceToNat, Int.reduceEq, Int.reduceLT, Int.reduceLE, Int.reduceNeg, Int.reduceSub, Int.reduceAdd, Int.reduceMul])
            omega
          · intro hc
            rw [decide_eq_false_iff_not] at hc
            rw [← hK.h.1.est]
            simp (maxSteps := 4000000) (dsimp := false) (disch := omega) only [go_sem, eZ, ↓reduceIte, Nat.reduceEqDiff, Nat.reduceMul, Nat.reduceAdd, Nat.reduceSub, Nat.reduceLT, Nat.reduceLeDiff, Nat.reduceBEq, reduceCtorEq, Int.reduceToNat, Int.reduceEq, Int.reduceLT, Int.reduceLE, Int.reduceNeg, Int.reduceSub, Int.reduceAdd, Int.reduceMul, Tryz.results81, toNat_s1]
            refine ⟨(), ?_⟩
            rw [dgt_top hWl (by omega), dgt_top hWl (i := nd b - 1) (by omega)]
            (refine weak' [] ?_; simp (maxSteps := 4000000) (dsimp := false) (disch := omega) only [slotsW, blksW, parW, List.map_cons, List.map_nil, renF, renA, idsIn, go_sem, eZ, ↓reduceIte, Nat.reduceEqDiff, Nat.reduceMul, Nat.reduceAdd, Nat.reduceSub, Nat.reduceLT, Nat.reduceLeDiff, Nat.reduceBEq, reduceCtorEq, Int.reduceToNat, Int.reduceEq, Int.reduceLT, Int.reduceLE, Int.reduceNeg, Int.reduceSub, Int.reduceAdd, Int.reduceMul])
          · intro _ _
            have hT := hK.h.1.est
            obtain ⟨T, hTe⟩ : ∃ T, W / Bs ^ (nd b - 1) = T := ⟨_, rfl⟩
            have htp := hK.h.2.2.2.2.1
            have hlo := hK.h.1.low
            have hlo9 := hK.h.1.low9
            rw [hTe] at hT hlo ⊢
            obtain ⟨tp, htpe⟩ : ∃ t, dgt V (nd b - 1) = t := ⟨_, rfl⟩
            rw [htpe] at htp hlo ⊢
            have hq1 := Nat.div_le_self T tp
            have hq2 : (0 : Int) ≤ ((T / tp : Nat) : Int) := Int.natCast_nonneg _
            obtain ⟨g0, hg0⟩ : ∃ g, T / tp = g := ⟨_, rfl⟩
            simp (maxSteps := 4000000) (dsimp := false) (disch := omega) only [go_sem, eZ, ↓reduceIte, Nat.reduceEqDiff, Nat.reduceMul, Nat.reduceAdd, Nat.reduceSub, Nat.reduceLT, Nat.reduceLeDiff, Nat.reduceBEq, reduceCtorEq, Int.reduceToNat, Int.reduceEq, Int.reduceLT, Int.reduceLE, Int.reduceNeg, Int.reduceSub, Int.reduceAdd, Int.reduceMul, Tryz.results81, toNat_s1, tdiv_N, hg0]
            rw [hg0] at hlo hq1 hq2
            rw [← htpe]
            refine ⟨by omega, ?_⟩
            refine vjoin (α := Nat) (fun g => ⟨[(8, .lf (.int .u32 s)), (9, .lf (.sl 1 (nd b) (du V (nd b)))), (10, .lf (.int .u64 (dgt V (nd b - 1)))), (11, .lf (.sl 1 (nd W) (du W (nd W)))), (12, .row 1512 1 0 (nd X)), (13, .lf (.sl 1 (nd X) (du X (nd X)))), (14, .lf (.int .i64 (i : Int))), (16, .lf (.int .u64 (g : Int)))], [(1512, ⟨1, nd a + 1, dm 0 (X / V) (i + 1) (nd a + 1), 0⟩)]⟩) (fun g => W / V ≤ g ∧ g ≤ 999999999) rfl ?_ ?_ ?_
            · intro hc
              rw [decide_eq_true_eq] at hc
              simp (maxSteps := 4000000) (dsimp := false) (disch := omega) only [go_sem, eZ, ↓reduceIte, Nat.reduceEqDiff, Nat.reduceMul, Nat.reduceAdd, Nat.reduceSub, Nat.reduceLT, Nat.reduceLeDiff, Nat.reduceBEq, reduceCtorEq, Int.reduceToNat, Int.reduceEq, Int.reduceLT, Int.reduceLE, Int.reduceNeg, Int.reduceSub, Int.reduceAdd, Int.reduceMul, Tryz.results81, toNat_s1]
              refine ⟨999999999, ?_, hlo9, by omega⟩
              (refine weak' [] ?_; simp (maxSteps := 4000000) (dsimp := false) (disch := omega) only [slotsW, blksW, parW, List.map_cons, List.map_nil, renF, renA, idsIn, go_sem, eZ, ↓reduceIte, Nat.reduceEqDiff, Nat.reduceMul, Nat.reduceAdd, Nat.reduceSub, Nat.reduceLT, Nat.reduceLeDiff, Nat.reduceBEq, reduceCtorEq, Int.reduceToNat, Int.reduceEq, Int.reduceLT, Int.reduceLE, Int.reduceNeg, Int.reduceSub, Int.reduceAdd, Int.reduceMul])
            · intro hc
              rw [decide_eq_false_iff_not] at hc
              simp (maxSteps := 4000000) (dsimp := false) (disch := omega) only [go_sem, eZ, ↓reduceIte, Nat.reduceEqDiff, Nat.reduceMul, Nat.reduceAdd, Nat.reduceSub, Nat.reduceLT, Nat.reduceLeDiff, Nat.reduceBEq, reduceCtorEq, Int.reduceToNat, Int.reduceEq, Int.reduceLT, Int.reduceLE, Int.reduceNeg, Int.reduceSub, Int.reduceAdd, Int.reduceMul, Tryz.results81, toNat_s1]
              refine ⟨g0, ?_, hlo, by omega⟩
              (refine weak' [] ?_; simp (maxSteps := 4000000) (dsimp := false) (disch := omega) only [slotsW, blksW, parW, List.map_cons, List.map_nil, renF, renA, idsIn, go_sem, eZ, ↓reduceIte, Nat.reduceEqDiff, Nat.reduceMul, Nat.reduceAdd, Nat.reduceSub, Nat.reduceLT, Nat.reduceLeDiff, Nat.reduceBEq, reduceCtorEq, Int.reduceToNat, Int.reduceEq, Int.reduceLT, Int.reduceLE, Int.reduceNeg, Int.reduceSub, Int.reduceAdd, Int.reduceMul])
            · intro g hg
              clear hlo hlo9 hg0 hq1 hq2 hT hTe htp htpe tp T
              obtain ⟨hg1, hg2⟩ := hg
              simp (maxSteps := 4000000) (dsimp := false) (disch := omega) only [go_sem, eZ, ↓reduceIte, Nat.reduceEqDiff, Nat.reduceMul, Nat.reduceAdd, Nat.reduceSub, Nat.reduceLT, Nat.reduceLeDiff, Nat.reduceBEq, reduceCtorEq, Int.reduceToNat, Int.reduceEq, Int.reduceLT, Int.reduceLE, Int.reduceNeg, Int.reduceSub, Int.reduceAdd, Int.reduceMul, Tryz.results81, toNat_s1]
              refine callK (fby_ok V (nd b) g hK.h.2.2.1 (by omega) (by omega)) ?_
              simp (maxSteps := 4000000) (dsimp := false) (disch := omega) only [go_sem, eZ, ↓reduceIte, Nat.reduceEqDiff, Nat.reduceMul, Nat.reduceAdd, Nat.reduceSub, Nat.reduceLT, Nat.reduceLeDiff, Nat.reduceBEq, reduceCtorEq, Int.reduceToNat, Int.reduceEq, Int.reduceLT, Int.reduceLE, Int.reduceNeg, Int.reduceSub, Int.reduceAdd, Int.reduceMul, Tryz.results81, toNat_s1]
              refine vloop (α := Nat) (fun g => ⟨[(8, .lf (.int .u32 s)), (9, .lf (.sl 1 (nd b) (du V (nd b)))), (10, .lf (.int .u64 (dgt V (nd b - 1)))), (11, .lf (.sl 1 (nd W) (du W (nd W)))), (12, .row 1512 1 0 (nd X)), (13, .lf (.sl 1 (nd X) (du X (nd X)))), (14, .lf (.int .i64 (i : Int))), (16, .lf (.int .u64 (g : Int))), (17, .lf (.sl 1 (nd (V * g)) (du (V * g) (nd (V * g)))))], [(1512, ⟨1, nd a + 1, dm 0 (X / V) (i + 1) (nd a + 1), 0⟩)]⟩) (fun g => W / V ≤ g ∧ g ≤ 999999999) id g ?_ ⟨hg1, hg2⟩ ?_
              · (refine weak' [] ?_; simp (maxSteps := 4000000) (dsimp := false) (disch := omega) only [slotsW, blksW, parW, List.map_cons, List.map_nil, renF, renA, idsIn, go_sem, eZ, ↓reduceIte, Nat.reduceEqDiff, Nat.reduceMul, Nat.reduceAdd, Nat.reduceSub, Nat.reduceLT, Nat.reduceLeDiff, Nat.reduceBEq, reduceCtorEq, Int.reduceToNat, Int.reduceEq, Int.reduceLT, Int.reduceLE, Int.reduceNeg, Int.reduceSub, Int.reduceAdd, Int.reduceMul])
              · clear hg1 hg2 g
                intro g hg
                obtain ⟨hg1, hg2⟩ := hg
                have hVg : nd (V * g) ≤ nd b + 1 := by
                  refine nd_le ?_
                  rw [Nat.pow_succ]
                  exact Nat.mul_lt_mul'' hK.h.2.2.1 (by simp only [Bs]; omega)
                have hVl := nd_lt (V * g)
                obtain ⟨P, hP⟩ : ∃ p, V * g = p := ⟨_, rfl⟩
                rw [hP] at hVg hVl ⊢
                simp (maxSteps := 4000000) (dsimp := false) (disch := omega) only [go_sem, eZ, ↓reduceIte, Nat.reduceEqDiff, Nat.reduceMul, Nat.reduceAdd, Nat.reduceSub, Nat.reduceLT, Nat.reduceLeDiff, Nat.reduceBEq, reduceCtorEq, Int.reduceToNat, Int.reduceEq, Int.reduceLT, Int.reduceLE, Int.reduceNeg, Int.reduceSub, Int.reduceAdd, Int.reduceMul, Tryz.results81, toNat_s1]
                refine callK (fcompare_ok P W (by omega) (by omega)) ?_
                simp (maxSteps := 4000000) (dsimp := false) (disch := omega) only [go_sem, eZ, ↓reduceIte, Nat.reduceEqDiff, Nat.reduceMul, Nat.reduceAdd, Nat.reduceSub, Nat.reduceLT, Nat.reduceLeDiff, Nat.reduceBEq, reduceCtorEq, Int.reduceToNat, Int.reduceEq, Int.reduceLT, Int.reduceLE, Int.reduceNeg, Int.reduceSub, Int.reduceAdd, Int.reduceMul, Tryz.results81, toNat_s1, cmpN_pos]
                refine ⟨fun c3 => ?_, fun c3 => ?_⟩
                · obtain ⟨o1, o2, o3⟩ := over_step (W := W) (V := V) (g := g) (by rw [hP]; exact c3)
                  have hVP : V ≤ P := by rw [← hP]; exact Nat.le_mul_of_pos_right _ o2
                  refine callK (fminus_ok' P V (nd P) (nd b) hVP hVl (by omega) hK.h.2.2.1 (by omega)) ?_
                  rw [hP] at o3
                  rw [o3]
                  clear hP hVl hVg hVP
                  obtain ⟨g', rfl⟩ : ∃ g', g = g' + 1 := ⟨g - 1, by omega⟩
                  rw [Nat.add_sub_cancel] at o1 o3 ⊢
                  simp (maxSteps := 4000000) (dsimp := false) (disch := omega) only [go_sem, eZ, ↓reduceIte, Nat.reduceEqDiff, Nat.reduceMul, Nat.reduceAdd, Nat.reduceSub, Nat.reduceLT, Nat.reduceLeDiff, Nat.reduceBEq, reduceCtorEq, Int.reduceToNat, Int.reduceEq, Int.reduceLT, Int.reduceLE, Int.reduceNeg, Int.reduceSub, Int.reduceAdd, Int.reduceMul, Tryz.results81, toNat_s1]
                  refine ⟨g', ?_, ⟨o1, by omega⟩, Nat.lt_succ_self _⟩
                  (refine weak' [] ?_; simp (maxSteps := 4000000) (dsimp := false) (disch := omega) only [slotsW, blksW, parW, List.map_cons, List.map_nil, renF, renA, idsIn, go_sem, eZ, ↓reduceIte, Nat.reduceEqDiff, Nat.reduceMul, Nat.reduceAdd, Nat.reduceSub, Nat.reduceLT, Nat.reduceLeDiff, Nat.reduceBEq, reduceCtorEq, Int.reduceToNat, Int.reduceEq, Int.reduceLT, Int.reduceLE, Int.reduceNeg, Int.reduceSub, Int.reduceAdd, Int.reduceMul])
                · obtain ⟨e1, e2⟩ := over_end (W := W) (V := V) (g := g) hK.h.2.2.2.1 (by rw [hP]; exact c3) hg1
                  refine callK (fminus_ok' W P (nd W) (nd P) (by omega) hWl (by omega) hVl (by omega)) ?_
                  rw [hP] at e2
                  rw [e2, hK.h.1.rest]
                  simp (maxSteps := 4000000) (dsimp := false) (disch := omega) only [go_sem, eZ, ↓reduceIte, Nat.reduceEqDiff, Nat.reduceMul, Nat.reduceAdd, Nat.reduceSub, Nat.reduceLT, Nat.reduceLeDiff, Nat.reduceBEq, reduceCtorEq, Int.reduceToNat, Int.reduceEq, Int.reduceLT, Int.reduceLE, Int.reduceNeg, Int.reduceSub, Int.reduceAdd, Int.reduceMul, Tryz.results81, toNat_s1]
                  refine ⟨by omega, by omega, i, ?_, by omega, Nat.lt_succ_self _⟩
                  rw [dm_down (by omega) (by rw [← hK.h.1.dig, ← e1])]
                  (refine weak' [] ?_; simp (maxSteps := 4000000) (dsimp := false) (disch := omega) only [slotsW, blksW, parW, List.map_cons, List.map_nil, renF, renA, idsIn, go_sem, eZ, ↓reduceIte, Nat.reduceEqDiff, Nat.reduceMul, Nat.reduceAdd, Nat.reduceSub, Nat.reduceLT, Nat.reduceLeDiff, Nat.reduceBEq, reduceCtorEq, Int.reduceToNat, Int.reduceEq, Int.reduceLT, Int.reduceLE, Int.reduceNeg, Int.reduceSub, Int.reduceAdd, Int.reduceMul])
  · skip
    have hn0 : nd b ≠ 0 := fun h => hb0 (nd_eq_zero.1 h)
    have hn : nd b = nd b - 1 + 1 := by omega
    have hla := nd_lt a
    have hlb := nd_lt b
    obtain ⟨hs0, hsB, hsV, hsn⟩ := scaled hn
    rw [← hn] at hsV hsn
    have hd1 := dgt_lt b (nd b - 1)
    obtain ⟨d, hd⟩ : ∃ d, dgt b (nd b - 1) + 1 = d := ⟨_, rfl⟩
    have hd' : (dgt b (nd b - 1) : Int) + 1 = (d : Int) := by omega
    rw [hd] at hs0 hsB hsV hsn
    obtain ⟨s, hs⟩ : ∃ s, 1000000000 / d = s := ⟨_, rfl⟩
    rw [show Bs / d = s from hs] at hs0 hsB hsV hsn
    simp only [Bs] at hsB
    have hX : a * s < Bs ^ (nd a + 1) := by
      rw [Nat.pow_succ]
      exact Nat.mul_lt_mul'' hla (by simp only [Bs]; omega)
    simp (maxSteps := 4000000) (dsimp := false) (disch := omega) only [go_sem, eZ, ↓reduceIte, Nat.reduceEqDiff, Nat.reduceMul, Nat.reduceAdd, Nat.reduceSub, Nat.reduceLT, Nat.reduceLeDiff, Nat.reduceBEq, reduceCtorEq, Int.reduceToNat, Int.reduceEq, Int.reduceLT, Int.reduceLE, Int.reduceNeg, Int.reduceSub, Int.reduceAdd, Int.reduceMul, Tryz.results81, toNat_s1, hd', tdiv_NB, hs]
    refine ⟨by omega, by omega, by omega, ?_⟩
    refine callK (fby_ok b (nd b) s hlb (by omega) hsB) ?_
    rw [hsn]
    obtain ⟨V, hVe⟩ : ∃ V, b * s = V := ⟨_, rfl⟩
    rw [hVe] at hsV hsn ⊢
    have hV1 : dgt V (nd b - 1) < 1000000000 := dgt_lt _ _
    simp (maxSteps := 4000000) (dsimp := false) (disch := omega) only [go_sem, eZ, ↓reduceIte, Nat.reduceEqDiff, Nat.reduceMul, Nat.reduceAdd, Nat.reduceSub, Nat.reduceLT, Nat.reduceLeDiff, Nat.reduceBEq, reduceCtorEq, Int.reduceToNat, Int.reduceEq, Int.reduceLT, Int.reduceLE, Int.reduceNeg, Int.reduceSub, Int.reduceAdd, Int.reduceMul, Tryz.results81, toNat_s1]
    refine ⟨by omega, by omega, by simp only [maxApp]; omega, ?_⟩
    refine callK (fby_ok a (nd a) s hla (by omega) hsB) ?_
    obtain ⟨X, hXe⟩ : ∃ X, a * s = X := ⟨_, rfl⟩
    rw [hXe] at hX ⊢
    have hV0 : 0 < V := by rw [← hVe]; exact Nat.mul_pos (Nat.pos_of_ne_zero hb0) hs0
    have hXV : X / V = a / b := by rw [← hXe, ← hVe]; exact Nat.mul_div_mul_right a b hs0
    have hXm : X % V = a % b * s := by rw [← hXe, ← hVe]; exact Nat.mul_mod_mul_right s a b
    have hXn := nd_le hX
    have hV2 : 0 < dgt V (nd b - 1) := top_pos (by omega)
    have hXl := nd_lt X
    have hq : X / V < Bs ^ nd X := Nat.lt_of_le_of_lt (Nat.div_le_self _ _) hXl
    have hst : dm 0 (X / V) (nd X) (nd a + 1) = du 0 (nd a + 1) := by
      simp only [dm, du]
      refine List.map_congr_left fun r hr => ?_
      split
      · rfl
      · rw [dgt_top hq (by omega), dgt_zero]
    simp (maxSteps := 4000000) (dsimp := false) (disch := omega) only [go_sem, eZ, ↓reduceIte, Nat.reduceEqDiff, Nat.reduceMul, Nat.reduceAdd, Nat.reduceSub, Nat.reduceLT, Nat.reduceLeDiff, Nat.reduceBEq, reduceCtorEq, Int.reduceToNat, Int.reduceEq, Int.reduceLT, Int.reduceLE, Int.reduceNeg, Int.reduceSub, Int.reduceAdd, Int.reduceMul, Tryz.results81, toNat_s1]
    refine ⟨by omega, ?_⟩
    refine vloop (α := Nat) (fun i => ⟨[(8, .lf (.int .u32 s)), (9, .lf (.sl 1 (nd b) (du V (nd b)))), (10, .lf (.int .u64 (dgt V (nd b - 1)))), (11, .lf (.sl 1 (nd (rm X V i)) (du (rm X V i) (nd (rm X V i))))), (12, .row 1512 1 0 (nd X)), (13, .lf (.sl 1 (nd X) (du X (nd X)))), (14, .lf (.int .i64 ((i : Int) - 1)))],
        [(1512, ⟨1, nd a + 1, dm 0 (X / V) i (nd a + 1), 0⟩)]⟩) (fun i => i ≤ nd X) id (nd X) ?_ (Nat.le_refl _) ?_
    · refine Weak.trans (weak_lend 11 (i := 1088) (k := ⟨1, 0, [], 0⟩) (by simp only [getA]; rfl) (by simp only [getB]; rfl) (by decide) (by decide)) ?_
      rw [hst, rm_start hXl, nd_zero, du_zero, du0_cons]
      (refine weak' [] ?_; simp (maxSteps := 4000000) (dsimp := false) (disch := omega) only [slotsW, blksW, parW, List.map_cons, List.map_nil, renF, renA, idsIn, go_sem, eZ, ↓reduceIte, Nat.reduceEqDiff, Nat.reduceMul, Nat.reduceAdd, Nat.reduceSub, Nat.reduceLT, Nat.reduceLeDiff, Nat.reduceBEq, reduceCtorEq, Int.reduceToNat, Int.reduceEq, Int.reduceLT, Int.reduceLE, Int.reduceNeg, Int.reduceSub, Int.reduceAdd, Int.reduceMul])
    · intro i h1
      cases i with
      | zero =>
        rw [rm_zero, dm_zero]
        have hYn : nd (X % V) ≤ nd b := nd_le (Nat.lt_trans (Nat.mod_lt _ hV0) hsV)
        have hYl := nd_lt (X % V)
        have hYs : X % V / s = a % b := by rw [hXm]; exact Nat.mul_div_cancel _ hs0
        rw [← hXV, ← hYs]
        have hYq : X % V / s < Bs ^ nd (X % V) := Nat.lt_of_le_of_lt (Nat.div_le_self _ _) hYl
        have hK : Hold (0 < s ∧ s < 1000000000 ∧ X / V < Bs ^ nd X ∧ X % V < Bs ^ nd (X % V) ∧ X % V / s < Bs ^ nd (X % V)) := ⟨hs0, hsB, hq, hYl, hYq⟩
        generalize X / V = Q at *
        generalize X % V = Y at *
        clear hst hq hX hs hXV hXm hlb hla hd hd' hV2 hXl hXe hVe hd1 hV0 hsV hn hsn hn0 hYs hYl hYq
        simp (maxSteps := 4000000) (dsimp := false) (disch := omega) only [go_sem, eZ, ↓reduceIte, Nat.reduceEqDiff, Nat.reduceMul, Nat.reduceAdd, Nat.reduceSub, Nat.reduceLT, Nat.reduceLeDiff, Nat.reduceBEq, reduceCtorEq, Int.reduceToNat, Int.reduceEq, Int.reduceLT, Int.reduceLE, Int.reduceNeg, Int.reduceSub, Int.reduceAdd, Int.reduceMul, Tryz.results81, toNat_s1, Int.reduceGE]
        refine ⟨⟨by omega, by simp only [maxApp]; omega⟩, ?_⟩
        refine vloop (α := Nat) (fun i => ⟨[(8, .lf (.int .u32 s)), (11, .lf (.sl 1 (nd Y) (du Y (nd Y)))), (12, .row 1512 1 0 (nd X)), (18, .lf (.int .u64 (rm Y s i))), (19, .row 2128 1 0 (nd Y)), (20, .lf (.int .i64 ((i : Int) - 1)))],
            [(1512, ⟨1, nd a + 1, du Q (nd a + 1), 0⟩), (2128, ⟨1, nd Y, dm 0 (Y / s) i (nd Y), 0⟩)]⟩) (fun i => i ≤ nd Y) id (nd Y) ?_ (Nat.le_refl _) ?_
        · rw [rm_start hK.h.2.2.2.1, dm_full]
          (refine weak' [] ?_; simp (maxSteps := 4000000) (dsimp := false) (disch := omega) only [slotsW, blksW, parW, List.map_cons, List.map_nil, renF, renA, idsIn, go_sem, eZ, ↓reduceIte, Nat.reduceEqDiff, Nat.reduceMul, Nat.reduceAdd, Nat.reduceSub, Nat.reduceLT, Nat.reduceLeDiff, Nat.reduceBEq, reduceCtorEq, Int.reduceToNat, Int.reduceEq, Int.reduceLT, Int.reduceLE, Int.reduceNeg, Int.reduceSub, Int.reduceAdd, Int.reduceMul])
        · intro i h2
          cases i with
          | zero =>
            rw [dm_zero]
            simp (maxSteps := 4000000) (dsimp := false) (disch := omega) only [go_sem, eZ, ↓reduceIte, Nat.reduceEqDiff, Nat.reduceMul, Nat.reduceAdd, Nat.reduceSub, Nat.reduceLT, Nat.reduceLeDiff, Nat.reduceBEq, reduceCtorEq, Int.reduceToNat, Int.reduceEq, Int.reduceLT, Int.reduceLE, Int.reduceNeg, Int.reduceSub, Int.reduceAdd, Int.reduceMul, Tryz.results81, toNat_s1, Int.reduceGE, rowCells_du, Nat.pow_zero, Nat.div_one]
            refine callK (ftrim_ok Q (nd X) hK.h.2.2.1 (by omega)) ?_
            simp (maxSteps := 4000000) (dsimp := false) (disch := omega) only [go_sem, eZ, ↓reduceIte, Nat.reduceEqDiff, Nat.reduceMul, Nat.reduceAdd, Nat.reduceSub, Nat.reduceLT, Nat.reduceLeDiff, Nat.reduceBEq, reduceCtorEq, Int.reduceToNat, Int.reduceEq, Int.reduceLT, Int.reduceLE, Int.reduceNeg, Int.reduceSub, Int.reduceAdd, Int.reduceMul, Tryz.results81, toNat_s1]
            refine callK (ftrim_ok (Y / s) (nd Y) hK.h.2.2.2.2 (by omega)) ?_
            simp (maxSteps := 4000000) (dsimp := false) (disch := omega) only [go_sem, eZ, ↓reduceIte, Nat.reduceEqDiff, Nat.reduceMul, Nat.reduceAdd, Nat.reduceSub, Nat.reduceLT, Nat.reduceLeDiff, Nat.reduceBEq, reduceCtorEq, Int.reduceToNat, Int.reduceEq, Int.reduceLT, Int.reduceLE, Int.reduceNeg, Int.reduceSub, Int.reduceAdd, Int.reduceMul, Tryz.results81, toNat_s1]
          | succ i =>
            have hYl := hK.h.2.2.2.1
            have hd1 := dgt_lt Y i
            have hr1 := rm_lt (X := Y) (i := i + 1) hs0
            have hw : rm Y s (i + 1) * 1000000000 + dgt Y i = win Y s i := rfl
            have hw1 : win Y s i / s = dgt (Y / s) i := bw_dig Y s i hs0
            have hw2 : win Y s i % s = rm Y s i := rm_next Y s i
            have hw3 : (rm Y s (i + 1) : Int) * 1000000000 + dgt Y i = win Y s i := by omega
            have hq3 := dgt_lt (Y / s) i
            simp (maxSteps := 4000000) (dsimp := false) (disch := omega) only [go_sem, eZ, ↓reduceIte, Nat.reduceEqDiff, Nat.reduceMul, Nat.reduceAdd, Nat.reduceSub, Nat.reduceLT, Nat.reduceLeDiff, Nat.reduceBEq, reduceCtorEq, Int.reduceToNat, Int.reduceEq, Int.reduceLT, Int.reduceLE, Int.reduceNeg, Int.reduceSub, Int.reduceAdd, Int.reduceMul, Tryz.results81, toNat_s1, Int.reduceGE, tdiv_N, tmod_N, hw3, hw1]
            refine ⟨fun _ => ?_, fun h => by omega⟩
            repeat refine And.intro (by omega) ?_
            refine ⟨i, ?_, by omega, Nat.lt_succ_self _⟩
            rw [dm_down (by omega) rfl, hw2]
            (refine weak' [] ?_; simp (maxSteps := 4000000) (dsimp := false) (disch := omega) only [slotsW, blksW, parW, List.map_cons, List.map_nil, renF, renA, idsIn, go_sem, eZ, ↓reduceIte, Nat.reduceEqDiff, Nat.reduceMul, Nat.reduceAdd, Nat.reduceSub, Nat.reduceLT, Nat.reduceLeDiff, Nat.reduceBEq, reduceCtorEq, Int.reduceToNat, Int.reduceEq, Int.reduceLT, Int.reduceLE, Int.reduceNeg, Int.reduceSub, Int.reduceAdd, Int.reduceMul])
      | succ i =>
        have hRn : nd (rm X V (i + 1)) ≤ nd b := nd_le (Nat.lt_trans (rm_lt hV0) hsV)
        have hdi := dgt_lt X i
        have hw := rwin (X := X) (i := i) hsV (by omega) hV2 hV0
        have hnx : win X V i = rm X V (i + 1) * Bs + dgt X i := rfl
        have hwm : win X V i % V < V := Nat.mod_lt _ hV0
        obtain ⟨W, hWe⟩ : ∃ W, win X V i = W := ⟨_, rfl⟩
        rw [hWe] at hw hnx hwm
        have hK : Hold (RWin X V i (nd b) W ∧ W = rm X V (i + 1) * Bs + dgt X i ∧ V < Bs ^ nd b ∧ 0 < V ∧ 0 < dgt V (nd b - 1) ∧ nd b ≠ 0 ∧ X < Bs ^ nd X) := ⟨hw, hnx, hsV, hV0, hV2, hn0, hXl⟩
        obtain ⟨nR, hnR⟩ : ∃ n, nd (rm X V (i + 1)) = n := ⟨_, rfl⟩
        have hRn' := nd_lt (rm X V (i + 1))
        rw [hnR] at hRn hRn'
        rw [hnR]
        clear hst hq hX hs hs0 hsB hXV hXm hlb hla hd hd' hV2 hXl hw hnx hWe hXe hVe hd1 hV0 hsV hn hsn hnR hwm
        generalize rm X V (i + 1) = R at *
        have hXl := hK.h.2.2.2.2.2.2
        simp (maxSteps := 4000000) (dsimp := false) (disch := omega) only [go_sem, eZ, ↓reduceIte, Nat.reduceEqDiff, Nat.reduceMul, Nat.reduceAdd, Nat.reduceSub, Nat.reduceLT, Nat.reduceLeDiff, Nat.reduceBEq, reduceCtorEq, Int.reduceToNat, Int.reduceEq, Int.reduceLT, Int.reduceLE, Int.reduceNeg, Int.reduceSub, Int.reduceAdd, Int.reduceMul, Tryz.results81, toNat_s1]
        clear hXl
        refine ⟨fun _ => ⟨by omega, by omega, by simp only [maxApp]; omega, ?_⟩, fun h => by omega⟩
        rw [Nat.add_comm 1 nR, du_cons _ _ _ hdi, ← hK.h.2.1]
        have hWt := nd_le hK.h.1.top
        have hWR : W < Bs ^ (nR + 1) := by
          rw [hK.h.2.1, Nat.pow_succ]
          have := hRn'
          simp only [Bs] at this ⊢
          omega
        refine callK (ftrim_ok W (nR + 1) hWR (by omega)) ?_
        clear hWR
        have hWl := nd_lt W
        have hw1 := dgt_lt W (nd b)
        have hw2 := dgt_lt W (nd b - 1)
        simp (maxSteps := 4000000) (dsimp := false) (disch := omega) only [go_sem, eZ, ↓reduceIte, Nat.reduceEqDiff, Nat.reduceMul, Nat.reduceAdd, Nat.reduceSub, Nat.reduceLT, Nat.reduceLeDiff, Nat.reduceBEq, reduceCtorEq, Int.reduceToNat, Int.reduceEq, Int.reduceLT, Int.reduceLE, Int.reduceNeg, Int.reduceSub, Int.reduceAdd, Int.reduceMul, Tryz.results81, toNat_s1]
        refine vjoin (α := Unit) (fun _ => ⟨[(8, .lf (.int .u32 s)), (9, .lf (.sl 1 (nd b) (du V (nd b)))), (10, .lf (.int .u64 (dgt V (nd b - 1)))), (11, .lf (.sl 1 (nd W) (du W (nd W)))), (12, .row 1512 1 0 (nd X)), (13, .lf (.sl 1 (nd X) (du X (nd X)))), (14, .lf (.int .i64 (i : Int))), (15, .lf (.int .u64 ((dgt W (nd b) : Int) * 1000000000)))], [(1512, ⟨1, nd a + 1, dm 0 (X / V) (i + 1) (nd a + 1), 0⟩)]⟩) (fun _ => True) rfl ?_ ?_ ?_
        · intro hc
          rw [decide_eq_true_eq] at hc
          simp (maxSteps := 4000000) (dsimp := false) (disch := omega) only [go_sem, eZ, ↓reduceIte, Nat.reduceEqDiff, Nat.reduceMul, Nat.reduceAdd, Nat.reduceSub, Nat.reduceLT, Nat.reduceLeDiff, Nat.reduceBEq, reduceCtorEq, Int.reduceToNat, Int.reduceEq, Int.reduceLT, Int.reduceLE, Int.reduceNeg, Int.reduceSub, Int.reduceAdd, Int.reduceMul, Tryz.results81, toNat_s1]
          refine ⟨by omega, by omega, (), ?_⟩
          (refine weak' [] ?_; simp (maxSteps := 4000000) (dsimp := false) (disch := omega) only [slotsW, blksW, parW, List.map_cons, List.map_nil, renF, renA, idsIn, go_sem, eZ, ↓reduceIte, Nat.reduceEqDiff, Nat.reduceMul, Nat.reduceAdd, Nat.reduceSub, Nat.reduceLT, Nat.reduceLeDiff, Nat.reduceBEq, reduceCtorEq, Int.reduceToNat, Int.reduceEq, Int.reduceLT, Int.reduceLE, Int.reduceNeg, Int.reduceSub, Int.reduceAdd, Int.reduceMul])
        · intro hc
          rw [decide_eq_false_iff_not] at hc
          simp (maxSteps := 4000000) (dsimp := false) (disch := omega) only [go_sem, eZ, ↓reduceIte, Nat.reduceEqDiff, Nat.reduceMul, Nat.reduceAdd, Nat.reduceSub, Nat.reduceLT, Nat.reduceLeDiff, Nat.reduceBEq, reduceCtorEq, Int.reduceToNat, Int.reduceEq, Int.reduceLT, Int.reduceLE, Int.reduceNeg, Int.reduceSub, Int.reduceAdd, Int.reduceMul, Tryz.results81, toNat_s1]
          refine ⟨(), ?_⟩
          rw [dgt_top hWl (by omega)]
          (refine weak' [] ?_; simp (maxSteps := 4000000) (dsimp := false) (disch := omega) only [slotsW, blksW, parW, List.map_cons, List.map_nil, renF, renA, idsIn, go_sem, eZ, ↓reduceIte, Nat.reduceEqDiff, Nat.reduceMul, Nat.reduceAdd, Nat.reduceSub, Nat.reduceLT, Nat.reduceLeDiff, Nat.reduceBEq, reduceCtorEq, Int.reduceToNat, Int.reduceEq, Int.reduceLT, Int.reduceLE, Int.reduceNeg, Int.reduceSub, Int.reduceAdd, Int.reduceMul])
        · intro _ _
          simp (maxSteps := 4000000) (dsimp := false) (disch := omega) only [go_sem, eZ, ↓reduceIte, Nat.reduceEqDiff, Nat.reduceMul, Nat.reduceAdd, Nat.reduceSub, Nat.reduceLT, Nat.reduceLeDiff, Nat.reduceBEq, reduceCtorEq, Int.reduceToNat, Int.reduceEq, Int.reduceLT, Int.reduceLE, Int.reduceNeg, Int.reduceSub, Int.reduceAdd, Int.reduceMul, Tryz.results81, toNat_s1]
          refine vjoin (α := Unit) (fun _ => ⟨[(8, .lf (.int .u32 s)), (9, .lf (.sl 1 (nd b) (du V (nd b)))), (10, .lf (.int .u64 (dgt V (nd b - 1)))), (11, .lf (.sl 1 (nd W) (du W (nd W)))), (12, .row 1512 1 0 (nd X)), (13, .lf (.sl 1 (nd X) (du X (nd X)))), (14, .lf (.int .i64 (i : Int))), (15, .lf (.int .u64 ((W / Bs ^ (nd b - 1) : Nat) : Int)))], [(1512, ⟨1, nd a + 1, dm 0 (X / V) (i + 1) (nd a + 1), 0⟩)]⟩) (fun _ => True) rfl ?_ ?_ ?_
          · intro hc
            rw [decide_eq_true_eq] at hc
            rw [← hK.h.1.est]
            simp (maxSteps := 4000000) (dsimp := false) (disch := omega) only [go_sem, eZ, ↓reduceIte, Nat.reduceEqDiff, Nat.reduceMul, Nat.reduceAdd, Nat.reduceSub, Nat.reduceLT, Nat.reduceLeDiff, Nat.reduceBEq, reduceCtorEq, Int.reduceToNat, Int.reduceEq, Int.reduceLT, Int.reduceLE, Int.reduceNeg, Int.reduceSub, Int.reduceAdd, Int.reduceMul, Tryz.results81, toNat_s1]
            refine ⟨by omega, by omega, (), ?_⟩
            (refine weak' [] ?_; simp (maxSteps := 4000000) (dsimp := false) (disch := omega) only [slotsW, blksW, parW, List.map_cons, List.map_nil, renF, renA, idsIn, go_sem, eZ, ↓reduceIte, Nat.reduceEqDiff, Nat.reduceMul, Nat.reduceAdd, Nat.reduceSub, Nat.reduceLT, Nat.reduceLeDiff, Nat.reduceBEq, reduceCtorEq, Int.reduceToNat, Int.reduceEq, Int.reduceLT, Int.reduceLE, Int.reduceNeg, Int.reduceSub, Int.reduceAdd, Int.reduceMul])
            omega
          · intro hc
            rw [decide_eq_false_iff_not] at hc
            rw [← hK.h.1.est]
            simp (maxSteps := 4000000) (dsimp := false) (disch := omega) only [go_sem, eZ, ↓reduceIte, Nat.reduceEqDiff, Nat.reduceMul, Nat.reduceAdd, Nat.reduceSub, Nat.reduceLT, Nat.reduceLeDiff, Nat.reduceBEq, reduceCtorEq, Int.reduceToNat, Int.reduceEq, Int.reduceLT, Int.reduceLE, Int.reduceNeg, Int.reduceSub, Int.reduceAdd, Int.reduceMul, Tryz.results81, toNat_s1]
            refine ⟨(), ?_⟩
            rw [dgt_top hWl (by omega), dgt_top hWl (i := nd b - 1) (by omega)]
            (refine weak' [] ?_; simp (maxSteps := 4000000) (dsimp := false) (disch := omega) only [slotsW, blksW, parW, List.map_cons, List.map_nil, renF, renA, idsIn, go_sem, eZ, ↓reduceIte, Nat.reduceEqDiff, Nat.reduceMul, Nat.reduceAdd, Nat.reduceSub, Nat.reduceLT, Nat.reduceLeDiff, Nat.reduceBEq, reduceCtorEq, Int.reduceToNat, Int.reduceEq, Int.reduceLT, Int.reduceLE, Int.reduceNeg, Int.reduceSub, Int.reduceAdd, Int.reduceMul])
          · intro _ _
            have hT := hK.h.1.est
            obtain ⟨T, hTe⟩ : ∃ T, W / Bs ^ (nd b - 1) = T := ⟨_, rfl⟩
            have htp := hK.h.2.2.2.2.1
            have hlo := hK.h.1.low
            have hlo9 := hK.h.1.low9
            rw [hTe] at hT hlo ⊢
            obtain ⟨tp, htpe⟩ : ∃ t, dgt V (nd b - 1) = t := ⟨_, rfl⟩
            rw [htpe] at htp hlo ⊢
            have hq1 := Nat.div_le_self T tp
            have hq2 : (0 : Int) ≤ ((T / tp : Nat) : Int) := Int.natCast_nonneg _
            obtain ⟨g0, hg0⟩ : ∃ g, T / tp = g := ⟨_, rfl⟩
            simp (maxSteps := 4000000) (dsimp := false) (disch := omega) only [go_sem, eZ, ↓reduceIte, Nat.reduceEqDiff, Nat.reduceMul, Nat.reduceAdd, Nat.reduceSub, Nat.reduceLT, Nat.reduceLeDiff, Nat.reduceBEq, reduceCtorEq, Int.reduceToNat, Int.reduceEq, Int.reduceLT, Int.reduceLE, Int.reduceNeg, Int.reduceSub, Int.reduceAdd, Int.reduceMul, Tryz.results81, toNat_s1, tdiv_N, hg0]
            rw [hg0] at hlo hq1 hq2
            rw [← htpe]
            refine ⟨by omega, ?_⟩
            refine vjoin (α := Nat) (fun g => ⟨[(8, .lf (.int .u32 s)), (9, .lf (.sl 1 (nd b) (du V (nd b)))), (10, .lf (.int .u64 (dgt V (nd b - 1)))), (11, .lf (.sl 1 (nd W) (du W (nd W)))), (12, .row 1512 1 0 (nd X)), (13, .lf (.sl 1 (nd X) (du X (nd X)))), (14, .lf (.int .i64 (i : Int))), (16, .lf (.int .u64 (g : Int)))], [(1512, ⟨1, nd a + 1, dm 0 (X / V) (i + 1) (nd a + 1), 0⟩)]⟩) (fun g => W / V ≤ g ∧ g ≤ 999999999) rfl ?_ ?_ ?_
            · intro hc
              rw [decide_eq_true_eq] at hc
              simp (maxSteps := 4000000) (dsimp := false) (disch := omega) only [go_sem, eZ, ↓reduceIte, Nat.reduceEqDiff, Nat.reduceMul, Nat.reduceAdd, Nat.reduceSub, Nat.reduceLT, Nat.reduceLeDiff, Nat.reduceBEq, reduceCtorEq, Int.reduceToNat, Int.reduceEq, Int.reduceLT, Int.reduceLE, Int.reduceNeg, Int.reduceSub, Int.reduceAdd, Int.reduceMul, Tryz.results81, toNat_s1]
              refine ⟨999999999, ?_, hlo9, by omega⟩
              (refine weak' [] ?_; simp (maxSteps := 4000000) (dsimp := false) (disch := omega) only [slotsW, blksW, parW, List.map_cons, List.map_nil, renF, renA, idsIn, go_sem, eZ, ↓reduceIte, Nat.reduceEqDiff, Nat.reduceMul, Nat.reduceAdd, Nat.reduceSub, Nat.reduceLT, Nat.reduceLeDiff, Nat.reduceBEq, reduceCtorEq, Int.reduceToNat, Int.reduceEq, Int.reduceLT, Int.reduceLE, Int.reduceNeg, Int.reduceSub, Int.reduceAdd, Int.reduceMul])
            · intro hc
              rw [decide_eq_false_iff_not] at hc
              simp (maxSteps := 4000000) (dsimp := false) (disch := omega) only [go_sem, eZ, ↓reduceIte, Nat.reduceEqDiff, Nat.reduceMul, Nat.reduceAdd, Nat.reduceSub, Nat.reduceLT, Nat.reduceLeDiff, Nat.reduceBEq, reduceCtorEq, Int.reduceToNat, Int.reduceEq, Int.reduceLT, Int.reduceLE, Int.reduceNeg, Int.reduceSub, Int.reduceAdd, Int.reduceMul, Tryz.results81, toNat_s1]
              refine ⟨g0, ?_, hlo, by omega⟩
              (refine weak' [] ?_; simp (maxSteps := 4000000) (dsimp := false) (disch := omega) only [slotsW, blksW, parW, List.map_cons, List.map_nil, renF, renA, idsIn, go_sem, eZ, ↓reduceIte, Nat.reduceEqDiff, Nat.reduceMul, Nat.reduceAdd, Nat.reduceSub, Nat.reduceLT, Nat.reduceLeDiff, Nat.reduceBEq, reduceCtorEq, Int.reduceToNat, Int.reduceEq, Int.reduceLT, Int.reduceLE, Int.reduceNeg, Int.reduceSub, Int.reduceAdd, Int.reduceMul])
            · intro g hg
              clear hlo hlo9 hg0 hq1 hq2 hT hTe htp htpe tp T
              obtain ⟨hg1, hg2⟩ := hg
              simp (maxSteps := 4000000) (dsimp := false) (disch := omega) only [go_sem, eZ, ↓reduceIte, Nat.reduceEqDiff, Nat.reduceMul, Nat.reduceAdd, Nat.reduceSub, Nat.reduceLT, Nat.reduceLeDiff, Nat.reduceBEq, reduceCtorEq, Int.reduceToNat, Int.reduceEq, Int.reduceLT, Int.reduceLE, Int.reduceNeg, Int.reduceSub, Int.reduceAdd, Int.reduceMul, Tryz.results81, toNat_s1]
              refine callK (fby_ok V (nd b) g hK.h.2.2.1 (by omega) (by omega)) ?_
              simp (maxSteps := 4000000) (dsimp := false) (disch := omega) only [go_sem, eZ, ↓reduceIte, Nat.reduceEqDiff, Nat.reduceMul, Nat.reduceAdd, Nat.reduceSub, Nat.reduceLT, Nat.reduceLeDiff, Nat.reduceBEq, reduceCtorEq, Int.reduceToNat, Int.reduceEq, Int.reduceLT, Int.reduceLE, Int.reduceNeg, Int.reduceSub, Int.reduceAdd, Int.reduceMul, Tryz.results81, toNat_s1]
              refine vloop (α := Nat) (fun g => ⟨[(8, .lf (.int .u32 s)), (9, .lf (.sl 1 (nd b) (du V (nd b)))), (10, .lf (.int .u64 (dgt V (nd b - 1)))), (11, .lf (.sl 1 (nd W) (du W (nd W)))), (12, .row 1512 1 0 (nd X)), (13, .lf (.sl 1 (nd X) (du X (nd X)))), (14, .lf (.int .i64 (i : Int))), (16, .lf (.int .u64 (g : Int))), (17, .lf (.sl 1 (nd (V * g)) (du (V * g) (nd (V * g)))))], [(1512, ⟨1, nd a + 1, dm 0 (X / V) (i + 1) (nd a + 1), 0⟩)]⟩) (fun g => W / V ≤ g ∧ g ≤ 999999999) id g ?_ ⟨hg1, hg2⟩ ?_
              · (refine weak' [] ?_; simp (maxSteps := 4000000) (dsimp := false) (disch := omega) only [slotsW, blksW, parW, List.map_cons, List.map_nil, renF, renA, idsIn, go_sem, eZ, ↓reduceIte, Nat.reduceEqDiff, Nat.reduceMul, Nat.reduceAdd, Nat.reduceSub, Nat.reduceLT, Nat.reduceLeDiff, Nat.reduceBEq, reduceCtorEq, Int.reduceToNat, Int.reduceEq, Int.reduceLT, Int.reduceLE, Int.reduceNeg, Int.reduceSub, Int.reduceAdd, Int.reduceMul])
              · clear hg1 hg2 g
                intro g hg
                obtain ⟨hg1, hg2⟩ := hg
                have hVg : nd (V * g) ≤ nd b + 1 := by
                  refine nd_le ?_
                  rw [Nat.pow_succ]
                  exact Nat.mul_lt_mul'' hK.h.2.2.1 (by simp only [Bs]; omega)
                have hVl := nd_lt (V * g)
                obtain ⟨P, hP⟩ : ∃ p, V * g = p := ⟨_, rfl⟩
                rw [hP] at hVg hVl ⊢
                simp (maxSteps := 4000000) (dsimp := false) (disch := omega) only [go_sem, eZ, ↓reduceIte, Nat.reduceEqDiff, Nat.reduceMul, Nat.reduceAdd, Nat.reduceSub, Nat.reduceLT, Nat.reduceLeDiff, Nat.reduceBEq, reduceCtorEq, Int.reduceToNat, Int.reduceEq, Int.reduceLT, Int.reduceLE, Int.reduceNeg, Int.reduceSub, Int.reduceAdd, Int.reduceMul, Tryz.results81, toNat_s1]
                refine callK (fcompare_ok P W (by omega) (by omega)) ?_
                simp (maxSteps := 4000000) (dsimp := false) (disch := omega) only [go_sem, eZ, ↓reduceIte, Nat.reduceEqDiff, Nat.reduceMul, Nat.reduceAdd, Nat.reduceSub, Nat.reduceLT, Nat.reduceLeDiff, Nat.reduceBEq, reduceCtorEq, Int.reduceToNat, Int.reduceEq, Int.reduceLT, Int.reduceLE, Int.reduceNeg, Int.reduceSub, Int.reduceAdd, Int.reduceMul, Tryz.results81, toNat_s1, cmpN_pos]
                refine ⟨fun c3 => ?_, fun c3 => ?_⟩
                · obtain ⟨o1, o2, o3⟩ := over_step (W := W) (V := V) (g := g) (by rw [hP]; exact c3)
                  have hVP : V ≤ P := by rw [← hP]; exact Nat.le_mul_of_pos_right _ o2
                  refine callK (fminus_ok' P V (nd P) (nd b) hVP hVl (by omega) hK.h.2.2.1 (by omega)) ?_
                  rw [hP] at o3
                  rw [o3]
                  clear hP hVl hVg hVP
                  obtain ⟨g', rfl⟩ : ∃ g', g = g' + 1 := ⟨g - 1, by omega⟩
                  rw [Nat.add_sub_cancel] at o1 o3 ⊢
                  simp (maxSteps := 4000000) (dsimp := false) (disch := omega) only [go_sem, eZ, ↓reduceIte, Nat.reduceEqDiff, Nat.reduceMul, Nat.reduceAdd, Nat.reduceSub, Nat.reduceLT, Nat.reduceLeDiff, Nat.reduceBEq, reduceCtorEq, Int.reduceToNat, Int.reduceEq, Int.reduceLT, Int.reduceLE, Int.reduceNeg, Int.reduceSub, Int.reduceAdd, Int.reduceMul, Tryz.results81, toNat_s1]
                  refine ⟨g', ?_, ⟨o1, by omega⟩, Nat.lt_succ_self _⟩
                  (refine weak' [] ?_; simp (maxSteps := 4000000) (dsimp := false) (disch := omega) only [slotsW, blksW, parW, List.map_cons, List.map_nil, renF, renA, idsIn, go_sem, eZ, ↓reduceIte, Nat.reduceEqDiff, Nat.reduceMul, Nat.reduceAdd, Nat.reduceSub, Nat.reduceLT, Nat.reduceLeDiff, Nat.reduceBEq, reduceCtorEq, Int.reduceToNat, Int.reduceEq, Int.reduceLT, Int.reduceLE, Int.reduceNeg, Int.reduceSub, Int.reduceAdd, Int.reduceMul])
                · obtain ⟨e1, e2⟩ := over_end (W := W) (V := V) (g := g) hK.h.2.2.2.1 (by rw [hP]; exact c3) hg1
                  refine callK (fminus_ok' W P (nd W) (nd P) (by omega) hWl (by omega) hVl (by omega)) ?_
                  rw [hP] at e2
                  rw [e2, hK.h.1.rest]
                  simp (maxSteps := 4000000) (dsimp := false) (disch := omega) only [go_sem, eZ, ↓reduceIte, Nat.reduceEqDiff, Nat.reduceMul, Nat.reduceAdd, Nat.reduceSub, Nat.reduceLT, Nat.reduceLeDiff, Nat.reduceBEq, reduceCtorEq, Int.reduceToNat, Int.reduceEq, Int.reduceLT, Int.reduceLE, Int.reduceNeg, Int.reduceSub, Int.reduceAdd, Int.reduceMul, Tryz.results81, toNat_s1]
                  refine ⟨by omega, by omega, i, ?_, by omega, Nat.lt_succ_self _⟩
                  rw [dm_down (by omega) (by rw [← hK.h.1.dig, ← e1])]
                  (refine weak' [] ?_; simp (maxSteps := 4000000) (dsimp := false) (disch := omega) only [slotsW, blksW, parW, List.map_cons, List.map_nil, renF, renA, idsIn, go_sem, eZ, ↓reduceIte, Nat.reduceEqDiff, Nat.reduceMul, Nat.reduceAdd, Nat.reduceSub, Nat.reduceLT, Nat.reduceLeDiff, Nat.reduceBEq, reduceCtorEq, Int.reduceToNat, Int.reduceEq, Int.reduceLT, Int.reduceLE, Int.reduceNeg, Int.reduceSub, Int.reduceAdd, Int.reduceMul])
end Go.Proofs.YtdhgdpcmdmgchaaGreat.Fw
