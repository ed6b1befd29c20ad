/- Contracts: the greatest common divisor. Conditions: none. -/
import Derived.Test.YtdhgdpcmdmgchaaGreatFwCl
namespace Go.Proofs.YtdhgdpcmdmgchaaGreat.Fw
open Go Go.Proofs
set_option linter.unusedSimpArgs false
set_option linter.unusedVariables false
set_option maxHeartbeats 2000000
set_option maxRecDepth 10000

theorem eZ_nat (m k : Nat) (hm : m < Bs ^ k) (hk : k < 2 ^ 40) : Ok Tryz.prog 60 [.lf (.bool false), .lf (.sl 1 k (du m k))] ⟨[.ag (eZ (m : Int))], []⟩ := by
  have := signed_eZ false m k hm hk
  simpa using this

theorem word_nat (x : Nat) (hx : nd x < 2 ^ 38) : Ok Tryz.prog 83 [.ag (eZ (x : Int))] ⟨[.lf (.int .u64 (if nd x ≤ 2 then x else 0 : Nat)), .lf (.bool (decide (nd x ≤ 2)))], []⟩ := word_ok (x : Int) hx

theorem small_nat {x : Nat} (h : nd x ≤ 2) : x < 1000000000000000000 := by
  have h1 := nd_lt x
  have h2 : Bs ^ nd x ≤ Bs ^ 2 := Nat.pow_le_pow_right Bs_pos h
  have h3 : Bs ^ 2 = 1000000000000000000 := by decide
  omega
theorem GCD_ok (a b : Int) (ha : lz a < 2 ^ 36) (hb : lz b < 2 ^ 36) : Ok Tryz.prog 57 [.ag (eZ a), .ag (eZ b)] ⟨[.ag (eZ (Int.gcd a b : Nat))], []⟩ := by
  unfold lz at ha hb
  refine ok_of_V (T := Tb) tb_ok mo Tryz.func57 rfl (by kernel_rfl) (by kernel_rfl) (by simp [Tryz.ntmps57, mts]) ?_
  simp (maxSteps := 4000000) (dsimp := false) (disch := omega) only [go_sem, eZ, ↓reduceIte, Nat.reduceEqDiff, Nat.reduceMul, Nat.reduceAdd, Nat.reduceSub, Nat.reduceLT, Nat.reduceLeDiff, Nat.reduceBEq, reduceCtorEq, Int.reduceToNat, Int.reduceEq, Int.reduceLT, Int.reduceLE, Int.reduceNeg, Int.reduceSub, Int.reduceAdd, Int.reduceMul, Tryz.results57]
  refine callK (eZ_nat a.natAbs _ (nd_lt _) (by omega)) ?_
  simp (maxSteps := 4000000) (dsimp := false) (disch := omega) only [go_sem, eZ, ↓reduceIte, Nat.reduceEqDiff, Nat.reduceMul, Nat.reduceAdd, Nat.reduceSub, Nat.reduceLT, Nat.reduceLeDiff, Nat.reduceBEq, reduceCtorEq, Int.reduceToNat, Int.reduceEq, Int.reduceLT, Int.reduceLE, Int.reduceNeg, Int.reduceSub, Int.reduceAdd, Int.reduceMul, Tryz.results57]
  refine callK (eZ_nat b.natAbs _ (nd_lt _) (by omega)) ?_
  simp (maxSteps := 4000000) (dsimp := false) (disch := omega) only [go_sem, eZ, ↓reduceIte, Nat.reduceEqDiff, Nat.reduceMul, Nat.reduceAdd, Nat.reduceSub, Nat.reduceLT, Nat.reduceLeDiff, Nat.reduceBEq, reduceCtorEq, Int.reduceToNat, Int.reduceEq, Int.reduceLT, Int.reduceLE, Int.reduceNeg, Int.reduceSub, Int.reduceAdd, Int.reduceMul, Tryz.results57, Int.natAbs_natCast]
  refine vloop (α := Nat × Nat) (fun z => ⟨[(4, .ad 1032 0), (5, .ad 1040 0), (6, .ad 1048 0)], [(1032, ⟨2, 1, [.bool false, .sl 1 0 []], 1⟩), (1040, ⟨2, 1, eZ (z.1 : Int), 1⟩), (1048, ⟨2, 1, eZ (z.2 : Int), 1⟩)]⟩)
    (fun z => Nat.gcd z.1 z.2 = Int.gcd a b ∧ nd z.1 < 2 ^ 36 ∧ nd z.2 < 2 ^ 36) (fun z => z.2) (a.natAbs, b.natAbs) ?_ ⟨rfl, ha, hb⟩ ?_
  · (refine weak' [] ?_; simp (maxSteps := 4000000) (dsimp := false) (disch := omega) only [slotsW, blksW, parW, List.map_cons, List.map_nil, renF, renA, idsIn, go_sem, eZ, ↓reduceIte, Nat.reduceEqDiff, Nat.reduceMul, Nat.reduceAdd, Nat.reduceSub, Nat.reduceLT, Nat.reduceLeDiff, Nat.reduceBEq, reduceCtorEq, Int.reduceToNat, Int.reduceEq, Int.reduceLT, Int.reduceLE, Int.reduceNeg, Int.reduceSub, Int.reduceAdd, Int.reduceMul])
    exact ⟨⟨rfl, rfl⟩, rfl, rfl⟩
  · intro ⟨x, y⟩ ⟨hg, hx, hy⟩
    simp only at hg hx hy
    simp (maxSteps := 4000000) (dsimp := false) (disch := omega) only [go_sem, eZ, ↓reduceIte, Nat.reduceEqDiff, Nat.reduceMul, Nat.reduceAdd, Nat.reduceSub, Nat.reduceLT, Nat.reduceLeDiff, Nat.reduceBEq, reduceCtorEq, Int.reduceToNat, Int.reduceEq, Int.reduceLT, Int.reduceLE, Int.reduceNeg, Int.reduceSub, Int.reduceAdd, Int.reduceMul, Tryz.results57, Int.natAbs_natCast]
    refine ⟨fun c1 => ?_, fun c1 => ?_⟩
    · have hy0 : y ≠ 0 := by rintro rfl; rw [nd_zero] at c1; omega
      refine callK (word_nat x (by omega)) ?_
      simp (maxSteps := 4000000) (dsimp := false) (disch := omega) only [go_sem, eZ, ↓reduceIte, Nat.reduceEqDiff, Nat.reduceMul, Nat.reduceAdd, Nat.reduceSub, Nat.reduceLT, Nat.reduceLeDiff, Nat.reduceBEq, reduceCtorEq, Int.reduceToNat, Int.reduceEq, Int.reduceLT, Int.reduceLE, Int.reduceNeg, Int.reduceSub, Int.reduceAdd, Int.reduceMul, Tryz.results57, Int.natAbs_natCast]
      refine callK (word_nat y (by omega)) ?_
      simp (maxSteps := 4000000) (dsimp := false) (disch := omega) only [go_sem, eZ, ↓reduceIte, Nat.reduceEqDiff, Nat.reduceMul, Nat.reduceAdd, Nat.reduceSub, Nat.reduceLT, Nat.reduceLeDiff, Nat.reduceBEq, reduceCtorEq, Int.reduceToNat, Int.reduceEq, Int.reduceLT, Int.reduceLE, Int.reduceNeg, Int.reduceSub, Int.reduceAdd, Int.reduceMul, Tryz.results57, Int.natAbs_natCast]
      refine ⟨fun c2 => ⟨fun c3 => ?_, fun c3 => ?_⟩, fun c2 => ?_⟩
      · have hxs := small_nat c2
        have hys := small_nat c3
        rw [if_pos c2, if_pos c3]
        refine vloop (α := Nat × Nat) (fun z => ⟨[(4, .ad 1032 0), (7, .lf (.int .u64 z.1)), (9, .lf (.int .u64 z.2))], [(1032, ⟨2, 1, [.bool false, .sl 1 0 []], 1⟩)]⟩)
          (fun z => Nat.gcd z.1 z.2 = Int.gcd a b ∧ z.1 < 1000000000000000000 ∧ z.2 < 1000000000000000000) (fun z => z.2) (x, y) ?_ ⟨hg, hxs, hys⟩ ?_
        · (refine weak' [] ?_; simp (maxSteps := 4000000) (dsimp := false) (disch := omega) only [slotsW, blksW, parW, List.map_cons, List.map_nil, renF, renA, idsIn, go_sem, eZ, ↓reduceIte, Nat.reduceEqDiff, Nat.reduceMul, Nat.reduceAdd, Nat.reduceSub, Nat.reduceLT, Nat.reduceLeDiff, Nat.reduceBEq, reduceCtorEq, Int.reduceToNat, Int.reduceEq, Int.reduceLT, Int.reduceLE, Int.reduceNeg, Int.reduceSub, Int.reduceAdd, Int.reduceMul])
        · intro ⟨u, v⟩ ⟨hg, hu, hv⟩
          simp only at hg hu hv
          simp (maxSteps := 4000000) (dsimp := false) (disch := omega) only [go_sem, eZ, ↓reduceIte, Nat.reduceEqDiff, Nat.reduceMul, Nat.reduceAdd, Nat.reduceSub, Nat.reduceLT, Nat.reduceLeDiff, Nat.reduceBEq, reduceCtorEq, Int.reduceToNat, Int.reduceEq, Int.reduceLT, Int.reduceLE, Int.reduceNeg, Int.reduceSub, Int.reduceAdd, Int.reduceMul, Tryz.results57, Int.natAbs_natCast, tmod_N]
          refine ⟨fun c4 => ⟨by omega, (v, u % v), ?_, ⟨?_, hv, ?_⟩, ?_⟩, fun c4 => ?_⟩
          · (refine weak' [] ?_; simp (maxSteps := 4000000) (dsimp := false) (disch := omega) only [slotsW, blksW, parW, List.map_cons, List.map_nil, renF, renA, idsIn, go_sem, eZ, ↓reduceIte, Nat.reduceEqDiff, Nat.reduceMul, Nat.reduceAdd, Nat.reduceSub, Nat.reduceLT, Nat.reduceLeDiff, Nat.reduceBEq, reduceCtorEq, Int.reduceToNat, Int.reduceEq, Int.reduceLT, Int.reduceLE, Int.reduceNeg, Int.reduceSub, Int.reduceAdd, Int.reduceMul])
          · rw [← hg]
            show Nat.gcd v (u % v) = _
            rw [Nat.gcd_comm u v, Nat.gcd_comm v (u % v), ← Nat.gcd_rec v u]
          · exact Nat.lt_trans (Nat.mod_lt _ (by omega)) hv
          · exact Nat.mod_lt _ (by omega)
          · obtain rfl : v = 0 := by omega
            rw [← hg, Nat.gcd_zero_right]
            refine callK (split_ok u (by omega)) ?_
            simp (maxSteps := 4000000) (dsimp := false) (disch := omega) only [go_sem, eZ, ↓reduceIte, Nat.reduceEqDiff, Nat.reduceMul, Nat.reduceAdd, Nat.reduceSub, Nat.reduceLT, Nat.reduceLeDiff, Nat.reduceBEq, reduceCtorEq, Int.reduceToNat, Int.reduceEq, Int.reduceLT, Int.reduceLE, Int.reduceNeg, Int.reduceSub, Int.reduceAdd, Int.reduceMul, Tryz.results57, Int.natAbs_natCast]
            refine callK (eZ_nat u 3 (Nat.lt_trans hu (by decide)) (by omega)) ?_
            simp (maxSteps := 4000000) (dsimp := false) (disch := omega) only [go_sem, eZ, ↓reduceIte, Nat.reduceEqDiff, Nat.reduceMul, Nat.reduceAdd, Nat.reduceSub, Nat.reduceLT, Nat.reduceLeDiff, Nat.reduceBEq, reduceCtorEq, Int.reduceToNat, Int.reduceEq, Int.reduceLT, Int.reduceLE, Int.reduceNeg, Int.reduceSub, Int.reduceAdd, Int.reduceMul, Tryz.results57, Int.natAbs_natCast]
      · skip
        refine callK (divide_ok x y _ _ (nd_lt x) (by omega) (nd_lt y) (by omega) hy0) ?_
        simp (maxSteps := 4000000) (dsimp := false) (disch := omega) only [go_sem, eZ, ↓reduceIte, Nat.reduceEqDiff, Nat.reduceMul, Nat.reduceAdd, Nat.reduceSub, Nat.reduceLT, Nat.reduceLeDiff, Nat.reduceBEq, reduceCtorEq, Int.reduceToNat, Int.reduceEq, Int.reduceLT, Int.reduceLE, Int.reduceNeg, Int.reduceSub, Int.reduceAdd, Int.reduceMul, Tryz.results57, Int.natAbs_natCast]
        obtain ⟨r1, r2⟩ := dr_lt (a := x) hy0
        refine callK (eZ_nat (x % y) _ r1 (by omega)) ?_
        simp (maxSteps := 4000000) (dsimp := false) (disch := omega) only [go_sem, eZ, ↓reduceIte, Nat.reduceEqDiff, Nat.reduceMul, Nat.reduceAdd, Nat.reduceSub, Nat.reduceLT, Nat.reduceLeDiff, Nat.reduceBEq, reduceCtorEq, Int.reduceToNat, Int.reduceEq, Int.reduceLT, Int.reduceLE, Int.reduceNeg, Int.reduceSub, Int.reduceAdd, Int.reduceMul, Tryz.results57, Int.natAbs_natCast]
        have hm := Nat.mod_lt x (Nat.pos_of_ne_zero hy0)
        have hmn : nd (x % y) ≤ nd y := nd_le (Nat.lt_trans hm (nd_lt y))
        refine ⟨(y, x % y), ?_, ⟨?_, hy, Nat.lt_of_le_of_lt hmn hy⟩, hm⟩
        · (refine weak' [] ?_; simp (maxSteps := 4000000) (dsimp := false) (disch := omega) only [slotsW, blksW, parW, List.map_cons, List.map_nil, renF, renA, idsIn, go_sem, eZ, ↓reduceIte, Nat.reduceEqDiff, Nat.reduceMul, Nat.reduceAdd, Nat.reduceSub, Nat.reduceLT, Nat.reduceLeDiff, Nat.reduceBEq, reduceCtorEq, Int.reduceToNat, Int.reduceEq, Int.reduceLT, Int.reduceLE, Int.reduceNeg, Int.reduceSub, Int.reduceAdd, Int.reduceMul])
        · rw [← hg]
          show Nat.gcd y (x % y) = _
          rw [Nat.gcd_comm x y, Nat.gcd_comm y (x % y), ← Nat.gcd_rec y x]
      · skip
        refine callK (divide_ok x y _ _ (nd_lt x) (by omega) (nd_lt y) (by omega) hy0) ?_
        simp (maxSteps := 4000000) (dsimp := false) (disch := omega) only [go_sem, eZ, ↓reduceIte, Nat.reduceEqDiff, Nat.reduceMul, Nat.reduceAdd, Nat.reduceSub, Nat.reduceLT, Nat.reduceLeDiff, Nat.reduceBEq, reduceCtorEq, Int.reduceToNat, Int.reduceEq, Int.reduceLT, Int.reduceLE, Int.reduceNeg, Int.reduceSub, Int.reduceAdd, Int.reduceMul, Tryz.results57, Int.natAbs_natCast]
        obtain ⟨r1, r2⟩ := dr_lt (a := x) hy0
        refine callK (eZ_nat (x % y) _ r1 (by omega)) ?_
        simp (maxSteps := 4000000) (dsimp := false) (disch := omega) only [go_sem, eZ, ↓reduceIte, Nat.reduceEqDiff, Nat.reduceMul, Nat.reduceAdd, Nat.reduceSub, Nat.reduceLT, Nat.reduceLeDiff, Nat.reduceBEq, reduceCtorEq, Int.reduceToNat, Int.reduceEq, Int.reduceLT, Int.reduceLE, Int.reduceNeg, Int.reduceSub, Int.reduceAdd, Int.reduceMul, Tryz.results57, Int.natAbs_natCast]
        have hm := Nat.mod_lt x (Nat.pos_of_ne_zero hy0)
        have hmn : nd (x % y) ≤ nd y := nd_le (Nat.lt_trans hm (nd_lt y))
        refine ⟨(y, x % y), ?_, ⟨?_, hy, Nat.lt_of_le_of_lt hmn hy⟩, hm⟩
        · (refine weak' [] ?_; simp (maxSteps := 4000000) (dsimp := false) (disch := omega) only [slotsW, blksW, parW, List.map_cons, List.map_nil, renF, renA, idsIn, go_sem, eZ, ↓reduceIte, Nat.reduceEqDiff, Nat.reduceMul, Nat.reduceAdd, Nat.reduceSub, Nat.reduceLT, Nat.reduceLeDiff, Nat.reduceBEq, reduceCtorEq, Int.reduceToNat, Int.reduceEq, Int.reduceLT, Int.reduceLE, Int.reduceNeg, Int.reduceSub, Int.reduceAdd, Int.reduceMul])
        · rw [← hg]
          show Nat.gcd y (x % y) = _
          rw [Nat.gcd_comm x y, Nat.gcd_comm y (x % y), ← Nat.gcd_rec y x]
    · have hy0 : y = 0 := nd_eq_zero.1 (by omega)
      subst hy0
      rw [← hg, Nat.gcd_zero_right]
      refine ⟨by simp only [maxApp]; omega, ?_⟩
      refine callK (eZ_nat x _ (nd_lt x) (by omega)) ?_
      simp (maxSteps := 4000000) (dsimp := false) (disch := omega) only [go_sem, eZ, ↓reduceIte, Nat.reduceEqDiff, Nat.reduceMul, Nat.reduceAdd, Nat.reduceSub, Nat.reduceLT, Nat.reduceLeDiff, Nat.reduceBEq, reduceCtorEq, Int.reduceToNat, Int.reduceEq, Int.reduceLT, Int.reduceLE, Int.reduceNeg, Int.reduceSub, Int.reduceAdd, Int.reduceMul, Tryz.results57, Int.natAbs_natCast]
end Go.Proofs.YtdhgdpcmdmgchaaGreat.Fw
