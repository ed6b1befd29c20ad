/- Contracts: integers of 64 bits. Conditions: none. -/
import Derived.Test.YtdhgdpcmdmgchaaFwCa
namespace Go.Proofs.Ytdhgdpcmdmgchaa.Fw
open Go Go.Proofs
set_option linter.unusedSimpArgs false
set_option linter.unusedVariables false
set_option maxHeartbeats 2000000
set_option maxRecDepth 10000

theorem signed_eZ (neg : Bool) (m k : Nat) (hm : m < Bs ^ k) (hk : k < 2 ^ 40) : Ok Try.prog 38 [.lf (.bool neg), .lf (.sl 1 k (du m k))] ⟨[.ag (eZ (if neg then -(m : Int) else m))], []⟩ := by
  rw [eZ_sg]; exact signed_ok neg m k hm hk

theorem du_three (u : Nat) (hu : u ≤ 18446744073709551615) : du u 3 = [.int .u32 ((u % 1000000000 : Nat) : Int), .int .u32 ((u / 1000000000 % 1000000000 : Nat) : Int), .int .u32 ((u / 1000000000 / 1000000000 : Nat) : Int)] := by
  have e : u / 1000000000 ^ 2 % 1000000000 = u / 1000000000 / 1000000000 := by omega
  simp only [du, dgt, List.range_succ, List.range_zero, List.nil_append, List.cons_append, List.map_cons, List.map_nil, Nat.pow_zero, Nat.pow_one, Nat.div_one, e]

theorem split_ok (u : Nat) (hu : u ≤ 18446744073709551615) : Ok Try.prog 39 [.lf (.int .u64 u)] ⟨[.own 1 3 (du u 3)], []⟩ := by
  refine ok_of_V (T := Tb) tb_ok mo Try.func39 rfl (by kernel_rfl) (by kernel_rfl) (by simp [Try.ntmps39, mts]) ?_
  simp (maxSteps := 4000000) (dsimp := false) (disch := omega) only [go_sem, eZ, ↓reduceIte, Nat.reduceEqDiff, Nat.reduceMul, Nat.reduceAdd, Nat.reduceSub, Nat.reduceLT, Nat.reduceLeDiff, Nat.reduceBEq, reduceCtorEq, Int.reduceToNat, Int.reduceEq, Int.reduceLT, Int.reduceLE, Int.reduceNeg, Int.reduceSub, Int.reduceAdd, Int.reduceMul, Try.results39]
  rw [du_three u hu]

theorem FromInt64_ok (n : Int) (hn : -9223372036854775808 ≤ n ∧ n ≤ 9223372036854775807) : Ok Try.prog 21 [.lf (.int .i64 n)] ⟨[.ag (eZ n)], []⟩ := by
  refine ok_of_V (T := Tb) tb_ok mo Try.func21 rfl (by kernel_rfl) (by kernel_rfl) (by simp [Try.ntmps21, mts]) ?_
  simp (maxSteps := 4000000) (dsimp := false) (disch := omega) only [go_sem, eZ, ↓reduceIte, Nat.reduceEqDiff, Nat.reduceMul, Nat.reduceAdd, Nat.reduceSub, Nat.reduceLT, Nat.reduceLeDiff, Nat.reduceBEq, reduceCtorEq, Int.reduceToNat, Int.reduceEq, Int.reduceLT, Int.reduceLE, Int.reduceNeg, Int.reduceSub, Int.reduceAdd, Int.reduceMul, Try.results21]
  have e1 : n < 0 → IntKind.u64.wrap (0 - IntKind.u64.wrap n) = ((n.natAbs : Nat) : Int) := fun h => by
    have e : ∀ x : Int, IntKind.u64.wrap x = x % 18446744073709551616 := fun x => by simp [IntKind.wrap, IntKind.bits, IntKind.signed]
    rw [e, e]; omega
  have e2 : ¬ n < 0 → IntKind.u64.wrap n = ((n.natAbs : Nat) : Int) := fun h => by
    rw [wrap_u64 (by omega)]; omega
  have hlt : n.natAbs < Bs ^ 3 := by simp only [Bs]; omega
  have e3 : (if decide (n < 0) = true then -((n.natAbs : Nat) : Int) else (n.natAbs : Nat)) = n := by split <;> simp_all <;> omega
  refine ⟨fun h => ?_, fun h => ?_⟩
  · simp only [e1 h]
    refine callK (split_ok _ (by omega)) ?_
    simp (maxSteps := 4000000) (dsimp := false) (disch := omega) only [go_sem, eZ, ↓reduceIte, Nat.reduceEqDiff, Nat.reduceMul, Nat.reduceAdd, Nat.reduceSub, Nat.reduceLT, Nat.reduceLeDiff, Nat.reduceBEq, reduceCtorEq, Int.reduceToNat, Int.reduceEq, Int.reduceLT, Int.reduceLE, Int.reduceNeg, Int.reduceSub, Int.reduceAdd, Int.reduceMul, Try.results21]
    refine callK (signed_eZ (decide (n < 0)) n.natAbs 3 hlt (by omega)) ?_
    rw [e3]
    simp (maxSteps := 4000000) (dsimp := false) (disch := omega) only [go_sem, eZ, ↓reduceIte, Nat.reduceEqDiff, Nat.reduceMul, Nat.reduceAdd, Nat.reduceSub, Nat.reduceLT, Nat.reduceLeDiff, Nat.reduceBEq, reduceCtorEq, Int.reduceToNat, Int.reduceEq, Int.reduceLT, Int.reduceLE, Int.reduceNeg, Int.reduceSub, Int.reduceAdd, Int.reduceMul, Try.results21]
  · simp only [e2 h]
    refine callK (split_ok _ (by omega)) ?_
    simp (maxSteps := 4000000) (dsimp := false) (disch := omega) only [go_sem, eZ, ↓reduceIte, Nat.reduceEqDiff, Nat.reduceMul, Nat.reduceAdd, Nat.reduceSub, Nat.reduceLT, Nat.reduceLeDiff, Nat.reduceBEq, reduceCtorEq, Int.reduceToNat, Int.reduceEq, Int.reduceLT, Int.reduceLE, Int.reduceNeg, Int.reduceSub, Int.reduceAdd, Int.reduceMul, Try.results21]
    refine callK (signed_eZ (decide (n < 0)) n.natAbs 3 hlt (by omega)) ?_
    rw [e3]
    simp (maxSteps := 4000000) (dsimp := false) (disch := omega) only [go_sem, eZ, ↓reduceIte, Nat.reduceEqDiff, Nat.reduceMul, Nat.reduceAdd, Nat.reduceSub, Nat.reduceLT, Nat.reduceLeDiff, Nat.reduceBEq, reduceCtorEq, Int.reduceToNat, Int.reduceEq, Int.reduceLT, Int.reduceLE, Int.reduceNeg, Int.reduceSub, Int.reduceAdd, Int.reduceMul, Try.results21]

theorem Sign_ok (x : Int) : Ok Try.prog 25 [.ag (eZ x)] ⟨[.lf (.int .i64 x.sign)], []⟩ := by
  refine ok_of_V (T := Tb) tb_ok mo Try.func25 rfl (by kernel_rfl) (by kernel_rfl) (by simp [Try.ntmps25, mts]) ?_
  simp (maxSteps := 4000000) (dsimp := false) (disch := omega) only [go_sem, eZ, ↓reduceIte, Nat.reduceEqDiff, Nat.reduceMul, Nat.reduceAdd, Nat.reduceSub, Nat.reduceLT, Nat.reduceLeDiff, Nat.reduceBEq, reduceCtorEq, Int.reduceToNat, Int.reduceEq, Int.reduceLT, Int.reduceLE, Int.reduceNeg, Int.reduceSub, Int.reduceAdd, Int.reduceMul, Try.results25]
  refine ⟨fun h => (Int.sign_eq_neg_one_of_neg h).symm, fun h => ⟨fun h1 => ?_, fun h1 => ?_⟩⟩
  · have : x ≠ 0 := by rintro rfl; rw [show (0 : Int).natAbs = 0 from rfl, nd_zero] at h1; omega
    exact (Int.sign_eq_one_of_pos (by omega)).symm
  · have : nd x.natAbs = 0 := by omega
    have := nd_eq_zero.1 this
    have hx : x = 0 := by omega
    subst hx; rfl
end Go.Proofs.Ytdhgdpcmdmgchaa.Fw
