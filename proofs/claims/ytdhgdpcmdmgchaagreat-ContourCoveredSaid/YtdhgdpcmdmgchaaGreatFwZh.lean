/- Limbs of the reference, in plain Lean. Conditions: none. -/
import Derived.Test.YtdhgdpcmdmgchaaGreatFwZg
namespace Go.Proofs.YtdhgdpcmdmgchaaGreat.Fw
open Go
structure Hold (p : Prop) : Prop where
  h : p
theorem du0_cons (j : Nat) : L.int .u32 0 :: du 0 j = du 0 (j + 1) := by
  rw [← rep_du j, ← rep_du (j + 1), List.replicate_succ, List.flatten_cons]; rfl
theorem nd_gt {m i : Nat} (h : m / Bs ^ i ≠ 0) : i < nd m := by
  by_cases h1 : i < nd m
  · exact h1
  · exfalso
    apply h
    exact Nat.div_eq_of_lt (Nat.lt_of_lt_of_le (nd_lt m) (Nat.pow_le_pow_right Bs_pos (by omega)))
theorem div_next (m i : Nat) : m / Bs ^ i / 1000000000 = m / Bs ^ (i + 1) := by
  rw [Nat.pow_succ, ← Nat.div_div_eq_div_mul]
theorem tdiv_B2 {a b : Nat} : ((a : Int) + b).tdiv 1000000000 = (((a + b) / 1000000000 : Nat) : Int) := by
  have := Int.ofNat_tdiv (a + b) 1000000000; rw [Int.natCast_add] at this; exact this.symm
theorem tmod_B2 {a b : Nat} : ((a : Int) + b).tmod 1000000000 = (((a + b) % 1000000000 : Nat) : Int) := by
  have := Int.ofNat_tmod (a + b) 1000000000; rw [Int.natCast_add] at this; exact this.symm
theorem tdiv_B3 {a b c : Nat} : ((a : Int) + b + c).tdiv 1000000000 = (((a + b + c) / 1000000000 : Nat) : Int) := by
  have := Int.ofNat_tdiv (a + b + c) 1000000000; rw [Int.natCast_add, Int.natCast_add] at this; exact this.symm
theorem tmod_B3 {a b c : Nat} : ((a : Int) + b + c).tmod 1000000000 = (((a + b + c) % 1000000000 : Nat) : Int) := by
  have := Int.ofNat_tmod (a + b + c) 1000000000; rw [Int.natCast_add, Int.natCast_add] at this; exact this.symm
theorem du_cons (R d k : Nat) (hd : d < Bs) : L.int .u32 (d : Int) :: du R k = du (R * Bs + d) (k + 1) := by
  apply List.ext_getElem
  · simp [du]
  · intro r h1 h2
    cases r with
    | zero =>
      simp only [List.getElem_cons_zero, du, List.getElem_map, List.getElem_range]
      congr 2
      unfold dgt
      rw [Nat.pow_zero, Nat.div_one, Nat.add_comm, Nat.add_mul_mod_self_right, Nat.mod_eq_of_lt hd]
    | succ r =>
      simp only [List.getElem_cons_succ, du, List.getElem_map, List.getElem_range]
      congr 2
      unfold dgt
      rw [Nat.pow_succ, Nat.mul_comm (Bs ^ r), ← Nat.div_div_eq_div_mul, Nat.add_comm, Nat.add_mul_div_right _ _ Bs_pos, Nat.div_eq_of_lt hd, Nat.zero_add]
theorem cons_lt {R d k : Nat} (hR : R < Bs ^ k) (hd : d < Bs) : R * Bs + d < Bs ^ (k + 1) := by
  rw [Nat.pow_succ]
  have : (R + 1) * Bs ≤ Bs ^ k * Bs := Nat.mul_le_mul_right _ hR
  rw [Nat.add_mul, Nat.one_mul] at this
  simp only [Bs] at *
  omega
/-- What is left of the limbs from i on. -/
def rm (X V i : Nat) : Nat := X / Bs ^ i % V
theorem rm_zero (X V : Nat) : rm X V 0 = X % V := by simp [rm]
theorem rm_start {X V K : Nat} (h : X < Bs ^ K) : rm X V K = 0 := by unfold rm; rw [Nat.div_eq_of_lt h, Nat.zero_mod]
theorem rm_win (X V i : Nat) : rm X V (i + 1) * Bs + dgt X i = win X V i := rfl
theorem rm_next (X V i : Nat) : win X V i % V = rm X V i := bw_rest X V i
theorem rm_lt {X V i : Nat} (h : 0 < V) : rm X V i < V := Nat.mod_lt _ h
/-- The reference's first estimate. -/
theorem ref_est {W V N : Nat} (hV : V < Bs ^ (N + 1)) (h1 : 0 < dgt V N) (hV0 : 0 < V) (hW : W < V * Bs) : W / V ≤ W / Bs ^ N / dgt V N ∧ W / V < Bs := by
  refine ⟨?_, (Nat.div_lt_iff_lt_mul hV0).2 (by rw [Nat.mul_comm]; exact hW)⟩
  rw [top_div hV] at h1 ⊢
  refine (Nat.le_div_iff_mul_le h1).2 ?_
  refine (Nat.le_div_iff_mul_le (Bp_pos _)).2 ?_
  calc W / V * (V / Bs ^ N) * Bs ^ N = W / V * (V / Bs ^ N * Bs ^ N) := Nat.mul_assoc _ _ _
    _ ≤ W / V * V := Nat.mul_le_mul_left _ (Nat.div_mul_le_self _ _)
    _ ≤ W := Nat.div_mul_le_self _ _
/-- All that a digit of the reference's division needs. -/
structure RWin (X V i nv W : Nat) : Prop where
  top : W < Bs ^ (nv + 1)
  est : dgt W nv * 1000000000 + dgt W (nv - 1) = W / Bs ^ (nv - 1)
  low : W / V ≤ W / Bs ^ (nv - 1) / dgt V (nv - 1)
  low9 : W / V ≤ 999999999
  dig : W / V = dgt (X / V) i
  rest : W % V = rm X V i
theorem rwin {X V i nv : Nat} (hV : V < Bs ^ nv) (hn : 0 < nv) (h1 : 0 < dgt V (nv - 1)) (hV0 : 0 < V) : RWin X V i nv (win X V i) := by
  obtain ⟨N, rfl⟩ : ∃ N, nv = N + 1 := ⟨nv - 1, by omega⟩
  rw [Nat.add_sub_cancel] at h1
  have hW := win_lt (X := X) (i := i) hV0
  have ht : win X V i < Bs ^ (N + 2) := by
    rw [Nat.pow_succ]
    exact Nat.lt_trans hW (Nat.mul_lt_mul_of_pos_right hV Bs_pos)
  have h2 := ref_est hV h1 hV0 hW
  refine ⟨ht, ?_, ?_, ?_, bw_dig X V i hV0, rm_next X V i⟩
  · rw [Nat.add_sub_cancel]; exact est_top ht
  · rw [Nat.add_sub_cancel]; exact h2.1
  · have := h2.2; simp only [Bs] at this; omega
theorem cmpN_pos {m n : Nat} : cmpN m n > 0 ↔ n < m := by
  unfold cmpN
  split
  · omega
  · split <;> omega
/-- The inner loop's step. -/
theorem over_step {W V g : Nat} (h : W < V * g) : W / V ≤ g - 1 ∧ 0 < g ∧ V * g - V = V * (g - 1) := by
  have h0 : W / V < g := (Nat.div_lt_iff_lt_mul (Nat.pos_of_ne_zero fun h0 => by rw [h0, Nat.zero_mul] at h; omega)).2 (by rw [Nat.mul_comm]; exact h)
  refine ⟨Nat.le_sub_one_of_lt h0, Nat.lt_of_le_of_lt (Nat.zero_le _) h0, ?_⟩
  rw [Nat.mul_sub, Nat.mul_one]
theorem over_end {W V g : Nat} (hV : 0 < V) (h : ¬ W < V * g) (hg : W / V ≤ g) : g = W / V ∧ W - V * g = W % V := by
  have h1 : g ≤ W / V := (Nat.le_div_iff_mul_le hV).2 (by rw [Nat.mul_comm]; omega)
  obtain rfl : g = W / V := Nat.le_antisymm h1 hg
  refine ⟨rfl, ?_⟩
  have := Nat.div_add_mod W V
  omega
end Go.Proofs.YtdhgdpcmdmgchaaGreat.Fw
