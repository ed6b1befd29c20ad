/- Numbers as limbs, in plain Lean. Conditions: none. -/
import Derived.Test.YtdhgdpcmdmgchaaGreatFwU
namespace Go.Proofs.YtdhgdpcmdmgchaaGreat.Fw
open Go
set_option linter.unusedSimpArgs false
set_option linter.unusedVariables false

/-- The base of the limbs. -/
abbrev Bs : Nat := 1000000000
/-- Limb i of m. -/
def dgt (m i : Nat) : Nat := m / Bs ^ i % Bs
/-- The cells of the last k limbs of m. -/
def du (m k : Nat) : List L := (List.range k).map fun i => .int .u32 (dgt m i : Int)
/-- The number of limbs. -/
def nd (m : Nat) : Nat := if h : m = 0 then 0 else nd (m / Bs) + 1
termination_by m
decreasing_by exact Nat.div_lt_self (Nat.pos_of_ne_zero h) (by decide)

/-- An integer's cells. -/
def eZ (x : Int) : List L := [.bool (decide (x < 0)), .sl 1 (nd x.natAbs) (du x.natAbs (nd x.natAbs))]

theorem Bs_pos : 0 < Bs := by decide
theorem Bp_pos (k : Nat) : 0 < Bs ^ k := Nat.pow_pos Bs_pos

theorem du_len (m k : Nat) : (du m k).length = k := by simp [du]
theorem dgt_lt (m i : Nat) : dgt m i < 1000000000 := Nat.mod_lt _ (by decide)
theorem dgt_top {m k i : Nat} (h : m < Bs ^ k) (hi : k ≤ i) : dgt m i = 0 := by
  have : m < Bs ^ i := Nat.lt_of_lt_of_le h (Nat.pow_le_pow_right Bs_pos hi)
  simp [dgt, Nat.div_eq_of_lt this]
theorem du_get {m k i : Nat} (h : m < Bs ^ k) : (du m k).getD i (.int .u32 0) = .int .u32 (dgt m i : Int) := by
  by_cases hi : i < k
  · simp [du, List.getD_eq_getElem?_getD, hi]
  · rw [dgt_top h (by omega)]
    simp [du, List.getD_eq_getElem?_getD, hi]
theorem du_zero (m : Nat) : du m 0 = [] := rfl
theorem du_succ (m k : Nat) : du m (k + 1) = du m k ++ [.int .u32 (dgt m k : Int)] := by simp [du, List.range_succ]
theorem du_take {m k j : Nat} (h : j ≤ k) : (du m k).take j = du m j := by
  simp [du, ← List.map_take, List.take_range, Nat.min_eq_left h]
theorem du_seg {m k j : Nat} (h : j ≤ k) : seg 0 j (du m k) = du m j := by
  simp [seg, du_take h]
theorem dg_mod {m k i : Nat} (h : i < k) : dgt (m % Bs ^ k) i = dgt m i := by
  unfold dgt
  obtain ⟨j, rfl⟩ : ∃ j, k = i + 1 + j := ⟨k - (i + 1), by omega⟩
  rw [Nat.pow_add, Nat.pow_succ, Nat.mul_assoc, Nat.mod_mul_right_div_self, Nat.mod_mul_right_mod]
theorem du_mod (m k : Nat) : du (m % Bs ^ k) k = du m k := by
  simp only [du]
  refine List.map_congr_left fun i hi => ?_
  rw [dg_mod (List.mem_range.1 hi)]
theorem du_congr {m n k : Nat} (h : m % Bs ^ k = n % Bs ^ k) : du m k = du n k := by rw [← du_mod m, ← du_mod n, h]

theorem nd_zero : nd 0 = 0 := by rw [nd]; simp
theorem nd_pos {m : Nat} (h : m ≠ 0) : nd m = nd (m / Bs) + 1 := by rw [nd]; simp [h]
theorem nd_lt : ∀ m : Nat, m < Bs ^ nd m := by
  intro m
  induction m using Nat.strongRecOn with
  | ind m ih =>
    by_cases h : m = 0
    · subst h; rw [nd_zero]; decide
    · rw [nd_pos h, Nat.pow_succ]
      have := ih (m / Bs) (Nat.div_lt_self (Nat.pos_of_ne_zero h) (by decide))
      exact (Nat.div_lt_iff_lt_mul Bs_pos).1 this
theorem nd_le : ∀ {m k : Nat}, m < Bs ^ k → nd m ≤ k := by
  intro m
  induction m using Nat.strongRecOn with
  | ind m ih =>
    intro k hk
    by_cases h : m = 0
    · subst h; rw [nd_zero]; omega
    · cases k with
      | zero => simp at hk; omega
      | succ k =>
        rw [nd_pos h]
        have := ih (m / Bs) (Nat.div_lt_self (Nat.pos_of_ne_zero h) (by decide)) (k := k) ((Nat.div_lt_iff_lt_mul Bs_pos).2 (by rwa [Nat.pow_succ] at hk))
        omega
theorem nd_eq_zero {m : Nat} : nd m = 0 ↔ m = 0 := by
  constructor
  · intro h; have := nd_lt m; rw [h] at this; simpa using this
  · rintro rfl; exact nd_zero
/-- Without limbs 0 at the end there is one number of limbs. -/
theorem nd_eq {m k : Nat} (h1 : m < Bs ^ k) (h2 : k = 0 ∨ dgt m (k - 1) ≠ 0) : nd m = k := by
  have hle := nd_le h1
  rcases h2 with rfl | h2
  · omega
  · by_cases he : nd m = k
    · exact he
    · exfalso
      have h3 : m < Bs ^ (k - 1) := Nat.lt_of_lt_of_le (nd_lt m) (Nat.pow_le_pow_right Bs_pos (by omega))
      exact h2 (dgt_top h3 (Nat.le_refl _))

/-- A limb more, or a limb 0 less. -/
theorem pow_top {m k : Nat} (h1 : m < Bs ^ (k + 1)) (h2 : dgt m k = 0) : m < Bs ^ k := by
  unfold dgt at h2
  have : m / Bs ^ k < Bs := (Nat.div_lt_iff_lt_mul (Bp_pos k)).2 (by rwa [Nat.pow_succ, Nat.mul_comm] at h1)
  rw [Nat.mod_eq_of_lt this] at h2
  rcases Nat.div_eq_zero_iff.1 h2 with h | h
  · exact absurd h (Nat.ne_of_gt (Bp_pos k))
  · exact h

theorem rep_du (K : Nat) : (List.replicate K [L.int .u32 0]).flatten = du 0 K := by
  induction K with
  | zero => rfl
  | succ K ih =>
    rw [List.replicate_succ', List.flatten_append, ih, du_succ]
    simp [dgt]
theorem dgt_zero (i : Nat) : dgt 0 i = 0 := by simp [dgt]

theorem eZ_sg (neg : Bool) (m : Nat) : eZ (if neg then -(m : Int) else m) = [.bool (neg && decide (m ≠ 0)), .sl 1 (nd m) (du m (nd m))] := by
  cases neg with
  | true =>
    have h1 : (-(m : Int)).natAbs = m := by omega
    simp only [eZ, if_true, h1, Bool.true_and]
    congr 2
    by_cases h : m = 0
    · simp [h]
    · have : -(m : Int) < 0 := by omega
      simp [h]; omega
  | false =>
    have h1 : ((m : Int)).natAbs = m := by omega
    have h2 : ¬ (m : Int) < 0 := by omega
    simp [eZ, h1, h2]

attribute [go_sem] du_get rep_du du_zero
end Go.Proofs.YtdhgdpcmdmgchaaGreat.Fw

/- Sums, differences and comparisons of limbs, in plain Lean. Conditions: none. -/
namespace Go.Proofs.YtdhgdpcmdmgchaaGreat.Fw
open Go

theorem div_step (m i : Nat) : m / Bs ^ i = m / Bs ^ (i + 1) * Bs + dgt m i := by
  have h := Nat.div_add_mod (m / Bs ^ i) Bs
  rw [Nat.div_div_eq_div_mul, ← Nat.pow_succ] at h
  show _ = _ * Bs + m / Bs ^ i % Bs
  rw [Nat.mul_comm (m / _)]; exact h.symm
theorem mod_step (m i : Nat) : m % Bs ^ (i + 1) = m % Bs ^ i + Bs ^ i * dgt m i := by
  rw [Nat.pow_succ, Nat.mod_mul]; rfl

/-- What is carried into limb i. -/
def cy (m n i : Nat) : Nat := (m % Bs ^ i + n % Bs ^ i) / Bs ^ i
theorem cy_zero (m n : Nat) : cy m n 0 = 0 := by simp [cy, Nat.mod_one]
theorem cy_le (m n i : Nat) : cy m n i ≤ 1 := by
  have h1 := Nat.mod_lt m (Bp_pos i)
  have h2 := Nat.mod_lt n (Bp_pos i)
  unfold cy
  have : (m % Bs ^ i + n % Bs ^ i) / Bs ^ i < 2 := (Nat.div_lt_iff_lt_mul (Bp_pos i)).2 (by omega)
  omega
theorem cy_succ (m n i : Nat) : cy m n (i + 1) = (dgt m i + dgt n i + cy m n i) / Bs := by
  unfold cy
  rw [mod_step, mod_step]
  have e : m % Bs ^ i + Bs ^ i * dgt m i + (n % Bs ^ i + Bs ^ i * dgt n i) = Bs ^ i * (dgt m i + dgt n i) + (m % Bs ^ i + n % Bs ^ i) := by rw [Nat.mul_add]; omega
  rw [e, Nat.pow_succ, ← Nat.div_div_eq_div_mul, Nat.mul_add_div (Bp_pos i)]
theorem add_div (m n i : Nat) : (m + n) / Bs ^ i = m / Bs ^ i + n / Bs ^ i + cy m n i := by
  have h1 := Nat.div_add_mod m (Bs ^ i)
  have h2 := Nat.div_add_mod n (Bs ^ i)
  have e : m + n = Bs ^ i * (m / Bs ^ i + n / Bs ^ i) + (m % Bs ^ i + n % Bs ^ i) := by rw [Nat.mul_add]; omega
  conv => lhs; rw [e]
  rw [Nat.mul_add_div (Bp_pos i)]; rfl
theorem dgt_add (m n i : Nat) : dgt (m + n) i = (dgt m i + dgt n i + cy m n i) % Bs := by
  unfold dgt
  rw [add_div]
  simp only [Nat.add_mod, Nat.mod_mod]
theorem dgt_add_top {m n k : Nat} (h1 : m < Bs ^ k) (h2 : n < Bs ^ k) : dgt (m + n) k = cy m n k := by
  have := cy_le m n k
  rw [dgt_add, dgt_top h1 (Nat.le_refl _), dgt_top h2 (Nat.le_refl _)]
  simp only [Nat.zero_add]
  exact Nat.mod_eq_of_lt (by simp only [Bs]; omega)

/-- The sign of a difference. -/
def cmpN (m n : Nat) : Int := if m < n then -1 else if n < m then 1 else 0

theorem lt_of_nd {m n : Nat} (h : nd m < nd n) : m < n := by
  by_cases hm : n ≤ m
  · have := nd_le (Nat.lt_of_le_of_lt hm (nd_lt m)); omega
  · omega
theorem div_lt_lt {m n i : Nat} (h : m / Bs ^ i < n / Bs ^ i) : m < n := by
  by_cases hm : n ≤ m
  · have := Nat.div_le_div_right (c := Bs ^ i) hm; omega
  · omega

end Go.Proofs.YtdhgdpcmdmgchaaGreat.Fw

/- Products of limbs, and limbs that are written one by one, in plain Lean. Conditions: none. -/
namespace Go.Proofs.YtdhgdpcmdmgchaaGreat.Fw
open Go

/-- The limbs of a below place q, those of b from there on. -/
def dm (a b q K : Nat) : List L := (List.range K).map fun r => .int .u32 ((if r < q then dgt a r else dgt b r : Nat) : Int)
theorem dm_len (a b q K : Nat) : (dm a b q K).length = K := by simp [dm]
theorem dm_zero (a b K : Nat) : dm a b 0 K = du b K := by simp [dm, du]
theorem dm_full (a b K : Nat) : dm a b K K = du a K := by
  simp only [dm, du]
  exact List.map_congr_left fun r hr => by rw [if_pos (List.mem_range.1 hr)]
theorem dm_get {a b q K : Nat} (hq : q < K) : (dm a b q K).getD q (.int .u32 0) = .int .u32 (dgt b q : Int) := by
  simp [dm, List.getD_eq_getElem?_getD, hq]
theorem dm_splice {a a' b q K : Nat} {v : Int} (hq : q < K) (hv : v = dgt a' q) (h : ∀ r < q, dgt a' r = dgt a r) : splice q [.int .u32 v] (dm a b q K) = dm a' b (q + 1) K := by
  subst hv
  apply List.ext_getElem
  · simp [splice, dm]; omega
  · intro r h1 h2
    have hr : r < K := by simpa [dm] using h2
    simp only [splice, dm]
    rcases Nat.lt_trichotomy r q with h3 | h3 | h3
    · rw [List.getElem_append_left (by simp; omega), List.getElem_append_left (by simp; omega)]
      simp [h3, h r h3, show r < q + 1 by omega]
    · subst h3
      rw [List.getElem_append_left (by simp; omega), List.getElem_append_right (by simp; omega)]
      simp [Nat.min_eq_left (Nat.le_of_lt hq)]
    · rw [List.getElem_append_right (by simp; omega)]
      simp [Nat.min_eq_left (Nat.le_of_lt hq), show ¬ r < q by omega, show ¬ r < q + 1 by omega]
      rw [show q + 1 + (r - (q + 1)) = r by omega, if_neg (by omega)]

/-- Subtraction, limb by limb: with d = m - n. -/
theorem sub_step (d n i : Nat) : dgt (d + n) i + 1000000000 * cy d n (i + 1) = dgt d i + dgt n i + cy d n i := by
  rw [dgt_add, cy_succ]
  exact Nat.mod_add_div _ _

/-- Row i of a product, as far as limb p of n: R of the rows ahead of it. -/
def rowT (m n i p : Nat) : Nat := m % Bs ^ i * n + dgt m i * (n % Bs ^ p) * Bs ^ i
def rowR (m n i : Nat) : Nat := m % Bs ^ i * n
def rowC (m n i p : Nat) : Nat := rowT m n i p / Bs ^ (i + p) - rowR m n i / Bs ^ (i + p)

theorem rowT_zero (m n i : Nat) : rowT m n i 0 = rowR m n i := by simp [rowT, rowR, Nat.mod_one]
theorem rowC_zero (m n i : Nat) : rowC m n i 0 = 0 := by simp [rowC, rowT_zero]
theorem rowT_succ (m n i p : Nat) : rowT m n i (p + 1) = rowT m n i p + dgt m i * dgt n p * Bs ^ (i + p) := by
  unfold rowT
  rw [mod_step, Nat.mul_add, Nat.add_mul, Nat.pow_add, ← Nat.add_assoc]
  congr 1
  simp only [Nat.mul_assoc, Nat.mul_left_comm, Nat.mul_comm]
theorem rowR_le (m n i p : Nat) : rowR m n i ≤ rowT m n i p := by unfold rowR rowT; omega

theorem row_low {m n i p r : Nat} (h : r < i + p) : dgt (rowT m n i (p + 1)) r = dgt (rowT m n i p) r := by
  rw [← dg_mod h, rowT_succ, Nat.add_mul_mod_self_right, dg_mod h]

/-- What is reckoned at limb p. -/
def rowV (m n i p : Nat) : Nat := dgt (rowR m n i) (i + p) + dgt m i * dgt n p + rowC m n i p

theorem row_div (m n i p : Nat) : rowT m n i (p + 1) / Bs ^ (i + p) = rowV m n i p + Bs * (rowR m n i / Bs ^ (i + p + 1)) := by
  rw [rowT_succ, Nat.add_mul_div_right _ _ (Bp_pos _)]
  have h1 := div_step (rowR m n i) (i + p)
  have h2 : rowR m n i / Bs ^ (i + p) ≤ rowT m n i p / Bs ^ (i + p) := Nat.div_le_div_right (rowR_le m n i p)
  unfold rowV rowC
  rw [Nat.mul_comm Bs]
  omega
theorem row_dgt (m n i p : Nat) : dgt (rowT m n i (p + 1)) (i + p) = rowV m n i p % Bs := by
  unfold dgt
  rw [row_div, Nat.add_mul_mod_self_left]
theorem row_carry (m n i p : Nat) : rowC m n i (p + 1) = rowV m n i p / Bs := by
  have e : rowT m n i (p + 1) / Bs ^ (i + p + 1) = rowV m n i p / Bs + rowR m n i / Bs ^ (i + p + 1) := by
    rw [Nat.pow_succ, ← Nat.div_div_eq_div_mul, row_div, Nat.add_mul_div_left _ _ Bs_pos, Nat.pow_succ]
  show rowT m n i (p + 1) / Bs ^ (i + p + 1) - rowR m n i / Bs ^ (i + p + 1) = _
  rw [e, Nat.add_sub_cancel]
theorem rowC_le (m n i : Nat) : ∀ p, rowC m n i p ≤ 999999999 ∧ rowV m n i p ≤ 999999999999999999
  | 0 => by
    have h1 := dgt_lt (rowR m n i) (i + 0)
    have h2 := dgt_lt m i
    have h3 := dgt_lt n 0
    have h4 : dgt m i * dgt n 0 ≤ 999999999 * 999999999 := Nat.mul_le_mul (by omega) (by omega)
    unfold rowV
    rw [rowC_zero]
    omega
  | p + 1 => by
    have h0 := rowC_le m n i p
    have hc : rowC m n i (p + 1) ≤ 999999999 := by
      rw [row_carry]
      simp only [Bs]
      omega
    have h1 := dgt_lt (rowR m n i) (i + (p + 1))
    have h2 := dgt_lt m i
    have h3 := dgt_lt n (p + 1)
    have h4 : dgt m i * dgt n (p + 1) ≤ 999999999 * 999999999 := Nat.mul_le_mul (by omega) (by omega)
    refine ⟨hc, ?_⟩
    unfold rowV
    omega

theorem rowT_full {m n j : Nat} (i : Nat) (hn : n < Bs ^ j) : rowT m n i j = rowR m n (i + 1) := by
  unfold rowT rowR
  rw [Nat.mod_eq_of_lt hn, mod_step, Nat.add_mul]
  congr 1
  simp only [Nat.mul_assoc, Nat.mul_left_comm, Nat.mul_comm]
theorem rowR_lt {m n j : Nat} (i : Nat) (hn : n < Bs ^ j) : rowR m n i < Bs ^ (i + j) := by
  unfold rowR
  rw [Nat.pow_add]
  exact Nat.mul_lt_mul_of_lt_of_le (Nat.mod_lt _ (Bp_pos i)) (Nat.le_of_lt hn) (Bp_pos j)

theorem rowC_full {m n j : Nat} (i : Nat) (hn : n < Bs ^ j) : dgt (rowT m n i j) (i + j) = rowC m n i j := by
  have h1 := rowR_lt (m := m) i hn
  have h2 := rowR_lt (m := m) (i + 1) hn
  unfold rowC
  rw [Nat.div_eq_of_lt h1, Nat.sub_zero, rowT_full i hn]
  unfold dgt
  refine Nat.mod_eq_of_lt ((Nat.div_lt_iff_lt_mul (Bp_pos _)).2 ?_)
  rw [Nat.mul_comm, ← Nat.pow_succ]
  rwa [show i + 1 + j = i + j + 1 by omega] at h2
theorem row_end {m n k j i : Nat} (hn : n < Bs ^ j) (hi : i < k) : splice (i + j) [.int .u32 (rowC m n i j : Int)] (dm (rowT m n i j) (rowR m n i) (i + j) (k + j)) = du (rowR m n (i + 1)) (k + j) := by
  rw [dm_splice (a' := rowT m n i j) (by omega) (by rw [rowC_full i hn]) (fun _ _ => rfl), rowT_full i hn]
  simp only [dm, du]
  refine List.map_congr_left fun r hr => ?_
  split
  · rfl
  · rw [dgt_top (rowR_lt (m := m) i hn) (by omega), dgt_top (rowR_lt (m := m) (i + 1) hn) (by omega)]

end Go.Proofs.YtdhgdpcmdmgchaaGreat.Fw

/- Division by one limb, in plain Lean. Conditions: none. -/
namespace Go.Proofs.YtdhgdpcmdmgchaaGreat.Fw
open Go

theorem bw_div (m b i : Nat) (hb : 0 < b) : m / Bs ^ i / b = m / Bs ^ (i + 1) / b * Bs + (m / Bs ^ (i + 1) % b * Bs + dgt m i) / b := by
  rw [div_step m i]
  generalize m / Bs ^ (i + 1) = M
  have h := Nat.div_add_mod M b
  conv => lhs; rw [← h]
  rw [Nat.add_mul, Nat.mul_assoc, Nat.add_assoc, Nat.mul_add_div hb]
theorem bw_dig (m b i : Nat) (hb : 0 < b) : (m / Bs ^ (i + 1) % b * Bs + dgt m i) / b = dgt (m / b) i := by
  have h := bw_div m b i hb
  have h1 : (m / Bs ^ (i + 1) % b * Bs + dgt m i) / b < Bs := by
    refine (Nat.div_lt_iff_lt_mul hb).2 ?_
    have h2 := Nat.mod_lt (m / Bs ^ (i + 1)) hb
    have h3 := dgt_lt m i
    have h4 : (m / Bs ^ (i + 1) % b + 1) * Bs ≤ b * Bs := Nat.mul_le_mul_right _ h2
    rw [Nat.add_mul, Nat.mul_comm b] at h4
    simp only [Bs] at *
    omega
  have e : m / b / Bs ^ i = m / Bs ^ i / b := by rw [Nat.div_div_eq_div_mul, Nat.mul_comm, ← Nat.div_div_eq_div_mul]
  show _ = m / b / Bs ^ i % Bs
  rw [e, h, Nat.mul_comm (m / Bs ^ (i + 1) / b), Nat.mul_add_mod, Nat.mod_eq_of_lt h1]
theorem bw_rest (m b i : Nat) : (m / Bs ^ (i + 1) % b * Bs + dgt m i) % b = m / Bs ^ i % b := by
  rw [div_step m i, Nat.add_mod, Nat.mod_mul_mod, ← Nat.add_mod]

theorem dm_down {a b q K : Nat} {v : Int} (hq : q < K) (hv : v = dgt b q) : splice q [.int .u32 v] (dm a b (q + 1) K) = dm a b q K := by
  subst hv
  apply List.ext_getElem
  · simp [splice, dm]; omega
  · intro r h1 h2
    have hr : r < K := by simpa [dm] using h2
    simp only [splice, dm]
    rcases Nat.lt_trichotomy r q with h3 | h3 | h3
    · rw [List.getElem_append_left (by simp; omega), List.getElem_append_left (by simp; omega)]
      simp [h3, show r < q + 1 by omega]
    · subst h3
      rw [List.getElem_append_left (by simp; omega), List.getElem_append_right (by simp; omega)]
      simp [Nat.min_eq_left (Nat.le_of_lt hq)]
    · rw [List.getElem_append_right (by simp; omega)]
      simp [Nat.min_eq_left (Nat.le_of_lt hq), show ¬ r < q by omega]
      rw [show q + 1 + (r - (q + 1)) = r by omega, if_neg (by omega)]
theorem tdiv_N {a b : Nat} : (a : Int).tdiv (b : Int) = ((a / b : Nat) : Int) := (Int.ofNat_tdiv a b).symm
theorem tmod_N {a b : Nat} : (a : Int).tmod (b : Int) = ((a % b : Nat) : Int) := (Int.ofNat_tmod a b).symm
theorem du_one {m : Nat} (h : m < Bs) : du m 1 = [.int .u32 (m : Int)] := by
  have e : m % 1000000000 = m := Nat.mod_eq_of_lt h
  simp [du, List.range_succ, dgt]; omega
end Go.Proofs.YtdhgdpcmdmgchaaGreat.Fw

/- Multiples of limbs taken away, in plain Lean. Conditions: none. -/
namespace Go.Proofs.YtdhgdpcmdmgchaaGreat.Fw
open Go

/-- What is carried into limb i of a multiple. -/
def sc (V g i : Nat) : Nat := g * (V % Bs ^ i) / Bs ^ i
theorem sc_zero (V g : Nat) : sc V g 0 = 0 := by simp [sc, Nat.mod_one]
theorem sc_succ (V g i : Nat) : sc V g (i + 1) = (sc V g i + dgt V i * g) / Bs := by
  unfold sc
  rw [mod_step, Nat.mul_add, Nat.pow_succ, ← Nat.div_div_eq_div_mul, Nat.mul_left_comm, Nat.add_mul_div_left _ _ (Bp_pos i), Nat.mul_comm g (dgt V i)]
theorem sc_dgt (V g i : Nat) : dgt (V * g) i = (sc V g i + dgt V i * g) % Bs := by
  have e : V * g / Bs ^ i = g * (V % Bs ^ i) / Bs ^ i + g * (V / Bs ^ i) := by
    conv => lhs; rw [← Nat.mod_add_div V (Bs ^ i)]
    rw [Nat.mul_comm, Nat.mul_add, Nat.mul_left_comm, Nat.add_mul_div_left _ _ (Bp_pos i)]
  show V * g / Bs ^ i % Bs = _
  rw [e]
  unfold sc dgt
  rw [Nat.add_mod, Nat.mul_mod, Nat.add_mod (_ / _), Nat.mul_mod (_ % _) g, Nat.mod_mod, Nat.mul_comm (g % Bs)]
theorem sc_le {V g : Nat} (i : Nat) (hg : g < 1000000000) : sc V g i ≤ 999999999 := by
  have h := Nat.mod_lt V (Bp_pos i)
  have : sc V g i < Bs := by
    unfold sc
    refine (Nat.div_lt_iff_lt_mul (Bp_pos i)).2 ?_
    have h1 : g * (V % Bs ^ i) ≤ g * Bs ^ i := Nat.mul_le_mul_left _ (Nat.le_of_lt h)
    have h2 : (g + 1) * Bs ^ i ≤ Bs * Bs ^ i := Nat.mul_le_mul_right _ hg
    have h3 := Bp_pos i
    rw [Nat.add_mul, Nat.one_mul] at h2
    omega
  simp only [Bs] at this
  omega
theorem sub_fin {D U V g N j : Nat} (hV : V < Bs ^ j) (hj : j ≤ N) (hU : U < Bs ^ N) (hD : D < Bs ^ N) (h : (D + V * g) % Bs ^ N = U) : U < V * g ↔ (0 < cy D (V * g) N ∨ 0 < sc V g N) := by
  have hV' : V < Bs ^ N := Nat.lt_of_lt_of_le hV (Nat.pow_le_pow_right Bs_pos hj)
  have e : sc V g N = V * g / Bs ^ N := by unfold sc; rw [Nat.mod_eq_of_lt hV', Nat.mul_comm]
  rw [e]
  unfold cy
  rw [Nat.mod_eq_of_lt hD]
  by_cases hp : V * g < Bs ^ N
  · rw [Nat.mod_eq_of_lt hp, Nat.div_eq_of_lt hp]
    have h1 := Nat.div_add_mod (D + V * g) (Bs ^ N)
    rw [h] at h1
    constructor
    · intro hu
      left
      refine Nat.pos_of_ne_zero fun h0 => ?_
      rw [h0] at h1
      omega
    · rintro (h2 | h2)
      · have : Bs ^ N * 1 ≤ Bs ^ N * ((D + V * g) / Bs ^ N) := Nat.mul_le_mul_left _ h2
        omega
      · omega
  · have h2 : 0 < V * g / Bs ^ N := Nat.div_pos (by omega) (Bp_pos N)
    exact ⟨fun _ => .inr h2, fun _ => by omega⟩
theorem dm_get' {a b q K : Nat} (hb : b < Bs ^ K) : (dm a b q K).getD q (.int .u32 0) = .int .u32 (dgt b q : Int) := by
  by_cases hq : q < K
  · exact dm_get hq
  · rw [dgt_top hb (by omega)]
    simp [dm, List.getD_eq_getElem?_getD, hq]
end Go.Proofs.YtdhgdpcmdmgchaaGreat.Fw

/- Long division, in plain Lean. Conditions: none. -/
namespace Go.Proofs.YtdhgdpcmdmgchaaGreat.Fw
open Go

theorem toNat_s1 {a : Nat} : ((a : Int) - 1).toNat = a - 1 := by omega
theorem toNat_s2 {a : Nat} : ((a : Int) - 2).toNat = a - 2 := by omega
theorem toNat_as1 {a b : Nat} : ((a : Int) + b - 1).toNat = a + b - 1 := by omega
theorem toNat_as2 {a b : Nat} : ((a : Int) + b - 2).toNat = a + b - 2 := by omega
theorem toNat_aa1 {a b : Nat} : ((a : Int) + b + 1).toNat = a + b + 1 := by omega
theorem tdiv_NB {b : Nat} : Int.tdiv 1000000000 (b : Int) = ((1000000000 / b : Nat) : Int) := (Int.ofNat_tdiv 1000000000 b).symm

/-- A number's leading limb. -/
theorem nd_ge {b : Nat} (h : b ≠ 0) : Bs ^ (nd b - 1) ≤ b := by
  by_cases hb : Bs ^ (nd b - 1) ≤ b
  · exact hb
  · have := nd_le (Nat.lt_of_not_le hb)
    have : nd b ≠ 0 := fun h0 => h (nd_eq_zero.1 h0)
    omega
theorem top_div {b n : Nat} (h : b < Bs ^ (n + 1)) : dgt b n = b / Bs ^ n := by
  unfold dgt
  refine Nat.mod_eq_of_lt ((Nat.div_lt_iff_lt_mul (Bp_pos n)).2 ?_)
  rwa [Nat.mul_comm, ← Nat.pow_succ]
theorem top_pos {b n : Nat} (h : nd b = n + 1) : 0 < dgt b n := by
  have h1 := nd_lt b
  have h2 : Bs ^ n ≤ b := by
    have := nd_ge (b := b) (fun h0 => by rw [h0, nd_zero] at h; omega)
    rwa [h] at this
  rw [h] at h1
  rw [top_div h1]
  exact Nat.div_pos h2 (Bp_pos n)
/-- The scaled divisor has as many limbs. -/
theorem scaled {b n : Nat} (h : nd b = n + 1) : 0 < Bs / (dgt b n + 1) ∧ Bs / (dgt b n + 1) < Bs ∧ b * (Bs / (dgt b n + 1)) < Bs ^ (n + 1) ∧ nd (b * (Bs / (dgt b n + 1))) = n + 1 := by
  have h0 := dgt_lt b n
  have hp := top_pos h
  have hb0 : b ≠ 0 := fun h0 => by rw [h0, nd_zero] at h; omega
  have hs : 0 < Bs / (dgt b n + 1) := Nat.div_pos (by simp only [Bs]; omega) (by omega)
  have hs2 : Bs / (dgt b n + 1) < Bs := Nat.div_lt_self Bs_pos (by omega)
  have hlt : b * (Bs / (dgt b n + 1)) < Bs ^ (n + 1) := by
    have h1 := nd_lt b
    rw [h] at h1
    have h2 : b < (dgt b n + 1) * Bs ^ n := by
      rw [top_div h1]
      have := Nat.lt_div_mul_add (a := b) (Bp_pos n)
      rw [Nat.add_mul, Nat.one_mul]; exact this
    have h3 : (dgt b n + 1) * (Bs / (dgt b n + 1)) ≤ Bs := Nat.mul_div_le _ _
    calc b * (Bs / (dgt b n + 1)) < (dgt b n + 1) * Bs ^ n * (Bs / (dgt b n + 1)) := Nat.mul_lt_mul_of_pos_right h2 hs
      _ = (dgt b n + 1) * (Bs / (dgt b n + 1)) * Bs ^ n := by rw [Nat.mul_right_comm]
      _ ≤ Bs * Bs ^ n := Nat.mul_le_mul_right _ h3
      _ = Bs ^ (n + 1) := by rw [Nat.pow_succ, Nat.mul_comm]
  refine ⟨hs, hs2, hlt, ?_⟩
  have h4 := nd_le hlt
  by_cases h5 : nd (b * (Bs / (dgt b n + 1))) = n + 1
  · exact h5
  · have h6 := nd_lt (b * (Bs / (dgt b n + 1)))
    have h7 : nd b ≤ nd (b * (Bs / (dgt b n + 1))) := nd_le (Nat.lt_of_le_of_lt (Nat.le_mul_of_pos_right b hs) h6)
    omega
theorem du_grow {m k : Nat} (h : m < Bs ^ k) : du m k ++ [.int .u32 0] = du m (k + 1) := by
  rw [du_succ, dgt_top h (Nat.le_refl _)]; rfl

/-- What is left of X behind limb i. -/
def rem (X V i : Nat) : Nat := (X / Bs ^ i % V) * Bs ^ i + X % Bs ^ i
theorem rem_zero (X V : Nat) : rem X V 0 = X % V := by simp [rem, Nat.mod_one]
theorem rem_start {X V K : Nat} (h : X / Bs ^ K < V) : rem X V K = X := by
  unfold rem
  rw [Nat.mod_eq_of_lt h, Nat.mul_comm]
  exact Nat.div_add_mod X (Bs ^ K)
theorem rem_lt {X V N i : Nat} (hV0 : 0 < V) (hV : V < Bs ^ N) : rem X V i < Bs ^ (i + N) := by
  unfold rem
  have h1 := Nat.mod_lt (X / Bs ^ i) hV0
  have h2 := Nat.mod_lt X (Bp_pos i)
  have h3 : (X / Bs ^ i % V + 1) * Bs ^ i ≤ Bs ^ N * Bs ^ i := Nat.mul_le_mul_right _ (by omega)
  rw [Nat.add_mul, Nat.one_mul, Nat.mul_comm (Bs ^ N), ← Nat.pow_add] at h3
  omega
/-- The window of a step. -/
def win (X V i : Nat) : Nat := X / Bs ^ (i + 1) % V * Bs + dgt X i
theorem rem_div (X V i : Nat) : rem X V (i + 1) / Bs ^ i = win X V i := by
  unfold rem win
  rw [mod_step, Nat.pow_succ, Nat.mul_comm (Bs ^ i) Bs, ← Nat.mul_assoc, Nat.mul_comm (X / (Bs * Bs ^ i) % V * Bs), Nat.add_left_comm, ← Nat.mul_add, Nat.add_mul_div_left _ _ (Bp_pos i), Nat.div_eq_of_lt (Nat.mod_lt _ (Bp_pos i)), Nat.zero_add]
theorem rem_mod (X V i : Nat) : rem X V (i + 1) % Bs ^ i = X % Bs ^ i := by
  unfold rem
  rw [mod_step, Nat.pow_succ, Nat.mul_comm (Bs ^ i) Bs, ← Nat.mul_assoc, Nat.mul_comm (X / (Bs * Bs ^ i) % V * Bs), Nat.add_left_comm, ← Nat.mul_add, Nat.add_mul_mod_self_left, Nat.mod_mod]
theorem win_lt {X V i : Nat} (hV0 : 0 < V) : win X V i < V * Bs := by
  unfold win
  have h1 := Nat.mod_lt (X / Bs ^ (i + 1)) hV0
  have h2 := dgt_lt X i
  have h3 : (X / Bs ^ (i + 1) % V + 1) * Bs ≤ V * Bs := Nat.mul_le_mul_right _ h1
  rw [Nat.add_mul, Nat.one_mul] at h3
  simp only [Bs] at *
  omega
theorem rem_next (X V i : Nat) : rem X V i = X % Bs ^ i + (win X V i % V) * Bs ^ i := by
  unfold rem win
  rw [bw_rest, Nat.add_comm]
theorem dgt_shift (m i p : Nat) : dgt m (i + p) = dgt (m / Bs ^ i) p := by
  unfold dgt
  rw [Nat.div_div_eq_div_mul, Nat.pow_add]
theorem du_window {U i p M : Nat} (h : i + p ≤ M) : seg i p (du U M) = du (U / Bs ^ i) p := by
  apply List.ext_getElem
  · simp [seg, du]; omega
  · intro r h1 h2
    have hr : r < p := by simpa [du] using h2
    simp only [seg, du, List.getElem_take, List.getElem_drop, List.getElem_map, List.getElem_range]
    rw [dgt_shift]
theorem dgt_low {L H i r : Nat} (hr : r < i) : dgt (L + H * Bs ^ i) r = dgt L r := by
  rw [← dg_mod hr, Nat.add_mul_mod_self_right, dg_mod hr]
theorem dgt_high {L H i r : Nat} (hL : L < Bs ^ i) : dgt (L + H * Bs ^ i) (i + r) = dgt H r := by
  rw [dgt_shift, Nat.add_mul_div_right _ _ (Bp_pos i), Nat.div_eq_of_lt hL, Nat.zero_add]
theorem du_put {U D i p M : Nat} (hD : D < Bs ^ p) (hU : U < Bs ^ (i + p)) (h : i + p ≤ M) : splice i (du D p) (du U M) = du (U % Bs ^ i + D * Bs ^ i) M := by
  apply List.ext_getElem
  · simp [splice, du]; omega
  · intro r h1 h2
    have hr : r < M := by simpa [du] using h2
    have hlen : (du D p).length = p := du_len _ _
    simp only [splice, du_len]
    by_cases h3 : r < i
    · rw [List.getElem_append_left (by simp [du]; omega), List.getElem_append_left (by simp [du]; omega)]
      simp only [du, List.getElem_take, List.getElem_map, List.getElem_range]
      rw [dgt_low h3, dg_mod h3]
    · obtain ⟨q, rfl⟩ : ∃ q, r = i + q := ⟨r - i, by omega⟩
      by_cases h4 : q < p
      · rw [List.getElem_append_left (by simp [du]; omega), List.getElem_append_right (by simp [du]; omega)]
        simp only [du, List.getElem_map, List.getElem_range]
        rw [dgt_high (Nat.mod_lt _ (Bp_pos i))]
        simp [Nat.min_eq_left (show i ≤ M by omega)]
      · rw [List.getElem_append_right (by simp [du]; omega)]
        simp only [du, List.getElem_drop, List.getElem_map, List.getElem_range]
        rw [dgt_high (Nat.mod_lt _ (Bp_pos i)), dgt_top hD (by omega), dgt_top hU (by simp)]

theorem du_flat (m k : Nat) : (du m k).all L.flat = true := by
  simp [du, L.flat]
theorem rowCells_du {U M off p st : Nat} (h : off + p ≤ M) : rowCells ⟨1, M, du U M, st⟩ off p = du (U / Bs ^ off) p := by
  unfold rowCells
  split
  · rename_i e
    obtain ⟨rfl, rfl⟩ := e
    simp
  · simp only [Nat.mul_one]
    exact du_window h

/-! ### one step's blocks -/
theorem low_high {X D i : Nat} : (X % Bs ^ i + D * Bs ^ i) % Bs ^ i = X % Bs ^ i ∧ (X % Bs ^ i + D * Bs ^ i) / Bs ^ i = D := by
  have h := Nat.mod_lt X (Bp_pos i)
  rw [Nat.add_mul_mod_self_right, Nat.mod_mod, Nat.add_mul_div_right _ _ (Bp_pos i), Nat.div_eq_of_lt h, Nat.zero_add]
  exact ⟨rfl, rfl⟩
theorem low_high_lt {X D i p : Nat} (hD : D < Bs ^ p) : X % Bs ^ i + D * Bs ^ i < Bs ^ (i + p) := by
  have h := Nat.mod_lt X (Bp_pos i)
  have h2 : (D + 1) * Bs ^ i ≤ Bs ^ p * Bs ^ i := Nat.mul_le_mul_right _ hD
  rw [Nat.add_mul, Nat.one_mul, Nat.mul_comm (Bs ^ p), ← Nat.pow_add] at h2
  omega
theorem blk_set {X V N i M D : Nat} (hV0 : 0 < V) (hV : V < Bs ^ N) (hM : i + (N + 1) ≤ M) (hD : D < Bs ^ (N + 1)) : splice i (du D (N + 1)) (du (rem X V (i + 1)) M) = du (X % Bs ^ i + D * Bs ^ i) M := by
  have h := rem_lt (X := X) (i := i + 1) hV0 hV
  rw [du_put hD (by rwa [show i + (N + 1) = i + 1 + N by omega]) hM, rem_mod]
theorem blk_get {X N i M D st : Nat} (hM : i + (N + 1) ≤ M) : rowCells ⟨1, M, du (X % Bs ^ i + D * Bs ^ i) M, st⟩ i (N + 1) = du D (N + 1) := by
  rw [rowCells_du hM, low_high.2]
theorem blk_fin {X V i M : Nat} : du (X % Bs ^ i + (win X V i % V) * Bs ^ i) M = du (rem X V i) M := by rw [rem_next]
theorem blk_rest {X V N i M D : Nat} (hV0 : 0 < V) (hV : V < Bs ^ N) (hM : i + (N + 1) ≤ M) (hD : D < Bs ^ (N + 1)) : splice i (du (win X V i % V) (N + 1)) (du (X % Bs ^ i + D * Bs ^ i) M) = du (rem X V i) M := by
  have hm : win X V i % V < Bs ^ (N + 1) := Nat.lt_trans (Nat.mod_lt _ hV0) (Nat.lt_trans hV (Nat.pow_lt_pow_right (by decide) (Nat.lt_succ_self _)))
  rw [du_put hm (low_high_lt hD) hM, low_high.1, rem_next]
/-- The window's digit is right, or one too great. -/
theorem step_cases {W V g N : Nat} (hV0 : 0 < V) (hV : V < Bs ^ N) (hW : W < V * Bs) (h1 : W / V ≤ g) (h2 : g ≤ W / V + 1) :
    (g = W / V ∧ ¬ W < V * g ∧ (W % V + V * g) % Bs ^ (N + 1) = W) ∨
    (g = W / V + 1 ∧ W < V * g ∧ ∃ D, D < Bs ^ (N + 1) ∧ (D + V * g) % Bs ^ (N + 1) = W ∧ du (D + V) (N + 1) = du (W % V) (N + 1)) := by
  have hWB : W < Bs ^ (N + 1) := by
    have : V * Bs ≤ Bs ^ N * Bs := Nat.mul_le_mul_right _ (Nat.le_of_lt hV)
    rw [← Nat.pow_succ] at this
    exact Nat.lt_of_lt_of_le hW this
  have hdm := Nat.div_add_mod W V
  have hm := Nat.mod_lt W hV0
  rcases Nat.lt_or_ge (W / V) g with h3 | h3
  · obtain rfl : g = W / V + 1 := Nat.le_antisymm h2 h3
    refine .inr ⟨rfl, ?_, Bs ^ (N + 1) + W % V - V, ?_, ?_, ?_⟩
    · rw [Nat.mul_add, Nat.mul_one]; omega
    · omega
    · have hVB : V < Bs ^ (N + 1) := Nat.lt_trans hV (Nat.pow_lt_pow_right (by decide) (Nat.lt_succ_self _))
      have e : Bs ^ (N + 1) + W % V - V + V * (W / V + 1) = W + Bs ^ (N + 1) := by rw [Nat.mul_add, Nat.mul_one]; omega
      rw [e, Nat.add_mod_right, Nat.mod_eq_of_lt hWB]
    · have hVB : V < Bs ^ (N + 1) := Nat.lt_trans hV (Nat.pow_lt_pow_right (by decide) (Nat.lt_succ_self _))
      refine du_congr ?_
      rw [show Bs ^ (N + 1) + W % V - V + V = W % V + Bs ^ (N + 1) by omega, Nat.add_mod_right]
  · obtain rfl : g = W / V := Nat.le_antisymm h3 h1
    refine .inl ⟨rfl, by omega, ?_⟩
    rw [Nat.add_comm, hdm, Nat.mod_eq_of_lt hWB]

/-! ### the estimate -/

theorem est_top {W N : Nat} (hW : W < Bs ^ (N + 2)) : dgt W (N + 1) * Bs + dgt W N = W / Bs ^ N := by
  rw [div_step W N, top_div hW]
theorem est_sub {W N : Nat} : W / Bs ^ (N + 1) * Bs + dgt W N = W / Bs ^ N := (div_step W N).symm

structure Est (W V N g r : Nat) : Prop where
  q : W / V ≤ g
  s : g * dgt V (N + 1) + r = W / Bs ^ (N + 1)

section
variable {W V N g r : Nat}
theorem est_v (hV : V < Bs ^ (N + 2)) : dgt V (N + 1) = V / Bs ^ (N + 1) := top_div hV
theorem est_vv (hV : V < Bs ^ (N + 2)) : dgt V (N + 1) * Bs + dgt V N = V / Bs ^ N := by rw [est_v hV]; exact est_sub

theorem est_start (hV : V < Bs ^ (N + 2)) (h1 : 0 < dgt V (N + 1)) : Est W V N (W / Bs ^ (N + 1) / dgt V (N + 1)) (W / Bs ^ (N + 1) % dgt V (N + 1)) := by
  refine ⟨?_, by rw [Nat.mul_comm]; exact Nat.div_add_mod _ _⟩
  rw [est_v hV] at h1 ⊢
  refine (Nat.le_div_iff_mul_le h1).2 ?_
  refine (Nat.le_div_iff_mul_le (Bp_pos _)).2 ?_
  calc W / V * (V / Bs ^ (N + 1)) * Bs ^ (N + 1) = W / V * (V / Bs ^ (N + 1) * Bs ^ (N + 1)) := Nat.mul_assoc _ _ _
    _ ≤ W / V * V := Nat.mul_le_mul_left _ (Nat.div_mul_le_self _ _)
    _ ≤ W := Nat.div_mul_le_self _ _

theorem est_bound (hV : V < Bs ^ (N + 2)) (h1 : 0 < dgt V (N + 1)) (hW : W < V * Bs) (h : Est W V N g r) : g < 2000000000 ∧ W / Bs ^ (N + 1) < 1000000000000000000 := by
  have h2 : W / Bs ^ (N + 1) < (dgt V (N + 1) + 1) * Bs := by
    rw [est_v hV]
    refine (Nat.div_lt_iff_lt_mul (Bp_pos _)).2 ?_
    have h3 : V < (V / Bs ^ (N + 1) + 1) * Bs ^ (N + 1) := by
      rw [Nat.add_mul, Nat.one_mul]; exact Nat.lt_div_mul_add (Bp_pos _)
    have h4 : V * Bs ≤ (V / Bs ^ (N + 1) + 1) * Bs ^ (N + 1) * Bs := Nat.mul_le_mul_right _ (Nat.le_of_lt h3)
    rw [Nat.mul_right_comm] at h4
    omega
  have h5 := h.s
  have h6 := dgt_lt V (N + 1)
  constructor
  · by_cases hg : g < 2000000000
    · exact hg
    · have h7 : 2000000000 * dgt V (N + 1) ≤ g * dgt V (N + 1) := Nat.mul_le_mul_right _ (by omega)
      have h2' : W / Bs ^ (N + 1) < (dgt V (N + 1) + 1) * 1000000000 := h2
      omega
  · have h2' : W / Bs ^ (N + 1) < (dgt V (N + 1) + 1) * 1000000000 := h2
    omega

/-- One less is still enough. -/
theorem est_less (hV : V < Bs ^ (N + 2)) (hV0 : 0 < V) (hW : W < V * Bs) (h : Est W V N g r) (hc : Bs ≤ g ∨ r * Bs + dgt W N < g * dgt V N) : 0 < g ∧ Est W V N (g - 1) (r + dgt V (N + 1)) := by
  have hq : W / V < g := by
    rcases hc with hc | hc
    · have h1 : W < Bs * V := by rw [Nat.mul_comm]; exact hW
      exact Nat.lt_of_lt_of_le ((Nat.div_lt_iff_lt_mul hV0).2 h1) hc
    · apply (Nat.div_lt_iff_lt_mul hV0).2
      have h1 : W / Bs ^ N < g * (V / Bs ^ N) := by
        have e4 : W / Bs ^ N = g * dgt V (N + 1) * Bs + r * Bs + dgt W N := by rw [← est_sub (W := W) (N := N), ← h.s, Nat.add_mul]
        have e5 : g * (V / Bs ^ N) = g * dgt V (N + 1) * Bs + g * dgt V N := by rw [← est_vv hV, Nat.mul_add, ← Nat.mul_assoc]
        rw [e4, e5, Nat.add_assoc]
        exact Nat.add_lt_add_left hc _
      have h2 : W < g * (V / Bs ^ N) * Bs ^ N := by
        clear hc
        exact (Nat.div_lt_iff_lt_mul (Bp_pos N)).1 h1
      have h3 : g * (V / Bs ^ N) * Bs ^ N ≤ g * V := by
        rw [Nat.mul_assoc]; exact Nat.mul_le_mul_left _ (Nat.div_mul_le_self _ _)
      omega
  have h1 := h.s
  refine ⟨Nat.lt_of_le_of_lt (Nat.zero_le _) hq, ⟨Nat.le_sub_one_of_lt hq, ?_⟩⟩
  have hg0 : 0 < g := Nat.lt_of_le_of_lt (Nat.zero_le _) hq
  obtain ⟨g', rfl⟩ : ∃ g', g = g' + 1 := ⟨g - 1, by omega⟩
  rw [Nat.add_sub_cancel, ← h1, Nat.add_mul]
  omega

/-- The estimate is at most one too great. -/
theorem est_end (hV : V < Bs ^ (N + 2)) (h1 : 0 < dgt V (N + 1)) (hW : W < V * Bs) (h : Est W V N g r) (hc : (g < Bs ∧ g * dgt V N ≤ r * Bs + dgt W N) ∨ Bs ≤ r) : g < 1000000000 ∧ W / V ≤ g ∧ g ≤ W / V + 1 := by
  have h0 := h.s
  have hd := dgt_lt V N
  have hg : g < Bs := by
    rcases hc with hc | hc
    · exact hc.1
    · have h2 : W / Bs ^ (N + 1) < (dgt V (N + 1) + 1) * Bs := by
        rw [est_v hV]
        refine (Nat.div_lt_iff_lt_mul (Bp_pos _)).2 ?_
        have h3 : V < (V / Bs ^ (N + 1) + 1) * Bs ^ (N + 1) := by
          rw [Nat.add_mul, Nat.one_mul]; exact Nat.lt_div_mul_add (Bp_pos _)
        have h4 : V * Bs ≤ (V / Bs ^ (N + 1) + 1) * Bs ^ (N + 1) * Bs := Nat.mul_le_mul_right _ (Nat.le_of_lt h3)
        rw [Nat.mul_right_comm] at h4
        omega
      rw [Nat.add_mul, Nat.one_mul] at h2
      have h3 : g * dgt V (N + 1) < Bs * dgt V (N + 1) := by rw [Nat.mul_comm Bs]; omega
      exact Nat.lt_of_mul_lt_mul_right h3
  have hT : g * dgt V N ≤ r * Bs + dgt W N := by
    rcases hc with hc | hc
    · exact hc.2
    · have h2 : g * dgt V N ≤ Bs * Bs := Nat.mul_le_mul (Nat.le_of_lt hg) (by simp only [Bs]; omega)
      have h3 : Bs * Bs ≤ r * Bs := Nat.mul_le_mul_right _ hc
      omega
  refine ⟨by simpa using hg, h.q, ?_⟩
  have hV0 : 0 < V := by
    refine Nat.pos_of_ne_zero fun h0 => ?_
    rw [h0, dgt_zero] at h1; omega
  have hTT : g * (V / Bs ^ N) ≤ W / Bs ^ N := by
    have e4 : W / Bs ^ N = g * dgt V (N + 1) * Bs + r * Bs + dgt W N := by rw [← est_sub (W := W) (N := N), ← h0, Nat.add_mul]
    have e5 : g * (V / Bs ^ N) = g * dgt V (N + 1) * Bs + g * dgt V N := by rw [← est_vv hV, Nat.mul_add, ← Nat.mul_assoc]
    rw [e4, e5, Nat.add_assoc]
    exact Nat.add_le_add_left hT _
  have h5 : g * (V / Bs ^ N) * Bs ^ N ≤ W := (Nat.le_div_iff_mul_le (Bp_pos N)).1 hTT
  have h6 : V < (V / Bs ^ N + 1) * Bs ^ N := by
    rw [Nat.add_mul, Nat.one_mul]; exact Nat.lt_div_mul_add (Bp_pos _)
  have h7 : Bs ^ (N + 1) ≤ V := by
    rw [est_v hV] at h1
    exact (Nat.div_pos_iff.1 h1).2
  have h8 : g * Bs ^ N ≤ Bs ^ (N + 1) := by
    rw [Nat.pow_succ, Nat.mul_comm (Bs ^ N)]; exact Nat.mul_le_mul_right _ (Nat.le_of_lt hg)
  have h9 : g * V ≤ g * ((V / Bs ^ N + 1) * Bs ^ N) := Nat.mul_le_mul_left _ (Nat.le_of_lt h6)
  have h10 : g * ((V / Bs ^ N + 1) * Bs ^ N) = g * (V / Bs ^ N) * Bs ^ N + g * Bs ^ N := by
    rw [Nat.add_mul, Nat.one_mul, Nat.mul_add, Nat.mul_assoc]
  have h11 : g * V ≤ W + V := by omega
  have h12 : (g - 1) * V ≤ W := by rw [Nat.sub_mul, Nat.one_mul]; omega
  have := (Nat.le_div_iff_mul_le hV0).2 h12
  omega
end
end Go.Proofs.YtdhgdpcmdmgchaaGreat.Fw
