/- Plain facts on integers: remainders, greatest common divisors, powers and inverses modulo m. No program in sight. -/
import Derived.Lib.Hide
namespace Go.Proofs.Yteeinbcajdpenaa

theorem tmod_bd (a m : Int) (h3 : 1 ≤ m) : -m < a.tmod m ∧ a.tmod m < m := by
  have h5 := Int.tmod_lt_of_pos a (show 0 < m by omega)
  have h := @Int.tmod_eq_emod a m
  have h6 := Int.emod_nonneg a (show m ≠ 0 by omega)
  have h7 := Int.emod_lt_of_pos a (show 0 < m by omega)
  refine ⟨?_, h5⟩
  split at h
  · omega
  · rename_i hh
    have : a % m ≠ 0 := fun e => hh (.inr (Int.dvd_of_emod_eq_zero e))
    omega

theorem tmod_alt (a m : Int) (h3 : 1 ≤ m) : (0 ≤ a.tmod m ∧ a.tmod m = a % m) ∨ (a.tmod m < 0 ∧ a.tmod m = a % m - m) := by
  have h := @Int.tmod_eq_emod a m
  have h6 := Int.emod_nonneg a (show m ≠ 0 by omega)
  have h7 := Int.emod_lt_of_pos a (show 0 < m by omega)
  split at h
  · left; constructor <;> omega
  · right; constructor <;> omega

theorem tmod_res (a m : Int) (h3 : 1 ≤ m) : (a.tmod m + m) % m = a % m := by
  rcases tmod_alt a m h3 with ⟨_, h⟩ | ⟨_, h⟩
  · rw [h]; simp
  · rw [h]; simp

theorem gcd_tmod (x y : Int) : Int.gcd y (x.tmod y) = Int.gcd x y := by
  unfold Int.gcd
  rw [Int.natAbs_tmod, Nat.gcd_comm, ← Nat.gcd_rec, Nat.gcd_comm]

theorem natAbs_tmod_lt (x y : Int) (h : y ≠ 0) : (x.tmod y).natAbs < y.natAbs := by
  rw [Int.natAbs_tmod]
  exact Nat.mod_lt _ (by omega)

theorem tmod_abs_le (x y B : Int) (h : y ≠ 0) (h1 : -B ≤ y) (h2 : y ≤ B) : -B ≤ x.tmod y ∧ x.tmod y ≤ B := by
  have := natAbs_tmod_lt x y h
  omega

theorem emod_bd (a m : Int) (h : 1 ≤ m) : 0 ≤ a % m ∧ a % m < m := ⟨Int.emod_nonneg _ (by omega), Int.emod_lt_of_pos _ (by omega)⟩

theorem mul_bd {x y A B : Int} (h1 : 0 ≤ x) (h2 : x ≤ A) (h3 : 0 ≤ y) (h4 : y ≤ B) : 0 ≤ x * y ∧ x * y ≤ A * B :=
  ⟨Int.mul_nonneg h1 h3, Int.mul_le_mul h2 h4 h3 (by omega)⟩

theorem dvdL {m a : Int} (h : m ∣ a) (x : Int) : m ∣ a * x := Int.dvd_mul_of_dvd_left h
theorem dvdR {m a : Int} (h : m ∣ a) (x : Int) : m ∣ x * a := Int.dvd_mul_of_dvd_right h

/-! ### powers modulo m -/
theorem mul_emod_r (a b m : Int) : a * (b % m) % m = a * b % m := by
  rw [Int.mul_emod, Int.emod_emod_of_dvd _ (Int.dvd_refl m), ← Int.mul_emod]
theorem mul_emod_l (a b m : Int) : a % m * b % m = a * b % m := by
  rw [Int.mul_comm, mul_emod_r, Int.mul_comm]
theorem pow_emod (a m : Int) : ∀ k : Nat, (a % m) ^ k % m = a ^ k % m
  | 0 => by simp
  | k + 1 => by rw [Int.pow_succ, Int.pow_succ, mul_emod_r, ← mul_emod_l, pow_emod a m k, mul_emod_l]
theorem pow_half_even (b : Int) (e : Nat) (h : e % 2 = 0) : b ^ e = (b * b) ^ (e / 2) := by
  have : e = 2 * (e / 2) := by omega
  conv => lhs; rw [this, Int.pow_mul]
  rw [Int.pow_succ, Int.pow_succ, Int.pow_zero, Int.one_mul]
theorem pow_half_odd (b : Int) (e : Nat) (h : e % 2 = 1) : b ^ e = b * (b * b) ^ (e / 2) := by
  have : e = 2 * (e / 2) + 1 := by omega
  conv => lhs; rw [this, Int.pow_succ, Int.pow_mul]
  rw [Int.pow_succ, Int.pow_succ, Int.pow_zero, Int.one_mul, Int.mul_comm]
theorem pow_step_even (o b m : Int) (e : Nat) (h : e % 2 = 0) : o * (b * b % m) ^ (e / 2) % m = o * b ^ e % m := by
  rw [pow_half_even b e h, ← mul_emod_r, pow_emod, mul_emod_r]
theorem pow_step_odd (o b m : Int) (e : Nat) (h : e % 2 = 1) : (o * b % m) * (b * b % m) ^ (e / 2) % m = o * b ^ e % m := by
  rw [pow_half_odd b e h, mul_emod_l, ← mul_emod_r, pow_emod, mul_emod_r, Int.mul_assoc]

/-! ### the inverse modulo m -/
def IsInv (a m x : Int) : Prop := 0 ≤ x ∧ x < m ∧ m ∣ a * x - 1
noncomputable def minv (a m : Int) : Int := Classical.epsilon (IsInv a m)
theorem eq_of_dvd_sub {m x y : Int} (hx : 0 ≤ x) (hx' : x < m) (hy : 0 ≤ y) (hy' : y < m) (h : m ∣ x - y) : x = y := by
  obtain ⟨k, hk⟩ := h
  have h1 : -1 < k := by
    refine Int.lt_of_mul_lt_mul_left (a := m) ?_ (by omega)
    omega
  have h2 : k < 1 := by
    refine Int.lt_of_mul_lt_mul_left (a := m) ?_ (by omega)
    omega
  have : k = 0 := by omega
  rw [this] at hk
  omega
theorem IsInv.congr {a b m x : Int} (h : IsInv a m x) (hab : m ∣ a - b) : IsInv b m x := by
  refine ⟨h.1, h.2.1, ?_⟩
  have h1 := dvdL hab x
  have h2 := Int.dvd_sub h.2.2 h1
  have : a * x - 1 - (a - b) * x = b * x - 1 := by rw [Int.sub_mul]; omega
  rwa [this] at h2
theorem IsInv.unique {a m x y : Int} (h : IsInv a m x) (k : IsInv a m y) : x = y := by
  refine eq_of_dvd_sub h.1 h.2.1 k.1 k.2.1 ?_
  have h1 := dvdL h.2.2 y
  have h2 := dvdL k.2.2 x
  have h3 := Int.dvd_sub h2 h1
  have : (a * y - 1) * x - (a * x - 1) * y = -(x - y) := by grind
  rw [this] at h3
  exact Int.dvd_neg.1 h3
theorem minv_eq {a m x : Int} (h : IsInv a m x) : minv a m = x :=
  (Classical.epsilon_spec (p := IsInv a m) ⟨x, h⟩).unique h
theorem minv_spec {a m x : Int} (h : IsInv a m x) : IsInv a m (minv a m) := by rw [minv_eq h]; exact h
theorem minv_congr {a b m x : Int} (h : IsInv a m x) (hab : m ∣ a - b) : minv a m = minv b m := by
  rw [minv_eq h, minv_eq (h.congr hab)]
theorem IsInv.gcd {a m x : Int} (h : IsInv a m x) : Int.gcd a m = 1 := by
  have h1 : (Int.gcd a m : Int) ∣ a := Int.gcd_dvd_left _ _
  have h2 : (Int.gcd a m : Int) ∣ m := Int.gcd_dvd_right _ _
  have h3 := Int.dvd_sub (dvdL h1 x) (Int.dvd_trans h2 h.2.2)
  have : a * x - (a * x - 1) = 1 := by omega
  rw [this] at h3
  have := Int.eq_one_of_dvd_one (by omega) h3
  omega

/-! ### the extended algorithm of Euclid -/
structure Eucl (a m r s x y : Int) : Prop where
  r1 : 1 ≤ r
  s0 : 0 ≤ s
  rm : r ≤ m
  sm : s ≤ m
  dx : m ∣ a * x - r
  dy : m ∣ a * y - s
  g : Int.gcd r s = Int.gcd a m
  sg : (x ≤ 0 ∧ 0 ≤ y ∧ -x * s + y * r = m) ∨ (0 ≤ x ∧ y ≤ 0 ∧ x * s + -y * r = m)
  xl : -m ≤ x
  xh : x ≤ m
theorem Eucl.start {a m : Int} (h1 : 0 ≤ a) (h2 : a < m) : Eucl a m m a 0 1 :=
  ⟨by omega, h1, by omega, by omega, ⟨-1, by omega⟩, ⟨0, by omega⟩, Int.gcd_comm _ _, .inl ⟨by omega, by omega, by omega⟩, by omega, by omega⟩
theorem Eucl.yb {a m r s x y : Int} (h : Eucl a m r s x y) : -m ≤ y ∧ y ≤ m := by
  have h1 := h.r1
  rcases h.sg with ⟨hx, hy, he⟩ | ⟨hx, hy, he⟩
  · have : y * 1 ≤ y * r := Int.mul_le_mul_of_nonneg_left h1 hy
    have := Int.mul_nonneg (show 0 ≤ -x by omega) h.s0
    omega
  · have : -y * 1 ≤ -y * r := Int.mul_le_mul_of_nonneg_left h1 (by omega)
    have := Int.mul_nonneg hx h.s0
    omega
theorem Eucl.step {a m r s x y : Int} (h : Eucl a m r s x y) (hs : s ≠ 0) : Eucl a m s (r - r / s * s) y (x - r / s * y) := by
  have hs0 := h.s0
  have hr1 := h.r1
  have hq : 0 ≤ r / s := Int.ediv_nonneg (by omega) hs0
  have hm : r - r / s * s = r % s := by have := Int.emod_add_mul_ediv r s; rw [Int.mul_comm] at this; omega
  have h5 := emod_bd r s (by omega)
  have hyb := h.yb
  refine ⟨by omega, by omega, h.sm, by have := h.sm; omega, h.dy, ?_, ?_, ?_, hyb.1, hyb.2⟩
  · have h1 := Int.dvd_sub h.dx (dvdR h.dy (r / s))
    have : a * x - r - r / s * (a * y - s) = a * (x - r / s * y) - (r - r / s * s) := by
      rw [Int.mul_sub, Int.mul_sub, Int.mul_left_comm]; omega
    rwa [this] at h1
  · rw [hm, ← h.g]
    have := gcd_tmod r s
    rwa [Int.tmod_eq_emod_of_nonneg (by omega)] at this
  · rcases h.sg with ⟨hx, hy, he⟩ | ⟨hx, hy, he⟩
    · right
      have hy2 := Int.mul_nonneg hq hy
      refine ⟨hy, by omega, ?_⟩
      have : y * (r - r / s * s) + -(x - r / s * y) * s = -x * s + y * r := by grind
      omega
    · left
      have hy2 := Int.mul_nonneg hq (show 0 ≤ -y by omega)
      rw [Int.mul_neg] at hy2
      refine ⟨hy, by omega, ?_⟩
      have : -y * (r - r / s * s) + (x - r / s * y) * s = x * s + -y * r := by grind
      omega
theorem Eucl.qb {a m r s x y : Int} (h : Eucl a m r s x y) (hs : s ≠ 0) : -(2 * m) ≤ r / s * y ∧ r / s * y ≤ 2 * m ∧ 0 ≤ r / s * s ∧ r / s * s ≤ r ∧ 0 ≤ r / s ∧ r / s ≤ r := by
  have h1 := (h.step hs).yb
  have h2 := h.xl
  have h3 := h.xh
  have hs0 := h.s0
  have hr1 := h.r1
  have hm : r - r / s * s = r % s := by have := Int.emod_add_mul_ediv r s; rw [Int.mul_comm] at this; omega
  have h5 := emod_bd r s (by omega)
  have h6 : 0 ≤ r / s := Int.ediv_nonneg (by omega) hs0
  have h7 : r / s * 1 ≤ r / s * s := Int.mul_le_mul_of_nonneg_left (by omega) h6
  omega
theorem Eucl.fin {a m r x y : Int} (h : Eucl a m r 0 x y) : r = Int.gcd a m := by
  have := h.g
  have h1 := h.r1
  simp at this
  omega
theorem dvd_emod_sub {m a : Int} : m ∣ a % m - a := ⟨-(a / m), by have := Int.emod_add_mul_ediv a m; rw [Int.mul_neg]; omega⟩
theorem Eucl.inv {a m x y : Int} (h : Eucl a m 1 0 x y) (hm : 1 ≤ m) : IsInv a m (x % m) := by
  have hb := emod_bd x m hm
  refine ⟨hb.1, hb.2, ?_⟩
  have h1 := Int.dvd_add (dvdR (dvd_emod_sub (m := m) (a := x)) a) h.dx
  have : a * (x % m - x) + (a * x - 1) = a * (x % m) - 1 := by rw [Int.mul_sub]; omega
  rwa [this] at h1

end Go.Proofs.Yteeinbcajdpenaa
