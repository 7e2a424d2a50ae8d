/- Plain facts on integers: remainders, greatest common divisors, powers and inverses modulo m. No program in sight. -/
import Derived.Lib.Hide
namespace Go.Proofs.Ytpkdgemnddcefaa

theorem tmod_bd (a m : Int) (h3 : 1 ≤ m) : -m < a.tmod m ∧ a.tmod m < m := by
  have h5 := Int.tmod_lt_of_pos a (show 0 < m by omega)
  have h := @Int.tmod_eq_emod a m
  have h6 := Int.emod_nonneg a (show m ≠ 0 by omega)
  have h7 := Int.emod_lt_of_pos a (show 0 < m by omega)
  refine ⟨?_, h5⟩
  split at h
  · omega
  · rename_i hh
    have : a % m ≠ 0 := fun e => hh (.inr (Int.dvd_of_emod_eq_zero e))
    omega

theorem tmod_alt (a m : Int) (h3 : 1 ≤ m) : (0 ≤ a.tmod m ∧ a.tmod m = a % m) ∨ (a.tmod m < 0 ∧ a.tmod m = a % m - m) := by
  have h := @Int.tmod_eq_emod a m
  have h6 := Int.emod_nonneg a (show m ≠ 0 by omega)
  have h7 := Int.emod_lt_of_pos a (show 0 < m by omega)
  split at h
  · left; constructor <;> omega
  · right; constructor <;> omega

theorem tmod_res (a m : Int) (h3 : 1 ≤ m) : (a.tmod m + m) % m = a % m := by
  rcases tmod_alt a m h3 with ⟨_, h⟩ | ⟨_, h⟩
  · rw [h]; simp
  · rw [h]; simp

theorem gcd_tmod (x y : Int) : Int.gcd y (x.tmod y) = Int.gcd x y := by
  unfold Int.gcd
  rw [Int.natAbs_tmod, Nat.gcd_comm, ← Nat.gcd_rec, Nat.gcd_comm]

theorem natAbs_tmod_lt (x y : Int) (h : y ≠ 0) : (x.tmod y).natAbs < y.natAbs := by
  rw [Int.natAbs_tmod]
  exact Nat.mod_lt _ (by omega)

theorem tmod_abs_le (x y B : Int) (h : y ≠ 0) (h1 : -B ≤ y) (h2 : y ≤ B) : -B ≤ x.tmod y ∧ x.tmod y ≤ B := by
  have := natAbs_tmod_lt x y h
  omega

theorem emod_bd (a m : Int) (h : 1 ≤ m) : 0 ≤ a % m ∧ a % m < m := ⟨Int.emod_nonneg _ (by omega), Int.emod_lt_of_pos _ (by omega)⟩

theorem mul_bd {x y A B : Int} (h1 : 0 ≤ x) (h2 : x ≤ A) (h3 : 0 ≤ y) (h4 : y ≤ B) : 0 ≤ x * y ∧ x * y ≤ A * B :=
  ⟨Int.mul_nonneg h1 h3, Int.mul_le_mul h2 h4 h3 (by omega)⟩

theorem dvdL {m a : Int} (h : m ∣ a) (x : Int) : m ∣ a * x := Int.dvd_mul_of_dvd_left h
theorem dvdR {m a : Int} (h : m ∣ a) (x : Int) : m ∣ x * a := Int.dvd_mul_of_dvd_right h

/-! ### powers modulo m -/
theorem mul_emod_r (a b m : Int) : a * (b % m) % m = a * b % m := by
  rw [Int.mul_emod, Int.emod_emod_of_dvd _ (Int.dvd_refl m), ← Int.mul_emod]
theorem mul_emod_l (a b m : Int) : a % m * b % m = a * b % m := by
  rw [Int.mul_comm, mul_emod_r, Int.mul_comm]
theorem pow_emod (a m : Int) : ∀ k : Nat, (a % m) ^ k % m = a ^ k % m
  | 0 => by simp
  | k + 1 => by rw [Int.pow_succ, Int.pow_succ, mul_emod_r, ← mul_emod_l, pow_emod a m k, mul_emod_l]
theorem pow_half_even (b : Int) (e : Nat) (h : e % 2 = 0) : b ^ e = (b * b) ^ (e / 2) := by
  have : e = 2 * (e / 2) := by omega
  conv => lhs; rw [this, Int.pow_mul]
  rw [Int.pow_succ, Int.pow_succ, Int.pow_zero, Int.one_mul]
theorem pow_half_odd (b : Int) (e : Nat) (h : e % 2 = 1) : b ^ e = b * (b * b) ^ (e / 2) := by
  have : e = 2 * (e / 2) + 1 := by omega
  conv => lhs; rw [this, Int.pow_succ, Int.pow_mul]
  rw [Int.pow_succ, Int.pow_succ, Int.pow_zero, Int.one_mul, Int.mul_comm]
theorem pow_step_even (o b m : Int) (e : Nat) (h : e % 2 = 0) : o * (b * b % m) ^ (e / 2) % m = o * b ^ e % m := by
  rw [pow_half_even b e h, ← mul_emod_r, pow_emod, mul_emod_r]
theorem pow_step_odd (o b m : Int) (e : Nat) (h : e % 2 = 1) : (o * b % m) * (b * b % m) ^ (e / 2) % m = o * b ^ e % m := by
  rw [pow_half_odd b e h, mul_emod_l, ← mul_emod_r, pow_emod, mul_emod_r, Int.mul_assoc]

/-! ### the inverse modulo m -/
def IsInv (a m x : Int) : Prop := 0 ≤ x ∧ x < m ∧ m ∣ a * x - 1
noncomputable def minv (a m : Int) : Int := Classical.epsilon (IsInv a m)
theorem eq_of_dvd_sub {m x y : Int} (hx : 0 ≤ x) (hx' : x < m) (hy : 0 ≤ y) (hy' : y < m) (h : m ∣ x - y) : x = y := by
  obtain ⟨k, hk⟩ := h
  have h1 : -1 < k := by
    refine Int.lt_of_mul_lt_mul_left (a := m) ?_ (by omega)
    omega
  have h2 : k < 1 := by
    refine Int.lt_of_mul_lt_mul_left (a := m) ?_ (by omega)
    omega
  have : k = 0 := by omega
  rw [this] at hk
  omega
theorem IsInv.congr {a b m x : Int} (h : IsInv a m x) (hab : m ∣ a - b) : IsInv b m x := by
  refine ⟨h.1, h.2.1, ?_⟩
  have h1 := dvdL hab x
  have h2 := Int.dvd_sub h.2.2 h1
  have : a * x - 1 - (a - b) * x = b * x - 1 := by rw [Int.sub_mul]; omega
  rwa [this] at h2
theorem IsInv.unique {a m x y : Int} (h : IsInv a m x) (k : IsInv a m y) : x = y := by
  refine eq_of_dvd_sub h.1 h.2.1 k.1 k.2.1 ?_
  have h1 := dvdL h.2.2 y
  have h2 := dvdL k.2.2 x
  have h3 := Int.dvd_sub h2 h1
  have : (a * y - 1) * x - (a * x - 1) * y = -(x - y) := by grind
  rw [this] at h3
  exact Int.dvd_neg.1 h3
theorem minv_eq {a m x : Int} (h : IsInv a m x) : minv a m = x :=
  (Classical.epsilon_spec (p := IsInv a m) ⟨x, h⟩).unique h
theorem minv_spec {a m x : Int} (h : IsInv a m x) : IsInv a m (minv a m) := by rw [minv_eq h]; exact h
theorem minv_congr {a b m x : Int} (h : IsInv a m x) (hab : m ∣ a - b) : minv a m = minv b m := by
  rw [minv_eq h, minv_eq (h.congr hab)]
theorem IsInv.gcd {a m x : Int} (h : IsInv a m x) : Int.gcd a m = 1 := by
  have h1 : (Int.gcd a m : Int) ∣ a := Int.gcd_dvd_left _ _
  have h2 : (Int.gcd a m : Int) ∣ m := Int.gcd_dvd_right _ _
  have h3 := Int.dvd_sub (dvdL h1 x) (Int.dvd_trans h2 h.2.2)
  have : a * x - (a * x - 1) = 1 := by omega
  rw [this] at h3
  have := Int.eq_one_of_dvd_one (by omega) h3
  omega

/-! ### the extended algorithm of Euclid -/
structure Eucl (a m r s x y : Int) : Prop where
  r1 : 1 ≤ r
  s0 : 0 ≤ s
  rm : r ≤ m
  sm : s ≤ m
  dx : m ∣ a * x - r
  dy : m ∣ a * y - s
  g : Int.gcd r s = Int.gcd a m
  sg : (x ≤ 0 ∧ 0 ≤ y ∧ -x * s + y * r = m) ∨ (0 ≤ x ∧ y ≤ 0 ∧ x * s + -y * r = m)
  xl : -m ≤ x
  xh : x ≤ m
theorem Eucl.start {a m : Int} (h1 : 0 ≤ a) (h2 : a < m) : Eucl a m m a 0 1 :=
  ⟨by omega, h1, by omega, by omega, ⟨-1, by omega⟩, ⟨0, by omega⟩, Int.gcd_comm _ _, .inl ⟨by omega, by omega, by omega⟩, by omega, by omega⟩
theorem Eucl.yb {a m r s x y : Int} (h : Eucl a m r s x y) : -m ≤ y ∧ y ≤ m := by
  have h1 := h.r1
  rcases h.sg with ⟨hx, hy, he⟩ | ⟨hx, hy, he⟩
  · have : y * 1 ≤ y * r := Int.mul_le_mul_of_nonneg_left h1 hy
    have := Int.mul_nonneg (show 0 ≤ -x by omega) h.s0
    omega
  · have : -y * 1 ≤ -y * r := Int.mul_le_mul_of_nonneg_left h1 (by omega)
    have := Int.mul_nonneg hx h.s0
    omega
theorem Eucl.step {a m r s x y : Int} (h : Eucl a m r s x y) (hs : s ≠ 0) : Eucl a m s (r - r / s * s) y (x - r / s * y) := by
  have hs0 := h.s0
  have hr1 := h.r1
  have hq : 0 ≤ r / s := Int.ediv_nonneg (by omega) hs0
  have hm : r - r / s * s = r % s := by have := Int.emod_add_mul_ediv r s; rw [Int.mul_comm] at this; omega
  have h5 := emod_bd r s (by omega)
  have hyb := h.yb
  refine ⟨by omega, by omega, h.sm, by have := h.sm; omega, h.dy, ?_, ?_, ?_, hyb.1, hyb.2⟩
  · have h1 := Int.dvd_sub h.dx (dvdR h.dy (r / s))
    have : a * x - r - r / s * (a * y - s) = a * (x - r / s * y) - (r - r / s * s) := by
      rw [Int.mul_sub, Int.mul_sub, Int.mul_left_comm]; omega
    rwa [this] at h1
  · rw [hm, ← h.g]
    have := gcd_tmod r s
    rwa [Int.tmod_eq_emod_of_nonneg (by omega)] at this
  · rcases h.sg with ⟨hx, hy, he⟩ | ⟨hx, hy, he⟩
    · right
      have hy2 := Int.mul_nonneg hq hy
      refine ⟨hy, by omega, ?_⟩
      have : y * (r - r / s * s) + -(x - r / s * y) * s = -x * s + y * r := by grind
      omega
    · left
      have hy2 := Int.mul_nonneg hq (show 0 ≤ -y by omega)
      rw [Int.mul_neg] at hy2
      refine ⟨hy, by omega, ?_⟩
      have : -y * (r - r / s * s) + (x - r / s * y) * s = x * s + -y * r := by grind
      omega
theorem Eucl.qb {a m r s x y : Int} (h : Eucl a m r s x y) (hs : s ≠ 0) : -(2 * m) ≤ r / s * y ∧ r / s * y ≤ 2 * m ∧ 0 ≤ r / s * s ∧ r / s * s ≤ r ∧ 0 ≤ r / s ∧ r / s ≤ r := by
  have h1 := (h.step hs).yb
  have h2 := h.xl
  have h3 := h.xh
  have hs0 := h.s0
  have hr1 := h.r1
  have hm : r - r / s * s = r % s := by have := Int.emod_add_mul_ediv r s; rw [Int.mul_comm] at this; omega
  have h5 := emod_bd r s (by omega)
  have h6 : 0 ≤ r / s := Int.ediv_nonneg (by omega) hs0
  have h7 : r / s * 1 ≤ r / s * s := Int.mul_le_mul_of_nonneg_left (by omega) h6
  omega
theorem Eucl.fin {a m r x y : Int} (h : Eucl a m r 0 x y) : r = Int.gcd a m := by
  have := h.g
  have h1 := h.r1
  simp at this
  omega
theorem dvd_emod_sub {m a : Int} : m ∣ a % m - a := ⟨-(a / m), by have := Int.emod_add_mul_ediv a m; rw [Int.mul_neg]; omega⟩
theorem Eucl.inv {a m x y : Int} (h : Eucl a m 1 0 x y) (hm : 1 ≤ m) : IsInv a m (x % m) := by
  have hb := emod_bd x m hm
  refine ⟨hb.1, hb.2, ?_⟩
  have h1 := Int.dvd_add (dvdR (dvd_emod_sub (m := m) (a := x)) a) h.dx
  have : a * (x % m - x) + (a * x - 1) = a * (x % m) - 1 := by rw [Int.mul_sub]; omega
  rwa [this] at h1


theorem Eucl.ends {a m : Int} : ∀ (n : Nat) (r s x y : Int), s.toNat ≤ n → Eucl a m r s x y → ∃ r' x' y', Eucl a m r' 0 x' y'
  | 0, r, s, x, y, hn, h => by
    have := h.s0
    obtain rfl : s = 0 := by omega
    exact ⟨r, x, y, h⟩
  | n + 1, r, s, x, y, hn, h => by
    by_cases hs : s = 0
    · subst hs; exact ⟨r, x, y, h⟩
    · have hS := h.step hs
      have hs0 := h.s0
      have hm : r - r / s * s = r % s := by have := Int.emod_add_mul_ediv r s; rw [Int.mul_comm] at this; omega
      have := emod_bd r s (by omega)
      exact Eucl.ends n _ _ _ _ (by omega) hS
theorem gcd_emod (a m : Int) : Int.gcd (a % m) m = Int.gcd a m := by
  have h := Int.gcd_add_mul_right_right m (a % m) (a / m)
  have e : a % m + a / m * m = a := by have := Int.emod_add_mul_ediv a m; rw [Int.mul_comm] at this; omega
  rw [e] at h
  rw [Int.gcd_comm, ← h, Int.gcd_comm]
theorem emod_sub_dvd (a m : Int) : m ∣ a % m - a := dvd_emod_sub
theorem inv_exists {a m : Int} (h : Int.gcd a m = 1) (hm : 1 ≤ m) : ∃ x, IsInv a m x := by
  have hb := emod_bd a m hm
  obtain ⟨r, x, y, hE⟩ := Eucl.ends _ _ _ _ _ (Nat.le_refl _) (Eucl.start hb.1 hb.2)
  have hr := hE.fin
  rw [gcd_emod, h] at hr
  subst hr
  exact ⟨_, (hE.inv hm).congr dvd_emod_sub⟩
theorem minv_is {a m : Int} (h : Int.gcd a m = 1) (hm : 1 ≤ m) : IsInv a m (minv a m) := by
  obtain ⟨x, hx⟩ := inv_exists h hm
  exact minv_spec hx

/-! ### the part of a number that belongs to a prime -/
def ppart (p : Int) : Nat → Int → Int
  | 0, _ => 1
  | f + 1, n => if n % p = 0 then p * ppart p f (n / p) else 1
theorem ppart_no {p n : Int} (h : n % p ≠ 0) : ∀ f, ppart p f n = 1
  | 0 => rfl
  | f + 1 => by simp [ppart, h]
theorem ppart_yes {p n : Int} (h : n % p = 0) (f : Nat) : ppart p (f + 1) n = p * ppart p f (n / p) := by simp [ppart, h]
structure PPart (p n0 n part : Int) (f : Nat) : Prop where
  n1 : 1 ≤ n
  p1 : 1 ≤ part
  le : part * n ≤ 1000000
  nf : n < 2 ^ f
  eq : part * ppart p f n = ppart p 20 n0
theorem PPart.start {p n : Int} (h1 : 1 ≤ n) (h2 : n ≤ 1000000) : PPart p n n 1 20 :=
  ⟨h1, by omega, by omega, by have : (2:Int) ^ 20 = 1048576 := by decide
                              omega, by omega⟩
theorem PPart.bd {p n0 n part : Int} {f : Nat} (h : PPart p n0 n part f) (hp : 2 ≤ p) (hd : n % p = 0) : 0 ≤ part * p ∧ part * p ≤ 1000000 ∧ 1 ≤ n / p ∧ n / p < n ∧ n ≤ 1000000 ∧ part ≤ 1000000 := by
  have h1 := h.n1
  have h2 := h.p1
  have h3 := h.le
  have hpn : p ≤ n := Int.le_of_dvd (by omega) (Int.dvd_of_emod_eq_zero hd)
  have h4 := Int.mul_le_mul_of_nonneg_left hpn (show 0 ≤ part by omega)
  have h5 := Int.mul_nonneg (show 0 ≤ part by omega) (show 0 ≤ p by omega)
  have h6 : 1 ≤ n / p := Int.le_ediv_of_mul_le (by omega) (by omega)
  have h7 : n / p < n := Int.ediv_lt_of_lt_mul (by omega) (by have := Int.mul_lt_mul_of_pos_left (show 1 < p by omega) (show 0 < n by omega); omega)
  have h8 := Int.mul_le_mul_of_nonneg_left h1 (show 0 ≤ part by omega)
  have h9 := Int.mul_le_mul_of_nonneg_right h2 (show 0 ≤ n by omega)
  omega
theorem PPart.step {p n0 n part : Int} {f : Nat} (h : PPart p n0 n part f) (hp : 2 ≤ p) (hd : n % p = 0) : ∃ g, PPart p n0 (n / p) (part * p) g := by
  have hb := h.bd hp hd
  have h1 := h.n1
  cases f with
  | zero => have := h.nf; simp at this; omega
  | succ f =>
    refine ⟨f, hb.2.2.1, ?_, ?_, ?_, ?_⟩
    · have := Int.mul_le_mul h.p1 (show 1 ≤ p by omega) (by omega) (by have := h.p1; omega); omega
    · have e : p * (n / p) = n := Int.mul_ediv_cancel' (Int.dvd_of_emod_eq_zero hd)
      rw [Int.mul_assoc, e]; exact h.le
    · have h5 := h.nf
      rw [Int.pow_succ] at h5
      refine Int.ediv_lt_of_lt_mul (by omega) ?_
      have := Int.mul_le_mul_of_nonneg_left hp (Int.le_of_lt (Int.pow_pos (show (0:Int) < 2 by omega) : (0:Int) < 2 ^ f))
      omega
    · rw [← h.eq, ppart_yes hd, Int.mul_assoc]
theorem PPart.fin {p n0 n part : Int} {f : Nat} (h : PPart p n0 n part f) (hd : n % p ≠ 0) : part = ppart p 20 n0 := by
  have := h.eq
  rw [ppart_no hd] at this
  omega

/-! ### the order of a unit modulo m -/
theorem pigeon : ∀ (n : Nat) (f : Nat → Nat), (∀ i, i ≤ n → f i < n) → ∃ i j, i < j ∧ j ≤ n ∧ f i = f j
  | 0, f, h => absurd (h 0 (Nat.le_refl _)) (by omega)
  | n + 1, f, h => by
    by_cases he : ∃ i, i ≤ n ∧ f i = f (n + 1)
    · obtain ⟨i, hi, e⟩ := he
      exact ⟨i, n + 1, by omega, Nat.le_refl _, e⟩
    · have hne : ∀ i, i ≤ n → f i ≠ f (n + 1) := fun i hi e => he ⟨i, hi, e⟩
      obtain ⟨i, j, hij, hj, e⟩ := pigeon n (fun i => if f i = n then f (n + 1) else f i) (fun i hi => by
        have h1 := h i (by omega)
        have h2 := h (n + 1) (Nat.le_refl _)
        have h3 := hne i hi
        split <;> omega)
      refine ⟨i, j, hij, by omega, ?_⟩
      have h3 := hne i (by omega)
      have h4 := hne j hj
      split at e <;> split at e <;> omega

def IsOrd (a m : Int) (k : Nat) : Prop := 1 ≤ k ∧ a ^ k % m = 1 % m ∧ ∀ j, 1 ≤ j → j < k → a ^ j % m ≠ 1 % m
theorem least_of (P : Nat → Prop) : ∀ n, P n → ∃ k, k ≤ n ∧ P k ∧ ∀ j, j < k → ¬ P j := by
  intro n
  induction n using Nat.strongRecOn with
  | ind n ih =>
    intro hn
    by_cases h : ∃ j, j < n ∧ P j
    · obtain ⟨j, hj, hp⟩ := h
      obtain ⟨k, h1, h2, h3⟩ := ih j hj hp
      exact ⟨k, by omega, h2, h3⟩
    · exact ⟨n, Nat.le_refl _, hn, fun j hj hp => h ⟨j, hj, hp⟩⟩
theorem emod_eq_iff (x y m : Int) : x % m = y % m ↔ m ∣ x - y := by
  constructor
  · intro h
    exact Int.dvd_of_emod_eq_zero (Int.emod_eq_emod_iff_emod_sub_eq_zero.1 h)
  · intro h
    exact Int.emod_eq_emod_iff_emod_sub_eq_zero.2 (Int.emod_eq_zero_of_dvd h)
theorem IsInv.cancel {a m x : Int} (h : IsInv a m x) : ∀ (i : Nat) (y : Int), m ∣ a ^ i * y → m ∣ y
  | 0, y, hd => by simpa using hd
  | i + 1, y, hd => by
    rw [Int.pow_succ, Int.mul_assoc] at hd
    have h1 := h.cancel i _ hd
    have h2 := dvdL h1 x
    have h3 := dvdL h.2.2 y
    have h4 := Int.dvd_sub h2 h3
    have : a * y * x - (a * x - 1) * y = y := by grind
    rwa [this] at h4
theorem ord_exists {a m x : Int} (h : IsInv a m x) (hm : 1 ≤ m) : ∃ k, IsOrd a m k ∧ (k : Int) ≤ m := by
  obtain ⟨i, j, hij, hj, e⟩ := pigeon m.toNat (fun i => (a ^ i % m).toNat) (fun i _ => by have := emod_bd (a ^ i) m hm; omega)
  have hi := emod_bd (a ^ i) m hm
  have hj' := emod_bd (a ^ j) m hm
  have e2 : a ^ j % m = a ^ i % m := by omega
  obtain ⟨d, rfl⟩ := Nat.exists_eq_add_of_le (Nat.le_of_lt hij)
  rw [emod_eq_iff] at e2
  have e3 : a ^ (i + d) - a ^ i = a ^ i * (a ^ d - 1) := by rw [Int.pow_add]; grind
  rw [e3] at e2
  have e4 := (emod_eq_iff _ _ _).2 (h.cancel i _ e2)
  obtain ⟨k, h1, ⟨h2, h3⟩, h4⟩ := least_of (fun k => 1 ≤ k ∧ a ^ k % m = 1 % m) d ⟨by omega, e4⟩
  exact ⟨k, ⟨h2, h3, fun j h5 h6 h7 => h4 j h6 ⟨h5, h7⟩⟩, by omega⟩
theorem IsOrd.congr {a b m : Int} {k : Nat} (h : IsOrd a m k) (hab : b % m = a % m) : IsOrd b m k := by
  have e : ∀ j : Nat, b ^ j % m = a ^ j % m := fun j => by rw [← pow_emod b, hab, pow_emod]
  refine ⟨h.1, by rw [e]; exact h.2.1, fun j h1 h2 => by rw [e]; exact h.2.2 j h1 h2⟩

end Go.Proofs.Ytpkdgemnddcefaa
