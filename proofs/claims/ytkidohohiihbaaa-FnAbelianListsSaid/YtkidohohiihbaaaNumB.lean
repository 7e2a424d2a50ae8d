/- Contracts of the chapter on numbers: the exported functions of the program and of the reference. -/
import Derived.Test.YtkidohohiihbaaaNum
set_option linter.unusedVariables false
set_option linter.unusedSimpArgs false
namespace Go.Proofs.Ytkidohohiihbaaa
open Go.RowKit

theorem inside_t (n a b : Int) (w : World) (h1 : a ≤ n) (h2 : n ≤ b) :
    Calls Try.prog 89 #[.int .i64 n, .int .i64 a, .int .i64 b] w fun r w' => r = .returned (.bool true) ∧ w = w' := by
  have e : decide (n ≤ b) = true := by simpa using h2
  go_enter Try.func89, Try.ntmps89
  go_wp2
  go_ret
  exact ⟨rfl, rfl⟩
theorem inside_f (n a b : Int) (w : World) (h : n < a ∨ b < n) :
    Calls Try.prog 89 #[.int .i64 n, .int .i64 a, .int .i64 b] w fun r w' => r = .returned (.bool false) ∧ w = w' := by
  by_cases h1 : a ≤ n
  · have e : decide (n ≤ b) = false := by simp; omega
    go_enter Try.func89, Try.ntmps89
    go_wp2
    go_ret
    exact ⟨rfl, rfl⟩
  · go_enter Try.func89, Try.ntmps89
    go_wp2
    go_ret
    exact ⟨rfl, rfl⟩
theorem l01In_t (n a b : Int) (w : World) (h1 : a ≤ n) (h2 : n ≤ b) :
    Calls Try.prog 81 #[.int .i64 n, .int .i64 a, .int .i64 b] w fun r w' => r = .returned (.bool true) ∧ w = w' := by
  have e : decide (n ≤ b) = true := by simpa using h2
  go_enter Try.func81, Try.ntmps81
  go_wp2
  go_ret
  exact ⟨rfl, rfl⟩
theorem l01In_f (n a b : Int) (w : World) (h : n < a ∨ b < n) :
    Calls Try.prog 81 #[.int .i64 n, .int .i64 a, .int .i64 b] w fun r w' => r = .returned (.bool false) ∧ w = w' := by
  by_cases h1 : a ≤ n
  · have e : decide (n ≤ b) = false := by simp; omega
    go_enter Try.func81, Try.ntmps81
    go_wp2
    go_ret
    exact ⟨rfl, rfl⟩
  · go_enter Try.func81, Try.ntmps81
    go_wp2
    go_ret
    exact ⟨rfl, rfl⟩
theorem isModulus_t (n : Int) (w : World) (h1 : 1 ≤ n) (h2 : n ≤ 1000000) :
    Calls Try.prog 82 #[.int .i64 n] w fun r w' => r = .returned (.bool true) ∧ w = w' := by
  go_enter Try.func82, Try.ntmps82
  go_wp2_with (go_at_call 89; refine (inside_t _ _ _ _ h1 h2).mono ?_; rintro e w' ⟨rfl, rfl⟩)
  go_ret
  exact ⟨rfl, rfl⟩
theorem isModulus_f (n : Int) (w : World) (h : n < 1 ∨ 1000000 < n) :
    Calls Try.prog 82 #[.int .i64 n] w fun r w' => r = .returned (.bool false) ∧ w = w' := by
  go_enter Try.func82, Try.ntmps82
  go_wp2_with (go_at_call 89; refine (inside_f _ _ _ _ h).mono ?_; rintro e w' ⟨rfl, rfl⟩)
  go_ret
  exact ⟨rfl, rfl⟩
/-- a group prime -/
def GP (p : Int) : Prop := p = 2 ∨ p = 3 ∨ p = 5 ∨ p = 7
theorem IsGroupPrime_t (p : Int) (w : World) (h : GP p) :
    Calls Try.prog 21 #[.int .i64 p] w fun r w' => r = .returned (.bool true) ∧ w = w' := by
  rcases h with h | h | h | h
  all_goals
    subst h
    go_enter Try.func21, Try.ntmps21
    go_wp2
    go_ret
    exact ⟨rfl, rfl⟩
theorem IsGroupPrime_f (p : Int) (w : World) (h : ¬ GP p) :
    Calls Try.prog 21 #[.int .i64 p] w fun r w' => r = .returned (.bool false) ∧ w = w' := by
  unfold GP at h
  have e1 : (p == 2) = false := beq_eq_false_iff_ne.2 (by omega)
  have e2 : (p == 3) = false := beq_eq_false_iff_ne.2 (by omega)
  have e3 : (p == 5) = false := beq_eq_false_iff_ne.2 (by omega)
  have e4 : (p == 7) = false := beq_eq_false_iff_ne.2 (by omega)
  clear h
  go_enter Try.func21, Try.ntmps21
  go_wp2
  go_ret
  exact ⟨rfl, rfl⟩
theorem l01Prime_t (p : Int) (w : World) (h : GP p) :
    Calls Try.prog 198 #[.int .i64 p] w fun r w' => r = .returned (.bool true) ∧ w = w' := by
  rcases h with h | h | h | h
  all_goals
    subst h
    go_enter Try.func198, Try.ntmps198
    go_wp2
    go_ret
    exact ⟨rfl, rfl⟩
theorem l01Prime_f (p : Int) (w : World) (h : ¬ GP p) :
    Calls Try.prog 198 #[.int .i64 p] w fun r w' => r = .returned (.bool false) ∧ w = w' := by
  unfold GP at h
  have e1 : (p == 2) = false := beq_eq_false_iff_ne.2 (by omega)
  have e2 : (p == 3) = false := beq_eq_false_iff_ne.2 (by omega)
  have e3 : (p == 5) = false := beq_eq_false_iff_ne.2 (by omega)
  have e4 : (p == 7) = false := beq_eq_false_iff_ne.2 (by omega)
  clear h
  go_enter Try.func198, Try.ntmps198
  go_wp2
  go_ret
  exact ⟨rfl, rfl⟩

def ModBad (e m : Int) : Prop := m < 1 ∨ 1000000 < m ∨ (1 ≤ m ∧ m ≤ 1000000 ∧ e < 0) ∨ (1 ≤ m ∧ m ≤ 1000000 ∧ 1000000 < e)

set_option maxHeartbeats 400000 in
theorem impl_ModPower_ok (b : Int) (e : Nat) (m : Int) (w : World) (h1 : -9223372036854775808 ≤ b) (h2 : b ≤ 9223372036854775807) (h3 : 1 ≤ m) (h4 : m ≤ 1000000) (h5 : e ≤ 1000000) :
    Calls Try.prog 19 #[.int .i64 b, .int .i64 e, .int .i64 m] w fun r w' => r = .returned (.tuple #[.int .i64 (b ^ e % m), .int .i64 0]) ∧ w = w' := by
  have hb := emod_bd b m h3
  go_enter Try.func19, Try.ntmps19
  go_wp2_with (first | (go_at_call 82; refine (isModulus_t _ _ h3 h4).mono ?_; rintro e w' ⟨rfl, rfl⟩) | (go_at_call 84; refine (residue_any _ _ _ (by omega) (by omega) (by omega) (by omega)).mono ?_; rintro e w' ⟨rfl, rfl⟩) | (go_at_call 83; refine (powerMod_any _ _ _ _ hb.1 hb.2 (by omega) (by omega) (by omega)).mono ?_; rintro e w' ⟨rfl, rfl⟩))
  go_ret2
  exact ⟨ret_ii (pow_emod _ _ _) rfl, rfl⟩

set_option maxHeartbeats 400000 in
theorem impl_ModPower_bad (b : Int) (e : Int) (m : Int) (w : World) (h : ModBad e m) :
    Calls Try.prog 19 #[.int .i64 b, .int .i64 e, .int .i64 m] w fun r w' => r = .returned (.tuple #[.int .i64 0, .int .i64 2]) ∧ w = w' := by
  rcases h with h | h | ⟨h, h1, h2⟩ | ⟨h, h1, h2⟩
  all_goals
    go_enter Try.func19, Try.ntmps19
    go_wp2_with (first | (go_at_call 82; refine (isModulus_t _ _ (by omega) (by omega)).mono ?_; rintro e w' ⟨rfl, rfl⟩) | (go_at_call 82; refine (isModulus_f _ _ (by omega)).mono ?_; rintro e w' ⟨rfl, rfl⟩))
    go_ret2
    exact ⟨rfl, rfl⟩





/-! ### PrimePart -/
def PPBad (n p : Int) : Prop := n < 1 ∨ 1000000 < n ∨ (1 ≤ n ∧ n ≤ 1000000 ∧ ¬ GP p)
theorem GP.bd {p : Int} (h : GP p) : 2 ≤ p ∧ p ≤ 7 := by unfold GP at h; omega
set_option maxHeartbeats 400000 in
theorem impl_PrimePart_ok (n p : Int) (w : World) (h1 : 1 ≤ n) (h2 : n ≤ 1000000) (hp : GP p) :
    Calls Try.prog 20 #[.int .i64 n, .int .i64 p] w fun r w' => r = .returned (.tuple #[.int .i64 (ppart p 20 n), .int .i64 0]) ∧ w = w' := by
  have H := Lib.hid hp
  obtain ⟨hp2, hp7⟩ := hp.bd
  clear hp
  go_enter Try.func20, Try.ntmps20
  go_wp2_with (first | (go_at_call 21; refine (IsGroupPrime_t _ _ H.out).mono ?_; rintro e w' ⟨rfl, rfl⟩))
  go_loop [0, 6] (fun u v => ∃ (x y : Int) (f : Nat), u = .int .i64 x ∧ v = .int .i64 y ∧ PPart p n x y f)
    (fun u _ => (intOf u).toNat)
  case atStart => exact ⟨n, 1, 20, rfl, rfl, PPart.start h1 h2⟩
  case round =>
    obtain ⟨x, y, f, rfl, rfl, hP⟩ := hrel
    have hx1 := hP.n1
    have HP := Lib.hid hP
    clear hP
    by_cases hd : x % p = 0
    · have hb := HP.out.bd hp2 hd
      have HD := Lib.hid hd
      have hd' : (x % p == 0) = true := beq_iff_eq.2 hd
      clear hd
      obtain ⟨b1, b2, b3, b4, b5, b6⟩ := hb
      go_wp2
      go_round
      case rel =>
        obtain ⟨g, hg⟩ := HP.out.step hp2 HD.out
        exact ⟨x / p, y * p, g, rfl, rfl, hg⟩
      case measure => simp [intOf]; omega
    · have hf := Lib.hid (HP.out.fin hd)
      have hd' : (x % p == 0) = false := beq_eq_false_iff_ne.2 hd
      clear hd
      go_wp2
      go_ret2
      exact ⟨ret_ii hf.out rfl, rfl⟩
set_option maxHeartbeats 400000 in
theorem impl_PrimePart_bad (n p : Int) (w : World) (h : PPBad n p) :
    Calls Try.prog 20 #[.int .i64 n, .int .i64 p] w fun r w' => r = .returned (.tuple #[.int .i64 0, .int .i64 2]) ∧ w = w' := by
  rcases h with h | h | ⟨h1, h2, h⟩
  · go_enter Try.func20, Try.ntmps20
    go_wp2
    go_ret2
    exact ⟨rfl, rfl⟩
  · have e : decide (1000000 < n) = true := by simpa using h
    go_enter Try.func20, Try.ntmps20
    go_wp2
    go_ret2
    exact ⟨rfl, rfl⟩
  · have e : decide (1000000 < n) = false := by simpa using h2
    go_enter Try.func20, Try.ntmps20
    go_wp2_with (go_at_call 21; refine (IsGroupPrime_f _ _ h).mono ?_; rintro e w' ⟨rfl, rfl⟩)
    go_ret2
    exact ⟨rfl, rfl⟩

/-! ### ModInverse -/
set_option maxHeartbeats 400000 in
theorem impl_ModInverse_ok (a m : Int) (w : World) (h1 : -9223372036854775808 ≤ a) (h2 : a ≤ 9223372036854775807) (h3 : 1 ≤ m) (h4 : m ≤ 1000000) (hg : Int.gcd a m = 1) :
    Calls Try.prog 23 #[.int .i64 a, .int .i64 m] w fun r w' => r = .returned (.tuple #[.int .i64 (minv a m), .int .i64 0]) ∧ ∃ n, w' = w.drewN n := by
  obtain ⟨b1, b2⟩ := emod_bd a m h3
  have Hg := Lib.hid hg
  have Hg2 : Hid ((Int.gcd (a % m) m == 1) = true) := Lib.hid (by rw [gcd_emod, hg]; rfl)
  clear hg
  go_enter Try.func23, Try.ntmps23
  go_wp2_with (first | (go_at_call 82; refine (isModulus_t _ _ (by omega) (by omega)).mono ?_; rintro e w' ⟨rfl, rfl⟩) | (go_at_call 84; refine (residue_any _ _ _ (by omega) (by omega) (by omega) (by omega)).mono ?_; rintro e w' ⟨rfl, rfl⟩) | (go_at_call 85; refine (inverseMod_any _ _ _ b1 b2 (by omega)).mono ?_; rw [Hg2.out]; rintro e w' ⟨x, rfl, hx, n, rfl⟩; have HX := Lib.hid hx; clear hx))
  go_ret2
  exact ⟨ret_ii (minv_eq ((HX.out (by rw [gcd_emod]; exact Hg.out)).congr dvd_emod_sub)).symm rfl, n, rfl⟩
set_option maxHeartbeats 400000 in
theorem impl_ModInverse_no (a m : Int) (w : World) (h1 : -9223372036854775808 ≤ a) (h2 : a ≤ 9223372036854775807) (h3 : 1 ≤ m) (h4 : m ≤ 1000000) (hg : Int.gcd a m ≠ 1) :
    Calls Try.prog 23 #[.int .i64 a, .int .i64 m] w fun r w' => r = .returned (.tuple #[.int .i64 0, .int .i64 4]) ∧ ∃ n, w' = w.drewN n := by
  obtain ⟨b1, b2⟩ := emod_bd a m h3
  have Hg2 : Hid ((Int.gcd (a % m) m == 1) = false) := Lib.hid (by rw [gcd_emod]; exact beq_eq_false_iff_ne.2 hg)
  clear hg
  go_enter Try.func23, Try.ntmps23
  go_wp2_with (first | (go_at_call 82; refine (isModulus_t _ _ (by omega) (by omega)).mono ?_; rintro e w' ⟨rfl, rfl⟩) | (go_at_call 84; refine (residue_any _ _ _ (by omega) (by omega) (by omega) (by omega)).mono ?_; rintro e w' ⟨rfl, rfl⟩) | (go_at_call 85; refine (inverseMod_any _ _ _ b1 b2 (by omega)).mono ?_; rw [Hg2.out]; rintro e w' ⟨x, rfl, hx, n, rfl⟩; clear hx))
  go_ret2
  exact ⟨rfl, n, rfl⟩
set_option maxHeartbeats 400000 in
theorem impl_ModInverse_bad (a m : Int) (w : World) (h : m < 1 ∨ 1000000 < m) :
    Calls Try.prog 23 #[.int .i64 a, .int .i64 m] w fun r w' => r = .returned (.tuple #[.int .i64 0, .int .i64 2]) ∧ w = w' := by
  go_enter Try.func23, Try.ntmps23
  go_wp2_with (go_at_call 82; refine (isModulus_f _ _ h).mono ?_; rintro e w' ⟨rfl, rfl⟩)
  go_ret2
  exact ⟨rfl, rfl⟩
set_option maxHeartbeats 400000 in
theorem spec_ModInverse_ok (a m : Int) (w : World) (h1 : -9223372036854775808 ≤ a) (h2 : a ≤ 9223372036854775807) (h3 : 1 ≤ m) (h4 : m ≤ 1000000) (hg : Int.gcd a m = 1) :
    Calls Try.prog 24 #[.int .i64 a, .int .i64 m] w fun r w' => r = .returned (.tuple #[.int .i64 (minv a m), .int .i64 0]) ∧ w = w' := by
  obtain ⟨b1, b2⟩ := emod_bd a m h3
  have Hg2 : Hid (Int.gcd (a % m) m = 1) := Lib.hid (by rw [gcd_emod, hg])
  have Hg3 : ((Int.gcd (a % m) m : Int) != 1) = false := by rw [gcd_emod, hg]; rfl
  clear hg
  go_enter Try.func24, Try.ntmps24
  go_wp2_with (first | (go_at_call 81; refine (l01In_t _ _ _ _ (by omega) (by omega)).mono ?_; rintro e w' ⟨rfl, rfl⟩) | (go_at_call 86; refine (l01Mod_any _ _ _ (by omega) (by omega) (by omega) (by omega)).mono ?_; rintro e w' ⟨rfl, rfl⟩) | (go_at_call 87; refine (l01Gcd_any _ _ _ (by omega) (by omega) (by omega) (by omega)).mono ?_; rintro e w' ⟨rfl, rfl⟩) | (go_at_call 88; refine (l01Bezout_any _ _ _ b1 b2 (by omega)).mono ?_; rintro e w' ⟨x, rfl, hx, rfl⟩; have HX := Lib.hid hx; clear hx))
  go_ret2
  refine ⟨ret_ii ?_ rfl, rfl⟩
  have h := HX.out
  rw [Hg2.out] at h
  simp at h
  exact (minv_eq (h.congr dvd_emod_sub)).symm
set_option maxHeartbeats 400000 in
theorem spec_ModInverse_no (a m : Int) (w : World) (h1 : -9223372036854775808 ≤ a) (h2 : a ≤ 9223372036854775807) (h3 : 1 ≤ m) (h4 : m ≤ 1000000) (hg : Int.gcd a m ≠ 1) :
    Calls Try.prog 24 #[.int .i64 a, .int .i64 m] w fun r w' => r = .returned (.tuple #[.int .i64 0, .int .i64 4]) ∧ w = w' := by
  obtain ⟨b1, b2⟩ := emod_bd a m h3
  have Hg3 : ((Int.gcd (a % m) m : Int) != 1) = true := by rw [gcd_emod]; exact bne_iff_ne.2 (by omega)
  clear hg
  go_enter Try.func24, Try.ntmps24
  go_wp2_with (first | (go_at_call 81; refine (l01In_t _ _ _ _ (by omega) (by omega)).mono ?_; rintro e w' ⟨rfl, rfl⟩) | (go_at_call 86; refine (l01Mod_any _ _ _ (by omega) (by omega) (by omega) (by omega)).mono ?_; rintro e w' ⟨rfl, rfl⟩) | (go_at_call 87; refine (l01Gcd_any _ _ _ (by omega) (by omega) (by omega) (by omega)).mono ?_; rintro e w' ⟨rfl, rfl⟩))
  go_ret2
  exact ⟨rfl, rfl⟩
set_option maxHeartbeats 400000 in
theorem spec_ModInverse_bad (a m : Int) (w : World) (h : m < 1 ∨ 1000000 < m) :
    Calls Try.prog 24 #[.int .i64 a, .int .i64 m] w fun r w' => r = .returned (.tuple #[.int .i64 0, .int .i64 2]) ∧ w = w' := by
  go_enter Try.func24, Try.ntmps24
  go_wp2_with (go_at_call 81; refine (l01In_f _ _ _ _ h).mono ?_; rintro e w' ⟨rfl, rfl⟩)
  go_ret2
  exact ⟨rfl, rfl⟩
theorem Below.ofDrew {w w' : World} (h : ∃ n, w' = w.drewN n) : Below w.heap.size w w' := by
  obtain ⟨n, rfl⟩ := h
  exact ⟨rfl, rfl, rfl, Nat.le_refl _, fun _ _ => rfl⟩

/-! ### RationalMod -/
theorem gp_inv {p a : Int} (hp : GP p) (h : a % p ≠ 0) : Int.gcd a p = 1 := by
  rw [← gcd_emod]
  have h0 := hp.bd
  have hb := emod_bd a p (by omega)
  generalize a % p = r at *
  rcases hp with hp | hp | hp | hp
  · subst hp
    obtain rfl : r = 1 := by omega
    decide
  · subst hp
    have : r = 1 ∨ r = 2 := by omega
    rcases this with rfl | rfl <;> decide
  · subst hp
    have : r = 1 ∨ r = 2 ∨ r = 3 ∨ r = 4 := by omega
    rcases this with rfl | rfl | rfl | rfl <;> decide
  · subst hp
    have : r = 1 ∨ r = 2 ∨ r = 3 ∨ r = 4 ∨ r = 5 ∨ r = 6 := by omega
    rcases this with rfl | rfl | rfl | rfl | rfl | rfl <;> decide
theorem gp_noinv {p a : Int} (hp : GP p) (h : a % p = 0) : Int.gcd a p ≠ 1 := by
  rw [← gcd_emod, h]
  have := hp.bd
  simp
  omega
def RMBad (num den p : Int) : Prop := num < -1000000 ∨ 1000000 < num ∨ (-1000000 ≤ num ∧ num ≤ 1000000 ∧ (den < -1000000 ∨ 1000000 < den)) ∨ (-1000000 ≤ num ∧ num ≤ 1000000 ∧ -1000000 ≤ den ∧ den ≤ 1000000 ∧ ¬ GP p)

/-! ### UnitOrder -/
theorem pow_next (a m : Int) (j : Nat) : a ^ j % m * a % m = a ^ (j + 1) % m := by rw [mul_emod_l, Int.pow_succ]
set_option maxHeartbeats 400000 in
theorem impl_UnitOrder_ok (a m : Int) (k : Nat) (w : World) (h1 : -9223372036854775808 ≤ a) (h2 : a ≤ 9223372036854775807) (h3 : 1 ≤ m) (h4 : m ≤ 1000000) (hg : Int.gcd a m = 1) (hk : IsOrd a m k) (hkm : (k : Int) ≤ m) :
    Calls Try.prog 25 #[.int .i64 a, .int .i64 m] w fun r w' => r = .returned (.tuple #[.int .i64 k, .int .i64 0]) ∧ ∃ n, w' = w.drewN n := by
  obtain ⟨b1, b2⟩ := emod_bd a m h3
  obtain ⟨b3, b4⟩ := emod_bd 1 m h3
  have Hg2 : Hid ((Int.gcd (a % m) m == 1) = true) := Lib.hid (by rw [gcd_emod, hg]; rfl)
  have HK := Lib.hid (hk.congr (show a % m % m = a % m from Int.emod_emod_of_dvd _ (Int.dvd_refl m)))
  have hk1 := hk.1
  clear hg hk
  go_enter Try.func25, Try.ntmps25
  go_wp2_with (first | (go_at_call 82; refine (isModulus_t _ _ (by omega) (by omega)).mono ?_; rintro e w' ⟨rfl, rfl⟩) | (go_at_call 84; refine (residue_any _ _ _ (by omega) (by omega) (by omega) (by omega)).mono ?_; rintro e w' ⟨rfl, rfl⟩) | (go_at_call 85; refine (inverseMod_any _ _ _ b1 b2 (by omega)).mono ?_; rw [Hg2.out]; rintro e w' ⟨x, rfl, hx, n, rfl⟩; clear hx))
  generalize a % m = r at *
  go_loop [8, 9] (fun u v => ∃ j : Nat, u = .int .i64 j ∧ v = .int .i64 (r ^ j % m) ∧ 1 ≤ j ∧ j ≤ k) (fun u _ => k - (intOf u).toNat)
  case atStart => exact ⟨1, rfl, by rw [Int.pow_succ, Int.pow_zero, Int.one_mul, Int.emod_eq_of_lt b1 b2], by omega, hk1⟩
  case round =>
    obtain ⟨j, rfl, rfl, hj1, hj2⟩ := hrel
    obtain ⟨c1, c2⟩ := emod_bd (r ^ j) m h3
    obtain ⟨m1, m2⟩ := mul_bd c1 (show r ^ j % m ≤ 1000000 by omega) b1 (show r ≤ 1000000 by omega)
    by_cases hj : j = k
    · subst hj
      have ht : (r ^ j % m != 1 % m) = false := by rw [HK.out.2.1]; simp
      go_wp2
      go_ret2
      exact ⟨rfl, n, rfl⟩
    · have ht : (r ^ j % m != 1 % m) = true := bne_iff_ne.2 (HK.out.2.2 j hj1 (by omega))
      have hlt : j < k := by omega
      clear hj
      go_wp2
      go_round
      case rel => exact ⟨j + 1, by go_num, by rw [pow_next], by omega, by omega⟩
      case measure => simp [intOf]; omega
set_option maxHeartbeats 400000 in
theorem impl_UnitOrder_no (a m : Int) (w : World) (h1 : -9223372036854775808 ≤ a) (h2 : a ≤ 9223372036854775807) (h3 : 1 ≤ m) (h4 : m ≤ 1000000) (hg : Int.gcd a m ≠ 1) :
    Calls Try.prog 25 #[.int .i64 a, .int .i64 m] w fun r w' => r = .returned (.tuple #[.int .i64 0, .int .i64 4]) ∧ ∃ n, w' = w.drewN n := by
  obtain ⟨b1, b2⟩ := emod_bd a m h3
  have Hg2 : Hid ((Int.gcd (a % m) m == 1) = false) := Lib.hid (by rw [gcd_emod]; exact beq_eq_false_iff_ne.2 hg)
  clear hg
  go_enter Try.func25, Try.ntmps25
  go_wp2_with (first | (go_at_call 82; refine (isModulus_t _ _ (by omega) (by omega)).mono ?_; rintro e w' ⟨rfl, rfl⟩) | (go_at_call 84; refine (residue_any _ _ _ (by omega) (by omega) (by omega) (by omega)).mono ?_; rintro e w' ⟨rfl, rfl⟩) | (go_at_call 85; refine (inverseMod_any _ _ _ b1 b2 (by omega)).mono ?_; rw [Hg2.out]; rintro e w' ⟨x, rfl, hx, n, rfl⟩; clear hx))
  go_ret2
  exact ⟨rfl, n, rfl⟩
set_option maxHeartbeats 400000 in
theorem impl_UnitOrder_bad (a m : Int) (w : World) (h : m < 1 ∨ 1000000 < m) :
    Calls Try.prog 25 #[.int .i64 a, .int .i64 m] w fun r w' => r = .returned (.tuple #[.int .i64 0, .int .i64 2]) ∧ w = w' := by
  go_enter Try.func25, Try.ntmps25
  go_wp2_with (go_at_call 82; refine (isModulus_f _ _ h).mono ?_; rintro e w' ⟨rfl, rfl⟩)
  go_ret2
  exact ⟨rfl, rfl⟩
end Go.Proofs.Ytkidohohiihbaaa
