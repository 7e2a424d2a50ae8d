/- Contracts of the chapter on numbers: the exported functions of the program and of the reference. -/
import Derived.Test.YteeinbcajdpenaaNum
set_option linter.unusedVariables false
namespace Go.Proofs.Yteeinbcajdpenaa
open Go.RowKit

theorem inside_t (n a b : Int) (w : World) (h1 : a ≤ n) (h2 : n ≤ b) :
    Calls Try.prog 38 #[.int .i64 n, .int .i64 a, .int .i64 b] w fun r w' => r = .returned (.bool true) ∧ w = w' := by
  have e : decide (n ≤ b) = true := by simpa using h2
  go_enter Try.func38, Try.ntmps38
  go_wp2
  go_ret
  exact ⟨rfl, rfl⟩
theorem inside_f (n a b : Int) (w : World) (h : n < a ∨ b < n) :
    Calls Try.prog 38 #[.int .i64 n, .int .i64 a, .int .i64 b] w fun r w' => r = .returned (.bool false) ∧ w = w' := by
  by_cases h1 : a ≤ n
  · have e : decide (n ≤ b) = false := by simp; omega
    go_enter Try.func38, Try.ntmps38
    go_wp2
    go_ret
    exact ⟨rfl, rfl⟩
  · go_enter Try.func38, Try.ntmps38
    go_wp2
    go_ret
    exact ⟨rfl, rfl⟩
theorem l01In_t (n a b : Int) (w : World) (h1 : a ≤ n) (h2 : n ≤ b) :
    Calls Try.prog 35 #[.int .i64 n, .int .i64 a, .int .i64 b] w fun r w' => r = .returned (.bool true) ∧ w = w' := by
  have e : decide (n ≤ b) = true := by simpa using h2
  go_enter Try.func35, Try.ntmps35
  go_wp2
  go_ret
  exact ⟨rfl, rfl⟩
theorem l01In_f (n a b : Int) (w : World) (h : n < a ∨ b < n) :
    Calls Try.prog 35 #[.int .i64 n, .int .i64 a, .int .i64 b] w fun r w' => r = .returned (.bool false) ∧ w = w' := by
  by_cases h1 : a ≤ n
  · have e : decide (n ≤ b) = false := by simp; omega
    go_enter Try.func35, Try.ntmps35
    go_wp2
    go_ret
    exact ⟨rfl, rfl⟩
  · go_enter Try.func35, Try.ntmps35
    go_wp2
    go_ret
    exact ⟨rfl, rfl⟩
theorem isModulus_t (n : Int) (w : World) (h1 : 1 ≤ n) (h2 : n ≤ 1000000) :
    Calls Try.prog 42 #[.int .i64 n] w fun r w' => r = .returned (.bool true) ∧ w = w' := by
  go_enter Try.func42, Try.ntmps42
  go_wp2_with (go_at_call 38; refine (inside_t _ _ _ _ h1 h2).mono ?_; rintro e w' ⟨rfl, rfl⟩)
  go_ret
  exact ⟨rfl, rfl⟩
theorem isModulus_f (n : Int) (w : World) (h : n < 1 ∨ 1000000 < n) :
    Calls Try.prog 42 #[.int .i64 n] w fun r w' => r = .returned (.bool false) ∧ w = w' := by
  go_enter Try.func42, Try.ntmps42
  go_wp2_with (go_at_call 38; refine (inside_f _ _ _ _ h).mono ?_; rintro e w' ⟨rfl, rfl⟩)
  go_ret
  exact ⟨rfl, rfl⟩
/-- a group prime -/
def GP (p : Int) : Prop := p = 2 ∨ p = 3 ∨ p = 5 ∨ p = 7
theorem IsGroupPrime_t (p : Int) (w : World) (h : GP p) :
    Calls Try.prog 14 #[.int .i64 p] w fun r w' => r = .returned (.bool true) ∧ w = w' := by
  rcases h with h | h | h | h
  all_goals
    subst h
    go_enter Try.func14, Try.ntmps14
    go_wp2
    go_ret
    exact ⟨rfl, rfl⟩
theorem IsGroupPrime_f (p : Int) (w : World) (h : ¬ GP p) :
    Calls Try.prog 14 #[.int .i64 p] w fun r w' => r = .returned (.bool false) ∧ w = w' := by
  unfold GP at h
  have e1 : (p == 2) = false := beq_eq_false_iff_ne.2 (by omega)
  have e2 : (p == 3) = false := beq_eq_false_iff_ne.2 (by omega)
  have e3 : (p == 5) = false := beq_eq_false_iff_ne.2 (by omega)
  have e4 : (p == 7) = false := beq_eq_false_iff_ne.2 (by omega)
  clear h
  go_enter Try.func14, Try.ntmps14
  go_wp2
  go_ret
  exact ⟨rfl, rfl⟩
theorem l01Prime_t (p : Int) (w : World) (h : GP p) :
    Calls Try.prog 34 #[.int .i64 p] w fun r w' => r = .returned (.bool true) ∧ w = w' := by
  rcases h with h | h | h | h
  all_goals
    subst h
    go_enter Try.func34, Try.ntmps34
    go_wp2
    go_ret
    exact ⟨rfl, rfl⟩
theorem l01Prime_f (p : Int) (w : World) (h : ¬ GP p) :
    Calls Try.prog 34 #[.int .i64 p] w fun r w' => r = .returned (.bool false) ∧ w = w' := by
  unfold GP at h
  have e1 : (p == 2) = false := beq_eq_false_iff_ne.2 (by omega)
  have e2 : (p == 3) = false := beq_eq_false_iff_ne.2 (by omega)
  have e3 : (p == 5) = false := beq_eq_false_iff_ne.2 (by omega)
  have e4 : (p == 7) = false := beq_eq_false_iff_ne.2 (by omega)
  clear h
  go_enter Try.func34, Try.ntmps34
  go_wp2
  go_ret
  exact ⟨rfl, rfl⟩

def ModBad (e m : Int) : Prop := m < 1 ∨ 1000000 < m ∨ (1 ≤ m ∧ m ≤ 1000000 ∧ e < 0) ∨ (1 ≤ m ∧ m ≤ 1000000 ∧ 1000000 < e)

set_option maxHeartbeats 400000 in
theorem impl_ModPower_ok (b : Int) (e : Nat) (m : Int) (w : World) (h1 : -9223372036854775808 ≤ b) (h2 : b ≤ 9223372036854775807) (h3 : 1 ≤ m) (h4 : m ≤ 1000000) (h5 : e ≤ 1000000) :
    Calls Try.prog 20 #[.int .i64 b, .int .i64 e, .int .i64 m] w fun r w' => r = .returned (.tuple #[.int .i64 (b ^ e % m), .int .i64 0]) ∧ w = w' := by
  have hb := emod_bd b m h3
  go_enter Try.func20, Try.ntmps20
  go_wp2_with (first | (go_at_call 42; refine (isModulus_t _ _ h3 h4).mono ?_; rintro e w' ⟨rfl, rfl⟩) | (go_at_call 44; refine (residue_any _ _ _ (by omega) (by omega) (by omega) (by omega)).mono ?_; rintro e w' ⟨rfl, rfl⟩) | (go_at_call 43; refine (powerMod_any _ _ _ _ hb.1 hb.2 (by omega) (by omega) (by omega)).mono ?_; rintro e w' ⟨rfl, rfl⟩))
  go_ret2
  exact ⟨ret_ii (pow_emod _ _ _) rfl, rfl⟩

set_option maxHeartbeats 400000 in
theorem impl_ModPower_bad (b : Int) (e : Int) (m : Int) (w : World) (h : ModBad e m) :
    Calls Try.prog 20 #[.int .i64 b, .int .i64 e, .int .i64 m] w fun r w' => r = .returned (.tuple #[.int .i64 0, .int .i64 2]) ∧ w = w' := by
  rcases h with h | h | ⟨h, h1, h2⟩ | ⟨h, h1, h2⟩
  all_goals
    go_enter Try.func20, Try.ntmps20
    go_wp2_with (first | (go_at_call 42; refine (isModulus_t _ _ (by omega) (by omega)).mono ?_; rintro e w' ⟨rfl, rfl⟩) | (go_at_call 42; refine (isModulus_f _ _ (by omega)).mono ?_; rintro e w' ⟨rfl, rfl⟩))
    go_ret2
    exact ⟨rfl, rfl⟩

set_option maxHeartbeats 400000 in
theorem spec_ModPower_ok (b : Int) (e : Nat) (m : Int) (w : World) (h1 : -9223372036854775808 ≤ b) (h2 : b ≤ 9223372036854775807) (h3 : 1 ≤ m) (h4 : m ≤ 1000000) (h5 : e ≤ 1000000) :
    Calls Try.prog 19 #[.int .i64 b, .int .i64 e, .int .i64 m] w fun r w' => r = .returned (.tuple #[.int .i64 (b ^ e % m), .int .i64 0]) ∧ w = w' := by
  have hb := emod_bd b m h3
  go_enter Try.func19, Try.ntmps19
  go_wp2_with (first | (go_at_call 35; refine (l01In_t _ _ _ _ (by omega) (by omega)).mono ?_; rintro e w' ⟨rfl, rfl⟩) | (go_at_call 41; refine (l01Mod_any _ _ _ (by omega) (by omega) (by omega) (by omega)).mono ?_; rintro e w' ⟨rfl, rfl⟩) | (go_at_call 40; refine (l01Power_any _ _ _ _ hb.1 hb.2 (by omega) (by omega) (by omega)).mono ?_; rintro e w' ⟨rfl, rfl⟩))
  go_ret2
  exact ⟨ret_ii (pow_emod _ _ _) rfl, rfl⟩

set_option maxHeartbeats 400000 in
theorem spec_ModPower_bad (b : Int) (e : Int) (m : Int) (w : World) (h : ModBad e m) :
    Calls Try.prog 19 #[.int .i64 b, .int .i64 e, .int .i64 m] w fun r w' => r = .returned (.tuple #[.int .i64 0, .int .i64 2]) ∧ w = w' := by
  rcases h with h | h | ⟨h, h1, h2⟩ | ⟨h, h1, h2⟩
  all_goals
    go_enter Try.func19, Try.ntmps19
    go_wp2_with (first | (go_at_call 35; refine (l01In_t _ _ _ _ (by omega) (by omega)).mono ?_; rintro e w' ⟨rfl, rfl⟩) | (go_at_call 35; refine (l01In_f _ _ _ _ (by omega)).mono ?_; rintro e w' ⟨rfl, rfl⟩))
    go_ret2
    exact ⟨rfl, rfl⟩

set_option maxHeartbeats 400000 in
theorem law_ModPower (b e m : Int) (w : World) (h : I64 b) (he : I64 e) (hm : I64 m) :
    Calls Try.prog 7 #[.int .i64 b, .int .i64 e, .int .i64 m] w fun r w' => r = .returned (.bool true) ∧ Below w.heap.size w w' := by
  obtain ⟨h1, h2⟩ := h
  by_cases hv : ModBad e m
  · go_enter Try.func7, Try.ntmps7
    go_wp2_with (first | (go_at_call 19; refine (spec_ModPower_bad _ _ _ _ hv).mono ?_; rintro e w' ⟨rfl, rfl⟩) | (go_at_call 20; refine (impl_ModPower_bad _ _ _ _ hv).mono ?_; rintro e w' ⟨rfl, rfl⟩))
    go_ret
    exact ⟨rfl, Below.refl _ _⟩
  · unfold ModBad at hv
    obtain ⟨n, rfl⟩ := Int.eq_ofNat_of_zero_le (show 0 ≤ e by omega)
    have h3 : 1 ≤ m := by omega
    have h4 : m ≤ 1000000 := by omega
    have h5 : n ≤ 1000000 := by omega
    clear hv
    go_enter Try.func7, Try.ntmps7
    go_wp2_with (first | (go_at_call 19; refine (spec_ModPower_ok _ _ _ _ h1 h2 h3 h4 h5).mono ?_; rintro e w' ⟨rfl, rfl⟩) | (go_at_call 20; refine (impl_ModPower_ok _ _ _ _ h1 h2 h3 h4 h5).mono ?_; rintro e w' ⟨rfl, rfl⟩))
    go_ret
    exact ⟨rfl, Below.refl _ _⟩

theorem law_Constants (w : World) : Calls Try.prog 3 #[] w fun r w' => r = .returned (.bool true) ∧ Below w.heap.size w w' := by
  go_enter Try.func3, Try.ntmps3
  go_wp2
  go_ret
  exact ⟨rfl, Below.refl _ _⟩

theorem law_IsGroupPrime (p : Int) (w : World) (h : I64 p) : Calls Try.prog 4 #[.int .i64 p] w fun r w' => r = .returned (.bool true) ∧ Below w.heap.size w w' := by
  by_cases hp : GP p
  · go_enter Try.func4, Try.ntmps4
    go_wp2_with (first | (go_at_call 14; refine (IsGroupPrime_t _ _ hp).mono ?_; rintro e w' ⟨rfl, rfl⟩) | (go_at_call 34; refine (l01Prime_t _ _ hp).mono ?_; rintro e w' ⟨rfl, rfl⟩) | go_in)
    go_ret
    exact ⟨rfl, Below.refl _ _⟩
  · go_enter Try.func4, Try.ntmps4
    go_wp2_with (first | (go_at_call 14; refine (IsGroupPrime_f _ _ hp).mono ?_; rintro e w' ⟨rfl, rfl⟩) | (go_at_call 34; refine (l01Prime_f _ _ hp).mono ?_; rintro e w' ⟨rfl, rfl⟩) | go_in)
    go_ret
    exact ⟨rfl, Below.refl _ _⟩
end Go.Proofs.Yteeinbcajdpenaa
