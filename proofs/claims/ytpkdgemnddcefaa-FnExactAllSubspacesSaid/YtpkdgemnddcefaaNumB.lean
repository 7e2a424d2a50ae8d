/- Contracts of the chapter on numbers: the exported functions of the program and of the reference. -/
import Derived.Test.YtpkdgemnddcefaaNum
set_option linter.unusedVariables false
set_option linter.unusedSimpArgs false
namespace Go.Proofs.Ytpkdgemnddcefaa
open Go.RowKit

theorem inside_t (n a b : Int) (w : World) (h1 : a ≤ n) (h2 : n ≤ b) :
    Calls Try.prog 59 #[.int .i64 n, .int .i64 a, .int .i64 b] w fun r w' => r = .returned (.bool true) ∧ w = w' := by
  have e : decide (n ≤ b) = true := by simpa using h2
  go_enter Try.func59, Try.ntmps59
  go_wp2
  go_ret
  exact ⟨rfl, rfl⟩
theorem inside_f (n a b : Int) (w : World) (h : n < a ∨ b < n) :
    Calls Try.prog 59 #[.int .i64 n, .int .i64 a, .int .i64 b] w fun r w' => r = .returned (.bool false) ∧ w = w' := by
  by_cases h1 : a ≤ n
  · have e : decide (n ≤ b) = false := by simp; omega
    go_enter Try.func59, Try.ntmps59
    go_wp2
    go_ret
    exact ⟨rfl, rfl⟩
  · go_enter Try.func59, Try.ntmps59
    go_wp2
    go_ret
    exact ⟨rfl, rfl⟩
theorem l01In_t (n a b : Int) (w : World) (h1 : a ≤ n) (h2 : n ≤ b) :
    Calls Try.prog 67 #[.int .i64 n, .int .i64 a, .int .i64 b] w fun r w' => r = .returned (.bool true) ∧ w = w' := by
  have e : decide (n ≤ b) = true := by simpa using h2
  go_enter Try.func67, Try.ntmps67
  go_wp2
  go_ret
  exact ⟨rfl, rfl⟩
theorem l01In_f (n a b : Int) (w : World) (h : n < a ∨ b < n) :
    Calls Try.prog 67 #[.int .i64 n, .int .i64 a, .int .i64 b] w fun r w' => r = .returned (.bool false) ∧ w = w' := by
  by_cases h1 : a ≤ n
  · have e : decide (n ≤ b) = false := by simp; omega
    go_enter Try.func67, Try.ntmps67
    go_wp2
    go_ret
    exact ⟨rfl, rfl⟩
  · go_enter Try.func67, Try.ntmps67
    go_wp2
    go_ret
    exact ⟨rfl, rfl⟩
/-- a group prime -/
def GP (p : Int) : Prop := p = 2 ∨ p = 3 ∨ p = 5 ∨ p = 7
theorem IsGroupPrime_t (p : Int) (w : World) (h : GP p) :
    Calls Try.prog 58 #[.int .i64 p] w fun r w' => r = .returned (.bool true) ∧ w = w' := by
  rcases h with h | h | h | h
  all_goals
    subst h
    go_enter Try.func58, Try.ntmps58
    go_wp2
    go_ret
    exact ⟨rfl, rfl⟩
theorem IsGroupPrime_f (p : Int) (w : World) (h : ¬ GP p) :
    Calls Try.prog 58 #[.int .i64 p] w fun r w' => r = .returned (.bool false) ∧ w = w' := by
  unfold GP at h
  have e1 : (p == 2) = false := beq_eq_false_iff_ne.2 (by omega)
  have e2 : (p == 3) = false := beq_eq_false_iff_ne.2 (by omega)
  have e3 : (p == 5) = false := beq_eq_false_iff_ne.2 (by omega)
  have e4 : (p == 7) = false := beq_eq_false_iff_ne.2 (by omega)
  clear h
  go_enter Try.func58, Try.ntmps58
  go_wp2
  go_ret
  exact ⟨rfl, rfl⟩
theorem l01Prime_t (p : Int) (w : World) (h : GP p) :
    Calls Try.prog 66 #[.int .i64 p] w fun r w' => r = .returned (.bool true) ∧ w = w' := by
  rcases h with h | h | h | h
  all_goals
    subst h
    go_enter Try.func66, Try.ntmps66
    go_wp2
    go_ret
    exact ⟨rfl, rfl⟩
theorem l01Prime_f (p : Int) (w : World) (h : ¬ GP p) :
    Calls Try.prog 66 #[.int .i64 p] w fun r w' => r = .returned (.bool false) ∧ w = w' := by
  unfold GP at h
  have e1 : (p == 2) = false := beq_eq_false_iff_ne.2 (by omega)
  have e2 : (p == 3) = false := beq_eq_false_iff_ne.2 (by omega)
  have e3 : (p == 5) = false := beq_eq_false_iff_ne.2 (by omega)
  have e4 : (p == 7) = false := beq_eq_false_iff_ne.2 (by omega)
  clear h
  go_enter Try.func66, Try.ntmps66
  go_wp2
  go_ret
  exact ⟨rfl, rfl⟩






/-! ### PrimePart -/
def PPBad (n p : Int) : Prop := n < 1 ∨ 1000000 < n ∨ (1 ≤ n ∧ n ≤ 1000000 ∧ ¬ GP p)
theorem GP.bd {p : Int} (h : GP p) : 2 ≤ p ∧ p ≤ 7 := by unfold GP at h; omega

/-! ### ModInverse -/
theorem Below.ofDrew {w w' : World} (h : ∃ n, w' = w.drewN n) : Below w.heap.size w w' := by
  obtain ⟨n, rfl⟩ := h
  exact ⟨rfl, rfl, rfl, Nat.le_refl _, fun _ _ => rfl⟩

/-! ### RationalMod -/
theorem gp_inv {p a : Int} (hp : GP p) (h : a % p ≠ 0) : Int.gcd a p = 1 := by
  rw [← gcd_emod]
  have h0 := hp.bd
  have hb := emod_bd a p (by omega)
  generalize a % p = r at *
  rcases hp with hp | hp | hp | hp
  · subst hp
    obtain rfl : r = 1 := by omega
    decide
  · subst hp
    have : r = 1 ∨ r = 2 := by omega
    rcases this with rfl | rfl <;> decide
  · subst hp
    have : r = 1 ∨ r = 2 ∨ r = 3 ∨ r = 4 := by omega
    rcases this with rfl | rfl | rfl | rfl <;> decide
  · subst hp
    have : r = 1 ∨ r = 2 ∨ r = 3 ∨ r = 4 ∨ r = 5 ∨ r = 6 := by omega
    rcases this with rfl | rfl | rfl | rfl | rfl | rfl <;> decide
theorem gp_noinv {p a : Int} (hp : GP p) (h : a % p = 0) : Int.gcd a p ≠ 1 := by
  rw [← gcd_emod, h]
  have := hp.bd
  simp
  omega
def RMBad (num den p : Int) : Prop := num < -1000000 ∨ 1000000 < num ∨ (-1000000 ≤ num ∧ num ≤ 1000000 ∧ (den < -1000000 ∨ 1000000 < den)) ∨ (-1000000 ≤ num ∧ num ≤ 1000000 ∧ -1000000 ≤ den ∧ den ≤ 1000000 ∧ ¬ GP p)

/-! ### UnitOrder -/
end Go.Proofs.Ytpkdgemnddcefaa
