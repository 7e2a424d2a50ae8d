/- Whether a list of integers is zero: the program and the reference. -/
import Derived.Test.YtpkdgemnddcefaaTab
set_option linter.unusedVariables false
set_option linter.unusedSimpArgs false
namespace Go.Proofs.Ytpkdgemnddcefaa
open Go.RowKit

def AllZ (xs : List Int) : Prop := ∀ j, j < xs.length → el xs j = 0
instance (xs : List Int) : Decidable (AllZ xs) := by unfold AllZ; exact inferInstance
def zeroB (xs : List Int) : Bool := decide (AllZ xs)
theorem zeroB_t {xs : List Int} (h : AllZ xs) : zeroB xs = true := by unfold zeroB; simpa using h
theorem zeroB_f {xs : List Int} (h : ¬ AllZ xs) : zeroB xs = false := by unfold zeroB; simpa using h
set_option maxHeartbeats 400000 in
theorem isZero_any (a : Option Addr) (n c : Nat) (xs : List Int) (w : World) (ha : RdI w a xs) (hl : xs.length = n) (hn : n ≤ 1048576) :
    Calls Try.prog 91 #[.slice a n c] w fun e w' => e = .returned (.bool (zeroB xs)) ∧ w = w' := by
  have HA := Lib.hid ha
  have HL := Lib.hid hl
  clear ha hl
  have H0 : Hid (∀ j, j < 0 → el xs j = 0) := Lib.hid fun j h => absurd h (by omega)
  go_enter Try.func91, Try.ntmps91
  go_wp2
  go_loop [7] (fun i => ∃ k : Nat, k ≤ n ∧ i = .int .i64 k ∧ Hid (∀ j, j < k → el xs j = 0)) (fun i => n - (intOf i).toNat)
  case atStart => exact ⟨0, Nat.zero_le _, rfl, H0⟩
  case round =>
    obtain ⟨k, hk, rfl, HK⟩ := hrel
    clear H0
    by_cases hlt : k < n
    · obtain ⟨b, o, rfl, hc⟩ := HA.out (by rw [HL.out]; omega)
      have d := hc k (by rw [HL.out]; exact hlt)
      clear hc
      by_cases hz : el xs k = 0
      · have HK1 : Hid (∀ j, j < k + 1 → el xs j = 0) := Lib.hid fun j hj => by
          by_cases he : j = k
          · rw [he]; exact hz
          · exact HK.out j (by omega)
        rw [hz] at d
        clear hz
        go_wp2
        go_round
        case rel => exact ⟨k + 1, by omega, by go_num, HK1⟩
        case measure => simp [intOf]; omega
      · have H := Lib.hid (zeroB_f (xs := xs) (fun h => hz (h k (by rw [HL.out]; exact hlt))))
        go_wp2
        go_ret
        exact ⟨ret_bool H.out.symm, rfl⟩
    · obtain rfl : k = n := by omega
      have H := Lib.hid (zeroB_t (xs := xs) (fun j hj => HK.out j (by rw [HL.out] at hj; exact hj)))
      go_wp2
      go_ret
      exact ⟨ret_bool H.out.symm, rfl⟩
end Go.Proofs.Ytpkdgemnddcefaa
