/- slices.IndexFunc with pivots' test: where a row's first entry other than 0 stands. -/
import Derived.Test.YtpkdgemnddcefaaTab
import Derived.Test.YtpkdgemnddcefaaIns
set_option linter.unusedVariables false
set_option linter.unusedSimpArgs false
namespace Go.Proofs.Ytpkdgemnddcefaa
open Go.RowKit

set_option maxHeartbeats 400000 in
theorem pivots1_any (x : Int) (w : World) :
    Calls Try.prog 64 #[.int .i64 x] w fun e w' => e = .returned (.bool !(x == 0)) ∧ w = w' := by
  by_cases h : x = 0
  · subst h
    go_enter Try.func64, Try.ntmps64
    go_wp2
    go_ret
    exact ⟨ret_bool (by simp), rfl⟩
  · rw [show (!(x == 0)) = true from by simp [h]]
    go_enter Try.func64, Try.ntmps64
    go_wp2
    go_ret
    refine ⟨?_, rfl⟩
    simp [h]
set_option maxHeartbeats 800000 in
theorem indexLead_any (a : Option Addr) (n c : Nat) (xs : List Int) (k0 : Nat) (w : World) (ha : RdI w a xs) (hl : xs.length = n) (hn : n ≤ 1048576) (hk : k0 < n) (hlead : IsLead xs k0) :
    Calls Try.prog 63 #[.slice a n c, .func (.func 64) #[] #[]] w fun e w' => e = .returned (.int .i64 k0) ∧ w = w' := by
  have HA := Lib.hid ha
  have HL := Lib.hid hl
  have HD := Lib.hid hlead
  clear ha hl hlead
  go_enter Try.func63, Try.ntmps63
  go_wp2
  go_loop [8] (fun i => ∃ k : Nat, k ≤ k0 ∧ i = .int .i64 k) (fun i => n - (intOf i).toNat)
  case atStart => exact ⟨0, Nat.zero_le _, rfl⟩
  case round =>
    obtain ⟨k, hkk, rfl⟩ := hrel
    have hlt : k < n := by omega
    obtain ⟨b, o, rfl, hc⟩ := HA.out (by rw [HL.out]; omega)
    have d := hc k (by rw [HL.out]; exact hlt)
    clear hc
    by_cases he : k = k0
    · subst he
      have H : Hid ((!(el xs k == 0)) = true) := Lib.hid (by have := HD.out.2.2 (by rw [HL.out]; exact hlt); simp [this])
      go_wp2_with (go_at_call 64; refine (pivots1_any _ _).mono ?_; rintro e w' ⟨rfl, rfl⟩; rw [H.out])
      go_ret
      exact ⟨rfl, rfl⟩
    · have H : Hid ((!(el xs k == 0)) = false) := Lib.hid (by have := HD.out.2.1 k (by omega); simp [this])
      go_wp2_with (go_at_call 64; refine (pivots1_any _ _).mono ?_; rintro e w' ⟨rfl, rfl⟩; rw [H.out])
      go_round
      case rel => exact ⟨k + 1, by omega, by go_num⟩
      case measure => simp [intOf]; omega
end Go.Proofs.Ytpkdgemnddcefaa
