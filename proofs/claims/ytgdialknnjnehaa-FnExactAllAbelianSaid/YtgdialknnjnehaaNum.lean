/- Contracts of the program's and the reference's functions on single numbers. -/
import Derived.Test.YtgdialknnjnehaaProg
import Derived.Test.YtgdialknnjnehaaArith
import Derived.WalkKit
import Derived.WalkSpells
import Derived.WalkLawsBesides
import Derived.Deep.QuietTactic
import Derived.Deep.Draws
import Derived.BigQuiet
import Derived.Lib.Hide
set_option linter.unusedVariables false
set_option linter.unusedSimpArgs false
namespace Go.Proofs.Ytgdialknnjnehaa
open Go.RowKit

theorem ret_int {k : IntKind} {a b : Int} (h : a = b) : Ending.returned (.int k a) = .returned (.int k b) := by rw [h]
theorem ret_ib {k : IntKind} {a b : Int} {s t : Bool} (h : a = b) (h2 : s = t) : Ending.returned (.tuple #[.int k a, .bool s]) = .returned (.tuple #[.int k b, .bool t]) := by rw [h, h2]
theorem ret_ii {k l : IntKind} {a b c d : Int} (h : a = b) (h2 : c = d) : Ending.returned (.tuple #[.int k a, .int l c]) = .returned (.tuple #[.int k b, .int l d]) := by rw [h, h2]

theorem quiet_eq {P : Program} {f : FuncId} {args : Array Value} {w : World} {n : Nat} {v : Value} (h : Calls P f args (w.drewN n) fun e w' => e = .returned v ∧ w.drewN n = w') : Calls P f args (w.drewN n) fun e w'' => e = .returned v ∧ ∃ m, w'' = w.drewN m :=
  h.mono fun _ _ ⟨he, hm⟩ => ⟨he, n, hm.symm⟩
/-- a 64-bit integer -/
def I64 (a : Int) : Prop := -9223372036854775808 ≤ a ∧ a ≤ 9223372036854775807
theorem wf_bd {a : Int} (h : (Lit.int .i64 a).wf = true) : I64 a := by
  simp [Lit.wf, IntKind.min, IntKind.max, IntKind.signed, IntKind.bits] at h
  unfold I64
  omega

set_option maxHeartbeats 400000 in
theorem abs_any (a : Int) (w : World) (h1 : -9223372036854775807 ≤ a) (h2 : a ≤ 9223372036854775807) :
    Calls Try.prog 72 #[.int .i64 a] w fun e w' => e = .returned (.int .i64 (max a (-a))) ∧ w = w' := by
  go_enter Try.func72, Try.ntmps72
  go_wp2
  all_goals
    go_ret
    exact ⟨ret_int (by omega), rfl⟩




set_option maxHeartbeats 400000 in
theorem gcd_any (a b : Int) (w : World) (h3 : -4611686018427387904 ≤ a) (h4 : -4611686018427387904 ≤ b) (h5 : a ≤ 4611686018427387904) (h6 : b ≤ 4611686018427387904) :
    Calls Try.prog 54 #[.int .i64 a, .int .i64 b] w fun e w' => e = .returned (.int .i64 (Int.gcd a b)) ∧ ∃ n, w' = w.drewN n := by
  go_enter Try.func54, Try.ntmps54
  go_wp2
  go_loopw [0, 1] (fun u v wr => ∃ x y : Int, u = .int .i64 x ∧ v = .int .i64 y ∧ Int.gcd x y = Int.gcd a b ∧ -4611686018427387904 ≤ x ∧ x ≤ 4611686018427387904 ∧  -4611686018427387904 ≤ y ∧ y ≤ 4611686018427387904 ∧ ∃ n, wr = w.drewN n)
    (fun _ v _ => (intOf v).natAbs)
  case atStart => exact ⟨a, b, rfl, rfl, rfl, h3, h5, h4, h6, 0, rfl⟩
  case round =>
    obtain ⟨x, y, rfl, rfl, hg, h7, h8, h9, h10, n, rfl⟩ := hrel
    have Hg := Lib.hid hg
    clear hg
    by_cases hy : y = 0
    · obtain rfl := hy
      go_wp2_with (go_at_call 72; refine (abs_any _ _ (by omega) (by omega)).mono ?_; rintro e w' ⟨rfl, rfl⟩)
      go_ret
      exact ⟨ret_int (by rw [← Hg.out]; simp; omega), n, rfl⟩
    · have hb := tmod_abs_le x y 4611686018427387904 hy h9 h10
      go_wp2
      go_quiet (fail)
      go_wp2
      go_roundw
      case rel => exact ⟨y, x.tmod y, rfl, rfl, by rw [gcd_tmod]; exact Hg.out, h9, h10, hb.1, hb.2, n + nq, by simp⟩
      case measure => exact natAbs_tmod_lt x y hy

set_option maxHeartbeats 400000 in
theorem l04Gcd_any (a b : Int) (w : World) (h3 : -4611686018427387904 ≤ a) (h4 : -4611686018427387904 ≤ b) (h5 : a ≤ 4611686018427387904) (h6 : b ≤ 4611686018427387904) :
    Calls Try.prog 53 #[.int .i64 a, .int .i64 b] w fun e w' => e = .returned (.int .i64 (Int.gcd a b)) ∧ ∃ n, w' = w.drewN n := by
  go_enter Try.func53, Try.ntmps53
  go_wp2
  go_loopw [0, 1] (fun u v wr => ∃ x y : Int, u = .int .i64 x ∧ v = .int .i64 y ∧ Int.gcd x y = Int.gcd a b ∧ -4611686018427387904 ≤ x ∧ x ≤ 4611686018427387904 ∧  -4611686018427387904 ≤ y ∧ y ≤ 4611686018427387904 ∧ ∃ n, wr = w.drewN n)
    (fun _ v _ => (intOf v).natAbs)
  case atStart => exact ⟨a, b, rfl, rfl, rfl, h3, h5, h4, h6, 0, rfl⟩
  case round =>
    obtain ⟨x, y, rfl, rfl, hg, h7, h8, h9, h10, n, rfl⟩ := hrel
    have Hg := Lib.hid hg
    clear hg
    by_cases hy : y = 0
    · obtain rfl := hy
      go_wp2
      all_goals
        go_ret
        exact ⟨ret_int (by rw [← Hg.out]; simp; omega), n, rfl⟩
    · have hb := tmod_abs_le x y 4611686018427387904 hy h9 h10
      go_wp2
      go_quiet (fail)
      go_wp2
      go_roundw
      case rel => exact ⟨y, x.tmod y, rfl, rfl, by rw [gcd_tmod]; exact Hg.out, h9, h10, hb.1, hb.2, n + nq, by simp⟩
      case measure => exact natAbs_tmod_lt x y hy







set_option maxHeartbeats 400000 in
theorem integerPower_any (b : Int) (e : Nat) (w : World) (h1 : 1 ≤ b) (h2 : b ^ e ≤ 1000000000000000000) (h3 : e ≤ 1000000) :
    Calls Try.prog 67 #[.int .i64 b, .int .i64 e] w fun r w' => r = .returned (.int .i64 (b ^ e)) ∧ w = w' := by
  have mono : ∀ i j : Nat, i ≤ j → b ^ i ≤ b ^ j := by
    intro i j hij
    obtain ⟨d, rfl⟩ := Nat.exists_eq_add_of_le hij
    rw [Int.pow_add]
    have h5 : 0 < b ^ i := Int.pow_pos (by omega)
    have h6 : 0 < b ^ d := Int.pow_pos (by omega)
    have := Int.mul_le_mul_of_nonneg_left (show 1 ≤ b ^ d by omega) (show 0 ≤ b ^ i by omega)
    omega
  have H2 := Lib.hid h2
  have Hm := Lib.hid mono
  clear h2 mono
  go_enter Try.func67, Try.ntmps67
  go_wp2
  go_loop [5, 7] (fun o i => ∃ k : Nat, o = .int .i64 (b ^ k) ∧ i = .int .i64 k ∧ k ≤ e)
    (fun _ i => e - (intOf i).toNat)
  case atStart => exact ⟨0, by simp, rfl, by omega⟩
  case round =>
    obtain ⟨k, rfl, rfl, hk⟩ := hrel
    by_cases hlt : k < e
    · have q1 : b ^ k * b ≤ 1000000000000000000 := by rw [← Int.pow_succ]; exact Int.le_trans (Hm.out _ _ hlt) H2.out
      have q0 : 0 ≤ b ^ k * b := by rw [← Int.pow_succ]; exact Int.pow_nonneg (by omega)
      go_wp2
      go_round
      case rel => exact ⟨k + 1, by rw [Int.pow_succ], by go_num, by omega⟩
      case measure => simp [intOf]; omega
    · obtain rfl : k = e := by omega
      go_wp2
      go_ret
      exact ⟨rfl, rfl⟩
end Go.Proofs.Ytgdialknnjnehaa
