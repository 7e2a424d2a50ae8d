/- Contracts of the program's and the reference's functions on single numbers. -/
import Derived.Test.YtcnphhcdjhmmkaaProg
import Derived.Test.YtcnphhcdjhmmkaaArith
import Derived.WalkKit
import Derived.WalkSpells
import Derived.WalkLawsBesides
import Derived.Deep.QuietTactic
import Derived.Deep.Draws
import Derived.BigQuiet
import Derived.Lib.Hide
set_option linter.unusedVariables false
set_option linter.unusedSimpArgs false
namespace Go.Proofs.Ytcnphhcdjhmmkaa
open Go.RowKit

theorem ret_int {k : IntKind} {a b : Int} (h : a = b) : Ending.returned (.int k a) = .returned (.int k b) := by rw [h]
theorem ret_ib {k : IntKind} {a b : Int} {s t : Bool} (h : a = b) (h2 : s = t) : Ending.returned (.tuple #[.int k a, .bool s]) = .returned (.tuple #[.int k b, .bool t]) := by rw [h, h2]
theorem ret_ii {k l : IntKind} {a b c d : Int} (h : a = b) (h2 : c = d) : Ending.returned (.tuple #[.int k a, .int l c]) = .returned (.tuple #[.int k b, .int l d]) := by rw [h, h2]

theorem quiet_eq {P : Program} {f : FuncId} {args : Array Value} {w : World} {n : Nat} {v : Value} (h : Calls P f args (w.drewN n) fun e w' => e = .returned v ∧ w.drewN n = w') : Calls P f args (w.drewN n) fun e w'' => e = .returned v ∧ ∃ m, w'' = w.drewN m :=
  h.mono fun _ _ ⟨he, hm⟩ => ⟨he, n, hm.symm⟩
/-- a 64-bit integer -/
def I64 (a : Int) : Prop := -9223372036854775808 ≤ a ∧ a ≤ 9223372036854775807
theorem wf_bd {a : Int} (h : (Lit.int .i64 a).wf = true) : I64 a := by
  simp [Lit.wf, IntKind.min, IntKind.max, IntKind.signed, IntKind.bits] at h
  unfold I64
  omega

set_option maxHeartbeats 400000 in
theorem abs_any (a : Int) (w : World) (h1 : -9223372036854775807 ≤ a) (h2 : a ≤ 9223372036854775807) :
    Calls Try.prog 25 #[.int .i64 a] w fun e w' => e = .returned (.int .i64 (max a (-a))) ∧ w = w' := by
  go_enter Try.func25, Try.ntmps25
  go_wp2
  all_goals
    go_ret
    exact ⟨ret_int (by omega), rfl⟩




set_option maxHeartbeats 400000 in
theorem gcd_any (a b : Int) (w : World) (h3 : -4611686018427387904 ≤ a) (h4 : -4611686018427387904 ≤ b) (h5 : a ≤ 4611686018427387904) (h6 : b ≤ 4611686018427387904) :
    Calls Try.prog 47 #[.int .i64 a, .int .i64 b] w fun e w' => e = .returned (.int .i64 (Int.gcd a b)) ∧ ∃ n, w' = w.drewN n := by
  go_enter Try.func47, Try.ntmps47
  go_wp2
  go_loopw [0, 1] (fun u v wr => ∃ x y : Int, u = .int .i64 x ∧ v = .int .i64 y ∧ Int.gcd x y = Int.gcd a b ∧ -4611686018427387904 ≤ x ∧ x ≤ 4611686018427387904 ∧  -4611686018427387904 ≤ y ∧ y ≤ 4611686018427387904 ∧ ∃ n, wr = w.drewN n)
    (fun _ v _ => (intOf v).natAbs)
  case atStart => exact ⟨a, b, rfl, rfl, rfl, h3, h5, h4, h6, 0, rfl⟩
  case round =>
    obtain ⟨x, y, rfl, rfl, hg, h7, h8, h9, h10, n, rfl⟩ := hrel
    have Hg := Lib.hid hg
    clear hg
    by_cases hy : y = 0
    · obtain rfl := hy
      go_wp2_with (go_at_call 25; refine (abs_any _ _ (by omega) (by omega)).mono ?_; rintro e w' ⟨rfl, rfl⟩)
      go_ret
      exact ⟨ret_int (by rw [← Hg.out]; simp; omega), n, rfl⟩
    · have hb := tmod_abs_le x y 4611686018427387904 hy h9 h10
      go_wp2
      go_quiet (fail)
      go_wp2
      go_roundw
      case rel => exact ⟨y, x.tmod y, rfl, rfl, by rw [gcd_tmod]; exact Hg.out, h9, h10, hb.1, hb.2, n + nq, by simp⟩
      case measure => exact natAbs_tmod_lt x y hy








end Go.Proofs.Ytcnphhcdjhmmkaa
