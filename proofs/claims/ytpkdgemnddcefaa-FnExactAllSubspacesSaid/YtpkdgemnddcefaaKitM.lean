/- The laws' helpers on matrices. -/
import Derived.Test.YtpkdgemnddcefaaTab
import Derived.Test.YtpkdgemnddcefaaHeld
set_option linter.unusedVariables false
set_option linter.unusedSimpArgs false
namespace Go.Proofs.Ytpkdgemnddcefaa
open Go.RowKit

set_option maxHeartbeats 400000 in
theorem eqMatrix_t (p q : Int) (a b : Option Addr) (n m ca cb : Nat) (xss : List (List Int)) (w : World) (ha : RdR w a xss) (hb : RdR w b xss) (hn : xss.length = n) (hm : xss.length = m) (hl : n ≤ 1048576) (hx : ∀ i, i < n → (rw_ xss i).length ≤ 1048576) :
    Calls Try.prog 38 #[.agg #[.int .i64 p, .int .i64 q, .slice a n ca], .agg #[.int .i64 p, .int .i64 q, .slice b m cb]] w fun e w' => e = .returned (.bool true) ∧ Below w.heap.size w w' := by
  have HA := Lib.hid ha
  have HB := Lib.hid hb
  have HN := Lib.hid hn
  have HM := Lib.hid hm
  have HX := Lib.hid hx
  clear ha hb hn hm hx
  go_enter Try.func38, Try.ntmps38
  go_wp2_with fail
  refine (eqInt64SS_t _ _ _ _ _ _ xss _ (by exact (HA.out.alloc _).alloc _) (by exact (HB.out.alloc _).alloc _) HN.out HM.out (by omega) HX.out).mono ?_
  rintro e w' ⟨rfl, t, rfl⟩
  go_wp2_with fail
  go_ret
  exact ⟨rfl, below_drewN' (((Below.refl _ _).alloc (Nat.le_refl _) _).alloc (by simp) _) _⟩
end Go.Proofs.Ytpkdgemnddcefaa
