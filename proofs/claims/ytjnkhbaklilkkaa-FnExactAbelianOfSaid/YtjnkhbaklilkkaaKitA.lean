/- The laws' helpers on abelian groups: marks. -/
import Derived.Test.YtjnkhbaklilkkaaAb
import Derived.Test.YtjnkhbaklilkkaaLawKit
set_option linter.unusedVariables false
set_option linter.unusedSimpArgs false
namespace Go.Proofs.Ytjnkhbaklilkkaa
open Go.RowKit

theorem WrI.alloc {T : TypeId} {w : World} {a : Option Addr} {n : Nat} (h : WrI T w a n) (o : Obj) : WrI T (w.alloc o) a n := fun h0 => by
  obtain ⟨b, o', cur, ha, hb, hs⟩ := h h0
  exact ⟨b, o', cur, ha, (Below.heap_alloc _ _ _ (Array.getElem?_eq_some_iff.1 hb).1).trans hb, hs⟩
set_option maxHeartbeats 1000000 in
theorem markAbelian_t (T : TypeId) (a : Option Addr) (n c : Nat) (r m : Int) (w : World) (ha : WrI T w a n) (hl : n ≤ 1000000000000) (h0 : 0 ≤ m) (h1 : m ≤ 1000000000000000) :
    Calls Try.prog 51 #[.agg #[.slice a n c, .int .i64 r], .int .i64 m] w fun e w' => e = .returned (.int .i64 (m + n)) ∧ RdI w' a (marks m n) ∧ Chg (fun j => ∃ p, a = some p ∧ p.block = j) w w' := by
  have HA := Lib.hid ha
  clear ha
  go_enter Try.func51, Try.ntmps51
  go_wp2_with fail
  refine (markInt64S_t T _ _ n _ _ (by exact HA.out.alloc _) hl h0 h1).mono ?_
  rintro e w1 ⟨rfl, hr, hc⟩
  have HR := Lib.hid hr
  have HC : Hid (Chg (fun j => ∃ p, a = some p ∧ p.block = j) w w1) := Lib.hid (((Chg.refl _ w).alloc _).trans hc)
  clear hr hc
  go_wp2_with fail
  go_ret
  exact ⟨rfl, HR.out, HC.out⟩
set_option maxHeartbeats 1000000 in
theorem heldAbelian_t (a : Option Addr) (n c : Nat) (r m : Int) (w : World) (ha : RdI w a (marks m n)) (hl : n ≤ 1000000000000) (h0 : 0 ≤ m) (h1 : m ≤ 1000000000000000) :
    Calls Try.prog 52 #[.agg #[.slice a n c, .int .i64 r], .int .i64 m] w fun e w' => e = .returned (.int .i64 (m + n)) ∧ Below w.heap.size w w' := by
  have HA := Lib.hid ha
  clear ha
  go_enter Try.func52, Try.ntmps52
  go_wp2_with fail
  refine (heldInt64S_t _ _ _ _ _ (by exact HA.out.alloc _) hl h0 h1).mono ?_
  rintro e w1 ⟨rfl, rfl⟩
  go_wp2_with fail
  go_ret
  exact ⟨rfl, (Below.refl _ _).alloc (Nat.le_refl _) _⟩
end Go.Proofs.Ytjnkhbaklilkkaa
