/- The laws' helpers on abelian groups: marks. -/
import Derived.Test.YtfinngmohhnnoaaDoorAb
import Derived.Test.YtfinngmohhnnoaaDoorLawKit
set_option linter.unusedVariables false
set_option linter.unusedSimpArgs false
namespace Go.Proofs.YtfinngmohhnnoaaDoor
open Go.RowKit

theorem WrI.alloc {T : TypeId} {w : World} {a : Option Addr} {n : Nat} (h : WrI T w a n) (o : Obj) : WrI T (w.alloc o) a n := fun h0 => by
  obtain ⟨b, o', cur, ha, hb, hs⟩ := h h0
  exact ⟨b, o', cur, ha, (Below.heap_alloc _ _ _ (Array.getElem?_eq_some_iff.1 hb).1).trans hb, hs⟩
set_option maxHeartbeats 1000000 in
theorem markAbelian_t (T : TypeId) (a : Option Addr) (n c : Nat) (r m : Int) (w : World) (ha : WrI T w a n) (hl : n ≤ 1000000000000) (h0 : 0 ≤ m) (h1 : m ≤ 1000000000000000) :
    Calls Tryd.prog 12 #[.agg #[.slice a n c, .int .i64 r], .int .i64 m] w fun e w' => e = .returned (.int .i64 (m + n)) ∧ RdI w' a (marks m n) ∧ Chg (fun j => ∃ p, a = some p ∧ p.block = j) w w' := by
  have HA := Lib.hid ha
  clear ha
  go_enter Tryd.func12, Tryd.ntmps12
  go_wp2_with fail
  refine (markInt64S_t T _ _ n _ _ (by exact HA.out.alloc _) hl h0 h1).mono ?_
  rintro e w1 ⟨rfl, hr, hc⟩
  have HR := Lib.hid hr
  have HC : Hid (Chg (fun j => ∃ p, a = some p ∧ p.block = j) w w1) := Lib.hid (((Chg.refl _ w).alloc _).trans hc)
  clear hr hc
  go_wp2_with fail
  go_ret
  exact ⟨rfl, HR.out, HC.out⟩
set_option maxHeartbeats 1000000 in
theorem heldAbelian_t (a : Option Addr) (n c : Nat) (r m : Int) (w : World) (ha : RdI w a (marks m n)) (hl : n ≤ 1000000000000) (h0 : 0 ≤ m) (h1 : m ≤ 1000000000000000) :
    Calls Tryd.prog 13 #[.agg #[.slice a n c, .int .i64 r], .int .i64 m] w fun e w' => e = .returned (.int .i64 (m + n)) ∧ Below w.heap.size w w' := by
  have HA := Lib.hid ha
  clear ha
  go_enter Tryd.func13, Tryd.ntmps13
  go_wp2_with fail
  refine (heldInt64S_t _ _ _ _ _ (by exact HA.out.alloc _) hl h0 h1).mono ?_
  rintro e w1 ⟨rfl, rfl⟩
  go_wp2_with fail
  go_ret
  exact ⟨rfl, (Below.refl _ _).alloc (Nat.le_refl _) _⟩
theorem szAbelian_any (a : Option Addr) (n c : Nat) (r left : Int) (w : World) (h0 : 0 ≤ left) (h1 : left ≤ 1048576) (hn : n ≤ 9223372036854775807) :
    Calls Tryd.prog 5 #[.agg #[.slice a n c, .int .i64 r], .int .i64 left] w fun e w' => ∃ z : Int, e = .returned (.int .i64 z) ∧ (z = -1 ∨ (0 ≤ z ∧ z ≤ left ∧ (n : Int) ≤ left)) ∧ Below w.heap.size w w' := by
  by_cases h : (n : Int) ≤ left
  · exact (szAbelian_t a n c r left w h h1).mono fun e w' ⟨h1, h2⟩ => ⟨_, h1, .inr ⟨by omega, by omega, h⟩, h2⟩
  · exact (szAbelian_f a n c r left w (by omega) h0 hn).mono fun e w' ⟨h1, h2⟩ => ⟨_, h1, .inl rfl, h2⟩
end Go.Proofs.YtfinngmohhnnoaaDoor
