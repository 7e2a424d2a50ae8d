/- The laws' own helpers on slices of slices of integers: size, copy, equality, marks. -/
import Derived.Test.YtfinngmohhnnoaaDoorNum
import Derived.Test.YtfinngmohhnnoaaDoorNumB
import Derived.Test.YtfinngmohhnnoaaDoorLawKit
import Derived.Test.YtfinngmohhnnoaaDoorAb
set_option linter.unusedVariables false
set_option linter.unusedSimpArgs false
namespace Go.Proofs.YtfinngmohhnnoaaDoor
open Go.RowKit

theorem Tryd.infoR : (Tryd.prog.info? 22).map (fun i => (i.zero, i.size, i.bytes)) = some (some (.slice none 0 0), 1, 24) := by kernel_rfl

theorem quiet_ex {P : Program} {f : FuncId} {args : Array Value} {w : World} {n : Nat} {v : Value} (h : Calls P f args (w.drewN n) fun e w' => e = .returned v ∧ ∃ m, w' = (w.drewN n).drewN m) : Calls P f args (w.drewN n) fun e w'' => e = .returned v ∧ ∃ m, w'' = w.drewN m :=
  h.mono fun _ _ ⟨he, m, hm⟩ => ⟨he, n + m, by rw [hm]; simp⟩

theorem szInt64S_any (a : Option Addr) (n c : Nat) (left : Int) (w : World) (h0 : 0 ≤ left) (h1 : left ≤ 1048576) (hn : n ≤ 9223372036854775807) :
    Calls Tryd.prog 14 #[.slice a n c, .int .i64 left] w fun e w' => ∃ z : Int, e = .returned (.int .i64 z) ∧ w = w' ∧ -1 ≤ z ∧ z ≤ left ∧ (0 ≤ z → (n : Int) ≤ left) := by
  by_cases h : (n : Int) ≤ left
  · exact (szInt64S_t a n c left w h h1).mono fun e w' ⟨h1, h2⟩ => ⟨_, h1, h2, by omega, by omega, fun _ => h⟩
  · exact (szInt64S_f a n c left w (by omega) h0 hn).mono fun e w' ⟨h1, h2⟩ => ⟨_, h1, h2, by omega, by omega, fun hz => absurd hz (by omega)⟩





end Go.Proofs.YtfinngmohhnnoaaDoor
