/- The laws' own helpers on slices of slices of integers: size, copy, equality, marks. -/
import Derived.Test.YtcnphhcdjhmmkaaNum
import Derived.Test.YtcnphhcdjhmmkaaNumB
import Derived.Test.YtcnphhcdjhmmkaaLawKit
import Derived.Test.YtcnphhcdjhmmkaaAb
set_option linter.unusedVariables false
set_option linter.unusedSimpArgs false
namespace Go.Proofs.Ytcnphhcdjhmmkaa
open Go.RowKit

theorem Try.infoR : (Try.prog.info? 31).map (fun i => (i.zero, i.size, i.bytes)) = some (some (.slice none 0 0), 1, 24) := by kernel_rfl

theorem quiet_ex {P : Program} {f : FuncId} {args : Array Value} {w : World} {n : Nat} {v : Value} (h : Calls P f args (w.drewN n) fun e w' => e = .returned v ∧ ∃ m, w' = (w.drewN n).drewN m) : Calls P f args (w.drewN n) fun e w'' => e = .returned v ∧ ∃ m, w'' = w.drewN m :=
  h.mono fun _ _ ⟨he, m, hm⟩ => ⟨he, n + m, by rw [hm]; simp⟩






end Go.Proofs.Ytcnphhcdjhmmkaa
