/- Draws of numbers: whatever the code, a number of 64 bits. -/
import Derived.Test.YtcnphhcdjhmmkaaSrc
set_option linter.unusedVariables false
set_option linter.unusedSimpArgs false
namespace Go.Proofs.Ytcnphhcdjhmmkaa
open Go.RowKit

theorem lit_rd (w : World) (T : TypeId) (xs : List Int) (cs : Array Value) (hc : cs.toList = xs.map (Value.int .i64)) (hl : xs.length ≤ maxLen) : RdI (w.alloc (.cells cs T)) (some ⟨w.heap.size, 0, none⟩) xs := (OwnI.lit w T xs cs hc hl).rd
/-- a box that is not among the elder ones is no matter -/
theorem Chg.up {b B : Nat} {w w' : World} (h : Chg (fun j => j = b) w w') (hB : B ≤ b) (hs : B ≤ w.heap.size) : Below B w w' := h.below hs (fun k hk e => by omega)
end Go.Proofs.Ytcnphhcdjhmmkaa
