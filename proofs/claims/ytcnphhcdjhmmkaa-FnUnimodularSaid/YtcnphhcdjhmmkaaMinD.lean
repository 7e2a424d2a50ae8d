/- The divisor of the minors of a table, with its errors. -/
import Derived.Test.YtcnphhcdjhmmkaaMinS
set_option linter.unusedVariables false
set_option linter.unusedSimpArgs false
namespace Go.Proofs.Ytcnphhcdjhmmkaa
open Go.RowKit

def mdV (xss : List (List Int)) (q k : Int) : Int × Int := if isTb xss q = true then (if 1 ≤ k ∧ k ≤ 4 then (mdiv xss xss.length q.toNat k.toNat, 0) else (0, 2)) else (0, 1)
theorem mdV_no {xss : List (List Int)} {q k : Int} (h : isTb xss q = false) : mdV xss q k = (0, 1) := by unfold mdV; rw [h]; rfl
theorem mdV_ok {xss : List (List Int)} {q k : Int} (h : isTb xss q = true) (h1 : 1 ≤ k) (h2 : k ≤ 4) : mdV xss q k = (mdiv xss xss.length q.toNat k.toNat, 0) := by unfold mdV; rw [if_pos h, if_pos ⟨h1, h2⟩]
theorem mdV_bad {xss : List (List Int)} {q k : Int} (h : isTb xss q = true) (h1 : ¬ (1 ≤ k ∧ k ≤ 4)) : mdV xss q k = (0, 2) := by unfold mdV; rw [if_pos h, if_neg h1]
end Go.Proofs.Ytcnphhcdjhmmkaa
