/- A vector minus one of a subspace, with 0 at all pivots: the program. -/
import Derived.Test.YtpkdgemnddcefaaPiv
import Derived.Test.YtpkdgemnddcefaaAddm
import Derived.Test.YtpkdgemnddcefaaConcat
import Derived.Test.YtpkdgemnddcefaaIns
set_option linter.unusedVariables false
set_option linter.unusedSimpArgs false
namespace Go.Proofs.Ytpkdgemnddcefaa
open Go.RowKit

theorem addm_neg (p x : Int) (r o : List Int) : addm p (-x) r o = addm p (p - x) r o := by
  unfold addm
  refine tab_congr fun j _ => ?_
  have e : el r j + (p - x) * el o j = (el r j + -x * el o j) + p * el o j := by grind
  rw [e, Int.add_mul_emod_self_left]
end Go.Proofs.Ytpkdgemnddcefaa
