/- slices.IndexFunc with pivots' test: where a row's first entry other than 0 stands. -/
import Derived.Test.YtlccadpopcgmgaaTab
import Derived.Test.YtlccadpopcgmgaaIns
set_option linter.unusedVariables false
set_option linter.unusedSimpArgs false
namespace Go.Proofs.Ytlccadpopcgmgaa
open Go.RowKit

end Go.Proofs.Ytlccadpopcgmgaa
