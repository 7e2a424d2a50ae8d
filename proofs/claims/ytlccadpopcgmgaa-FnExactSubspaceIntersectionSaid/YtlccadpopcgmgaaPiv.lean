/- The pivots' columns of rows in reduced form. -/
import Derived.Test.YtlccadpopcgmgaaMat
import Derived.Test.YtlccadpopcgmgaaIdxF
set_option linter.unusedVariables false
set_option linter.unusedSimpArgs false
namespace Go.Proofs.Ytlccadpopcgmgaa
open Go.RowKit

def pivL (piv : Nat → Nat) (n : Nat) : List Int := tab n fun i => (piv i : Int)
theorem pivL_len (piv : Nat → Nat) (n : Nat) : (pivL piv n).length = n := tab_len _ _
theorem pivL_el {piv : Nat → Nat} {n i : Nat} (h : i < n) : el (pivL piv n) i = (piv i : Int) := el_tab h
theorem pivL_take {piv : Nat → Nat} {n i : Nat} (h : i < n) : (pivL piv n).take (i + 1) = (pivL piv n).take i ++ [(piv i : Int)] := by
  rw [take_el (by rw [pivL_len]; exact h)]
  congr 2
  exact el_tab h
end Go.Proofs.Ytlccadpopcgmgaa
