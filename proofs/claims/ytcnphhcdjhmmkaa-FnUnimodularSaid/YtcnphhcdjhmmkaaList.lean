/- Contracts of the laws' own helpers on lists of integers: equality, marks, and whether the marks still stand. -/
import Derived.Test.YtcnphhcdjhmmkaaNum
import Derived.Test.YtcnphhcdjhmmkaaHeap
set_option linter.unusedVariables false
set_option linter.unusedSimpArgs false
namespace Go.Proofs.Ytcnphhcdjhmmkaa
open Go.RowKit

theorem Try.info2 : (Try.prog.info? 2).map (fun i => (i.zero, i.size, i.bytes)) = some (some (.int .i64 0), 1, 8) := by kernel_rfl
/-- the marks k, k + 1, .. -/
def marks (k : Int) (n : Nat) : List Int := (List.range n).map (fun (i : Nat) => k + (i : Int))
theorem marks_len (k : Int) (n : Nat) : (marks k n).length = n := by simp [marks]
theorem marks_el {k : Int} {n i : Nat} (h : i < n) : el (marks k n) i = k + i := by simp [el, marks, h]



end Go.Proofs.Ytcnphhcdjhmmkaa
