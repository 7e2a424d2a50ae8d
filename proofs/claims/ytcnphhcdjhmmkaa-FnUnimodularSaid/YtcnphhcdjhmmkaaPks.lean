/- All ascending lists of k numbers below n: the reference's function. -/
import Derived.Test.YtcnphhcdjhmmkaaChsW
set_option linter.unusedVariables false
set_option linter.unusedSimpArgs false
namespace Go.Proofs.Ytcnphhcdjhmmkaa
open Go.RowKit

/-- one empty row, as slice literals -/
theorem one_lit {T1 T2 : TypeId} (w : World) : RdR ((w.alloc (.cells #[] T2)).alloc (.cells #[.slice (some ⟨w.heap.size, 0, none⟩) 0 0] T1)) (some ⟨w.heap.size + 1, 0, none⟩) [[]] := fun _ => by
  refine ⟨w.heap.size + 1, 0, rfl, fun i hi => ?_⟩
  obtain rfl : i = 0 := by simp at hi; omega
  exact ⟨some ⟨w.heap.size, 0, none⟩, 0, World.cell?_alloc_at _ _ _ _ (by simp), RdI.nil _ _, Nat.le_refl _⟩
theorem flat_take {f : List Int → List (List Int)} {R : List (List Int)} {j : Nat} (h : j < R.length) : (R.take (j + 1)).flatMap f = (R.take j).flatMap f ++ f (rw_ R j) := by
  rw [take_rw h, List.flatMap_append]; simp
end Go.Proofs.Ytcnphhcdjhmmkaa
