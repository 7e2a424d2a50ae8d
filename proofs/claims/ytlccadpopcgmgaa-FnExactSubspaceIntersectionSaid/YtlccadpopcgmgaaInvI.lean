/- The inverse of a square matrix: the program's inner function. -/
import Derived.Test.YtlccadpopcgmgaaInv
set_option linter.unusedVariables false
set_option linter.unusedSimpArgs false
namespace Go.Proofs.Ytlccadpopcgmgaa
open Go.RowKit

theorem MadeH.rdSame {T2 : TypeId} {w w' : World} {B n cap : Nat} {a : Option Addr} {xss : List (List Int)} (h : MadeH T2 w B a n cap xss) (hs : ∀ k, B ≤ k → k < w.heap.size → w'.heap[k]? = w.heap[k]?) : RdR w' a xss := by
  obtain ⟨A, C, h⟩ := h
  refine (h.same (fun h0 p hp => ?_) (fun i hi p hp => ?_)).rd
  · have := h.blk h0 p hp
    exact hs _ this.1 this.2
  · have := (h.row i hi).block p hp
    exact hs _ this.1 this.2
end Go.Proofs.Ytlccadpopcgmgaa
