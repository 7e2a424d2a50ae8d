/- Abelian groups: the laws' helpers on them, and the test whether a value is one. -/
import Derived.Test.YtpkdgemnddcefaaNumB
import Derived.Test.YtpkdgemnddcefaaList
set_option linter.unusedVariables false
set_option linter.unusedSimpArgs false
namespace Go.Proofs.Ytpkdgemnddcefaa
open Go.RowKit




theorem bcell {W w1 : World} (hb : Below W.heap.size W w1) : (∀ b o, b < W.heap.size → w1.cell? ⟨b, o, none⟩ = W.cell? ⟨b, o, none⟩) ∧ (∀ b o, b < W.heap.size → w1.frozen? ⟨b, o, none⟩ = W.frozen? ⟨b, o, none⟩) :=
  ⟨fun b o h => hb.cell (p := ⟨b, o, none⟩) h, fun b o h => hb.frozen (p := ⟨b, o, none⟩) h⟩
theorem OwnI.setCell {T : TypeId} {w : World} {B : Nat} {a : Option Addr} {n cap : Nat} {xs : List Int} (h : OwnI T w B a n cap xs) {p : Addr} (hp : p.block < B) (u : Value) : OwnI T (w.setCell p u) B a n cap xs := ownsRow_setCell_below h hp u

/-! ### the test whether a value is an abelian group -/
def okF (xs : List Int) (i : Nat) : Prop := 2 ≤ el xs i ∧ el xs i ≤ 1000000 ∧ (0 < i → el xs i % el xs (i - 1) = 0)
instance (xs : List Int) (i : Nat) : Decidable (okF xs i) := by unfold okF; exact inferInstance
def abOk (xs : List Int) (r : Int) : Prop := 0 ≤ r ∧ r ≤ 10 ∧ (xs.length : Int) + r ≤ 10 ∧ ∀ i, i < xs.length → okF xs i
instance (xs : List Int) (r : Int) : Decidable (abOk xs r) := by unfold abOk; exact inferInstance
def isAb (xs : List Int) (r : Int) : Bool := decide (abOk xs r)
theorem isAb_t {xs : List Int} {r : Int} (h : abOk xs r) : isAb xs r = true := by unfold isAb; simpa using h
theorem isAb_f {xs : List Int} {r : Int} (h : ¬ abOk xs r) : isAb xs r = false := by unfold isAb; simpa using h
theorem isAb_ok {xs : List Int} {r : Int} (h : isAb xs r = true) : abOk xs r := by unfold isAb at h; simpa using h

end Go.Proofs.Ytpkdgemnddcefaa
