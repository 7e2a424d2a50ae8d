/- Comparing lists of integers, with what it leaves of the memory. -/
import Derived.Test.YtgdialknnjnehaaList
import Derived.Test.YtgdialknnjnehaaNumB
set_option linter.unusedVariables false
set_option linter.unusedSimpArgs false
namespace Go.Proofs.Ytgdialknnjnehaa
open Go.RowKit

theorem eqInt64S_b (a b : Option Addr) (n m ca cb : Nat) (xs : List Int) (w : World) (ha : RdI w a xs) (hb : RdI w b xs) (hn : xs.length = n) (hm : xs.length = m) (hl : n ≤ 1000000000000) :
    Calls Try.prog 31 #[.slice a n ca, .slice b m cb] w fun e w' => e = .returned (.bool true) ∧ Below w.heap.size w w' :=
  (eqInt64S_t a b n m ca cb xs w ha hb hn hm hl).mono fun _ _ h => ⟨h.1, Below.ofDrew h.2⟩
theorem heldInt64S_b (a : Option Addr) (c n : Nat) (m : Int) (w : World) (ha : RdI w a (marks m n)) (hl : n ≤ 1000000000000) (h0 : 0 ≤ m) (h1 : m ≤ 1000000000000000) :
    Calls Try.prog 34 #[.slice a n c, .int .i64 m] w fun e w' => e = .returned (.int .i64 (m + n)) ∧ Below w.heap.size w w' :=
  (heldInt64S_t a c n m w ha hl h0 h1).mono fun _ _ h => ⟨h.1, by rw [← h.2]; exact Below.refl _ _⟩
end Go.Proofs.Ytgdialknnjnehaa
