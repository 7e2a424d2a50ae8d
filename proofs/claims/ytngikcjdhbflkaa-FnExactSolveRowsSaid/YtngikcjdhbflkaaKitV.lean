/- Comparing lists of integers, with what it leaves of the memory. -/
import Derived.Test.YtngikcjdhbflkaaKitM
set_option linter.unusedVariables false
set_option linter.unusedSimpArgs false
namespace Go.Proofs.Ytngikcjdhbflkaa
open Go.RowKit

theorem eqInt64S_b (a b : Option Addr) (n m ca cb : Nat) (xs : List Int) (w : World) (ha : RdI w a xs) (hb : RdI w b xs) (hn : xs.length = n) (hm : xs.length = m) (hl : n ≤ 1000000000000) :
    Calls Try.prog 35 #[.slice a n ca, .slice b m cb] w fun e w' => e = .returned (.bool true) ∧ Below w.heap.size w w' :=
  (eqInt64S_t a b n m ca cb xs w ha hb hn hm hl).mono fun _ _ h => ⟨h.1, Below.ofDrew h.2⟩
end Go.Proofs.Ytngikcjdhbflkaa
