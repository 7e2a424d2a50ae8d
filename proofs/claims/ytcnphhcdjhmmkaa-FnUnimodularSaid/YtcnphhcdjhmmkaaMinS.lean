/- The greatest common divisor of the minors of a table: the reference's function. -/
import Derived.Test.YtcnphhcdjhmmkaaMin
import Derived.Deep.RegionHeld3
set_option linter.unusedVariables false
set_option linter.unusedSimpArgs false
namespace Go.Proofs.Ytcnphhcdjhmmkaa
open Go.RowKit

theorem push_reg {T : TypeId} {w5 w6 W w7 : World} {a2 a4 : Option Addr} {y c2 c4 : Nat} {xs : List Int} {x : Int} (o : Obj) (h : OwnI T w6 w5.heap.size a2 y c2 xs) (hb : Below w5.heap.size w5 w6)
    (r4 : w7.ownsRow w5.heap.size T 1 (.slice a4 (y + 1) c4) (y + 1) (xs.map (Value.int .i64) ++ [.int .i64 x])) (g4 : Chg (fun k => ∃ p, a2 = some p ∧ p.block = k) W w7) (h1 : W.heap = (w6.alloc o).heap) (h2 : W.os = w6.os) (h3 : W.tape = w6.tape) (h4 : W.output = w6.output) : OwnI T w7 w5.heap.size a4 (y + 1) c4 (xs ++ [x]) ∧ Below w5.heap.size w5 w7 := by
  have hk := hb.alloc hb.size o
  have hW : Below w5.heap.size w5 W := ⟨h2.trans hb.os, h3.trans hb.tape, h4.trans hb.output, by rw [h1]; exact hk.size, fun k hk' => by rw [h1]; exact hk.block k hk'⟩
  exact ⟨OwnI.pushed r4, hW.trans (g4.below hW.size (fun b hb' hx => by obtain ⟨x, hx, e⟩ := hx; have := (h.block x hx).1; omega))⟩
end Go.Proofs.Ytcnphhcdjhmmkaa
