/- Cells beside a store and beside a new block. No program in sight. -/
import Derived.Test.YtpkdgemnddcefaaLawKit
set_option linter.unusedVariables false
set_option linter.unusedSimpArgs false
namespace Go.Proofs.Ytpkdgemnddcefaa
open Go.RowKit

theorem cell_ne {w : World} {p q : Addr} {v : Value} (h : q.block ≠ p.block) : (w.setCell p v).cell? q = w.cell? q := World.cell?_of_block (Below.heap_setCell _ _ _ _ h)
theorem cell_al {w : World} {q : Addr} {o : Obj} (h : q.block < w.heap.size) : (w.alloc o).cell? q = w.cell? q := World.cell?_of_block (Below.heap_alloc _ _ _ h)
end Go.Proofs.Ytpkdgemnddcefaa
