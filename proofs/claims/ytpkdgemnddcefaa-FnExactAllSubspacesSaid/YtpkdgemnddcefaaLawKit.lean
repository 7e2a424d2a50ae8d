/- Small joints of the law walks. No program in sight. -/
import Derived.Test.YtpkdgemnddcefaaFill
set_option linter.unusedVariables false
set_option linter.unusedSimpArgs false
namespace Go.Proofs.Ytpkdgemnddcefaa
open Go.RowKit

theorem below_al1 {w w' : World} {o : Obj} (hb : Below (w.alloc o).heap.size (w.alloc o) w') : Below w.heap.size w w' := ((Below.refl _ _).alloc (Nat.le_refl _) _).trans (hb.mono (by simp))
theorem below_al2 {w w' : World} {o p : Obj} (hb : Below ((w.alloc o).alloc p).heap.size ((w.alloc o).alloc p) w') : Below w.heap.size w w' := below_al1 (below_al1 hb)
theorem below_al3 {w w' : World} {o p q : Obj} (hb : Below (((w.alloc o).alloc p).alloc q).heap.size (((w.alloc o).alloc p).alloc q) w') : Below w.heap.size w w' := below_al1 (below_al1 (below_al1 hb))
theorem below_dr {B : Nat} {w w' : World} {n : Nat} (hb : Below B (w.drewN n) w') : Below B w w' := ⟨hb.os, hb.tape, hb.output, hb.size, hb.block⟩
theorem below_drw {B : Nat} {w w' : World} (hb : Below B w.drew w') : Below B w w' := ⟨hb.os, hb.tape, hb.output, hb.size, hb.block⟩
theorem cell_below {w w' : World} {p : Addr} {v : Value} (h : w.cell? p = some v) (hb : Below w.heap.size w w') : w'.cell? p = some v := by
  rw [hb.cell (p := p) (block_lt h)]; exact h
theorem RdR.alloc {w : World} {a : Option Addr} {xss : List (List Int)} (h : RdR w a xss) (o : Obj) : RdR (w.alloc o) a xss := h.keep ((Below.refl w.heap.size w).alloc (Nat.le_refl _) o) (Nat.le_refl _)
theorem MadeR.alloc {T1 T2 : TypeId} {w : World} {B : Nat} {a : Option Addr} {n cap : Nat} {xss : List (List Int)} (h : MadeR T1 T2 w B a n cap xss) (o : Obj) : MadeR T1 T2 (w.alloc o) B a n cap xss := h.keep ((Below.refl w.heap.size w).alloc (Nat.le_refl _) o) (Nat.le_refl _)
theorem MadeR.setLow {T1 T2 : TypeId} {w : World} {B : Nat} {a : Option Addr} {n cap : Nat} {xss : List (List Int)} (h : MadeR T1 T2 w B a n cap xss) (p : Addr) (hp : p.block < B) (v : Value) : MadeR T1 T2 (w.setCell p v) B a n cap xss := by
  obtain ⟨A, C, h⟩ := h
  exact ⟨A, C, h.same (fun q hq => Below.heap_setCell _ _ _ _ (by have := (ownsRow_block h.own q hq).1; omega)) (fun i hi q hq => Below.heap_setCell _ _ _ _ (by have := ((h.row i hi).block q hq).1; omega))⟩
theorem RdR.setBox {w : World} {U : Nat} {a : Option Addr} {xss : List (List Int)} (h : RdR w a xss) (hU : w.heap.size ≤ U) (w' : World) (hw : Below U w w') : RdR w' a xss := h.keep hw hU
end Go.Proofs.Ytpkdgemnddcefaa
