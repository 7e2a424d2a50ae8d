/- A box known whole; the reference's copy of a list. -/
import Derived.Test.YtcnphhcdjhmmkaaConcat
import Derived.Test.YtcnphhcdjhmmkaaPush
set_option linter.unusedVariables false
set_option linter.unusedSimpArgs false
namespace Go.Proofs.Ytcnphhcdjhmmkaa
open Go.RowKit

/-! ### a box known whole -/
def BX (T : TypeId) (w : World) (b : Nat) (vs : Array Value) : Prop := w.heap[b]? = some (.cells vs T (0, 0))
section
variable {T : TypeId} {w w' : World} {b : Nat} {vs : Array Value}
theorem BX.lt (h : BX T w b vs) : b < w.heap.size := (Array.getElem?_eq_some_iff.1 h).1
theorem BX.cell (h : BX T w b vs) (i : Nat) : w.cell? ⟨b, i, none⟩ = vs[i]? := wr_cell h
theorem BX.frz (h : BX T w b vs) (i : Nat) : w.frozen? ⟨b, i, none⟩ = false := wr_frozen h
theorem BX.keep (h : BX T w b vs) (hb : Below w.heap.size w w') : BX T w' b vs := (hb.block b h.lt).trans h
theorem BX.chg {S : Nat → Prop} (h : BX T w b vs) (hc : Chg S w w') (hs : ¬ S b) : BX T w' b vs := (hc.block b h.lt hs).trans h
theorem BX.set (h : BX T w b vs) (i : Nat) (v : Value) : BX T (w.setCell ⟨b, i, none⟩ v) b (vs.setIfInBounds i v) := wr_setCell h v
theorem BX.other (h : BX T w b vs) {p : Addr} (hp : p.block ≠ b) (v : Value) : BX T (w.setCell p v) b vs := (Below.heap_setCell _ _ _ _ (fun e => hp e.symm)).trans h
theorem BX.new (w : World) (T : TypeId) (vs : Array Value) : BX T (w.alloc (.cells vs T)) w.heap.size vs := heap_alloc_new w _
theorem BX.alloc (h : BX T w b vs) (o : Obj) : BX T (w.alloc o) b vs := (Below.heap_alloc _ _ _ h.lt).trans h
end

/-- three boxes, one behind the other -/
theorem box3 (w : World) (T : TypeId) (v0 v1 v2 : Array Value) : BX T (((w.alloc (.cells v0 T)).alloc (.cells v1 T)).alloc (.cells v2 T)) w.heap.size v0 ∧ BX T (((w.alloc (.cells v0 T)).alloc (.cells v1 T)).alloc (.cells v2 T)) (w.heap.size + 1) v1 ∧ BX T (((w.alloc (.cells v0 T)).alloc (.cells v1 T)).alloc (.cells v2 T)) (w.heap.size + 1 + 1) v2 := by
  refine ⟨((BX.new w _ _).alloc _).alloc _, ?_, ?_⟩
  · rw [show w.heap.size + 1 = (w.alloc (.cells v0 T)).heap.size by simp]
    exact (BX.new _ _ _).alloc _
  · rw [show w.heap.size + 1 + 1 = ((w.alloc (.cells v0 T)).alloc (.cells v1 T)).heap.size by simp]
    exact BX.new _ _ _
theorem rdR_at {w : World} {a : Option Addr} {xss : List (List Int)} {i : Nat} (h : RdR w a xss) (hi : i < xss.length) : ∃ b o ai ci, a = some ⟨b, o, none⟩ ∧ w.cell? ⟨b, o + i, none⟩ = some (.slice ai (rw_ xss i).length ci) ∧ RdI w ai (rw_ xss i) ∧ (rw_ xss i).length ≤ ci := by
  obtain ⟨b, o, ha, hc⟩ := h (by omega)
  obtain ⟨ai, ci, h1, h2, h3⟩ := hc i hi
  exact ⟨b, o, ai, ci, ha, h1, h2, h3⟩
theorem rdI_at {w : World} {a : Option Addr} {xs : List Int} {i : Nat} (h : RdI w a xs) (hi : i < xs.length) : ∃ b o, a = some ⟨b, o, none⟩ ∧ w.cell? ⟨b, o + i, none⟩ = some (.int .i64 (el xs i)) := by
  obtain ⟨b, o, ha, hc⟩ := h (by omega)
  exact ⟨b, o, ha, hc i hi⟩
end Go.Proofs.Ytcnphhcdjhmmkaa
