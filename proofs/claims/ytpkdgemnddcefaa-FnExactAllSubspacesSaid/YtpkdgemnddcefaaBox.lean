/- A box known whole; the reference's copy of a list. -/
import Derived.Test.YtpkdgemnddcefaaConcat
import Derived.Test.YtpkdgemnddcefaaPush
set_option linter.unusedVariables false
set_option linter.unusedSimpArgs false
namespace Go.Proofs.Ytpkdgemnddcefaa
open Go.RowKit

/-! ### a box known whole -/
def BX (T : TypeId) (w : World) (b : Nat) (vs : Array Value) : Prop := w.heap[b]? = some (.cells vs T (0, 0))
section
variable {T : TypeId} {w w' : World} {b : Nat} {vs : Array Value}
theorem BX.lt (h : BX T w b vs) : b < w.heap.size := (Array.getElem?_eq_some_iff.1 h).1
theorem BX.cell (h : BX T w b vs) (i : Nat) : w.cell? ⟨b, i, none⟩ = vs[i]? := wr_cell h
theorem BX.frz (h : BX T w b vs) (i : Nat) : w.frozen? ⟨b, i, none⟩ = false := wr_frozen h
theorem BX.keep (h : BX T w b vs) (hb : Below w.heap.size w w') : BX T w' b vs := (hb.block b h.lt).trans h
theorem BX.chg {S : Nat → Prop} (h : BX T w b vs) (hc : Chg S w w') (hs : ¬ S b) : BX T w' b vs := (hc.block b h.lt hs).trans h
theorem BX.set (h : BX T w b vs) (i : Nat) (v : Value) : BX T (w.setCell ⟨b, i, none⟩ v) b (vs.setIfInBounds i v) := wr_setCell h v
theorem BX.other (h : BX T w b vs) {p : Addr} (hp : p.block ≠ b) (v : Value) : BX T (w.setCell p v) b vs := (Below.heap_setCell _ _ _ _ (fun e => hp e.symm)).trans h
theorem BX.new (w : World) (T : TypeId) (vs : Array Value) : BX T (w.alloc (.cells vs T)) w.heap.size vs := heap_alloc_new w _
theorem BX.alloc (h : BX T w b vs) (o : Obj) : BX T (w.alloc o) b vs := (Below.heap_alloc _ _ _ h.lt).trans h
end

/-- three boxes, one behind the other -/
theorem box3 (w : World) (T : TypeId) (v0 v1 v2 : Array Value) : BX T (((w.alloc (.cells v0 T)).alloc (.cells v1 T)).alloc (.cells v2 T)) w.heap.size v0 ∧ BX T (((w.alloc (.cells v0 T)).alloc (.cells v1 T)).alloc (.cells v2 T)) (w.heap.size + 1) v1 ∧ BX T (((w.alloc (.cells v0 T)).alloc (.cells v1 T)).alloc (.cells v2 T)) (w.heap.size + 1 + 1) v2 := by
  refine ⟨((BX.new w _ _).alloc _).alloc _, ?_, ?_⟩
  · rw [show w.heap.size + 1 = (w.alloc (.cells v0 T)).heap.size by simp]
    exact (BX.new _ _ _).alloc _
  · rw [show w.heap.size + 1 + 1 = ((w.alloc (.cells v0 T)).alloc (.cells v1 T)).heap.size by simp]
    exact BX.new _ _ _
theorem rdR_at {w : World} {a : Option Addr} {xss : List (List Int)} {i : Nat} (h : RdR w a xss) (hi : i < xss.length) : ∃ b o ai ci, a = some ⟨b, o, none⟩ ∧ w.cell? ⟨b, o + i, none⟩ = some (.slice ai (rw_ xss i).length ci) ∧ RdI w ai (rw_ xss i) ∧ (rw_ xss i).length ≤ ci := by
  obtain ⟨b, o, ha, hc⟩ := h (by omega)
  obtain ⟨ai, ci, h1, h2, h3⟩ := hc i hi
  exact ⟨b, o, ai, ci, ha, h1, h2, h3⟩
theorem rdI_at {w : World} {a : Option Addr} {xs : List Int} {i : Nat} (h : RdI w a xs) (hi : i < xs.length) : ∃ b o, a = some ⟨b, o, none⟩ ∧ w.cell? ⟨b, o + i, none⟩ = some (.int .i64 (el xs i)) := by
  obtain ⟨b, o, ha, hc⟩ := h (by omega)
  exact ⟨b, o, ha, hc i hi⟩
set_option maxHeartbeats 1000000 in
theorem l01Own_any (a : Option Addr) (n c : Nat) (xs : List Int) (w : World) (ha : RdI w a xs) (hl : xs.length = n) (hn : n ≤ 1048576) :
    Calls Try.prog 82 #[.slice a n c] w fun e w' => ∃ a' c', e = .returned (.slice a' n c') ∧ OwnI 2 w' w.heap.size a' n c' xs ∧ Below w.heap.size w w' := by
  have HA := Lib.hid ha
  have HL := Lib.hid hl
  clear ha hl
  go_enter Try.func82, Try.ntmps82
  go_wp2_with (at_builtin; refine wpList_appS rfl (.tmp 3) (.tmp 4) 52 rfl w.heap.size 2 (.int .i64 0) 8 Try.underlying52 Try.info2 rfl (by decide) _ _ _ _ rfl _ _ _ rfl (by exact OwnI.empty w _) (xs.map (Value.int .i64)) (by rw [List.length_map]; exact HL.out) (by exact (HA.out.alloc _).vals) (map_one _) (by omega) (by simp) ?_; rintro a4 c4 w4 r4 q4 g4; rw [Nat.zero_add] at r4 ⊢; have R4 := Lib.hid r4; have G4 := Lib.hid g4; clear r4 q4 g4)
  go_ret
  exact ⟨a4, c4, rfl, by have := R4.out; simpa [OwnI] using this, ((Below.refl _ _).alloc (Nat.le_refl _) _).trans (G4.out.below (by simp) (fun m hm hx => by obtain ⟨x, hx, e⟩ := hx; injection hx with hx; subst hx; simp at e; omega))⟩
end Go.Proofs.Ytpkdgemnddcefaa
