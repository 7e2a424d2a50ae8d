/- Rows of the call's own between two marks of the heap; a write into their first row. No program in sight. -/
import Derived.Test.YtcnphhcdjhmmkaaDrI
import Derived.Test.YtcnphhcdjhmmkaaProd
set_option linter.unusedVariables false
set_option linter.unusedSimpArgs false
namespace Go.Proofs.Ytcnphhcdjhmmkaa
open Go.RowKit
def MadeL (T1 T2 : TypeId) (w : World) (B L : Nat) (a : Option Addr) (n cap : Nat) (xss : List (List Int)) : Prop := ∃ A C, OwnR T1 T2 w B a n cap xss A C ∧ LowS a n A L
section
variable {T1 T2 : TypeId} {w w' : World} {B L : Nat} {a : Option Addr} {n cap : Nat} {xss : List (List Int)}
theorem MadeR.low (h : MadeR T1 T2 w B a n cap xss) : MadeL T1 T2 w B w.heap.size a n cap xss := by
  obtain ⟨A, C, h⟩ := h
  exact ⟨A, C, h, fun p hp => (ownsRow_block h.own p hp).2, fun i hi p hp => ((h.row i hi).block p hp).2⟩
theorem MadeL.made (h : MadeL T1 T2 w B L a n cap xss) : MadeR T1 T2 w B a n cap xss := by obtain ⟨A, C, h, _⟩ := h; exact ⟨A, C, h⟩
theorem MadeL.rd (h : MadeL T1 T2 w B L a n cap xss) : RdR w a xss := h.made.rd
theorem MadeL.len (h : MadeL T1 T2 w B L a n cap xss) : xss.length = n := h.made.len
theorem MadeL.capl (h : MadeL T1 T2 w B L a n cap xss) : n ≤ cap := h.made.capl
theorem MadeL.keep {B1 : Nat} (h : MadeL T1 T2 w B L a n cap xss) (hb : Below B1 w w') (hB : w.heap.size ≤ B1) : MadeL T1 T2 w' B L a n cap xss := by
  obtain ⟨A, C, h, hl⟩ := h; exact ⟨A, C, h.keep hb hB, hl⟩
theorem MadeL.keptS {S : Nat → Prop} (h : MadeL T1 T2 w B L a n cap xss) (hc : Chg S w w') (hs : ∀ k, B ≤ k → k < L → ¬ S k) : MadeL T1 T2 w' B L a n cap xss := by
  obtain ⟨A, C, h, hl⟩ := h
  exact ⟨A, C, h.kept hc (fun p hp => hs _ (ownsRow_block h.own p hp).1 (hl.o p hp)) (fun i hi p hp => hs _ ((h.row i hi).block p hp).1 (hl.r i hi p hp)), hl⟩
theorem MadeL.setAway (h : MadeL T1 T2 w B L a n cap xss) (p : Addr) (hp : p.block < B ∨ L ≤ p.block) (v : Value) : MadeL T1 T2 (w.setCell p v) B L a n cap xss :=
  h.keptS (S := fun j => j = p.block) ((Chg.refl (fun j => j = p.block) w).setCell p rfl v) (fun k h1 h2 e => by omega)
/-- the first number of the first row -/
theorem MadeL.first (h : MadeL T1 T2 w B L a n cap xss) (hn : 0 < n) (h0 : 0 < (rw_ xss 0).length) : ∃ g gr cr, a = some ⟨g, 0, Option.none⟩ ∧ w.cell? ⟨g, 0, Option.none⟩ = some (.slice (some ⟨gr, 0, Option.none⟩) (rw_ xss 0).length cr) ∧ w.cell? ⟨gr, 0, Option.none⟩ = some (.int .i64 (el (rw_ xss 0) 0)) ∧ w.frozen? ⟨gr, 0, Option.none⟩ = false ∧ B ≤ gr ∧ gr < L ∧ g < w.heap.size ∧ gr < w.heap.size ∧ ∀ v, MadeL T1 T2 (w.setCell ⟨gr, 0, Option.none⟩ (.int .i64 v)) B L a n cap (rowSet xss 0 ((rw_ xss 0).set 0 v)) := by
  obtain ⟨A, C, h, hl⟩ := h
  have hlen := h.len
  obtain ⟨g, ha, hc⟩ := ownsRow_cell h.own hn
  have hr := h.row 0 hn
  rcases hr.cases with ⟨h1, h2, _⟩ | ⟨gr, cur, hA, h2, h3, _⟩
  · omega
  have hg := ownsRow_block h.own _ ha
  have hgr : gr < w.heap.size := (Array.getElem?_eq_some_iff.1 h3).1
  refine ⟨g, gr, C 0, ha, ?_, ?_, wr_frozen h3, h2, hl.r 0 hn _ hA, hg.2, hgr, fun v => ⟨A, C, ⟨by rw [rowSet_len, hlen], ?_, fun j hj => ?_, h.ap, h.apo⟩, hl⟩⟩
  · rw [hc 0 hn, rowVals_get hn, hA]
  · rw [hA] at hr; exact hr.cellAt h0
  · have e1 : rowVals (rowSet xss 0 ((rw_ xss 0).set 0 v)) A C n = rowVals xss A C n := by
      unfold rowVals
      refine List.map_congr_left fun j hj => ?_
      have hj : j < n := by simpa using hj
      by_cases hj0 : j = 0
      · subst hj0; rw [rowSet_eq (by omega), List.length_set]
      · rw [rowSet_ne (by omega) hj0]
    rw [e1]
    exact ownsRow_same h.own (fun p hp => Below.heap_setCell _ _ _ _ (fun e => h.apo 0 hn p _ hp hA e))
  · by_cases hj0 : j = 0
    · subst hj0
      rw [rowSet_eq (by omega), List.length_set, hA]
      rw [hA] at hr
      exact hr.set h0 v
    · rw [rowSet_ne (by omega) hj0]
      exact (h.row j hj).same (fun p hp => Below.heap_setCell _ _ _ _ (fun e => h.ap j 0 hj hn hj0 p _ hp hA e))
end
theorem rowSet_lens {xs : List (List Int)} {n L : Nat} {v : Int} (h : ∀ i, i < n → (rw_ xs i).length ≤ L) (hn : xs.length = n) : ∀ i, i < n → (rw_ (rowSet xs 0 ((rw_ xs 0).set 0 v)) i).length ≤ L := fun i hi => by
  by_cases h0 : i = 0
  · subst h0; rw [rowSet_eq (by omega), List.length_set]; exact h 0 hi
  · rw [rowSet_ne (by omega) h0]; exact h i hi
theorem Below.drew (w : World) : Below w.heap.size w w.drew := ⟨rfl, rfl, rfl, Nat.le_refl _, fun _ _ => rfl⟩
theorem below_drewR {B : Nat} {w w' : World} (h : Below B w w') : Below B w w'.drew := ⟨h.os, h.tape, h.output, h.size, h.block⟩
theorem cell_drew (w : World) (p : Addr) : w.drew.cell? p = w.cell? p := rfl
end Go.Proofs.Ytcnphhcdjhmmkaa
