/- What a library's sort leaves behind, in the words of slices that are owned. -/
import Derived.Test.YtpkdgemnddcefaaPushD
import Derived.Shelf.GgSortFunc.Insertion
set_option linter.unusedVariables false
set_option linter.unusedSimpArgs false
namespace Go.Proofs.Ytpkdgemnddcefaa
open Go.RowKit Go.Sort

section
variable {α : Type} [Inhabited α]
theorem sortWorld_heap (enc : α → Value) (w : World) (blk off m : Nat) (dk : Array α) (os : Array Obj) :
    (sortWorld enc w blk off m dk os).heap = w.heap.modify blk (onCells (putCells enc off dk)) ++ os := rfl
theorem sortWorld_chg (enc : α → Value) (w : World) (blk off m : Nat) (dk : Array α) (os : Array Obj) : Chg (fun k => k = blk) w (sortWorld enc w blk off m dk os) := by
  refine ⟨rfl, rfl, rfl, ?_, fun k hk hs => ?_⟩
  · rw [sortWorld_heap]; simp
  · rw [sortWorld_heap, Array.getElem?_append_left (by simpa using hk), Array.getElem?_modify, if_neg (fun e => hs e.symm)]
theorem sortWorld_drawn (enc : α → Value) (w : World) (blk off m : Nat) (dk : Array α) (os : Array Obj) : w.drawn ≤ (sortWorld enc w blk off m dk os).drawn := by
  show w.drawn ≤ w.drawn + m
  omega
theorem putCells_list (enc : α → Value) (d : Array α) (c : Array Value) (h : d.size ≤ c.size) : (putCells enc 0 d c).toList = d.toList.map enc ++ c.toList.drop d.size := by
  refine List.ext_getElem? fun k => ?_
  unfold putCells
  rw [Array.getElem?_toList, Array.getElem?_mapIdx]
  by_cases hk : k < d.size
  · rw [List.getElem?_append_left (by simpa using hk), List.getElem?_map, Array.getElem?_eq_getElem (show k < c.size by omega)]
    simp [hk]
  · rw [List.getElem?_append_right (by simp; omega), List.getElem?_drop]
    simp only [List.length_map, Array.length_toList]
    rw [show d.size + (k - d.size) = k by omega, Array.getElem?_toList]
    by_cases hc : k < c.size
    · rw [Array.getElem?_eq_getElem hc]; simp [hk]
    · rw [Array.getElem?_eq_none (by omega)]; rfl
theorem row_holds (enc : α → Value) {T : TypeId} {w : World} {B g n cap : Nat} {xs : List Int} (h : OwnI T w B (some ⟨g, 0, none⟩) n cap xs) (d : Array α) (hd : d.toList.map enc = xs.map (Value.int .i64)) : Holds enc w g 0 d := by
  intro j hj
  have hl : d.size = n := by have := congrArg List.length hd; have h2 := h.len; simp at this; omega
  rcases h.cases with ⟨ha, _⟩ | ⟨g', cur, ha, hg, hh, h1, h2, h3, h4⟩
  · cases ha
  · injection ha with e; injection e with e1 e2 e3; subst e1
    refine ⟨?_, ?_⟩
    · have e : (cur.toList.take n)[j]? = some (enc d[j]!) := by
        rw [h4, ← hd, List.getElem?_map, Array.getElem?_toList, Array.getElem?_eq_getElem hj]
        simp [hj]
      rw [List.getElem?_take] at e
      split at e
      · simp [World.cell?, hh]
        simpa using e
      · cases e
    · simp [World.frozen?, hh]
/-- the slice behind the sort -/
theorem row_sorted (enc : α → Value) {T : TypeId} {w : World} {B g n cap : Nat} {xs ys : List Int} (h : OwnI T w B (some ⟨g, 0, none⟩) n cap xs) (m : Nat) (d : Array α) (os : Array Obj) (hd : d.size = n) (hy : d.toList.map enc = ys.map (Value.int .i64)) :
    OwnI T (sortWorld enc w g 0 m d os) B (some ⟨g, 0, none⟩) n cap ys := by
  rcases h.cases with ⟨ha, _⟩ | ⟨g', cur, ha, hg, hh, h1, h2, h3, h4⟩
  · cases ha
  · injection ha with e; injection e with e1 e2 e3; subst e1
    have hyl : ys.length = n := by have := congrArg List.length hy; simp at this; omega
    have hgs : g < w.heap.size := (Array.getElem?_eq_some_iff.1 hh).1
    refine ⟨by simp [hyl], .inr ⟨g, cap, putCells enc 0 d cur, rfl, hg, ?_, h1, h2, ?_, ?_⟩⟩
    · rw [sortWorld_heap, Array.getElem?_append_left (by simpa using hgs), Array.getElem?_modify, if_pos rfl, hh]
      rfl
    · simp [putCells, h3]
    · rw [putCells_list _ _ _ (by omega), Nat.mul_one, hy, List.take_append_of_le_length (by simp; omega)]
      rw [List.take_of_length_le (by simp; omega)]
end
end Go.Proofs.Ytpkdgemnddcefaa
