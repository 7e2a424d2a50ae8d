/- A row of the call's own that is written. No program in sight. -/
import Derived.Test.YtpkdgemnddcefaaRed
import Derived.Test.YtpkdgemnddcefaaOwnR
set_option linter.unusedVariables false
set_option linter.unusedSimpArgs false
namespace Go.Proofs.Ytpkdgemnddcefaa
open Go.RowKit

/-! ### a row of the call's own that is written -/
theorem OwnI.frozen {T : TypeId} {w : World} {B g n cap : Nat} {xs : List Int} (h : OwnI T w B (some ⟨g, 0, Option.none⟩) n cap xs) (i : Nat) : w.frozen? ⟨g, i, Option.none⟩ = false := by
  rcases h.cases with ⟨h1, _⟩ | ⟨g', cur, h1, h2, h3, _⟩
  · cases h1
  · injection h1 with e; injection e with e1; subst e1
    exact wr_frozen h3
theorem OwnI.cellAt {T : TypeId} {w : World} {B g n cap : Nat} {xs : List Int} (h : OwnI T w B (some ⟨g, 0, Option.none⟩) n cap xs) {i : Nat} (hi : i < n) : w.cell? ⟨g, i, Option.none⟩ = some (.int .i64 (el xs i)) := by
  obtain ⟨b, o, ha, hc⟩ := h.rd (by rw [h.len]; omega)
  injection ha with e; injection e with e1 e2; subst e1; subst e2
  have := hc i (by rw [h.len]; exact hi)
  rwa [Nat.zero_add] at this
theorem el_set {xs : List Int} {k i : Nat} {v : Int} (hk : k < xs.length) : el (xs.set k v) i = if i = k then v else el xs i := by
  unfold el
  rw [List.getElem?_set]
  by_cases h : k = i
  · subst h; rw [if_pos rfl, if_pos rfl, if_pos hk]; rfl
  · rw [if_neg h, if_neg (fun e => h e.symm)]
theorem OwnI.set {T : TypeId} {w : World} {B g n cap k : Nat} {xs : List Int} (h : OwnI T w B (some ⟨g, 0, Option.none⟩) n cap xs) (hk : k < n) (v : Int) :
    OwnI T (w.setCell ⟨g, k, Option.none⟩ (.int .i64 v)) B (some ⟨g, 0, Option.none⟩) n cap (xs.set k v) := by
  have hl := h.len
  rcases h.cases with ⟨h1, _⟩ | ⟨g', cur, h1, h2, h3, h4, h5, h6, h7⟩
  · cases h1
  · injection h1 with e; injection e with e1; subst e1
    refine ⟨by simp [hl], .inr ⟨g, cap, _, rfl, h2, wr_setCell h3 _, h4, h5, by simpa using h6, ?_⟩⟩
    rw [Nat.mul_one]
    refine List.ext_getElem? fun i => ?_
    rw [List.map_set, List.getElem?_take, List.getElem?_set]
    have hx : ∀ j, j < n → cur[j]? = (xs.map (Value.int .i64))[j]? := fun j hj => by
      rw [← h7, List.getElem?_take, if_pos hj, Array.getElem?_toList]
    by_cases hi : i < n
    · rw [if_pos hi, Array.getElem?_toList, Array.getElem?_setIfInBounds]
      by_cases hki : k = i
      · subst hki
        rw [if_pos rfl, if_pos (by omega), if_pos rfl, if_pos (by simp; omega)]
      · rw [if_neg hki, if_neg hki, hx i hi]
    · rw [if_neg hi]
      by_cases hki : k = i
      · omega
      · rw [if_neg hki, List.getElem?_eq_none (by simp; omega)]
theorem OwnI.made (w : World) (T : TypeId) (n : Nat) (hn : n ≤ maxLen) : OwnI T (w.alloc (.cells (madeCells #[.int .i64 0] n) T)) w.heap.size (some ⟨w.heap.size, 0, Option.none⟩) n n (tab n (fun _ => 0)) := by
  refine ⟨by simp [tab], .inr ⟨w.heap.size, n, _, rfl, Nat.le_refl _, heap_alloc_new w _, Nat.le_refl _, hn, by simp [size_madeCells], ?_⟩⟩
  rw [Nat.mul_one, toList_madeCells_one, List.take_of_length_le (by simp)]
  refine List.ext_getElem? fun i => ?_
  by_cases hi : i < n
  · simp [tab, hi]
  · simp [tab, hi]
theorem OwnI.addr {T : TypeId} {w : World} {B n cap : Nat} {a : Option Addr} {xs : List Int} (h : OwnI T w B a n cap xs) (h0 : 0 < n) : ∃ g, a = some ⟨g, 0, Option.none⟩ := by
  rcases h.cases with ⟨_, h1, _⟩ | ⟨g, cur, h1, _⟩
  · omega
  · exact ⟨g, h1⟩
theorem tab_succ {α : Type} (n : Nat) (f : Nat → α) : tab (n + 1) f = tab n f ++ [f n] := by simp [tab, List.range_succ]
end Go.Proofs.Ytpkdgemnddcefaa
