/- Abelian groups: the laws' helpers on them, and the test whether a value is one. -/
import Derived.Test.YtpkdgemnddcefaaNumB
import Derived.Test.YtpkdgemnddcefaaList
set_option linter.unusedVariables false
set_option linter.unusedSimpArgs false
namespace Go.Proofs.Ytpkdgemnddcefaa
open Go.RowKit



/-- a new block that is being filled with a list: k cells are there, the others hold 0 -/
structure Copied (T : TypeId) (w wr : World) (b n k : Nat) (xs : List Int) : Prop where
  bel : Below w.heap.size w wr
  hb : w.heap.size ≤ b
  blk : ∃ cur, wr.heap[b]? = some (.cells cur T (0, 0)) ∧ cur.size = n ∧ (∀ i, i < k → cur[i]? = some (.int .i64 (el xs i))) ∧ ∀ i, k ≤ i → i < n → cur[i]? = some (.int .i64 0)
theorem Copied.step {T : TypeId} {w wr : World} {b n k : Nat} {xs : List Int} (h : Copied T w wr b n k xs) (hk : k < n) : Copied T w (wr.setCell ⟨b, k, none⟩ (.int .i64 (el xs k))) b n (k + 1) xs := by
  obtain ⟨h1, h2, cur, h3, h4, h5, h6⟩ := h
  refine ⟨h1.setCell (p := ⟨b, k, none⟩) h2 _, h2, _, wr_setCell h3 _, by simpa using h4, fun i hi => ?_, fun i hi hn => ?_⟩
  · rw [Array.getElem?_setIfInBounds]
    by_cases he : k = i
    · subst he; rw [if_pos rfl, if_pos (by omega)]
    · rw [if_neg he]; exact h5 i (by omega)
  · rw [Array.getElem?_setIfInBounds, if_neg (by omega)]; exact h6 i (by omega) hn
theorem Copied.cell {T : TypeId} {w wr : World} {b n k : Nat} {xs : List Int} (h : Copied T w wr b n k xs) (hk : k < n) : wr.cell? ⟨b, k, none⟩ = some (.int .i64 0) := by
  obtain ⟨h1, h2, cur, h3, h4, h5, h6⟩ := h
  rw [wr_cell h3]; exact h6 k (by omega) hk
theorem Copied.frozen {T : TypeId} {w wr : World} {b n k : Nat} {xs : List Int} (h : Copied T w wr b n k xs) (i : Nat) : wr.frozen? ⟨b, i, none⟩ = false := by
  obtain ⟨h1, h2, cur, h3, h4, h5, h6⟩ := h
  exact wr_frozen h3
theorem Copied.own {T : TypeId} {w wr : World} {b n : Nat} {xs : List Int} (h : Copied T w wr b n n xs) (hl : xs.length = n) (hm : n ≤ maxLen) : OwnI T wr w.heap.size (some ⟨b, 0, none⟩) n n xs := by
  obtain ⟨h1, h2, cur, h3, h4, h5, h6⟩ := h
  refine ⟨by simpa using hl, .inr ⟨b, n, cur, rfl, h2, h3, Nat.le_refl _, hm, by simpa using h4, ?_⟩⟩
  refine List.ext_getElem? fun i => ?_
  by_cases hi : i < n
  · have := h5 i hi
    simp [List.getElem?_take, hi]
    rw [this, el_get (by omega)]
    rfl
  · simp [List.getElem?_take, hi]
    rw [List.getElem?_eq_none (by omega)]
    rfl
theorem Copied.start {T : TypeId} (w : World) (n : Nat) (xs : List Int) : Copied T w (w.alloc (.cells (madeCells #[.int .i64 0] n) T)) w.heap.size n 0 xs := by
  refine ⟨(Below.refl _ _).alloc (Nat.le_refl _) _, Nat.le_refl _, _, heap_alloc_new w _, by simp [size_madeCells], fun i hi => absurd hi (by omega), fun i _ hi => ?_⟩
  rw [← Array.getElem?_toList, toList_madeCells_one]
  simp [hi]

theorem bcell {W w1 : World} (hb : Below W.heap.size W w1) : (∀ b o, b < W.heap.size → w1.cell? ⟨b, o, none⟩ = W.cell? ⟨b, o, none⟩) ∧ (∀ b o, b < W.heap.size → w1.frozen? ⟨b, o, none⟩ = W.frozen? ⟨b, o, none⟩) :=
  ⟨fun b o h => hb.cell (p := ⟨b, o, none⟩) h, fun b o h => hb.frozen (p := ⟨b, o, none⟩) h⟩
theorem OwnI.setCell {T : TypeId} {w : World} {B : Nat} {a : Option Addr} {n cap : Nat} {xs : List Int} (h : OwnI T w B a n cap xs) {p : Addr} (hp : p.block < B) (u : Value) : OwnI T (w.setCell p u) B a n cap xs := ownsRow_setCell_below h hp u

/-! ### the test whether a value is an abelian group -/
def okF (xs : List Int) (i : Nat) : Prop := 2 ≤ el xs i ∧ el xs i ≤ 1000000 ∧ (0 < i → el xs i % el xs (i - 1) = 0)
instance (xs : List Int) (i : Nat) : Decidable (okF xs i) := by unfold okF; exact inferInstance
def abOk (xs : List Int) (r : Int) : Prop := 0 ≤ r ∧ r ≤ 10 ∧ (xs.length : Int) + r ≤ 10 ∧ ∀ i, i < xs.length → okF xs i
instance (xs : List Int) (r : Int) : Decidable (abOk xs r) := by unfold abOk; exact inferInstance
def isAb (xs : List Int) (r : Int) : Bool := decide (abOk xs r)
theorem isAb_t {xs : List Int} {r : Int} (h : abOk xs r) : isAb xs r = true := by unfold isAb; simpa using h
theorem isAb_f {xs : List Int} {r : Int} (h : ¬ abOk xs r) : isAb xs r = false := by unfold isAb; simpa using h
theorem isAb_ok {xs : List Int} {r : Int} (h : isAb xs r = true) : abOk xs r := by unfold isAb at h; simpa using h

end Go.Proofs.Ytpkdgemnddcefaa
