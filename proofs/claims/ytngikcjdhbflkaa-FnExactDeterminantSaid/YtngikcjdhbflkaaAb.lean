/- Abelian groups: the laws' helpers on them, and the test whether a value is one. -/
import Derived.Test.YtngikcjdhbflkaaNumB
import Derived.Test.YtngikcjdhbflkaaList
set_option linter.unusedVariables false
set_option linter.unusedSimpArgs false
namespace Go.Proofs.Ytngikcjdhbflkaa
open Go.RowKit


theorem szInt64S_t (a : Option Addr) (n c : Nat) (left : Int) (w : World) (h : (n : Int) ≤ left) (h1 : left ≤ 1048576) :
    Calls Try.prog 86 #[.slice a n c, .int .i64 left] w fun e w' => e = .returned (.int .i64 (left - n)) ∧ w = w' := by
  go_enter Try.func86, Try.ntmps86
  go_wp2
  go_ret
  exact ⟨rfl, rfl⟩
theorem szInt64S_f (a : Option Addr) (n c : Nat) (left : Int) (w : World) (h : left < (n : Int)) (h0 : 0 ≤ left) (h1 : n ≤ 9223372036854775807) :
    Calls Try.prog 86 #[.slice a n c, .int .i64 left] w fun e w' => e = .returned (.int .i64 (-1)) ∧ w = w' := by
  go_enter Try.func86, Try.ntmps86
  go_wp2
  go_ret
  exact ⟨rfl, rfl⟩

theorem Try.info2 : (Try.prog.info? 2).map (fun i => (i.zero, i.size, i.bytes)) = some (some (.int .i64 0), 1, 8) := by kernel_rfl
/-- a new block that is being filled with a list: k cells are there, the others hold 0 -/
structure Copied (T : TypeId) (w wr : World) (b n k : Nat) (xs : List Int) : Prop where
  bel : Below w.heap.size w wr
  hb : w.heap.size ≤ b
  blk : ∃ cur, wr.heap[b]? = some (.cells cur T (0, 0)) ∧ cur.size = n ∧ (∀ i, i < k → cur[i]? = some (.int .i64 (el xs i))) ∧ ∀ i, k ≤ i → i < n → cur[i]? = some (.int .i64 0)
theorem Copied.step {T : TypeId} {w wr : World} {b n k : Nat} {xs : List Int} (h : Copied T w wr b n k xs) (hk : k < n) : Copied T w (wr.setCell ⟨b, k, none⟩ (.int .i64 (el xs k))) b n (k + 1) xs := by
  obtain ⟨h1, h2, cur, h3, h4, h5, h6⟩ := h
  refine ⟨h1.setCell (p := ⟨b, k, none⟩) h2 _, h2, _, wr_setCell h3 _, by simpa using h4, fun i hi => ?_, fun i hi hn => ?_⟩
  · rw [Array.getElem?_setIfInBounds]
    by_cases he : k = i
    · subst he; rw [if_pos rfl, if_pos (by omega)]
    · rw [if_neg he]; exact h5 i (by omega)
  · rw [Array.getElem?_setIfInBounds, if_neg (by omega)]; exact h6 i (by omega) hn
theorem Copied.cell {T : TypeId} {w wr : World} {b n k : Nat} {xs : List Int} (h : Copied T w wr b n k xs) (hk : k < n) : wr.cell? ⟨b, k, none⟩ = some (.int .i64 0) := by
  obtain ⟨h1, h2, cur, h3, h4, h5, h6⟩ := h
  rw [wr_cell h3]; exact h6 k (by omega) hk
theorem Copied.frozen {T : TypeId} {w wr : World} {b n k : Nat} {xs : List Int} (h : Copied T w wr b n k xs) (i : Nat) : wr.frozen? ⟨b, i, none⟩ = false := by
  obtain ⟨h1, h2, cur, h3, h4, h5, h6⟩ := h
  exact wr_frozen h3
theorem Copied.own {T : TypeId} {w wr : World} {b n : Nat} {xs : List Int} (h : Copied T w wr b n n xs) (hl : xs.length = n) (hm : n ≤ maxLen) : OwnI T wr w.heap.size (some ⟨b, 0, none⟩) n n xs := by
  obtain ⟨h1, h2, cur, h3, h4, h5, h6⟩ := h
  refine ⟨by simpa using hl, .inr ⟨b, n, cur, rfl, h2, h3, Nat.le_refl _, hm, by simpa using h4, ?_⟩⟩
  refine List.ext_getElem? fun i => ?_
  by_cases hi : i < n
  · have := h5 i hi
    simp [List.getElem?_take, hi]
    rw [this, el_get (by omega)]
    rfl
  · simp [List.getElem?_take, hi]
    rw [List.getElem?_eq_none (by omega)]
    rfl
theorem Copied.start {T : TypeId} (w : World) (n : Nat) (xs : List Int) : Copied T w (w.alloc (.cells (madeCells #[.int .i64 0] n) T)) w.heap.size n 0 xs := by
  refine ⟨(Below.refl _ _).alloc (Nat.le_refl _) _, Nat.le_refl _, _, heap_alloc_new w _, by simp [size_madeCells], fun i hi => absurd hi (by omega), fun i _ hi => ?_⟩
  rw [← Array.getElem?_toList, toList_madeCells_one]
  simp [hi]
set_option maxHeartbeats 400000 in
theorem toInt64S_any (a : Option Addr) (n c : Nat) (xs : List Int) (w : World) (ha : RdI w a xs) (hl : xs.length = n) (hn : n ≤ 1048576) :
    Calls Try.prog 33 #[.slice a n c] w fun e w' => ∃ a' c', e = .returned (.slice a' n c') ∧ OwnI 2 w' w.heap.size a' n c' xs ∧ Below w.heap.size w w' := by
  have hmk := run_make_row' (P := Try.prog) 38 2 (.int .i64 0) 8 Try.underlying38 Try.info2 rfl .i64 .i64 n (by omega) (by omega)
  have HA := Lib.hid ha
  have HL := Lib.hid hl
  have H0 : Hid (Copied 2 w (w.alloc (.cells (madeCells #[.int .i64 0] n) 2)) w.heap.size n 0 xs) := Lib.hid (Copied.start w n xs)
  clear ha hl
  go_enter Try.func33, Try.ntmps33
  go_wp2
  clear hmk
  go_loopw [4] (fun i wr => ∃ k : Nat, k ≤ n ∧ i = .int .i64 k ∧ Hid (Copied 2 w wr w.heap.size n k xs)) (fun i _ => n - (intOf i).toNat)
  case atStart => exact ⟨0, Nat.zero_le _, rfl, H0⟩
  case round =>
    obtain ⟨k, hk, rfl, HC⟩ := hrel
    clear H0
    by_cases hlt : k < n
    · obtain ⟨b1, o1, rfl, h1⟩ := (HA.out.keep HC.out.bel (Nat.le_refl _)) (by rw [HL.out]; omega)
      have c1 := h1 k (by rw [HL.out]; omega)
      have c2 := HC.out.cell hlt
      have c3 := HC.out.frozen k
      clear h1
      go_wp2
      go_roundw
      case rel => exact ⟨k + 1, by omega, by go_num, Lib.hid (HC.out.step hlt)⟩
      case measure => simp [intOf]; omega
    · obtain rfl : k = n := by omega
      go_wp2
      go_ret
      exact ⟨_, _, rfl, HC.out.own HL.out (by simp only [maxLen]; omega), HC.out.bel⟩

theorem bcell {W w1 : World} (hb : Below W.heap.size W w1) : (∀ b o, b < W.heap.size → w1.cell? ⟨b, o, none⟩ = W.cell? ⟨b, o, none⟩) ∧ (∀ b o, b < W.heap.size → w1.frozen? ⟨b, o, none⟩ = W.frozen? ⟨b, o, none⟩) :=
  ⟨fun b o h => hb.cell (p := ⟨b, o, none⟩) h, fun b o h => hb.frozen (p := ⟨b, o, none⟩) h⟩
theorem OwnI.setCell {T : TypeId} {w : World} {B : Nat} {a : Option Addr} {n cap : Nat} {xs : List Int} (h : OwnI T w B a n cap xs) {p : Addr} (hp : p.block < B) (u : Value) : OwnI T (w.setCell p u) B a n cap xs := ownsRow_setCell_below h hp u

/-! ### the test whether a value is an abelian group -/
def okF (xs : List Int) (i : Nat) : Prop := 2 ≤ el xs i ∧ el xs i ≤ 1000000 ∧ (0 < i → el xs i % el xs (i - 1) = 0)
instance (xs : List Int) (i : Nat) : Decidable (okF xs i) := by unfold okF; exact inferInstance
def abOk (xs : List Int) (r : Int) : Prop := 0 ≤ r ∧ r ≤ 10 ∧ (xs.length : Int) + r ≤ 10 ∧ ∀ i, i < xs.length → okF xs i
instance (xs : List Int) (r : Int) : Decidable (abOk xs r) := by unfold abOk; exact inferInstance
def isAb (xs : List Int) (r : Int) : Bool := decide (abOk xs r)
theorem isAb_t {xs : List Int} {r : Int} (h : abOk xs r) : isAb xs r = true := by unfold isAb; simpa using h
theorem isAb_f {xs : List Int} {r : Int} (h : ¬ abOk xs r) : isAb xs r = false := by unfold isAb; simpa using h
theorem isAb_ok {xs : List Int} {r : Int} (h : isAb xs r = true) : abOk xs r := by unfold isAb at h; simpa using h

end Go.Proofs.Ytngikcjdhbflkaa
