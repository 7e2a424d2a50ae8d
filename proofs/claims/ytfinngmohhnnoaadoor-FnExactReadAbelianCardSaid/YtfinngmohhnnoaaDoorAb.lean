/- Abelian groups: the laws' helpers on them, and the test whether a value is one. -/
import Derived.Test.YtfinngmohhnnoaaDoorNumB
import Derived.Test.YtfinngmohhnnoaaDoorList
set_option linter.unusedVariables false
set_option linter.unusedSimpArgs false
namespace Go.Proofs.YtfinngmohhnnoaaDoor
open Go.RowKit


theorem szInt64S_t (a : Option Addr) (n c : Nat) (left : Int) (w : World) (h : (n : Int) ≤ left) (h1 : left ≤ 1048576) :
    Calls Tryd.prog 14 #[.slice a n c, .int .i64 left] w fun e w' => e = .returned (.int .i64 (left - n)) ∧ w = w' := by
  go_enter Tryd.func14, Tryd.ntmps14
  go_wp2
  go_ret
  exact ⟨rfl, rfl⟩
theorem szInt64S_f (a : Option Addr) (n c : Nat) (left : Int) (w : World) (h : left < (n : Int)) (h0 : 0 ≤ left) (h1 : n ≤ 9223372036854775807) :
    Calls Tryd.prog 14 #[.slice a n c, .int .i64 left] w fun e w' => e = .returned (.int .i64 (-1)) ∧ w = w' := by
  go_enter Tryd.func14, Tryd.ntmps14
  go_wp2
  go_ret
  exact ⟨rfl, rfl⟩

/-- a new block that is being filled with a list: k cells are there, the others hold 0 -/
structure Copied (T : TypeId) (w wr : World) (b n k : Nat) (xs : List Int) : Prop where
  bel : Below w.heap.size w wr
  hb : w.heap.size ≤ b
  blk : ∃ cur, wr.heap[b]? = some (.cells cur T (0, 0)) ∧ cur.size = n ∧ (∀ i, i < k → cur[i]? = some (.int .i64 (el xs i))) ∧ ∀ i, k ≤ i → i < n → cur[i]? = some (.int .i64 0)
theorem Copied.step {T : TypeId} {w wr : World} {b n k : Nat} {xs : List Int} (h : Copied T w wr b n k xs) (hk : k < n) : Copied T w (wr.setCell ⟨b, k, none⟩ (.int .i64 (el xs k))) b n (k + 1) xs := by
  obtain ⟨h1, h2, cur, h3, h4, h5, h6⟩ := h
  refine ⟨h1.setCell (p := ⟨b, k, none⟩) h2 _, h2, _, wr_setCell h3 _, by simpa using h4, fun i hi => ?_, fun i hi hn => ?_⟩
  · rw [Array.getElem?_setIfInBounds]
    by_cases he : k = i
    · subst he; rw [if_pos rfl, if_pos (by omega)]
    · rw [if_neg he]; exact h5 i (by omega)
  · rw [Array.getElem?_setIfInBounds, if_neg (by omega)]; exact h6 i (by omega) hn
theorem Copied.cell {T : TypeId} {w wr : World} {b n k : Nat} {xs : List Int} (h : Copied T w wr b n k xs) (hk : k < n) : wr.cell? ⟨b, k, none⟩ = some (.int .i64 0) := by
  obtain ⟨h1, h2, cur, h3, h4, h5, h6⟩ := h
  rw [wr_cell h3]; exact h6 k (by omega) hk
theorem Copied.frozen {T : TypeId} {w wr : World} {b n k : Nat} {xs : List Int} (h : Copied T w wr b n k xs) (i : Nat) : wr.frozen? ⟨b, i, none⟩ = false := by
  obtain ⟨h1, h2, cur, h3, h4, h5, h6⟩ := h
  exact wr_frozen h3
theorem Copied.own {T : TypeId} {w wr : World} {b n : Nat} {xs : List Int} (h : Copied T w wr b n n xs) (hl : xs.length = n) (hm : n ≤ maxLen) : OwnI T wr w.heap.size (some ⟨b, 0, none⟩) n n xs := by
  obtain ⟨h1, h2, cur, h3, h4, h5, h6⟩ := h
  refine ⟨by simpa using hl, .inr ⟨b, n, cur, rfl, h2, h3, Nat.le_refl _, hm, by simpa using h4, ?_⟩⟩
  refine List.ext_getElem? fun i => ?_
  by_cases hi : i < n
  · have := h5 i hi
    simp [List.getElem?_take, hi]
    rw [this, el_get (by omega)]
    rfl
  · simp [List.getElem?_take, hi]
    rw [List.getElem?_eq_none (by omega)]
    rfl
theorem Copied.start {T : TypeId} (w : World) (n : Nat) (xs : List Int) : Copied T w (w.alloc (.cells (madeCells #[.int .i64 0] n) T)) w.heap.size n 0 xs := by
  refine ⟨(Below.refl _ _).alloc (Nat.le_refl _) _, Nat.le_refl _, _, heap_alloc_new w _, by simp [size_madeCells], fun i hi => absurd hi (by omega), fun i _ hi => ?_⟩
  rw [← Array.getElem?_toList, toList_madeCells_one]
  simp [hi]
set_option maxHeartbeats 400000 in
theorem toInt64S_any (a : Option Addr) (n c : Nat) (xs : List Int) (w : World) (ha : RdI w a xs) (hl : xs.length = n) (hn : n ≤ 1048576) :
    Calls Tryd.prog 17 #[.slice a n c] w fun e w' => ∃ a' c', e = .returned (.slice a' n c') ∧ OwnI 2 w' w.heap.size a' n c' xs ∧ Below w.heap.size w w' := by
  have hmk := run_make_row' (P := Tryd.prog) 22 2 (.int .i64 0) 8 Tryd.underlying22 Tryd.info2 rfl .i64 .i64 n (by omega) (by omega)
  have HA := Lib.hid ha
  have HL := Lib.hid hl
  have H0 : Hid (Copied 2 w (w.alloc (.cells (madeCells #[.int .i64 0] n) 2)) w.heap.size n 0 xs) := Lib.hid (Copied.start w n xs)
  clear ha hl
  go_enter Tryd.func17, Tryd.ntmps17
  go_wp2
  clear hmk
  go_loopw [4] (fun i wr => ∃ k : Nat, k ≤ n ∧ i = .int .i64 k ∧ Hid (Copied 2 w wr w.heap.size n k xs)) (fun i _ => n - (intOf i).toNat)
  case atStart => exact ⟨0, Nat.zero_le _, rfl, H0⟩
  case round =>
    obtain ⟨k, hk, rfl, HC⟩ := hrel
    clear H0
    by_cases hlt : k < n
    · obtain ⟨b1, o1, rfl, h1⟩ := (HA.out.keep HC.out.bel (Nat.le_refl _)) (by rw [HL.out]; omega)
      have c1 := h1 k (by rw [HL.out]; omega)
      have c2 := HC.out.cell hlt
      have c3 := HC.out.frozen k
      clear h1
      go_wp2
      go_roundw
      case rel => exact ⟨k + 1, by omega, by go_num, Lib.hid (HC.out.step hlt)⟩
      case measure => simp [intOf]; omega
    · obtain rfl : k = n := by omega
      go_wp2
      go_ret
      exact ⟨_, _, rfl, HC.out.own HL.out (by simp only [maxLen]; omega), HC.out.bel⟩

theorem bcell {W w1 : World} (hb : Below W.heap.size W w1) : (∀ b o, b < W.heap.size → w1.cell? ⟨b, o, none⟩ = W.cell? ⟨b, o, none⟩) ∧ (∀ b o, b < W.heap.size → w1.frozen? ⟨b, o, none⟩ = W.frozen? ⟨b, o, none⟩) :=
  ⟨fun b o h => hb.cell (p := ⟨b, o, none⟩) h, fun b o h => hb.frozen (p := ⟨b, o, none⟩) h⟩
theorem OwnI.setCell {T : TypeId} {w : World} {B : Nat} {a : Option Addr} {n cap : Nat} {xs : List Int} (h : OwnI T w B a n cap xs) {p : Addr} (hp : p.block < B) (u : Value) : OwnI T (w.setCell p u) B a n cap xs := ownsRow_setCell_below h hp u
set_option maxHeartbeats 400000 in
theorem toAbelian_any (a : Option Addr) (n c : Nat) (xs : List Int) (r : Int) (w : World) (ha : RdI w a xs) (hl : xs.length = n) (hn : n ≤ 1048576) :
    Calls Tryd.prog 7 #[.agg #[.slice a n c, .int .i64 r]] w fun e w' => ∃ a' c', e = .returned (.agg #[.slice a' n c', .int .i64 r]) ∧ OwnI 2 w' w.heap.size a' n c' xs ∧ Below w.heap.size w w' := by
  have HA := Lib.hid ha
  have HL := Lib.hid hl
  clear ha hl
  go_enter Tryd.func7, Tryd.ntmps7
  go_wp2_with fail
  refine (toInt64S_any _ _ _ xs _ (by exact ((HA.out.alloc _).alloc _).alloc _) HL.out hn).mono ?_
  rintro e w1 ⟨a', c', rfl, ho, hb⟩
  have HO := Lib.hid ho
  have HB := Lib.hid hb
  obtain ⟨hc, hf⟩ := bcell hb
  have hz : w.heap.size + 2 < w1.heap.size := by have := hb.size; simp at this; omega
  clear ho hb
  go_wp2_with fail
  refine bodyPost_ret (v := .agg #[.slice a' n c', .int .i64 r]) (by simp [results, Tryd.results7, go_sem, hc, hz]) rfl ⟨a', c', rfl, ?_, ?_⟩
  · exact ((((HO.out.setCell (by simp) _).setCell (by simp) _).setCell (by simp) _).setCell (by simp) _).mono (by simp; omega)
  · exact (((((((Below.refl _ _).alloc (Nat.le_refl _) _).alloc (by simp) _).alloc (by simp; omega) _).trans (HB.out.mono (by simp; omega))).setCell (by simp; omega) _).setCell (by simp; omega) _).setCell (by simp) _ |>.setCell (by simp) _
set_option maxHeartbeats 400000 in
theorem eqAbelian_t (a b : Option Addr) (n m ca cb : Nat) (xs : List Int) (r : Int) (w : World) (ha : RdI w a xs) (hb : RdI w b xs) (hn : xs.length = n) (hm : xs.length = m) (hl : n ≤ 1000000000000) :
    Calls Tryd.prog 9 #[.agg #[.slice a n ca, .int .i64 r], .agg #[.slice b m cb, .int .i64 r]] w fun e w' => e = .returned (.bool true) ∧ Below w.heap.size w w' := by
  have HA := Lib.hid ha
  have HB := Lib.hid hb
  have HN := Lib.hid hn
  have HM := Lib.hid hm
  clear ha hb hn hm
  go_enter Tryd.func9, Tryd.ntmps9
  go_wp2_with fail
  refine (eqInt64S_t _ _ _ _ _ _ xs _ (by exact (HA.out.alloc _).alloc _) (by exact (HB.out.alloc _).alloc _) HN.out HM.out hl).mono ?_
  rintro e w' ⟨rfl, t, rfl⟩
  go_wp2_with fail
  go_ret
  exact ⟨rfl, below_drewN' (((Below.refl _ _).alloc (Nat.le_refl _) _).alloc (by simp) _) _⟩
theorem szAbelian_t (a : Option Addr) (n c : Nat) (r left : Int) (w : World) (h : (n : Int) ≤ left) (h1 : left ≤ 1048576) :
    Calls Tryd.prog 5 #[.agg #[.slice a n c, .int .i64 r], .int .i64 left] w fun e w' => e = .returned (.int .i64 (left - n)) ∧ Below w.heap.size w w' := by
  go_enter Tryd.func5, Tryd.ntmps5
  go_wp2_with (go_at_call 14; refine (szInt64S_t _ _ _ _ _ (by omega) (by omega)).mono ?_; rintro e w' ⟨rfl, rfl⟩)
  go_ret
  exact ⟨rfl, (Below.refl _ _).alloc (Nat.le_refl _) _⟩
theorem szAbelian_f (a : Option Addr) (n c : Nat) (r left : Int) (w : World) (h : left < (n : Int)) (h0 : 0 ≤ left) (h1 : n ≤ 9223372036854775807) :
    Calls Tryd.prog 5 #[.agg #[.slice a n c, .int .i64 r], .int .i64 left] w fun e w' => e = .returned (.int .i64 (-1)) ∧ Below w.heap.size w w' := by
  go_enter Tryd.func5, Tryd.ntmps5
  go_wp2_with (go_at_call 14; refine (szInt64S_f _ _ _ _ _ (by omega) (by omega) (by omega)).mono ?_; rintro e w' ⟨rfl, rfl⟩)
  go_ret
  exact ⟨rfl, (Below.refl _ _).alloc (Nat.le_refl _) _⟩

/-! ### the test whether a value is an abelian group -/
def okF (xs : List Int) (i : Nat) : Prop := 2 ≤ el xs i ∧ el xs i ≤ 1000000 ∧ (0 < i → el xs i % el xs (i - 1) = 0)
instance (xs : List Int) (i : Nat) : Decidable (okF xs i) := by unfold okF; exact inferInstance
def abOk (xs : List Int) (r : Int) : Prop := 0 ≤ r ∧ r ≤ 10 ∧ (xs.length : Int) + r ≤ 10 ∧ ∀ i, i < xs.length → okF xs i
instance (xs : List Int) (r : Int) : Decidable (abOk xs r) := by unfold abOk; exact inferInstance
def isAb (xs : List Int) (r : Int) : Bool := decide (abOk xs r)
theorem isAb_t {xs : List Int} {r : Int} (h : abOk xs r) : isAb xs r = true := by unfold isAb; simpa using h
theorem isAb_f {xs : List Int} {r : Int} (h : ¬ abOk xs r) : isAb xs r = false := by unfold isAb; simpa using h
theorem isAb_ok {xs : List Int} {r : Int} (h : isAb xs r = true) : abOk xs r := by unfold isAb at h; simpa using h
set_option maxHeartbeats 800000 in
theorem impl_IsAbelian_any (a : Option Addr) (n c : Nat) (xs : List Int) (r : Int) (w : World) (ha : RdI w a xs) (hl : xs.length = n) (hn : n ≤ 1000000000000) :
    Calls Tryd.prog 18 #[.agg #[.slice a n c, .int .i64 r]] w fun e w' => e = .returned (.bool (isAb xs r)) ∧ Below w.heap.size w w' := by
  have hB0 : ∀ o, Below w.heap.size w (w.alloc o) := fun o => (Below.refl _ _).alloc (Nat.le_refl _) _
  have HA := Lib.hid ha
  have HL := Lib.hid hl
  clear ha hl
  by_cases h1 : r < 0
  · have H := Lib.hid (isAb_f (xs := xs) (r := r) (fun h => by have := h.1; omega))
    go_enter Tryd.func18, Tryd.ntmps18
    go_wp2
    go_ret
    exact ⟨ret_bool H.out.symm, hB0 _⟩
  by_cases h2 : 10 < r
  · have H := Lib.hid (isAb_f (xs := xs) (r := r) (fun h => by have := h.2.1; omega))
    have e1 : decide (10 < r) = true := by simpa using h2
    go_enter Tryd.func18, Tryd.ntmps18
    go_wp2
    go_ret
    exact ⟨ret_bool H.out.symm, hB0 _⟩
  have e1 : decide (10 < r) = false := by simp; omega
  by_cases h3 : 10 < (n : Int) + r
  · have H := Lib.hid (isAb_f (xs := xs) (r := r) (fun h => by have := h.2.2.1; have := HL.out; omega))
    have e2 : decide (10 < (n : Int) + r) = true := by simpa using h3
    go_enter Tryd.func18, Tryd.ntmps18
    go_wp2
    go_ret
    exact ⟨ret_bool H.out.symm, hB0 _⟩
  have e2 : decide (10 < (n : Int) + r) = false := by simp; omega
  go_enter Tryd.func18, Tryd.ntmps18
  go_wp2
  have H0 : Hid (∀ j, j < 0 → okF xs j) := Lib.hid (fun j hj => absurd hj (by omega))
  go_loop [25] (fun i => ∃ k : Nat, k ≤ n ∧ i = .int .i64 k ∧ Hid (∀ j, j < k → okF xs j)) (fun i => n - (intOf i).toNat)
  case atStart => exact ⟨0, Nat.zero_le _, rfl, H0⟩
  case round =>
    obtain ⟨k, hk, rfl, HO⟩ := hrel
    clear H0
    by_cases hlt : k < n
    · obtain ⟨b1, o1, hb1, hc⟩ := HA.out (by rw [HL.out]; omega)
      have c1 := (RdI.alloc HA.out (.cells #[.slice a n c, .int .i64 r] 28)) (by rw [HL.out]; omega)
      obtain ⟨b2, o2, hb2, hc2⟩ := c1
      subst hb1
      injection hb2 with hb2
      injection hb2 with q1 q2
      subst q1; subst q2
      have d1 := hc2 k (by rw [HL.out]; omega)
      by_cases hin : 2 ≤ el xs k ∧ el xs k ≤ 1000000
      · obtain ⟨i1, i2⟩ := hin
        cases k with
        | zero =>
          have HO1 : Hid (∀ j, j < 0 + 1 → okF xs j) := Lib.hid fun j hj => by
            obtain rfl : j = 0 := by omega
            exact ⟨i1, i2, fun h => absurd h (by omega)⟩
          clear hc hc2
          rw [Nat.add_zero] at d1
          go_wp2_with (go_at_call 29; refine (inside_t _ _ _ _ (by omega) (by omega)).mono ?_; rintro e w' ⟨rfl, rfl⟩)
          go_round
          case rel => exact ⟨0 + 1, by omega, by go_num, HO1⟩
          case measure => simp [intOf]; omega
        | succ k =>
          have d2 := hc2 k (by rw [HL.out]; omega)
          have hpos : decide (0 < ((k : Int) + 1)) = true := decide_eq_true (by omega)
          have hprev := HO.out k (by omega)
          obtain ⟨i3, i4, _⟩ := hprev
          have hm1 : IntKind.i64.wrap ((k : Int) + 1 - 1) = k := by rw [IntWalk.i64_in _ (by omega)]; simp
          clear hc hc2
          by_cases hmod : el xs (k + 1) % el xs k = 0
          · have HO1 : Hid (∀ j, j < k + 1 + 1 → okF xs j) := Lib.hid fun j hj => by
              by_cases he : j = k + 1
              · subst he; exact ⟨i1, i2, fun _ => hmod⟩
              · exact HO.out j (by omega)
            have hm : (el xs (k + 1) % el xs k != 0) = false := by rw [hmod]; rfl
            clear hmod
            go_wp2_with (go_at_call 29; refine (inside_t _ _ _ _ (by omega) (by omega)).mono ?_; rintro e w' ⟨rfl, rfl⟩)
            go_round
            case rel => exact ⟨k + 1 + 1, by omega, by go_num, HO1⟩
            case measure => simp [intOf]; omega
          · have H := Lib.hid (isAb_f (xs := xs) (r := r) (fun h => hmod ((h.2.2.2 (k + 1) (by rw [HL.out]; omega)).2.2 (by omega))))
            have hm : (el xs (k + 1) % el xs k != 0) = true := bne_iff_ne.2 hmod
            clear hmod
            go_wp2_with (go_at_call 29; refine (inside_t _ _ _ _ (by omega) (by omega)).mono ?_; rintro e w' ⟨rfl, rfl⟩)
            go_ret
            exact ⟨ret_bool H.out.symm, hB0 _⟩
      · have H := Lib.hid (isAb_f (xs := xs) (r := r) (fun h => hin ⟨(h.2.2.2 k (by rw [HL.out]; omega)).1, (h.2.2.2 k (by rw [HL.out]; omega)).2.1⟩))
        have hin' : el xs k < 2 ∨ 1000000 < el xs k := by omega
        clear hin hc hc2
        go_wp2_with (go_at_call 29; refine (inside_f _ _ _ _ hin').mono ?_; rintro e w' ⟨rfl, rfl⟩)
        go_ret
        exact ⟨ret_bool H.out.symm, hB0 _⟩
    · obtain rfl : k = n := by omega
      have H := Lib.hid (isAb_t (xs := xs) (r := r) ⟨by omega, by omega, by have := HL.out; omega, fun i hi => HO.out i (by have := HL.out; omega)⟩)
      go_wp2
      go_ret
      exact ⟨ret_bool H.out.symm, hB0 _⟩

/-- the box of a parameter stands in the world of a round -/
def AbW (w wr : World) (a : Option Addr) (n c : Nat) (r : Int) : Prop := Below w.heap.size w wr ∧ wr.cell? ⟨w.heap.size, 0, none⟩ = some (.slice a n c) ∧ wr.cell? ⟨w.heap.size, 1, none⟩ = some (.int .i64 r)
theorem AbW.drewN {w wr : World} {a : Option Addr} {n c : Nat} {r : Int} (h : AbW w wr a n c r) (q : Nat) : AbW w (wr.drewN q) a n c r := ⟨below_drewN' h.1 q, h.2.1, h.2.2⟩
set_option maxHeartbeats 1000000 in
theorem spec_IsAbelian_any (a : Option Addr) (n c : Nat) (xs : List Int) (r : Int) (w : World) (ha : RdI w a xs) (hl : xs.length = n) (hn : n ≤ 1000000000000) :
    Calls Tryd.prog 15 #[.agg #[.slice a n c, .int .i64 r]] w fun e w' => e = .returned (.bool (isAb xs r)) ∧ Below w.heap.size w w' := by
  have hB0 : ∀ o q, Below w.heap.size w ((w.alloc o).drewN q) := fun o q => below_drewN' ((Below.refl _ _).alloc (Nat.le_refl _) _) q
  have HA := Lib.hid ha
  have HL := Lib.hid hl
  clear ha hl
  by_cases h1 : 10 < (n : Int)
  · have H := Lib.hid (isAb_f (xs := xs) (r := r) (fun h => by have := h.1; have := h.2.2.1; have := HL.out; omega))
    have e1 : decide (10 < (n : Int)) = true := by simpa using h1
    go_enter Tryd.func15, Tryd.ntmps15
    go_wp2
    go_ret
    exact ⟨ret_bool H.out.symm, hB0 _ 0⟩
  have e1 : decide (10 < (n : Int)) = false := by simp; omega
  by_cases h2 : r < 0 ∨ 10 - (n : Int) < r
  · have H := Lib.hid (isAb_f (xs := xs) (r := r) (fun h => by have := h.1; have := h.2.2.1; have := HL.out; omega))
    go_enter Tryd.func15, Tryd.ntmps15
    go_wp2_with (go_at_call 27; refine (l01In_f _ _ _ _ h2).mono ?_; rintro e w' ⟨rfl, rfl⟩)
    go_ret
    exact ⟨ret_bool H.out.symm, hB0 _ 0⟩
  have h3 : 0 ≤ r := by omega
  have h4 : r ≤ 10 - (n : Int) := by omega
  clear h2
  go_enter Tryd.func15, Tryd.ntmps15
  go_wp2_with (go_at_call 27; refine (l01In_t _ _ _ _ h3 h4).mono ?_; rintro e w' ⟨rfl, rfl⟩)
  have HW0 : Hid (AbW w (w.alloc (.cells #[.slice a n c, .int .i64 r] 28)) a n c r) := Lib.hid ⟨(Below.refl _ _).alloc (Nat.le_refl _) _, by simp, by simp⟩
  have H0 : Hid (∀ j, j < 0 → okF xs j) := Lib.hid (fun j hj => absurd hj (by omega))
  go_loopw [4] (fun i wr => ∃ (k : Nat), k ≤ n ∧ i = .int .i64 k ∧ Hid (AbW w wr a n c r) ∧ Hid (∀ j, j < k → okF xs j)) (fun i _ => n - (intOf i).toNat)
  case atStart => exact ⟨0, Nat.zero_le _, rfl, HW0, H0⟩
  case round =>
    obtain ⟨k, hk, rfl, HW, HO⟩ := hrel
    clear H0 HW0
    have p0 := HW.out.2.1
    have p1 := HW.out.2.2
    by_cases hlt : k < n
    · obtain ⟨b1, o1, hb1, hc⟩ := HA.out (by rw [HL.out]; omega)
      have c1 := (HA.out.keep HW.out.1 (Nat.le_refl _)) (by rw [HL.out]; omega)
      obtain ⟨b2, o2, hb2, hc2⟩ := c1
      subst hb1
      injection hb2 with hb2
      injection hb2 with q1 q2
      subst q1; subst q2
      have d1 := hc2 k (by rw [HL.out]; omega)
      have hk1 : (k : Int) < (n : Int) := by omega
      by_cases hin : 2 ≤ el xs k ∧ el xs k ≤ 1000000
      · obtain ⟨i1, i2⟩ := hin
        cases k with
        | zero =>
          have HO1 : Hid (∀ j, j < 0 + 1 → okF xs j) := Lib.hid fun j hj => by
            obtain rfl : j = 0 := by omega
            exact ⟨i1, i2, fun h => absurd h (by omega)⟩
          clear hc hc2
          rw [Nat.add_zero] at d1
          have hn0 : 0 < n := by omega
          have hn1 : (0 : Int) < (n : Int) := by omega
          clear hk1
          go_wp2
          go_quiet ((go_at_call 27; exact quiet_eq (l01In_t _ _ _ _ (by omega) (by omega))))
          go_wp2
          go_roundw
          case rel => exact ⟨0 + 1, by omega, by go_num, Lib.hid (HW.out.drewN nq), HO1⟩
          case measure => simp [intOf]; omega
        | succ k =>
          have d2 := hc2 k (by rw [HL.out]; omega)
          have hpos : decide (0 < ((k : Int) + 1)) = true := decide_eq_true (by omega)
          have hprev := HO.out k (by omega)
          obtain ⟨i3, i4, _⟩ := hprev
          have hm1 : IntKind.i64.wrap ((k : Int) + 1 - 1) = k := by rw [IntWalk.i64_in _ (by omega)]; simp
          have hm2 : IntKind.i64.wrap (k : Int) = k := IntWalk.i64_in _ (by omega)
          have hk2 : (k : Int) < (n : Int) := by omega
          have hk3 : (k : Int) + 1 < (n : Int) := by omega
          have hk4 : 0 ≤ (k : Int) + 1 := by omega
          have hk5 : ((k : Int) + 1).toNat = k + 1 := by omega
          clear hc hc2
          by_cases hmod : el xs (k + 1) % el xs k = 0
          · have HO1 : Hid (∀ j, j < k + 1 + 1 → okF xs j) := Lib.hid fun j hj => by
              by_cases he : j = k + 1
              · subst he; exact ⟨i1, i2, fun _ => hmod⟩
              · exact HO.out j (by omega)
            have hm : (el xs (k + 1) % el xs k != 0) = false := by rw [hmod]; rfl
            clear hmod
            go_wp2
            go_quiet ((go_at_call 27; exact quiet_eq (l01In_t _ _ _ _ (by omega) (by omega))))
            go_wp2
            go_roundw
            case rel => exact ⟨k + 1 + 1, by omega, by go_num, Lib.hid (HW.out.drewN nq), HO1⟩
            case measure => simp [intOf]; omega
          · have H := Lib.hid (isAb_f (xs := xs) (r := r) (fun h => hmod ((h.2.2.2 (k + 1) (by rw [HL.out]; omega)).2.2 (by omega))))
            have hm : (el xs (k + 1) % el xs k != 0) = true := bne_iff_ne.2 hmod
            clear hmod
            go_wp2
            go_quiet ((go_at_call 27; exact quiet_eq (l01In_t _ _ _ _ (by omega) (by omega))))
            go_wp2
            go_ret
            exact ⟨ret_bool H.out.symm, below_drewN' HW.out.1 _⟩
      · have H := Lib.hid (isAb_f (xs := xs) (r := r) (fun h => hin ⟨(h.2.2.2 k (by rw [HL.out]; omega)).1, (h.2.2.2 k (by rw [HL.out]; omega)).2.1⟩))
        have hin' : el xs k < 2 ∨ 1000000 < el xs k := by omega
        clear hin hc hc2
        go_wp2
        go_quiet ((go_at_call 27; exact quiet_eq (l01In_f _ _ _ _ hin')))
        go_wp2
        go_ret
        exact ⟨ret_bool H.out.symm, below_drewN' HW.out.1 _⟩
    · obtain rfl : k = n := by omega
      have H := Lib.hid (isAb_t (xs := xs) (r := r) ⟨by omega, by omega, by have := HL.out; omega, fun i hi => HO.out i (by have := HL.out; omega)⟩)
      go_wp2
      go_ret
      exact ⟨ret_bool H.out.symm, HW.out.1⟩
end Go.Proofs.YtfinngmohhnnoaaDoor
