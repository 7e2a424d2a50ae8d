/- Abelian groups: the laws' helpers on them, and the test whether a value is one. -/
import Derived.Test.YtkidohohiihbaaaNumB
import Derived.Test.YtkidohohiihbaaaList
set_option linter.unusedVariables false
set_option linter.unusedSimpArgs false
namespace Go.Proofs.Ytkidohohiihbaaa
open Go.RowKit




theorem bcell {W w1 : World} (hb : Below W.heap.size W w1) : (∀ b o, b < W.heap.size → w1.cell? ⟨b, o, none⟩ = W.cell? ⟨b, o, none⟩) ∧ (∀ b o, b < W.heap.size → w1.frozen? ⟨b, o, none⟩ = W.frozen? ⟨b, o, none⟩) :=
  ⟨fun b o h => hb.cell (p := ⟨b, o, none⟩) h, fun b o h => hb.frozen (p := ⟨b, o, none⟩) h⟩
theorem OwnI.setCell {T : TypeId} {w : World} {B : Nat} {a : Option Addr} {n cap : Nat} {xs : List Int} (h : OwnI T w B a n cap xs) {p : Addr} (hp : p.block < B) (u : Value) : OwnI T (w.setCell p u) B a n cap xs := ownsRow_setCell_below h hp u

/-! ### the test whether a value is an abelian group -/
def okF (xs : List Int) (i : Nat) : Prop := 2 ≤ el xs i ∧ el xs i ≤ 1000000 ∧ (0 < i → el xs i % el xs (i - 1) = 0)
instance (xs : List Int) (i : Nat) : Decidable (okF xs i) := by unfold okF; exact inferInstance
def abOk (xs : List Int) (r : Int) : Prop := 0 ≤ r ∧ r ≤ 10 ∧ (xs.length : Int) + r ≤ 10 ∧ ∀ i, i < xs.length → okF xs i
instance (xs : List Int) (r : Int) : Decidable (abOk xs r) := by unfold abOk; exact inferInstance
def isAb (xs : List Int) (r : Int) : Bool := decide (abOk xs r)
theorem isAb_t {xs : List Int} {r : Int} (h : abOk xs r) : isAb xs r = true := by unfold isAb; simpa using h
theorem isAb_f {xs : List Int} {r : Int} (h : ¬ abOk xs r) : isAb xs r = false := by unfold isAb; simpa using h
theorem isAb_ok {xs : List Int} {r : Int} (h : isAb xs r = true) : abOk xs r := by unfold isAb at h; simpa using h
set_option maxHeartbeats 800000 in
theorem impl_IsAbelian_any (a : Option Addr) (n c : Nat) (xs : List Int) (r : Int) (w : World) (ha : RdI w a xs) (hl : xs.length = n) (hn : n ≤ 1000000000000) :
    Calls Try.prog 94 #[.agg #[.slice a n c, .int .i64 r]] w fun e w' => e = .returned (.bool (isAb xs r)) ∧ Below w.heap.size w w' := by
  have hB0 : ∀ o, Below w.heap.size w (w.alloc o) := fun o => (Below.refl _ _).alloc (Nat.le_refl _) _
  have HA := Lib.hid ha
  have HL := Lib.hid hl
  clear ha hl
  by_cases h1 : r < 0
  · have H := Lib.hid (isAb_f (xs := xs) (r := r) (fun h => by have := h.1; omega))
    go_enter Try.func94, Try.ntmps94
    go_wp2
    go_ret
    exact ⟨ret_bool H.out.symm, hB0 _⟩
  by_cases h2 : 10 < r
  · have H := Lib.hid (isAb_f (xs := xs) (r := r) (fun h => by have := h.2.1; omega))
    have e1 : decide (10 < r) = true := by simpa using h2
    go_enter Try.func94, Try.ntmps94
    go_wp2
    go_ret
    exact ⟨ret_bool H.out.symm, hB0 _⟩
  have e1 : decide (10 < r) = false := by simp; omega
  by_cases h3 : 10 < (n : Int) + r
  · have H := Lib.hid (isAb_f (xs := xs) (r := r) (fun h => by have := h.2.2.1; have := HL.out; omega))
    have e2 : decide (10 < (n : Int) + r) = true := by simpa using h3
    go_enter Try.func94, Try.ntmps94
    go_wp2
    go_ret
    exact ⟨ret_bool H.out.symm, hB0 _⟩
  have e2 : decide (10 < (n : Int) + r) = false := by simp; omega
  go_enter Try.func94, Try.ntmps94
  go_wp2
  have H0 : Hid (∀ j, j < 0 → okF xs j) := Lib.hid (fun j hj => absurd hj (by omega))
  go_loop [25] (fun i => ∃ k : Nat, k ≤ n ∧ i = .int .i64 k ∧ Hid (∀ j, j < k → okF xs j)) (fun i => n - (intOf i).toNat)
  case atStart => exact ⟨0, Nat.zero_le _, rfl, H0⟩
  case round =>
    obtain ⟨k, hk, rfl, HO⟩ := hrel
    clear H0
    by_cases hlt : k < n
    · obtain ⟨b1, o1, hb1, hc⟩ := HA.out (by rw [HL.out]; omega)
      have c1 := (RdI.alloc HA.out (.cells #[.slice a n c, .int .i64 r] 37)) (by rw [HL.out]; omega)
      obtain ⟨b2, o2, hb2, hc2⟩ := c1
      subst hb1
      injection hb2 with hb2
      injection hb2 with q1 q2
      subst q1; subst q2
      have d1 := hc2 k (by rw [HL.out]; omega)
      by_cases hin : 2 ≤ el xs k ∧ el xs k ≤ 1000000
      · obtain ⟨i1, i2⟩ := hin
        cases k with
        | zero =>
          have HO1 : Hid (∀ j, j < 0 + 1 → okF xs j) := Lib.hid fun j hj => by
            obtain rfl : j = 0 := by omega
            exact ⟨i1, i2, fun h => absurd h (by omega)⟩
          clear hc hc2
          rw [Nat.add_zero] at d1
          go_wp2_with (go_at_call 89; refine (inside_t _ _ _ _ (by omega) (by omega)).mono ?_; rintro e w' ⟨rfl, rfl⟩)
          go_round
          case rel => exact ⟨0 + 1, by omega, by go_num, HO1⟩
          case measure => simp [intOf]; omega
        | succ k =>
          have d2 := hc2 k (by rw [HL.out]; omega)
          have hpos : decide (0 < ((k : Int) + 1)) = true := decide_eq_true (by omega)
          have hprev := HO.out k (by omega)
          obtain ⟨i3, i4, _⟩ := hprev
          have hm1 : IntKind.i64.wrap ((k : Int) + 1 - 1) = k := by rw [IntWalk.i64_in _ (by omega)]; simp
          clear hc hc2
          by_cases hmod : el xs (k + 1) % el xs k = 0
          · have HO1 : Hid (∀ j, j < k + 1 + 1 → okF xs j) := Lib.hid fun j hj => by
              by_cases he : j = k + 1
              · subst he; exact ⟨i1, i2, fun _ => hmod⟩
              · exact HO.out j (by omega)
            have hm : (el xs (k + 1) % el xs k != 0) = false := by rw [hmod]; rfl
            clear hmod
            go_wp2_with (go_at_call 89; refine (inside_t _ _ _ _ (by omega) (by omega)).mono ?_; rintro e w' ⟨rfl, rfl⟩)
            go_round
            case rel => exact ⟨k + 1 + 1, by omega, by go_num, HO1⟩
            case measure => simp [intOf]; omega
          · have H := Lib.hid (isAb_f (xs := xs) (r := r) (fun h => hmod ((h.2.2.2 (k + 1) (by rw [HL.out]; omega)).2.2 (by omega))))
            have hm : (el xs (k + 1) % el xs k != 0) = true := bne_iff_ne.2 hmod
            clear hmod
            go_wp2_with (go_at_call 89; refine (inside_t _ _ _ _ (by omega) (by omega)).mono ?_; rintro e w' ⟨rfl, rfl⟩)
            go_ret
            exact ⟨ret_bool H.out.symm, hB0 _⟩
      · have H := Lib.hid (isAb_f (xs := xs) (r := r) (fun h => hin ⟨(h.2.2.2 k (by rw [HL.out]; omega)).1, (h.2.2.2 k (by rw [HL.out]; omega)).2.1⟩))
        have hin' : el xs k < 2 ∨ 1000000 < el xs k := by omega
        clear hin hc hc2
        go_wp2_with (go_at_call 89; refine (inside_f _ _ _ _ hin').mono ?_; rintro e w' ⟨rfl, rfl⟩)
        go_ret
        exact ⟨ret_bool H.out.symm, hB0 _⟩
    · obtain rfl : k = n := by omega
      have H := Lib.hid (isAb_t (xs := xs) (r := r) ⟨by omega, by omega, by have := HL.out; omega, fun i hi => HO.out i (by have := HL.out; omega)⟩)
      go_wp2
      go_ret
      exact ⟨ret_bool H.out.symm, hB0 _⟩

/-- the box of a parameter stands in the world of a round -/
def AbW (w wr : World) (a : Option Addr) (n c : Nat) (r : Int) : Prop := Below w.heap.size w wr ∧ wr.cell? ⟨w.heap.size, 0, none⟩ = some (.slice a n c) ∧ wr.cell? ⟨w.heap.size, 1, none⟩ = some (.int .i64 r)
theorem AbW.drewN {w wr : World} {a : Option Addr} {n c : Nat} {r : Int} (h : AbW w wr a n c r) (q : Nat) : AbW w (wr.drewN q) a n c r := ⟨below_drewN' h.1 q, h.2.1, h.2.2⟩
set_option maxHeartbeats 1000000 in
theorem spec_IsAbelian_any (a : Option Addr) (n c : Nat) (xs : List Int) (r : Int) (w : World) (ha : RdI w a xs) (hl : xs.length = n) (hn : n ≤ 1000000000000) :
    Calls Try.prog 96 #[.agg #[.slice a n c, .int .i64 r]] w fun e w' => e = .returned (.bool (isAb xs r)) ∧ Below w.heap.size w w' := by
  have hB0 : ∀ o q, Below w.heap.size w ((w.alloc o).drewN q) := fun o q => below_drewN' ((Below.refl _ _).alloc (Nat.le_refl _) _) q
  have HA := Lib.hid ha
  have HL := Lib.hid hl
  clear ha hl
  by_cases h1 : 10 < (n : Int)
  · have H := Lib.hid (isAb_f (xs := xs) (r := r) (fun h => by have := h.1; have := h.2.2.1; have := HL.out; omega))
    have e1 : decide (10 < (n : Int)) = true := by simpa using h1
    go_enter Try.func96, Try.ntmps96
    go_wp2
    go_ret
    exact ⟨ret_bool H.out.symm, hB0 _ 0⟩
  have e1 : decide (10 < (n : Int)) = false := by simp; omega
  by_cases h2 : r < 0 ∨ 10 - (n : Int) < r
  · have H := Lib.hid (isAb_f (xs := xs) (r := r) (fun h => by have := h.1; have := h.2.2.1; have := HL.out; omega))
    go_enter Try.func96, Try.ntmps96
    go_wp2_with (go_at_call 81; refine (l01In_f _ _ _ _ h2).mono ?_; rintro e w' ⟨rfl, rfl⟩)
    go_ret
    exact ⟨ret_bool H.out.symm, hB0 _ 0⟩
  have h3 : 0 ≤ r := by omega
  have h4 : r ≤ 10 - (n : Int) := by omega
  clear h2
  go_enter Try.func96, Try.ntmps96
  go_wp2_with (go_at_call 81; refine (l01In_t _ _ _ _ h3 h4).mono ?_; rintro e w' ⟨rfl, rfl⟩)
  have HW0 : Hid (AbW w (w.alloc (.cells #[.slice a n c, .int .i64 r] 37)) a n c r) := Lib.hid ⟨(Below.refl _ _).alloc (Nat.le_refl _) _, by simp, by simp⟩
  have H0 : Hid (∀ j, j < 0 → okF xs j) := Lib.hid (fun j hj => absurd hj (by omega))
  go_loopw [4] (fun i wr => ∃ (k : Nat), k ≤ n ∧ i = .int .i64 k ∧ Hid (AbW w wr a n c r) ∧ Hid (∀ j, j < k → okF xs j)) (fun i _ => n - (intOf i).toNat)
  case atStart => exact ⟨0, Nat.zero_le _, rfl, HW0, H0⟩
  case round =>
    obtain ⟨k, hk, rfl, HW, HO⟩ := hrel
    clear H0 HW0
    have p0 := HW.out.2.1
    have p1 := HW.out.2.2
    by_cases hlt : k < n
    · obtain ⟨b1, o1, hb1, hc⟩ := HA.out (by rw [HL.out]; omega)
      have c1 := (HA.out.keep HW.out.1 (Nat.le_refl _)) (by rw [HL.out]; omega)
      obtain ⟨b2, o2, hb2, hc2⟩ := c1
      subst hb1
      injection hb2 with hb2
      injection hb2 with q1 q2
      subst q1; subst q2
      have d1 := hc2 k (by rw [HL.out]; omega)
      have hk1 : (k : Int) < (n : Int) := by omega
      by_cases hin : 2 ≤ el xs k ∧ el xs k ≤ 1000000
      · obtain ⟨i1, i2⟩ := hin
        cases k with
        | zero =>
          have HO1 : Hid (∀ j, j < 0 + 1 → okF xs j) := Lib.hid fun j hj => by
            obtain rfl : j = 0 := by omega
            exact ⟨i1, i2, fun h => absurd h (by omega)⟩
          clear hc hc2
          rw [Nat.add_zero] at d1
          have hn0 : 0 < n := by omega
          have hn1 : (0 : Int) < (n : Int) := by omega
          clear hk1
          go_wp2
          go_quiet ((go_at_call 81; exact quiet_eq (l01In_t _ _ _ _ (by omega) (by omega))))
          go_wp2
          go_roundw
          case rel => exact ⟨0 + 1, by omega, by go_num, Lib.hid (HW.out.drewN nq), HO1⟩
          case measure => simp [intOf]; omega
        | succ k =>
          have d2 := hc2 k (by rw [HL.out]; omega)
          have hpos : decide (0 < ((k : Int) + 1)) = true := decide_eq_true (by omega)
          have hprev := HO.out k (by omega)
          obtain ⟨i3, i4, _⟩ := hprev
          have hm1 : IntKind.i64.wrap ((k : Int) + 1 - 1) = k := by rw [IntWalk.i64_in _ (by omega)]; simp
          have hm2 : IntKind.i64.wrap (k : Int) = k := IntWalk.i64_in _ (by omega)
          have hk2 : (k : Int) < (n : Int) := by omega
          have hk3 : (k : Int) + 1 < (n : Int) := by omega
          have hk4 : 0 ≤ (k : Int) + 1 := by omega
          have hk5 : ((k : Int) + 1).toNat = k + 1 := by omega
          clear hc hc2
          by_cases hmod : el xs (k + 1) % el xs k = 0
          · have HO1 : Hid (∀ j, j < k + 1 + 1 → okF xs j) := Lib.hid fun j hj => by
              by_cases he : j = k + 1
              · subst he; exact ⟨i1, i2, fun _ => hmod⟩
              · exact HO.out j (by omega)
            have hm : (el xs (k + 1) % el xs k != 0) = false := by rw [hmod]; rfl
            clear hmod
            go_wp2
            go_quiet ((go_at_call 81; exact quiet_eq (l01In_t _ _ _ _ (by omega) (by omega))))
            go_wp2
            go_roundw
            case rel => exact ⟨k + 1 + 1, by omega, by go_num, Lib.hid (HW.out.drewN nq), HO1⟩
            case measure => simp [intOf]; omega
          · have H := Lib.hid (isAb_f (xs := xs) (r := r) (fun h => hmod ((h.2.2.2 (k + 1) (by rw [HL.out]; omega)).2.2 (by omega))))
            have hm : (el xs (k + 1) % el xs k != 0) = true := bne_iff_ne.2 hmod
            clear hmod
            go_wp2
            go_quiet ((go_at_call 81; exact quiet_eq (l01In_t _ _ _ _ (by omega) (by omega))))
            go_wp2
            go_ret
            exact ⟨ret_bool H.out.symm, below_drewN' HW.out.1 _⟩
      · have H := Lib.hid (isAb_f (xs := xs) (r := r) (fun h => hin ⟨(h.2.2.2 k (by rw [HL.out]; omega)).1, (h.2.2.2 k (by rw [HL.out]; omega)).2.1⟩))
        have hin' : el xs k < 2 ∨ 1000000 < el xs k := by omega
        clear hin hc hc2
        go_wp2
        go_quiet ((go_at_call 81; exact quiet_eq (l01In_f _ _ _ _ hin')))
        go_wp2
        go_ret
        exact ⟨ret_bool H.out.symm, below_drewN' HW.out.1 _⟩
    · obtain rfl : k = n := by omega
      have H := Lib.hid (isAb_t (xs := xs) (r := r) ⟨by omega, by omega, by have := HL.out; omega, fun i hi => HO.out i (by have := HL.out; omega)⟩)
      go_wp2
      go_ret
      exact ⟨ret_bool H.out.symm, HW.out.1⟩
end Go.Proofs.Ytkidohohiihbaaa
