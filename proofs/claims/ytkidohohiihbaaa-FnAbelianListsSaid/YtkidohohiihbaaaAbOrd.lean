/- Orders and exponents of abelian groups; products that may be too large. -/
import Derived.Test.YtkidohohiihbaaaAb
set_option linter.unusedVariables false
set_option linter.unusedSimpArgs false
namespace Go.Proofs.Ytkidohohiihbaaa
open Go.RowKit

theorem cell_keep {w w' : World} {p : Addr} {v : Value} (h : w.cell? p = some v) (hb : Below w.heap.size w w') : w'.cell? p = some v := by
  rw [hb.cell (p := p) (block_lt h)]; exact h

/-! ### products -/
/-- the product of the first k numbers, while it is not too large -/
def cntTo (xs : List Int) : Nat → Option Int
  | 0 => some 1
  | k + 1 => match cntTo xs k with
    | none => none
    | some o => if 1000000000000000 / o < el xs k then none else some (o * el xs k)
theorem cntTo_none {xs : List Int} {k : Nat} (h : cntTo xs k = none) : ∀ d, cntTo xs (k + d) = none
  | 0 => h
  | d + 1 => by show cntTo xs (k + d + 1) = none; simp only [cntTo]; rw [cntTo_none h d]
theorem cntTo_none' {xs : List Int} {k n : Nat} (h : cntTo xs k = none) (hk : k ≤ n) : cntTo xs n = none := by
  have := cntTo_none h (n - k)
  rwa [show k + (n - k) = n by omega] at this
def cntV (xs : List Int) : Int × Int := match cntTo xs xs.length with
  | none => (0, 3)
  | some o => (o, 0)
theorem cnt_fits {o x : Int} (h1 : 1 ≤ o) (hx : 1 ≤ x) (h : x ≤ 1000000000000000 / o) : 1 ≤ o * x ∧ o * x ≤ 1000000000000000 := by
  have h2 := Int.mul_le_mul_of_nonneg_left h (show 0 ≤ o by omega)
  have h3 := Int.mul_ediv_self_le (x := 1000000000000000) (k := o) (by omega)
  have h4 := Int.mul_le_mul h1 hx (by omega) (by omega)
  omega
set_option maxHeartbeats 400000 in
theorem countProduct_any (a : Option Addr) (n c : Nat) (xs : List Int) (w : World) (ha : RdI w a xs) (hl : xs.length = n) (hn : n ≤ 1000000000000) (hx : ∀ x ∈ xs, 1 ≤ x ∧ x ≤ 1000000000000000) :
    Calls Try.prog 95 #[.slice a n c] w fun e w' => e = .returned (.tuple #[.int .i64 (cntV xs).1, .int .i64 (cntV xs).2]) ∧ w = w' := by
  have HA := Lib.hid ha
  have HL := Lib.hid hl
  have HX := Lib.hid hx
  have H0 : Hid (cntTo xs 0 = some 1) := Lib.hid rfl
  clear ha hl hx
  go_enter Try.func95, Try.ntmps95
  go_wp2
  go_loop [4, 9] (fun v i => ∃ (k : Nat) (o : Int), k ≤ n ∧ v = .int .i64 o ∧ i = .int .i64 k ∧ 1 ≤ o ∧ o ≤ 1000000000000000 ∧ Hid (cntTo xs k = some o)) (fun _ i => n - (intOf i).toNat)
  case atStart => exact ⟨0, 1, Nat.zero_le _, rfl, rfl, by omega, by omega, H0⟩
  case round =>
    obtain ⟨k, o, hk, rfl, rfl, ho1, ho2, HC⟩ := hrel
    clear H0
    by_cases hlt : k < n
    · obtain ⟨b1, o1, hb1, hc⟩ := HA.out (by rw [HL.out]; omega)
      subst hb1
      have d1 := hc k (by rw [HL.out]; omega)
      obtain ⟨x1, x2⟩ := HX.out (el xs k) (el_mem (by rw [HL.out]; omega))
      have dv : 0 ≤ 1000000000000000 / o := Int.ediv_nonneg (by omega) (by omega)
      have dw : 1000000000000000 / o ≤ 1000000000000000 := Int.ediv_le_self _ (by omega)
      clear hc
      by_cases hbig : 1000000000000000 / o < el xs k
      · have H : Hid (cntV xs = (0, 3)) := Lib.hid (by
          have h1 : cntTo xs (k + 1) = none := by simp only [cntTo]; rw [HC.out]; simp only; rw [if_pos hbig]
          have h2 := cntTo_none' h1 (show k + 1 ≤ xs.length by rw [HL.out]; omega)
          unfold cntV; rw [h2])
        go_wp2
        go_ret2
        exact ⟨ret_ii (by rw [H.out]) (by rw [H.out]), rfl⟩
      · obtain ⟨m1, m2⟩ := cnt_fits ho1 x1 (show el xs k ≤ 1000000000000000 / o by omega)
        have HN : Hid (cntTo xs (k + 1) = some (o * el xs k)) := Lib.hid (by simp only [cntTo]; rw [HC.out]; simp only; rw [if_neg hbig])
        go_wp2
        go_round
        case rel => exact ⟨k + 1, o * el xs k, by omega, rfl, by go_num, m1, m2, HN⟩
        case measure => simp [intOf]; omega
    · obtain rfl : k = n := by omega
      have H : Hid (cntV xs = (o, 0)) := Lib.hid (by unfold cntV; rw [HL.out, HC.out])
      go_wp2
      go_ret2
      exact ⟨ret_ii (by rw [H.out]) (by rw [H.out]), rfl⟩
set_option maxHeartbeats 400000 in
theorem l05Product_any (a : Option Addr) (n c : Nat) (xs : List Int) (w : World) (ha : RdI w a xs) (hl : xs.length = n) (hn : n ≤ 1000000000000) (hx : ∀ x ∈ xs, 1 ≤ x ∧ x ≤ 1000000000000000) :
    Calls Try.prog 149 #[.slice a n c] w fun e w' => e = .returned (.tuple #[.int .i64 (cntV xs).1, .bool ((cntV xs).2 == 0)]) ∧ ∃ q, w' = w.drewN q := by
  have HA := Lib.hid ha
  have HL := Lib.hid hl
  have HX := Lib.hid hx
  have H0 : Hid (cntTo xs 0 = some 1) := Lib.hid rfl
  clear ha hl hx
  go_enter Try.func149, Try.ntmps149
  go_wp2
  go_loopw [4, 5] (fun v i wr => ∃ (k : Nat) (o : Int), (∃ q, wr = w.drewN q) ∧ k ≤ n ∧ v = .int .i64 o ∧ i = .int .i64 k ∧ 1 ≤ o ∧ o ≤ 1000000000000000 ∧ Hid (cntTo xs k = some o)) (fun _ i _ => n - (intOf i).toNat)
  case atStart => exact ⟨0, 1, ⟨0, rfl⟩, Nat.zero_le _, rfl, rfl, by omega, by omega, H0⟩
  case round =>
    obtain ⟨k, o, ⟨q, rfl⟩, hk, rfl, rfl, ho1, ho2, HC⟩ := hrel
    clear H0
    by_cases hlt : k < n
    · obtain ⟨b1, o1, hb1, hc⟩ := HA.out (by rw [HL.out]; omega)
      subst hb1
      have d1 := hc k (by rw [HL.out]; omega)
      obtain ⟨x1, x2⟩ := HX.out (el xs k) (el_mem (by rw [HL.out]; omega))
      have dv : 0 ≤ 1000000000000000 / o := Int.ediv_nonneg (by omega) (by omega)
      have dw : 1000000000000000 / o ≤ 1000000000000000 := Int.ediv_le_self _ (by omega)
      clear hc
      have hk1 : (k : Int) < (n : Int) := by omega
      have td : (1000000000000000 : Int).tdiv o = 1000000000000000 / o := Int.tdiv_eq_ediv_of_nonneg (by omega)
      by_cases hbig : 1000000000000000 / o < el xs k
      · have H : Hid (cntV xs = (0, 3)) := Lib.hid (by
          have h1 : cntTo xs (k + 1) = none := by simp only [cntTo]; rw [HC.out]; simp only; rw [if_pos hbig]
          have h2 := cntTo_none' h1 (show k + 1 ≤ xs.length by rw [HL.out]; omega)
          unfold cntV; rw [h2])
        have hd : decide (1000000000000000 / o < el xs k) = true := by simpa using hbig
        go_wp2
        go_quiet (fail)
        go_wp2
        go_ret2
        exact ⟨ret_ib (by rw [H.out]) (by rw [H.out]; rfl), q + nq, by simp⟩
      · obtain ⟨m1, m2⟩ := cnt_fits ho1 x1 (show el xs k ≤ 1000000000000000 / o by omega)
        have HN : Hid (cntTo xs (k + 1) = some (o * el xs k)) := Lib.hid (by simp only [cntTo]; rw [HC.out]; simp only; rw [if_neg hbig])
        have hd : decide (1000000000000000 / o < el xs k) = false := by simpa using hbig
        go_wp2
        go_quiet (fail)
        go_wp2
        go_roundw
        case rel => exact ⟨k + 1, o * el xs k, ⟨q + nq, by simp⟩, by omega, rfl, by go_num, m1, m2, HN⟩
        case measure => simp [intOf]; omega
    · obtain rfl : k = n := by omega
      have H : Hid (cntV xs = (o, 0)) := Lib.hid (by unfold cntV; rw [HL.out, HC.out])
      go_wp2
      go_ret2
      exact ⟨ret_ib (by rw [H.out]) (by rw [H.out]; rfl), q, rfl⟩
set_option maxHeartbeats 400000 in
theorem l05Count_any (a : Option Addr) (n c : Nat) (xs : List Int) (w : World) (ha : RdI w a xs) (hl : xs.length = n) (hn : n ≤ 1000000000000) (hx : ∀ x ∈ xs, 1 ≤ x ∧ x ≤ 1000000000000000) :
    Calls Try.prog 98 #[.slice a n c] w fun e w' => e = .returned (.tuple #[.int .i64 (cntV xs).1, .int .i64 (cntV xs).2]) ∧ ∃ q, w' = w.drewN q := by
  have HP := Lib.hid (l05Product_any a n c xs w ha hl hn hx)
  clear ha hl hx
  cases h : cntTo xs xs.length with
  | none =>
    have e : cntV xs = (0, 3) := by unfold cntV; rw [h]
    rw [e] at HP ⊢
    clear h e
    go_enter Try.func98, Try.ntmps98
    go_wp2_with (go_at_call 149; refine (HP.out).mono ?_; rintro e w' ⟨rfl, q, rfl⟩)
    go_ret2
    exact ⟨rfl, q, rfl⟩
  | some o =>
    have e : cntV xs = (o, 0) := by unfold cntV; rw [h]
    rw [e] at HP ⊢
    clear h e
    go_enter Try.func98, Try.ntmps98
    go_wp2_with (go_at_call 149; refine (HP.out).mono ?_; rintro e w' ⟨rfl, q, rfl⟩)
    go_ret2
    exact ⟨rfl, q, rfl⟩

/-! ### the exponent, the order -/
def exV (xs : List Int) (r : Int) : Int × Int := if isAb xs r then (if 0 < r then (0, 0) else if xs.length = 0 then (1, 0) else (el xs (xs.length - 1), 0)) else (0, 1)
def ordV (xs : List Int) (r : Int) : Int × Int := if isAb xs r then (if 0 < r then (0, 0) else cntV xs) else (0, 1)
theorem exV_no {xs : List Int} {r : Int} (h : isAb xs r = false) : exV xs r = (0, 1) := by unfold exV; simp [h]
theorem ordV_no {xs : List Int} {r : Int} (h : isAb xs r = false) : ordV xs r = (0, 1) := by unfold ordV; simp [h]
theorem exV_inf {xs : List Int} {r : Int} (h : isAb xs r = true) (hr : 0 < r) : exV xs r = (0, 0) := by unfold exV; simp [h, hr]
theorem ordV_inf {xs : List Int} {r : Int} (h : isAb xs r = true) (hr : 0 < r) : ordV xs r = (0, 0) := by unfold ordV; simp [h, hr]
theorem exV_one {xs : List Int} {r : Int} (h : isAb xs r = true) (hr : ¬ 0 < r) (hl : xs.length = 0) : exV xs r = (1, 0) := by unfold exV; rw [if_pos h, if_neg hr, if_pos hl]
theorem exV_last {xs : List Int} {r : Int} (h : isAb xs r = true) (hr : ¬ 0 < r) (hl : xs.length ≠ 0) : exV xs r = (el xs (xs.length - 1), 0) := by unfold exV; rw [if_pos h, if_neg hr, if_neg hl]
theorem ordV_fin {xs : List Int} {r : Int} (h : isAb xs r = true) (hr : ¬ 0 < r) : ordV xs r = cntV xs := by unfold ordV; rw [if_pos h, if_neg hr]
theorem isAb_pos {xs : List Int} {r : Int} (h : isAb xs r = true) : ∀ x ∈ xs, 1 ≤ x ∧ x ≤ 1000000000000000 := by
  intro x hx
  obtain ⟨i, hi, rfl⟩ := List.getElem_of_mem hx
  have := (isAb_ok h).2.2.2 i hi
  rw [← el_eq hi]
  unfold okF at this
  omega

set_option maxHeartbeats 400000 in
theorem impl_ExponentOf_any (a : Option Addr) (n c : Nat) (xs : List Int) (r : Int) (w : World) (ha : RdI w a xs) (hl : xs.length = n) (hn : n ≤ 1048576) :
    Calls Try.prog 72 #[.agg #[.slice a n c, .int .i64 r]] w fun e w' => e = .returned (.tuple #[.int .i64 (exV xs r).1, .int .i64 (exV xs r).2]) ∧ Below w.heap.size w w' := by
  have HA := Lib.hid ha
  have HL := Lib.hid hl
  clear ha hl
  cases hv : isAb xs r
  · rw [exV_no hv]
    go_enter Try.func72, Try.ntmps72
    go_wp2_with fail
    refine (impl_IsAbelian_any _ _ _ xs _ _ (by exact HA.out.alloc _) HL.out (by omega)).mono ?_
    rintro e w1 ⟨rfl, hb⟩
    have HB : Hid (Below w.heap.size w w1) := Lib.hid (((Below.refl _ _).alloc (Nat.le_refl _) _).trans (hb.mono (by simp)))
    have p0 := cell_keep (p := ⟨w.heap.size, 0, none⟩) (v := .slice a n c) (by simp) hb
    have p1 := cell_keep (p := ⟨w.heap.size, 1, none⟩) (v := .int .i64 r) (by simp) hb
    have hr1 : Hid (RdI w1 a xs) := Lib.hid (HA.out.keep HB.out (Nat.le_refl _))
    clear hb
    go_wp2_with fail
    go_ret2
    exact ⟨rfl, HB.out⟩
  by_cases hr : 0 < r
  · rw [exV_inf hv hr]
    go_enter Try.func72, Try.ntmps72
    go_wp2_with fail
    refine (impl_IsAbelian_any _ _ _ xs _ _ (by exact HA.out.alloc _) HL.out (by omega)).mono ?_
    rintro e w1 ⟨rfl, hb⟩
    have HB : Hid (Below w.heap.size w w1) := Lib.hid (((Below.refl _ _).alloc (Nat.le_refl _) _).trans (hb.mono (by simp)))
    have p0 := cell_keep (p := ⟨w.heap.size, 0, none⟩) (v := .slice a n c) (by simp) hb
    have p1 := cell_keep (p := ⟨w.heap.size, 1, none⟩) (v := .int .i64 r) (by simp) hb
    have hr1 : Hid (RdI w1 a xs) := Lib.hid (HA.out.keep HB.out (Nat.le_refl _))
    clear hb
    go_wp2_with fail
    go_ret2
    exact ⟨rfl, HB.out⟩
  by_cases hz : n = 0
  · rw [exV_one hv hr (by rw [HL.out]; exact hz)]
    have hz' : ((n : Int) == 0) = true := beq_iff_eq.2 (by omega)
    clear hz
    go_enter Try.func72, Try.ntmps72
    go_wp2_with fail
    refine (impl_IsAbelian_any _ _ _ xs _ _ (by exact HA.out.alloc _) HL.out (by omega)).mono ?_
    rintro e w1 ⟨rfl, hb⟩
    have HB : Hid (Below w.heap.size w w1) := Lib.hid (((Below.refl _ _).alloc (Nat.le_refl _) _).trans (hb.mono (by simp)))
    have p0 := cell_keep (p := ⟨w.heap.size, 0, none⟩) (v := .slice a n c) (by simp) hb
    have p1 := cell_keep (p := ⟨w.heap.size, 1, none⟩) (v := .int .i64 r) (by simp) hb
    have hr1 : Hid (RdI w1 a xs) := Lib.hid (HA.out.keep HB.out (Nat.le_refl _))
    clear hb
    go_wp2_with fail
    go_ret2
    exact ⟨rfl, HB.out⟩
  · rw [exV_last hv hr (by rw [HL.out]; exact hz), HL.out]
    have hz' : ((n : Int) == 0) = false := beq_eq_false_iff_ne.2 (by omega)
    have hn1 : 1 ≤ n := by omega
    clear hz
    go_enter Try.func72, Try.ntmps72
    go_wp2_with fail
    refine (impl_IsAbelian_any _ _ _ xs _ _ (by exact HA.out.alloc _) HL.out (by omega)).mono ?_
    rintro e w1 ⟨rfl, hb⟩
    have HB : Hid (Below w.heap.size w w1) := Lib.hid (((Below.refl _ _).alloc (Nat.le_refl _) _).trans (hb.mono (by simp)))
    have p0 := cell_keep (p := ⟨w.heap.size, 0, none⟩) (v := .slice a n c) (by simp) hb
    have p1 := cell_keep (p := ⟨w.heap.size, 1, none⟩) (v := .int .i64 r) (by simp) hb
    have hr1 : Hid (RdI w1 a xs) := Lib.hid (HA.out.keep HB.out (Nat.le_refl _))
    clear hb
    obtain ⟨b1, o1, hb1, hc⟩ := hr1.out (by rw [HL.out]; omega)
    subst hb1
    have d1 := hc (n - 1) (by rw [HL.out]; omega)
    have i1 : (n : Int) - 1 = ((n - 1 : Nat) : Int) := by omega
    clear hc
    go_wp2_with fail
    go_ret2
    exact ⟨rfl, HB.out⟩
set_option maxHeartbeats 400000 in
theorem impl_AbelianOrder_any (a : Option Addr) (n c : Nat) (xs : List Int) (r : Int) (w : World) (ha : RdI w a xs) (hl : xs.length = n) (hn : n ≤ 1048576) :
    Calls Try.prog 71 #[.agg #[.slice a n c, .int .i64 r]] w fun e w' => e = .returned (.tuple #[.int .i64 (ordV xs r).1, .int .i64 (ordV xs r).2]) ∧ Below w.heap.size w w' := by
  have HA := Lib.hid ha
  have HL := Lib.hid hl
  clear ha hl
  cases hv : isAb xs r
  · rw [ordV_no hv]
    go_enter Try.func71, Try.ntmps71
    go_wp2_with fail
    refine (impl_IsAbelian_any _ _ _ xs _ _ (by exact HA.out.alloc _) HL.out (by omega)).mono ?_
    rintro e w1 ⟨rfl, hb⟩
    have HB : Hid (Below w.heap.size w w1) := Lib.hid (((Below.refl _ _).alloc (Nat.le_refl _) _).trans (hb.mono (by simp)))
    have p0 := cell_keep (p := ⟨w.heap.size, 0, none⟩) (v := .slice a n c) (by simp) hb
    have p1 := cell_keep (p := ⟨w.heap.size, 1, none⟩) (v := .int .i64 r) (by simp) hb
    have hr1 : Hid (RdI w1 a xs) := Lib.hid (HA.out.keep HB.out (Nat.le_refl _))
    clear hb
    go_wp2_with fail
    go_ret2
    exact ⟨rfl, HB.out⟩
  by_cases hr : 0 < r
  · rw [ordV_inf hv hr]
    go_enter Try.func71, Try.ntmps71
    go_wp2_with fail
    refine (impl_IsAbelian_any _ _ _ xs _ _ (by exact HA.out.alloc _) HL.out (by omega)).mono ?_
    rintro e w1 ⟨rfl, hb⟩
    have HB : Hid (Below w.heap.size w w1) := Lib.hid (((Below.refl _ _).alloc (Nat.le_refl _) _).trans (hb.mono (by simp)))
    have p0 := cell_keep (p := ⟨w.heap.size, 0, none⟩) (v := .slice a n c) (by simp) hb
    have p1 := cell_keep (p := ⟨w.heap.size, 1, none⟩) (v := .int .i64 r) (by simp) hb
    have hr1 : Hid (RdI w1 a xs) := Lib.hid (HA.out.keep HB.out (Nat.le_refl _))
    clear hb
    go_wp2_with fail
    go_ret2
    exact ⟨rfl, HB.out⟩
  · rw [ordV_fin hv hr]
    have HX := Lib.hid (isAb_pos hv)
    go_enter Try.func71, Try.ntmps71
    go_wp2_with fail
    refine (impl_IsAbelian_any _ _ _ xs _ _ (by exact HA.out.alloc _) HL.out (by omega)).mono ?_
    rintro e w1 ⟨rfl, hb⟩
    have HB : Hid (Below w.heap.size w w1) := Lib.hid (((Below.refl _ _).alloc (Nat.le_refl _) _).trans (hb.mono (by simp)))
    have p0 := cell_keep (p := ⟨w.heap.size, 0, none⟩) (v := .slice a n c) (by simp) hb
    have p1 := cell_keep (p := ⟨w.heap.size, 1, none⟩) (v := .int .i64 r) (by simp) hb
    have hr1 : Hid (RdI w1 a xs) := Lib.hid (HA.out.keep HB.out (Nat.le_refl _))
    clear hb
    go_wp2_with fail
    refine (countProduct_any _ _ _ xs _ hr1.out HL.out (by omega) HX.out).mono ?_
    rintro e w' ⟨rfl, rfl⟩
    go_wp2_with fail
    go_ret2
    exact ⟨rfl, HB.out⟩

end Go.Proofs.Ytkidohohiihbaaa
