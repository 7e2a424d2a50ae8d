/- The number of subgroups of prime order in an abelian group. -/
import Derived.Test.YtgdialknnjnehaaAbOrd
set_option linter.unusedVariables false
set_option linter.unusedSimpArgs false
namespace Go.Proofs.Ytgdialknnjnehaa
open Go.RowKit

/-- no number from 2 on whose square is at most p divides p -/
def prm (p : Int) : Prop := 2 ≤ p ∧ ∀ d, 2 ≤ d → d * d ≤ p → p % d ≠ 0
theorem not_prm {p : Int} (h : ¬ prm p) (h2 : 2 ≤ p) : ∃ d, 2 ≤ d ∧ d * d ≤ p ∧ p % d = 0 := by
  refine Classical.byContradiction fun hn => h ⟨h2, fun d h3 h4 h5 => hn ⟨d, h3, h4, h5⟩⟩
theorem sq_mono {a b : Int} (h0 : 0 ≤ a) (h : a ≤ b) : a * a ≤ b * b := (mul_bd h0 h h0 h).2
theorem sq_small {a : Int} (h0 : 0 ≤ a) (h : a * a ≤ 1000) : a ≤ 31 := by
  refine Int.le_of_not_gt fun hh => ?_
  have := sq_mono (a := 32) (b := a) (by omega) (by omega)
  omega
set_option maxHeartbeats 400000 in
theorem isPrime_any (n : Int) (w : World) (h : I64 n) :
    Calls Try.prog 56 #[.int .i64 n] w fun e w' => ∃ b, e = .returned (.bool b) ∧ w = w' := by
  obtain ⟨h1, h2⟩ := h
  by_cases h3 : n < 2
  · go_enter Try.func56, Try.ntmps56
    go_wp2
    go_ret
    exact ⟨false, rfl, rfl⟩
  have h4 : 2 ≤ n := by omega
  clear h3
  go_enter Try.func56, Try.ntmps56
  go_wp2
  go_loop [3] (fun v => ∃ d : Int, v = .int .i64 d ∧ 2 ≤ d ∧ d ≤ n) (fun v => (n - intOf v).toNat)
  case atStart => exact ⟨2, rfl, by omega, h4⟩
  case round =>
    obtain ⟨d, rfl, h5, h6⟩ := hrel
    have hb := emod_bd n d (by omega)
    by_cases hm : n % d = 0
    · have hm' : (n % d == 0) = true := beq_iff_eq.2 hm
      clear hm
      go_wp2
      · go_ret
        exact ⟨.inl rfl, rfl⟩
      · go_ret
        exact ⟨.inr rfl, rfl⟩
    · have hm' : (n % d == 0) = false := beq_eq_false_iff_ne.2 hm
      have hd : d < n := by
        refine Int.lt_iff_le_and_ne.2 ⟨h6, fun e => hm ?_⟩
        rw [e]; exact Int.emod_self
      clear hm
      go_wp2
      · go_round
        case rel => exact ⟨d + 1, rfl, by omega, by omega⟩
        case measure => simp [intOf]; omega
      · go_ret
        exact ⟨.inr rfl, rfl⟩
set_option maxHeartbeats 400000 in
theorem isPrime_yes (n : Int) (w : World) (h : prm n) (hn : n ≤ 1000) :
    Calls Try.prog 56 #[.int .i64 n] w fun e w' => e = .returned (.bool true) ∧ w = w' := by
  have H := Lib.hid h
  have h2 := h.1
  clear h
  go_enter Try.func56, Try.ntmps56
  go_wp2
  go_loop [3] (fun v => ∃ d : Int, v = .int .i64 d ∧ 2 ≤ d ∧ d ≤ 100) (fun v => (1000 - intOf v).toNat)
  case atStart => exact ⟨2, rfl, by omega, by omega⟩
  case round =>
    obtain ⟨d, rfl, h5, h6⟩ := hrel
    obtain ⟨m1, m2⟩ := mul_bd (x := d) (y := d) (by omega) h6 (by omega) h6
    by_cases hs : d * d ≤ n
    · have hm : (n % d == 0) = false := beq_eq_false_iff_ne.2 (H.out.2 d h5 hs)
      have h31 := sq_small (a := d) (by omega) (by omega)
      go_wp2
      go_round
      case rel => exact ⟨d + 1, rfl, by omega, by omega⟩
      case measure => simp [intOf]; omega
    · go_wp2
      go_ret
      exact ⟨rfl, rfl⟩
set_option maxHeartbeats 400000 in
theorem isPrime_no (n : Int) (w : World) (h : ¬ prm n) (hn : n ≤ 1000) (h1 : -9223372036854775808 ≤ n) :
    Calls Try.prog 56 #[.int .i64 n] w fun e w' => e = .returned (.bool false) ∧ w = w' := by
  by_cases h3 : n < 2
  · go_enter Try.func56, Try.ntmps56
    go_wp2
    go_ret
    exact ⟨rfl, rfl⟩
  have h4 : 2 ≤ n := by omega
  obtain ⟨q, q1, q2, q3⟩ := not_prm h h4
  have Q3 := Lib.hid q3
  clear h3 h q3
  have q31 := sq_small (a := q) (by omega) (by omega)
  go_enter Try.func56, Try.ntmps56
  go_wp2
  go_loop [3] (fun v => ∃ d : Int, v = .int .i64 d ∧ 2 ≤ d ∧ d ≤ q) (fun v => (1000 - intOf v).toNat)
  case atStart => exact ⟨2, rfl, by omega, q1⟩
  case round =>
    obtain ⟨d, rfl, h5, h6⟩ := hrel
    have m1 := sq_mono (a := d) (b := q) (by omega) h6
    have m0 := Int.mul_nonneg (show 0 ≤ d by omega) (show 0 ≤ d by omega)
    by_cases hm : n % d = 0
    · have hm' : (n % d == 0) = true := beq_iff_eq.2 hm
      clear hm
      go_wp2
      go_ret
      exact ⟨rfl, rfl⟩
    · have hm' : (n % d == 0) = false := beq_eq_false_iff_ne.2 hm
      have hd : d < q := by
        refine Int.lt_iff_le_and_ne.2 ⟨h6, fun e => hm ?_⟩
        rw [e]; exact Q3.out
      clear hm
      go_wp2
      go_round
      case rel => exact ⟨d + 1, rfl, by omega, by omega⟩
      case measure => simp [intOf]; omega
set_option maxHeartbeats 400000 in
theorem l05Base_prime (n : Int) (w : World) (h : prm n) (hn : n ≤ 1000) :
    Calls Try.prog 55 #[.int .i64 n] w fun e w' => e = .returned (.int .i64 n) ∧ w = w' := by
  have H := Lib.hid h
  have h2 := h.1
  clear h
  go_enter Try.func55, Try.ntmps55
  go_wp2
  go_loop [3] (fun v => ∃ d : Int, v = .int .i64 d ∧ 2 ≤ d ∧ d ≤ 100) (fun v => (1000 - intOf v).toNat)
  case atStart => exact ⟨2, rfl, by omega, by omega⟩
  case round =>
    obtain ⟨d, rfl, h5, h6⟩ := hrel
    obtain ⟨m1, m2⟩ := mul_bd (x := d) (y := d) (by omega) h6 (by omega) h6
    by_cases hs : d * d ≤ n
    · have hm : (n % d != 0) = true := bne_iff_ne.2 (H.out.2 d h5 hs)
      have h31 := sq_small (a := d) (by omega) (by omega)
      go_wp2
      go_round
      case rel => exact ⟨d + 1, rfl, by omega, by omega⟩
      case measure => simp [intOf]; omega
    · have hs' : decide (d * d ≤ n) = false := by simpa using hs
      go_wp2
      go_ret
      exact ⟨rfl, rfl⟩
set_option maxHeartbeats 400000 in
theorem l05Base_other (n : Int) (w : World) (h : ¬ prm n) (h4 : 2 ≤ n) (hn : n ≤ 1000) :
    Calls Try.prog 55 #[.int .i64 n] w fun e w' => ∃ v, e = .returned (.int .i64 v) ∧ v ≠ n ∧ w = w' := by
  obtain ⟨q, q1, q2, q3⟩ := not_prm h h4
  have Q3 := Lib.hid q3
  clear h q3
  have q31 := sq_small (a := q) (by omega) (by omega)
  go_enter Try.func55, Try.ntmps55
  go_wp2
  go_loop [3] (fun v => ∃ d : Int, v = .int .i64 d ∧ 2 ≤ d ∧ d ≤ q) (fun v => (1000 - intOf v).toNat)
  case atStart => exact ⟨2, rfl, by omega, q1⟩
  case round =>
    obtain ⟨d, rfl, h5, h6⟩ := hrel
    have m1 := sq_mono (a := d) (b := q) (by omega) h6
    have m0 := Int.mul_nonneg (show 0 ≤ d by omega) (show 0 ≤ d by omega)
    have m3 := Int.mul_le_mul_of_nonneg_left h5 (show 0 ≤ d by omega)
    have hs : decide (d * d ≤ n) = true := decide_eq_true (by omega)
    by_cases hm : n % d = 0
    · have hm' : (n % d != 0) = false := by rw [hm]; rfl
      clear hm
      go_wp2
      go_loop [0] (fun v => ∃ m : Int, v = .int .i64 m ∧ 1 ≤ m ∧ m ≤ 1000) (fun v => (intOf v).toNat)
      case atStart => exact ⟨n, rfl, by omega, hn⟩
      case round =>
        obtain ⟨m, rfl, p1, p2⟩ := hrel
        by_cases hz : m % d = 0
        · have hz' : (m % d == 0) = true := beq_iff_eq.2 hz
          have pm : d ≤ m := Int.le_of_dvd (by omega) (Int.dvd_of_emod_eq_zero hz)
          have e1 : 1 ≤ m / d := Int.le_ediv_of_mul_le (by omega) (by omega)
          have e2 : m / d < m := Int.ediv_lt_of_lt_mul (by omega) (by have := Int.mul_lt_mul_of_pos_left (show 1 < d by omega) (show 0 < m by omega); omega)
          clear hz
          go_wp2
          go_round
          case rel => exact ⟨m / d, rfl, e1, by omega⟩
          case measure => simp [intOf]; omega
        · have hz' : (m % d == 0) = false := beq_eq_false_iff_ne.2 hz
          clear hz
          by_cases hg : 1 < m
          · go_wp2
            go_ret
            exact ⟨0, rfl, by omega, rfl⟩
          · go_wp2
            go_ret
            exact ⟨d, rfl, by omega, rfl⟩
    · have hm' : (n % d != 0) = true := bne_iff_ne.2 hm
      have hd : d < q := by
        refine Int.lt_iff_le_and_ne.2 ⟨h6, fun e => hm ?_⟩
        rw [e]; exact Q3.out
      clear hm
      go_wp2
      go_round
      case rel => exact ⟨d + 1, rfl, by omega, by omega⟩
      case measure => simp [intOf]; omega

/-! ### the count -/
def cpTo (xs : List Int) (p : Int) : Nat → Option Int
  | 0 => some 0
  | k + 1 => match cpTo xs p k with
    | none => none
    | some s => if el xs k % p = 0 then (if 1000000000000000 < 1 + p * s then none else some (1 + p * s)) else some s
theorem cpTo_none {xs : List Int} {p : Int} {k : Nat} (h : cpTo xs p k = none) : ∀ d, cpTo xs p (k + d) = none
  | 0 => h
  | d + 1 => by show cpTo xs p (k + d + 1) = none; simp only [cpTo]; rw [cpTo_none h d]
theorem cpTo_none' {xs : List Int} {p : Int} {k n : Nat} (h : cpTo xs p k = none) (hk : k ≤ n) : cpTo xs p n = none := by
  have := cpTo_none h (n - k)
  rwa [show k + (n - k) = n by omega] at this
theorem cpTo_skip {xs : List Int} {p s : Int} {k : Nat} (h : cpTo xs p k = some s) (hd : el xs k % p ≠ 0) : cpTo xs p (k + 1) = some s := by simp only [cpTo]; rw [h]; simp only; rw [if_neg hd]
theorem cpTo_big {xs : List Int} {p s : Int} {k : Nat} (h : cpTo xs p k = some s) (hd : el xs k % p = 0) (hb : 1000000000000000 < 1 + p * s) : cpTo xs p (k + 1) = none := by simp only [cpTo]; rw [h]; simp only; rw [if_pos hd, if_pos hb]
theorem cpTo_next {xs : List Int} {p s : Int} {k : Nat} (h : cpTo xs p k = some s) (hd : el xs k % p = 0) (hb : ¬ 1000000000000000 < 1 + p * s) : cpTo xs p (k + 1) = some (1 + p * s) := by simp only [cpTo]; rw [h]; simp only; rw [if_pos hd, if_neg hb]
def cpV (xs : List Int) (p : Int) : Int × Int := match cpTo xs p xs.length with
  | none => (0, 3)
  | some s => (s, 0)
open Classical in
noncomputable def prV (xs : List Int) (r p : Int) : Int × Int := if isAb xs r then (if prm p ∧ p ≤ 1000 then cpV xs p else (0, 2)) else (0, 1)
theorem prV_no {xs : List Int} {r p : Int} (h : isAb xs r = false) : prV xs r p = (0, 1) := by unfold prV; simp [h]
theorem prV_bad {xs : List Int} {r p : Int} (h : isAb xs r = true) (hk : ¬ (prm p ∧ p ≤ 1000)) : prV xs r p = (0, 2) := by unfold prV; rw [if_pos h, if_neg hk]
theorem prV_ok {xs : List Int} {r p : Int} (h : isAb xs r = true) (h1 : prm p) (h2 : p ≤ 1000) : prV xs r p = cpV xs p := by unfold prV; rw [if_pos h, if_pos ⟨h1, h2⟩]

set_option maxHeartbeats 800000 in
theorem impl_CountPrimeSubgroups_any (a : Option Addr) (n c : Nat) (xs : List Int) (r k : Int) (w : World) (ha : RdI w a xs) (hl : xs.length = n) (hn : n ≤ 1048576) (hk64 : I64 k) :
    Calls Try.prog 26 #[.agg #[.slice a n c, .int .i64 r], .int .i64 k] w fun e w' => e = .returned (.tuple #[.int .i64 (prV xs r k).1, .int .i64 (prV xs r k).2]) ∧ Below w.heap.size w w' := by
  have HA := Lib.hid ha
  have HL := Lib.hid hl
  have HK := Lib.hid hk64
  obtain ⟨kk1, kk2⟩ := hk64
  clear ha hl
  cases hv : isAb xs r
  · rw [prV_no hv]
    go_enter Try.func26, Try.ntmps26
    go_wp2_with fail
    refine (impl_IsAbelian_any _ _ _ xs _ _ (by exact HA.out.alloc _) HL.out (by omega)).mono ?_
    rintro e w1 ⟨rfl, hb⟩
    have HB : Hid (Below w.heap.size w w1) := Lib.hid (((Below.refl _ _).alloc (Nat.le_refl _) _).trans (hb.mono (by simp)))
    have p0 := cell_keep (p := ⟨w.heap.size, 0, none⟩) (v := .slice a n c) (by simp) hb
    have p1 := cell_keep (p := ⟨w.heap.size, 1, none⟩) (v := .int .i64 r) (by simp) hb
    have hr1 : Hid (RdI w1 a xs) := Lib.hid (HA.out.keep HB.out (Nat.le_refl _))
    clear hb
    go_wp2_with fail
    go_ret2
    exact ⟨rfl, HB.out⟩
  by_cases hbig : 1000 < k
  · rw [prV_bad hv (fun h => by omega)]
    have hd : decide (1000 < k) = true := decide_eq_true hbig
    go_enter Try.func26, Try.ntmps26
    go_wp2_with fail
    refine (impl_IsAbelian_any _ _ _ xs _ _ (by exact HA.out.alloc _) HL.out (by omega)).mono ?_
    rintro e w1 ⟨rfl, hb⟩
    have HB : Hid (Below w.heap.size w w1) := Lib.hid (((Below.refl _ _).alloc (Nat.le_refl _) _).trans (hb.mono (by simp)))
    have p0 := cell_keep (p := ⟨w.heap.size, 0, none⟩) (v := .slice a n c) (by simp) hb
    have p1 := cell_keep (p := ⟨w.heap.size, 1, none⟩) (v := .int .i64 r) (by simp) hb
    have hr1 : Hid (RdI w1 a xs) := Lib.hid (HA.out.keep HB.out (Nat.le_refl _))
    clear hb
    go_wp2_with fail
    refine (isPrime_any _ _ HK.out).mono ?_
    rintro e w' ⟨b, rfl, rfl⟩
    cases b
    · go_wp2_with fail
      go_ret2
      exact ⟨rfl, HB.out⟩
    · go_wp2_with fail
      go_ret2
      exact ⟨rfl, HB.out⟩
  by_cases hp : prm k
  · rw [prV_ok hv hp (by omega)]
    have HX := Lib.hid (isAb_ok hv)
    have HP := Lib.hid hp
    have k2 : k ≤ 1000 := by omega
    have k1 : 2 ≤ k := hp.1
    have hd : decide (1000 < k) = false := by simp; omega
    have H0 : Hid (cpTo xs k 0 = some 0) := Lib.hid rfl
    clear hp hbig
    go_enter Try.func26, Try.ntmps26
    go_wp2_with fail
    refine (impl_IsAbelian_any _ _ _ xs _ _ (by exact HA.out.alloc _) HL.out (by omega)).mono ?_
    rintro e w1 ⟨rfl, hb⟩
    have HB : Hid (Below w.heap.size w w1) := Lib.hid (((Below.refl _ _).alloc (Nat.le_refl _) _).trans (hb.mono (by simp)))
    have p0 := cell_keep (p := ⟨w.heap.size, 0, none⟩) (v := .slice a n c) (by simp) hb
    have p1 := cell_keep (p := ⟨w.heap.size, 1, none⟩) (v := .int .i64 r) (by simp) hb
    have hr1 : Hid (RdI w1 a xs) := Lib.hid (HA.out.keep HB.out (Nat.le_refl _))
    clear hb
    go_wp2_with fail
    refine (isPrime_yes _ _ HP.out k2).mono ?_
    rintro e w' ⟨rfl, rfl⟩
    go_wp2_with fail
    go_loop [6, 7, 23] (fun v u i => ∃ (j : Nat) (s : Int), j ≤ n ∧ v = .int .i64 s ∧ u = .int .i64 ((k - 1) * s + 1) ∧ i = .int .i64 j ∧ 0 ≤ s ∧ s ≤ 1000000000000000 ∧ Hid (cpTo xs k j = some s)) (fun _ _ i => n - (intOf i).toNat)
    case atStart => exact ⟨0, 0, Nat.zero_le _, rfl, by simp, rfl, by omega, by omega, H0⟩
    case round =>
      obtain ⟨j, s, hj, rfl, rfl, rfl, s1, s2, HC⟩ := hrel
      clear H0
      by_cases hlt : j < n
      · have hjl : j < xs.length := by rw [HL.out]; exact hlt
        obtain ⟨b1, o1, hb1, hc⟩ := hr1.out (by omega)
        subst hb1
        have d1 := hc j hjl
        have hf := (HX.out.2.2.2 j hjl)
        have f1 := hf.1
        have f2 := hf.2.1
        obtain ⟨g1, g2⟩ := mul_bd (show 0 ≤ k - 1 by omega) (show k - 1 ≤ 999 by omega) s1 s2
        have g3 : 1 + k * s = s + ((k - 1) * s + 1) := by grind
        have g4 : ((k - 1) * s + 1) * k = (k - 1) * (1 + k * s) + 1 := by grind
        have g5 : 0 ≤ ((k - 1) * s + 1) * k := Int.mul_nonneg (by omega) (by omega)
        have HJL := Lib.hid hjl
        clear hc hf hjl
        by_cases hz : el xs j % k = 0
        · have hz' : (el xs j % k != 0) = false := by rw [hz]; rfl
          by_cases hov : 1000000000000000 < 1 + k * s
          · have H : Hid (cpV xs k = (0, 3)) := Lib.hid (by
              have h1 := cpTo_big HC.out hz hov
              have h2 := cpTo_none' h1 (show j + 1 ≤ xs.length by have := HJL.out; omega)
              unfold cpV; rw [h2])
            have G3 := Lib.hid g3
            have G4 := Lib.hid g4
            have hov2 : 1000000000000000 < s + ((k - 1) * s + 1) := by omega
            clear hz g3 g4 hov
            by_cases hpw : 1000000000000000 < (k - 1) * s + 1
            · have hp1 : decide (1000000000000000 < (k - 1) * s + 1) = true := decide_eq_true hpw
              go_wp2
              go_ret2
              exact ⟨ret_ii (by rw [H.out]) (by rw [H.out]), HB.out⟩
            · have hp1 : decide (1000000000000000 < (k - 1) * s + 1) = false := by simpa using hpw
              have hp2 : decide (1000000000000000 < s + ((k - 1) * s + 1)) = true := decide_eq_true hov2
              go_wp2
              go_ret2
              exact ⟨ret_ii (by rw [H.out]) (by rw [H.out]), HB.out⟩
          · have HN := Lib.hid (cpTo_next HC.out hz hov)
            have G3 := Lib.hid g3
            have G4 := Lib.hid g4
            have hov2 : s + ((k - 1) * s + 1) ≤ 1000000000000000 := by omega
            have hp1 : decide (1000000000000000 < (k - 1) * s + 1) = false := decide_eq_false (by omega)
            have hp2 : decide (1000000000000000 < s + ((k - 1) * s + 1)) = false := decide_eq_false (by omega)
            have g6 := (mul_bd (x := (k - 1) * s + 1) (y := k) (A := 1000000000000000) (B := 1000) (by omega) (by omega) (by omega) k2).2
            clear hz g3 g4 hov
            go_wp2
            go_round
            case rel => exact ⟨j + 1, 1 + k * s, by omega, by rw [G3.out], by rw [G4.out], by go_num, by rw [G3.out]; omega, by rw [G3.out]; omega, HN⟩
            case measure => simp [intOf]; omega
        · have hz' : (el xs j % k != 0) = true := bne_iff_ne.2 hz
          have HN := Lib.hid (cpTo_skip HC.out hz)
          clear hz g3 g4
          go_wp2
          go_round
          case rel => exact ⟨j + 1, s, by omega, rfl, rfl, by go_num, s1, s2, HN⟩
          case measure => simp [intOf]; omega
      · obtain rfl : j = n := by omega
        have H : Hid (cpV xs k = (s, 0)) := Lib.hid (by unfold cpV; rw [HL.out, HC.out])
        go_wp2
        go_ret2
        exact ⟨ret_ii (by rw [H.out]) (by rw [H.out]), HB.out⟩
  · rw [prV_bad hv (fun h => hp h.1)]
    have HP := Lib.hid hp
    clear hp
    go_enter Try.func26, Try.ntmps26
    go_wp2_with fail
    refine (impl_IsAbelian_any _ _ _ xs _ _ (by exact HA.out.alloc _) HL.out (by omega)).mono ?_
    rintro e w1 ⟨rfl, hb⟩
    have HB : Hid (Below w.heap.size w w1) := Lib.hid (((Below.refl _ _).alloc (Nat.le_refl _) _).trans (hb.mono (by simp)))
    have p0 := cell_keep (p := ⟨w.heap.size, 0, none⟩) (v := .slice a n c) (by simp) hb
    have p1 := cell_keep (p := ⟨w.heap.size, 1, none⟩) (v := .int .i64 r) (by simp) hb
    have hr1 : Hid (RdI w1 a xs) := Lib.hid (HA.out.keep HB.out (Nat.le_refl _))
    clear hb
    go_wp2_with fail
    refine (isPrime_no _ _ HP.out (by omega) kk1).mono ?_
    rintro e w' ⟨rfl, rfl⟩
    go_wp2_with fail
    go_ret2
    exact ⟨rfl, HB.out⟩
set_option maxHeartbeats 800000 in
theorem spec_CountPrimeSubgroups_any (a : Option Addr) (n c : Nat) (xs : List Int) (r k : Int) (w : World) (ha : RdI w a xs) (hl : xs.length = n) (hn : n ≤ 1048576) (hk64 : I64 k) :
    Calls Try.prog 25 #[.agg #[.slice a n c, .int .i64 r], .int .i64 k] w fun e w' => e = .returned (.tuple #[.int .i64 (prV xs r k).1, .int .i64 (prV xs r k).2]) ∧ Below w.heap.size w w' := by
  have HA := Lib.hid ha
  have HL := Lib.hid hl
  have HK := Lib.hid hk64
  obtain ⟨kk1, kk2⟩ := hk64
  clear ha hl
  cases hv : isAb xs r
  · rw [prV_no hv]
    go_enter Try.func25, Try.ntmps25
    go_wp2_with fail
    refine (spec_IsAbelian_any _ _ _ xs _ _ (by exact HA.out.alloc _) HL.out (by omega)).mono ?_
    rintro e w1 ⟨rfl, hb⟩
    have HB : Hid (Below w.heap.size w w1) := Lib.hid (((Below.refl _ _).alloc (Nat.le_refl _) _).trans (hb.mono (by simp)))
    have p0 := cell_keep (p := ⟨w.heap.size, 0, none⟩) (v := .slice a n c) (by simp) hb
    have p1 := cell_keep (p := ⟨w.heap.size, 1, none⟩) (v := .int .i64 r) (by simp) hb
    have hr1 : Hid (RdI w1 a xs) := Lib.hid (HA.out.keep HB.out (Nat.le_refl _))
    clear hb
    go_wp2_with fail
    go_ret2
    exact ⟨rfl, HB.out⟩
  by_cases hbig : k < 2 ∨ 1000 < k
  · rw [prV_bad hv (fun h => by have := h.1.1; omega)]
    go_enter Try.func25, Try.ntmps25
    go_wp2_with fail
    refine (spec_IsAbelian_any _ _ _ xs _ _ (by exact HA.out.alloc _) HL.out (by omega)).mono ?_
    rintro e w1 ⟨rfl, hb⟩
    have HB : Hid (Below w.heap.size w w1) := Lib.hid (((Below.refl _ _).alloc (Nat.le_refl _) _).trans (hb.mono (by simp)))
    have p0 := cell_keep (p := ⟨w.heap.size, 0, none⟩) (v := .slice a n c) (by simp) hb
    have p1 := cell_keep (p := ⟨w.heap.size, 1, none⟩) (v := .int .i64 r) (by simp) hb
    have hr1 : Hid (RdI w1 a xs) := Lib.hid (HA.out.keep HB.out (Nat.le_refl _))
    clear hb
    go_wp2_with (go_at_call 49; refine (l01In_f _ _ _ _ hbig).mono ?_; rintro e w' ⟨rfl, rfl⟩)
    go_ret2
    exact ⟨rfl, HB.out⟩
  have k1 : 2 ≤ k := by omega
  have k2 : k ≤ 1000 := by omega
  clear hbig
  by_cases hp : prm k
  · rw [prV_ok hv hp (by omega)]
    have HX := Lib.hid (isAb_ok hv)
    have HP := Lib.hid hp
    have H0 : Hid (cpTo xs k 0 = some 0) := Lib.hid rfl
    have hne : (k != k) = false := by simp
    clear hp
    go_enter Try.func25, Try.ntmps25
    go_wp2_with fail
    refine (spec_IsAbelian_any _ _ _ xs _ _ (by exact HA.out.alloc _) HL.out (by omega)).mono ?_
    rintro e w1 ⟨rfl, hb⟩
    have HB : Hid (Below w.heap.size w w1) := Lib.hid (((Below.refl _ _).alloc (Nat.le_refl _) _).trans (hb.mono (by simp)))
    have p0 := cell_keep (p := ⟨w.heap.size, 0, none⟩) (v := .slice a n c) (by simp) hb
    have p1 := cell_keep (p := ⟨w.heap.size, 1, none⟩) (v := .int .i64 r) (by simp) hb
    have hr1 : Hid (RdI w1 a xs) := Lib.hid (HA.out.keep HB.out (Nat.le_refl _))
    clear hb
    go_wp2_with (first | (go_at_call 49; refine (l01In_t _ _ _ _ k1 k2).mono ?_; rintro e w' ⟨rfl, rfl⟩) | (go_at_call 55; refine (l05Base_prime _ _ HP.out k2).mono ?_; rintro e w' ⟨rfl, rfl⟩))
    go_loopw [6, 7] (fun v i wr => ∃ (j : Nat) (s : Int), (∃ q, wr = w1.drewN q) ∧ j ≤ n ∧ v = .int .i64 s ∧ i = .int .i64 j ∧ 0 ≤ s ∧ s ≤ 1000000000000000 ∧ Hid (cpTo xs k j = some s)) (fun _ i _ => n - (intOf i).toNat)
    case atStart => exact ⟨0, 0, ⟨0, rfl⟩, Nat.zero_le _, rfl, rfl, by omega, by omega, H0⟩
    case round =>
      obtain ⟨j, s, ⟨q, rfl⟩, hj, rfl, rfl, s1, s2, HC⟩ := hrel
      clear H0
      by_cases hlt : j < n
      · have hjl : j < xs.length := by rw [HL.out]; exact hlt
        obtain ⟨b1, o1, hb1, hc⟩ := hr1.out (by omega)
        subst hb1
        have d1 := hc j hjl
        have hf := (HX.out.2.2.2 j hjl)
        have f1 := hf.1
        have f2 := hf.2.1
        have hk1 : (j : Int) < (n : Int) := by omega
        have dv : 0 ≤ 999999999999999 / k := Int.ediv_nonneg (by omega) (by omega)
        have dw : 999999999999999 / k ≤ 999999999999999 := Int.ediv_le_self _ (by omega)
        have td : (999999999999999 : Int).tdiv k = 999999999999999 / k := Int.tdiv_eq_ediv_of_nonneg (by omega)
        have HJL := Lib.hid hjl
        clear hc hf hjl
        by_cases hz : el xs j % k = 0
        · have hz' : (el xs j % k == 0) = true := beq_iff_eq.2 hz
          by_cases hov : 999999999999999 / k < s
          · have H : Hid (cpV xs k = (0, 3)) := Lib.hid (by
              have h0 := (Int.ediv_lt_iff_lt_mul (show 0 < k by omega)).1 hov
              have h1 := cpTo_big HC.out hz (by rw [Int.mul_comm k s]; omega)
              have h2 := cpTo_none' h1 (show j + 1 ≤ xs.length by have := HJL.out; omega)
              unfold cpV; rw [h2])
            have hd : decide (999999999999999 / k < s) = true := decide_eq_true hov
            clear hz hov
            go_wp2
            go_ret2
            exact ⟨ret_ii (by rw [H.out]) (by rw [H.out]), below_drewN' HB.out _⟩
          · have h0 : k * s ≤ 999999999999999 := by
              have h0 : ¬ 999999999999999 < s * k := fun h => hov ((Int.ediv_lt_iff_lt_mul (show 0 < k by omega)).2 h)
              rw [Int.mul_comm k s]; omega
            have h00 : 0 ≤ k * s := Int.mul_nonneg (by omega) s1
            have HN := Lib.hid (cpTo_next HC.out hz (by omega))
            have hd : decide (999999999999999 / k < s) = false := decide_eq_false hov
            clear hz hov
            go_wp2
            go_roundw
            case rel => exact ⟨j + 1, 1 + k * s, ⟨q, rfl⟩, by omega, by go_num, by go_num, by omega, by omega, HN⟩
            case measure => simp [intOf]; omega
        · have hz' : (el xs j % k == 0) = false := beq_eq_false_iff_ne.2 hz
          have HN := Lib.hid (cpTo_skip HC.out hz)
          clear hz
          go_wp2
          go_roundw
          case rel => exact ⟨j + 1, s, ⟨q, rfl⟩, by omega, rfl, by go_num, s1, s2, HN⟩
          case measure => simp [intOf]; omega
      · obtain rfl : j = n := by omega
        have H : Hid (cpV xs k = (s, 0)) := Lib.hid (by unfold cpV; rw [HL.out, HC.out])
        go_wp2
        go_ret2
        exact ⟨ret_ii (by rw [H.out]) (by rw [H.out]), below_drewN' HB.out _⟩
  · rw [prV_bad hv (fun h => hp h.1)]
    have HP := Lib.hid hp
    clear hp
    go_enter Try.func25, Try.ntmps25
    go_wp2_with fail
    refine (spec_IsAbelian_any _ _ _ xs _ _ (by exact HA.out.alloc _) HL.out (by omega)).mono ?_
    rintro e w1 ⟨rfl, hb⟩
    have HB : Hid (Below w.heap.size w w1) := Lib.hid (((Below.refl _ _).alloc (Nat.le_refl _) _).trans (hb.mono (by simp)))
    have p0 := cell_keep (p := ⟨w.heap.size, 0, none⟩) (v := .slice a n c) (by simp) hb
    have p1 := cell_keep (p := ⟨w.heap.size, 1, none⟩) (v := .int .i64 r) (by simp) hb
    have hr1 : Hid (RdI w1 a xs) := Lib.hid (HA.out.keep HB.out (Nat.le_refl _))
    clear hb
    go_wp2_with (go_at_call 49; refine (l01In_t _ _ _ _ k1 k2).mono ?_; rintro e w' ⟨rfl, rfl⟩)
    refine (l05Base_other _ _ HP.out k1 k2).mono ?_
    rintro e w' ⟨v, rfl, hne, rfl⟩
    have hne' : (v != k) = true := bne_iff_ne.2 hne
    clear hne
    go_wp2_with fail
    go_ret2
    exact ⟨rfl, HB.out⟩
end Go.Proofs.Ytgdialknnjnehaa
