/- Bezout: the program and the reference. -/
import Derived.Test.YtkidohohiihbaaaNumB
set_option linter.unusedVariables false
set_option linter.unusedSimpArgs false
namespace Go.Proofs.Ytkidohohiihbaaa
open Go.RowKit

theorem bez_congr {a m g x : Int} (hg : 1 ≤ g) (d1 : g ∣ a) (d2 : g ∣ m) (h : IsInv (a % m / g) (m / g) x) : IsInv (a / g) (m / g) x := by
  obtain ⟨u, hu⟩ := d1
  obtain ⟨v, hv⟩ := d2
  have e1 : a / g = u := by rw [hu, Int.mul_ediv_cancel_left _ (by omega)]
  have e2 : m / g = v := by rw [hv, Int.mul_ediv_cancel_left _ (by omega)]
  have e3 : a % m = g * (u - v * (a / m)) := by
    have h5 := Int.emod_add_mul_ediv a m
    have : a % m = a - m * (a / m) := by omega
    rw [this]
    generalize a / m = q at *
    rw [hu, hv]
    grind
  have e4 : a % m / g = u - v * (a / m) := by rw [e3, Int.mul_ediv_cancel_left _ (by omega)]
  rw [e1, e2]
  rw [e2, e4] at h
  exact h.congr ⟨-(a / m), by grind⟩
theorem tdiv_exact {a g : Int} (d : g ∣ a) : a.tdiv g = a / g := Int.tdiv_eq_ediv_of_dvd d
theorem tdiv_bd {u b N : Int} (hb : b ≠ 0) (h1 : -N ≤ u) (h2 : u ≤ N) : -N ≤ u.tdiv b ∧ u.tdiv b ≤ N := by
  have h : (u.tdiv b).natAbs ≤ u.natAbs := by
    rw [Int.natAbs_tdiv]
    exact Nat.div_le_self _ _
  omega
theorem gcd_abs_emod (a b : Int) (hb : b ≠ 0) : Int.gcd (a % max b (-b)) (max b (-b)) = Int.gcd a b := by
  rw [gcd_emod]
  rcases Int.le_total 0 b with h | h
  · rw [show max b (-b) = b by omega]
  · rw [show max b (-b) = -b by omega, Int.gcd_neg]
theorem gcd_pos' (a b : Int) (hb : b ≠ 0) : 1 ≤ (Int.gcd a b : Int) := by
  have : Int.gcd a b ≠ 0 := fun h => hb (Int.gcd_eq_zero_iff.1 h).2
  omega
theorem gcd_le' (a b : Int) (hb : b ≠ 0) : (Int.gcd a b : Int) ≤ max b (-b) := by
  have h : (Int.gcd a b : Int) ∣ max b (-b) := by
    rcases Int.le_total 0 b with h | h
    · rw [show max b (-b) = b by omega]; exact Int.gcd_dvd_right _ _
    · rw [show max b (-b) = -b by omega]; exact Int.dvd_neg.2 (Int.gcd_dvd_right _ _)
  exact Int.le_of_dvd (by omega) h
/-- what both answer for b not 0 -/
noncomputable def bezX (a b : Int) : Int := minv (a / Int.gcd a b) (max b (-b) / Int.gcd a b)
theorem gcd_dvd_abs (a b : Int) : (Int.gcd a b : Int) ∣ max b (-b) := by
  rcases Int.le_total 0 b with h | h
  · rw [show max b (-b) = b by omega]; exact Int.gcd_dvd_right _ _
  · rw [show max b (-b) = -b by omega]; exact Int.dvd_neg.2 (Int.gcd_dvd_right _ _)
theorem coprime_div (a b : Int) (hb : b ≠ 0) : Int.gcd (a / Int.gcd a b) (max b (-b) / Int.gcd a b) = 1 := by
  have hg := gcd_pos' a b hb
  have e : Int.gcd a (max b (-b)) = Int.gcd a b := by
    rcases Int.le_total 0 b with h | h
    · rw [show max b (-b) = b by omega]
    · rw [show max b (-b) = -b by omega, Int.gcd_neg]
  have h := Int.gcd_ediv_gcd_ediv_gcd (i := a) (j := max b (-b)) (by omega)
  rwa [e] at h
theorem bezX_inv (a b : Int) (hb : b ≠ 0) : IsInv (a / Int.gcd a b) (max b (-b) / Int.gcd a b) (bezX a b) := by
  have hg := gcd_pos' a b hb
  exact minv_is (coprime_div a b hb) (Int.le_ediv_of_mul_le (by omega) (by have := gcd_le' a b hb; omega))

def BezBad (a b : Int) : Prop := a < -1000000 ∨ 1000000 < a ∨ (-1000000 ≤ a ∧ a ≤ 1000000 ∧ (b < -1000000 ∨ 1000000 < b))
set_option maxHeartbeats 400000 in
theorem impl_Bezout_bad (a b : Int) (w : World) (h : BezBad a b) :
    Calls Try.prog 26 #[.int .i64 a, .int .i64 b] w fun r w' => r = .returned (.tuple #[.int .i64 0, .int .i64 0, .int .i64 0, .int .i64 2]) ∧ w = w' := by
  rcases h with h | h | ⟨h1, h2, h⟩
  all_goals
    go_enter Try.func26, Try.ntmps26
    go_wp2_with (first | (go_at_call 89; refine (inside_t _ _ _ _ (by omega) (by omega)).mono ?_; rintro e w' ⟨rfl, rfl⟩) | (go_at_call 89; refine (inside_f _ _ _ _ (by omega)).mono ?_; rintro e w' ⟨rfl, rfl⟩))
    exact bodyPost_ret (v := .tuple #[.int .i64 0, .int .i64 0, .int .i64 0, .int .i64 2]) (by simp [results, Try.results26, go_sem]) rfl ⟨rfl, rfl⟩
set_option maxHeartbeats 400000 in
theorem impl_Bezout_zero (a : Int) (w : World) (h1 : -1000000 ≤ a) (h2 : a ≤ 1000000) :
    Calls Try.prog 26 #[.int .i64 a, .int .i64 0] w fun r w' => r = .returned (.tuple #[.int .i64 (max a (-a)), .int .i64 a.sign, .int .i64 0, .int .i64 0]) ∧ ∃ n, w' = w.drewN n := by
  have hg : Hid ((Int.gcd a 0 : Int) = max a (-a)) := Lib.hid (by simp; omega)
  go_enter Try.func26, Try.ntmps26
  go_wp2_with (first | (go_at_call 89; refine (inside_t _ _ _ _ (by omega) (by omega)).mono ?_; rintro e w' ⟨rfl, rfl⟩) | (go_at_call 90; refine (gcd_any _ _ _ (by omega) (by omega) (by omega) (by omega)).mono ?_; rw [hg.out]; rintro e w' ⟨rfl, n, rfl⟩) | (go_at_call 91; refine (sign_any _ _ (by omega) (by omega)).mono ?_; rintro e w' ⟨rfl, rfl⟩))
  exact bodyPost_ret (v := .tuple #[.int .i64 (max a (-a)), .int .i64 a.sign, .int .i64 0, .int .i64 0]) (by simp [results, Try.results26, go_sem]) rfl ⟨rfl, n, rfl⟩
set_option maxHeartbeats 400000 in
theorem impl_Bezout_ok (a b : Int) (w : World) (h1 : -1000000 ≤ a) (h2 : a ≤ 1000000) (h3 : -1000000 ≤ b) (h4 : b ≤ 1000000) (hb : b ≠ 0) :
    Calls Try.prog 26 #[.int .i64 a, .int .i64 b] w fun r w' => r = .returned (.tuple #[.int .i64 (Int.gcd a b), .int .i64 (bezX a b), .int .i64 (((Int.gcd a b : Int) - a * bezX a b).tdiv b), .int .i64 0]) ∧ ∃ n, w' = w.drewN n := by
  have hI := bezX_inv a b hb
  have hg1 := gcd_pos' a b hb
  have hg2 := gcd_le' a b hb
  have d1 : (Int.gcd a b : Int) ∣ a := Int.gcd_dvd_left _ _
  have d2 := gcd_dvd_abs a b
  have hc := coprime_div a b hb
  generalize bezX a b = z at *
  have HG : Hid (∀ w, Calls Try.prog 90 #[.int .i64 a, .int .i64 b] w fun e w' => e = .returned (.int .i64 (Int.gcd a b)) ∧ ∃ n, w' = w.drewN n) := Lib.hid fun w => gcd_any a b w (by omega) (by omega) (by omega) (by omega)
  generalize (Int.gcd a b : Int) = g at *
  have hb' : (b == 0) = false := beq_eq_false_iff_ne.2 hb
  have hn1 : 1 ≤ max b (-b) / g := Int.le_ediv_of_mul_le (by omega) (by omega)
  have hn2 : max b (-b) / g ≤ 1000000 := Int.le_trans (Int.ediv_le_self _ (by omega)) (by omega)
  obtain ⟨t1, t2⟩ := tdiv_bd (u := a) (b := g) (N := 1000000) (by omega) h1 h2
  have TE := Lib.hid (tdiv_exact d1)
  have HI := Lib.hid hI
  have HC := Lib.hid hc
  have hz0 := hI.1
  have hz1 := hI.2.1
  obtain ⟨p1, p2⟩ : -1000000000000 ≤ a * z ∧ a * z ≤ 1000000000000 := by
    have hz2 : z ≤ 1000000 := by omega
    rcases Int.le_total 0 a with h | h
    · have := mul_bd h h2 hz0 hz2; omega
    · have := mul_bd (show 0 ≤ -a by omega) (show -a ≤ 1000000 by omega) hz0 hz2
      rw [Int.neg_mul] at this; omega
  obtain ⟨p3, p4⟩ := tdiv_bd (u := g - a * z) (b := b) (N := 2000000000000) hb (by omega) (by omega)
  obtain ⟨r1, r2⟩ := emod_bd (a.tdiv g) (max b (-b) / g) hn1
  clear d1 d2 hI hc
  have Hg2 : Hid ((Int.gcd (a.tdiv g % (max b (-b) / g)) (max b (-b) / g) == 1) = true) := Lib.hid (by rw [gcd_emod, TE.out, HC.out]; rfl)
  go_enter Try.func26, Try.ntmps26
  go_wp2_with (first | (go_at_call 89; refine (inside_t _ _ _ _ (by omega) (by omega)).mono ?_; rintro e w' ⟨rfl, rfl⟩) | (go_at_call 90; refine (HG.out _).mono ?_; rintro e w' ⟨rfl, n, rfl⟩) | (go_at_call 92; refine (abs_any _ _ (by omega) (by omega)).mono ?_; rintro e w' ⟨rfl, rfl⟩) | (go_at_call 84; refine (residue_any _ _ _ (by omega) (by omega) (by omega) (by omega)).mono ?_; rintro e w' ⟨rfl, rfl⟩) | (go_at_call 85; refine (inverseMod_any _ _ _ r1 r2 (by omega)).mono ?_; rw [Hg2.out]; rintro e w' ⟨x, rfl, hx, n, rfl⟩; obtain rfl : x = z := (((hx (by have := Hg2.out; simpa using this)).congr (dvd_emod_sub)).congr (by rw [TE.out]; simp)).unique HI.out; clear hx))
  have W1 : IntKind.i64.wrap (a * x) = a * x := IntWalk.i64_in _ (by omega)
  have W2 : IntKind.i64.wrap (g - a * x) = g - a * x := IntWalk.i64_in _ (by omega)
  go_quiet (fail)
  go_wp2
  exact bodyPost_ret (v := .tuple #[.int .i64 g, .int .i64 x, .int .i64 ((g - a * x).tdiv b), .int .i64 0]) (by simp [results, Try.results26, go_sem]) rfl ⟨rfl, _, World.drewN_drewN _ _ _⟩
end Go.Proofs.Ytkidohohiihbaaa
