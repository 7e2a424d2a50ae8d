/- The law on residues, from a code. -/
import Derived.Test.YtkidohohiihbaaaDraw1
import Derived.Test.YtkidohohiihbaaaNumB
import Derived.Test.YtkidohohiihbaaaBez
set_option linter.unusedVariables false
set_option linter.unusedSimpArgs false
namespace Go.Proofs.Ytkidohohiihbaaa
open Go.RowKit

theorem Code0.of {w : World} {a : Option Addr} {m : Nat} {bs : List Int} (hl : bs.length = m) (hx : RdB w a bs) (hw : ∀ x ∈ bs, 0 ≤ x ∧ x ≤ 255) (hm : m ≤ 4096) : Code0 w a m bs :=
  ⟨hl, hx, fun i hi => hw _ (el_mem (by omega)), by omega⟩
set_option maxHeartbeats 400000 in
theorem big_t (a : Option Addr) (n c : Nat) (w : World) (h : 4096 < n) (hn : n ≤ maxLen) :
    Calls Try.prog 14 #[.slice a n c] w fun e w' => e = .returned (.bool true) ∧ w = w' := by
  unfold maxLen at hn
  go_enter Try.func14, Try.ntmps14
  go_wp2
  go_ret
  exact ⟨ret_bool (by simp; omega), rfl⟩
theorem big_f (a : Option Addr) (n c : Nat) (w : World) (h : n ≤ 4096) :
    Calls Try.prog 14 #[.slice a n c] w fun e w' => e = .returned (.bool false) ∧ w = w' := by
  go_enter Try.func14, Try.ntmps14
  go_wp2
  go_ret
  exact ⟨ret_bool (by simp; omega), rfl⟩
theorem before_inv {a m : Int} {k : Nat} (hm : 1 ≤ m) (h : IsOrd a m k) : IsInv a m (a ^ (k - 1) % m) := by
  obtain ⟨h1, h2, _⟩ := h
  have hb := emod_bd (a ^ (k - 1)) m hm
  refine ⟨hb.1, hb.2, ?_⟩
  have e : a ^ k = a * a ^ (k - 1) := by
    obtain ⟨j, rfl⟩ : ∃ j, k = j + 1 := ⟨k - 1, by omega⟩
    rw [Nat.add_sub_cancel, Int.pow_succ, Int.mul_comm]
  have h3 := (emod_eq_iff _ _ _).1 h2
  rw [e] at h3
  have h4 : m ∣ a * (a ^ (k - 1) % m - a ^ (k - 1)) := dvdR dvd_emod_sub a
  have h5 := Int.dvd_add h3 h4
  have : a * a ^ (k - 1) - 1 + a * (a ^ (k - 1) % m - a ^ (k - 1)) = a * (a ^ (k - 1) % m) - 1 := by rw [Int.mul_sub]; omega
  rwa [this] at h5
theorem bez_fin {m x : Int} (hx0 : 0 < x) (hx1 : x < m) (hm : m ≤ 1000000) (hg : Int.gcd m x = 1) :
    0 ≤ bezX m x ∧ bezX m x < x ∧ m * bezX m x + x * (((Int.gcd m x : Int) - m * bezX m x).tdiv x) = 1 ∧ -1000000000000 ≤ m * bezX m x ∧ m * bezX m x ≤ 1000000000000 ∧ (Int.gcd m x : Int) = 1 := by
  have h := bezX_inv m x (by omega)
  rw [hg] at h
  have e1 : max x (-x) = x := by omega
  have e2 : m / ((1 : Nat) : Int) = m := by simp
  have e3 : max x (-x) / ((1 : Nat) : Int) = x := by rw [e1]; simp
  rw [e2, e3] at h
  obtain ⟨h1, h2, h3⟩ := h
  have h4 : x ∣ ((Int.gcd m x : Int) - m * bezX m x) := by
    rw [hg]
    have := Int.dvd_neg.2 h3
    have e : -(m * bezX m x - 1) = ((1 : Nat) : Int) - m * bezX m x := by omega
    rwa [e] at this
  have h5 := Int.mul_tdiv_cancel' h4
  have h6 : 0 ≤ m * bezX m x := Int.mul_nonneg (by omega) h1
  have h7 : m * bezX m x ≤ 1000000 * 1000000 := Int.mul_le_mul hm (by omega) h1 (by omega)
  refine ⟨h1, h2, ?_, by omega, by omega, by rw [hg]; rfl⟩
  rw [h5, hg]
  omega
set_option maxRecDepth 20000 in
set_option maxHeartbeats 4000000 in
theorem law_Residues (a0 : Option Addr) (n0 c0 : Nat) (bs : List Int) (w : World) (hl : bs.length = n0) (hx : RdB w a0 bs) (hw : ∀ x ∈ bs, 0 ≤ x ∧ x ≤ 255) (hc : n0 ≤ c0) (hm : n0 ≤ maxLen) :
    Calls Try.prog 4 #[.slice a0 n0 c0] w fun e w' => e = .returned (.bool true) ∧ Below w.heap.size w w' := by
  by_cases hbig : 4096 < n0
  · clear hx hw
    go_enter Try.func4, Try.ntmps4
    go_wp2_with (go_at_call 14; refine (big_t _ _ _ _ hbig hm).mono ?_; rintro e w' ⟨rfl, rfl⟩)
    go_ret
    exact ⟨rfl, Below.refl _ _⟩
  · have hs : n0 ≤ 4096 := by omega
    have HS := Lib.hid (Code0.of hl hx hw hs)
    clear hl hx hw hm hbig
    go_enter Try.func4, Try.ntmps4
    go_wp2_with (go_at_call 14; refine (big_f _ _ _ _ hs).mono ?_; rintro e w' ⟨rfl, rfl⟩)
    refine (DrawModInverse_any a0 n0 c0 bs w HS.out hc).mono ?_
    rintro e w1 ⟨a, m, rfl, ha, hm, hb⟩
    have HB := Lib.hid hb
    obtain ⟨h1, h2⟩ := ha
    clear hb
    by_cases hv : m < 1 ∨ 1000000 < m
    · clear hm
      go_wp2_with (first | (go_at_call 23; refine (impl_ModInverse_bad _ _ _ hv).mono ?_; rintro e w' ⟨rfl, rfl⟩) | (go_at_call 24; refine (spec_ModInverse_bad _ _ _ hv).mono ?_; rintro e w' ⟨rfl, rfl⟩) | (go_at_call 25; refine (impl_UnitOrder_bad _ _ _ hv).mono ?_; rintro e w' ⟨rfl, rfl⟩))
      go_ret
      exact ⟨rfl, HB.out⟩
    · have h3 : 1 ≤ m := by omega
      have h4 : m ≤ 1000000 := by omega
      clear hv hm
      by_cases hg : Int.gcd a m = 1
      · have hinv := minv_is hg h3
        obtain ⟨k, hk, hkm⟩ := ord_exists hinv h3
        have hk1 : 1 ≤ k := hk.1
        have Hg := Lib.hid hg
        have HK := Lib.hid hk
        have hP : a ^ k % m = 1 % m := hk.2.1
        have hQ : a ^ (k - 1) % m = minv a m := (before_inv h3 hk).unique hinv
        obtain ⟨k', rfl⟩ : ∃ k', k = k' + 1 := ⟨k - 1, by omega⟩
        have HP1 : Hid (∀ w, Calls Try.prog 19 #[.int .i64 a, .int .i64 ((k' : Int) + 1), .int .i64 m] w fun r w' => r = .returned (.tuple #[.int .i64 (1 % m), .int .i64 0]) ∧ w = w') := Lib.hid (fun w => by
          have h := impl_ModPower_ok a (k' + 1) m w h1 h2 h3 h4 (by omega)
          rw [hP] at h
          exact h)
        have HP2 : Hid (∀ w, Calls Try.prog 19 #[.int .i64 a, .int .i64 (k' : Int), .int .i64 m] w fun r w' => r = .returned (.tuple #[.int .i64 (minv a m), .int .i64 0]) ∧ w = w') := Lib.hid (fun w => by
          have h := impl_ModPower_ok a k' m w h1 h2 h3 h4 (by omega)
          rw [Nat.add_sub_cancel] at hQ
          rw [hQ] at h
          exact h)
        have HM1 : Hid (∀ w, Calls Try.prog 23 #[.int .i64 a, .int .i64 m] w fun r w' => r = .returned (.tuple #[.int .i64 (minv a m), .int .i64 0]) ∧ ∃ n, w' = w.drewN n) := Lib.hid (fun w => impl_ModInverse_ok a m w h1 h2 h3 h4 hg)
        have HM2 : Hid (∀ w, Calls Try.prog 24 #[.int .i64 a, .int .i64 m] w fun r w' => r = .returned (.tuple #[.int .i64 (minv a m), .int .i64 0]) ∧ w = w') := Lib.hid (fun w => spec_ModInverse_ok a m w h1 h2 h3 h4 hg)
        have HU : Hid (∀ w, Calls Try.prog 25 #[.int .i64 a, .int .i64 m] w fun r w' => r = .returned (.tuple #[.int .i64 ((k' : Int) + 1), .int .i64 0]) ∧ ∃ n, w' = w.drewN n) := Lib.hid (fun w => impl_UnitOrder_ok a m (k' + 1) w h1 h2 h3 h4 hg hk hkm)
        obtain ⟨hx0, hx1, hx2⟩ := hinv
        have htm : (1 : Int).tmod m = 1 % m := Int.tmod_eq_emod_of_nonneg (by omega)
        have hg2 : minv a m ≠ 0 → Int.gcd m (minv a m) = 1 := fun _ => by
          have := IsInv.gcd (a := minv a m) (m := m) (x := a % m) ⟨(emod_bd a m h3).1, (emod_bd a m h3).2, by
            have h5 := dvdR (show m ∣ a % m - a from dvd_emod_sub) (minv a m)
            have h6 := Int.dvd_add hx2 h5
            have : a * minv a m - 1 + minv a m * (a % m - a) = minv a m * (a % m) - 1 := by grind
            rwa [this] at h6⟩
          rw [Int.gcd_comm]; exact this
        have hk2 : (k' : Int) ≤ 1000000 := by omega
        have hm1x : m ≠ 1 → minv a m ≠ 0 := fun hm h => by
          rw [h] at hx2
          have h7 := Int.le_of_dvd (a := m) (b := 1) (by omega) (by have := Int.dvd_neg.2 hx2; simpa using this)
          omega
        clear hP hQ hg hk hx2 hkm hk1
        generalize minv a m = x at *
        by_cases hm1 : m = 1
        · subst hm1
          obtain rfl : x = 0 := by omega
          clear hg2
          go_wp2_with (first | (go_at_call 23; refine (HM1.out _).mono ?_; rintro e w' ⟨rfl, q1, rfl⟩) | (go_at_call 24; refine (HM2.out _).mono ?_; rintro e w' ⟨rfl, rfl⟩) | (go_at_call 25; refine (HU.out _).mono ?_; rintro e w' ⟨rfl, q2, rfl⟩) | (go_at_call 19; with_reducible refine (HP1.out _).mono ?_; rintro e w' ⟨rfl, rfl⟩) | (go_at_call 19; with_reducible refine (HP2.out _).mono ?_; rintro e w' ⟨rfl, rfl⟩) | (go_at_call 26; refine (impl_Bezout_zero _ _ (by omega) (by omega)).mono ?_; rintro e w' ⟨rfl, q3, rfl⟩))
          go_ret
          exact ⟨rfl, by first | exact below_drewN' HB.out _ | exact below_drewN' (below_drewN' HB.out _) _ | exact below_drewN' (below_drewN' (below_drewN' HB.out _) _) _⟩
        · have hxn : x ≠ 0 := hm1x hm1
          obtain ⟨z0, z1, z2, z3, z4, z5⟩ := bez_fin (m := m) (x := x) (by omega) hx1 h4 (hg2 hxn)
          have HBz : Hid (∀ w, Calls Try.prog 26 #[.int .i64 m, .int .i64 x] w fun r w' => r = .returned (.tuple #[.int .i64 1, .int .i64 (bezX m x), .int .i64 (((Int.gcd m x : Int) - m * bezX m x).tdiv x), .int .i64 0]) ∧ ∃ n, w' = w.drewN n) := Lib.hid (fun w => by
            have h := impl_Bezout_ok m x w (by omega) (by omega) (by omega) (by omega) hxn
            rw [z5] at h ⊢
            exact h)
          have z6 : x * (((Int.gcd m x : Int) - m * bezX m x).tdiv x) = 1 - m * bezX m x := by omega
          generalize ((Int.gcd m x : Int) - m * bezX m x).tdiv x = V at *
          generalize bezX m x = U at *
          have W1 : IntKind.i64.wrap (m * U) = m * U := IntWalk.i64_in _ (by omega)
          have W2 : IntKind.i64.wrap (x * V) = x * V := IntWalk.i64_in _ (by omega)
          have W3 : (m * U + x * V == 1) = true := beq_iff_eq.2 z2
          have W4 : IntKind.i64.wrap (m * U + x * V) = 1 := by rw [z2]; rfl
          have y1 : (m == 1) = false := beq_eq_false_iff_ne.2 hm1
          clear hg2 z5 hm1 hxn
          go_wp2_with (first | (go_at_call 23; refine (HM1.out _).mono ?_; rintro e w' ⟨rfl, q1, rfl⟩) | (go_at_call 24; refine (HM2.out _).mono ?_; rintro e w' ⟨rfl, rfl⟩) | (go_at_call 25; refine (HU.out _).mono ?_; rintro e w' ⟨rfl, q2, rfl⟩) | (go_at_call 19; with_reducible refine (HP1.out _).mono ?_; rintro e w' ⟨rfl, rfl⟩) | (go_at_call 19; with_reducible refine (HP2.out _).mono ?_; rintro e w' ⟨rfl, rfl⟩) | (go_at_call 26; refine (HBz.out _).mono ?_; rintro e w' ⟨rfl, q3, rfl⟩))
          go_ret
          exact ⟨rfl, by first | exact below_drewN' HB.out _ | exact below_drewN' (below_drewN' HB.out _) _ | exact below_drewN' (below_drewN' (below_drewN' HB.out _) _) _⟩
      · have Hg := Lib.hid hg
        clear hg
        go_wp2_with (first | (go_at_call 23; refine (impl_ModInverse_no _ _ _ h1 h2 h3 h4 Hg.out).mono ?_; rintro e w' ⟨rfl, n1, rfl⟩) | (go_at_call 24; refine (spec_ModInverse_no _ _ _ h1 h2 h3 h4 Hg.out).mono ?_; rintro e w' ⟨rfl, rfl⟩) | (go_at_call 25; refine (impl_UnitOrder_no _ _ _ h1 h2 h3 h4 Hg.out).mono ?_; rintro e w' ⟨rfl, n2, rfl⟩))
        go_ret
        exact ⟨rfl, by first | exact HB.out | exact below_drewN' HB.out _ | exact below_drewN' (below_drewN' HB.out _) _⟩
end Go.Proofs.Ytkidohohiihbaaa
