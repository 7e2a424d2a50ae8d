/- Lists of integers compared in lexicographic order; the library's slices.Compare. -/
import Derived.Test.YtpkdgemnddcefaaBox
import Derived.Test.YtpkdgemnddcefaaList
import Derived.StillTailTactics
set_option linter.unusedVariables false
set_option linter.unusedSimpArgs false
namespace Go.Proofs.Ytpkdgemnddcefaa
open Go.RowKit
def cmpI (x y : Int) : Int := if x < y then -1 else if y < x then 1 else 0
theorem compare_any (x y : Int) (w : World) :
    Calls Try.prog 99 #[.int .i64 x, .int .i64 y] w fun e w' => e = .returned (.int .i64 (cmpI x y)) ∧ w = w' := by
  have h1 : (x != x) = false := by simp
  have h2 : (y != y) = false := by simp
  by_cases hlt : x < y
  · have d1 : decide (x < y) = true := decide_eq_true hlt
    go_enter Try.func99, Try.ntmps99
    go_wp2
    go_ret
    exact ⟨by simp [cmpI, hlt], rfl⟩
  · have d1 : decide (x < y) = false := decide_eq_false hlt
    by_cases hgt : y < x
    · have d2 : decide (y < x) = true := decide_eq_true hgt
      go_enter Try.func99, Try.ntmps99
      go_wp2
      go_ret
      exact ⟨by simp [cmpI, hlt, hgt], rfl⟩
    · have d2 : decide (y < x) = false := decide_eq_false hgt
      rw [show cmpI x y = 0 by unfold cmpI; rw [if_neg hlt, if_neg hgt]]
      go_enter Try.func99, Try.ntmps99
      go_wp2
      go_ret
      exact ⟨rfl, rfl⟩
/-! ### lexicographic order -/
def cmpL : List Int → List Int → Int
  | [], [] => 0
  | [], _ :: _ => -1
  | _ :: _, [] => 1
  | x :: xs, y :: ys => if cmpI x y = 0 then cmpL xs ys else cmpI x y
theorem cmpL_lt {x y : Int} (xs ys : List Int) (h : x < y) : cmpL (x :: xs) (y :: ys) = -1 := by
  have e : cmpI x y = -1 := by unfold cmpI; rw [if_pos h]
  unfold cmpL; rw [e]; rfl
theorem cmpL_gt {x y : Int} (xs ys : List Int) (h : y < x) : cmpL (x :: xs) (y :: ys) = 1 := by
  have e : cmpI x y = 1 := by unfold cmpI; rw [if_neg (by omega), if_pos h]
  unfold cmpL; rw [e]; rfl
theorem cmpL_eq (x : Int) (xs ys : List Int) : cmpL (x :: xs) (x :: ys) = cmpL xs ys := by
  have e : cmpI x x = 0 := by unfold cmpI; rw [if_neg (by omega), if_neg (by omega)]
  rw [cmpL, if_pos e]
theorem cmpL_self : ∀ xs : List Int, cmpL xs xs = 0
  | [] => rfl
  | x :: xs => by rw [cmpL_eq, cmpL_self xs]
theorem cmpL_trans : ∀ xs ys zs : List Int, cmpL xs ys < 0 → cmpL ys zs < 0 → cmpL xs zs < 0
  | [], [], _, h, _ => absurd h (by simp [cmpL])
  | [], _ :: _, [], _, h => absurd h (by simp [cmpL])
  | [], _ :: _, _ :: _, _, _ => by simp [cmpL]
  | _ :: _, [], _, h, _ => absurd h (by simp [cmpL])
  | _ :: _, _ :: _, [], _, h => absurd h (by simp [cmpL])
  | x :: xs, y :: ys, z :: zs, h1, h2 => by
    rcases Int.lt_trichotomy x y with h | h | h
    · rcases Int.lt_trichotomy y z with k | k | k
      · rw [cmpL_lt _ _ (show x < z by omega)]; decide
      · rw [cmpL_lt _ _ (show x < z by omega)]; decide
      · rw [cmpL_gt _ _ k] at h2; omega
    · subst h
      rcases Int.lt_trichotomy x z with k | k | k
      · rw [cmpL_lt _ _ k]; decide
      · subst k
        rw [cmpL_eq] at h1 h2 ⊢
        exact cmpL_trans xs ys zs h1 h2
      · rw [cmpL_gt _ _ k] at h2; omega
    · rw [cmpL_gt _ _ h] at h1; omega
theorem cmpL_ntrans : ∀ xs ys zs : List Int, ¬ cmpL xs ys < 0 → ¬ cmpL ys zs < 0 → ¬ cmpL xs zs < 0
  | [], [], [], _, _ => by simp [cmpL]
  | [], [], _ :: _, _, h => absurd (by simp [cmpL]) h
  | [], _ :: _, _, h, _ => absurd (by simp [cmpL]) h
  | _ :: _, [], [], _, _ => by simp [cmpL]
  | _ :: _, [], _ :: _, _, h => absurd (by simp [cmpL]) h
  | _ :: _, _ :: _, [], _, _ => by simp [cmpL]
  | x :: xs, y :: ys, z :: zs, h1, h2 => by
    rcases Int.lt_trichotomy x y with h | h | h
    · rw [cmpL_lt _ _ h] at h1; omega
    · subst h
      rcases Int.lt_trichotomy x z with k | k | k
      · rw [cmpL_lt _ _ k] at h2; omega
      · subst k
        rw [cmpL_eq] at h1 h2 ⊢
        exact cmpL_ntrans xs ys zs h1 h2
      · rw [cmpL_gt _ _ k]; decide
    · rcases Int.lt_trichotomy y z with k | k | k
      · rw [cmpL_lt _ _ k] at h2; omega
      · rw [cmpL_gt _ _ (show z < x by omega)]; decide
      · rw [cmpL_gt _ _ (show z < x by omega)]; decide
theorem cmpL_rng : ∀ xs ys : List Int, -1 ≤ cmpL xs ys ∧ cmpL xs ys ≤ 1
  | [], [] => by simp [cmpL]
  | [], _ :: _ => by simp [cmpL]
  | _ :: _, [] => by simp [cmpL]
  | x :: xs, y :: ys => by
    rcases Int.lt_trichotomy x y with h | h | h
    · rw [cmpL_lt _ _ h]; decide
    · subst h; rw [cmpL_eq]; exact cmpL_rng xs ys
    · rw [cmpL_gt _ _ h]; decide
theorem drop_el {xs : List Int} {k : Nat} (h : k < xs.length) : xs.drop k = el xs k :: xs.drop (k + 1) := by
  rw [el_eq h]; exact List.drop_eq_getElem_cons h
theorem cmpI_ne {x y : Int} (h : cmpI x y ≠ 0) (xs ys : List Int) : cmpL (x :: xs) (y :: ys) = cmpI x y := by unfold cmpL; rw [if_neg h]
theorem cmpI_z {x y : Int} (h : cmpI x y = 0) (xs ys : List Int) : cmpL (x :: xs) (y :: ys) = cmpL xs ys := by rw [cmpL, if_pos h]
set_option maxHeartbeats 1000000 in
theorem compareL_any (a b : Option Addr) (n m ca cb : Nat) (xs ys : List Int) (w : World) (ha : RdI w a xs) (hb : RdI w b ys) (hn : xs.length = n) (hm : ys.length = m) (h1 : n ≤ 1048576) (h2 : m ≤ 1048576) :
    Calls Try.prog 76 #[.slice a n ca, .slice b m cb] w fun e w' => e = .returned (.int .i64 (cmpL xs ys)) ∧ w = w' := by
  have HA := Lib.hid ha
  have HB := Lib.hid hb
  have HN := Lib.hid hn
  have HM := Lib.hid hm
  clear ha hb hn hm
  go_enter Try.func76, Try.ntmps76
  go_wp2
  go_loop [11] (fun i => ∃ k : Nat, k ≤ n ∧ k ≤ m ∧ i = .int .i64 k ∧ cmpL (xs.drop k) (ys.drop k) = cmpL xs ys) (fun i => n - (intOf i).toNat)
  case atStart => exact ⟨0, Nat.zero_le _, Nat.zero_le _, rfl, rfl⟩
  case round =>
    obtain ⟨k, hk, hkm, rfl, hc⟩ := hrel
    by_cases hlt : k < n
    · obtain ⟨b1, o1, rfl, c1⟩ := rdI_at HA.out (show k < xs.length by rw [HN.out]; exact hlt)
      by_cases hmt : k < m
      · obtain ⟨b2, o2, rfl, c2⟩ := rdI_at HB.out (show k < ys.length by rw [HM.out]; exact hmt)
        rw [drop_el (xs := xs) (k := k) (by rw [HN.out]; exact hlt), drop_el (xs := ys) (k := k) (by rw [HM.out]; exact hmt)] at hc
        obtain ⟨x, hx⟩ : ∃ x, x = el xs k := ⟨_, rfl⟩
        obtain ⟨y, hy⟩ : ∃ y, y = el ys k := ⟨_, rfl⟩
        rw [← hx, ← hy] at hc
        rw [← hx] at c1
        rw [← hy] at c2
        have HC := Lib.hid hc
        clear hc hx hy
        have g1 : ¬ (m : Int) ≤ (k : Int) := by omega
        have g2 : decide ((m : Int) ≤ (k : Int)) = false := decide_eq_false g1
        have g3 : decide (m ≤ k) = false := decide_eq_false (by omega)
        by_cases hz : cmpI x y = 0
        · have HZ : Hid (cmpI x y = 0) := Lib.hid hz
          obtain ⟨z, hzz⟩ : ∃ z, z = cmpI x y := ⟨_, rfl⟩
          have HZZ := Lib.hid hzz
          have z0 : z = 0 := by rw [hzz]; exact hz
          clear hz hzz
          go_wp2_with (go_at_call 99; refine (compare_any x y _).mono ?_; rintro e w' ⟨rfl, rfl⟩; rw [HZ.out])
          go_round
          case rel => exact ⟨k + 1, by omega, by omega, by go_num, by rw [← HC.out, cmpI_z HZ.out]⟩
          case measure => simp [intOf]; omega
        · have HZ := Lib.hid hz
          obtain ⟨z, hzz⟩ : ∃ z, z = cmpI x y := ⟨_, rfl⟩
          have HZZ := Lib.hid hzz
          have z0 : (z == 0) = false := by rw [hzz]; exact beq_eq_false_iff_ne.2 hz
          have z1 : (z != 0) = true := by rw [hzz]; simp [hz]
          have z2 : ¬ z = 0 := by rw [hzz]; exact hz
          clear hz hzz
          go_wp2_with (go_at_call 99; refine (compare_any x y _).mono ?_; rintro e w' ⟨rfl, rfl⟩; rw [← HZZ.out])
          go_ret
          exact ⟨by rw [← HC.out, cmpI_ne HZ.out, HZZ.out]; rfl, rfl⟩
      · have g1 : (m : Int) ≤ (k : Int) := by omega
        have g2 : decide ((m : Int) ≤ (k : Int)) = true := decide_eq_true g1
        have g3 : decide (m ≤ k) = true := decide_eq_true (by omega)
        have HC : Hid (cmpL xs ys = 1) := Lib.hid (by
          rw [← hc, drop_el (xs := xs) (k := k) (by rw [HN.out]; exact hlt), List.drop_eq_nil_of_le (show ys.length ≤ k by rw [HM.out]; omega)]; rfl)
        clear hc
        go_wp2_with fail
        go_ret
        exact ⟨by rw [HC.out]; rfl, rfl⟩
    · have hkn : k = n := by omega
      have HC : Hid (cmpL xs ys = if n < m then -1 else 0) := Lib.hid (by
        rw [← hc, List.drop_eq_nil_of_le (show xs.length ≤ k by rw [HN.out]; omega)]
        by_cases h : n < m
        · rw [if_pos h, drop_el (xs := ys) (k := k) (by rw [HM.out]; omega)]; rfl
        · rw [if_neg h, List.drop_eq_nil_of_le (show ys.length ≤ k by rw [HM.out]; omega)]; rfl)
      clear hc hkn
      by_cases h : n < m
      · have g1 : (n : Int) < m := by omega
        have g2 : decide ((n : Int) < m) = true := decide_eq_true g1
        have g3 : decide (n < m) = true := decide_eq_true h
        go_wp2_with fail
        go_ret
        exact ⟨by rw [HC.out, if_pos h]; rfl, rfl⟩
      · have g1 : ¬ (n : Int) < m := by omega
        have g2 : decide ((n : Int) < m) = false := decide_eq_false g1
        have g3 : decide (n < m) = false := decide_eq_false h
        go_wp2_with fail
        go_ret
        exact ⟨by rw [HC.out, if_neg h]; rfl, rfl⟩
end Go.Proofs.Ytpkdgemnddcefaa
