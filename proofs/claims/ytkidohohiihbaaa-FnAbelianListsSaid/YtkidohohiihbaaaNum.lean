/- Contracts of the program's and the reference's functions on single numbers. -/
import Derived.Test.YtkidohohiihbaaaProg
import Derived.Test.YtkidohohiihbaaaArith
import Derived.WalkKit
import Derived.WalkSpells
import Derived.WalkLawsBesides
import Derived.Deep.QuietTactic
import Derived.Deep.Draws
import Derived.BigQuiet
import Derived.Lib.Hide
set_option linter.unusedVariables false
set_option linter.unusedSimpArgs false
namespace Go.Proofs.Ytkidohohiihbaaa
open Go.RowKit

theorem ret_int {k : IntKind} {a b : Int} (h : a = b) : Ending.returned (.int k a) = .returned (.int k b) := by rw [h]
theorem ret_ib {k : IntKind} {a b : Int} {s t : Bool} (h : a = b) (h2 : s = t) : Ending.returned (.tuple #[.int k a, .bool s]) = .returned (.tuple #[.int k b, .bool t]) := by rw [h, h2]
theorem ret_ii {k l : IntKind} {a b c d : Int} (h : a = b) (h2 : c = d) : Ending.returned (.tuple #[.int k a, .int l c]) = .returned (.tuple #[.int k b, .int l d]) := by rw [h, h2]

theorem quiet_eq {P : Program} {f : FuncId} {args : Array Value} {w : World} {n : Nat} {v : Value} (h : Calls P f args (w.drewN n) fun e w' => e = .returned v ∧ w.drewN n = w') : Calls P f args (w.drewN n) fun e w'' => e = .returned v ∧ ∃ m, w'' = w.drewN m :=
  h.mono fun _ _ ⟨he, hm⟩ => ⟨he, n, hm.symm⟩
/-- a 64-bit integer -/
def I64 (a : Int) : Prop := -9223372036854775808 ≤ a ∧ a ≤ 9223372036854775807
theorem wf_bd {a : Int} (h : (Lit.int .i64 a).wf = true) : I64 a := by
  simp [Lit.wf, IntKind.min, IntKind.max, IntKind.signed, IntKind.bits] at h
  unfold I64
  omega

set_option maxHeartbeats 400000 in
theorem abs_any (a : Int) (w : World) (h1 : -9223372036854775807 ≤ a) (h2 : a ≤ 9223372036854775807) :
    Calls Try.prog 92 #[.int .i64 a] w fun e w' => e = .returned (.int .i64 (max a (-a))) ∧ w = w' := by
  go_enter Try.func92, Try.ntmps92
  go_wp2
  all_goals
    go_ret
    exact ⟨ret_int (by omega), rfl⟩

set_option maxHeartbeats 400000 in
theorem sign_any (a : Int) (w : World) (h1 : -9223372036854775808 ≤ a) (h2 : a ≤ 9223372036854775807) :
    Calls Try.prog 91 #[.int .i64 a] w fun e w' => e = .returned (.int .i64 a.sign) ∧ w = w' := by
  have h3 : a < 0 ∨ a = 0 ∨ 0 < a := by omega
  rcases h3 with h3 | h3 | h3
  · have hs := Lib.hid (Int.sign_eq_neg_one_of_neg h3)
    go_enter Try.func91, Try.ntmps91
    go_wp2
    go_ret
    exact ⟨ret_int hs.out.symm, rfl⟩
  · subst h3
    go_enter Try.func91, Try.ntmps91
    go_wp2
    go_ret
    exact ⟨ret_int rfl, rfl⟩
  · have hs := Lib.hid (Int.sign_eq_one_of_pos h3)
    go_enter Try.func91, Try.ntmps91
    go_wp2
    go_ret
    exact ⟨ret_int hs.out.symm, rfl⟩

set_option maxHeartbeats 400000 in
theorem residue_any (a m : Int) (w : World) (h1 : -9223372036854775808 ≤ a) (h2 : a ≤ 9223372036854775807) (h3 : 1 ≤ m) (h4 : m ≤ 4611686018427387904) :
    Calls Try.prog 84 #[.int .i64 a, .int .i64 m] w fun e w' => e = .returned (.int .i64 (a % m)) ∧ w = w' := by
  obtain ⟨h5, h6⟩ := tmod_bd a m h3
  go_enter Try.func84, Try.ntmps84
  go_wp2
  go_ret
  exact ⟨ret_int (tmod_res a m h3), rfl⟩

set_option maxHeartbeats 400000 in
theorem l01Mod_any (a m : Int) (w : World) (h1 : -9223372036854775808 ≤ a) (h2 : a ≤ 9223372036854775807) (h3 : 1 ≤ m) (h4 : m ≤ 4611686018427387904) :
    Calls Try.prog 86 #[.int .i64 a, .int .i64 m] w fun e w' => e = .returned (.int .i64 (a % m)) ∧ w = w' := by
  obtain ⟨h5, h6⟩ := tmod_bd a m h3
  rcases tmod_alt a m h3 with ⟨h7, h8⟩ | ⟨h7, h8⟩
  all_goals
    have H8 := Lib.hid h8
    clear h8
    go_enter Try.func86, Try.ntmps86
    go_wp2
    go_ret
    exact ⟨ret_int (by have := H8.out; omega), rfl⟩

set_option maxHeartbeats 400000 in
theorem gcd_any (a b : Int) (w : World) (h3 : -4611686018427387904 ≤ a) (h4 : -4611686018427387904 ≤ b) (h5 : a ≤ 4611686018427387904) (h6 : b ≤ 4611686018427387904) :
    Calls Try.prog 90 #[.int .i64 a, .int .i64 b] w fun e w' => e = .returned (.int .i64 (Int.gcd a b)) ∧ ∃ n, w' = w.drewN n := by
  go_enter Try.func90, Try.ntmps90
  go_wp2
  go_loopw [0, 1] (fun u v wr => ∃ x y : Int, u = .int .i64 x ∧ v = .int .i64 y ∧ Int.gcd x y = Int.gcd a b ∧ -4611686018427387904 ≤ x ∧ x ≤ 4611686018427387904 ∧  -4611686018427387904 ≤ y ∧ y ≤ 4611686018427387904 ∧ ∃ n, wr = w.drewN n)
    (fun _ v _ => (intOf v).natAbs)
  case atStart => exact ⟨a, b, rfl, rfl, rfl, h3, h5, h4, h6, 0, rfl⟩
  case round =>
    obtain ⟨x, y, rfl, rfl, hg, h7, h8, h9, h10, n, rfl⟩ := hrel
    have Hg := Lib.hid hg
    clear hg
    by_cases hy : y = 0
    · obtain rfl := hy
      go_wp2_with (go_at_call 92; refine (abs_any _ _ (by omega) (by omega)).mono ?_; rintro e w' ⟨rfl, rfl⟩)
      go_ret
      exact ⟨ret_int (by rw [← Hg.out]; simp; omega), n, rfl⟩
    · have hb := tmod_abs_le x y 4611686018427387904 hy h9 h10
      go_wp2
      go_quiet (fail)
      go_wp2
      go_roundw
      case rel => exact ⟨y, x.tmod y, rfl, rfl, by rw [gcd_tmod]; exact Hg.out, h9, h10, hb.1, hb.2, n + nq, by simp⟩
      case measure => exact natAbs_tmod_lt x y hy

set_option maxHeartbeats 400000 in
theorem l04Gcd_any (a b : Int) (w : World) (h3 : -4611686018427387904 ≤ a) (h4 : -4611686018427387904 ≤ b) (h5 : a ≤ 4611686018427387904) (h6 : b ≤ 4611686018427387904) :
    Calls Try.prog 97 #[.int .i64 a, .int .i64 b] w fun e w' => e = .returned (.int .i64 (Int.gcd a b)) ∧ ∃ n, w' = w.drewN n := by
  go_enter Try.func97, Try.ntmps97
  go_wp2
  go_loopw [0, 1] (fun u v wr => ∃ x y : Int, u = .int .i64 x ∧ v = .int .i64 y ∧ Int.gcd x y = Int.gcd a b ∧ -4611686018427387904 ≤ x ∧ x ≤ 4611686018427387904 ∧  -4611686018427387904 ≤ y ∧ y ≤ 4611686018427387904 ∧ ∃ n, wr = w.drewN n)
    (fun _ v _ => (intOf v).natAbs)
  case atStart => exact ⟨a, b, rfl, rfl, rfl, h3, h5, h4, h6, 0, rfl⟩
  case round =>
    obtain ⟨x, y, rfl, rfl, hg, h7, h8, h9, h10, n, rfl⟩ := hrel
    have Hg := Lib.hid hg
    clear hg
    by_cases hy : y = 0
    · obtain rfl := hy
      go_wp2
      all_goals
        go_ret
        exact ⟨ret_int (by rw [← Hg.out]; simp; omega), n, rfl⟩
    · have hb := tmod_abs_le x y 4611686018427387904 hy h9 h10
      go_wp2
      go_quiet (fail)
      go_wp2
      go_roundw
      case rel => exact ⟨y, x.tmod y, rfl, rfl, by rw [gcd_tmod]; exact Hg.out, h9, h10, hb.1, hb.2, n + nq, by simp⟩
      case measure => exact natAbs_tmod_lt x y hy

set_option maxHeartbeats 400000 in
theorem l01Gcd_any (a b : Int) (w : World) (h3 : 0 ≤ a) (h4 : 0 ≤ b) (h5 : a ≤ 4611686018427387904) (h6 : b ≤ 4611686018427387904) :
    Calls Try.prog 87 #[.int .i64 a, .int .i64 b] w fun e w' => e = .returned (.int .i64 (Int.gcd a b)) ∧ w = w' := by
  go_enter Try.func87, Try.ntmps87
  go_wp2
  go_loop [0, 1] (fun u v => ∃ x y : Int, u = .int .i64 x ∧ v = .int .i64 y ∧ Int.gcd x y = Int.gcd a b ∧ 0 ≤ x ∧ x ≤ 4611686018427387904 ∧ 0 ≤ y ∧ y ≤ 4611686018427387904)
    (fun _ v => (intOf v).natAbs)
  case atStart => exact ⟨a, b, rfl, rfl, rfl, h3, h5, h4, h6⟩
  case round =>
    obtain ⟨x, y, rfl, rfl, hg, h7, h8, h9, h10⟩ := hrel
    have Hg := Lib.hid hg
    clear hg
    by_cases hy : y = 0
    · obtain rfl := hy
      go_wp2
      go_ret
      exact ⟨ret_int (by rw [← Hg.out]; simp; omega), rfl⟩
    · have hb := emod_bd x y (by omega)
      go_wp2
      go_round
      case rel => exact ⟨y, x % y, rfl, rfl, by rw [← Hg.out, ← gcd_tmod x y, Int.tmod_eq_emod_of_nonneg h7], h9, h10, hb.1, by omega⟩
      case measure => simp [intOf]; omega

set_option maxHeartbeats 400000 in
theorem powerMod_any (b : Int) (e : Nat) (m : Int) (w : World) (h1 : 0 ≤ b) (h2 : b < m) (h3 : 1 ≤ m) (h4 : m ≤ 1000000) (h5 : e ≤ 1000000) :
    Calls Try.prog 83 #[.int .i64 b, .int .i64 e, .int .i64 m] w fun r w' => r = .returned (.int .i64 (b ^ e % m)) ∧ w = w' := by
  have h1m := emod_bd 1 m h3
  go_enter Try.func83, Try.ntmps83
  go_wp2
  go_loop [0, 1, 7] (fun u v o => ∃ (x : Int) (k : Nat) (y : Int), u = .int .i64 x ∧ v = .int .i64 k ∧ o = .int .i64 y ∧ y * x ^ k % m = b ^ e % m ∧ 0 ≤ x ∧ x < m ∧ 0 ≤ y ∧ y < m ∧ k ≤ 1000000)
    (fun _ v _ => (intOf v).natAbs)
  case atStart => exact ⟨b, e, 1 % m, rfl, rfl, rfl, by rw [mul_emod_l, Int.one_mul], h1, h2, h1m.1, h1m.2, h5⟩
  case round =>
    obtain ⟨x, k, y, rfl, rfl, rfl, hg, h6, h7, h8, h9, h10⟩ := hrel
    have Hg := Lib.hid hg
    clear hg h1m
    obtain ⟨p1, p2⟩ := mul_bd h6 (show x ≤ 1000000 by omega) h6 (show x ≤ 1000000 by omega)
    obtain ⟨p3, p4⟩ := mul_bd h8 (show y ≤ 1000000 by omega) h6 (show x ≤ 1000000 by omega)
    have q1 := emod_bd (x * x) m h3
    have q2 := emod_bd (y * x) m h3
    by_cases hk : k = 0
    · obtain rfl := hk
      go_wp2
      go_ret
      exact ⟨ret_int (by rw [← Hg.out]; simp; exact (Int.emod_eq_of_lt h8 h9).symm), rfl⟩
    · by_cases ho : k % 2 = 1
      · have Ho := Lib.hid ho
        have ho' : ((k : Int) % 2 == 1) = true := beq_iff_eq.2 (by omega)
        clear ho
        go_wp2
        go_round
        case rel => exact ⟨x * x % m, k / 2, y * x % m, rfl, by go_num, rfl, by rw [← Hg.out, pow_step_odd _ _ _ _ Ho.out], q1.1, q1.2, q2.1, q2.2, by omega⟩
        case measure => simp [intOf]; omega
      · have Ho : Hid (k % 2 = 0) := Lib.hid (by omega)
        have ho' : ((k : Int) % 2 == 1) = false := beq_eq_false_iff_ne.2 (by omega)
        clear ho
        go_wp2
        go_round
        case rel => exact ⟨x * x % m, k / 2, y, rfl, by go_num, rfl, by rw [← Hg.out, pow_step_even _ _ _ _ Ho.out], q1.1, q1.2, h8, h9, by omega⟩
        case measure => simp [intOf]; omega


set_option maxHeartbeats 400000 in
theorem inverseMod_any (a m : Int) (w : World) (h1 : 0 ≤ a) (h2 : a < m) (h3 : m ≤ 1000000000) :
    Calls Try.prog 85 #[.int .i64 a, .int .i64 m] w fun e w' => ∃ x, e = .returned (.tuple #[.int .i64 x, .bool (Int.gcd a m == 1)]) ∧ (Int.gcd a m = 1 → IsInv a m x) ∧ ∃ n, w' = w.drewN n := by
  go_enter Try.func85, Try.ntmps85
  go_wp2
  go_loopw [6, 7, 8, 9] (fun r s x y wr => ∃ (r' s' x' y' : Int), r = .int .i64 r' ∧ s = .int .i64 s' ∧ x = .int .i64 x' ∧ y = .int .i64 y' ∧ Eucl a m r' s' x' y' ∧ ∃ n, wr = w.drewN n)
    (fun _ s _ _ _ => (intOf s).natAbs)
  case atStart => exact ⟨m, a, 0, 1, rfl, rfl, rfl, rfl, Eucl.start h1 h2, 0, rfl⟩
  case round =>
    obtain ⟨r, s, x, y, rfl, rfl, rfl, rfl, hE, n, rfl⟩ := hrel
    obtain ⟨b1, b2, b3, b4⟩ : 1 ≤ r ∧ 0 ≤ s ∧ r ≤ m ∧ s ≤ m := ⟨hE.r1, hE.s0, hE.rm, hE.sm⟩
    obtain ⟨b5, b6⟩ : -m ≤ x ∧ x ≤ m := ⟨hE.xl, hE.xh⟩
    have HE := Lib.hid hE
    clear hE
    by_cases hs : s = 0
    · obtain rfl := hs
      have hr := HE.out.fin
      by_cases h11 : r = 1
      · subst h11
        have hg1 : Int.gcd a m = 1 := by omega
        have Hg := Lib.hid hg1
        clear hg1 hr
        go_wp2_with (go_at_call 84; refine (residue_any _ _ _ (by omega) (by omega) (by omega) (by omega)).mono ?_; rintro e w' ⟨rfl, rfl⟩)
        go_ret2
        exact ⟨x % m, ret_ib rfl (by rw [Hg.out]; rfl), fun _ => HE.out.inv (by omega), n, rfl⟩
      · have hg1 : Int.gcd a m ≠ 1 := by omega
        have Hg := Lib.hid hg1
        have hr' : (r == 1) = false := beq_eq_false_iff_ne.2 h11
        clear hg1 hr
        go_wp2_with (go_at_call 84; refine (residue_any _ _ _ (by omega) (by omega) (by omega) (by omega)).mono ?_; rintro e w' ⟨rfl, rfl⟩)
        go_ret2
        exact ⟨x % m, ret_ib rfl (by rw [beq_eq_false_iff_ne.2 Hg.out]), fun h => absurd h Hg.out, n, rfl⟩
    · have hS := HE.out.step hs
      obtain ⟨c1, c2, c3, c4, c5, c6⟩ := HE.out.qb hs
      have hyb := HE.out.yb
      have Hmeas : Hid (r - r / s * s < s ∧ 0 ≤ r - r / s * s) := by
        have hm : r - r / s * s = r % s := by have := Int.emod_add_mul_ediv r s; rw [Int.mul_comm] at this; omega
        have := emod_bd r s (by omega)
        exact Lib.hid (by omega)
      have HS := Lib.hid hS
      clear hS
      go_wp2
      go_roundw
      case rel => exact ⟨_, _, _, _, rfl, rfl, rfl, rfl, HS.out, n, rfl⟩
      case measure => have := Hmeas.out; simp [intOf]; omega

theorem Eucl.bez {a m r x y : Int} (h : Eucl a m r 0 x y) (hm : 1 ≤ m) : IsInv (a / r) (m / r) (x % (m / r)) := by
  have hr := h.fin
  have hr1 := h.r1
  have d1 : r ∣ a := by rw [hr]; exact Int.gcd_dvd_left _ _
  have d2 : r ∣ m := by rw [hr]; exact Int.gcd_dvd_right _ _
  obtain ⟨u, hu⟩ := d1
  obtain ⟨v, hv⟩ := d2
  have e1 : a / r = u := by rw [hu, Int.mul_ediv_cancel_left _ (by omega)]
  have e2 : m / r = v := by rw [hv, Int.mul_ediv_cancel_left _ (by omega)]
  have hv1 : 1 ≤ v := by
    have h3 : 0 < r * v := by omega
    have := Int.pos_of_mul_pos_right h3 (by omega)
    omega
  rw [e1, e2]
  have hb := emod_bd x v hv1
  refine ⟨hb.1, hb.2, ?_⟩
  have h5 : v ∣ u * x - 1 := by
    obtain ⟨k, hk⟩ := h.dx
    refine ⟨k, ?_⟩
    refine Int.eq_of_mul_eq_mul_left (a := r) (by omega) ?_
    rw [hu, hv] at hk
    rw [Int.mul_sub, Int.mul_one, ← Int.mul_assoc, ← Int.mul_assoc]
    exact hk
  have h1 := Int.dvd_add (dvdR (dvd_emod_sub (m := v) (a := x)) u) h5
  have : u * (x % v - x) + (u * x - 1) = u * (x % v) - 1 := by rw [Int.mul_sub]; omega
  rwa [this] at h1

set_option maxHeartbeats 400000 in
theorem l01Bezout_any (a m : Int) (w : World) (h1 : 0 ≤ a) (h2 : a < m) (h3 : m ≤ 1000000000) :
    Calls Try.prog 88 #[.int .i64 a, .int .i64 m] w fun e w' => ∃ x, e = .returned (.int .i64 x) ∧ IsInv (a / Int.gcd a m) (m / Int.gcd a m) x ∧ w = w' := by
  go_enter Try.func88, Try.ntmps88
  go_wp2
  go_loop [5, 6, 7, 8] (fun r s x y => ∃ (r' s' x' y' : Int), r = .int .i64 r' ∧ s = .int .i64 s' ∧ x = .int .i64 x' ∧ y = .int .i64 y' ∧ Eucl a m r' s' x' y')
    (fun _ s _ _ => (intOf s).natAbs)
  case atStart => exact ⟨m, a, 0, 1, rfl, rfl, rfl, rfl, Eucl.start h1 h2⟩
  case round =>
    obtain ⟨r, s, x, y, rfl, rfl, rfl, rfl, hE⟩ := hrel
    obtain ⟨b1, b2, b3, b4⟩ : 1 ≤ r ∧ 0 ≤ s ∧ r ≤ m ∧ s ≤ m := ⟨hE.r1, hE.s0, hE.rm, hE.sm⟩
    obtain ⟨b5, b6⟩ : -m ≤ x ∧ x ≤ m := ⟨hE.xl, hE.xh⟩
    have HE := Lib.hid hE
    clear hE
    by_cases hs : s = 0
    · obtain rfl := hs
      have hB := HE.out.bez (by omega)
      have Hr := Lib.hid HE.out.fin
      have hq1 : 1 ≤ m / r := by
        have := hB.1; have := hB.2.1; omega
      have hq2 : m / r ≤ m := Int.ediv_le_self _ (by omega)
      have HB := Lib.hid hB
      clear hB
      go_wp2_with (go_at_call 86; refine (l01Mod_any _ _ _ (by omega) (by omega) (by omega) (by omega)).mono ?_; rintro e w' ⟨rfl, rfl⟩)
      go_ret
      exact ⟨x % (m / r), rfl, by rw [← Hr.out]; exact HB.out, rfl⟩
    · have hS := HE.out.step hs
      obtain ⟨c1, c2, c3, c4, c5, c6⟩ := HE.out.qb hs
      have hyb := HE.out.yb
      have Hmeas : Hid (r - r / s * s < s ∧ 0 ≤ r - r / s * s) := by
        have hm : r - r / s * s = r % s := by have := Int.emod_add_mul_ediv r s; rw [Int.mul_comm] at this; omega
        have := emod_bd r s (by omega)
        exact Lib.hid (by omega)
      have HS := Lib.hid hS
      clear hS
      go_wp2
      go_round
      case rel => exact ⟨_, _, _, _, rfl, rfl, rfl, rfl, HS.out⟩
      case measure => have := Hmeas.out; simp [intOf]; omega

theorem inv_test {a p x : Int} (h0 : 0 ≤ x) (h1 : x < p) (h2 : 2 ≤ p) : IsInv a p x ↔ a % p * x % p = 1 := by
  have he : (a * x - 1) % p = 0 ↔ (a * x) % p = 1 := by
    have := emod_bd (a * x) p (by omega)
    constructor
    · intro h
      have h4 := Int.emod_emod_of_dvd (a * x) (Int.dvd_refl p)
      have h5 : (a * x) % p = ((a * x - 1) % p + 1 % p) % p := by rw [← Int.add_emod]; congr 1; omega
      rw [h, Int.emod_eq_of_lt (show (0:Int) ≤ 1 by omega) (by omega)] at h5
      simp at h5
      rw [Int.emod_eq_of_lt (show (0:Int) ≤ 1 by omega) (by omega)] at h5
      exact h5
    · intro h
      have h5 : (a * x - 1) % p = ((a * x) % p - 1 % p) % p := by rw [← Int.sub_emod]
      rw [h, Int.emod_eq_of_lt (show (0:Int) ≤ 1 by omega) (by omega)] at h5
      simpa using h5
  rw [mul_emod_l, ← he]
  constructor
  · intro h; exact Int.emod_eq_zero_of_dvd h.2.2
  · intro h; exact ⟨h0, h1, Int.dvd_of_emod_eq_zero h⟩

/-- what l01Inv answers: the inverse if there is one, else 0 -/
def InvOr (a p x : Int) : Prop := (IsInv a p x ∧ Int.gcd a p = 1) ∨ (x = 0 ∧ Int.gcd a p ≠ 1)

set_option maxHeartbeats 400000 in
theorem l01Inv_yes (a p : Int) (w : World) (h1 : -9223372036854775808 ≤ a) (h2 : a ≤ 9223372036854775807) (h3 : 2 ≤ p) (h4 : p ≤ 1000) (z : Int) (hz : IsInv a p z) :
    Calls Try.prog 194 #[.int .i64 a, .int .i64 p] w fun e w' => e = .returned (.int .i64 z) ∧ w = w' := by
  have hz1 : 1 ≤ z := by
    have := hz.1
    rcases Int.lt_or_eq_of_le hz.1 with h | h
    · omega
    · rw [← h] at hz
      have := hz.2.2
      simp at this
      have h7 := Int.le_of_dvd (show (0:Int) < 1 by omega) this
      omega
  have hz2 := hz.2.1
  have hap := emod_bd a p (by omega)
  go_enter Try.func194, Try.ntmps194
  go_wp2
  go_loop [5] (fun u => ∃ x : Int, u = .int .i64 x ∧ 1 ≤ x ∧ x ≤ z)
    (fun u => (p - intOf u).toNat)
  case atStart => exact ⟨1, rfl, by omega, by omega⟩
  case round =>
    obtain ⟨x, rfl, h5, h6⟩ := hrel
    obtain ⟨p1, p2⟩ := mul_bd hap.1 (show a % p ≤ 1000 by omega) (show 0 ≤ x by omega) (show x ≤ 1000 by omega)
    by_cases hx : x = z
    · subst hx
      have ht : (a % p * x % p == 1) = true := beq_iff_eq.2 ((inv_test (by omega) (by omega) h3).1 hz)
      go_wp2_with (go_at_call 86; refine (l01Mod_any _ _ _ (by omega) (by omega) (by omega) (by omega)).mono ?_; rintro e w' ⟨rfl, rfl⟩)
      go_ret
      exact ⟨rfl, rfl⟩
    · have ht : (a % p * x % p == 1) = false := beq_eq_false_iff_ne.2 (fun h => hx (((inv_test (by omega) (by omega) h3).2 h).unique hz))
      have hlt : x < z := by omega
      clear hx
      go_wp2_with (go_at_call 86; refine (l01Mod_any _ _ _ (by omega) (by omega) (by omega) (by omega)).mono ?_; rintro e w' ⟨rfl, rfl⟩)
      go_round
      case rel => exact ⟨x + 1, rfl, by omega, by omega⟩
      case measure => simp [intOf]; omega

set_option maxHeartbeats 400000 in
theorem integerPower_any (b : Int) (e : Nat) (w : World) (h1 : 1 ≤ b) (h2 : b ^ e ≤ 1000000000000000000) (h3 : e ≤ 1000000) :
    Calls Try.prog 141 #[.int .i64 b, .int .i64 e] w fun r w' => r = .returned (.int .i64 (b ^ e)) ∧ w = w' := by
  have mono : ∀ i j : Nat, i ≤ j → b ^ i ≤ b ^ j := by
    intro i j hij
    obtain ⟨d, rfl⟩ := Nat.exists_eq_add_of_le hij
    rw [Int.pow_add]
    have h5 : 0 < b ^ i := Int.pow_pos (by omega)
    have h6 : 0 < b ^ d := Int.pow_pos (by omega)
    have := Int.mul_le_mul_of_nonneg_left (show 1 ≤ b ^ d by omega) (show 0 ≤ b ^ i by omega)
    omega
  have H2 := Lib.hid h2
  have Hm := Lib.hid mono
  clear h2 mono
  go_enter Try.func141, Try.ntmps141
  go_wp2
  go_loop [5, 7] (fun o i => ∃ k : Nat, o = .int .i64 (b ^ k) ∧ i = .int .i64 k ∧ k ≤ e)
    (fun _ i => e - (intOf i).toNat)
  case atStart => exact ⟨0, by simp, rfl, by omega⟩
  case round =>
    obtain ⟨k, rfl, rfl, hk⟩ := hrel
    by_cases hlt : k < e
    · have q1 : b ^ k * b ≤ 1000000000000000000 := by rw [← Int.pow_succ]; exact Int.le_trans (Hm.out _ _ hlt) H2.out
      have q0 : 0 ≤ b ^ k * b := by rw [← Int.pow_succ]; exact Int.pow_nonneg (by omega)
      go_wp2
      go_round
      case rel => exact ⟨k + 1, by rw [Int.pow_succ], by go_num, by omega⟩
      case measure => simp [intOf]; omega
    · obtain rfl : k = e := by omega
      go_wp2
      go_ret
      exact ⟨rfl, rfl⟩
end Go.Proofs.Ytkidohohiihbaaa
