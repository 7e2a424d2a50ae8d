/- Contracts of the program's and the reference's functions on single numbers. -/
import Derived.Test.YtpkdgemnddcefaaProg
import Derived.Test.YtpkdgemnddcefaaArith
import Derived.WalkKit
import Derived.WalkSpells
import Derived.WalkLawsBesides
import Derived.Deep.QuietTactic
import Derived.Deep.Draws
import Derived.BigQuiet
import Derived.Lib.Hide
set_option linter.unusedVariables false
set_option linter.unusedSimpArgs false
namespace Go.Proofs.Ytpkdgemnddcefaa
open Go.RowKit

theorem ret_int {k : IntKind} {a b : Int} (h : a = b) : Ending.returned (.int k a) = .returned (.int k b) := by rw [h]
theorem ret_ib {k : IntKind} {a b : Int} {s t : Bool} (h : a = b) (h2 : s = t) : Ending.returned (.tuple #[.int k a, .bool s]) = .returned (.tuple #[.int k b, .bool t]) := by rw [h, h2]
theorem ret_ii {k l : IntKind} {a b c d : Int} (h : a = b) (h2 : c = d) : Ending.returned (.tuple #[.int k a, .int l c]) = .returned (.tuple #[.int k b, .int l d]) := by rw [h, h2]

theorem quiet_eq {P : Program} {f : FuncId} {args : Array Value} {w : World} {n : Nat} {v : Value} (h : Calls P f args (w.drewN n) fun e w' => e = .returned v ∧ w.drewN n = w') : Calls P f args (w.drewN n) fun e w'' => e = .returned v ∧ ∃ m, w'' = w.drewN m :=
  h.mono fun _ _ ⟨he, hm⟩ => ⟨he, n, hm.symm⟩
/-- a 64-bit integer -/
def I64 (a : Int) : Prop := -9223372036854775808 ≤ a ∧ a ≤ 9223372036854775807
theorem wf_bd {a : Int} (h : (Lit.int .i64 a).wf = true) : I64 a := by
  simp [Lit.wf, IntKind.min, IntKind.max, IntKind.signed, IntKind.bits] at h
  unfold I64
  omega



set_option maxHeartbeats 400000 in
theorem residue_any (a m : Int) (w : World) (h1 : -9223372036854775808 ≤ a) (h2 : a ≤ 9223372036854775807) (h3 : 1 ≤ m) (h4 : m ≤ 4611686018427387904) :
    Calls Try.prog 118 #[.int .i64 a, .int .i64 m] w fun e w' => e = .returned (.int .i64 (a % m)) ∧ w = w' := by
  obtain ⟨h5, h6⟩ := tmod_bd a m h3
  go_enter Try.func118, Try.ntmps118
  go_wp2
  go_ret
  exact ⟨ret_int (tmod_res a m h3), rfl⟩

set_option maxHeartbeats 400000 in
theorem l01Mod_any (a m : Int) (w : World) (h1 : -9223372036854775808 ≤ a) (h2 : a ≤ 9223372036854775807) (h3 : 1 ≤ m) (h4 : m ≤ 4611686018427387904) :
    Calls Try.prog 103 #[.int .i64 a, .int .i64 m] w fun e w' => e = .returned (.int .i64 (a % m)) ∧ w = w' := by
  obtain ⟨h5, h6⟩ := tmod_bd a m h3
  rcases tmod_alt a m h3 with ⟨h7, h8⟩ | ⟨h7, h8⟩
  all_goals
    have H8 := Lib.hid h8
    clear h8
    go_enter Try.func103, Try.ntmps103
    go_wp2
    go_ret
    exact ⟨ret_int (by have := H8.out; omega), rfl⟩






set_option maxHeartbeats 400000 in
theorem inverseMod_any (a m : Int) (w : World) (h1 : 0 ≤ a) (h2 : a < m) (h3 : m ≤ 1000000000) :
    Calls Try.prog 104 #[.int .i64 a, .int .i64 m] w fun e w' => ∃ x, e = .returned (.tuple #[.int .i64 x, .bool (Int.gcd a m == 1)]) ∧ (Int.gcd a m = 1 → IsInv a m x) ∧ ∃ n, w' = w.drewN n := by
  go_enter Try.func104, Try.ntmps104
  go_wp2
  go_loopw [6, 7, 8, 9] (fun r s x y wr => ∃ (r' s' x' y' : Int), r = .int .i64 r' ∧ s = .int .i64 s' ∧ x = .int .i64 x' ∧ y = .int .i64 y' ∧ Eucl a m r' s' x' y' ∧ ∃ n, wr = w.drewN n)
    (fun _ s _ _ _ => (intOf s).natAbs)
  case atStart => exact ⟨m, a, 0, 1, rfl, rfl, rfl, rfl, Eucl.start h1 h2, 0, rfl⟩
  case round =>
    obtain ⟨r, s, x, y, rfl, rfl, rfl, rfl, hE, n, rfl⟩ := hrel
    obtain ⟨b1, b2, b3, b4⟩ : 1 ≤ r ∧ 0 ≤ s ∧ r ≤ m ∧ s ≤ m := ⟨hE.r1, hE.s0, hE.rm, hE.sm⟩
    obtain ⟨b5, b6⟩ : -m ≤ x ∧ x ≤ m := ⟨hE.xl, hE.xh⟩
    have HE := Lib.hid hE
    clear hE
    by_cases hs : s = 0
    · obtain rfl := hs
      have hr := HE.out.fin
      by_cases h11 : r = 1
      · subst h11
        have hg1 : Int.gcd a m = 1 := by omega
        have Hg := Lib.hid hg1
        clear hg1 hr
        go_wp2_with (go_at_call 118; refine (residue_any _ _ _ (by omega) (by omega) (by omega) (by omega)).mono ?_; rintro e w' ⟨rfl, rfl⟩)
        go_ret2
        exact ⟨x % m, ret_ib rfl (by rw [Hg.out]; rfl), fun _ => HE.out.inv (by omega), n, rfl⟩
      · have hg1 : Int.gcd a m ≠ 1 := by omega
        have Hg := Lib.hid hg1
        have hr' : (r == 1) = false := beq_eq_false_iff_ne.2 h11
        clear hg1 hr
        go_wp2_with (go_at_call 118; refine (residue_any _ _ _ (by omega) (by omega) (by omega) (by omega)).mono ?_; rintro e w' ⟨rfl, rfl⟩)
        go_ret2
        exact ⟨x % m, ret_ib rfl (by rw [beq_eq_false_iff_ne.2 Hg.out]), fun h => absurd h Hg.out, n, rfl⟩
    · have hS := HE.out.step hs
      obtain ⟨c1, c2, c3, c4, c5, c6⟩ := HE.out.qb hs
      have hyb := HE.out.yb
      have Hmeas : Hid (r - r / s * s < s ∧ 0 ≤ r - r / s * s) := by
        have hm : r - r / s * s = r % s := by have := Int.emod_add_mul_ediv r s; rw [Int.mul_comm] at this; omega
        have := emod_bd r s (by omega)
        exact Lib.hid (by omega)
      have HS := Lib.hid hS
      clear hS
      go_wp2
      go_roundw
      case rel => exact ⟨_, _, _, _, rfl, rfl, rfl, rfl, HS.out, n, rfl⟩
      case measure => have := Hmeas.out; simp [intOf]; omega


theorem inv_test {a p x : Int} (h0 : 0 ≤ x) (h1 : x < p) (h2 : 2 ≤ p) : IsInv a p x ↔ a % p * x % p = 1 := by
  have he : (a * x - 1) % p = 0 ↔ (a * x) % p = 1 := by
    have := emod_bd (a * x) p (by omega)
    constructor
    · intro h
      have h4 := Int.emod_emod_of_dvd (a * x) (Int.dvd_refl p)
      have h5 : (a * x) % p = ((a * x - 1) % p + 1 % p) % p := by rw [← Int.add_emod]; congr 1; omega
      rw [h, Int.emod_eq_of_lt (show (0:Int) ≤ 1 by omega) (by omega)] at h5
      simp at h5
      rw [Int.emod_eq_of_lt (show (0:Int) ≤ 1 by omega) (by omega)] at h5
      exact h5
    · intro h
      have h5 : (a * x - 1) % p = ((a * x) % p - 1 % p) % p := by rw [← Int.sub_emod]
      rw [h, Int.emod_eq_of_lt (show (0:Int) ≤ 1 by omega) (by omega)] at h5
      simpa using h5
  rw [mul_emod_l, ← he]
  constructor
  · intro h; exact Int.emod_eq_zero_of_dvd h.2.2
  · intro h; exact ⟨h0, h1, Int.dvd_of_emod_eq_zero h⟩

/-- what l01Inv answers: the inverse if there is one, else 0 -/
def InvOr (a p x : Int) : Prop := (IsInv a p x ∧ Int.gcd a p = 1) ∨ (x = 0 ∧ Int.gcd a p ≠ 1)

set_option maxHeartbeats 400000 in
theorem l01Inv_yes (a p : Int) (w : World) (h1 : -9223372036854775808 ≤ a) (h2 : a ≤ 9223372036854775807) (h3 : 2 ≤ p) (h4 : p ≤ 1000) (z : Int) (hz : IsInv a p z) :
    Calls Try.prog 86 #[.int .i64 a, .int .i64 p] w fun e w' => e = .returned (.int .i64 z) ∧ w = w' := by
  have hz1 : 1 ≤ z := by
    have := hz.1
    rcases Int.lt_or_eq_of_le hz.1 with h | h
    · omega
    · rw [← h] at hz
      have := hz.2.2
      simp at this
      have h7 := Int.le_of_dvd (show (0:Int) < 1 by omega) this
      omega
  have hz2 := hz.2.1
  have hap := emod_bd a p (by omega)
  go_enter Try.func86, Try.ntmps86
  go_wp2
  go_loop [5] (fun u => ∃ x : Int, u = .int .i64 x ∧ 1 ≤ x ∧ x ≤ z)
    (fun u => (p - intOf u).toNat)
  case atStart => exact ⟨1, rfl, by omega, by omega⟩
  case round =>
    obtain ⟨x, rfl, h5, h6⟩ := hrel
    obtain ⟨p1, p2⟩ := mul_bd hap.1 (show a % p ≤ 1000 by omega) (show 0 ≤ x by omega) (show x ≤ 1000 by omega)
    by_cases hx : x = z
    · subst hx
      have ht : (a % p * x % p == 1) = true := beq_iff_eq.2 ((inv_test (by omega) (by omega) h3).1 hz)
      go_wp2_with (go_at_call 103; refine (l01Mod_any _ _ _ (by omega) (by omega) (by omega) (by omega)).mono ?_; rintro e w' ⟨rfl, rfl⟩)
      go_ret
      exact ⟨rfl, rfl⟩
    · have ht : (a % p * x % p == 1) = false := beq_eq_false_iff_ne.2 (fun h => hx (((inv_test (by omega) (by omega) h3).2 h).unique hz))
      have hlt : x < z := by omega
      clear hx
      go_wp2_with (go_at_call 103; refine (l01Mod_any _ _ _ (by omega) (by omega) (by omega) (by omega)).mono ?_; rintro e w' ⟨rfl, rfl⟩)
      go_round
      case rel => exact ⟨x + 1, rfl, by omega, by omega⟩
      case measure => simp [intOf]; omega

set_option maxHeartbeats 400000 in
theorem integerPower_any (b : Int) (e : Nat) (w : World) (h1 : 1 ≤ b) (h2 : b ^ e ≤ 1000000000000000000) (h3 : e ≤ 1000000) :
    Calls Try.prog 73 #[.int .i64 b, .int .i64 e] w fun r w' => r = .returned (.int .i64 (b ^ e)) ∧ w = w' := by
  have mono : ∀ i j : Nat, i ≤ j → b ^ i ≤ b ^ j := by
    intro i j hij
    obtain ⟨d, rfl⟩ := Nat.exists_eq_add_of_le hij
    rw [Int.pow_add]
    have h5 : 0 < b ^ i := Int.pow_pos (by omega)
    have h6 : 0 < b ^ d := Int.pow_pos (by omega)
    have := Int.mul_le_mul_of_nonneg_left (show 1 ≤ b ^ d by omega) (show 0 ≤ b ^ i by omega)
    omega
  have H2 := Lib.hid h2
  have Hm := Lib.hid mono
  clear h2 mono
  go_enter Try.func73, Try.ntmps73
  go_wp2
  go_loop [5, 7] (fun o i => ∃ k : Nat, o = .int .i64 (b ^ k) ∧ i = .int .i64 k ∧ k ≤ e)
    (fun _ i => e - (intOf i).toNat)
  case atStart => exact ⟨0, by simp, rfl, by omega⟩
  case round =>
    obtain ⟨k, rfl, rfl, hk⟩ := hrel
    by_cases hlt : k < e
    · have q1 : b ^ k * b ≤ 1000000000000000000 := by rw [← Int.pow_succ]; exact Int.le_trans (Hm.out _ _ hlt) H2.out
      have q0 : 0 ≤ b ^ k * b := by rw [← Int.pow_succ]; exact Int.pow_nonneg (by omega)
      go_wp2
      go_round
      case rel => exact ⟨k + 1, by rw [Int.pow_succ], by go_num, by omega⟩
      case measure => simp [intOf]; omega
    · obtain rfl : k = e := by omega
      go_wp2
      go_ret
      exact ⟨rfl, rfl⟩
end Go.Proofs.Ytpkdgemnddcefaa
