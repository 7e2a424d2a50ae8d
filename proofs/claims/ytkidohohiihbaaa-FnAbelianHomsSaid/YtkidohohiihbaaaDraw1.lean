/- Draws of numbers: whatever the code, a number of 64 bits. -/
import Derived.Test.YtkidohohiihbaaaSrc
set_option linter.unusedVariables false
set_option linter.unusedSimpArgs false
namespace Go.Proofs.Ytkidohohiihbaaa
open Go.RowKit

theorem lit_rd (w : World) (T : TypeId) (xs : List Int) (cs : Array Value) (hc : cs.toList = xs.map (Value.int .i64)) (hl : xs.length ≤ maxLen) : RdI (w.alloc (.cells cs T)) (some ⟨w.heap.size, 0, none⟩) xs := (OwnI.lit w T xs cs hc hl).rd
/-- a box that is not among the elder ones is no matter -/
theorem Chg.up {b B : Nat} {w w' : World} (h : Chg (fun j => j = b) w w') (hB : B ≤ b) (hs : B ≤ w.heap.size) : Below B w w' := h.below hs (fun k hk e => by omega)
set_option maxRecDepth 20000 in
set_option maxHeartbeats 2000000 in
theorem l01Number_any (b : Nat) (a : Option Addr) (m c : Nat) (bs : List Int) (w : World) (hs : Src w b a m c bs) (hmc : m ≤ c) :
    Calls Try.prog 79 #[.pointer (some ⟨b, 0, none⟩)] w fun e w' => ∃ v : Int, e = .returned (.int .i64 v) ∧ I64 v ∧ Src w' b a m c bs ∧ Chg (fun j => j = b) w w' := by
  have HS := Lib.hid hs
  clear hs
  go_enter Try.func79, Try.ntmps79
  go_wp2_with fail
  refine (l01Next_any b a m c bs 12 w HS.out (by omega) hmc).mono ?_
  rintro e w1 ⟨v, rfl, hv0, hv1, hs, hc⟩
  have HS1 := Lib.hid hs
  have HC1 := Lib.hid hc
  have lb := hs.lt
  clear hs hc hv1
  by_cases h0 : v = 0
  · have d0 : (v == 0) = true := beq_iff_eq.2 h0
    clear h0 hv0
    have HL : Hid (RdI (w1.alloc (.cells #[.int .i64 0, .int .i64 (-1), .int .i64 1000000, .int .i64 1000001, .int .i64 (-1000000), .int .i64 (-1000001), .int .i64 (-9223372036854775808), .int .i64 9223372036854775807] 2)) (some ⟨w1.heap.size, 0, none⟩) [0, -1, 1000000, 1000001, -1000000, -1000001, -9223372036854775808, 9223372036854775807]) := Lib.hid (lit_rd w1 _ _ _ rfl (by simp [maxLen]))
    go_wp2_with fail
    refine (l01Pick_any b a m c bs w1.heap.size 8 8 [0, -1, 1000000, 1000001, -1000000, -1000001, -9223372036854775808, 9223372036854775807] _ (by exact HS1.out.keep ((Below.refl _ _).alloc (Nat.le_refl _) _)) hmc (by exact HL.out) rfl (by omega) (by omega) (by omega)).mono ?_
    rintro e w2 ⟨x, rfl, hx, hs, hc⟩
    have HX : Hid (I64 x) := Lib.hid (by simp at hx; unfold I64; omega)
    have HS2 := Lib.hid hs
    have HC2 : Hid (Chg (fun j => j = b) w w2) := Lib.hid ((HC1.out.alloc _).trans hc)
    clear hs hc hx
    go_wp2_with fail
    go_ret
    exact ⟨x, rfl, HX.out, HS2.out, HC2.out⟩
  · have d0 : (v == 0) = false := beq_eq_false_iff_ne.2 h0
    by_cases h1 : v = 1
    · have d1 : (v == 1) = true := beq_iff_eq.2 h1
      clear h0 h1 hv0
      go_wp2_with fail
      refine (l01Next_any b a m c bs 1000 w1 HS1.out (by omega) hmc).mono ?_
      rintro e w2 ⟨x, rfl, hx0, hx1, hs, hc⟩
      have HS2 := Lib.hid hs
      have HC2 : Hid (Chg (fun j => j = b) w w2) := Lib.hid (HC1.out.trans hc)
      clear hs hc
      go_wp2_with fail
      go_ret
      exact ⟨_, rfl, by unfold I64; omega, HS2.out, HC2.out⟩
    · have d1 : (v == 1) = false := beq_eq_false_iff_ne.2 h1
      by_cases h2 : v = 2
      · have d2 : (v == 2) = true := beq_iff_eq.2 h2
        clear h0 h1 h2 hv0
        go_wp2_with fail
        refine (l01Next_any b a m c bs 1000000 w1 HS1.out (by omega) hmc).mono ?_
        rintro e w2 ⟨x, rfl, hx0, hx1, hs, hc⟩
        have HS2 := Lib.hid hs
        have HC2 : Hid (Chg (fun j => j = b) w w2) := Lib.hid (HC1.out.trans hc)
        clear hs hc
        go_wp2_with fail
        go_ret
        exact ⟨_, rfl, by unfold I64; omega, HS2.out, HC2.out⟩
      · have d2 : (v == 2) = false := beq_eq_false_iff_ne.2 h2
        clear h0 h1 h2 hv0
        go_wp2_with fail
        refine (l01Next_any b a m c bs 60 w1 HS1.out (by omega) hmc).mono ?_
        rintro e w2 ⟨x, rfl, hx0, hx1, hs, hc⟩
        have HS2 := Lib.hid hs
        have HC2 : Hid (Chg (fun j => j = b) w w2) := Lib.hid (HC1.out.trans hc)
        clear hs hc
        go_wp2_with fail
        go_ret
        exact ⟨_, rfl, by unfold I64; omega, HS2.out, HC2.out⟩
set_option maxHeartbeats 1000000 in
theorem DrawModInverse_any (a : Option Addr) (m c : Nat) (bs : List Int) (w : World) (hs : Code0 w a m bs) (hmc : m ≤ c) :
    Calls Try.prog 22 #[.slice a m c] w fun e w' => ∃ x y : Int, e = .returned (.tuple #[.int .i64 x, .int .i64 y]) ∧ I64 x ∧ I64 y ∧ Below w.heap.size w w' := by
  have HS := Lib.hid hs
  clear hs
  go_enter Try.func22, Try.ntmps22
  go_wp2_with fail
  refine (l01From_any a m c bs w HS.out hmc).mono ?_
  rintro e w1 ⟨rfl, hs, hb⟩
  have HS1 := Lib.hid hs
  have HB1 := Lib.hid hb
  clear hs hb
  go_wp2_with fail
  refine (l01Number_any _ a m c bs w1 HS1.out hmc).mono ?_
  rintro e w2 ⟨x, rfl, hx, hs, hc⟩
  have HS2 := Lib.hid hs
  have HX := Lib.hid hx
  have HB2 : Hid (Below w.heap.size w w2) := Lib.hid (HB1.out.trans (hc.up (Nat.le_refl _) HB1.out.size))
  clear hs hc hx
  go_wp2_with fail
  refine (l01Number_any _ a m c bs w2 HS2.out hmc).mono ?_
  rintro e w3 ⟨y, rfl, hy, hs, hc⟩
  have HY := Lib.hid hy
  have HB3 : Hid (Below w.heap.size w w3) := Lib.hid (HB2.out.trans (hc.up (Nat.le_refl _) HB2.out.size))
  clear hs hc hy
  go_wp2_with fail
  go_ret2
  exact ⟨x, y, rfl, HX.out, HY.out, HB3.out⟩
set_option maxRecDepth 20000 in
set_option maxHeartbeats 2000000 in
theorem DrawFactorize_any (a : Option Addr) (m c : Nat) (bs : List Int) (w : World) (hs : Code0 w a m bs) (hmc : m ≤ c) :
    Calls Try.prog 15 #[.slice a m c] w fun e w' => ∃ x : Int, e = .returned (.int .i64 x) ∧ I64 x ∧ Below w.heap.size w w' := by
  have HS := Lib.hid hs
  clear hs
  go_enter Try.func15, Try.ntmps15
  go_wp2_with fail
  refine (l01From_any a m c bs w HS.out hmc).mono ?_
  rintro e w1 ⟨rfl, hs, hb⟩
  have HS1 := Lib.hid hs
  have HB1 := Lib.hid hb
  clear hs hb
  go_wp2_with fail
  refine (l01Next_any _ a m c bs 2 w1 HS1.out (by omega) hmc).mono ?_
  rintro e w2 ⟨v, rfl, hv0, hv1, hs, hc⟩
  have HS2 := Lib.hid hs
  have HB2 : Hid (Below w.heap.size w w2) := Lib.hid (HB1.out.trans (hc.up (Nat.le_refl _) HB1.out.size))
  clear hs hc hv1
  by_cases h0 : v = 0
  · have d0 : (v == 0) = true := beq_iff_eq.2 h0
    clear h0 hv0
    go_wp2_with fail
    refine (l01Next_any _ a m c bs 8 w2 HS2.out (by omega) hmc).mono ?_
    rintro e w3 ⟨k, rfl, hk0, hk1, hs, hc⟩
    obtain ⟨K, rfl⟩ : ∃ K : Nat, k = K := ⟨k.toNat, by omega⟩
    have hK : K ≤ 7 := by omega
    have HS3 := Lib.hid hs
    have HB3 : Hid (Below w.heap.size w w3) := Lib.hid (HB2.out.trans (hc.up (Nat.le_refl _) HB2.out.size))
    clear hs hc hk0 hk1
    go_wp2_with fail
    go_loopw [5, 4] (fun i v wr => ∃ (j x : Nat), j ≤ K ∧ i = .int .i64 j ∧ v = .int .i64 x ∧ x ≤ 11 ^ (K - j) ∧ Hid (Src wr w.heap.size a m c bs ∧ Below w.heap.size w wr)) (fun i _ _ => (intOf i).toNat)
    case atStart => exact ⟨K, 1, Nat.le_refl _, rfl, rfl, by simp, Lib.hid ⟨HS3.out, HB3.out⟩⟩
    case round =>
      obtain ⟨j, x, hj, rfl, rfl, hx, HJ⟩ := hrel
      obtain ⟨wi, rfl⟩ : ∃ x, x = wr := ⟨wr, rfl⟩
      have hp : 11 ^ (K - j) ≤ 19487171 := Nat.le_trans (Nat.pow_le_pow_right (by omega) (show K - j ≤ 7 by omega)) (by decide)
      have lb := HJ.out.1.lt
      by_cases hj0 : 0 < j
      · obtain ⟨j', rfl⟩ : ∃ j', j = j' + 1 := ⟨j - 1, by omega⟩
        have d1 : decide ((0 : Int) < (j' : Int) + 1) = true := decide_eq_true (by omega)
        have d2 : (0 : Int) < (j' : Int) + 1 := by omega
        have HP := Lib.hid hx
        have HE : Hid (11 ^ (K - j') = 11 ^ (K - (j' + 1)) * 11) := Lib.hid (by rw [show K - j' = (K - (j' + 1)) + 1 by omega, Nat.pow_succ])
        have hx2 : x ≤ 19487171 := by omega
        have HL : Hid (RdI (wi.alloc (.cells #[.int .i64 2, .int .i64 2, .int .i64 3, .int .i64 5, .int .i64 7, .int .i64 11] 2)) (some ⟨wi.heap.size, 0, none⟩) [2, 2, 3, 5, 7, 11]) := Lib.hid (lit_rd wi _ _ _ rfl (by simp [maxLen]))
        clear hx hp hj0
        go_wp2_with fail
        refine (l01Pick_any w.heap.size a m c bs wi.heap.size 6 6 [2, 2, 3, 5, 7, 11] _ (by exact HJ.out.1.keep ((Below.refl _ _).alloc (Nat.le_refl _) _)) hmc (by exact HL.out) rfl (by omega) (by omega) (by omega)).mono ?_
        rintro e w4 ⟨y, rfl, hy, hs, hc⟩
        have hy2 : 0 ≤ y ∧ y ≤ 11 := by simp at hy; omega
        obtain ⟨Y, rfl⟩ : ∃ Y : Nat, y = Y := ⟨y.toNat, by omega⟩
        have hY : Y ≤ 11 := by omega
        have hxy : x * Y ≤ 19487171 * 11 := Nat.mul_le_mul hx2 hY
        have hxy2 : x * Y ≤ 11 ^ (K - j') := by rw [HE.out]; exact Nat.mul_le_mul HP.out hY
        have HXY := Lib.hid hxy2
        have W1 : IntKind.i64.wrap ((x : Int) * (Y : Int)) = ((x * Y : Nat) : Int) := by rw [Int.natCast_mul]; exact IntWalk.i64_in _ (by rw [← Int.natCast_mul]; omega)
        have HN : Hid (Src w4 w.heap.size a m c bs ∧ Below w.heap.size w w4) := Lib.hid ⟨hs, (HJ.out.2.alloc HJ.out.2.size _).trans (hc.up (Nat.le_refl _) (by simp; omega))⟩
        clear hs hc hy hy2 hxy2
        have W2 : (x : Int) * (Y : Int) = ((x * Y : Nat) : Int) := (Int.natCast_mul _ _).symm
        have hb1 : 0 ≤ (x : Int) * (Y : Int) := by omega
        have hb2 : (x : Int) * (Y : Int) ≤ 214358881 := by omega
        have W3 := Lib.hid W2
        clear W1 W2
        go_wp2_with fail
        go_roundw
        case rel => exact ⟨j', x * Y, by omega, by go_num, by rw [W3.out], HXY.out, HN⟩
        case measure => simp [intOf]
      · obtain rfl : j = 0 := by omega
        go_wp2_with fail
        go_ret
        exact ⟨_, rfl, by unfold I64; rw [Nat.sub_zero] at *; omega, HJ.out.2⟩
  · have d0 : (v == 0) = false := beq_eq_false_iff_ne.2 h0
    clear h0 hv0
    go_wp2_with fail
    refine (l01Number_any _ a m c bs w2 HS2.out hmc).mono ?_
    rintro e w3 ⟨y, rfl, hy, hs, hc⟩
    have HY := Lib.hid hy
    have HB3 : Hid (Below w.heap.size w w3) := Lib.hid (HB2.out.trans (hc.up (Nat.le_refl _) HB2.out.size))
    clear hs hc hy
    go_wp2_with fail
    go_ret
    exact ⟨y, rfl, HY.out, HB3.out⟩
end Go.Proofs.Ytkidohohiihbaaa
