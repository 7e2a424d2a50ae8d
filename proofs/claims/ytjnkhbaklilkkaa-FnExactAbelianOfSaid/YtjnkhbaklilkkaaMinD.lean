/- The divisor of the minors of a table, with its errors. -/
import Derived.Test.YtjnkhbaklilkkaaMinS
set_option linter.unusedVariables false
set_option linter.unusedSimpArgs false
namespace Go.Proofs.Ytjnkhbaklilkkaa
open Go.RowKit

def mdV (xss : List (List Int)) (q k : Int) : Int × Int := if isTb xss q = true then (if 1 ≤ k ∧ k ≤ 4 then (mdiv xss xss.length q.toNat k.toNat, 0) else (0, 2)) else (0, 1)
theorem mdV_no {xss : List (List Int)} {q k : Int} (h : isTb xss q = false) : mdV xss q k = (0, 1) := by unfold mdV; rw [h]; rfl
theorem mdV_ok {xss : List (List Int)} {q k : Int} (h : isTb xss q = true) (h1 : 1 ≤ k) (h2 : k ≤ 4) : mdV xss q k = (mdiv xss xss.length q.toNat k.toNat, 0) := by unfold mdV; rw [if_pos h, if_pos ⟨h1, h2⟩]
theorem mdV_bad {xss : List (List Int)} {q k : Int} (h : isTb xss q = true) (h1 : ¬ (1 ≤ k ∧ k ≤ 4)) : mdV xss q k = (0, 2) := by unfold mdV; rw [if_pos h, if_neg h1]
set_option maxHeartbeats 1000000 in
theorem impl_MinorsDivisor_any (q : Int) (a : Option Addr) (n c : Nat) (xss : List (List Int)) (k : Int) (w : World) (hq : I64 q) (ha : RdR w a xss) (hl : xss.length = n) (hx : ∀ i, i < n → (rw_ xss i).length ≤ 1048576) (hn : n ≤ 1048576) (hcp : n ≤ c) (hk : I64 k) :
    Calls Try.prog 25 #[.agg #[.int .i64 q, .slice a n c], .int .i64 k] w fun e w' => e = .returned (.tuple #[.int .i64 (mdV xss q k).1, .int .i64 (mdV xss q k).2]) ∧ Below w.heap.size w w' := by
  have HQ := Lib.hid hq
  have HA := Lib.hid ha
  have HL := Lib.hid hl
  have HX := Lib.hid hx
  clear hq ha hl hx
  cases hv : isTb xss q
  · rw [mdV_no hv]
    go_enter Try.func25, Try.ntmps25
    go_wp2_with fail
    refine (impl_IsTable_any _ _ _ _ xss _ HQ.out (by exact HA.out.alloc _) HL.out HX.out hn hcp).mono ?_
    rintro e w1 ⟨rfl, hb⟩
    have HB : Hid (Below w.heap.size w w1) := Lib.hid (below_al1 hb)
    clear hb
    go_wp2_with fail
    go_ret2
    exact ⟨rfl, HB.out⟩
  · have HT := Lib.hid (isTb_ok hv)
    by_cases hk4 : 1 ≤ k ∧ k ≤ 4
    · rw [mdV_ok hv hk4.1 hk4.2]
      obtain ⟨hk1, hk2⟩ := hk4
      obtain ⟨K, rfl⟩ : ∃ K : Nat, k = K := ⟨k.toNat, by omega⟩
      obtain ⟨Q, rfl⟩ : ∃ Q : Nat, q = Q := ⟨q.toNat, by have := HT.out.q1; omega⟩
      rw [HL.out]
      have HR : Hid (mdiv xss n (Q : Int).toNat (K : Int).toNat = mdiv xss n Q K) := Lib.hid rfl
      rw [HR.out]
      clear hv
      go_enter Try.func25, Try.ntmps25
      go_wp2_with fail
      refine (impl_IsTable_any _ _ _ _ xss _ HQ.out (by exact HA.out.alloc _) HL.out HX.out hn hcp).mono ?_
      rw [isTb_t HT.out]
      rintro e w1 ⟨rfl, hb⟩
      have p0 := cell_below (p := ⟨w.heap.size, 0, none⟩) (v := .int .i64 Q) (by simp) hb
      have p1 := cell_below (p := ⟨w.heap.size, 1, none⟩) (v := .slice a n c) (by simp) hb
      have HB : Hid (Below w.heap.size w w1) := Lib.hid (below_al1 hb)
      clear hb
      go_wp2_with (go_at_call 57; refine (inside_t _ _ _ _ (by omega) (by omega)).mono ?_; rintro e w' ⟨rfl, rfl⟩)
      refine (minorsDivisor_any Q K _ _ _ xss _ (by exact HA.out.keep HB.out (Nat.le_refl _)) HL.out HT.out hcp (by omega) (by omega)).mono ?_
      rintro e w2 ⟨rfl, hb⟩
      have HB2 : Hid (Below w.heap.size w w2) := Lib.hid (HB.out.trans (hb.mono HB.out.size))
      clear hb
      go_wp2_with fail
      go_ret2
      exact ⟨rfl, HB2.out⟩
    · rw [mdV_bad hv hk4]
      clear hv
      go_enter Try.func25, Try.ntmps25
      go_wp2_with fail
      refine (impl_IsTable_any _ _ _ _ xss _ HQ.out (by exact HA.out.alloc _) HL.out HX.out hn hcp).mono ?_
      rw [isTb_t HT.out]
      rintro e w1 ⟨rfl, hb⟩
      have HB : Hid (Below w.heap.size w w1) := Lib.hid (below_al1 hb)
      clear hb
      go_wp2_with (go_at_call 57; refine (inside_f _ _ _ _ (by omega)).mono ?_; rintro e w' ⟨rfl, rfl⟩)
      go_ret2
      exact ⟨rfl, HB.out⟩
set_option maxHeartbeats 1000000 in
theorem spec_MinorsDivisor_any (q : Int) (a : Option Addr) (n c : Nat) (xss : List (List Int)) (k : Int) (w : World) (hq : I64 q) (ha : RdR w a xss) (hl : xss.length = n) (hx : ∀ i, i < n → (rw_ xss i).length ≤ 1048576) (hn : n ≤ 1048576) (hcp : n ≤ c) (hk : I64 k) :
    Calls Try.prog 24 #[.agg #[.int .i64 q, .slice a n c], .int .i64 k] w fun e w' => e = .returned (.tuple #[.int .i64 (mdV xss q k).1, .int .i64 (mdV xss q k).2]) ∧ Below w.heap.size w w' := by
  have HQ := Lib.hid hq
  have HA := Lib.hid ha
  have HL := Lib.hid hl
  have HX := Lib.hid hx
  clear hq ha hl hx
  cases hv : isTb xss q
  · rw [mdV_no hv]
    go_enter Try.func24, Try.ntmps24
    go_wp2_with fail
    refine (spec_IsTable_any _ _ _ _ xss _ HQ.out (by exact HA.out.alloc _) HL.out HX.out hn hcp).mono ?_
    rintro e w1 ⟨rfl, hb⟩
    have HB : Hid (Below w.heap.size w w1) := Lib.hid (below_al1 hb)
    clear hb
    go_wp2_with fail
    go_ret2
    exact ⟨rfl, HB.out⟩
  · have HT := Lib.hid (isTb_ok hv)
    by_cases hk4 : 1 ≤ k ∧ k ≤ 4
    · rw [mdV_ok hv hk4.1 hk4.2]
      obtain ⟨hk1, hk2⟩ := hk4
      obtain ⟨K, rfl⟩ : ∃ K : Nat, k = K := ⟨k.toNat, by omega⟩
      obtain ⟨Q, rfl⟩ : ∃ Q : Nat, q = Q := ⟨q.toNat, by have := HT.out.q1; omega⟩
      rw [HL.out]
      have HR : Hid (mdiv xss n (Q : Int).toNat (K : Int).toNat = mdiv xss n Q K) := Lib.hid rfl
      rw [HR.out]
      clear hv
      go_enter Try.func24, Try.ntmps24
      go_wp2_with fail
      refine (spec_IsTable_any _ _ _ _ xss _ HQ.out (by exact HA.out.alloc _) HL.out HX.out hn hcp).mono ?_
      rw [isTb_t HT.out]
      rintro e w1 ⟨rfl, hb⟩
      have p0 := cell_below (p := ⟨w.heap.size, 0, none⟩) (v := .int .i64 Q) (by simp) hb
      have p1 := cell_below (p := ⟨w.heap.size, 1, none⟩) (v := .slice a n c) (by simp) hb
      have HB : Hid (Below w.heap.size w w1) := Lib.hid (below_al1 hb)
      clear hb
      go_wp2_with (go_at_call 54; refine (l01In_t _ _ _ _ (by omega) (by omega)).mono ?_; rintro e w' ⟨rfl, rfl⟩)
      refine (l04Minors_any Q K _ _ _ xss _ (by exact HA.out.keep HB.out (Nat.le_refl _)) HL.out HT.out hcp (by omega) (by omega)).mono ?_
      rintro e w2 ⟨rfl, hb⟩
      have HB2 : Hid (Below w.heap.size w w2) := Lib.hid (HB.out.trans (hb.mono HB.out.size))
      clear hb
      go_wp2_with fail
      go_ret2
      exact ⟨rfl, HB2.out⟩
    · rw [mdV_bad hv hk4]
      clear hv
      go_enter Try.func24, Try.ntmps24
      go_wp2_with fail
      refine (spec_IsTable_any _ _ _ _ xss _ HQ.out (by exact HA.out.alloc _) HL.out HX.out hn hcp).mono ?_
      rw [isTb_t HT.out]
      rintro e w1 ⟨rfl, hb⟩
      have HB : Hid (Below w.heap.size w w1) := Lib.hid (below_al1 hb)
      clear hb
      go_wp2_with (go_at_call 54; refine (l01In_f _ _ _ _ (by omega)).mono ?_; rintro e w' ⟨rfl, rfl⟩)
      go_ret2
      exact ⟨rfl, HB.out⟩
end Go.Proofs.Ytjnkhbaklilkkaa
