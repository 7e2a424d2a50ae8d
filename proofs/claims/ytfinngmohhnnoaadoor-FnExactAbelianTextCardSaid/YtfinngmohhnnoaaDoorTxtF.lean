/- AbelianText, program and reference. -/
import Derived.Test.YtfinngmohhnnoaaDoorTxtI
set_option linter.unusedVariables false
set_option linter.unusedSimpArgs false
namespace Go.Proofs.YtfinngmohhnnoaaDoor
open Go.RowKit
/-- what AbelianText returns -/
def txv (xs : List Int) (r : Int) : ByteArray × Int := if isAb xs r then (bs (txt xs r.toNat), 0) else (⟨#[]⟩, 1)
theorem txv_no {xs : List Int} {r : Int} (h : isAb xs r = false) : txv xs r = (⟨#[]⟩, 1) := by unfold txv; rw [h]; rfl
theorem txv_yes {xs : List Int} {r : Nat} (h : isAb xs r = true) : txv xs r = (bs (txt xs r), 0) := by unfold txv; rw [h]; rfl
theorem spec_AbelianText_any (a : Option Addr) (n c : Nat) (xs : List Int) (r : Int) (w : World) (ha : RdI w a xs) (hl : xs.length = n) (hn : n ≤ 1048576) (hr : I64 r) :
    Calls Tryd.prog 6 #[.agg #[.slice a n c, .int .i64 r]] w fun e w' => e = .returned (.tuple #[.string (txv xs r).1, .int .i64 (txv xs r).2]) ∧ Below w.heap.size w w' := by
  have HA := Lib.hid ha
  have HL := Lib.hid hl
  clear ha hl hr
  cases hv : isAb xs r
  · rw [txv_no hv]
    go_enter Tryd.func6, Tryd.ntmps6
    go_wp2_with fail
    refine (spec_IsAbelian_any _ _ _ xs _ _ (by exact HA.out.alloc _) HL.out (by omega)).mono ?_
    rintro e w1 ⟨rfl, hb⟩
    have HB : Hid (Below w.heap.size w w1) := Lib.hid (((Below.refl _ _).alloc (Nat.le_refl _) _).trans (hb.mono (by simp)))
    clear hb
    go_wp2_with fail
    go_ret2
    exact ⟨rfl, HB.out⟩
  · obtain ⟨k, rfl, ht⟩ := Txt.of (isAb_ok hv)
    rw [txv_yes hv]
    have HT := Lib.hid ht
    clear ht
    go_enter Tryd.func6, Tryd.ntmps6
    go_wp2_with fail
    refine (spec_IsAbelian_any _ _ _ xs _ _ (by exact HA.out.alloc _) HL.out (by omega)).mono ?_
    rintro e w1 ⟨rfl, hb⟩
    have HB : Hid (Below w.heap.size w w1) := Lib.hid (((Below.refl _ _).alloc (Nat.le_refl _) _).trans (hb.mono (by simp)))
    have p0 := cell_below (p := ⟨w.heap.size, 0, none⟩) (v := .slice a n c) (by simp) hb
    have p1 := cell_below (p := ⟨w.heap.size, 1, none⟩) (v := .int .i64 k) (by simp) hb
    have hr1 : Hid (RdI w1 a xs) := Lib.hid (HA.out.keep HB.out (Nat.le_refl _))
    clear hb
    go_wp2_with fail
    refine (spec_text_any _ _ _ xs k _ (by exact hr1.out) HL.out HT.out).mono ?_
    rintro e w2 ⟨rfl, hb⟩
    have HB2 : Hid (Below w.heap.size w w2) := Lib.hid (HB.out.trans (hb.mono HB.out.size))
    clear hb
    go_wp2_with fail
    go_ret2
    exact ⟨rfl, HB2.out⟩
theorem impl_AbelianText_any (a : Option Addr) (n c : Nat) (xs : List Int) (r : Int) (w : World) (ha : RdI w a xs) (hl : xs.length = n) (hn : n ≤ 1048576) (hr : I64 r) (hp : Pow w) :
    Calls Tryd.prog 8 #[.agg #[.slice a n c, .int .i64 r]] w fun e w' => e = .returned (.tuple #[.string (txv xs r).1, .int .i64 (txv xs r).2]) ∧ Below w.heap.size w w' := by
  have HA := Lib.hid ha
  have HL := Lib.hid hl
  have HP := Lib.hid hp
  clear ha hl hr hp
  cases hv : isAb xs r
  · rw [txv_no hv]
    go_enter Tryd.func8, Tryd.ntmps8
    go_wp2_with fail
    refine (impl_IsAbelian_any _ _ _ xs _ _ (by exact HA.out.alloc _) HL.out (by omega)).mono ?_
    rintro e w1 ⟨rfl, hb⟩
    have HB : Hid (Below w.heap.size w w1) := Lib.hid (((Below.refl _ _).alloc (Nat.le_refl _) _).trans (hb.mono (by simp)))
    clear hb
    go_wp2_with fail
    go_ret2
    exact ⟨rfl, HB.out⟩
  · obtain ⟨k, rfl, ht⟩ := Txt.of (isAb_ok hv)
    rw [txv_yes hv]
    have HT := Lib.hid ht
    clear ht
    go_enter Tryd.func8, Tryd.ntmps8
    go_wp2_with fail
    refine (impl_IsAbelian_any _ _ _ xs _ _ (by exact HA.out.alloc _) HL.out (by omega)).mono ?_
    rintro e w1 ⟨rfl, hb⟩
    have HB : Hid (Below w.heap.size w w1) := Lib.hid (((Below.refl _ _).alloc (Nat.le_refl _) _).trans (hb.mono (by simp)))
    have p0 := cell_below (p := ⟨w.heap.size, 0, none⟩) (v := .slice a n c) (by simp) hb
    have p1 := cell_below (p := ⟨w.heap.size, 1, none⟩) (v := .int .i64 k) (by simp) hb
    have hr1 : Hid (RdI w1 a xs) := Lib.hid (HA.out.keep HB.out (Nat.le_refl _))
    have HPW : Hid (Pow w1) := Lib.hid (HP.out.keep HB.out (Nat.le_refl _))
    clear hb
    go_wp2_with fail
    refine (impl_text_any _ _ _ xs k _ (by exact hr1.out) HL.out HT.out (by exact HPW.out)).mono ?_
    rintro e w2 ⟨rfl, hb⟩
    have HB2 : Hid (Below w.heap.size w w2) := Lib.hid (HB.out.trans (hb.mono HB.out.size))
    clear hb
    go_wp2_with fail
    go_ret2
    exact ⟨rfl, HB2.out⟩
end Go.Proofs.YtfinngmohhnnoaaDoor
