/- The laws on one abelian group. -/
import Derived.Test.YtgdialknnjnehaaAbPrm
import Derived.Deep.RegionHeld3
set_option linter.unusedVariables false
set_option linter.unusedSimpArgs false
namespace Go.Proofs.Ytgdialknnjnehaa
open Go.RowKit

set_option maxHeartbeats 1000000 in
theorem law_CountPrimeSubgroups (a : Option Addr) (n c : Nat) (xs : List Int) (r : Int) (k : Int) (w : World) (hl : xs.length = n) (ha : RdI w a xs) (hw : ∀ x ∈ xs, (Lit.int .i64 x).wf = true) (hm : n ≤ maxLen) (hr : I64 r) (hk : I64 k) :
    Calls Try.prog 7 #[.agg #[.slice a n c, .int .i64 r], .int .i64 k] w fun e w' => e = .returned (.bool true) ∧ Below w.heap.size w w' := by
  have HA := Lib.hid ha
  have HL := Lib.hid hl
  unfold maxLen at hm
  clear ha hl hw hr
  have Hk := Lib.hid hk
  clear hk
  by_cases hn : 1048576 < (n : Int)
  · go_enter Try.func7, Try.ntmps7
    go_wp2_with fail
    refine (szAbelian_f _ _ _ _ _ _ hn (by omega) (by omega)).mono ?_
    rintro e w1 ⟨rfl, hb⟩
    have HB := Lib.hid hb
    clear hb
    go_wp2_with fail
    go_ret
    exact ⟨rfl, ((Below.refl _ _).alloc (Nat.le_refl _) _).trans (HB.out.mono (by simp))⟩
  · have hn' : n ≤ 1048576 := by omega
    clear hn
    go_enter Try.func7, Try.ntmps7
    go_wp2_with fail
    refine (szAbelian_t _ _ _ _ _ _ (by omega) (by omega)).mono ?_
    rintro e w1 ⟨rfl, hb⟩
    have HB : Hid (Below w.heap.size w w1) := Lib.hid (((Below.refl _ _).alloc (Nat.le_refl _) _).trans (hb.mono (by simp)))
    have p0 := cell_keep (p := ⟨w.heap.size, 0, none⟩) (v := .slice a n c) (by simp) hb
    have p1 := cell_keep (p := ⟨w.heap.size, 1, none⟩) (v := .int .i64 r) (by simp) hb
    clear hb
    go_wp2_with fail
    refine (toAbelian_any _ _ _ xs _ _ (by exact HA.out.keep HB.out (Nat.le_refl _)) HL.out hn').mono ?_
    rintro e w2 ⟨a2, c2, rfl, ho, hb⟩
    replace HB : Hid (Below w.heap.size w w2) := Lib.hid (HB.out.trans (hb.mono HB.out.size))
    have HO := Lib.hid ho.rd
    replace p0 := cell_keep p0 hb
    replace p1 := cell_keep p1 hb
    clear ho hb
    go_wp2_with fail
    refine (spec_CountPrimeSubgroups_any _ _ _ xs _ _ _ HO.out HL.out (by omega) Hk.out).mono ?_
    rintro e w3 ⟨rfl, hb⟩
    replace HB : Hid (Below w.heap.size w w3) := Lib.hid (HB.out.trans (hb.mono HB.out.size))
    replace p0 := cell_keep p0 hb
    replace p1 := cell_keep p1 hb
    clear hb HO
    go_wp2_with fail
    refine (toAbelian_any _ _ _ xs _ _ (by exact HA.out.keep HB.out (Nat.le_refl _)) HL.out hn').mono ?_
    rintro e w4 ⟨a4, c4, rfl, ho, hb⟩
    replace HB : Hid (Below w.heap.size w w4) := Lib.hid (HB.out.trans (hb.mono HB.out.size))
    have HO := Lib.hid ho.rd
    replace p0 := cell_keep p0 hb
    replace p1 := cell_keep p1 hb
    clear ho hb
    go_wp2_with fail
    refine (impl_CountPrimeSubgroups_any _ _ _ xs _ _ _ (by exact HO.out.alloc _) HL.out (by omega) Hk.out).mono ?_
    rintro e w5 ⟨rfl, hb⟩
    have q0 := cell_keep (p := ⟨w4.heap.size, 0, none⟩) (v := .slice a4 n c4) (by simp) hb
    have q1 := cell_keep (p := ⟨w4.heap.size, 1, none⟩) (v := .int .i64 r) (by simp) hb
    replace p0 := cell_keep (p := ⟨w.heap.size, 0, none⟩) (v := .slice a n c) (by rw [World.cell?_alloc_past _ _ _ (block_lt p0)]; exact p0) hb
    replace p1 := cell_keep (p := ⟨w.heap.size, 1, none⟩) (v := .int .i64 r) (by rw [World.cell?_alloc_past _ _ _ (block_lt p1)]; exact p1) hb
    replace HO : Hid (RdI w5 a4 xs) := Lib.hid ((HO.out.alloc _).keep hb (Nat.le_refl _))
    replace HB : Hid (Below w.heap.size w w5) := Lib.hid ((HB.out.alloc HB.out.size _).trans (hb.mono (by have := HB.out.size; simp; omega)))
    clear hb
    go_wp2_with fail
    go_region_held3 (fun w' => w'.cell? ⟨w4.heap.size, 0, none⟩ = some (.slice a4 n c4) ∧ w'.cell? ⟨w4.heap.size, 1, none⟩ = some (.int .i64 r) ∧ w'.cell? ⟨w.heap.size, 0, none⟩ = some (.slice a n c) ∧ w'.cell? ⟨w.heap.size, 1, none⟩ = some (.int .i64 r)) (go_keep)
      (first
        | (go_at_call 16; refine (toAbelian_any _ _ _ xs _ _ (by exact (show RdI w5 a xs from HA.out.keep HB.out (Nat.le_refl _))) HL.out hn').mono ?_; rintro e w6 ⟨a6, c6, rfl, ho, hb0⟩; have hb : Below w5.heap.size w5 w6 := ⟨hb0.os, hb0.tape, hb0.output, hb0.size, hb0.block⟩; have H6 := Lib.hid ho.rd; have HO6 : Hid (RdI w6 a4 xs) := Lib.hid (HO.out.keep hb (Nat.le_refl _)); have q06 := cell_keep (p := ⟨w4.heap.size, 0, none⟩) (v := .slice a4 n c4) q0 hb; have q16 := cell_keep (p := ⟨w4.heap.size, 1, none⟩) (v := .int .i64 r) q1 hb; have p06 := cell_keep (p := ⟨w.heap.size, 0, none⟩) (v := .slice a n c) p0 hb; have p16 := cell_keep (p := ⟨w.heap.size, 1, none⟩) (v := .int .i64 r) p1 hb; have HB6 : Hid (Below w.heap.size w w6) := Lib.hid (HB.out.trans (hb.mono HB.out.size)); clear hb hb0 ho)
        | (go_at_call 18; refine (eqAbelian_t _ _ _ _ _ _ xs _ _ (by exact HO6.out) (by exact H6.out) HL.out HL.out (by omega)).mono ?_; rintro e w7 ⟨rfl, hb⟩; have q07 := cell_keep (p := ⟨w4.heap.size, 0, none⟩) (v := .slice a4 n c4) q06 hb; have q17 := cell_keep (p := ⟨w4.heap.size, 1, none⟩) (v := .int .i64 r) q16 hb; have p07 := cell_keep (p := ⟨w.heap.size, 0, none⟩) (v := .slice a n c) p06 hb; have p17 := cell_keep (p := ⟨w.heap.size, 1, none⟩) (v := .int .i64 r) p16 hb; have HB7 : Hid (Below w.heap.size w w7) := Lib.hid (HB6.out.trans (hb.mono HB6.out.size)); clear hb))
    go_wp2_with fail
    go_ret
    exact ⟨rfl, HB7.out⟩
end Go.Proofs.Ytgdialknnjnehaa
