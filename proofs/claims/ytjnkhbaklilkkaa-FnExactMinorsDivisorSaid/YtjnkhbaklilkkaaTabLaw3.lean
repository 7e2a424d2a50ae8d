/- The law on the divisor of the minors. -/
import Derived.Test.YtjnkhbaklilkkaaMinD
import Derived.Test.YtjnkhbaklilkkaaKitT
import Derived.Deep.RegionHeld3
set_option linter.unusedVariables false
set_option linter.unusedSimpArgs false
namespace Go.Proofs.Ytjnkhbaklilkkaa
open Go.RowKit

--LAW MinorsDivisor
set_option maxRecDepth 20000 in
set_option maxHeartbeats 4000000 in
theorem law_MinorsDivisor (q0 : Int) (a0 : Option Addr) (n0 c0 : Nat) (xs0 : List (List Int)) (k1 : Int) (w : World) (hq0 : I64 q0) (hl0 : xs0.length = n0) (ha0 : RdR w a0 xs0) (hw0 : ∀ xs ∈ xs0, xs.length ≤ maxLen ∧ ∀ x ∈ xs, (Lit.int .i64 x).wf = true) (hm0 : n0 ≤ maxLen) (hk1 : I64 k1) :
    Calls Try.prog 6 #[.agg #[.int .i64 q0, .slice a0 n0 c0], .int .i64 k1] w fun e w' => e = .returned (.bool true) ∧ Below w.heap.size w w' := by
  have HA0 := Lib.hid ha0
  have HL0 := Lib.hid hl0
  unfold maxLen at hm0
  have HY0 : Hid (∀ xs ∈ xs0, xs.length ≤ maxLen) := Lib.hid fun xs h => (hw0 xs h).1
  have HQ0 := Lib.hid hq0
  clear hq0
  clear ha0 hl0 hw0
  have HK1 := Lib.hid hk1
  clear hk1
  go_enter Try.func6, Try.ntmps6
  go_wp2_with fail
  refine (szTable_any _ _ n0 _ xs0 1048576 _ (by exact (HA0.out.alloc _)) HL0.out HY0.out hm0 (by omega) (by omega)).mono ?_
  rintro e w1 ⟨z0, rfl, hz, hb⟩
  have p00_1 := cell_below (p := ⟨w.heap.size, 0, none⟩) (v := .int .i64 q0) (by simp) hb
  have p01_1 := cell_below (p := ⟨w.heap.size, 1, none⟩) (v := .slice a0 n0 c0) (by simp) hb
  replace hb := below_al1 hb
  have HB_1 : Hid (Below w.heap.size w w1) := Lib.hid hb
  clear hb
  rcases hz with rfl | ⟨hz0, hy0, hn0', hx0⟩
  · go_wp2_with fail
    go_ret
    exact ⟨rfl, HB_1.out⟩
  have hn0 : n0 ≤ 1048576 := by have := HL0.out; omega
  have HX0 : Hid (∀ i, i < n0 → (rw_ xs0 i).length ≤ 1048576) := Lib.hid fun i hi => by have := hx0 i (by rw [HL0.out]; exact hi); omega
  clear hx0
  clear hn0'
  go_wp2_with fail
  refine (toTable_any q0 a0 n0 c0 xs0 _ (by exact ((HA0.out.keep HB_1.out (Nat.le_refl _)))) HL0.out HX0.out hn0).mono ?_
  rintro e w2 ⟨a0s, c0s, rfl, ho, hb⟩
  have p00_2 := cell_below (p := ⟨w.heap.size, 0, none⟩) (v := .int .i64 q0) p00_1 hb
  have p01_2 := cell_below (p := ⟨w.heap.size, 1, none⟩) (v := .slice a0 n0 c0) p01_1 hb
  have HB_2 : Hid (Below w.heap.size w w2) := Lib.hid (HB_1.out.trans (hb.mono HB_1.out.size))
  clear hb p00_1 p01_1 HB_1
  have hcp0s := ho.capl
  have R0s_2 : Hid (RdR w2 a0s xs0) := Lib.hid ho.rd
  clear ho
  go_wp2_with fail
  refine (spec_MinorsDivisor_any q0 a0s n0 c0s xs0 k1 _ HQ0.out (by exact R0s_2.out) HL0.out HX0.out hn0 (by omega) HK1.out).mono ?_
  rintro e w3 ⟨rfl, hb⟩
  have p00_3 := cell_below (p := ⟨w.heap.size, 0, none⟩) (v := .int .i64 q0) p00_2 hb
  have p01_3 := cell_below (p := ⟨w.heap.size, 1, none⟩) (v := .slice a0 n0 c0) p01_2 hb
  have R0s_3 : Hid (RdR w3 a0s xs0) := Lib.hid (R0s_2.out.keep hb (Nat.le_refl _))
  have HB_3 : Hid (Below w.heap.size w w3) := Lib.hid (HB_2.out.trans (hb.mono HB_2.out.size))
  clear hb p00_2 p01_2 R0s_2 HB_2
  clear R0s_3
  go_wp2_with fail
  refine (toTable_any q0 a0 n0 c0 xs0 _ (by exact ((HA0.out.keep HB_3.out (Nat.le_refl _)))) HL0.out HX0.out hn0).mono ?_
  rintro e w4 ⟨a0x, c0x, rfl, ho, hb⟩
  have p00_4 := cell_below (p := ⟨w.heap.size, 0, none⟩) (v := .int .i64 q0) p00_3 hb
  have p01_4 := cell_below (p := ⟨w.heap.size, 1, none⟩) (v := .slice a0 n0 c0) p01_3 hb
  have HB_4 : Hid (Below w.heap.size w w4) := Lib.hid (HB_3.out.trans (hb.mono HB_3.out.size))
  clear hb p00_3 p01_3 HB_3
  have hcp0x := ho.capl
  have R0x_4 : Hid (RdR w4 a0x xs0) := Lib.hid ho.rd
  clear ho
  have lt_p00_4 : w.heap.size < w4.heap.size := block_lt p00_4
  go_wp2_with fail
  refine (impl_MinorsDivisor_any q0 a0x n0 c0x xs0 k1 _ HQ0.out (by exact R0x_4.out.alloc _) HL0.out HX0.out hn0 (by omega) HK1.out).mono ?_
  rintro e w5 ⟨rfl, hb⟩
  have x00_5 := cell_below (p := ⟨w4.heap.size, 0, none⟩) (v := .int .i64 q0) (by simp) hb
  have x01_5 := cell_below (p := ⟨w4.heap.size, 1, none⟩) (v := .slice a0x n0 c0x) (by simp) hb
  replace hb := below_al1 hb
  have p00_5 := cell_below (p := ⟨w.heap.size, 0, none⟩) (v := .int .i64 q0) p00_4 hb
  have p01_5 := cell_below (p := ⟨w.heap.size, 1, none⟩) (v := .slice a0 n0 c0) p01_4 hb
  have R0x_5 : Hid (RdR w5 a0x xs0) := Lib.hid (R0x_4.out.keep hb (Nat.le_refl _))
  have HB_5 : Hid (Below w.heap.size w w5) := Lib.hid (HB_4.out.trans (hb.mono HB_4.out.size))
  clear hb p00_4 p01_4 R0x_4 HB_4
  go_wp2_with fail
  go_region_held3 (fun w' => w'.cell? ⟨w.heap.size, 0, none⟩ = some (.int .i64 q0) ∧ w'.cell? ⟨w.heap.size, 1, none⟩ = some (.slice a0 n0 c0) ∧ w'.cell? ⟨w4.heap.size, 0, none⟩ = some (.int .i64 q0) ∧ w'.cell? ⟨w4.heap.size, 1, none⟩ = some (.slice a0x n0 c0x)) (go_keep)
    (first
      | (go_at_call 17; (with_reducible refine (toTable_any q0 a0 n0 c0 xs0 _ ?_ HL0.out HX0.out hn0).mono ?_); exact (show RdR w5 a0 xs0 from ((HA0.out.keep HB_5.out (Nat.le_refl _)))); rintro e w6 ⟨a0y, c0y, rfl, ho, hb0⟩; have hb : Below w5.heap.size w5 w6 := ⟨hb0.os, hb0.tape, hb0.output, hb0.size, hb0.block⟩; have p00_6 := cell_below (p := ⟨w.heap.size, 0, none⟩) (v := .int .i64 q0) p00_5 hb; have p01_6 := cell_below (p := ⟨w.heap.size, 1, none⟩) (v := .slice a0 n0 c0) p01_5 hb; have R0x_6 : Hid (RdR w6 a0x xs0) := Lib.hid (R0x_5.out.keep hb (Nat.le_refl _)); have x00_6 := cell_below (p := ⟨w4.heap.size, 0, none⟩) (v := .int .i64 q0) x00_5 hb; have x01_6 := cell_below (p := ⟨w4.heap.size, 1, none⟩) (v := .slice a0x n0 c0x) x01_5 hb; have HB_6 : Hid (Below w.heap.size w w6) := Lib.hid (HB_5.out.trans (hb.mono HB_5.out.size)); have hcp0y := ho.capl; have R0y_6 : Hid (RdR w6 a0y xs0) := Lib.hid ho.rd; clear ho; clear hb hb0)
      | (go_at_call 19; (with_reducible refine (eqTable_t _ _ _ _ _ _ _ xs0 _ ?_ ?_ HL0.out HL0.out (by omega) HX0.out).mono ?_); exact R0x_6.out; exact R0y_6.out; rintro e w7 ⟨rfl, hb0⟩; have hb := hb0; have p00_7 := cell_below (p := ⟨w.heap.size, 0, none⟩) (v := .int .i64 q0) p00_6 hb; have p01_7 := cell_below (p := ⟨w.heap.size, 1, none⟩) (v := .slice a0 n0 c0) p01_6 hb; have R0x_7 : Hid (RdR w7 a0x xs0) := Lib.hid (R0x_6.out.keep hb (Nat.le_refl _)); have x00_7 := cell_below (p := ⟨w4.heap.size, 0, none⟩) (v := .int .i64 q0) x00_6 hb; have x01_7 := cell_below (p := ⟨w4.heap.size, 1, none⟩) (v := .slice a0x n0 c0x) x01_6 hb; have R0y_7 : Hid (RdR w7 a0y xs0) := Lib.hid (R0y_6.out.keep hb (Nat.le_refl _)); have HB_7 : Hid (Below w.heap.size w w7) := Lib.hid (HB_6.out.trans (hb.mono HB_6.out.size)); clear hb hb0))
  go_wp2_with fail
  go_ret
  exact ⟨rfl, HB_7.out⟩
--ENDLAW
end Go.Proofs.Ytjnkhbaklilkkaa
