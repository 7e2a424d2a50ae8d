/- The law on vectors of a subspace. -/
import Derived.Test.YtngikcjdhbflkaaKitV
import Derived.Test.YtngikcjdhbflkaaMatHas
import Derived.Deep.RegionHeld3
set_option linter.unusedVariables false
set_option linter.unusedSimpArgs false
namespace Go.Proofs.Ytngikcjdhbflkaa
open Go.RowKit

--LAW HasVector
set_option maxRecDepth 20000 in
set_option maxHeartbeats 4000000 in
theorem law_HasVector (p0 q0 : Int) (a0 : Option Addr) (n0 c0 : Nat) (xs0 : List (List Int)) (a1 : Option Addr) (n1 c1 : Nat) (xs1 : List Int) (w : World) (hp0 : I64 p0) (hq0 : I64 q0) (hl0 : xs0.length = n0) (ha0 : RdR w a0 xs0) (hw0 : ∀ xs ∈ xs0, xs.length ≤ maxLen ∧ ∀ x ∈ xs, (Lit.int .i64 x).wf = true) (hm0 : n0 ≤ maxLen) (hl1 : xs1.length = n1) (ha1 : RdI w a1 xs1) (hw1 : ∀ x ∈ xs1, (Lit.int .i64 x).wf = true) (hm1 : n1 ≤ maxLen) :
    Calls Try.prog 9 #[.agg #[.int .i64 p0, .int .i64 q0, .slice a0 n0 c0], .slice a1 n1 c1] w fun e w' => e = .returned (.bool true) ∧ Below w.heap.size w w' := by
  have HA0 := Lib.hid ha0
  have HL0 := Lib.hid hl0
  unfold maxLen at hm0
  have HY0 : Hid (∀ xs ∈ xs0, xs.length ≤ maxLen) := Lib.hid fun xs h => (hw0 xs h).1
  have HP0 := Lib.hid hp0
  clear hp0
  have HQ0 := Lib.hid hq0
  clear hq0
  clear ha0 hl0 hw0
  have HA1 := Lib.hid ha1
  have HL1 := Lib.hid hl1
  unfold maxLen at hm1
  clear ha1 hl1 hw1
  by_cases hn1' : 1048576 < (n1 : Int)
  · go_enter Try.func9, Try.ntmps9
    go_wp2_with fail
    go_ret
    exact ⟨rfl, ((Below.refl _ _).alloc (Nat.le_refl _) _)⟩
  have hn1 : n1 ≤ 1048576 := by omega
  clear hn1'
  go_enter Try.func9, Try.ntmps9
  go_wp2_with fail
  refine (szMatrix_any _ _ _ n0 _ xs0 1048576 _ (by exact (HA0.out.alloc _)) HL0.out HY0.out hm0 (by omega) (by omega)).mono ?_
  rintro e w1 ⟨z0, rfl, hz, hb⟩
  have p00_1 := cell_below (p := ⟨w.heap.size, 0, none⟩) (v := .int .i64 p0) (by simp) hb
  have p01_1 := cell_below (p := ⟨w.heap.size, 1, none⟩) (v := .int .i64 q0) (by simp) hb
  have p02_1 := cell_below (p := ⟨w.heap.size, 2, none⟩) (v := .slice a0 n0 c0) (by simp) hb
  replace hb := below_al1 hb
  have HB_1 : Hid (Below w.heap.size w w1) := Lib.hid hb
  clear hb
  rcases hz with rfl | ⟨hz0, hy0, hn0', hx0⟩
  · go_wp2_with fail
    go_ret
    exact ⟨rfl, HB_1.out⟩
  have hn0 : n0 ≤ 1048576 := by have := HL0.out; omega
  have HX0 : Hid (∀ i, i < n0 → (rw_ xs0 i).length ≤ 1048576) := Lib.hid fun i hi => by have := hx0 i (by rw [HL0.out]; exact hi); omega
  clear hx0
  clear hn0'
  go_wp2_with fail
  refine (toMatrix_any p0 q0 a0 n0 c0 xs0 _ (by exact ((HA0.out.keep HB_1.out (Nat.le_refl _)))) HL0.out HX0.out hn0).mono ?_
  rintro e w2 ⟨a0s, c0s, rfl, ho, hb⟩
  have p00_2 := cell_below (p := ⟨w.heap.size, 0, none⟩) (v := .int .i64 p0) p00_1 hb
  have p01_2 := cell_below (p := ⟨w.heap.size, 1, none⟩) (v := .int .i64 q0) p01_1 hb
  have p02_2 := cell_below (p := ⟨w.heap.size, 2, none⟩) (v := .slice a0 n0 c0) p02_1 hb
  have HB_2 : Hid (Below w.heap.size w w2) := Lib.hid (HB_1.out.trans (hb.mono HB_1.out.size))
  clear hb p00_1 p01_1 p02_1 HB_1
  have hcp0s := ho.capl
  have R0s_2 : Hid (RdR w2 a0s xs0) := Lib.hid ho.rd
  clear ho
  go_wp2_with fail
  refine (toInt64S_any a1 n1 c1 xs1 _ (by exact ((HA1.out.keep HB_2.out (Nat.le_refl _)))) HL1.out hn1).mono ?_
  rintro e w3 ⟨a1s, c1s, rfl, ho, hb⟩
  have p00_3 := cell_below (p := ⟨w.heap.size, 0, none⟩) (v := .int .i64 p0) p00_2 hb
  have p01_3 := cell_below (p := ⟨w.heap.size, 1, none⟩) (v := .int .i64 q0) p01_2 hb
  have p02_3 := cell_below (p := ⟨w.heap.size, 2, none⟩) (v := .slice a0 n0 c0) p02_2 hb
  have R0s_3 : Hid (RdR w3 a0s xs0) := Lib.hid (R0s_2.out.keep hb (Nat.le_refl _))
  have HB_3 : Hid (Below w.heap.size w w3) := Lib.hid (HB_2.out.trans (hb.mono HB_2.out.size))
  clear hb p00_2 p01_2 p02_2 R0s_2 HB_2
  have R1s_3 : Hid (RdI w3 a1s xs1) := Lib.hid ho.rd
  clear ho
  go_wp2_with fail
  refine (spec_HasVector_any p0 q0 a0s n0 c0s xs0 a1s n1 c1s xs1 _ HP0.out HQ0.out (by exact R0s_3.out) HL0.out HX0.out hn0 (by omega) (by exact R1s_3.out) HL1.out hn1).mono ?_
  rintro e w4 ⟨rfl, hb⟩
  have p00_4 := cell_below (p := ⟨w.heap.size, 0, none⟩) (v := .int .i64 p0) p00_3 hb
  have p01_4 := cell_below (p := ⟨w.heap.size, 1, none⟩) (v := .int .i64 q0) p01_3 hb
  have p02_4 := cell_below (p := ⟨w.heap.size, 2, none⟩) (v := .slice a0 n0 c0) p02_3 hb
  have R0s_4 : Hid (RdR w4 a0s xs0) := Lib.hid (R0s_3.out.keep hb (Nat.le_refl _))
  have R1s_4 : Hid (RdI w4 a1s xs1) := Lib.hid (R1s_3.out.keep hb (Nat.le_refl _))
  have HB_4 : Hid (Below w.heap.size w w4) := Lib.hid (HB_3.out.trans (hb.mono HB_3.out.size))
  clear hb p00_3 p01_3 p02_3 R0s_3 R1s_3 HB_3
  clear R0s_4
  clear R1s_4
  go_wp2_with fail
  refine (toMatrix_any p0 q0 a0 n0 c0 xs0 _ (by exact ((HA0.out.keep HB_4.out (Nat.le_refl _)))) HL0.out HX0.out hn0).mono ?_
  rintro e w5 ⟨a0x, c0x, rfl, ho, hb⟩
  have p00_5 := cell_below (p := ⟨w.heap.size, 0, none⟩) (v := .int .i64 p0) p00_4 hb
  have p01_5 := cell_below (p := ⟨w.heap.size, 1, none⟩) (v := .int .i64 q0) p01_4 hb
  have p02_5 := cell_below (p := ⟨w.heap.size, 2, none⟩) (v := .slice a0 n0 c0) p02_4 hb
  have HB_5 : Hid (Below w.heap.size w w5) := Lib.hid (HB_4.out.trans (hb.mono HB_4.out.size))
  clear hb p00_4 p01_4 p02_4 HB_4
  have hcp0x := ho.capl
  have R0x_5 : Hid (RdR w5 a0x xs0) := Lib.hid ho.rd
  clear ho
  have lt_p00_5 : w.heap.size < w5.heap.size := block_lt p00_5
  go_wp2_with fail
  refine (toInt64S_any a1 n1 c1 xs1 _ (by exact ((HA1.out.keep HB_5.out (Nat.le_refl _)).alloc _)) HL1.out hn1).mono ?_
  rintro e w6 ⟨a1x, c1x, rfl, ho, hb⟩
  have x00_6 := cell_below (p := ⟨w5.heap.size, 0, none⟩) (v := .int .i64 p0) (by simp) hb
  have x01_6 := cell_below (p := ⟨w5.heap.size, 1, none⟩) (v := .int .i64 q0) (by simp) hb
  have x02_6 := cell_below (p := ⟨w5.heap.size, 2, none⟩) (v := .slice a0x n0 c0x) (by simp) hb
  replace hb := below_al1 hb
  have p00_6 := cell_below (p := ⟨w.heap.size, 0, none⟩) (v := .int .i64 p0) p00_5 hb
  have p01_6 := cell_below (p := ⟨w.heap.size, 1, none⟩) (v := .int .i64 q0) p01_5 hb
  have p02_6 := cell_below (p := ⟨w.heap.size, 2, none⟩) (v := .slice a0 n0 c0) p02_5 hb
  have R0x_6 : Hid (RdR w6 a0x xs0) := Lib.hid (R0x_5.out.keep hb (Nat.le_refl _))
  have HB_6 : Hid (Below w.heap.size w w6) := Lib.hid (HB_5.out.trans (hb.mono HB_5.out.size))
  clear hb p00_5 p01_5 p02_5 R0x_5 HB_5
  have R1x_6 : Hid (RdI w6 a1x xs1) := Lib.hid ho.rd
  clear ho
  go_wp2_with fail
  refine (impl_HasVector_any p0 q0 a0x n0 c0x xs0 a1x n1 c1x xs1 _ HP0.out HQ0.out (by exact R0x_6.out) HL0.out HX0.out hn0 (by omega) (by exact R1x_6.out) HL1.out hn1).mono ?_
  rintro e w7 ⟨rfl, hb⟩
  have p00_7 := cell_below (p := ⟨w.heap.size, 0, none⟩) (v := .int .i64 p0) p00_6 hb
  have p01_7 := cell_below (p := ⟨w.heap.size, 1, none⟩) (v := .int .i64 q0) p01_6 hb
  have p02_7 := cell_below (p := ⟨w.heap.size, 2, none⟩) (v := .slice a0 n0 c0) p02_6 hb
  have R0x_7 : Hid (RdR w7 a0x xs0) := Lib.hid (R0x_6.out.keep hb (Nat.le_refl _))
  have x00_7 := cell_below (p := ⟨w5.heap.size, 0, none⟩) (v := .int .i64 p0) x00_6 hb
  have x01_7 := cell_below (p := ⟨w5.heap.size, 1, none⟩) (v := .int .i64 q0) x01_6 hb
  have x02_7 := cell_below (p := ⟨w5.heap.size, 2, none⟩) (v := .slice a0x n0 c0x) x02_6 hb
  have R1x_7 : Hid (RdI w7 a1x xs1) := Lib.hid (R1x_6.out.keep hb (Nat.le_refl _))
  have HB_7 : Hid (Below w.heap.size w w7) := Lib.hid (HB_6.out.trans (hb.mono HB_6.out.size))
  clear hb p00_6 p01_6 p02_6 R0x_6 x00_6 x01_6 x02_6 R1x_6 HB_6
  go_wp2_with fail
  go_region_held3 (fun w' => w'.cell? ⟨w.heap.size, 0, none⟩ = some (.int .i64 p0) ∧ w'.cell? ⟨w.heap.size, 1, none⟩ = some (.int .i64 q0) ∧ w'.cell? ⟨w.heap.size, 2, none⟩ = some (.slice a0 n0 c0) ∧ w'.cell? ⟨w5.heap.size, 0, none⟩ = some (.int .i64 p0) ∧ w'.cell? ⟨w5.heap.size, 1, none⟩ = some (.int .i64 q0) ∧ w'.cell? ⟨w5.heap.size, 2, none⟩ = some (.slice a0x n0 c0x)) (go_keep)
    (first
      | (go_at_call 22; (with_reducible refine (toMatrix_any p0 q0 a0 n0 c0 xs0 _ ?_ HL0.out HX0.out hn0).mono ?_); exact (show RdR w7 a0 xs0 from ((HA0.out.keep HB_7.out (Nat.le_refl _)))); rintro e w8 ⟨a0y, c0y, rfl, ho, hb0⟩; have hb : Below w7.heap.size w7 w8 := ⟨hb0.os, hb0.tape, hb0.output, hb0.size, hb0.block⟩; have p00_8 := cell_below (p := ⟨w.heap.size, 0, none⟩) (v := .int .i64 p0) p00_7 hb; have p01_8 := cell_below (p := ⟨w.heap.size, 1, none⟩) (v := .int .i64 q0) p01_7 hb; have p02_8 := cell_below (p := ⟨w.heap.size, 2, none⟩) (v := .slice a0 n0 c0) p02_7 hb; have R0x_8 : Hid (RdR w8 a0x xs0) := Lib.hid (R0x_7.out.keep hb (Nat.le_refl _)); have x00_8 := cell_below (p := ⟨w5.heap.size, 0, none⟩) (v := .int .i64 p0) x00_7 hb; have x01_8 := cell_below (p := ⟨w5.heap.size, 1, none⟩) (v := .int .i64 q0) x01_7 hb; have x02_8 := cell_below (p := ⟨w5.heap.size, 2, none⟩) (v := .slice a0x n0 c0x) x02_7 hb; have R1x_8 : Hid (RdI w8 a1x xs1) := Lib.hid (R1x_7.out.keep hb (Nat.le_refl _)); have HB_8 : Hid (Below w.heap.size w w8) := Lib.hid (HB_7.out.trans (hb.mono HB_7.out.size)); have hcp0y := ho.capl; have R0y_8 : Hid (RdR w8 a0y xs0) := Lib.hid ho.rd; clear ho; clear hb hb0)
      | (go_at_call 17; (with_reducible refine (eqMatrix_t _ _ _ _ _ _ _ _ xs0 _ ?_ ?_ HL0.out HL0.out (by omega) HX0.out).mono ?_); exact R0x_8.out; exact R0y_8.out; rintro e w9 ⟨rfl, hb0⟩; have hb := hb0; have p00_9 := cell_below (p := ⟨w.heap.size, 0, none⟩) (v := .int .i64 p0) p00_8 hb; have p01_9 := cell_below (p := ⟨w.heap.size, 1, none⟩) (v := .int .i64 q0) p01_8 hb; have p02_9 := cell_below (p := ⟨w.heap.size, 2, none⟩) (v := .slice a0 n0 c0) p02_8 hb; have R0x_9 : Hid (RdR w9 a0x xs0) := Lib.hid (R0x_8.out.keep hb (Nat.le_refl _)); have x00_9 := cell_below (p := ⟨w5.heap.size, 0, none⟩) (v := .int .i64 p0) x00_8 hb; have x01_9 := cell_below (p := ⟨w5.heap.size, 1, none⟩) (v := .int .i64 q0) x01_8 hb; have x02_9 := cell_below (p := ⟨w5.heap.size, 2, none⟩) (v := .slice a0x n0 c0x) x02_8 hb; have R1x_9 : Hid (RdI w9 a1x xs1) := Lib.hid (R1x_8.out.keep hb (Nat.le_refl _)); have R0y_9 : Hid (RdR w9 a0y xs0) := Lib.hid (R0y_8.out.keep hb (Nat.le_refl _)); have HB_9 : Hid (Below w.heap.size w w9) := Lib.hid (HB_8.out.trans (hb.mono HB_8.out.size)); clear hb hb0))
  go_wp2_with fail
  refine (toInt64S_any a1 n1 c1 xs1 _ (by exact ((HA1.out.keep HB_9.out (Nat.le_refl _)))) HL1.out hn1).mono ?_
  rintro e w10 ⟨a1y, c1y, rfl, ho, hb⟩
  have p00_10 := cell_below (p := ⟨w.heap.size, 0, none⟩) (v := .int .i64 p0) p00_9 hb
  have p01_10 := cell_below (p := ⟨w.heap.size, 1, none⟩) (v := .int .i64 q0) p01_9 hb
  have p02_10 := cell_below (p := ⟨w.heap.size, 2, none⟩) (v := .slice a0 n0 c0) p02_9 hb
  have x00_10 := cell_below (p := ⟨w5.heap.size, 0, none⟩) (v := .int .i64 p0) x00_9 hb
  have x01_10 := cell_below (p := ⟨w5.heap.size, 1, none⟩) (v := .int .i64 q0) x01_9 hb
  have x02_10 := cell_below (p := ⟨w5.heap.size, 2, none⟩) (v := .slice a0x n0 c0x) x02_9 hb
  have R1x_10 : Hid (RdI w10 a1x xs1) := Lib.hid (R1x_9.out.keep hb (Nat.le_refl _))
  have HB_10 : Hid (Below w.heap.size w w10) := Lib.hid (HB_9.out.trans (hb.mono HB_9.out.size))
  clear hb p00_9 p01_9 p02_9 x00_9 x01_9 x02_9 R1x_9 HB_9
  have R1y_10 : Hid (RdI w10 a1y xs1) := Lib.hid ho.rd
  clear ho
  go_wp2_with fail
  refine (eqInt64S_b _ _ _ _ _ _ xs1 _ (by exact R1x_10.out) (by exact R1y_10.out) HL1.out HL1.out (by omega)).mono ?_
  rintro e w11 ⟨rfl, hb⟩
  have p00_11 := cell_below (p := ⟨w.heap.size, 0, none⟩) (v := .int .i64 p0) p00_10 hb
  have p01_11 := cell_below (p := ⟨w.heap.size, 1, none⟩) (v := .int .i64 q0) p01_10 hb
  have p02_11 := cell_below (p := ⟨w.heap.size, 2, none⟩) (v := .slice a0 n0 c0) p02_10 hb
  have x00_11 := cell_below (p := ⟨w5.heap.size, 0, none⟩) (v := .int .i64 p0) x00_10 hb
  have x01_11 := cell_below (p := ⟨w5.heap.size, 1, none⟩) (v := .int .i64 q0) x01_10 hb
  have x02_11 := cell_below (p := ⟨w5.heap.size, 2, none⟩) (v := .slice a0x n0 c0x) x02_10 hb
  have R1x_11 : Hid (RdI w11 a1x xs1) := Lib.hid (R1x_10.out.keep hb (Nat.le_refl _))
  have R1y_11 : Hid (RdI w11 a1y xs1) := Lib.hid (R1y_10.out.keep hb (Nat.le_refl _))
  have HB_11 : Hid (Below w.heap.size w w11) := Lib.hid (HB_10.out.trans (hb.mono HB_10.out.size))
  clear hb p00_10 p01_10 p02_10 x00_10 x01_10 x02_10 R1x_10 R1y_10 HB_10
  go_wp2_with fail
  go_ret
  exact ⟨rfl, HB_11.out⟩
--ENDLAW
end Go.Proofs.Ytngikcjdhbflkaa
