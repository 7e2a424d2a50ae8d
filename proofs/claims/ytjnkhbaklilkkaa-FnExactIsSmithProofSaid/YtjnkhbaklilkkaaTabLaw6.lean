/- The law on the checker of Smith proofs. -/
import Derived.Test.YtjnkhbaklilkkaaSmp
import Derived.Test.YtjnkhbaklilkkaaSmpS
import Derived.Test.YtjnkhbaklilkkaaKitT
import Derived.Test.YtjnkhbaklilkkaaKitV
import Derived.Deep.RegionHeld3
set_option linter.unusedVariables false
set_option linter.unusedSimpArgs false
namespace Go.Proofs.Ytjnkhbaklilkkaa
open Go.RowKit

--LAW IsSmithProof
set_option maxRecDepth 20000 in
set_option maxHeartbeats 4000000 in
theorem law_IsSmithProof (q0 : Int) (a0 : Option Addr) (n0 c0 : Nat) (xs0 : List (List Int)) (q1 : Int) (a1 : Option Addr) (n1 c1 : Nat) (xs1 : List (List Int)) (q2 : Int) (a2 : Option Addr) (n2 c2 : Nat) (xs2 : List (List Int)) (a3 : Option Addr) (n3 c3 : Nat) (xs3 : List Int) (w : World) (hq0 : I64 q0) (hl0 : xs0.length = n0) (ha0 : RdR w a0 xs0) (hw0 : ∀ xs ∈ xs0, xs.length ≤ maxLen ∧ ∀ x ∈ xs, (Lit.int .i64 x).wf = true) (hm0 : n0 ≤ maxLen) (hq1 : I64 q1) (hl1 : xs1.length = n1) (ha1 : RdR w a1 xs1) (hw1 : ∀ xs ∈ xs1, xs.length ≤ maxLen ∧ ∀ x ∈ xs, (Lit.int .i64 x).wf = true) (hm1 : n1 ≤ maxLen) (hq2 : I64 q2) (hl2 : xs2.length = n2) (ha2 : RdR w a2 xs2) (hw2 : ∀ xs ∈ xs2, xs.length ≤ maxLen ∧ ∀ x ∈ xs, (Lit.int .i64 x).wf = true) (hm2 : n2 ≤ maxLen) (hl3 : xs3.length = n3) (ha3 : RdI w a3 xs3) (hw3 : ∀ x ∈ xs3, (Lit.int .i64 x).wf = true) (hm3 : n3 ≤ maxLen) :
    Calls Try.prog 8 #[.agg #[.int .i64 q0, .slice a0 n0 c0], .agg #[.int .i64 q1, .slice a1 n1 c1], .agg #[.int .i64 q2, .slice a2 n2 c2], .slice a3 n3 c3] w fun e w' => e = .returned (.bool true) ∧ Below w.heap.size w w' := by
  have HA0 := Lib.hid ha0
  have HL0 := Lib.hid hl0
  unfold maxLen at hm0
  have HY0 : Hid (∀ xs ∈ xs0, xs.length ≤ maxLen) := Lib.hid fun xs h => (hw0 xs h).1
  have HQ0 := Lib.hid hq0
  clear hq0
  clear ha0 hl0 hw0
  have HA1 := Lib.hid ha1
  have HL1 := Lib.hid hl1
  unfold maxLen at hm1
  have HY1 : Hid (∀ xs ∈ xs1, xs.length ≤ maxLen) := Lib.hid fun xs h => (hw1 xs h).1
  have HQ1 := Lib.hid hq1
  clear hq1
  clear ha1 hl1 hw1
  have HA2 := Lib.hid ha2
  have HL2 := Lib.hid hl2
  unfold maxLen at hm2
  have HY2 : Hid (∀ xs ∈ xs2, xs.length ≤ maxLen) := Lib.hid fun xs h => (hw2 xs h).1
  have HQ2 := Lib.hid hq2
  clear hq2
  clear ha2 hl2 hw2
  have HA3 := Lib.hid ha3
  have HL3 := Lib.hid hl3
  unfold maxLen at hm3
  have HW3 : Hid (∀ x ∈ xs3, I64 x) := Lib.hid fun x h => wf_bd (hw3 x h)
  clear ha3 hl3 hw3
  by_cases hn3' : 1048576 < (n3 : Int)
  · go_enter Try.func8, Try.ntmps8
    go_wp2_with fail
    go_ret
    exact ⟨rfl, ((((Below.refl _ _).alloc (Nat.le_refl _) _).alloc (by simp) _).alloc (by simp; omega) _)⟩
  have hn3 : n3 ≤ 1048576 := by omega
  clear hn3'
  go_enter Try.func8, Try.ntmps8
  go_wp2_with fail
  refine (szTable_any _ _ n0 _ xs0 1048576 _ (by exact (((HA0.out.alloc _).alloc _).alloc _)) HL0.out HY0.out hm0 (by omega) (by omega)).mono ?_
  rintro e w1 ⟨z0, rfl, hz, hb⟩
  have p00_1 : w1.cell? ⟨w.heap.size, 0, none⟩ = some (.int .i64 q0) := ((box3 w _ _ _ _).1.keep hb).cell 0
  have p01_1 : w1.cell? ⟨w.heap.size, 1, none⟩ = some (.slice a0 n0 c0) := ((box3 w _ _ _ _).1.keep hb).cell 1
  have p10_1 : w1.cell? ⟨w.heap.size + 1, 0, none⟩ = some (.int .i64 q1) := ((box3 w _ _ _ _).2.1.keep hb).cell 0
  have p11_1 : w1.cell? ⟨w.heap.size + 1, 1, none⟩ = some (.slice a1 n1 c1) := ((box3 w _ _ _ _).2.1.keep hb).cell 1
  have p20_1 : w1.cell? ⟨w.heap.size + 1 + 1, 0, none⟩ = some (.int .i64 q2) := ((box3 w _ _ _ _).2.2.keep hb).cell 0
  have p21_1 : w1.cell? ⟨w.heap.size + 1 + 1, 1, none⟩ = some (.slice a2 n2 c2) := ((box3 w _ _ _ _).2.2.keep hb).cell 1
  replace hb := below_al3 hb
  have HB_1 : Hid (Below w.heap.size w w1) := Lib.hid hb
  clear hb
  rcases hz with rfl | ⟨hz0, hy0, hn0', hx0⟩
  · go_wp2_with fail
    go_ret
    exact ⟨rfl, HB_1.out⟩
  have hn0 : n0 ≤ 1048576 := by have := HL0.out; omega
  have HX0 : Hid (∀ i, i < n0 → (rw_ xs0 i).length ≤ 1048576) := Lib.hid fun i hi => by have := hx0 i (by rw [HL0.out]; exact hi); omega
  clear hx0
  clear hn0'
  go_wp2_with fail
  refine (szTable_any _ _ n1 _ xs1 z0 _ (by exact (HA1.out.keep HB_1.out (Nat.le_refl _))) HL1.out HY1.out hm1 (by omega) (by omega)).mono ?_
  rintro e w2 ⟨z1, rfl, hz, hb⟩
  have p00_2 := cell_below (p := ⟨w.heap.size, 0, none⟩) (v := .int .i64 q0) p00_1 hb
  have p01_2 := cell_below (p := ⟨w.heap.size, 1, none⟩) (v := .slice a0 n0 c0) p01_1 hb
  have p10_2 := cell_below (p := ⟨w.heap.size + 1, 0, none⟩) (v := .int .i64 q1) p10_1 hb
  have p11_2 := cell_below (p := ⟨w.heap.size + 1, 1, none⟩) (v := .slice a1 n1 c1) p11_1 hb
  have p20_2 := cell_below (p := ⟨w.heap.size + 1 + 1, 0, none⟩) (v := .int .i64 q2) p20_1 hb
  have p21_2 := cell_below (p := ⟨w.heap.size + 1 + 1, 1, none⟩) (v := .slice a2 n2 c2) p21_1 hb
  have HB_2 : Hid (Below w.heap.size w w2) := Lib.hid (HB_1.out.trans (hb.mono HB_1.out.size))
  clear hb p00_1 p01_1 p10_1 p11_1 p20_1 p21_1 HB_1
  rcases hz with rfl | ⟨hz1, hy1, hn1', hx1⟩
  · go_wp2_with fail
    go_ret
    exact ⟨rfl, HB_2.out⟩
  have hn1 : n1 ≤ 1048576 := by have := HL1.out; omega
  have HX1 : Hid (∀ i, i < n1 → (rw_ xs1 i).length ≤ 1048576) := Lib.hid fun i hi => by have := hx1 i (by rw [HL1.out]; exact hi); omega
  clear hx1
  clear hn1'
  go_wp2_with fail
  refine (szTable_any _ _ n2 _ xs2 z1 _ (by exact (HA2.out.keep HB_2.out (Nat.le_refl _))) HL2.out HY2.out hm2 (by omega) (by omega)).mono ?_
  rintro e w3 ⟨z2, rfl, hz, hb⟩
  have p00_3 := cell_below (p := ⟨w.heap.size, 0, none⟩) (v := .int .i64 q0) p00_2 hb
  have p01_3 := cell_below (p := ⟨w.heap.size, 1, none⟩) (v := .slice a0 n0 c0) p01_2 hb
  have p10_3 := cell_below (p := ⟨w.heap.size + 1, 0, none⟩) (v := .int .i64 q1) p10_2 hb
  have p11_3 := cell_below (p := ⟨w.heap.size + 1, 1, none⟩) (v := .slice a1 n1 c1) p11_2 hb
  have p20_3 := cell_below (p := ⟨w.heap.size + 1 + 1, 0, none⟩) (v := .int .i64 q2) p20_2 hb
  have p21_3 := cell_below (p := ⟨w.heap.size + 1 + 1, 1, none⟩) (v := .slice a2 n2 c2) p21_2 hb
  have HB_3 : Hid (Below w.heap.size w w3) := Lib.hid (HB_2.out.trans (hb.mono HB_2.out.size))
  clear hb p00_2 p01_2 p10_2 p11_2 p20_2 p21_2 HB_2
  rcases hz with rfl | ⟨hz2, hy2, hn2', hx2⟩
  · go_wp2_with fail
    go_ret
    exact ⟨rfl, HB_3.out⟩
  have hn2 : n2 ≤ 1048576 := by have := HL2.out; omega
  have HX2 : Hid (∀ i, i < n2 → (rw_ xs2 i).length ≤ 1048576) := Lib.hid fun i hi => by have := hx2 i (by rw [HL2.out]; exact hi); omega
  clear hx2
  clear hn2'
  go_wp2_with fail
  go_region_held3 (fun w' => w'.cell? ⟨w.heap.size, 0, none⟩ = some (.int .i64 q0) ∧ w'.cell? ⟨w.heap.size, 1, none⟩ = some (.slice a0 n0 c0) ∧ w'.cell? ⟨w.heap.size + 1, 0, none⟩ = some (.int .i64 q1) ∧ w'.cell? ⟨w.heap.size + 1, 1, none⟩ = some (.slice a1 n1 c1) ∧ w'.cell? ⟨w.heap.size + 1 + 1, 0, none⟩ = some (.int .i64 q2) ∧ w'.cell? ⟨w.heap.size + 1 + 1, 1, none⟩ = some (.slice a2 n2 c2)) (go_keep)
    (first
      | (go_at_call 17; (with_reducible refine (toTable_any q0 a0 n0 c0 xs0 _ ?_ HL0.out HX0.out hn0).mono ?_); exact (show RdR w3 a0 xs0 from (HA0.out.keep HB_3.out (Nat.le_refl _))); rintro e w4 ⟨a0s, c0s, rfl, ho, hb0⟩; have hb : Below w3.heap.size w3 w4 := ⟨hb0.os, hb0.tape, hb0.output, hb0.size, hb0.block⟩; have p00_4 := cell_below (p := ⟨w.heap.size, 0, none⟩) (v := .int .i64 q0) p00_3 hb; have p01_4 := cell_below (p := ⟨w.heap.size, 1, none⟩) (v := .slice a0 n0 c0) p01_3 hb; have p10_4 := cell_below (p := ⟨w.heap.size + 1, 0, none⟩) (v := .int .i64 q1) p10_3 hb; have p11_4 := cell_below (p := ⟨w.heap.size + 1, 1, none⟩) (v := .slice a1 n1 c1) p11_3 hb; have p20_4 := cell_below (p := ⟨w.heap.size + 1 + 1, 0, none⟩) (v := .int .i64 q2) p20_3 hb; have p21_4 := cell_below (p := ⟨w.heap.size + 1 + 1, 1, none⟩) (v := .slice a2 n2 c2) p21_3 hb; have HB_4 : Hid (Below w.heap.size w w4) := Lib.hid (HB_3.out.trans (hb.mono HB_3.out.size)); have hcp0s := ho.capl; have R0s_4 : Hid (RdR w4 a0s xs0) := Lib.hid ho.rd; clear ho; clear hb hb0)
      | (go_at_call 17; (with_reducible refine (toTable_any q1 a1 n1 c1 xs1 _ ?_ HL1.out HX1.out hn1).mono ?_); exact (show RdR w4 a1 xs1 from (HA1.out.keep HB_4.out (Nat.le_refl _))); rintro e w5 ⟨a1s, c1s, rfl, ho, hb0⟩; have hb := hb0; have p00_5 := cell_below (p := ⟨w.heap.size, 0, none⟩) (v := .int .i64 q0) p00_4 hb; have p01_5 := cell_below (p := ⟨w.heap.size, 1, none⟩) (v := .slice a0 n0 c0) p01_4 hb; have p10_5 := cell_below (p := ⟨w.heap.size + 1, 0, none⟩) (v := .int .i64 q1) p10_4 hb; have p11_5 := cell_below (p := ⟨w.heap.size + 1, 1, none⟩) (v := .slice a1 n1 c1) p11_4 hb; have p20_5 := cell_below (p := ⟨w.heap.size + 1 + 1, 0, none⟩) (v := .int .i64 q2) p20_4 hb; have p21_5 := cell_below (p := ⟨w.heap.size + 1 + 1, 1, none⟩) (v := .slice a2 n2 c2) p21_4 hb; have R0s_5 : Hid (RdR w5 a0s xs0) := Lib.hid (R0s_4.out.keep hb (Nat.le_refl _)); have HB_5 : Hid (Below w.heap.size w w5) := Lib.hid (HB_4.out.trans (hb.mono HB_4.out.size)); have hcp1s := ho.capl; have R1s_5 : Hid (RdR w5 a1s xs1) := Lib.hid ho.rd; clear ho; clear hb hb0)
      | (go_at_call 17; (with_reducible refine (toTable_any q2 a2 n2 c2 xs2 _ ?_ HL2.out HX2.out hn2).mono ?_); exact (show RdR w5 a2 xs2 from (HA2.out.keep HB_5.out (Nat.le_refl _))); rintro e w6 ⟨a2s, c2s, rfl, ho, hb0⟩; have hb := hb0; have p00_6 := cell_below (p := ⟨w.heap.size, 0, none⟩) (v := .int .i64 q0) p00_5 hb; have p01_6 := cell_below (p := ⟨w.heap.size, 1, none⟩) (v := .slice a0 n0 c0) p01_5 hb; have p10_6 := cell_below (p := ⟨w.heap.size + 1, 0, none⟩) (v := .int .i64 q1) p10_5 hb; have p11_6 := cell_below (p := ⟨w.heap.size + 1, 1, none⟩) (v := .slice a1 n1 c1) p11_5 hb; have p20_6 := cell_below (p := ⟨w.heap.size + 1 + 1, 0, none⟩) (v := .int .i64 q2) p20_5 hb; have p21_6 := cell_below (p := ⟨w.heap.size + 1 + 1, 1, none⟩) (v := .slice a2 n2 c2) p21_5 hb; have R0s_6 : Hid (RdR w6 a0s xs0) := Lib.hid (R0s_5.out.keep hb (Nat.le_refl _)); have R1s_6 : Hid (RdR w6 a1s xs1) := Lib.hid (R1s_5.out.keep hb (Nat.le_refl _)); have HB_6 : Hid (Below w.heap.size w w6) := Lib.hid (HB_5.out.trans (hb.mono HB_5.out.size)); have hcp2s := ho.capl; have R2s_6 : Hid (RdR w6 a2s xs2) := Lib.hid ho.rd; clear ho; clear hb hb0)
      | (go_at_call 29; (with_reducible refine (toInt64S_any a3 n3 c3 xs3 _ ?_ HL3.out hn3).mono ?_); exact (show RdI w6 a3 xs3 from (HA3.out.keep HB_6.out (Nat.le_refl _))); rintro e w7 ⟨a3s, c3s, rfl, ho, hb0⟩; have hb := hb0; have p00_7 := cell_below (p := ⟨w.heap.size, 0, none⟩) (v := .int .i64 q0) p00_6 hb; have p01_7 := cell_below (p := ⟨w.heap.size, 1, none⟩) (v := .slice a0 n0 c0) p01_6 hb; have p10_7 := cell_below (p := ⟨w.heap.size + 1, 0, none⟩) (v := .int .i64 q1) p10_6 hb; have p11_7 := cell_below (p := ⟨w.heap.size + 1, 1, none⟩) (v := .slice a1 n1 c1) p11_6 hb; have p20_7 := cell_below (p := ⟨w.heap.size + 1 + 1, 0, none⟩) (v := .int .i64 q2) p20_6 hb; have p21_7 := cell_below (p := ⟨w.heap.size + 1 + 1, 1, none⟩) (v := .slice a2 n2 c2) p21_6 hb; have R0s_7 : Hid (RdR w7 a0s xs0) := Lib.hid (R0s_6.out.keep hb (Nat.le_refl _)); have R1s_7 : Hid (RdR w7 a1s xs1) := Lib.hid (R1s_6.out.keep hb (Nat.le_refl _)); have R2s_7 : Hid (RdR w7 a2s xs2) := Lib.hid (R2s_6.out.keep hb (Nat.le_refl _)); have HB_7 : Hid (Below w.heap.size w w7) := Lib.hid (HB_6.out.trans (hb.mono HB_6.out.size)); have R3s_7 : Hid (RdI w7 a3s xs3) := Lib.hid ho.rd; clear ho; clear hb hb0)
      | (go_at_call 28; (with_reducible refine (spec_IsSmithProof_any q0 a0s n0 c0s xs0 q1 a1s n1 c1s xs1 q2 a2s n2 c2s xs2 a3s n3 c3s xs3 _ HQ0.out ?_ HL0.out HX0.out hn0 (by omega) HQ1.out ?_ HL1.out HX1.out hn1 (by omega) HQ2.out ?_ HL2.out HX2.out hn2 (by omega) ?_ HL3.out hn3 HW3.out).mono ?_); exact R0s_7.out; exact R1s_7.out; exact R2s_7.out; exact R3s_7.out; rintro e w8 ⟨rfl, hb0⟩; have hb := hb0; have p00_8 := cell_below (p := ⟨w.heap.size, 0, none⟩) (v := .int .i64 q0) p00_7 hb; have p01_8 := cell_below (p := ⟨w.heap.size, 1, none⟩) (v := .slice a0 n0 c0) p01_7 hb; have p10_8 := cell_below (p := ⟨w.heap.size + 1, 0, none⟩) (v := .int .i64 q1) p10_7 hb; have p11_8 := cell_below (p := ⟨w.heap.size + 1, 1, none⟩) (v := .slice a1 n1 c1) p11_7 hb; have p20_8 := cell_below (p := ⟨w.heap.size + 1 + 1, 0, none⟩) (v := .int .i64 q2) p20_7 hb; have p21_8 := cell_below (p := ⟨w.heap.size + 1 + 1, 1, none⟩) (v := .slice a2 n2 c2) p21_7 hb; have R0s_8 : Hid (RdR w8 a0s xs0) := Lib.hid (R0s_7.out.keep hb (Nat.le_refl _)); have R1s_8 : Hid (RdR w8 a1s xs1) := Lib.hid (R1s_7.out.keep hb (Nat.le_refl _)); have R2s_8 : Hid (RdR w8 a2s xs2) := Lib.hid (R2s_7.out.keep hb (Nat.le_refl _)); have R3s_8 : Hid (RdI w8 a3s xs3) := Lib.hid (R3s_7.out.keep hb (Nat.le_refl _)); have HB_8 : Hid (Below w.heap.size w w8) := Lib.hid (HB_7.out.trans (hb.mono HB_7.out.size)); clear hb hb0))
  go_wp2_with fail
  refine (toTable_any q0 a0 n0 c0 xs0 _ (by exact (HA0.out.keep HB_8.out (Nat.le_refl _))) HL0.out HX0.out hn0).mono ?_
  rintro e w9 ⟨a0x, c0x, rfl, ho, hb⟩
  have p00_9 := cell_below (p := ⟨w.heap.size, 0, none⟩) (v := .int .i64 q0) p00_8 hb
  have p01_9 := cell_below (p := ⟨w.heap.size, 1, none⟩) (v := .slice a0 n0 c0) p01_8 hb
  have p10_9 := cell_below (p := ⟨w.heap.size + 1, 0, none⟩) (v := .int .i64 q1) p10_8 hb
  have p11_9 := cell_below (p := ⟨w.heap.size + 1, 1, none⟩) (v := .slice a1 n1 c1) p11_8 hb
  have p20_9 := cell_below (p := ⟨w.heap.size + 1 + 1, 0, none⟩) (v := .int .i64 q2) p20_8 hb
  have p21_9 := cell_below (p := ⟨w.heap.size + 1 + 1, 1, none⟩) (v := .slice a2 n2 c2) p21_8 hb
  have HB_9 : Hid (Below w.heap.size w w9) := Lib.hid (HB_8.out.trans (hb.mono HB_8.out.size))
  clear hb p00_8 p01_8 p10_8 p11_8 p20_8 p21_8 HB_8
  have hcp0x := ho.capl
  have R0x_9 : Hid (RdR w9 a0x xs0) := Lib.hid ho.rd
  clear ho
  have lt_p00_9 : w.heap.size < w9.heap.size := block_lt p00_9
  have lt_p10_9 : w.heap.size + 1 < w9.heap.size := block_lt p10_9
  have lt_p20_9 : w.heap.size + 1 + 1 < w9.heap.size := block_lt p20_9
  go_wp2_with fail
  refine (toTable_any q1 a1 n1 c1 xs1 _ (by exact ((HA1.out.keep HB_9.out (Nat.le_refl _)).alloc _)) HL1.out HX1.out hn1).mono ?_
  rintro e w10 ⟨a1x, c1x, rfl, ho, hb⟩
  have x00_10 := cell_below (p := ⟨w9.heap.size, 0, none⟩) (v := .int .i64 q0) (by simp) hb
  have x01_10 := cell_below (p := ⟨w9.heap.size, 1, none⟩) (v := .slice a0x n0 c0x) (by simp) hb
  replace hb := below_al1 hb
  have p00_10 := cell_below (p := ⟨w.heap.size, 0, none⟩) (v := .int .i64 q0) p00_9 hb
  have p01_10 := cell_below (p := ⟨w.heap.size, 1, none⟩) (v := .slice a0 n0 c0) p01_9 hb
  have p10_10 := cell_below (p := ⟨w.heap.size + 1, 0, none⟩) (v := .int .i64 q1) p10_9 hb
  have p11_10 := cell_below (p := ⟨w.heap.size + 1, 1, none⟩) (v := .slice a1 n1 c1) p11_9 hb
  have p20_10 := cell_below (p := ⟨w.heap.size + 1 + 1, 0, none⟩) (v := .int .i64 q2) p20_9 hb
  have p21_10 := cell_below (p := ⟨w.heap.size + 1 + 1, 1, none⟩) (v := .slice a2 n2 c2) p21_9 hb
  have R0x_10 : Hid (RdR w10 a0x xs0) := Lib.hid (R0x_9.out.keep hb (Nat.le_refl _))
  have HB_10 : Hid (Below w.heap.size w w10) := Lib.hid (HB_9.out.trans (hb.mono HB_9.out.size))
  clear hb p00_9 p01_9 p10_9 p11_9 p20_9 p21_9 R0x_9 HB_9
  have hcp1x := ho.capl
  have R1x_10 : Hid (RdR w10 a1x xs1) := Lib.hid ho.rd
  clear ho
  have lt_p00_10 : w.heap.size < w10.heap.size := block_lt p00_10
  have lt_p10_10 : w.heap.size + 1 < w10.heap.size := block_lt p10_10
  have lt_p20_10 : w.heap.size + 1 + 1 < w10.heap.size := block_lt p20_10
  have lt_x00_10 : w9.heap.size < w10.heap.size := block_lt x00_10
  go_wp2_with fail
  refine (toTable_any q2 a2 n2 c2 xs2 _ (by exact ((HA2.out.keep HB_10.out (Nat.le_refl _)).alloc _)) HL2.out HX2.out hn2).mono ?_
  rintro e w11 ⟨a2x, c2x, rfl, ho, hb⟩
  have x10_11 := cell_below (p := ⟨w10.heap.size, 0, none⟩) (v := .int .i64 q1) (by simp) hb
  have x11_11 := cell_below (p := ⟨w10.heap.size, 1, none⟩) (v := .slice a1x n1 c1x) (by simp) hb
  replace hb := below_al1 hb
  have p00_11 := cell_below (p := ⟨w.heap.size, 0, none⟩) (v := .int .i64 q0) p00_10 hb
  have p01_11 := cell_below (p := ⟨w.heap.size, 1, none⟩) (v := .slice a0 n0 c0) p01_10 hb
  have p10_11 := cell_below (p := ⟨w.heap.size + 1, 0, none⟩) (v := .int .i64 q1) p10_10 hb
  have p11_11 := cell_below (p := ⟨w.heap.size + 1, 1, none⟩) (v := .slice a1 n1 c1) p11_10 hb
  have p20_11 := cell_below (p := ⟨w.heap.size + 1 + 1, 0, none⟩) (v := .int .i64 q2) p20_10 hb
  have p21_11 := cell_below (p := ⟨w.heap.size + 1 + 1, 1, none⟩) (v := .slice a2 n2 c2) p21_10 hb
  have R0x_11 : Hid (RdR w11 a0x xs0) := Lib.hid (R0x_10.out.keep hb (Nat.le_refl _))
  have x00_11 := cell_below (p := ⟨w9.heap.size, 0, none⟩) (v := .int .i64 q0) x00_10 hb
  have x01_11 := cell_below (p := ⟨w9.heap.size, 1, none⟩) (v := .slice a0x n0 c0x) x01_10 hb
  have R1x_11 : Hid (RdR w11 a1x xs1) := Lib.hid (R1x_10.out.keep hb (Nat.le_refl _))
  have HB_11 : Hid (Below w.heap.size w w11) := Lib.hid (HB_10.out.trans (hb.mono HB_10.out.size))
  clear hb p00_10 p01_10 p10_10 p11_10 p20_10 p21_10 R0x_10 x00_10 x01_10 R1x_10 HB_10
  have hcp2x := ho.capl
  have R2x_11 : Hid (RdR w11 a2x xs2) := Lib.hid ho.rd
  clear ho
  have lt_p00_11 : w.heap.size < w11.heap.size := block_lt p00_11
  have lt_p10_11 : w.heap.size + 1 < w11.heap.size := block_lt p10_11
  have lt_p20_11 : w.heap.size + 1 + 1 < w11.heap.size := block_lt p20_11
  have lt_x00_11 : w9.heap.size < w11.heap.size := block_lt x00_11
  have lt_x10_11 : w10.heap.size < w11.heap.size := block_lt x10_11
  go_wp2_with fail
  refine (toInt64S_any a3 n3 c3 xs3 _ (by exact ((HA3.out.keep HB_11.out (Nat.le_refl _)).alloc _)) HL3.out hn3).mono ?_
  rintro e w12 ⟨a3x, c3x, rfl, ho, hb⟩
  have x20_12 := cell_below (p := ⟨w11.heap.size, 0, none⟩) (v := .int .i64 q2) (by simp) hb
  have x21_12 := cell_below (p := ⟨w11.heap.size, 1, none⟩) (v := .slice a2x n2 c2x) (by simp) hb
  replace hb := below_al1 hb
  have p00_12 := cell_below (p := ⟨w.heap.size, 0, none⟩) (v := .int .i64 q0) p00_11 hb
  have p01_12 := cell_below (p := ⟨w.heap.size, 1, none⟩) (v := .slice a0 n0 c0) p01_11 hb
  have p10_12 := cell_below (p := ⟨w.heap.size + 1, 0, none⟩) (v := .int .i64 q1) p10_11 hb
  have p11_12 := cell_below (p := ⟨w.heap.size + 1, 1, none⟩) (v := .slice a1 n1 c1) p11_11 hb
  have p20_12 := cell_below (p := ⟨w.heap.size + 1 + 1, 0, none⟩) (v := .int .i64 q2) p20_11 hb
  have p21_12 := cell_below (p := ⟨w.heap.size + 1 + 1, 1, none⟩) (v := .slice a2 n2 c2) p21_11 hb
  have R0x_12 : Hid (RdR w12 a0x xs0) := Lib.hid (R0x_11.out.keep hb (Nat.le_refl _))
  have x00_12 := cell_below (p := ⟨w9.heap.size, 0, none⟩) (v := .int .i64 q0) x00_11 hb
  have x01_12 := cell_below (p := ⟨w9.heap.size, 1, none⟩) (v := .slice a0x n0 c0x) x01_11 hb
  have R1x_12 : Hid (RdR w12 a1x xs1) := Lib.hid (R1x_11.out.keep hb (Nat.le_refl _))
  have x10_12 := cell_below (p := ⟨w10.heap.size, 0, none⟩) (v := .int .i64 q1) x10_11 hb
  have x11_12 := cell_below (p := ⟨w10.heap.size, 1, none⟩) (v := .slice a1x n1 c1x) x11_11 hb
  have R2x_12 : Hid (RdR w12 a2x xs2) := Lib.hid (R2x_11.out.keep hb (Nat.le_refl _))
  have HB_12 : Hid (Below w.heap.size w w12) := Lib.hid (HB_11.out.trans (hb.mono HB_11.out.size))
  clear hb p00_11 p01_11 p10_11 p11_11 p20_11 p21_11 R0x_11 x00_11 x01_11 R1x_11 x10_11 x11_11 R2x_11 HB_11
  have R3x_12 : Hid (RdI w12 a3x xs3) := Lib.hid ho.rd
  clear ho
  go_wp2_with fail
  refine (impl_IsSmithProof_any q0 a0x n0 c0x xs0 q1 a1x n1 c1x xs1 q2 a2x n2 c2x xs2 a3x n3 c3x xs3 _ HQ0.out (by exact R0x_12.out) HL0.out HX0.out hn0 (by omega) HQ1.out (by exact R1x_12.out) HL1.out HX1.out hn1 (by omega) HQ2.out (by exact R2x_12.out) HL2.out HX2.out hn2 (by omega) (by exact R3x_12.out) HL3.out hn3 HW3.out).mono ?_
  rintro e w13 ⟨rfl, hb⟩
  have p00_13 := cell_below (p := ⟨w.heap.size, 0, none⟩) (v := .int .i64 q0) p00_12 hb
  have p01_13 := cell_below (p := ⟨w.heap.size, 1, none⟩) (v := .slice a0 n0 c0) p01_12 hb
  have p10_13 := cell_below (p := ⟨w.heap.size + 1, 0, none⟩) (v := .int .i64 q1) p10_12 hb
  have p11_13 := cell_below (p := ⟨w.heap.size + 1, 1, none⟩) (v := .slice a1 n1 c1) p11_12 hb
  have p20_13 := cell_below (p := ⟨w.heap.size + 1 + 1, 0, none⟩) (v := .int .i64 q2) p20_12 hb
  have p21_13 := cell_below (p := ⟨w.heap.size + 1 + 1, 1, none⟩) (v := .slice a2 n2 c2) p21_12 hb
  have R0x_13 : Hid (RdR w13 a0x xs0) := Lib.hid (R0x_12.out.keep hb (Nat.le_refl _))
  have x00_13 := cell_below (p := ⟨w9.heap.size, 0, none⟩) (v := .int .i64 q0) x00_12 hb
  have x01_13 := cell_below (p := ⟨w9.heap.size, 1, none⟩) (v := .slice a0x n0 c0x) x01_12 hb
  have R1x_13 : Hid (RdR w13 a1x xs1) := Lib.hid (R1x_12.out.keep hb (Nat.le_refl _))
  have x10_13 := cell_below (p := ⟨w10.heap.size, 0, none⟩) (v := .int .i64 q1) x10_12 hb
  have x11_13 := cell_below (p := ⟨w10.heap.size, 1, none⟩) (v := .slice a1x n1 c1x) x11_12 hb
  have R2x_13 : Hid (RdR w13 a2x xs2) := Lib.hid (R2x_12.out.keep hb (Nat.le_refl _))
  have x20_13 := cell_below (p := ⟨w11.heap.size, 0, none⟩) (v := .int .i64 q2) x20_12 hb
  have x21_13 := cell_below (p := ⟨w11.heap.size, 1, none⟩) (v := .slice a2x n2 c2x) x21_12 hb
  have R3x_13 : Hid (RdI w13 a3x xs3) := Lib.hid (R3x_12.out.keep hb (Nat.le_refl _))
  have HB_13 : Hid (Below w.heap.size w w13) := Lib.hid (HB_12.out.trans (hb.mono HB_12.out.size))
  clear hb p00_12 p01_12 p10_12 p11_12 p20_12 p21_12 R0x_12 x00_12 x01_12 R1x_12 x10_12 x11_12 R2x_12 x20_12 x21_12 R3x_12 HB_12
  go_wp2_with fail
  go_region_held3 (fun w' => w'.cell? ⟨w.heap.size, 0, none⟩ = some (.int .i64 q0) ∧ w'.cell? ⟨w.heap.size, 1, none⟩ = some (.slice a0 n0 c0) ∧ w'.cell? ⟨w.heap.size + 1, 0, none⟩ = some (.int .i64 q1) ∧ w'.cell? ⟨w.heap.size + 1, 1, none⟩ = some (.slice a1 n1 c1) ∧ w'.cell? ⟨w.heap.size + 1 + 1, 0, none⟩ = some (.int .i64 q2) ∧ w'.cell? ⟨w.heap.size + 1 + 1, 1, none⟩ = some (.slice a2 n2 c2) ∧ w'.cell? ⟨w9.heap.size, 0, none⟩ = some (.int .i64 q0) ∧ w'.cell? ⟨w9.heap.size, 1, none⟩ = some (.slice a0x n0 c0x) ∧ w'.cell? ⟨w10.heap.size, 0, none⟩ = some (.int .i64 q1) ∧ w'.cell? ⟨w10.heap.size, 1, none⟩ = some (.slice a1x n1 c1x) ∧ w'.cell? ⟨w11.heap.size, 0, none⟩ = some (.int .i64 q2) ∧ w'.cell? ⟨w11.heap.size, 1, none⟩ = some (.slice a2x n2 c2x)) (go_keep)
    (first
      | (go_at_call 17; (with_reducible refine (toTable_any q0 a0 n0 c0 xs0 _ ?_ HL0.out HX0.out hn0).mono ?_); exact (show RdR w13 a0 xs0 from (HA0.out.keep HB_13.out (Nat.le_refl _))); rintro e w14 ⟨a0y, c0y, rfl, ho, hb0⟩; have hb : Below w13.heap.size w13 w14 := ⟨hb0.os, hb0.tape, hb0.output, hb0.size, hb0.block⟩; have p00_14 := cell_below (p := ⟨w.heap.size, 0, none⟩) (v := .int .i64 q0) p00_13 hb; have p01_14 := cell_below (p := ⟨w.heap.size, 1, none⟩) (v := .slice a0 n0 c0) p01_13 hb; have p10_14 := cell_below (p := ⟨w.heap.size + 1, 0, none⟩) (v := .int .i64 q1) p10_13 hb; have p11_14 := cell_below (p := ⟨w.heap.size + 1, 1, none⟩) (v := .slice a1 n1 c1) p11_13 hb; have p20_14 := cell_below (p := ⟨w.heap.size + 1 + 1, 0, none⟩) (v := .int .i64 q2) p20_13 hb; have p21_14 := cell_below (p := ⟨w.heap.size + 1 + 1, 1, none⟩) (v := .slice a2 n2 c2) p21_13 hb; have R0x_14 : Hid (RdR w14 a0x xs0) := Lib.hid (R0x_13.out.keep hb (Nat.le_refl _)); have x00_14 := cell_below (p := ⟨w9.heap.size, 0, none⟩) (v := .int .i64 q0) x00_13 hb; have x01_14 := cell_below (p := ⟨w9.heap.size, 1, none⟩) (v := .slice a0x n0 c0x) x01_13 hb; have R1x_14 : Hid (RdR w14 a1x xs1) := Lib.hid (R1x_13.out.keep hb (Nat.le_refl _)); have x10_14 := cell_below (p := ⟨w10.heap.size, 0, none⟩) (v := .int .i64 q1) x10_13 hb; have x11_14 := cell_below (p := ⟨w10.heap.size, 1, none⟩) (v := .slice a1x n1 c1x) x11_13 hb; have R2x_14 : Hid (RdR w14 a2x xs2) := Lib.hid (R2x_13.out.keep hb (Nat.le_refl _)); have x20_14 := cell_below (p := ⟨w11.heap.size, 0, none⟩) (v := .int .i64 q2) x20_13 hb; have x21_14 := cell_below (p := ⟨w11.heap.size, 1, none⟩) (v := .slice a2x n2 c2x) x21_13 hb; have R3x_14 : Hid (RdI w14 a3x xs3) := Lib.hid (R3x_13.out.keep hb (Nat.le_refl _)); have HB_14 : Hid (Below w.heap.size w w14) := Lib.hid (HB_13.out.trans (hb.mono HB_13.out.size)); have hcp0y := ho.capl; have R0y_14 : Hid (RdR w14 a0y xs0) := Lib.hid ho.rd; clear ho; clear hb hb0)
      | (go_at_call 19; (with_reducible refine (eqTable_t _ _ _ _ _ _ _ xs0 _ ?_ ?_ HL0.out HL0.out (by omega) HX0.out).mono ?_); exact R0x_14.out; exact R0y_14.out; rintro e w15 ⟨rfl, hb0⟩; have hb := hb0; have p00_15 := cell_below (p := ⟨w.heap.size, 0, none⟩) (v := .int .i64 q0) p00_14 hb; have p01_15 := cell_below (p := ⟨w.heap.size, 1, none⟩) (v := .slice a0 n0 c0) p01_14 hb; have p10_15 := cell_below (p := ⟨w.heap.size + 1, 0, none⟩) (v := .int .i64 q1) p10_14 hb; have p11_15 := cell_below (p := ⟨w.heap.size + 1, 1, none⟩) (v := .slice a1 n1 c1) p11_14 hb; have p20_15 := cell_below (p := ⟨w.heap.size + 1 + 1, 0, none⟩) (v := .int .i64 q2) p20_14 hb; have p21_15 := cell_below (p := ⟨w.heap.size + 1 + 1, 1, none⟩) (v := .slice a2 n2 c2) p21_14 hb; have R0x_15 : Hid (RdR w15 a0x xs0) := Lib.hid (R0x_14.out.keep hb (Nat.le_refl _)); have x00_15 := cell_below (p := ⟨w9.heap.size, 0, none⟩) (v := .int .i64 q0) x00_14 hb; have x01_15 := cell_below (p := ⟨w9.heap.size, 1, none⟩) (v := .slice a0x n0 c0x) x01_14 hb; have R1x_15 : Hid (RdR w15 a1x xs1) := Lib.hid (R1x_14.out.keep hb (Nat.le_refl _)); have x10_15 := cell_below (p := ⟨w10.heap.size, 0, none⟩) (v := .int .i64 q1) x10_14 hb; have x11_15 := cell_below (p := ⟨w10.heap.size, 1, none⟩) (v := .slice a1x n1 c1x) x11_14 hb; have R2x_15 : Hid (RdR w15 a2x xs2) := Lib.hid (R2x_14.out.keep hb (Nat.le_refl _)); have x20_15 := cell_below (p := ⟨w11.heap.size, 0, none⟩) (v := .int .i64 q2) x20_14 hb; have x21_15 := cell_below (p := ⟨w11.heap.size, 1, none⟩) (v := .slice a2x n2 c2x) x21_14 hb; have R3x_15 : Hid (RdI w15 a3x xs3) := Lib.hid (R3x_14.out.keep hb (Nat.le_refl _)); have R0y_15 : Hid (RdR w15 a0y xs0) := Lib.hid (R0y_14.out.keep hb (Nat.le_refl _)); have HB_15 : Hid (Below w.heap.size w w15) := Lib.hid (HB_14.out.trans (hb.mono HB_14.out.size)); clear hb hb0))
  go_wp2_with fail
  go_region_held3 (fun w' => w'.cell? ⟨w.heap.size, 0, none⟩ = some (.int .i64 q0) ∧ w'.cell? ⟨w.heap.size, 1, none⟩ = some (.slice a0 n0 c0) ∧ w'.cell? ⟨w.heap.size + 1, 0, none⟩ = some (.int .i64 q1) ∧ w'.cell? ⟨w.heap.size + 1, 1, none⟩ = some (.slice a1 n1 c1) ∧ w'.cell? ⟨w.heap.size + 1 + 1, 0, none⟩ = some (.int .i64 q2) ∧ w'.cell? ⟨w.heap.size + 1 + 1, 1, none⟩ = some (.slice a2 n2 c2) ∧ w'.cell? ⟨w9.heap.size, 0, none⟩ = some (.int .i64 q0) ∧ w'.cell? ⟨w9.heap.size, 1, none⟩ = some (.slice a0x n0 c0x) ∧ w'.cell? ⟨w10.heap.size, 0, none⟩ = some (.int .i64 q1) ∧ w'.cell? ⟨w10.heap.size, 1, none⟩ = some (.slice a1x n1 c1x) ∧ w'.cell? ⟨w11.heap.size, 0, none⟩ = some (.int .i64 q2) ∧ w'.cell? ⟨w11.heap.size, 1, none⟩ = some (.slice a2x n2 c2x)) (go_keep)
    (first
      | (go_at_call 17; (with_reducible refine (toTable_any q1 a1 n1 c1 xs1 _ ?_ HL1.out HX1.out hn1).mono ?_); exact (show RdR w15 a1 xs1 from (HA1.out.keep HB_15.out (Nat.le_refl _))); rintro e w16 ⟨a1y, c1y, rfl, ho, hb0⟩; have hb : Below w15.heap.size w15 w16 := ⟨hb0.os, hb0.tape, hb0.output, hb0.size, hb0.block⟩; have p00_16 := cell_below (p := ⟨w.heap.size, 0, none⟩) (v := .int .i64 q0) p00_15 hb; have p01_16 := cell_below (p := ⟨w.heap.size, 1, none⟩) (v := .slice a0 n0 c0) p01_15 hb; have p10_16 := cell_below (p := ⟨w.heap.size + 1, 0, none⟩) (v := .int .i64 q1) p10_15 hb; have p11_16 := cell_below (p := ⟨w.heap.size + 1, 1, none⟩) (v := .slice a1 n1 c1) p11_15 hb; have p20_16 := cell_below (p := ⟨w.heap.size + 1 + 1, 0, none⟩) (v := .int .i64 q2) p20_15 hb; have p21_16 := cell_below (p := ⟨w.heap.size + 1 + 1, 1, none⟩) (v := .slice a2 n2 c2) p21_15 hb; have x00_16 := cell_below (p := ⟨w9.heap.size, 0, none⟩) (v := .int .i64 q0) x00_15 hb; have x01_16 := cell_below (p := ⟨w9.heap.size, 1, none⟩) (v := .slice a0x n0 c0x) x01_15 hb; have R1x_16 : Hid (RdR w16 a1x xs1) := Lib.hid (R1x_15.out.keep hb (Nat.le_refl _)); have x10_16 := cell_below (p := ⟨w10.heap.size, 0, none⟩) (v := .int .i64 q1) x10_15 hb; have x11_16 := cell_below (p := ⟨w10.heap.size, 1, none⟩) (v := .slice a1x n1 c1x) x11_15 hb; have R2x_16 : Hid (RdR w16 a2x xs2) := Lib.hid (R2x_15.out.keep hb (Nat.le_refl _)); have x20_16 := cell_below (p := ⟨w11.heap.size, 0, none⟩) (v := .int .i64 q2) x20_15 hb; have x21_16 := cell_below (p := ⟨w11.heap.size, 1, none⟩) (v := .slice a2x n2 c2x) x21_15 hb; have R3x_16 : Hid (RdI w16 a3x xs3) := Lib.hid (R3x_15.out.keep hb (Nat.le_refl _)); have HB_16 : Hid (Below w.heap.size w w16) := Lib.hid (HB_15.out.trans (hb.mono HB_15.out.size)); have hcp1y := ho.capl; have R1y_16 : Hid (RdR w16 a1y xs1) := Lib.hid ho.rd; clear ho; clear hb hb0)
      | (go_at_call 19; (with_reducible refine (eqTable_t _ _ _ _ _ _ _ xs1 _ ?_ ?_ HL1.out HL1.out (by omega) HX1.out).mono ?_); exact R1x_16.out; exact R1y_16.out; rintro e w17 ⟨rfl, hb0⟩; have hb := hb0; have p00_17 := cell_below (p := ⟨w.heap.size, 0, none⟩) (v := .int .i64 q0) p00_16 hb; have p01_17 := cell_below (p := ⟨w.heap.size, 1, none⟩) (v := .slice a0 n0 c0) p01_16 hb; have p10_17 := cell_below (p := ⟨w.heap.size + 1, 0, none⟩) (v := .int .i64 q1) p10_16 hb; have p11_17 := cell_below (p := ⟨w.heap.size + 1, 1, none⟩) (v := .slice a1 n1 c1) p11_16 hb; have p20_17 := cell_below (p := ⟨w.heap.size + 1 + 1, 0, none⟩) (v := .int .i64 q2) p20_16 hb; have p21_17 := cell_below (p := ⟨w.heap.size + 1 + 1, 1, none⟩) (v := .slice a2 n2 c2) p21_16 hb; have x00_17 := cell_below (p := ⟨w9.heap.size, 0, none⟩) (v := .int .i64 q0) x00_16 hb; have x01_17 := cell_below (p := ⟨w9.heap.size, 1, none⟩) (v := .slice a0x n0 c0x) x01_16 hb; have R1x_17 : Hid (RdR w17 a1x xs1) := Lib.hid (R1x_16.out.keep hb (Nat.le_refl _)); have x10_17 := cell_below (p := ⟨w10.heap.size, 0, none⟩) (v := .int .i64 q1) x10_16 hb; have x11_17 := cell_below (p := ⟨w10.heap.size, 1, none⟩) (v := .slice a1x n1 c1x) x11_16 hb; have R2x_17 : Hid (RdR w17 a2x xs2) := Lib.hid (R2x_16.out.keep hb (Nat.le_refl _)); have x20_17 := cell_below (p := ⟨w11.heap.size, 0, none⟩) (v := .int .i64 q2) x20_16 hb; have x21_17 := cell_below (p := ⟨w11.heap.size, 1, none⟩) (v := .slice a2x n2 c2x) x21_16 hb; have R3x_17 : Hid (RdI w17 a3x xs3) := Lib.hid (R3x_16.out.keep hb (Nat.le_refl _)); have R1y_17 : Hid (RdR w17 a1y xs1) := Lib.hid (R1y_16.out.keep hb (Nat.le_refl _)); have HB_17 : Hid (Below w.heap.size w w17) := Lib.hid (HB_16.out.trans (hb.mono HB_16.out.size)); clear hb hb0))
  go_wp2_with fail
  go_region_held3 (fun w' => w'.cell? ⟨w.heap.size, 0, none⟩ = some (.int .i64 q0) ∧ w'.cell? ⟨w.heap.size, 1, none⟩ = some (.slice a0 n0 c0) ∧ w'.cell? ⟨w.heap.size + 1, 0, none⟩ = some (.int .i64 q1) ∧ w'.cell? ⟨w.heap.size + 1, 1, none⟩ = some (.slice a1 n1 c1) ∧ w'.cell? ⟨w.heap.size + 1 + 1, 0, none⟩ = some (.int .i64 q2) ∧ w'.cell? ⟨w.heap.size + 1 + 1, 1, none⟩ = some (.slice a2 n2 c2) ∧ w'.cell? ⟨w9.heap.size, 0, none⟩ = some (.int .i64 q0) ∧ w'.cell? ⟨w9.heap.size, 1, none⟩ = some (.slice a0x n0 c0x) ∧ w'.cell? ⟨w10.heap.size, 0, none⟩ = some (.int .i64 q1) ∧ w'.cell? ⟨w10.heap.size, 1, none⟩ = some (.slice a1x n1 c1x) ∧ w'.cell? ⟨w11.heap.size, 0, none⟩ = some (.int .i64 q2) ∧ w'.cell? ⟨w11.heap.size, 1, none⟩ = some (.slice a2x n2 c2x)) (go_keep)
    (first
      | (go_at_call 17; (with_reducible refine (toTable_any q2 a2 n2 c2 xs2 _ ?_ HL2.out HX2.out hn2).mono ?_); exact (show RdR w17 a2 xs2 from (HA2.out.keep HB_17.out (Nat.le_refl _))); rintro e w18 ⟨a2y, c2y, rfl, ho, hb0⟩; have hb : Below w17.heap.size w17 w18 := ⟨hb0.os, hb0.tape, hb0.output, hb0.size, hb0.block⟩; have p00_18 := cell_below (p := ⟨w.heap.size, 0, none⟩) (v := .int .i64 q0) p00_17 hb; have p01_18 := cell_below (p := ⟨w.heap.size, 1, none⟩) (v := .slice a0 n0 c0) p01_17 hb; have p10_18 := cell_below (p := ⟨w.heap.size + 1, 0, none⟩) (v := .int .i64 q1) p10_17 hb; have p11_18 := cell_below (p := ⟨w.heap.size + 1, 1, none⟩) (v := .slice a1 n1 c1) p11_17 hb; have p20_18 := cell_below (p := ⟨w.heap.size + 1 + 1, 0, none⟩) (v := .int .i64 q2) p20_17 hb; have p21_18 := cell_below (p := ⟨w.heap.size + 1 + 1, 1, none⟩) (v := .slice a2 n2 c2) p21_17 hb; have x00_18 := cell_below (p := ⟨w9.heap.size, 0, none⟩) (v := .int .i64 q0) x00_17 hb; have x01_18 := cell_below (p := ⟨w9.heap.size, 1, none⟩) (v := .slice a0x n0 c0x) x01_17 hb; have x10_18 := cell_below (p := ⟨w10.heap.size, 0, none⟩) (v := .int .i64 q1) x10_17 hb; have x11_18 := cell_below (p := ⟨w10.heap.size, 1, none⟩) (v := .slice a1x n1 c1x) x11_17 hb; have R2x_18 : Hid (RdR w18 a2x xs2) := Lib.hid (R2x_17.out.keep hb (Nat.le_refl _)); have x20_18 := cell_below (p := ⟨w11.heap.size, 0, none⟩) (v := .int .i64 q2) x20_17 hb; have x21_18 := cell_below (p := ⟨w11.heap.size, 1, none⟩) (v := .slice a2x n2 c2x) x21_17 hb; have R3x_18 : Hid (RdI w18 a3x xs3) := Lib.hid (R3x_17.out.keep hb (Nat.le_refl _)); have HB_18 : Hid (Below w.heap.size w w18) := Lib.hid (HB_17.out.trans (hb.mono HB_17.out.size)); have hcp2y := ho.capl; have R2y_18 : Hid (RdR w18 a2y xs2) := Lib.hid ho.rd; clear ho; clear hb hb0)
      | (go_at_call 19; (with_reducible refine (eqTable_t _ _ _ _ _ _ _ xs2 _ ?_ ?_ HL2.out HL2.out (by omega) HX2.out).mono ?_); exact R2x_18.out; exact R2y_18.out; rintro e w19 ⟨rfl, hb0⟩; have hb := hb0; have p00_19 := cell_below (p := ⟨w.heap.size, 0, none⟩) (v := .int .i64 q0) p00_18 hb; have p01_19 := cell_below (p := ⟨w.heap.size, 1, none⟩) (v := .slice a0 n0 c0) p01_18 hb; have p10_19 := cell_below (p := ⟨w.heap.size + 1, 0, none⟩) (v := .int .i64 q1) p10_18 hb; have p11_19 := cell_below (p := ⟨w.heap.size + 1, 1, none⟩) (v := .slice a1 n1 c1) p11_18 hb; have p20_19 := cell_below (p := ⟨w.heap.size + 1 + 1, 0, none⟩) (v := .int .i64 q2) p20_18 hb; have p21_19 := cell_below (p := ⟨w.heap.size + 1 + 1, 1, none⟩) (v := .slice a2 n2 c2) p21_18 hb; have x00_19 := cell_below (p := ⟨w9.heap.size, 0, none⟩) (v := .int .i64 q0) x00_18 hb; have x01_19 := cell_below (p := ⟨w9.heap.size, 1, none⟩) (v := .slice a0x n0 c0x) x01_18 hb; have x10_19 := cell_below (p := ⟨w10.heap.size, 0, none⟩) (v := .int .i64 q1) x10_18 hb; have x11_19 := cell_below (p := ⟨w10.heap.size, 1, none⟩) (v := .slice a1x n1 c1x) x11_18 hb; have R2x_19 : Hid (RdR w19 a2x xs2) := Lib.hid (R2x_18.out.keep hb (Nat.le_refl _)); have x20_19 := cell_below (p := ⟨w11.heap.size, 0, none⟩) (v := .int .i64 q2) x20_18 hb; have x21_19 := cell_below (p := ⟨w11.heap.size, 1, none⟩) (v := .slice a2x n2 c2x) x21_18 hb; have R3x_19 : Hid (RdI w19 a3x xs3) := Lib.hid (R3x_18.out.keep hb (Nat.le_refl _)); have R2y_19 : Hid (RdR w19 a2y xs2) := Lib.hid (R2y_18.out.keep hb (Nat.le_refl _)); have HB_19 : Hid (Below w.heap.size w w19) := Lib.hid (HB_18.out.trans (hb.mono HB_18.out.size)); clear hb hb0))
  go_wp2_with fail
  refine (toInt64S_any a3 n3 c3 xs3 _ (by exact (HA3.out.keep HB_19.out (Nat.le_refl _))) HL3.out hn3).mono ?_
  rintro e w20 ⟨a3y, c3y, rfl, ho, hb⟩
  have p00_20 := cell_below (p := ⟨w.heap.size, 0, none⟩) (v := .int .i64 q0) p00_19 hb
  have p01_20 := cell_below (p := ⟨w.heap.size, 1, none⟩) (v := .slice a0 n0 c0) p01_19 hb
  have p10_20 := cell_below (p := ⟨w.heap.size + 1, 0, none⟩) (v := .int .i64 q1) p10_19 hb
  have p11_20 := cell_below (p := ⟨w.heap.size + 1, 1, none⟩) (v := .slice a1 n1 c1) p11_19 hb
  have p20_20 := cell_below (p := ⟨w.heap.size + 1 + 1, 0, none⟩) (v := .int .i64 q2) p20_19 hb
  have p21_20 := cell_below (p := ⟨w.heap.size + 1 + 1, 1, none⟩) (v := .slice a2 n2 c2) p21_19 hb
  have x00_20 := cell_below (p := ⟨w9.heap.size, 0, none⟩) (v := .int .i64 q0) x00_19 hb
  have x01_20 := cell_below (p := ⟨w9.heap.size, 1, none⟩) (v := .slice a0x n0 c0x) x01_19 hb
  have x10_20 := cell_below (p := ⟨w10.heap.size, 0, none⟩) (v := .int .i64 q1) x10_19 hb
  have x11_20 := cell_below (p := ⟨w10.heap.size, 1, none⟩) (v := .slice a1x n1 c1x) x11_19 hb
  have x20_20 := cell_below (p := ⟨w11.heap.size, 0, none⟩) (v := .int .i64 q2) x20_19 hb
  have x21_20 := cell_below (p := ⟨w11.heap.size, 1, none⟩) (v := .slice a2x n2 c2x) x21_19 hb
  have R3x_20 : Hid (RdI w20 a3x xs3) := Lib.hid (R3x_19.out.keep hb (Nat.le_refl _))
  have HB_20 : Hid (Below w.heap.size w w20) := Lib.hid (HB_19.out.trans (hb.mono HB_19.out.size))
  clear hb p00_19 p01_19 p10_19 p11_19 p20_19 p21_19 x00_19 x01_19 x10_19 x11_19 x20_19 x21_19 R3x_19 HB_19
  have R3y_20 : Hid (RdI w20 a3y xs3) := Lib.hid ho.rd
  clear ho
  go_wp2_with fail
  refine (eqInt64S_b _ _ _ _ _ _ xs3 _ (by exact R3x_20.out) (by exact R3y_20.out) HL3.out HL3.out (by omega)).mono ?_
  rintro e w21 ⟨rfl, hb⟩
  have p00_21 := cell_below (p := ⟨w.heap.size, 0, none⟩) (v := .int .i64 q0) p00_20 hb
  have p01_21 := cell_below (p := ⟨w.heap.size, 1, none⟩) (v := .slice a0 n0 c0) p01_20 hb
  have p10_21 := cell_below (p := ⟨w.heap.size + 1, 0, none⟩) (v := .int .i64 q1) p10_20 hb
  have p11_21 := cell_below (p := ⟨w.heap.size + 1, 1, none⟩) (v := .slice a1 n1 c1) p11_20 hb
  have p20_21 := cell_below (p := ⟨w.heap.size + 1 + 1, 0, none⟩) (v := .int .i64 q2) p20_20 hb
  have p21_21 := cell_below (p := ⟨w.heap.size + 1 + 1, 1, none⟩) (v := .slice a2 n2 c2) p21_20 hb
  have x00_21 := cell_below (p := ⟨w9.heap.size, 0, none⟩) (v := .int .i64 q0) x00_20 hb
  have x01_21 := cell_below (p := ⟨w9.heap.size, 1, none⟩) (v := .slice a0x n0 c0x) x01_20 hb
  have x10_21 := cell_below (p := ⟨w10.heap.size, 0, none⟩) (v := .int .i64 q1) x10_20 hb
  have x11_21 := cell_below (p := ⟨w10.heap.size, 1, none⟩) (v := .slice a1x n1 c1x) x11_20 hb
  have x20_21 := cell_below (p := ⟨w11.heap.size, 0, none⟩) (v := .int .i64 q2) x20_20 hb
  have x21_21 := cell_below (p := ⟨w11.heap.size, 1, none⟩) (v := .slice a2x n2 c2x) x21_20 hb
  have R3x_21 : Hid (RdI w21 a3x xs3) := Lib.hid (R3x_20.out.keep hb (Nat.le_refl _))
  have R3y_21 : Hid (RdI w21 a3y xs3) := Lib.hid (R3y_20.out.keep hb (Nat.le_refl _))
  have HB_21 : Hid (Below w.heap.size w w21) := Lib.hid (HB_20.out.trans (hb.mono HB_20.out.size))
  clear hb p00_20 p01_20 p10_20 p11_20 p20_20 p21_20 x00_20 x01_20 x10_20 x11_20 x20_20 x21_20 R3x_20 R3y_20 HB_20
  go_wp2_with fail
  go_ret
  exact ⟨rfl, HB_21.out⟩
--ENDLAW
end Go.Proofs.Ytjnkhbaklilkkaa
