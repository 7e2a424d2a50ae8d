/- The law of quotients of abelian groups. -/
import Derived.Test.YtgdialknnjnehaaQuI
import Derived.Test.YtgdialknnjnehaaQuS
import Derived.Test.YtgdialknnjnehaaLawKit
import Derived.Test.YtgdialknnjnehaaKitA
import Derived.Deep.RegionHeld3
set_option linter.unusedVariables false
set_option linter.unusedSimpArgs false
namespace Go.Proofs.Ytgdialknnjnehaa
open Go.RowKit

theorem impl_HasAbelianQuotient_law (a : Option Addr) (n c : Nat) (xs : List Int) (r : Int) (b : Option Addr) (m d : Nat) (ys : List Int) (s : Int) (w : World) (ha : RdI w a xs) (hl : xs.length = n) (hn : n ≤ 1048576) (hr : I64 r) (hb : RdI w b ys) (hl2 : ys.length = m) (hm : m ≤ 1048576) (hs : I64 s) :
    Calls Try.prog 42 #[.agg #[.slice a n c, .int .i64 r], .agg #[.slice b m d, .int .i64 s]] w fun e w' => e = .returned (.tuple #[.bool (quV xs r ys s).1, .int .i64 (quV xs r ys s).2]) ∧ Below w.heap.size w w' :=
  impl_HasAbelianQuotient_any a n c xs r b m d ys s w ha hl hb hl2 hn hm
theorem spec_HasAbelianQuotient_law (a : Option Addr) (n c : Nat) (xs : List Int) (r : Int) (b : Option Addr) (m d : Nat) (ys : List Int) (s : Int) (w : World) (ha : RdI w a xs) (hl : xs.length = n) (hn : n ≤ 1048576) (hr : I64 r) (hb : RdI w b ys) (hl2 : ys.length = m) (hm : m ≤ 1048576) (hs : I64 s) :
    Calls Try.prog 41 #[.agg #[.slice a n c, .int .i64 r], .agg #[.slice b m d, .int .i64 s]] w fun e w' => e = .returned (.tuple #[.bool (quV xs r ys s).1, .int .i64 (quV xs r ys s).2]) ∧ Below w.heap.size w w' :=
  spec_HasAbelianQuotient_any a n c xs r b m d ys s w ha hl hb hl2 hn hm
--LAW HasAbelianQuotient
set_option maxRecDepth 20000 in
set_option maxHeartbeats 4000000 in
theorem law_HasAbelianQuotient (a0 : Option Addr) (n0 c0 : Nat) (xs0 : List Int) (r0 : Int) (a1 : Option Addr) (n1 c1 : Nat) (xs1 : List Int) (r1 : Int) (w : World) (hl0 : xs0.length = n0) (ha0 : RdI w a0 xs0) (hw0 : ∀ x ∈ xs0, (Lit.int .i64 x).wf = true) (hm0 : n0 ≤ maxLen) (hr0 : I64 r0) (hl1 : xs1.length = n1) (ha1 : RdI w a1 xs1) (hw1 : ∀ x ∈ xs1, (Lit.int .i64 x).wf = true) (hm1 : n1 ≤ maxLen) (hr1 : I64 r1) :
    Calls Try.prog 12 #[.agg #[.slice a0 n0 c0, .int .i64 r0], .agg #[.slice a1 n1 c1, .int .i64 r1]] w fun e w' => e = .returned (.bool true) ∧ Below w.heap.size w w' := by
  have HA0 := Lib.hid ha0
  have HL0 := Lib.hid hl0
  unfold maxLen at hm0
  have HR0 := Lib.hid hr0
  clear hr0
  clear ha0 hl0 hw0
  have HA1 := Lib.hid ha1
  have HL1 := Lib.hid hl1
  unfold maxLen at hm1
  have HR1 := Lib.hid hr1
  clear hr1
  clear ha1 hl1 hw1
  go_enter Try.func12, Try.ntmps12
  go_wp2_with fail
  refine (szAbelian_any _ n0 _ _ 1048576 _ (by omega) (by omega) (by omega)).mono ?_
  rintro e w1 ⟨z0, rfl, hz, hb⟩
  have p00_1 := cell_below (p := ⟨w.heap.size, 0, none⟩) (v := .slice a0 n0 c0) (by simp) hb
  have p01_1 := cell_below (p := ⟨w.heap.size, 1, none⟩) (v := .int .i64 r0) (by simp) hb
  have p10_1 := cell_below (p := ⟨w.heap.size + 1, 0, none⟩) (v := .slice a1 n1 c1) (by simp) hb
  have p11_1 := cell_below (p := ⟨w.heap.size + 1, 1, none⟩) (v := .int .i64 r1) (by simp) hb
  replace hb := below_al2 hb
  have HB_1 : Hid (Below w.heap.size w w1) := Lib.hid hb
  clear hb
  rcases hz with rfl | ⟨hz0, hy0, hn0'⟩
  · go_wp2_with fail
    go_ret
    exact ⟨rfl, HB_1.out⟩
  have hn0 : n0 ≤ 1048576 := by omega
  clear hn0'
  go_wp2_with fail
  refine (szAbelian_any _ n1 _ _ z0 _ (by omega) (by omega) (by omega)).mono ?_
  rintro e w2 ⟨z1, rfl, hz, hb⟩
  have p00_2 := cell_below (p := ⟨w.heap.size, 0, none⟩) (v := .slice a0 n0 c0) p00_1 hb
  have p01_2 := cell_below (p := ⟨w.heap.size, 1, none⟩) (v := .int .i64 r0) p01_1 hb
  have p10_2 := cell_below (p := ⟨w.heap.size + 1, 0, none⟩) (v := .slice a1 n1 c1) p10_1 hb
  have p11_2 := cell_below (p := ⟨w.heap.size + 1, 1, none⟩) (v := .int .i64 r1) p11_1 hb
  have HB_2 : Hid (Below w.heap.size w w2) := Lib.hid (HB_1.out.trans (hb.mono HB_1.out.size))
  clear hb p00_1 p01_1 p10_1 p11_1 HB_1
  rcases hz with rfl | ⟨hz1, hy1, hn1'⟩
  · go_wp2_with fail
    go_ret
    exact ⟨rfl, HB_2.out⟩
  have hn1 : n1 ≤ 1048576 := by omega
  clear hn1'
  go_wp2_with fail
  go_region_held3 (fun w' => w'.cell? ⟨w.heap.size, 0, none⟩ = some (.slice a0 n0 c0) ∧ w'.cell? ⟨w.heap.size, 1, none⟩ = some (.int .i64 r0) ∧ w'.cell? ⟨w.heap.size + 1, 0, none⟩ = some (.slice a1 n1 c1) ∧ w'.cell? ⟨w.heap.size + 1, 1, none⟩ = some (.int .i64 r1)) (go_keep)
    (first
      | (go_at_call 16; (with_reducible refine (toAbelian_any a0 n0 c0 xs0 r0 _ ?_ HL0.out hn0).mono ?_); exact (show RdI w2 a0 xs0 from (HA0.out.keep HB_2.out (Nat.le_refl _))); rintro e w3 ⟨a0s, c0s, rfl, ho, hb0⟩; have hb : Below w2.heap.size w2 w3 := ⟨hb0.os, hb0.tape, hb0.output, hb0.size, hb0.block⟩; have p00_3 := cell_below (p := ⟨w.heap.size, 0, none⟩) (v := .slice a0 n0 c0) p00_2 hb; have p01_3 := cell_below (p := ⟨w.heap.size, 1, none⟩) (v := .int .i64 r0) p01_2 hb; have p10_3 := cell_below (p := ⟨w.heap.size + 1, 0, none⟩) (v := .slice a1 n1 c1) p10_2 hb; have p11_3 := cell_below (p := ⟨w.heap.size + 1, 1, none⟩) (v := .int .i64 r1) p11_2 hb; have HB_3 : Hid (Below w.heap.size w w3) := Lib.hid (HB_2.out.trans (hb.mono HB_2.out.size)); have R0s_3 : Hid (RdI w3 a0s xs0) := Lib.hid ho.rd; clear ho; clear hb hb0)
      | (go_at_call 16; (with_reducible refine (toAbelian_any a1 n1 c1 xs1 r1 _ ?_ HL1.out hn1).mono ?_); exact (show RdI w3 a1 xs1 from (HA1.out.keep HB_3.out (Nat.le_refl _))); rintro e w4 ⟨a1s, c1s, rfl, ho, hb0⟩; have hb := hb0; have p00_4 := cell_below (p := ⟨w.heap.size, 0, none⟩) (v := .slice a0 n0 c0) p00_3 hb; have p01_4 := cell_below (p := ⟨w.heap.size, 1, none⟩) (v := .int .i64 r0) p01_3 hb; have p10_4 := cell_below (p := ⟨w.heap.size + 1, 0, none⟩) (v := .slice a1 n1 c1) p10_3 hb; have p11_4 := cell_below (p := ⟨w.heap.size + 1, 1, none⟩) (v := .int .i64 r1) p11_3 hb; have R0s_4 : Hid (RdI w4 a0s xs0) := Lib.hid (R0s_3.out.keep hb (Nat.le_refl _)); have HB_4 : Hid (Below w.heap.size w w4) := Lib.hid (HB_3.out.trans (hb.mono HB_3.out.size)); have R1s_4 : Hid (RdI w4 a1s xs1) := Lib.hid ho.rd; clear ho; clear hb hb0)
      | (go_at_call 41; (with_reducible refine (spec_HasAbelianQuotient_law a0s n0 c0s xs0 r0 a1s n1 c1s xs1 r1 _ ?_ HL0.out hn0 HR0.out ?_ HL1.out hn1 HR1.out).mono ?_); exact R0s_4.out; exact R1s_4.out; rintro e w5 ⟨rfl, hb0⟩; have hb := hb0; have p00_5 := cell_below (p := ⟨w.heap.size, 0, none⟩) (v := .slice a0 n0 c0) p00_4 hb; have p01_5 := cell_below (p := ⟨w.heap.size, 1, none⟩) (v := .int .i64 r0) p01_4 hb; have p10_5 := cell_below (p := ⟨w.heap.size + 1, 0, none⟩) (v := .slice a1 n1 c1) p10_4 hb; have p11_5 := cell_below (p := ⟨w.heap.size + 1, 1, none⟩) (v := .int .i64 r1) p11_4 hb; have R0s_5 : Hid (RdI w5 a0s xs0) := Lib.hid (R0s_4.out.keep hb (Nat.le_refl _)); have R1s_5 : Hid (RdI w5 a1s xs1) := Lib.hid (R1s_4.out.keep hb (Nat.le_refl _)); have HB_5 : Hid (Below w.heap.size w w5) := Lib.hid (HB_4.out.trans (hb.mono HB_4.out.size)); clear hb hb0))
  go_wp2_with fail
  refine (toAbelian_any a0 n0 c0 xs0 r0 _ (by exact (HA0.out.keep HB_5.out (Nat.le_refl _))) HL0.out hn0).mono ?_
  rintro e w6 ⟨a0x, c0x, rfl, ho, hb⟩
  have p00_6 := cell_below (p := ⟨w.heap.size, 0, none⟩) (v := .slice a0 n0 c0) p00_5 hb
  have p01_6 := cell_below (p := ⟨w.heap.size, 1, none⟩) (v := .int .i64 r0) p01_5 hb
  have p10_6 := cell_below (p := ⟨w.heap.size + 1, 0, none⟩) (v := .slice a1 n1 c1) p10_5 hb
  have p11_6 := cell_below (p := ⟨w.heap.size + 1, 1, none⟩) (v := .int .i64 r1) p11_5 hb
  have HB_6 : Hid (Below w.heap.size w w6) := Lib.hid (HB_5.out.trans (hb.mono HB_5.out.size))
  clear hb p00_5 p01_5 p10_5 p11_5 HB_5
  have R0x_6 : Hid (RdI w6 a0x xs0) := Lib.hid ho.rd
  clear ho
  have lt_p00_6 : w.heap.size < w6.heap.size := block_lt p00_6
  have lt_p10_6 : w.heap.size + 1 < w6.heap.size := block_lt p10_6
  go_wp2_with fail
  refine (toAbelian_any a1 n1 c1 xs1 r1 _ (by exact ((HA1.out.keep HB_6.out (Nat.le_refl _)).alloc _)) HL1.out hn1).mono ?_
  rintro e w7 ⟨a1x, c1x, rfl, ho, hb⟩
  have x00_7 := cell_below (p := ⟨w6.heap.size, 0, none⟩) (v := .slice a0x n0 c0x) (by simp) hb
  have x01_7 := cell_below (p := ⟨w6.heap.size, 1, none⟩) (v := .int .i64 r0) (by simp) hb
  replace hb := below_al1 hb
  have p00_7 := cell_below (p := ⟨w.heap.size, 0, none⟩) (v := .slice a0 n0 c0) p00_6 hb
  have p01_7 := cell_below (p := ⟨w.heap.size, 1, none⟩) (v := .int .i64 r0) p01_6 hb
  have p10_7 := cell_below (p := ⟨w.heap.size + 1, 0, none⟩) (v := .slice a1 n1 c1) p10_6 hb
  have p11_7 := cell_below (p := ⟨w.heap.size + 1, 1, none⟩) (v := .int .i64 r1) p11_6 hb
  have R0x_7 : Hid (RdI w7 a0x xs0) := Lib.hid (R0x_6.out.keep hb (Nat.le_refl _))
  have HB_7 : Hid (Below w.heap.size w w7) := Lib.hid (HB_6.out.trans (hb.mono HB_6.out.size))
  clear hb p00_6 p01_6 p10_6 p11_6 R0x_6 HB_6
  have R1x_7 : Hid (RdI w7 a1x xs1) := Lib.hid ho.rd
  clear ho
  have lt_p00_7 : w.heap.size < w7.heap.size := block_lt p00_7
  have lt_p10_7 : w.heap.size + 1 < w7.heap.size := block_lt p10_7
  have lt_x00_7 : w6.heap.size < w7.heap.size := block_lt x00_7
  go_wp2_with fail
  refine (impl_HasAbelianQuotient_law a0x n0 c0x xs0 r0 a1x n1 c1x xs1 r1 _ (by exact (R0x_7.out.alloc _)) HL0.out hn0 HR0.out (by exact (R1x_7.out.alloc _)) HL1.out hn1 HR1.out).mono ?_
  rintro e w8 ⟨rfl, hb⟩
  have x10_8 := cell_below (p := ⟨w7.heap.size, 0, none⟩) (v := .slice a1x n1 c1x) (by simp) hb
  have x11_8 := cell_below (p := ⟨w7.heap.size, 1, none⟩) (v := .int .i64 r1) (by simp) hb
  replace hb := below_al1 hb
  have p00_8 := cell_below (p := ⟨w.heap.size, 0, none⟩) (v := .slice a0 n0 c0) p00_7 hb
  have p01_8 := cell_below (p := ⟨w.heap.size, 1, none⟩) (v := .int .i64 r0) p01_7 hb
  have p10_8 := cell_below (p := ⟨w.heap.size + 1, 0, none⟩) (v := .slice a1 n1 c1) p10_7 hb
  have p11_8 := cell_below (p := ⟨w.heap.size + 1, 1, none⟩) (v := .int .i64 r1) p11_7 hb
  have R0x_8 : Hid (RdI w8 a0x xs0) := Lib.hid (R0x_7.out.keep hb (Nat.le_refl _))
  have x00_8 := cell_below (p := ⟨w6.heap.size, 0, none⟩) (v := .slice a0x n0 c0x) x00_7 hb
  have x01_8 := cell_below (p := ⟨w6.heap.size, 1, none⟩) (v := .int .i64 r0) x01_7 hb
  have R1x_8 : Hid (RdI w8 a1x xs1) := Lib.hid (R1x_7.out.keep hb (Nat.le_refl _))
  have HB_8 : Hid (Below w.heap.size w w8) := Lib.hid (HB_7.out.trans (hb.mono HB_7.out.size))
  clear hb p00_7 p01_7 p10_7 p11_7 R0x_7 x00_7 x01_7 R1x_7 HB_7
  go_wp2_with fail
  go_region_held3 (fun w' => w'.cell? ⟨w.heap.size, 0, none⟩ = some (.slice a0 n0 c0) ∧ w'.cell? ⟨w.heap.size, 1, none⟩ = some (.int .i64 r0) ∧ w'.cell? ⟨w.heap.size + 1, 0, none⟩ = some (.slice a1 n1 c1) ∧ w'.cell? ⟨w.heap.size + 1, 1, none⟩ = some (.int .i64 r1) ∧ w'.cell? ⟨w6.heap.size, 0, none⟩ = some (.slice a0x n0 c0x) ∧ w'.cell? ⟨w6.heap.size, 1, none⟩ = some (.int .i64 r0) ∧ w'.cell? ⟨w7.heap.size, 0, none⟩ = some (.slice a1x n1 c1x) ∧ w'.cell? ⟨w7.heap.size, 1, none⟩ = some (.int .i64 r1)) (go_keep)
    (first
      | (go_at_call 16; (with_reducible refine (toAbelian_any a0 n0 c0 xs0 r0 _ ?_ HL0.out hn0).mono ?_); exact (show RdI w8 a0 xs0 from (HA0.out.keep HB_8.out (Nat.le_refl _))); rintro e w9 ⟨a0y, c0y, rfl, ho, hb0⟩; have hb : Below w8.heap.size w8 w9 := ⟨hb0.os, hb0.tape, hb0.output, hb0.size, hb0.block⟩; have p00_9 := cell_below (p := ⟨w.heap.size, 0, none⟩) (v := .slice a0 n0 c0) p00_8 hb; have p01_9 := cell_below (p := ⟨w.heap.size, 1, none⟩) (v := .int .i64 r0) p01_8 hb; have p10_9 := cell_below (p := ⟨w.heap.size + 1, 0, none⟩) (v := .slice a1 n1 c1) p10_8 hb; have p11_9 := cell_below (p := ⟨w.heap.size + 1, 1, none⟩) (v := .int .i64 r1) p11_8 hb; have R0x_9 : Hid (RdI w9 a0x xs0) := Lib.hid (R0x_8.out.keep hb (Nat.le_refl _)); have x00_9 := cell_below (p := ⟨w6.heap.size, 0, none⟩) (v := .slice a0x n0 c0x) x00_8 hb; have x01_9 := cell_below (p := ⟨w6.heap.size, 1, none⟩) (v := .int .i64 r0) x01_8 hb; have R1x_9 : Hid (RdI w9 a1x xs1) := Lib.hid (R1x_8.out.keep hb (Nat.le_refl _)); have x10_9 := cell_below (p := ⟨w7.heap.size, 0, none⟩) (v := .slice a1x n1 c1x) x10_8 hb; have x11_9 := cell_below (p := ⟨w7.heap.size, 1, none⟩) (v := .int .i64 r1) x11_8 hb; have HB_9 : Hid (Below w.heap.size w w9) := Lib.hid (HB_8.out.trans (hb.mono HB_8.out.size)); have R0y_9 : Hid (RdI w9 a0y xs0) := Lib.hid ho.rd; clear ho; clear hb hb0)
      | (go_at_call 18; (with_reducible refine (eqAbelian_t _ _ _ _ _ _ xs0 _ _ ?_ ?_ HL0.out HL0.out (by omega)).mono ?_); exact R0x_9.out; exact R0y_9.out; rintro e w10 ⟨rfl, hb0⟩; have hb := hb0; have p00_10 := cell_below (p := ⟨w.heap.size, 0, none⟩) (v := .slice a0 n0 c0) p00_9 hb; have p01_10 := cell_below (p := ⟨w.heap.size, 1, none⟩) (v := .int .i64 r0) p01_9 hb; have p10_10 := cell_below (p := ⟨w.heap.size + 1, 0, none⟩) (v := .slice a1 n1 c1) p10_9 hb; have p11_10 := cell_below (p := ⟨w.heap.size + 1, 1, none⟩) (v := .int .i64 r1) p11_9 hb; have R0x_10 : Hid (RdI w10 a0x xs0) := Lib.hid (R0x_9.out.keep hb (Nat.le_refl _)); have x00_10 := cell_below (p := ⟨w6.heap.size, 0, none⟩) (v := .slice a0x n0 c0x) x00_9 hb; have x01_10 := cell_below (p := ⟨w6.heap.size, 1, none⟩) (v := .int .i64 r0) x01_9 hb; have R1x_10 : Hid (RdI w10 a1x xs1) := Lib.hid (R1x_9.out.keep hb (Nat.le_refl _)); have x10_10 := cell_below (p := ⟨w7.heap.size, 0, none⟩) (v := .slice a1x n1 c1x) x10_9 hb; have x11_10 := cell_below (p := ⟨w7.heap.size, 1, none⟩) (v := .int .i64 r1) x11_9 hb; have R0y_10 : Hid (RdI w10 a0y xs0) := Lib.hid (R0y_9.out.keep hb (Nat.le_refl _)); have HB_10 : Hid (Below w.heap.size w w10) := Lib.hid (HB_9.out.trans (hb.mono HB_9.out.size)); clear hb hb0))
  go_wp2_with fail
  go_region_held3 (fun w' => w'.cell? ⟨w.heap.size, 0, none⟩ = some (.slice a0 n0 c0) ∧ w'.cell? ⟨w.heap.size, 1, none⟩ = some (.int .i64 r0) ∧ w'.cell? ⟨w.heap.size + 1, 0, none⟩ = some (.slice a1 n1 c1) ∧ w'.cell? ⟨w.heap.size + 1, 1, none⟩ = some (.int .i64 r1) ∧ w'.cell? ⟨w6.heap.size, 0, none⟩ = some (.slice a0x n0 c0x) ∧ w'.cell? ⟨w6.heap.size, 1, none⟩ = some (.int .i64 r0) ∧ w'.cell? ⟨w7.heap.size, 0, none⟩ = some (.slice a1x n1 c1x) ∧ w'.cell? ⟨w7.heap.size, 1, none⟩ = some (.int .i64 r1)) (go_keep)
    (first
      | (go_at_call 16; (with_reducible refine (toAbelian_any a1 n1 c1 xs1 r1 _ ?_ HL1.out hn1).mono ?_); exact (show RdI w10 a1 xs1 from (HA1.out.keep HB_10.out (Nat.le_refl _))); rintro e w11 ⟨a1y, c1y, rfl, ho, hb0⟩; have hb : Below w10.heap.size w10 w11 := ⟨hb0.os, hb0.tape, hb0.output, hb0.size, hb0.block⟩; have p00_11 := cell_below (p := ⟨w.heap.size, 0, none⟩) (v := .slice a0 n0 c0) p00_10 hb; have p01_11 := cell_below (p := ⟨w.heap.size, 1, none⟩) (v := .int .i64 r0) p01_10 hb; have p10_11 := cell_below (p := ⟨w.heap.size + 1, 0, none⟩) (v := .slice a1 n1 c1) p10_10 hb; have p11_11 := cell_below (p := ⟨w.heap.size + 1, 1, none⟩) (v := .int .i64 r1) p11_10 hb; have x00_11 := cell_below (p := ⟨w6.heap.size, 0, none⟩) (v := .slice a0x n0 c0x) x00_10 hb; have x01_11 := cell_below (p := ⟨w6.heap.size, 1, none⟩) (v := .int .i64 r0) x01_10 hb; have R1x_11 : Hid (RdI w11 a1x xs1) := Lib.hid (R1x_10.out.keep hb (Nat.le_refl _)); have x10_11 := cell_below (p := ⟨w7.heap.size, 0, none⟩) (v := .slice a1x n1 c1x) x10_10 hb; have x11_11 := cell_below (p := ⟨w7.heap.size, 1, none⟩) (v := .int .i64 r1) x11_10 hb; have HB_11 : Hid (Below w.heap.size w w11) := Lib.hid (HB_10.out.trans (hb.mono HB_10.out.size)); have R1y_11 : Hid (RdI w11 a1y xs1) := Lib.hid ho.rd; clear ho; clear hb hb0)
      | (go_at_call 18; (with_reducible refine (eqAbelian_t _ _ _ _ _ _ xs1 _ _ ?_ ?_ HL1.out HL1.out (by omega)).mono ?_); exact R1x_11.out; exact R1y_11.out; rintro e w12 ⟨rfl, hb0⟩; have hb := hb0; have p00_12 := cell_below (p := ⟨w.heap.size, 0, none⟩) (v := .slice a0 n0 c0) p00_11 hb; have p01_12 := cell_below (p := ⟨w.heap.size, 1, none⟩) (v := .int .i64 r0) p01_11 hb; have p10_12 := cell_below (p := ⟨w.heap.size + 1, 0, none⟩) (v := .slice a1 n1 c1) p10_11 hb; have p11_12 := cell_below (p := ⟨w.heap.size + 1, 1, none⟩) (v := .int .i64 r1) p11_11 hb; have x00_12 := cell_below (p := ⟨w6.heap.size, 0, none⟩) (v := .slice a0x n0 c0x) x00_11 hb; have x01_12 := cell_below (p := ⟨w6.heap.size, 1, none⟩) (v := .int .i64 r0) x01_11 hb; have R1x_12 : Hid (RdI w12 a1x xs1) := Lib.hid (R1x_11.out.keep hb (Nat.le_refl _)); have x10_12 := cell_below (p := ⟨w7.heap.size, 0, none⟩) (v := .slice a1x n1 c1x) x10_11 hb; have x11_12 := cell_below (p := ⟨w7.heap.size, 1, none⟩) (v := .int .i64 r1) x11_11 hb; have R1y_12 : Hid (RdI w12 a1y xs1) := Lib.hid (R1y_11.out.keep hb (Nat.le_refl _)); have HB_12 : Hid (Below w.heap.size w w12) := Lib.hid (HB_11.out.trans (hb.mono HB_11.out.size)); clear hb hb0))
  go_wp2_with fail
  go_ret
  exact ⟨rfl, HB_12.out⟩
--ENDLAW
end Go.Proofs.Ytgdialknnjnehaa
