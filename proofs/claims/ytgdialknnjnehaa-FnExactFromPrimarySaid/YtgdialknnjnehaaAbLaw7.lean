/- The law on the product of cyclic groups of prime power orders. -/
import Derived.Test.YtgdialknnjnehaaFpF
import Derived.Test.YtgdialknnjnehaaKitA
import Derived.Test.YtgdialknnjnehaaHeld
import Derived.Test.YtgdialknnjnehaaKitV
import Derived.Deep.RegionHeld3
set_option linter.unusedVariables false
set_option linter.unusedSimpArgs false
namespace Go.Proofs.Ytgdialknnjnehaa
open Go.RowKit

--LAW FromPrimary
set_option maxRecDepth 20000 in
set_option maxHeartbeats 8000000 in
theorem law_FromPrimary (a0 : Option Addr) (n0 c0 : Nat) (xs0 : List Int) (w : World) (hl0 : xs0.length = n0) (ha0 : RdI w a0 xs0) (hw0 : ∀ x ∈ xs0, (Lit.int .i64 x).wf = true) (hm0 : n0 ≤ maxLen) :
    Calls Try.prog 10 #[.slice a0 n0 c0] w fun e w' => e = .returned (.bool true) ∧ Below w.heap.size w w' := by
  have HA0 := Lib.hid ha0
  have HL0 := Lib.hid hl0
  unfold maxLen at hm0
  have HW0 : Hid (∀ x ∈ xs0, I64 x) := Lib.hid fun x h => wf_bd (hw0 x h)
  clear ha0 hl0 hw0
  by_cases hn0' : 1048576 < (n0 : Int)
  · go_enter Try.func10, Try.ntmps10
    go_wp2_with fail
    go_ret
    exact ⟨rfl, (Below.refl _ _)⟩
  have hn0 : n0 ≤ 1048576 := by omega
  clear hn0'
  go_enter Try.func10, Try.ntmps10
  go_wp2_with fail
  refine (toInt64S_any a0 n0 c0 xs0 _ (by exact HA0.out) HL0.out hn0).mono ?_
  rintro e w1 ⟨a0s, c0s, rfl, ho, hb⟩
  have sz_1 : w.heap.size + 0 ≤ w1.heap.size := (by have := hb.size; omega)
  have HB_1 : Hid (Below w.heap.size w w1) := Lib.hid hb
  have R0s_1 : Hid (RdI w1 a0s xs0) := Lib.hid ho.rd
  clear ho
  clear hb
  go_wp2_with fail
  refine (spec_FromPrimary_any a0s n0 c0s xs0 _ (by exact R0s_1.out) HL0.out hn0 HW0.out).mono ?_
  rintro e w2 ⟨R1, K1, d1, aw, cw, rfl, hres, ho, hb⟩
  have sz_2 : w1.heap.size + 0 ≤ w2.heap.size := (by have := hb.size; omega)
  have R0s_2 : Hid (RdI w2 a0s xs0) := Lib.hid (R0s_1.out.keep hb (Nat.le_refl _))
  have HB_2 : Hid (Below w.heap.size w w2) := Lib.hid (HB_1.out.trans (hb.mono HB_1.out.size))
  have HRes : Hid (res_FromPrimary xs0 R1 K1 d1) := Lib.hid hres
  have RW : Hid (RdI w2 aw R1) := Lib.hid (by first | exact ho | exact ho.rd)
  have SW_2 : Hid (Snap 0 w2 w2) := Lib.hid (Snap.start _ _)
  clear ho hres
  clear hb R0s_1 HB_1
  have hrs := res_FromPrimary_small HRes.out
  go_wp2_with fail
  refine (toInt64S_any a0 n0 c0 xs0 _ (by exact ((HA0.out.keep HB_2.out (Nat.le_refl _)).alloc _)) HL0.out hn0).mono ?_
  rintro e w3 ⟨a0x, c0x, rfl, ho, hb⟩
  have sz_3 : w2.heap.size + 1 ≤ w3.heap.size := (by have := hb.size; simp at this; omega)
  have w0_3 := cell_below (p := ⟨w2.heap.size, 0, none⟩) (v := .slice aw R1.length cw) (by simp) hb
  have w1_3 := cell_below (p := ⟨w2.heap.size, 1, none⟩) (v := .int .i64 K1) (by simp) hb
  replace hb := below_al1 hb
  have SW_3 : Hid (Snap (0) w2 w3) := Lib.hid (SW_2.out.keep hb)
  have HB_3 : Hid (Below w.heap.size w w3) := Lib.hid (HB_2.out.trans (hb.mono HB_2.out.size))
  have ho1 := ho.mono (B' := w2.heap.size + 1) (by first | exact Nat.le_refl _ | simp)
  have O0x : Hid (OwnI 2 w3 (w2.heap.size + 1) a0x n0 c0x xs0) := Lib.hid ho1
  have S0x_3 : Hid (Snap (w2.heap.size + 1) w3 w3) := Lib.hid (Snap.start _ _)
  clear ho ho1
  clear hb SW_2 HB_2
  go_wp2_with fail
  refine (impl_FromPrimary_any a0x n0 c0x xs0 _ (by exact ((S0x_3.out.ownI O0x.out).rd)) HL0.out hn0 HW0.out).mono ?_
  rintro e w4 ⟨R2, K2, d2, ag, cg, rfl, hres, ho, hb⟩
  have sz_4 : w3.heap.size + 0 ≤ w4.heap.size := (by have := hb.size; omega)
  have SW_4 : Hid (Snap (0) w2 w4) := Lib.hid (SW_3.out.keep hb)
  have w0_4 := cell_below (p := ⟨w2.heap.size, 0, none⟩) (v := .slice aw R1.length cw) w0_3 hb
  have w1_4 := cell_below (p := ⟨w2.heap.size, 1, none⟩) (v := .int .i64 K1) w1_3 hb
  have S0x_4 : Hid (Snap (w2.heap.size + 1) w3 w4) := Lib.hid (S0x_3.out.keep hb)
  have HB_4 : Hid (Below w.heap.size w w4) := Lib.hid (HB_3.out.trans (hb.mono HB_3.out.size))
  obtain ⟨rfl, rfl, rfl⟩ := res_FromPrimary_uniq HRes.out hres
  have ho1 := ho.mono (B' := w3.heap.size) (by first | exact Nat.le_refl _ | simp)
  have Og : Hid (OwnI 2 w4 (w3.heap.size) ag R1.length cg R1) := Lib.hid ho1
  have Sg_4 : Hid (Snap (w3.heap.size) w4 w4) := Lib.hid (Snap.start _ _)
  clear ho ho1 hres
  clear hb SW_3 w0_3 w1_3 S0x_3 HB_3
  have lt_w0_4 : w2.heap.size < w4.heap.size := block_lt w0_4
  go_wp2_with fail
  refine (eqAbelian_t _ _ _ _ _ _ R1 _ _ (by exact ((Sg_4.out.ownI Og.out).rd.alloc _)) (by exact ((SW_4.out.rdI RW.out).alloc _)) rfl rfl (by omega)).mono ?_
  rintro e w5 ⟨rfl, hb⟩
  have sz_5 : w4.heap.size + 1 ≤ w5.heap.size := (by have := hb.size; simp at this; omega)
  have g0_5 := cell_below (p := ⟨w4.heap.size, 0, none⟩) (v := .slice ag R1.length cg) (by simp) hb
  have g1_5 := cell_below (p := ⟨w4.heap.size, 1, none⟩) (v := .int .i64 K1) (by simp) hb
  replace hb := below_al1 hb
  have SW_5 : Hid (Snap (0) w2 w5) := Lib.hid (SW_4.out.keep hb)
  have w0_5 := cell_below (p := ⟨w2.heap.size, 0, none⟩) (v := .slice aw R1.length cw) w0_4 hb
  have w1_5 := cell_below (p := ⟨w2.heap.size, 1, none⟩) (v := .int .i64 K1) w1_4 hb
  have S0x_5 : Hid (Snap (w2.heap.size + 1) w3 w5) := Lib.hid (S0x_4.out.keep hb)
  have Sg_5 : Hid (Snap (w3.heap.size) w4 w5) := Lib.hid (Sg_4.out.keep hb)
  have HB_5 : Hid (Below w.heap.size w w5) := Lib.hid (HB_4.out.trans (hb.mono HB_4.out.size))
  clear hb SW_4 w0_4 w1_4 S0x_4 Sg_4 HB_4
  go_wp2_with fail
  refine (toInt64S_any a0 n0 c0 xs0 _ (by exact ((HA0.out.keep HB_5.out (Nat.le_refl _)))) HL0.out hn0).mono ?_
  rintro e w6 ⟨a0y, c0y, rfl, ho, hb⟩
  have sz_6 : w5.heap.size + 0 ≤ w6.heap.size := (by have := hb.size; omega)
  have SW_6 : Hid (Snap (0) w2 w6) := Lib.hid (SW_5.out.keep hb)
  have w0_6 := cell_below (p := ⟨w2.heap.size, 0, none⟩) (v := .slice aw R1.length cw) w0_5 hb
  have w1_6 := cell_below (p := ⟨w2.heap.size, 1, none⟩) (v := .int .i64 K1) w1_5 hb
  have S0x_6 : Hid (Snap (w2.heap.size + 1) w3 w6) := Lib.hid (S0x_5.out.keep hb)
  have Sg_6 : Hid (Snap (w3.heap.size) w4 w6) := Lib.hid (Sg_5.out.keep hb)
  have g0_6 := cell_below (p := ⟨w4.heap.size, 0, none⟩) (v := .slice ag R1.length cg) g0_5 hb
  have g1_6 := cell_below (p := ⟨w4.heap.size, 1, none⟩) (v := .int .i64 K1) g1_5 hb
  have HB_6 : Hid (Below w.heap.size w w6) := Lib.hid (HB_5.out.trans (hb.mono HB_5.out.size))
  have R0y_6 : Hid (RdI w6 a0y xs0) := Lib.hid ho.rd
  clear ho
  clear hb SW_5 w0_5 w1_5 S0x_5 Sg_5 g0_5 g1_5 HB_5
  go_wp2_with fail
  refine (eqInt64S_b _ _ _ _ _ _ xs0 _ (by exact ((S0x_6.out.ownI O0x.out).rd)) (by exact R0y_6.out) HL0.out HL0.out (by omega)).mono ?_
  rintro e w7 ⟨rfl, hb⟩
  have sz_7 : w6.heap.size + 0 ≤ w7.heap.size := (by have := hb.size; omega)
  have SW_7 : Hid (Snap (0) w2 w7) := Lib.hid (SW_6.out.keep hb)
  have w0_7 := cell_below (p := ⟨w2.heap.size, 0, none⟩) (v := .slice aw R1.length cw) w0_6 hb
  have w1_7 := cell_below (p := ⟨w2.heap.size, 1, none⟩) (v := .int .i64 K1) w1_6 hb
  have S0x_7 : Hid (Snap (w2.heap.size + 1) w3 w7) := Lib.hid (S0x_6.out.keep hb)
  have Sg_7 : Hid (Snap (w3.heap.size) w4 w7) := Lib.hid (Sg_6.out.keep hb)
  have g0_7 := cell_below (p := ⟨w4.heap.size, 0, none⟩) (v := .slice ag R1.length cg) g0_6 hb
  have g1_7 := cell_below (p := ⟨w4.heap.size, 1, none⟩) (v := .int .i64 K1) g1_6 hb
  have R0y_7 : Hid (RdI w7 a0y xs0) := Lib.hid (R0y_6.out.keep hb (Nat.le_refl _))
  have HB_7 : Hid (Below w.heap.size w w7) := Lib.hid (HB_6.out.trans (hb.mono HB_6.out.size))
  clear hb SW_6 w0_6 w1_6 S0x_6 Sg_6 g0_6 g1_6 R0y_6 HB_6
  go_wp2_with fail
  refine (markInt64S_t 2 _ _ _ _ _ (by exact (S0x_7.out.ownI O0x.out).wr) (by omega) (by omega) (by omega)).mono ?_
  rintro e w8 ⟨rfl, hr, hc⟩
  have hg := O0x.out.rg hc
  have sz_8 : w7.heap.size + 0 ≤ w8.heap.size := by have := hg.size; omega
  have SW_8 : Hid (Snap (0) w2 w8) := Lib.hid (SW_7.out.chg hg (show w2.heap.size ≤ w2.heap.size + 1 ∨ w3.heap.size ≤ 0 by omega))
  have w0_8 := cell_chg (p := ⟨w2.heap.size, 0, none⟩) (v := .slice aw R1.length cw) w0_7 hg (show w2.heap.size < w2.heap.size + 1 ∨ w3.heap.size ≤ w2.heap.size by omega)
  have w1_8 := cell_chg (p := ⟨w2.heap.size, 1, none⟩) (v := .int .i64 K1) w1_7 hg (show w2.heap.size < w2.heap.size + 1 ∨ w3.heap.size ≤ w2.heap.size by omega)
  have Sg_8 : Hid (Snap (w3.heap.size) w4 w8) := Lib.hid (Sg_7.out.chg hg (show w4.heap.size ≤ w2.heap.size + 1 ∨ w3.heap.size ≤ w3.heap.size by omega))
  have g0_8 := cell_chg (p := ⟨w4.heap.size, 0, none⟩) (v := .slice ag R1.length cg) g0_7 hg (show w4.heap.size < w2.heap.size + 1 ∨ w3.heap.size ≤ w4.heap.size by omega)
  have g1_8 := cell_chg (p := ⟨w4.heap.size, 1, none⟩) (v := .int .i64 K1) g1_7 hg (show w4.heap.size < w2.heap.size + 1 ∨ w3.heap.size ≤ w4.heap.size by omega)
  have HB_8 : Hid (Below w.heap.size w w8) := Lib.hid (below_chg HB_7.out hg (Nat.le_refl _) (show w.heap.size ≤ w2.heap.size + 1 by omega))
  clear hr hc hg SW_7 w0_7 w1_7 Sg_7 g0_7 g1_7 HB_7
  go_wp2_with fail
  refine (eqAbelian_t _ _ _ _ _ _ R1 _ _ (by exact ((Sg_8.out.ownI Og.out).rd)) (by exact ((SW_8.out.rdI RW.out))) rfl rfl (by omega)).mono ?_
  rintro e w9 ⟨rfl, hb⟩
  have sz_9 : w8.heap.size + 0 ≤ w9.heap.size := (by have := hb.size; omega)
  have SW_9 : Hid (Snap (0) w2 w9) := Lib.hid (SW_8.out.keep hb)
  have w0_9 := cell_below (p := ⟨w2.heap.size, 0, none⟩) (v := .slice aw R1.length cw) w0_8 hb
  have w1_9 := cell_below (p := ⟨w2.heap.size, 1, none⟩) (v := .int .i64 K1) w1_8 hb
  have Sg_9 : Hid (Snap (w3.heap.size) w4 w9) := Lib.hid (Sg_8.out.keep hb)
  have g0_9 := cell_below (p := ⟨w4.heap.size, 0, none⟩) (v := .slice ag R1.length cg) g0_8 hb
  have g1_9 := cell_below (p := ⟨w4.heap.size, 1, none⟩) (v := .int .i64 K1) g1_8 hb
  have HB_9 : Hid (Below w.heap.size w w9) := Lib.hid (HB_8.out.trans (hb.mono HB_8.out.size))
  clear hb SW_8 w0_8 w1_8 Sg_8 g0_8 g1_8 HB_8
  go_wp2_with fail
  refine (markAbelian_t 2 _ _ _ _ _ _ (by exact (Sg_9.out.ownI Og.out).wr) (by omega) (by omega) (by omega)).mono ?_
  rintro e w10 ⟨rfl, hr, hc⟩
  have hg := Og.out.rg hc
  have sz_10 : w9.heap.size + 0 ≤ w10.heap.size := by have := hg.size; omega
  have SW_10 : Hid (Snap (0) w2 w10) := Lib.hid (SW_9.out.chg hg (show w2.heap.size ≤ w3.heap.size ∨ w4.heap.size ≤ 0 by omega))
  have w0_10 := cell_chg (p := ⟨w2.heap.size, 0, none⟩) (v := .slice aw R1.length cw) w0_9 hg (show w2.heap.size < w3.heap.size ∨ w4.heap.size ≤ w2.heap.size by omega)
  have w1_10 := cell_chg (p := ⟨w2.heap.size, 1, none⟩) (v := .int .i64 K1) w1_9 hg (show w2.heap.size < w3.heap.size ∨ w4.heap.size ≤ w2.heap.size by omega)
  have g0_10 := cell_chg (p := ⟨w4.heap.size, 0, none⟩) (v := .slice ag R1.length cg) g0_9 hg (show w4.heap.size < w3.heap.size ∨ w4.heap.size ≤ w4.heap.size by omega)
  have g1_10 := cell_chg (p := ⟨w4.heap.size, 1, none⟩) (v := .int .i64 K1) g1_9 hg (show w4.heap.size < w3.heap.size ∨ w4.heap.size ≤ w4.heap.size by omega)
  have HB_10 : Hid (Below w.heap.size w w10) := Lib.hid (below_chg HB_9.out hg (Nat.le_refl _) (show w.heap.size ≤ w3.heap.size by omega))
  have Rg_10 : Hid (RdI w10 ag (marks 1 R1.length)) := Lib.hid hr
  clear hr hc hg SW_9 w0_9 w1_9 g0_9 g1_9 HB_9
  go_wp2_with fail
  refine (heldAbelian_t _ _ _ _ _ _ (by exact Rg_10.out) (by omega) (by omega) (by omega)).mono ?_
  rintro e w11 ⟨rfl, hb⟩
  have sz_11 : w10.heap.size + 0 ≤ w11.heap.size := (by have := hb.size; omega)
  have SW_11 : Hid (Snap (0) w2 w11) := Lib.hid (SW_10.out.keep hb)
  have w0_11 := cell_below (p := ⟨w2.heap.size, 0, none⟩) (v := .slice aw R1.length cw) w0_10 hb
  have w1_11 := cell_below (p := ⟨w2.heap.size, 1, none⟩) (v := .int .i64 K1) w1_10 hb
  have g0_11 := cell_below (p := ⟨w4.heap.size, 0, none⟩) (v := .slice ag R1.length cg) g0_10 hb
  have g1_11 := cell_below (p := ⟨w4.heap.size, 1, none⟩) (v := .int .i64 K1) g1_10 hb
  have Rg_11 : Hid (RdI w11 ag (marks 1 R1.length)) := Lib.hid (Rg_10.out.keep hb (Nat.le_refl _))
  have HB_11 : Hid (Below w.heap.size w w11) := Lib.hid (HB_10.out.trans (hb.mono HB_10.out.size))
  clear hb SW_10 w0_10 w1_10 g0_10 g1_10 Rg_10 HB_10
  go_wp2_with fail
  refine (toInt64S_any a0 n0 c0 xs0 _ (by exact ((HA0.out.keep HB_11.out (Nat.le_refl _)))) HL0.out hn0).mono ?_
  rintro e w12 ⟨a0h, c0h, rfl, ho, hb⟩
  have sz_12 : w11.heap.size + 0 ≤ w12.heap.size := (by have := hb.size; omega)
  have SW_12 : Hid (Snap (0) w2 w12) := Lib.hid (SW_11.out.keep hb)
  have w0_12 := cell_below (p := ⟨w2.heap.size, 0, none⟩) (v := .slice aw R1.length cw) w0_11 hb
  have w1_12 := cell_below (p := ⟨w2.heap.size, 1, none⟩) (v := .int .i64 K1) w1_11 hb
  have g0_12 := cell_below (p := ⟨w4.heap.size, 0, none⟩) (v := .slice ag R1.length cg) g0_11 hb
  have g1_12 := cell_below (p := ⟨w4.heap.size, 1, none⟩) (v := .int .i64 K1) g1_11 hb
  have Rg_12 : Hid (RdI w12 ag (marks 1 R1.length)) := Lib.hid (Rg_11.out.keep hb (Nat.le_refl _))
  have HB_12 : Hid (Below w.heap.size w w12) := Lib.hid (HB_11.out.trans (hb.mono HB_11.out.size))
  have R0h_12 : Hid (RdI w12 a0h xs0) := Lib.hid ho.rd
  clear ho
  clear hb SW_11 w0_11 w1_11 g0_11 g1_11 Rg_11 HB_11
  go_wp2_with fail
  refine (impl_FromPrimary_any a0h n0 c0h xs0 _ (by exact R0h_12.out) HL0.out hn0 HW0.out).mono ?_
  rintro e w13 ⟨R3, K3, d3, ah, ch, rfl, hres, ho, hb⟩
  have sz_13 : w12.heap.size + 0 ≤ w13.heap.size := (by have := hb.size; omega)
  have SW_13 : Hid (Snap (0) w2 w13) := Lib.hid (SW_12.out.keep hb)
  have w0_13 := cell_below (p := ⟨w2.heap.size, 0, none⟩) (v := .slice aw R1.length cw) w0_12 hb
  have w1_13 := cell_below (p := ⟨w2.heap.size, 1, none⟩) (v := .int .i64 K1) w1_12 hb
  have g0_13 := cell_below (p := ⟨w4.heap.size, 0, none⟩) (v := .slice ag R1.length cg) g0_12 hb
  have g1_13 := cell_below (p := ⟨w4.heap.size, 1, none⟩) (v := .int .i64 K1) g1_12 hb
  have Rg_13 : Hid (RdI w13 ag (marks 1 R1.length)) := Lib.hid (Rg_12.out.keep hb (Nat.le_refl _))
  have R0h_13 : Hid (RdI w13 a0h xs0) := Lib.hid (R0h_12.out.keep hb (Nat.le_refl _))
  have HB_13 : Hid (Below w.heap.size w w13) := Lib.hid (HB_12.out.trans (hb.mono HB_12.out.size))
  obtain ⟨rfl, rfl, rfl⟩ := res_FromPrimary_uniq HRes.out hres
  have Rh_13 : Hid (RdI w13 ah R1) := Lib.hid ho.rd
  clear ho hres
  clear hb SW_12 w0_12 w1_12 g0_12 g1_12 Rg_12 R0h_12 HB_12
  have lt_w0_13 : w2.heap.size < w13.heap.size := block_lt w0_13
  have lt_g0_13 : w4.heap.size < w13.heap.size := block_lt g0_13
  go_wp2_with fail
  refine (eqAbelian_t _ _ _ _ _ _ R1 _ _ (by exact (Rh_13.out.alloc _)) (by exact ((SW_13.out.rdI RW.out).alloc _)) rfl rfl (by omega)).mono ?_
  rintro e w14 ⟨rfl, hb⟩
  have sz_14 : w13.heap.size + 1 ≤ w14.heap.size := (by have := hb.size; simp at this; omega)
  have h0_14 := cell_below (p := ⟨w13.heap.size, 0, none⟩) (v := .slice ah R1.length ch) (by simp) hb
  have h1_14 := cell_below (p := ⟨w13.heap.size, 1, none⟩) (v := .int .i64 K1) (by simp) hb
  replace hb := below_al1 hb
  have SW_14 : Hid (Snap (0) w2 w14) := Lib.hid (SW_13.out.keep hb)
  have w0_14 := cell_below (p := ⟨w2.heap.size, 0, none⟩) (v := .slice aw R1.length cw) w0_13 hb
  have w1_14 := cell_below (p := ⟨w2.heap.size, 1, none⟩) (v := .int .i64 K1) w1_13 hb
  have g0_14 := cell_below (p := ⟨w4.heap.size, 0, none⟩) (v := .slice ag R1.length cg) g0_13 hb
  have g1_14 := cell_below (p := ⟨w4.heap.size, 1, none⟩) (v := .int .i64 K1) g1_13 hb
  have Rg_14 : Hid (RdI w14 ag (marks 1 R1.length)) := Lib.hid (Rg_13.out.keep hb (Nat.le_refl _))
  have Rh_14 : Hid (RdI w14 ah R1) := Lib.hid (Rh_13.out.keep hb (Nat.le_refl _))
  have HB_14 : Hid (Below w.heap.size w w14) := Lib.hid (HB_13.out.trans (hb.mono HB_13.out.size))
  clear hb SW_13 w0_13 w1_13 g0_13 g1_13 Rg_13 Rh_13 HB_13
  go_wp2_with fail
  refine (heldAbelian_t _ _ _ _ _ _ (by exact Rg_14.out) (by omega) (by omega) (by omega)).mono ?_
  rintro e w15 ⟨rfl, hb⟩
  have sz_15 : w14.heap.size + 0 ≤ w15.heap.size := (by have := hb.size; omega)
  have SW_15 : Hid (Snap (0) w2 w15) := Lib.hid (SW_14.out.keep hb)
  have w0_15 := cell_below (p := ⟨w2.heap.size, 0, none⟩) (v := .slice aw R1.length cw) w0_14 hb
  have w1_15 := cell_below (p := ⟨w2.heap.size, 1, none⟩) (v := .int .i64 K1) w1_14 hb
  have g0_15 := cell_below (p := ⟨w4.heap.size, 0, none⟩) (v := .slice ag R1.length cg) g0_14 hb
  have g1_15 := cell_below (p := ⟨w4.heap.size, 1, none⟩) (v := .int .i64 K1) g1_14 hb
  have Rg_15 : Hid (RdI w15 ag (marks 1 R1.length)) := Lib.hid (Rg_14.out.keep hb (Nat.le_refl _))
  have Rh_15 : Hid (RdI w15 ah R1) := Lib.hid (Rh_14.out.keep hb (Nat.le_refl _))
  have h0_15 := cell_below (p := ⟨w13.heap.size, 0, none⟩) (v := .slice ah R1.length ch) h0_14 hb
  have h1_15 := cell_below (p := ⟨w13.heap.size, 1, none⟩) (v := .int .i64 K1) h1_14 hb
  have HB_15 : Hid (Below w.heap.size w w15) := Lib.hid (HB_14.out.trans (hb.mono HB_14.out.size))
  clear hb SW_14 w0_14 w1_14 g0_14 g1_14 Rg_14 Rh_14 h0_14 h1_14 HB_14
  go_wp2_with fail
  go_ret
  exact ⟨rfl, HB_15.out⟩
--ENDLAW
end Go.Proofs.Ytgdialknnjnehaa
