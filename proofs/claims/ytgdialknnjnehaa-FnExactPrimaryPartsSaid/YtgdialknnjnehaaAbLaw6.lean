/- The law on primary parts. -/
import Derived.Test.YtgdialknnjnehaaPpE
import Derived.Test.YtgdialknnjnehaaKitA
import Derived.Test.YtgdialknnjnehaaHeld
import Derived.Test.YtgdialknnjnehaaKitV
import Derived.Deep.RegionHeld3
set_option linter.unusedVariables false
set_option linter.unusedSimpArgs false
namespace Go.Proofs.Ytgdialknnjnehaa
open Go.RowKit

--LAW PrimaryParts
set_option maxRecDepth 20000 in
set_option maxHeartbeats 8000000 in
theorem law_PrimaryParts (a0 : Option Addr) (n0 c0 : Nat) (xs0 : List Int) (r0 : Int) (w : World) (hl0 : xs0.length = n0) (ha0 : RdI w a0 xs0) (hw0 : ∀ x ∈ xs0, (Lit.int .i64 x).wf = true) (hm0 : n0 ≤ maxLen) (hr0 : I64 r0) :
    Calls Try.prog 9 #[.agg #[.slice a0 n0 c0, .int .i64 r0]] w fun e w' => e = .returned (.bool true) ∧ Below w.heap.size w w' := by
  have HA0 := Lib.hid ha0
  have HL0 := Lib.hid hl0
  unfold maxLen at hm0
  have HR0 := Lib.hid hr0
  clear hr0
  clear ha0 hl0 hw0
  go_enter Try.func9, Try.ntmps9
  go_wp2_with fail
  refine (szAbelian_any _ n0 _ _ 1048576 _ (by omega) (by omega) (by omega)).mono ?_
  rintro e w1 ⟨z0, rfl, hz, hb⟩
  have sz_1 : w.heap.size + 1 ≤ w1.heap.size := (by have := hb.size; simp at this; omega)
  have p00_1 := cell_below (p := ⟨w.heap.size, 0, none⟩) (v := .slice a0 n0 c0) (by simp) hb
  have p01_1 := cell_below (p := ⟨w.heap.size, 1, none⟩) (v := .int .i64 r0) (by simp) hb
  replace hb := below_al1 hb
  have HB_1 : Hid (Below w.heap.size w w1) := Lib.hid hb
  clear hb
  rcases hz with rfl | ⟨hz0, hy0, hn0'⟩
  · go_wp2_with fail
    go_ret
    exact ⟨rfl, HB_1.out⟩
  have hn0 : n0 ≤ 1048576 := by omega
  clear hn0'
  go_wp2_with fail
  refine (toAbelian_any a0 n0 c0 xs0 r0 _ (by exact ((HA0.out.keep HB_1.out (Nat.le_refl _)))) HL0.out hn0).mono ?_
  rintro e w2 ⟨a0s, c0s, rfl, ho, hb⟩
  have sz_2 : w1.heap.size + 0 ≤ w2.heap.size := (by have := hb.size; omega)
  have p00_2 := cell_below (p := ⟨w.heap.size, 0, none⟩) (v := .slice a0 n0 c0) p00_1 hb
  have p01_2 := cell_below (p := ⟨w.heap.size, 1, none⟩) (v := .int .i64 r0) p01_1 hb
  have HB_2 : Hid (Below w.heap.size w w2) := Lib.hid (HB_1.out.trans (hb.mono HB_1.out.size))
  have R0s_2 : Hid (RdI w2 a0s xs0) := Lib.hid ho.rd
  clear ho
  clear hb p00_1 p01_1 HB_1
  go_wp2_with fail
  refine (spec_PrimaryParts_any a0s n0 c0s xs0 r0 _ (by exact R0s_2.out) HL0.out hn0 HR0.out).mono ?_
  rintro e w3 ⟨R1, d1, aw, cw, rfl, hres, ho, hb⟩
  have sz_3 : w2.heap.size + 0 ≤ w3.heap.size := (by have := hb.size; omega)
  have p00_3 := cell_below (p := ⟨w.heap.size, 0, none⟩) (v := .slice a0 n0 c0) p00_2 hb
  have p01_3 := cell_below (p := ⟨w.heap.size, 1, none⟩) (v := .int .i64 r0) p01_2 hb
  have R0s_3 : Hid (RdI w3 a0s xs0) := Lib.hid (R0s_2.out.keep hb (Nat.le_refl _))
  have HB_3 : Hid (Below w.heap.size w w3) := Lib.hid (HB_2.out.trans (hb.mono HB_2.out.size))
  have HRes : Hid (res_PrimaryParts xs0 r0 R1 d1) := Lib.hid hres
  have RW : Hid (RdI w3 aw R1) := Lib.hid (by first | exact ho | exact ho.rd)
  have SW_3 : Hid (Snap 0 w3 w3) := Lib.hid (Snap.start _ _)
  clear ho hres
  clear hb p00_2 p01_2 R0s_2 HB_2
  have hrs := res_PrimaryParts_small HRes.out
  go_wp2_with fail
  refine (toAbelian_any a0 n0 c0 xs0 r0 _ (by exact ((HA0.out.keep HB_3.out (Nat.le_refl _)))) HL0.out hn0).mono ?_
  rintro e w4 ⟨a0x, c0x, rfl, ho, hb⟩
  have sz_4 : w3.heap.size + 0 ≤ w4.heap.size := (by have := hb.size; omega)
  have p00_4 := cell_below (p := ⟨w.heap.size, 0, none⟩) (v := .slice a0 n0 c0) p00_3 hb
  have p01_4 := cell_below (p := ⟨w.heap.size, 1, none⟩) (v := .int .i64 r0) p01_3 hb
  have SW_4 : Hid (Snap (0) w3 w4) := Lib.hid (SW_3.out.keep hb)
  have HB_4 : Hid (Below w.heap.size w w4) := Lib.hid (HB_3.out.trans (hb.mono HB_3.out.size))
  have ho1 := ho.mono (B' := w3.heap.size) (by first | exact Nat.le_refl _ | simp)
  have O0x : Hid (OwnI 2 w4 (w3.heap.size) a0x n0 c0x xs0) := Lib.hid ho1
  have S0x_4 : Hid (Snap (w3.heap.size) w4 w4) := Lib.hid (Snap.start _ _)
  clear ho ho1
  clear hb p00_3 p01_3 SW_3 HB_3
  have lt_p00_4 : w.heap.size < w4.heap.size := block_lt p00_4
  go_wp2_with fail
  refine (impl_PrimaryParts_any a0x n0 c0x xs0 r0 _ (by exact ((S0x_4.out.ownI O0x.out).rd.alloc _)) HL0.out hn0 HR0.out).mono ?_
  rintro e w5 ⟨R2, d2, ag, cg, rfl, hres, ho, hb⟩
  have sz_5 : w4.heap.size + 1 ≤ w5.heap.size := (by have := hb.size; simp at this; omega)
  have x00_5 := cell_below (p := ⟨w4.heap.size, 0, none⟩) (v := .slice a0x n0 c0x) (by simp) hb
  have x01_5 := cell_below (p := ⟨w4.heap.size, 1, none⟩) (v := .int .i64 r0) (by simp) hb
  replace hb := below_al1 hb
  have p00_5 := cell_below (p := ⟨w.heap.size, 0, none⟩) (v := .slice a0 n0 c0) p00_4 hb
  have p01_5 := cell_below (p := ⟨w.heap.size, 1, none⟩) (v := .int .i64 r0) p01_4 hb
  have SW_5 : Hid (Snap (0) w3 w5) := Lib.hid (SW_4.out.keep hb)
  have S0x_5 : Hid (Snap (w3.heap.size) w4 w5) := Lib.hid (S0x_4.out.keep hb)
  have HB_5 : Hid (Below w.heap.size w w5) := Lib.hid (HB_4.out.trans (hb.mono HB_4.out.size))
  obtain ⟨rfl, rfl⟩ := res_PrimaryParts_uniq HRes.out hres
  have ho1 := ho.mono (B' := w4.heap.size + 1) (by first | exact Nat.le_refl _ | simp)
  have Og : Hid (OwnI 2 w5 (w4.heap.size + 1) ag R1.length cg R1) := Lib.hid ho1
  have Sg_5 : Hid (Snap (w4.heap.size + 1) w5 w5) := Lib.hid (Snap.start _ _)
  clear ho ho1 hres
  clear hb p00_4 p01_4 SW_4 S0x_4 HB_4
  go_wp2_with fail
  refine (eqInt64S_b _ _ _ _ _ _ R1 _ (by exact ((Sg_5.out.ownI Og.out).rd)) (by exact ((SW_5.out.rdI RW.out))) rfl rfl (by omega)).mono ?_
  rintro e w6 ⟨rfl, hb⟩
  have sz_6 : w5.heap.size + 0 ≤ w6.heap.size := (by have := hb.size; omega)
  have p00_6 := cell_below (p := ⟨w.heap.size, 0, none⟩) (v := .slice a0 n0 c0) p00_5 hb
  have p01_6 := cell_below (p := ⟨w.heap.size, 1, none⟩) (v := .int .i64 r0) p01_5 hb
  have SW_6 : Hid (Snap (0) w3 w6) := Lib.hid (SW_5.out.keep hb)
  have S0x_6 : Hid (Snap (w3.heap.size) w4 w6) := Lib.hid (S0x_5.out.keep hb)
  have x00_6 := cell_below (p := ⟨w4.heap.size, 0, none⟩) (v := .slice a0x n0 c0x) x00_5 hb
  have x01_6 := cell_below (p := ⟨w4.heap.size, 1, none⟩) (v := .int .i64 r0) x01_5 hb
  have Sg_6 : Hid (Snap (w4.heap.size + 1) w5 w6) := Lib.hid (Sg_5.out.keep hb)
  have HB_6 : Hid (Below w.heap.size w w6) := Lib.hid (HB_5.out.trans (hb.mono HB_5.out.size))
  clear hb p00_5 p01_5 SW_5 S0x_5 x00_5 x01_5 Sg_5 HB_5
  go_wp2_with fail
  go_region_held3 (fun w' => w'.cell? ⟨w.heap.size, 0, none⟩ = some (.slice a0 n0 c0) ∧ w'.cell? ⟨w.heap.size, 1, none⟩ = some (.int .i64 r0) ∧ w'.cell? ⟨w4.heap.size, 0, none⟩ = some (.slice a0x n0 c0x) ∧ w'.cell? ⟨w4.heap.size, 1, none⟩ = some (.int .i64 r0)) (go_keep)
    (first
      | (go_at_call 16; (with_reducible refine (toAbelian_any a0 n0 c0 xs0 r0 _ ?_ HL0.out hn0).mono ?_); exact (show RdI w6 a0 xs0 from ((HA0.out.keep HB_6.out (Nat.le_refl _)))); rintro e w7 ⟨a0y, c0y, rfl, ho, hb0⟩; have hb : Below w6.heap.size w6 w7 := ⟨hb0.os, hb0.tape, hb0.output, hb0.size, hb0.block⟩; have sz_7 : w6.heap.size + 0 ≤ w7.heap.size := (by have := hb.size; omega); have p00_7 := cell_below (p := ⟨w.heap.size, 0, none⟩) (v := .slice a0 n0 c0) p00_6 hb; have p01_7 := cell_below (p := ⟨w.heap.size, 1, none⟩) (v := .int .i64 r0) p01_6 hb; have SW_7 : Hid (Snap (0) w3 w7) := Lib.hid (SW_6.out.keep hb); have S0x_7 : Hid (Snap (w3.heap.size) w4 w7) := Lib.hid (S0x_6.out.keep hb); have x00_7 := cell_below (p := ⟨w4.heap.size, 0, none⟩) (v := .slice a0x n0 c0x) x00_6 hb; have x01_7 := cell_below (p := ⟨w4.heap.size, 1, none⟩) (v := .int .i64 r0) x01_6 hb; have Sg_7 : Hid (Snap (w4.heap.size + 1) w5 w7) := Lib.hid (Sg_6.out.keep hb); have HB_7 : Hid (Below w.heap.size w w7) := Lib.hid (HB_6.out.trans (hb.mono HB_6.out.size)); have R0y_7 : Hid (RdI w7 a0y xs0) := Lib.hid ho.rd; clear ho; clear hb hb0)
      | (go_at_call 18; (with_reducible refine (eqAbelian_t _ _ _ _ _ _ xs0 _ _ ?_ ?_ HL0.out HL0.out (by omega)).mono ?_); exact ((S0x_7.out.ownI O0x.out).rd); exact R0y_7.out; rintro e w8 ⟨rfl, hb0⟩; have hb := hb0; have sz_8 : w7.heap.size + 0 ≤ w8.heap.size := (by have := hb.size; omega); have p00_8 := cell_below (p := ⟨w.heap.size, 0, none⟩) (v := .slice a0 n0 c0) p00_7 hb; have p01_8 := cell_below (p := ⟨w.heap.size, 1, none⟩) (v := .int .i64 r0) p01_7 hb; have SW_8 : Hid (Snap (0) w3 w8) := Lib.hid (SW_7.out.keep hb); have S0x_8 : Hid (Snap (w3.heap.size) w4 w8) := Lib.hid (S0x_7.out.keep hb); have x00_8 := cell_below (p := ⟨w4.heap.size, 0, none⟩) (v := .slice a0x n0 c0x) x00_7 hb; have x01_8 := cell_below (p := ⟨w4.heap.size, 1, none⟩) (v := .int .i64 r0) x01_7 hb; have Sg_8 : Hid (Snap (w4.heap.size + 1) w5 w8) := Lib.hid (Sg_7.out.keep hb); have R0y_8 : Hid (RdI w8 a0y xs0) := Lib.hid (R0y_7.out.keep hb (Nat.le_refl _)); have HB_8 : Hid (Below w.heap.size w w8) := Lib.hid (HB_7.out.trans (hb.mono HB_7.out.size)); clear hb hb0))
  go_wp2_with fail
  refine (markAbelian_t 2 _ _ _ _ _ _ (by exact (S0x_8.out.ownI O0x.out).wr) (by omega) (by omega) (by omega)).mono ?_
  rintro e w9 ⟨rfl, hr, hc⟩
  have hg := O0x.out.rg hc
  have sz_9 : w8.heap.size + 0 ≤ w9.heap.size := by have := hg.size; omega
  have p00_9 := cell_chg (p := ⟨w.heap.size, 0, none⟩) (v := .slice a0 n0 c0) p00_8 hg (show w.heap.size < w3.heap.size ∨ w4.heap.size ≤ w.heap.size by omega)
  have p01_9 := cell_chg (p := ⟨w.heap.size, 1, none⟩) (v := .int .i64 r0) p01_8 hg (show w.heap.size < w3.heap.size ∨ w4.heap.size ≤ w.heap.size by omega)
  have SW_9 : Hid (Snap (0) w3 w9) := Lib.hid (SW_8.out.chg hg (show w3.heap.size ≤ w3.heap.size ∨ w4.heap.size ≤ 0 by omega))
  have x00_9 := cell_chg (p := ⟨w4.heap.size, 0, none⟩) (v := .slice a0x n0 c0x) x00_8 hg (show w4.heap.size < w3.heap.size ∨ w4.heap.size ≤ w4.heap.size by omega)
  have x01_9 := cell_chg (p := ⟨w4.heap.size, 1, none⟩) (v := .int .i64 r0) x01_8 hg (show w4.heap.size < w3.heap.size ∨ w4.heap.size ≤ w4.heap.size by omega)
  have Sg_9 : Hid (Snap (w4.heap.size + 1) w5 w9) := Lib.hid (Sg_8.out.chg hg (show w5.heap.size ≤ w3.heap.size ∨ w4.heap.size ≤ w4.heap.size + 1 by omega))
  have HB_9 : Hid (Below w.heap.size w w9) := Lib.hid (below_chg HB_8.out hg (Nat.le_refl _) (show w.heap.size ≤ w3.heap.size by omega))
  clear hr hc hg p00_8 p01_8 SW_8 x00_8 x01_8 Sg_8 HB_8
  go_wp2_with fail
  refine (eqInt64S_b _ _ _ _ _ _ R1 _ (by exact ((Sg_9.out.ownI Og.out).rd)) (by exact ((SW_9.out.rdI RW.out))) rfl rfl (by omega)).mono ?_
  rintro e w10 ⟨rfl, hb⟩
  have sz_10 : w9.heap.size + 0 ≤ w10.heap.size := (by have := hb.size; omega)
  have p00_10 := cell_below (p := ⟨w.heap.size, 0, none⟩) (v := .slice a0 n0 c0) p00_9 hb
  have p01_10 := cell_below (p := ⟨w.heap.size, 1, none⟩) (v := .int .i64 r0) p01_9 hb
  have SW_10 : Hid (Snap (0) w3 w10) := Lib.hid (SW_9.out.keep hb)
  have x00_10 := cell_below (p := ⟨w4.heap.size, 0, none⟩) (v := .slice a0x n0 c0x) x00_9 hb
  have x01_10 := cell_below (p := ⟨w4.heap.size, 1, none⟩) (v := .int .i64 r0) x01_9 hb
  have Sg_10 : Hid (Snap (w4.heap.size + 1) w5 w10) := Lib.hid (Sg_9.out.keep hb)
  have HB_10 : Hid (Below w.heap.size w w10) := Lib.hid (HB_9.out.trans (hb.mono HB_9.out.size))
  clear hb p00_9 p01_9 SW_9 x00_9 x01_9 Sg_9 HB_9
  go_wp2_with fail
  refine (markInt64S_t 2 _ _ _ _ _ (by exact (Sg_10.out.ownI Og.out).wr) (by omega) (by omega) (by omega)).mono ?_
  rintro e w11 ⟨rfl, hr, hc⟩
  have hg := Og.out.rg hc
  have sz_11 : w10.heap.size + 0 ≤ w11.heap.size := by have := hg.size; omega
  have p00_11 := cell_chg (p := ⟨w.heap.size, 0, none⟩) (v := .slice a0 n0 c0) p00_10 hg (show w.heap.size < w4.heap.size + 1 ∨ w5.heap.size ≤ w.heap.size by omega)
  have p01_11 := cell_chg (p := ⟨w.heap.size, 1, none⟩) (v := .int .i64 r0) p01_10 hg (show w.heap.size < w4.heap.size + 1 ∨ w5.heap.size ≤ w.heap.size by omega)
  have SW_11 : Hid (Snap (0) w3 w11) := Lib.hid (SW_10.out.chg hg (show w3.heap.size ≤ w4.heap.size + 1 ∨ w5.heap.size ≤ 0 by omega))
  have x00_11 := cell_chg (p := ⟨w4.heap.size, 0, none⟩) (v := .slice a0x n0 c0x) x00_10 hg (show w4.heap.size < w4.heap.size + 1 ∨ w5.heap.size ≤ w4.heap.size by omega)
  have x01_11 := cell_chg (p := ⟨w4.heap.size, 1, none⟩) (v := .int .i64 r0) x01_10 hg (show w4.heap.size < w4.heap.size + 1 ∨ w5.heap.size ≤ w4.heap.size by omega)
  have HB_11 : Hid (Below w.heap.size w w11) := Lib.hid (below_chg HB_10.out hg (Nat.le_refl _) (show w.heap.size ≤ w4.heap.size + 1 by omega))
  have Rg_11 : Hid (RdI w11 ag (marks 1 R1.length)) := Lib.hid hr
  clear hr hc hg p00_10 p01_10 SW_10 x00_10 x01_10 HB_10
  go_wp2_with fail
  refine (heldInt64S_b _ _ _ _ _ (by exact Rg_11.out) (by omega) (by omega) (by omega)).mono ?_
  rintro e w12 ⟨rfl, hb⟩
  have sz_12 : w11.heap.size + 0 ≤ w12.heap.size := (by have := hb.size; omega)
  have p00_12 := cell_below (p := ⟨w.heap.size, 0, none⟩) (v := .slice a0 n0 c0) p00_11 hb
  have p01_12 := cell_below (p := ⟨w.heap.size, 1, none⟩) (v := .int .i64 r0) p01_11 hb
  have SW_12 : Hid (Snap (0) w3 w12) := Lib.hid (SW_11.out.keep hb)
  have x00_12 := cell_below (p := ⟨w4.heap.size, 0, none⟩) (v := .slice a0x n0 c0x) x00_11 hb
  have x01_12 := cell_below (p := ⟨w4.heap.size, 1, none⟩) (v := .int .i64 r0) x01_11 hb
  have Rg_12 : Hid (RdI w12 ag (marks 1 R1.length)) := Lib.hid (Rg_11.out.keep hb (Nat.le_refl _))
  have HB_12 : Hid (Below w.heap.size w w12) := Lib.hid (HB_11.out.trans (hb.mono HB_11.out.size))
  clear hb p00_11 p01_11 SW_11 x00_11 x01_11 Rg_11 HB_11
  go_wp2_with fail
  refine (toAbelian_any a0 n0 c0 xs0 r0 _ (by exact ((HA0.out.keep HB_12.out (Nat.le_refl _)))) HL0.out hn0).mono ?_
  rintro e w13 ⟨a0h, c0h, rfl, ho, hb⟩
  have sz_13 : w12.heap.size + 0 ≤ w13.heap.size := (by have := hb.size; omega)
  have p00_13 := cell_below (p := ⟨w.heap.size, 0, none⟩) (v := .slice a0 n0 c0) p00_12 hb
  have p01_13 := cell_below (p := ⟨w.heap.size, 1, none⟩) (v := .int .i64 r0) p01_12 hb
  have SW_13 : Hid (Snap (0) w3 w13) := Lib.hid (SW_12.out.keep hb)
  have x00_13 := cell_below (p := ⟨w4.heap.size, 0, none⟩) (v := .slice a0x n0 c0x) x00_12 hb
  have x01_13 := cell_below (p := ⟨w4.heap.size, 1, none⟩) (v := .int .i64 r0) x01_12 hb
  have Rg_13 : Hid (RdI w13 ag (marks 1 R1.length)) := Lib.hid (Rg_12.out.keep hb (Nat.le_refl _))
  have HB_13 : Hid (Below w.heap.size w w13) := Lib.hid (HB_12.out.trans (hb.mono HB_12.out.size))
  have R0h_13 : Hid (RdI w13 a0h xs0) := Lib.hid ho.rd
  clear ho
  clear hb p00_12 p01_12 SW_12 x00_12 x01_12 Rg_12 HB_12
  go_wp2_with fail
  refine (impl_PrimaryParts_any a0h n0 c0h xs0 r0 _ (by exact R0h_13.out) HL0.out hn0 HR0.out).mono ?_
  rintro e w14 ⟨R3, d3, ah, ch, rfl, hres, ho, hb⟩
  have sz_14 : w13.heap.size + 0 ≤ w14.heap.size := (by have := hb.size; omega)
  have p00_14 := cell_below (p := ⟨w.heap.size, 0, none⟩) (v := .slice a0 n0 c0) p00_13 hb
  have p01_14 := cell_below (p := ⟨w.heap.size, 1, none⟩) (v := .int .i64 r0) p01_13 hb
  have SW_14 : Hid (Snap (0) w3 w14) := Lib.hid (SW_13.out.keep hb)
  have x00_14 := cell_below (p := ⟨w4.heap.size, 0, none⟩) (v := .slice a0x n0 c0x) x00_13 hb
  have x01_14 := cell_below (p := ⟨w4.heap.size, 1, none⟩) (v := .int .i64 r0) x01_13 hb
  have Rg_14 : Hid (RdI w14 ag (marks 1 R1.length)) := Lib.hid (Rg_13.out.keep hb (Nat.le_refl _))
  have R0h_14 : Hid (RdI w14 a0h xs0) := Lib.hid (R0h_13.out.keep hb (Nat.le_refl _))
  have HB_14 : Hid (Below w.heap.size w w14) := Lib.hid (HB_13.out.trans (hb.mono HB_13.out.size))
  obtain ⟨rfl, rfl⟩ := res_PrimaryParts_uniq HRes.out hres
  have Rh_14 : Hid (RdI w14 ah R1) := Lib.hid ho.rd
  clear ho hres
  clear hb p00_13 p01_13 SW_13 x00_13 x01_13 Rg_13 R0h_13 HB_13
  go_wp2_with fail
  refine (eqInt64S_b _ _ _ _ _ _ R1 _ (by exact (Rh_14.out)) (by exact ((SW_14.out.rdI RW.out))) rfl rfl (by omega)).mono ?_
  rintro e w15 ⟨rfl, hb⟩
  have sz_15 : w14.heap.size + 0 ≤ w15.heap.size := (by have := hb.size; omega)
  have p00_15 := cell_below (p := ⟨w.heap.size, 0, none⟩) (v := .slice a0 n0 c0) p00_14 hb
  have p01_15 := cell_below (p := ⟨w.heap.size, 1, none⟩) (v := .int .i64 r0) p01_14 hb
  have SW_15 : Hid (Snap (0) w3 w15) := Lib.hid (SW_14.out.keep hb)
  have x00_15 := cell_below (p := ⟨w4.heap.size, 0, none⟩) (v := .slice a0x n0 c0x) x00_14 hb
  have x01_15 := cell_below (p := ⟨w4.heap.size, 1, none⟩) (v := .int .i64 r0) x01_14 hb
  have Rg_15 : Hid (RdI w15 ag (marks 1 R1.length)) := Lib.hid (Rg_14.out.keep hb (Nat.le_refl _))
  have Rh_15 : Hid (RdI w15 ah R1) := Lib.hid (Rh_14.out.keep hb (Nat.le_refl _))
  have HB_15 : Hid (Below w.heap.size w w15) := Lib.hid (HB_14.out.trans (hb.mono HB_14.out.size))
  clear hb p00_14 p01_14 SW_14 x00_14 x01_14 Rg_14 Rh_14 HB_14
  go_wp2_with fail
  refine (heldInt64S_b _ _ _ _ _ (by exact Rg_15.out) (by omega) (by omega) (by omega)).mono ?_
  rintro e w16 ⟨rfl, hb⟩
  have sz_16 : w15.heap.size + 0 ≤ w16.heap.size := (by have := hb.size; omega)
  have p00_16 := cell_below (p := ⟨w.heap.size, 0, none⟩) (v := .slice a0 n0 c0) p00_15 hb
  have p01_16 := cell_below (p := ⟨w.heap.size, 1, none⟩) (v := .int .i64 r0) p01_15 hb
  have SW_16 : Hid (Snap (0) w3 w16) := Lib.hid (SW_15.out.keep hb)
  have x00_16 := cell_below (p := ⟨w4.heap.size, 0, none⟩) (v := .slice a0x n0 c0x) x00_15 hb
  have x01_16 := cell_below (p := ⟨w4.heap.size, 1, none⟩) (v := .int .i64 r0) x01_15 hb
  have Rg_16 : Hid (RdI w16 ag (marks 1 R1.length)) := Lib.hid (Rg_15.out.keep hb (Nat.le_refl _))
  have Rh_16 : Hid (RdI w16 ah R1) := Lib.hid (Rh_15.out.keep hb (Nat.le_refl _))
  have HB_16 : Hid (Below w.heap.size w w16) := Lib.hid (HB_15.out.trans (hb.mono HB_15.out.size))
  clear hb p00_15 p01_15 SW_15 x00_15 x01_15 Rg_15 Rh_15 HB_15
  go_wp2_with fail
  go_ret
  exact ⟨rfl, HB_16.out⟩
--ENDLAW
end Go.Proofs.Ytgdialknnjnehaa
