/- The law on identity matrices. -/
import Derived.Test.YtngikcjdhbflkaaKitM
import Derived.Test.YtngikcjdhbflkaaMatId
import Derived.Deep.RegionHeld3
set_option linter.unusedVariables false
set_option linter.unusedSimpArgs false
namespace Go.Proofs.Ytngikcjdhbflkaa
open Go.RowKit

--LAW IdentityMatrix
set_option maxRecDepth 20000 in
set_option maxHeartbeats 8000000 in
theorem law_IdentityMatrix (k0 : Int) (k1 : Int) (w : World) (hk0 : I64 k0) (hk1 : I64 k1) :
    Calls Try.prog 3 #[.int .i64 k0, .int .i64 k1] w fun e w' => e = .returned (.bool true) ∧ Below w.heap.size w w' := by
  have HK0 := Lib.hid hk0
  clear hk0
  have HK1 := Lib.hid hk1
  clear hk1
  go_enter Try.func3, Try.ntmps3
  go_wp2_with fail
  refine (spec_IdentityMatrix_any k0 k1 _ HK0.out HK1.out).mono ?_
  rintro e w1 ⟨P1, Q1, R1, d1, aw, cw, rfl, hres, ho, hb⟩
  have sz_1 : w.heap.size + 0 ≤ w1.heap.size := by have := hb.size; omega
  have HB_1 : Hid (Below w.heap.size w w1) := Lib.hid hb
  have HRes : Hid (res_IdentityMatrix k0 k1 P1 Q1 R1 d1) := Lib.hid hres
  have RW : Hid (RdR w1 aw R1) := Lib.hid (by first | exact ho | exact ho.rd)
  have SW_1 : Hid (Snap 0 w1 w1) := Lib.hid (Snap.start _ _)
  clear ho hres
  clear hb
  obtain ⟨hrs, hrx⟩ := res_IdentityMatrix_small HRes.out
  have HRX := Lib.hid hrx
  clear hrx
  go_wp2_with fail
  refine (impl_IdentityMatrix_any k0 k1 _ HK0.out HK1.out).mono ?_
  rintro e w2 ⟨P2, Q2, R2, d2, ag, cg, rfl, hres, ho, hb⟩
  have sz_2 : w1.heap.size + 1 ≤ w2.heap.size := by have := hb.size; simp at this; omega
  have w0_2 := cell_below (p := ⟨w1.heap.size, 0, none⟩) (v := .int .i64 P1) (by simp) hb
  have w1_2 := cell_below (p := ⟨w1.heap.size, 1, none⟩) (v := .int .i64 Q1) (by simp) hb
  have w2_2 := cell_below (p := ⟨w1.heap.size, 2, none⟩) (v := .slice aw R1.length cw) (by simp) hb
  replace hb := below_al1 hb
  have SW_2 : Hid (Snap (0) w1 w2) := Lib.hid (SW_1.out.keep hb)
  have HB_2 : Hid (Below w.heap.size w w2) := Lib.hid (HB_1.out.trans (hb.mono HB_1.out.size))
  obtain ⟨rfl, rfl, rfl, rfl⟩ := res_IdentityMatrix_uniq HRes.out hres
  obtain ⟨Ag, Cg, ho1⟩ := ho.mono (B' := w1.heap.size + 1) (by first | exact Nat.le_refl _ | simp)
  have Og : Hid (OwnR 38 2 w2 (w1.heap.size + 1) ag R1.length cg R1 Ag Cg) := Lib.hid ho1
  have Sg_2 : Hid (Snap (w1.heap.size + 1) w2 w2) := Lib.hid (Snap.start _ _)
  clear ho ho1 hres
  clear hb SW_1 HB_1
  have lt_w0_2 : w1.heap.size < w2.heap.size := block_lt w0_2
  go_wp2_with fail
  refine (eqMatrix_t _ _ _ _ _ _ _ _ R1 _ (by exact ((Sg_2.out.ownR Og.out).rd.alloc _)) (by exact ((SW_2.out.rdR RW.out).alloc _)) rfl rfl hrs HRX.out).mono ?_
  rintro e w3 ⟨rfl, hb⟩
  have sz_3 : w2.heap.size + 1 ≤ w3.heap.size := by have := hb.size; simp at this; omega
  have g0_3 := cell_below (p := ⟨w2.heap.size, 0, none⟩) (v := .int .i64 P1) (by simp) hb
  have g1_3 := cell_below (p := ⟨w2.heap.size, 1, none⟩) (v := .int .i64 Q1) (by simp) hb
  have g2_3 := cell_below (p := ⟨w2.heap.size, 2, none⟩) (v := .slice ag R1.length cg) (by simp) hb
  replace hb := below_al1 hb
  have SW_3 : Hid (Snap (0) w1 w3) := Lib.hid (SW_2.out.keep hb)
  have w0_3 := cell_below (p := ⟨w1.heap.size, 0, none⟩) (v := .int .i64 P1) w0_2 hb
  have w1_3 := cell_below (p := ⟨w1.heap.size, 1, none⟩) (v := .int .i64 Q1) w1_2 hb
  have w2_3 := cell_below (p := ⟨w1.heap.size, 2, none⟩) (v := .slice aw R1.length cw) w2_2 hb
  have Sg_3 : Hid (Snap (w1.heap.size + 1) w2 w3) := Lib.hid (Sg_2.out.keep hb)
  have HB_3 : Hid (Below w.heap.size w w3) := Lib.hid (HB_2.out.trans (hb.mono HB_2.out.size))
  clear hb SW_2 w0_2 w1_2 w2_2 Sg_2 HB_2
  go_wp2_with fail
  refine (markMatrix_t _ _ _ _ _ _ _ _ R1 Ag Cg _ _ (by exact (Sg_3.out.ownR Og.out)) hrs HRX.out (by omega) (by omega)).mono ?_
  rintro e w4 ⟨rfl, hr, hc⟩
  have hg := Og.out.rg hc
  have sz_4 : w3.heap.size + 0 ≤ w4.heap.size := by have := hg.size; omega
  have SW_4 : Hid (Snap (0) w1 w4) := Lib.hid (SW_3.out.chg hg (show w1.heap.size ≤ w1.heap.size + 1 ∨ w2.heap.size ≤ 0 by omega))
  have w0_4 := cell_chg (p := ⟨w1.heap.size, 0, none⟩) (v := .int .i64 P1) w0_3 hg (show w1.heap.size < w1.heap.size + 1 ∨ w2.heap.size ≤ w1.heap.size by omega)
  have w1_4 := cell_chg (p := ⟨w1.heap.size, 1, none⟩) (v := .int .i64 Q1) w1_3 hg (show w1.heap.size < w1.heap.size + 1 ∨ w2.heap.size ≤ w1.heap.size by omega)
  have w2_4 := cell_chg (p := ⟨w1.heap.size, 2, none⟩) (v := .slice aw R1.length cw) w2_3 hg (show w1.heap.size < w1.heap.size + 1 ∨ w2.heap.size ≤ w1.heap.size by omega)
  have g0_4 := cell_chg (p := ⟨w2.heap.size, 0, none⟩) (v := .int .i64 P1) g0_3 hg (show w2.heap.size < w1.heap.size + 1 ∨ w2.heap.size ≤ w2.heap.size by omega)
  have g1_4 := cell_chg (p := ⟨w2.heap.size, 1, none⟩) (v := .int .i64 Q1) g1_3 hg (show w2.heap.size < w1.heap.size + 1 ∨ w2.heap.size ≤ w2.heap.size by omega)
  have g2_4 := cell_chg (p := ⟨w2.heap.size, 2, none⟩) (v := .slice ag R1.length cg) g2_3 hg (show w2.heap.size < w1.heap.size + 1 ∨ w2.heap.size ≤ w2.heap.size by omega)
  have HB_4 : Hid (Below w.heap.size w w4) := Lib.hid (below_chg HB_3.out hg (Nat.le_refl _) (show w.heap.size ≤ w1.heap.size + 1 by omega))
  have Rg_4 : Hid (RdR w4 ag (mkR 1 R1)) := Lib.hid hr
  clear hr hc hg SW_3 w0_3 w1_3 w2_3 g0_3 g1_3 g2_3 HB_3
  have ofR := offs_small hrs HRX.out
  go_wp2_with fail
  refine (heldMatrix_t _ _ _ _ _ R1 _ _ (by exact Rg_4.out) rfl hrs HRX.out (by omega) (by omega)).mono ?_
  rintro e w5 ⟨rfl, hb⟩
  have sz_5 : w4.heap.size + 0 ≤ w5.heap.size := by have := hb.size; omega
  have SW_5 : Hid (Snap (0) w1 w5) := Lib.hid (SW_4.out.keep hb)
  have w0_5 := cell_below (p := ⟨w1.heap.size, 0, none⟩) (v := .int .i64 P1) w0_4 hb
  have w1_5 := cell_below (p := ⟨w1.heap.size, 1, none⟩) (v := .int .i64 Q1) w1_4 hb
  have w2_5 := cell_below (p := ⟨w1.heap.size, 2, none⟩) (v := .slice aw R1.length cw) w2_4 hb
  have g0_5 := cell_below (p := ⟨w2.heap.size, 0, none⟩) (v := .int .i64 P1) g0_4 hb
  have g1_5 := cell_below (p := ⟨w2.heap.size, 1, none⟩) (v := .int .i64 Q1) g1_4 hb
  have g2_5 := cell_below (p := ⟨w2.heap.size, 2, none⟩) (v := .slice ag R1.length cg) g2_4 hb
  have Rg_5 : Hid (RdR w5 ag (mkR 1 R1)) := Lib.hid (Rg_4.out.keep hb (Nat.le_refl _))
  have HB_5 : Hid (Below w.heap.size w w5) := Lib.hid (HB_4.out.trans (hb.mono HB_4.out.size))
  clear hb SW_4 w0_4 w1_4 w2_4 g0_4 g1_4 g2_4 Rg_4 HB_4
  go_wp2_with fail
  refine (impl_IdentityMatrix_any k0 k1 _ HK0.out HK1.out).mono ?_
  rintro e w6 ⟨P3, Q3, R3, d3, ah, ch, rfl, hres, ho, hb⟩
  have sz_6 : w5.heap.size + 0 ≤ w6.heap.size := by have := hb.size; omega
  have SW_6 : Hid (Snap (0) w1 w6) := Lib.hid (SW_5.out.keep hb)
  have w0_6 := cell_below (p := ⟨w1.heap.size, 0, none⟩) (v := .int .i64 P1) w0_5 hb
  have w1_6 := cell_below (p := ⟨w1.heap.size, 1, none⟩) (v := .int .i64 Q1) w1_5 hb
  have w2_6 := cell_below (p := ⟨w1.heap.size, 2, none⟩) (v := .slice aw R1.length cw) w2_5 hb
  have g0_6 := cell_below (p := ⟨w2.heap.size, 0, none⟩) (v := .int .i64 P1) g0_5 hb
  have g1_6 := cell_below (p := ⟨w2.heap.size, 1, none⟩) (v := .int .i64 Q1) g1_5 hb
  have g2_6 := cell_below (p := ⟨w2.heap.size, 2, none⟩) (v := .slice ag R1.length cg) g2_5 hb
  have Rg_6 : Hid (RdR w6 ag (mkR 1 R1)) := Lib.hid (Rg_5.out.keep hb (Nat.le_refl _))
  have HB_6 : Hid (Below w.heap.size w w6) := Lib.hid (HB_5.out.trans (hb.mono HB_5.out.size))
  obtain ⟨rfl, rfl, rfl, rfl⟩ := res_IdentityMatrix_uniq HRes.out hres
  have Rh_6 : Hid (RdR w6 ah R1) := Lib.hid ho.rd
  clear ho hres
  clear hb SW_5 w0_5 w1_5 w2_5 g0_5 g1_5 g2_5 Rg_5 HB_5
  have lt_w0_6 : w1.heap.size < w6.heap.size := block_lt w0_6
  have lt_g0_6 : w2.heap.size < w6.heap.size := block_lt g0_6
  go_wp2_with fail
  refine (eqMatrix_t _ _ _ _ _ _ _ _ R1 _ (by exact (Rh_6.out.alloc _)) (by exact ((SW_6.out.rdR RW.out).alloc _)) rfl rfl hrs HRX.out).mono ?_
  rintro e w7 ⟨rfl, hb⟩
  have sz_7 : w6.heap.size + 1 ≤ w7.heap.size := by have := hb.size; simp at this; omega
  have h0_7 := cell_below (p := ⟨w6.heap.size, 0, none⟩) (v := .int .i64 P1) (by simp) hb
  have h1_7 := cell_below (p := ⟨w6.heap.size, 1, none⟩) (v := .int .i64 Q1) (by simp) hb
  have h2_7 := cell_below (p := ⟨w6.heap.size, 2, none⟩) (v := .slice ah R1.length ch) (by simp) hb
  replace hb := below_al1 hb
  have SW_7 : Hid (Snap (0) w1 w7) := Lib.hid (SW_6.out.keep hb)
  have w0_7 := cell_below (p := ⟨w1.heap.size, 0, none⟩) (v := .int .i64 P1) w0_6 hb
  have w1_7 := cell_below (p := ⟨w1.heap.size, 1, none⟩) (v := .int .i64 Q1) w1_6 hb
  have w2_7 := cell_below (p := ⟨w1.heap.size, 2, none⟩) (v := .slice aw R1.length cw) w2_6 hb
  have g0_7 := cell_below (p := ⟨w2.heap.size, 0, none⟩) (v := .int .i64 P1) g0_6 hb
  have g1_7 := cell_below (p := ⟨w2.heap.size, 1, none⟩) (v := .int .i64 Q1) g1_6 hb
  have g2_7 := cell_below (p := ⟨w2.heap.size, 2, none⟩) (v := .slice ag R1.length cg) g2_6 hb
  have Rg_7 : Hid (RdR w7 ag (mkR 1 R1)) := Lib.hid (Rg_6.out.keep hb (Nat.le_refl _))
  have Rh_7 : Hid (RdR w7 ah R1) := Lib.hid (Rh_6.out.keep hb (Nat.le_refl _))
  have HB_7 : Hid (Below w.heap.size w w7) := Lib.hid (HB_6.out.trans (hb.mono HB_6.out.size))
  clear hb SW_6 w0_6 w1_6 w2_6 g0_6 g1_6 g2_6 Rg_6 Rh_6 HB_6
  go_wp2_with fail
  refine (heldMatrix_t _ _ _ _ _ R1 _ _ (by exact Rg_7.out) rfl hrs HRX.out (by omega) (by omega)).mono ?_
  rintro e w8 ⟨rfl, hb⟩
  have sz_8 : w7.heap.size + 0 ≤ w8.heap.size := by have := hb.size; omega
  have SW_8 : Hid (Snap (0) w1 w8) := Lib.hid (SW_7.out.keep hb)
  have w0_8 := cell_below (p := ⟨w1.heap.size, 0, none⟩) (v := .int .i64 P1) w0_7 hb
  have w1_8 := cell_below (p := ⟨w1.heap.size, 1, none⟩) (v := .int .i64 Q1) w1_7 hb
  have w2_8 := cell_below (p := ⟨w1.heap.size, 2, none⟩) (v := .slice aw R1.length cw) w2_7 hb
  have g0_8 := cell_below (p := ⟨w2.heap.size, 0, none⟩) (v := .int .i64 P1) g0_7 hb
  have g1_8 := cell_below (p := ⟨w2.heap.size, 1, none⟩) (v := .int .i64 Q1) g1_7 hb
  have g2_8 := cell_below (p := ⟨w2.heap.size, 2, none⟩) (v := .slice ag R1.length cg) g2_7 hb
  have Rg_8 : Hid (RdR w8 ag (mkR 1 R1)) := Lib.hid (Rg_7.out.keep hb (Nat.le_refl _))
  have Rh_8 : Hid (RdR w8 ah R1) := Lib.hid (Rh_7.out.keep hb (Nat.le_refl _))
  have h0_8 := cell_below (p := ⟨w6.heap.size, 0, none⟩) (v := .int .i64 P1) h0_7 hb
  have h1_8 := cell_below (p := ⟨w6.heap.size, 1, none⟩) (v := .int .i64 Q1) h1_7 hb
  have h2_8 := cell_below (p := ⟨w6.heap.size, 2, none⟩) (v := .slice ah R1.length ch) h2_7 hb
  have HB_8 : Hid (Below w.heap.size w w8) := Lib.hid (HB_7.out.trans (hb.mono HB_7.out.size))
  clear hb SW_7 w0_7 w1_7 w2_7 g0_7 g1_7 g2_7 Rg_7 Rh_7 h0_7 h1_7 h2_7 HB_7
  go_wp2_with fail
  go_ret
  exact ⟨rfl, HB_8.out⟩
--ENDLAW
end Go.Proofs.Ytngikcjdhbflkaa
