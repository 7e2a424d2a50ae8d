/- The law on the abelian group that a table presents. -/
import Derived.Test.YtjnkhbaklilkkaaAbOfS
import Derived.Test.YtjnkhbaklilkkaaKitT
import Derived.Test.YtjnkhbaklilkkaaKitV
import Derived.Test.YtjnkhbaklilkkaaKitA
import Derived.Deep.RegionHeld3
set_option linter.unusedVariables false
set_option linter.unusedSimpArgs false
namespace Go.Proofs.Ytjnkhbaklilkkaa
open Go.RowKit

--LAW AbelianOf
set_option maxRecDepth 20000 in
set_option maxHeartbeats 8000000 in
theorem law_AbelianOf (q0 : Int) (a0 : Option Addr) (n0 c0 : Nat) (xs0 : List (List Int)) (w : World) (hq0 : I64 q0) (hl0 : xs0.length = n0) (ha0 : RdR w a0 xs0) (hw0 : ∀ xs ∈ xs0, xs.length ≤ maxLen ∧ ∀ x ∈ xs, (Lit.int .i64 x).wf = true) (hm0 : n0 ≤ maxLen) :
    Calls Try.prog 14 #[.agg #[.int .i64 q0, .slice a0 n0 c0]] w fun e w' => e = .returned (.bool true) ∧ Below w.heap.size w w' := by
  have HA0 := Lib.hid ha0
  have HL0 := Lib.hid hl0
  unfold maxLen at hm0
  have HY0 : Hid (∀ xs ∈ xs0, xs.length ≤ maxLen) := Lib.hid fun xs h => (hw0 xs h).1
  have HQ0 := Lib.hid hq0
  clear hq0
  clear ha0 hl0 hw0
  go_enter Try.func14, Try.ntmps14
  go_wp2_with fail
  refine (szTable_any _ _ n0 _ xs0 1048576 _ (by exact (HA0.out.alloc _)) HL0.out HY0.out hm0 (by omega) (by omega)).mono ?_
  rintro e w1 ⟨z0, rfl, hz, hb⟩
  have sz_1 : w.heap.size + 1 ≤ w1.heap.size := (by have := hb.size; simp at this; omega)
  have p00_1 := cell_below (p := ⟨w.heap.size, 0, none⟩) (v := .int .i64 q0) (by simp) hb
  have p01_1 := cell_below (p := ⟨w.heap.size, 1, none⟩) (v := .slice a0 n0 c0) (by simp) hb
  replace hb := below_al1 hb
  have HB_1 : Hid (Below w.heap.size w w1) := Lib.hid hb
  clear hb
  rcases hz with rfl | ⟨hz0, hy0, hn0', hx0⟩
  · go_wp2_with fail
    go_ret
    exact ⟨rfl, HB_1.out⟩
  have hn0 : n0 ≤ 1048576 := by have := HL0.out; omega
  have HX0 : Hid (∀ i, i < n0 → (rw_ xs0 i).length ≤ 1048576) := Lib.hid fun i hi => by have := hx0 i (by rw [HL0.out]; exact hi); omega
  clear hx0
  clear hn0'
  go_wp2_with fail
  refine (toTable_any q0 a0 n0 c0 xs0 _ (by exact ((HA0.out.keep HB_1.out (Nat.le_refl _)))) HL0.out HX0.out hn0).mono ?_
  rintro e w2 ⟨a0s, c0s, rfl, ho, hb⟩
  have sz_2 : w1.heap.size + 0 ≤ w2.heap.size := (by have := hb.size; omega)
  have p00_2 := cell_below (p := ⟨w.heap.size, 0, none⟩) (v := .int .i64 q0) p00_1 hb
  have p01_2 := cell_below (p := ⟨w.heap.size, 1, none⟩) (v := .slice a0 n0 c0) p01_1 hb
  have HB_2 : Hid (Below w.heap.size w w2) := Lib.hid (HB_1.out.trans (hb.mono HB_1.out.size))
  have hcp0s := ho.capl
  have R0s_2 : Hid (RdR w2 a0s xs0) := Lib.hid ho.rd
  clear ho
  clear hb p00_1 p01_1 HB_1
  go_wp2_with fail
  refine (spec_AbelianOf_any q0 a0s n0 c0s xs0 _ HQ0.out (by exact R0s_2.out) HL0.out HX0.out hn0 (by omega)).mono ?_
  rintro e w3 ⟨R1, K1, d1, aw, cw, rfl, hres, ho, hb⟩
  have sz_3 : w2.heap.size + 0 ≤ w3.heap.size := (by have := hb.size; omega)
  have p00_3 := cell_below (p := ⟨w.heap.size, 0, none⟩) (v := .int .i64 q0) p00_2 hb
  have p01_3 := cell_below (p := ⟨w.heap.size, 1, none⟩) (v := .slice a0 n0 c0) p01_2 hb
  have R0s_3 : Hid (RdR w3 a0s xs0) := Lib.hid (R0s_2.out.keep hb (Nat.le_refl _))
  have HB_3 : Hid (Below w.heap.size w w3) := Lib.hid (HB_2.out.trans (hb.mono HB_2.out.size))
  have HRes : Hid (res_AbelianOf xs0 q0 R1 K1 d1) := Lib.hid hres
  have RW : Hid (RdI w3 aw R1) := Lib.hid (by first | exact ho | exact ho.rd)
  have SW_3 : Hid (Snap 0 w3 w3) := Lib.hid (Snap.start _ _)
  clear ho hres
  clear hb p00_2 p01_2 R0s_2 HB_2
  have hrs := res_AbelianOf_small HRes.out
  have lt_p00_3 : w.heap.size < w3.heap.size := block_lt p00_3
  go_wp2_with fail
  refine (toTable_any q0 a0 n0 c0 xs0 _ (by exact ((HA0.out.keep HB_3.out (Nat.le_refl _)).alloc _)) HL0.out HX0.out hn0).mono ?_
  rintro e w4 ⟨a0x, c0x, rfl, ho, hb⟩
  have sz_4 : w3.heap.size + 1 ≤ w4.heap.size := (by have := hb.size; simp at this; omega)
  have w0_4 := cell_below (p := ⟨w3.heap.size, 0, none⟩) (v := .slice aw R1.length cw) (by simp) hb
  have w1_4 := cell_below (p := ⟨w3.heap.size, 1, none⟩) (v := .int .i64 K1) (by simp) hb
  replace hb := below_al1 hb
  have p00_4 := cell_below (p := ⟨w.heap.size, 0, none⟩) (v := .int .i64 q0) p00_3 hb
  have p01_4 := cell_below (p := ⟨w.heap.size, 1, none⟩) (v := .slice a0 n0 c0) p01_3 hb
  have SW_4 : Hid (Snap (0) w3 w4) := Lib.hid (SW_3.out.keep hb)
  have HB_4 : Hid (Below w.heap.size w w4) := Lib.hid (HB_3.out.trans (hb.mono HB_3.out.size))
  have hcp0x := ho.capl
  obtain ⟨A0x, C0x, ho1⟩ := ho.has.mono (B' := w3.heap.size + 1) (by first | exact Nat.le_refl _ | simp)
  have O0x : Hid (HasR 2 w4 (w3.heap.size + 1) a0x n0 c0x xs0 A0x C0x) := Lib.hid ho1
  have S0x_4 : Hid (Snap (w3.heap.size + 1) w4 w4) := Lib.hid (Snap.start _ _)
  clear ho ho1
  clear hb p00_3 p01_3 SW_3 HB_3
  have lt_p00_4 : w.heap.size < w4.heap.size := block_lt p00_4
  have lt_w0_4 : w3.heap.size < w4.heap.size := block_lt w0_4
  go_wp2_with fail
  refine (impl_AbelianOf_any q0 a0x n0 c0x xs0 _ HQ0.out (by exact ((S0x_4.out.hasR O0x.out).rd.alloc _)) HL0.out HX0.out hn0 (by omega)).mono ?_
  rintro e w5 ⟨R2, K2, d2, ag, cg, rfl, hres, ho, hb⟩
  have sz_5 : w4.heap.size + 1 ≤ w5.heap.size := (by have := hb.size; simp at this; omega)
  have x00_5 := cell_below (p := ⟨w4.heap.size, 0, none⟩) (v := .int .i64 q0) (by simp) hb
  have x01_5 := cell_below (p := ⟨w4.heap.size, 1, none⟩) (v := .slice a0x n0 c0x) (by simp) hb
  replace hb := below_al1 hb
  have p00_5 := cell_below (p := ⟨w.heap.size, 0, none⟩) (v := .int .i64 q0) p00_4 hb
  have p01_5 := cell_below (p := ⟨w.heap.size, 1, none⟩) (v := .slice a0 n0 c0) p01_4 hb
  have SW_5 : Hid (Snap (0) w3 w5) := Lib.hid (SW_4.out.keep hb)
  have w0_5 := cell_below (p := ⟨w3.heap.size, 0, none⟩) (v := .slice aw R1.length cw) w0_4 hb
  have w1_5 := cell_below (p := ⟨w3.heap.size, 1, none⟩) (v := .int .i64 K1) w1_4 hb
  have S0x_5 : Hid (Snap (w3.heap.size + 1) w4 w5) := Lib.hid (S0x_4.out.keep hb)
  have HB_5 : Hid (Below w.heap.size w w5) := Lib.hid (HB_4.out.trans (hb.mono HB_4.out.size))
  obtain ⟨rfl, rfl, rfl⟩ := res_AbelianOf_uniq HRes.out hres
  have ho1 := ho.mono (B' := w4.heap.size + 1) (by first | exact Nat.le_refl _ | simp)
  have Og : Hid (OwnI 2 w5 (w4.heap.size + 1) ag R1.length cg R1) := Lib.hid ho1
  have Sg_5 : Hid (Snap (w4.heap.size + 1) w5 w5) := Lib.hid (Snap.start _ _)
  clear ho ho1 hres
  clear hb p00_4 p01_4 SW_4 w0_4 w1_4 S0x_4 HB_4
  have lt_p00_5 : w.heap.size < w5.heap.size := block_lt p00_5
  have lt_w0_5 : w3.heap.size < w5.heap.size := block_lt w0_5
  have lt_x00_5 : w4.heap.size < w5.heap.size := block_lt x00_5
  go_wp2_with fail
  refine (eqAbelian_t _ _ _ _ _ _ R1 _ _ (by exact ((Sg_5.out.ownI Og.out).rd.alloc _)) (by exact ((SW_5.out.rdI RW.out).alloc _)) rfl rfl (by omega)).mono ?_
  rintro e w6 ⟨rfl, hb⟩
  have sz_6 : w5.heap.size + 1 ≤ w6.heap.size := (by have := hb.size; simp at this; omega)
  have g0_6 := cell_below (p := ⟨w5.heap.size, 0, none⟩) (v := .slice ag R1.length cg) (by simp) hb
  have g1_6 := cell_below (p := ⟨w5.heap.size, 1, none⟩) (v := .int .i64 K1) (by simp) hb
  replace hb := below_al1 hb
  have p00_6 := cell_below (p := ⟨w.heap.size, 0, none⟩) (v := .int .i64 q0) p00_5 hb
  have p01_6 := cell_below (p := ⟨w.heap.size, 1, none⟩) (v := .slice a0 n0 c0) p01_5 hb
  have SW_6 : Hid (Snap (0) w3 w6) := Lib.hid (SW_5.out.keep hb)
  have w0_6 := cell_below (p := ⟨w3.heap.size, 0, none⟩) (v := .slice aw R1.length cw) w0_5 hb
  have w1_6 := cell_below (p := ⟨w3.heap.size, 1, none⟩) (v := .int .i64 K1) w1_5 hb
  have S0x_6 : Hid (Snap (w3.heap.size + 1) w4 w6) := Lib.hid (S0x_5.out.keep hb)
  have x00_6 := cell_below (p := ⟨w4.heap.size, 0, none⟩) (v := .int .i64 q0) x00_5 hb
  have x01_6 := cell_below (p := ⟨w4.heap.size, 1, none⟩) (v := .slice a0x n0 c0x) x01_5 hb
  have Sg_6 : Hid (Snap (w4.heap.size + 1) w5 w6) := Lib.hid (Sg_5.out.keep hb)
  have HB_6 : Hid (Below w.heap.size w w6) := Lib.hid (HB_5.out.trans (hb.mono HB_5.out.size))
  clear hb p00_5 p01_5 SW_5 w0_5 w1_5 S0x_5 x00_5 x01_5 Sg_5 HB_5
  go_wp2_with fail
  go_region_held3 (fun w' => w'.cell? ⟨w.heap.size, 0, none⟩ = some (.int .i64 q0) ∧ w'.cell? ⟨w.heap.size, 1, none⟩ = some (.slice a0 n0 c0) ∧ w'.cell? ⟨w3.heap.size, 0, none⟩ = some (.slice aw R1.length cw) ∧ w'.cell? ⟨w3.heap.size, 1, none⟩ = some (.int .i64 K1) ∧ w'.cell? ⟨w4.heap.size, 0, none⟩ = some (.int .i64 q0) ∧ w'.cell? ⟨w4.heap.size, 1, none⟩ = some (.slice a0x n0 c0x) ∧ w'.cell? ⟨w5.heap.size, 0, none⟩ = some (.slice ag R1.length cg) ∧ w'.cell? ⟨w5.heap.size, 1, none⟩ = some (.int .i64 K1)) (go_keep)
    (first
      | (go_at_call 17; (with_reducible refine (toTable_any q0 a0 n0 c0 xs0 _ ?_ HL0.out HX0.out hn0).mono ?_); exact (show RdR w6 a0 xs0 from ((HA0.out.keep HB_6.out (Nat.le_refl _)))); rintro e w7 ⟨a0y, c0y, rfl, ho, hb0⟩; have hb : Below w6.heap.size w6 w7 := ⟨hb0.os, hb0.tape, hb0.output, hb0.size, hb0.block⟩; have sz_7 : w6.heap.size + 0 ≤ w7.heap.size := (by have := hb.size; omega); have p00_7 := cell_below (p := ⟨w.heap.size, 0, none⟩) (v := .int .i64 q0) p00_6 hb; have p01_7 := cell_below (p := ⟨w.heap.size, 1, none⟩) (v := .slice a0 n0 c0) p01_6 hb; have SW_7 : Hid (Snap (0) w3 w7) := Lib.hid (SW_6.out.keep hb); have w0_7 := cell_below (p := ⟨w3.heap.size, 0, none⟩) (v := .slice aw R1.length cw) w0_6 hb; have w1_7 := cell_below (p := ⟨w3.heap.size, 1, none⟩) (v := .int .i64 K1) w1_6 hb; have S0x_7 : Hid (Snap (w3.heap.size + 1) w4 w7) := Lib.hid (S0x_6.out.keep hb); have x00_7 := cell_below (p := ⟨w4.heap.size, 0, none⟩) (v := .int .i64 q0) x00_6 hb; have x01_7 := cell_below (p := ⟨w4.heap.size, 1, none⟩) (v := .slice a0x n0 c0x) x01_6 hb; have Sg_7 : Hid (Snap (w4.heap.size + 1) w5 w7) := Lib.hid (Sg_6.out.keep hb); have g0_7 := cell_below (p := ⟨w5.heap.size, 0, none⟩) (v := .slice ag R1.length cg) g0_6 hb; have g1_7 := cell_below (p := ⟨w5.heap.size, 1, none⟩) (v := .int .i64 K1) g1_6 hb; have HB_7 : Hid (Below w.heap.size w w7) := Lib.hid (HB_6.out.trans (hb.mono HB_6.out.size)); have hcp0y := ho.capl; have R0y_7 : Hid (RdR w7 a0y xs0) := Lib.hid ho.rd; clear ho; clear hb hb0)
      | (go_at_call 19; (with_reducible refine (eqTable_t _ _ _ _ _ _ _ xs0 _ ?_ ?_ HL0.out HL0.out (by omega) HX0.out).mono ?_); exact ((S0x_7.out.hasR O0x.out).rd); exact R0y_7.out; rintro e w8 ⟨rfl, hb0⟩; have hb := hb0; have sz_8 : w7.heap.size + 0 ≤ w8.heap.size := (by have := hb.size; omega); have p00_8 := cell_below (p := ⟨w.heap.size, 0, none⟩) (v := .int .i64 q0) p00_7 hb; have p01_8 := cell_below (p := ⟨w.heap.size, 1, none⟩) (v := .slice a0 n0 c0) p01_7 hb; have SW_8 : Hid (Snap (0) w3 w8) := Lib.hid (SW_7.out.keep hb); have w0_8 := cell_below (p := ⟨w3.heap.size, 0, none⟩) (v := .slice aw R1.length cw) w0_7 hb; have w1_8 := cell_below (p := ⟨w3.heap.size, 1, none⟩) (v := .int .i64 K1) w1_7 hb; have S0x_8 : Hid (Snap (w3.heap.size + 1) w4 w8) := Lib.hid (S0x_7.out.keep hb); have x00_8 := cell_below (p := ⟨w4.heap.size, 0, none⟩) (v := .int .i64 q0) x00_7 hb; have x01_8 := cell_below (p := ⟨w4.heap.size, 1, none⟩) (v := .slice a0x n0 c0x) x01_7 hb; have Sg_8 : Hid (Snap (w4.heap.size + 1) w5 w8) := Lib.hid (Sg_7.out.keep hb); have g0_8 := cell_below (p := ⟨w5.heap.size, 0, none⟩) (v := .slice ag R1.length cg) g0_7 hb; have g1_8 := cell_below (p := ⟨w5.heap.size, 1, none⟩) (v := .int .i64 K1) g1_7 hb; have R0y_8 : Hid (RdR w8 a0y xs0) := Lib.hid (R0y_7.out.keep hb (Nat.le_refl _)); have HB_8 : Hid (Below w.heap.size w w8) := Lib.hid (HB_7.out.trans (hb.mono HB_7.out.size)); clear hb hb0))
  have of0 := offs_small hn0 HX0.out
  go_wp2_with fail
  refine (markTable_t _ _ _ _ _ _ xs0 A0x C0x _ _ (by exact (S0x_8.out.hasR O0x.out)) (by omega) HX0.out (by omega) (by omega)).mono ?_
  rintro e w9 ⟨rfl, hr, hc⟩
  have hg := O0x.out.rg hc
  have sz_9 : w8.heap.size + 0 ≤ w9.heap.size := by have := hg.size; omega
  have p00_9 := cell_chg (p := ⟨w.heap.size, 0, none⟩) (v := .int .i64 q0) p00_8 hg (show w.heap.size < w3.heap.size + 1 ∨ w4.heap.size ≤ w.heap.size by omega)
  have p01_9 := cell_chg (p := ⟨w.heap.size, 1, none⟩) (v := .slice a0 n0 c0) p01_8 hg (show w.heap.size < w3.heap.size + 1 ∨ w4.heap.size ≤ w.heap.size by omega)
  have SW_9 : Hid (Snap (0) w3 w9) := Lib.hid (SW_8.out.chg hg (show w3.heap.size ≤ w3.heap.size + 1 ∨ w4.heap.size ≤ 0 by omega))
  have w0_9 := cell_chg (p := ⟨w3.heap.size, 0, none⟩) (v := .slice aw R1.length cw) w0_8 hg (show w3.heap.size < w3.heap.size + 1 ∨ w4.heap.size ≤ w3.heap.size by omega)
  have w1_9 := cell_chg (p := ⟨w3.heap.size, 1, none⟩) (v := .int .i64 K1) w1_8 hg (show w3.heap.size < w3.heap.size + 1 ∨ w4.heap.size ≤ w3.heap.size by omega)
  have x00_9 := cell_chg (p := ⟨w4.heap.size, 0, none⟩) (v := .int .i64 q0) x00_8 hg (show w4.heap.size < w3.heap.size + 1 ∨ w4.heap.size ≤ w4.heap.size by omega)
  have x01_9 := cell_chg (p := ⟨w4.heap.size, 1, none⟩) (v := .slice a0x n0 c0x) x01_8 hg (show w4.heap.size < w3.heap.size + 1 ∨ w4.heap.size ≤ w4.heap.size by omega)
  have Sg_9 : Hid (Snap (w4.heap.size + 1) w5 w9) := Lib.hid (Sg_8.out.chg hg (show w5.heap.size ≤ w3.heap.size + 1 ∨ w4.heap.size ≤ w4.heap.size + 1 by omega))
  have g0_9 := cell_chg (p := ⟨w5.heap.size, 0, none⟩) (v := .slice ag R1.length cg) g0_8 hg (show w5.heap.size < w3.heap.size + 1 ∨ w4.heap.size ≤ w5.heap.size by omega)
  have g1_9 := cell_chg (p := ⟨w5.heap.size, 1, none⟩) (v := .int .i64 K1) g1_8 hg (show w5.heap.size < w3.heap.size + 1 ∨ w4.heap.size ≤ w5.heap.size by omega)
  have HB_9 : Hid (Below w.heap.size w w9) := Lib.hid (below_chg HB_8.out hg (Nat.le_refl _) (show w.heap.size ≤ w3.heap.size + 1 by omega))
  clear hr hc hg p00_8 p01_8 SW_8 w0_8 w1_8 x00_8 x01_8 Sg_8 g0_8 g1_8 HB_8
  go_wp2_with fail
  refine (eqAbelian_t _ _ _ _ _ _ R1 _ _ (by exact ((Sg_9.out.ownI Og.out).rd)) (by exact ((SW_9.out.rdI RW.out))) rfl rfl (by omega)).mono ?_
  rintro e w10 ⟨rfl, hb⟩
  have sz_10 : w9.heap.size + 0 ≤ w10.heap.size := (by have := hb.size; omega)
  have p00_10 := cell_below (p := ⟨w.heap.size, 0, none⟩) (v := .int .i64 q0) p00_9 hb
  have p01_10 := cell_below (p := ⟨w.heap.size, 1, none⟩) (v := .slice a0 n0 c0) p01_9 hb
  have SW_10 : Hid (Snap (0) w3 w10) := Lib.hid (SW_9.out.keep hb)
  have w0_10 := cell_below (p := ⟨w3.heap.size, 0, none⟩) (v := .slice aw R1.length cw) w0_9 hb
  have w1_10 := cell_below (p := ⟨w3.heap.size, 1, none⟩) (v := .int .i64 K1) w1_9 hb
  have x00_10 := cell_below (p := ⟨w4.heap.size, 0, none⟩) (v := .int .i64 q0) x00_9 hb
  have x01_10 := cell_below (p := ⟨w4.heap.size, 1, none⟩) (v := .slice a0x n0 c0x) x01_9 hb
  have Sg_10 : Hid (Snap (w4.heap.size + 1) w5 w10) := Lib.hid (Sg_9.out.keep hb)
  have g0_10 := cell_below (p := ⟨w5.heap.size, 0, none⟩) (v := .slice ag R1.length cg) g0_9 hb
  have g1_10 := cell_below (p := ⟨w5.heap.size, 1, none⟩) (v := .int .i64 K1) g1_9 hb
  have HB_10 : Hid (Below w.heap.size w w10) := Lib.hid (HB_9.out.trans (hb.mono HB_9.out.size))
  clear hb p00_9 p01_9 SW_9 w0_9 w1_9 x00_9 x01_9 Sg_9 g0_9 g1_9 HB_9
  go_wp2_with fail
  refine (markAbelian_t 2 _ _ _ _ _ _ (by exact (Sg_10.out.ownI Og.out).wr) (by omega) (by omega) (by omega)).mono ?_
  rintro e w11 ⟨rfl, hr, hc⟩
  have hg := Og.out.rg hc
  have sz_11 : w10.heap.size + 0 ≤ w11.heap.size := by have := hg.size; omega
  have p00_11 := cell_chg (p := ⟨w.heap.size, 0, none⟩) (v := .int .i64 q0) p00_10 hg (show w.heap.size < w4.heap.size + 1 ∨ w5.heap.size ≤ w.heap.size by omega)
  have p01_11 := cell_chg (p := ⟨w.heap.size, 1, none⟩) (v := .slice a0 n0 c0) p01_10 hg (show w.heap.size < w4.heap.size + 1 ∨ w5.heap.size ≤ w.heap.size by omega)
  have SW_11 : Hid (Snap (0) w3 w11) := Lib.hid (SW_10.out.chg hg (show w3.heap.size ≤ w4.heap.size + 1 ∨ w5.heap.size ≤ 0 by omega))
  have w0_11 := cell_chg (p := ⟨w3.heap.size, 0, none⟩) (v := .slice aw R1.length cw) w0_10 hg (show w3.heap.size < w4.heap.size + 1 ∨ w5.heap.size ≤ w3.heap.size by omega)
  have w1_11 := cell_chg (p := ⟨w3.heap.size, 1, none⟩) (v := .int .i64 K1) w1_10 hg (show w3.heap.size < w4.heap.size + 1 ∨ w5.heap.size ≤ w3.heap.size by omega)
  have x00_11 := cell_chg (p := ⟨w4.heap.size, 0, none⟩) (v := .int .i64 q0) x00_10 hg (show w4.heap.size < w4.heap.size + 1 ∨ w5.heap.size ≤ w4.heap.size by omega)
  have x01_11 := cell_chg (p := ⟨w4.heap.size, 1, none⟩) (v := .slice a0x n0 c0x) x01_10 hg (show w4.heap.size < w4.heap.size + 1 ∨ w5.heap.size ≤ w4.heap.size by omega)
  have g0_11 := cell_chg (p := ⟨w5.heap.size, 0, none⟩) (v := .slice ag R1.length cg) g0_10 hg (show w5.heap.size < w4.heap.size + 1 ∨ w5.heap.size ≤ w5.heap.size by omega)
  have g1_11 := cell_chg (p := ⟨w5.heap.size, 1, none⟩) (v := .int .i64 K1) g1_10 hg (show w5.heap.size < w4.heap.size + 1 ∨ w5.heap.size ≤ w5.heap.size by omega)
  have HB_11 : Hid (Below w.heap.size w w11) := Lib.hid (below_chg HB_10.out hg (Nat.le_refl _) (show w.heap.size ≤ w4.heap.size + 1 by omega))
  have Rg_11 : Hid (RdI w11 ag (marks 1 R1.length)) := Lib.hid hr
  clear hr hc hg p00_10 p01_10 SW_10 w0_10 w1_10 x00_10 x01_10 g0_10 g1_10 HB_10
  go_wp2_with fail
  refine (heldAbelian_t _ _ _ _ _ _ (by exact Rg_11.out) (by omega) (by omega) (by omega)).mono ?_
  rintro e w12 ⟨rfl, hb⟩
  have sz_12 : w11.heap.size + 0 ≤ w12.heap.size := (by have := hb.size; omega)
  have p00_12 := cell_below (p := ⟨w.heap.size, 0, none⟩) (v := .int .i64 q0) p00_11 hb
  have p01_12 := cell_below (p := ⟨w.heap.size, 1, none⟩) (v := .slice a0 n0 c0) p01_11 hb
  have SW_12 : Hid (Snap (0) w3 w12) := Lib.hid (SW_11.out.keep hb)
  have w0_12 := cell_below (p := ⟨w3.heap.size, 0, none⟩) (v := .slice aw R1.length cw) w0_11 hb
  have w1_12 := cell_below (p := ⟨w3.heap.size, 1, none⟩) (v := .int .i64 K1) w1_11 hb
  have x00_12 := cell_below (p := ⟨w4.heap.size, 0, none⟩) (v := .int .i64 q0) x00_11 hb
  have x01_12 := cell_below (p := ⟨w4.heap.size, 1, none⟩) (v := .slice a0x n0 c0x) x01_11 hb
  have g0_12 := cell_below (p := ⟨w5.heap.size, 0, none⟩) (v := .slice ag R1.length cg) g0_11 hb
  have g1_12 := cell_below (p := ⟨w5.heap.size, 1, none⟩) (v := .int .i64 K1) g1_11 hb
  have Rg_12 : Hid (RdI w12 ag (marks 1 R1.length)) := Lib.hid (Rg_11.out.keep hb (Nat.le_refl _))
  have HB_12 : Hid (Below w.heap.size w w12) := Lib.hid (HB_11.out.trans (hb.mono HB_11.out.size))
  clear hb p00_11 p01_11 SW_11 w0_11 w1_11 x00_11 x01_11 g0_11 g1_11 Rg_11 HB_11
  go_wp2_with fail
  refine (toTable_any q0 a0 n0 c0 xs0 _ (by exact ((HA0.out.keep HB_12.out (Nat.le_refl _)))) HL0.out HX0.out hn0).mono ?_
  rintro e w13 ⟨a0h, c0h, rfl, ho, hb⟩
  have sz_13 : w12.heap.size + 0 ≤ w13.heap.size := (by have := hb.size; omega)
  have p00_13 := cell_below (p := ⟨w.heap.size, 0, none⟩) (v := .int .i64 q0) p00_12 hb
  have p01_13 := cell_below (p := ⟨w.heap.size, 1, none⟩) (v := .slice a0 n0 c0) p01_12 hb
  have SW_13 : Hid (Snap (0) w3 w13) := Lib.hid (SW_12.out.keep hb)
  have w0_13 := cell_below (p := ⟨w3.heap.size, 0, none⟩) (v := .slice aw R1.length cw) w0_12 hb
  have w1_13 := cell_below (p := ⟨w3.heap.size, 1, none⟩) (v := .int .i64 K1) w1_12 hb
  have x00_13 := cell_below (p := ⟨w4.heap.size, 0, none⟩) (v := .int .i64 q0) x00_12 hb
  have x01_13 := cell_below (p := ⟨w4.heap.size, 1, none⟩) (v := .slice a0x n0 c0x) x01_12 hb
  have g0_13 := cell_below (p := ⟨w5.heap.size, 0, none⟩) (v := .slice ag R1.length cg) g0_12 hb
  have g1_13 := cell_below (p := ⟨w5.heap.size, 1, none⟩) (v := .int .i64 K1) g1_12 hb
  have Rg_13 : Hid (RdI w13 ag (marks 1 R1.length)) := Lib.hid (Rg_12.out.keep hb (Nat.le_refl _))
  have HB_13 : Hid (Below w.heap.size w w13) := Lib.hid (HB_12.out.trans (hb.mono HB_12.out.size))
  have hcp0h := ho.capl
  have R0h_13 : Hid (RdR w13 a0h xs0) := Lib.hid ho.rd
  clear ho
  clear hb p00_12 p01_12 SW_12 w0_12 w1_12 x00_12 x01_12 g0_12 g1_12 Rg_12 HB_12
  go_wp2_with fail
  refine (impl_AbelianOf_any q0 a0h n0 c0h xs0 _ HQ0.out (by exact R0h_13.out) HL0.out HX0.out hn0 (by omega)).mono ?_
  rintro e w14 ⟨R3, K3, d3, ah, ch, rfl, hres, ho, hb⟩
  have sz_14 : w13.heap.size + 0 ≤ w14.heap.size := (by have := hb.size; omega)
  have p00_14 := cell_below (p := ⟨w.heap.size, 0, none⟩) (v := .int .i64 q0) p00_13 hb
  have p01_14 := cell_below (p := ⟨w.heap.size, 1, none⟩) (v := .slice a0 n0 c0) p01_13 hb
  have SW_14 : Hid (Snap (0) w3 w14) := Lib.hid (SW_13.out.keep hb)
  have w0_14 := cell_below (p := ⟨w3.heap.size, 0, none⟩) (v := .slice aw R1.length cw) w0_13 hb
  have w1_14 := cell_below (p := ⟨w3.heap.size, 1, none⟩) (v := .int .i64 K1) w1_13 hb
  have x00_14 := cell_below (p := ⟨w4.heap.size, 0, none⟩) (v := .int .i64 q0) x00_13 hb
  have x01_14 := cell_below (p := ⟨w4.heap.size, 1, none⟩) (v := .slice a0x n0 c0x) x01_13 hb
  have g0_14 := cell_below (p := ⟨w5.heap.size, 0, none⟩) (v := .slice ag R1.length cg) g0_13 hb
  have g1_14 := cell_below (p := ⟨w5.heap.size, 1, none⟩) (v := .int .i64 K1) g1_13 hb
  have Rg_14 : Hid (RdI w14 ag (marks 1 R1.length)) := Lib.hid (Rg_13.out.keep hb (Nat.le_refl _))
  have R0h_14 : Hid (RdR w14 a0h xs0) := Lib.hid (R0h_13.out.keep hb (Nat.le_refl _))
  have HB_14 : Hid (Below w.heap.size w w14) := Lib.hid (HB_13.out.trans (hb.mono HB_13.out.size))
  obtain ⟨rfl, rfl, rfl⟩ := res_AbelianOf_uniq HRes.out hres
  have Rh_14 : Hid (RdI w14 ah R1) := Lib.hid ho.rd
  clear ho hres
  clear hb p00_13 p01_13 SW_13 w0_13 w1_13 x00_13 x01_13 g0_13 g1_13 Rg_13 R0h_13 HB_13
  have lt_p00_14 : w.heap.size < w14.heap.size := block_lt p00_14
  have lt_w0_14 : w3.heap.size < w14.heap.size := block_lt w0_14
  have lt_x00_14 : w4.heap.size < w14.heap.size := block_lt x00_14
  have lt_g0_14 : w5.heap.size < w14.heap.size := block_lt g0_14
  go_wp2_with fail
  refine (eqAbelian_t _ _ _ _ _ _ R1 _ _ (by exact (Rh_14.out.alloc _)) (by exact ((SW_14.out.rdI RW.out).alloc _)) rfl rfl (by omega)).mono ?_
  rintro e w15 ⟨rfl, hb⟩
  have sz_15 : w14.heap.size + 1 ≤ w15.heap.size := (by have := hb.size; simp at this; omega)
  have h0_15 := cell_below (p := ⟨w14.heap.size, 0, none⟩) (v := .slice ah R1.length ch) (by simp) hb
  have h1_15 := cell_below (p := ⟨w14.heap.size, 1, none⟩) (v := .int .i64 K1) (by simp) hb
  replace hb := below_al1 hb
  have p00_15 := cell_below (p := ⟨w.heap.size, 0, none⟩) (v := .int .i64 q0) p00_14 hb
  have p01_15 := cell_below (p := ⟨w.heap.size, 1, none⟩) (v := .slice a0 n0 c0) p01_14 hb
  have SW_15 : Hid (Snap (0) w3 w15) := Lib.hid (SW_14.out.keep hb)
  have w0_15 := cell_below (p := ⟨w3.heap.size, 0, none⟩) (v := .slice aw R1.length cw) w0_14 hb
  have w1_15 := cell_below (p := ⟨w3.heap.size, 1, none⟩) (v := .int .i64 K1) w1_14 hb
  have x00_15 := cell_below (p := ⟨w4.heap.size, 0, none⟩) (v := .int .i64 q0) x00_14 hb
  have x01_15 := cell_below (p := ⟨w4.heap.size, 1, none⟩) (v := .slice a0x n0 c0x) x01_14 hb
  have g0_15 := cell_below (p := ⟨w5.heap.size, 0, none⟩) (v := .slice ag R1.length cg) g0_14 hb
  have g1_15 := cell_below (p := ⟨w5.heap.size, 1, none⟩) (v := .int .i64 K1) g1_14 hb
  have Rg_15 : Hid (RdI w15 ag (marks 1 R1.length)) := Lib.hid (Rg_14.out.keep hb (Nat.le_refl _))
  have Rh_15 : Hid (RdI w15 ah R1) := Lib.hid (Rh_14.out.keep hb (Nat.le_refl _))
  have HB_15 : Hid (Below w.heap.size w w15) := Lib.hid (HB_14.out.trans (hb.mono HB_14.out.size))
  clear hb p00_14 p01_14 SW_14 w0_14 w1_14 x00_14 x01_14 g0_14 g1_14 Rg_14 Rh_14 HB_14
  go_wp2_with fail
  refine (heldAbelian_t _ _ _ _ _ _ (by exact Rg_15.out) (by omega) (by omega) (by omega)).mono ?_
  rintro e w16 ⟨rfl, hb⟩
  have sz_16 : w15.heap.size + 0 ≤ w16.heap.size := (by have := hb.size; omega)
  have p00_16 := cell_below (p := ⟨w.heap.size, 0, none⟩) (v := .int .i64 q0) p00_15 hb
  have p01_16 := cell_below (p := ⟨w.heap.size, 1, none⟩) (v := .slice a0 n0 c0) p01_15 hb
  have SW_16 : Hid (Snap (0) w3 w16) := Lib.hid (SW_15.out.keep hb)
  have w0_16 := cell_below (p := ⟨w3.heap.size, 0, none⟩) (v := .slice aw R1.length cw) w0_15 hb
  have w1_16 := cell_below (p := ⟨w3.heap.size, 1, none⟩) (v := .int .i64 K1) w1_15 hb
  have x00_16 := cell_below (p := ⟨w4.heap.size, 0, none⟩) (v := .int .i64 q0) x00_15 hb
  have x01_16 := cell_below (p := ⟨w4.heap.size, 1, none⟩) (v := .slice a0x n0 c0x) x01_15 hb
  have g0_16 := cell_below (p := ⟨w5.heap.size, 0, none⟩) (v := .slice ag R1.length cg) g0_15 hb
  have g1_16 := cell_below (p := ⟨w5.heap.size, 1, none⟩) (v := .int .i64 K1) g1_15 hb
  have Rg_16 : Hid (RdI w16 ag (marks 1 R1.length)) := Lib.hid (Rg_15.out.keep hb (Nat.le_refl _))
  have Rh_16 : Hid (RdI w16 ah R1) := Lib.hid (Rh_15.out.keep hb (Nat.le_refl _))
  have h0_16 := cell_below (p := ⟨w14.heap.size, 0, none⟩) (v := .slice ah R1.length ch) h0_15 hb
  have h1_16 := cell_below (p := ⟨w14.heap.size, 1, none⟩) (v := .int .i64 K1) h1_15 hb
  have HB_16 : Hid (Below w.heap.size w w16) := Lib.hid (HB_15.out.trans (hb.mono HB_15.out.size))
  clear hb p00_15 p01_15 SW_15 w0_15 w1_15 x00_15 x01_15 g0_15 g1_15 Rg_15 Rh_15 h0_15 h1_15 HB_15
  go_wp2_with fail
  go_ret
  exact ⟨rfl, HB_16.out⟩
--ENDLAW
end Go.Proofs.Ytjnkhbaklilkkaa
