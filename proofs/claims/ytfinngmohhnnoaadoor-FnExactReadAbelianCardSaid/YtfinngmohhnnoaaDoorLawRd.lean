/- The law on reading the text of an abelian group. -/
import Derived.Test.YtfinngmohhnnoaaDoorRdI
import Derived.Test.YtfinngmohhnnoaaDoorRdS
import Derived.Test.YtfinngmohhnnoaaDoorLawKit
import Derived.Test.YtfinngmohhnnoaaDoorKitA
import Derived.Test.YtfinngmohhnnoaaDoorHeld
import Derived.Deep.RegionHeld3
set_option linter.unusedVariables false
set_option linter.unusedSimpArgs false
namespace Go.Proofs.YtfinngmohhnnoaaDoor
open Go.RowKit
/-- what reading gives -/
def res_ReadAbelian (S : ByteArray) (R : List Int) (K : Int) (d : Int) : Prop := ∃ k : Nat, K = k ∧ ((R, k), d) = fin (readI S.data.toList) S.data.toList
theorem res_ReadAbelian_uniq {S : ByteArray} {R R2 : List Int} {K K2 d d2 : Int} (h : res_ReadAbelian S R K d) (h2 : res_ReadAbelian S R2 K2 d2) : R = R2 ∧ K = K2 ∧ d = d2 := by
  obtain ⟨k, rfl, h⟩ := h
  obtain ⟨k2, rfl, h2⟩ := h2
  rw [← h] at h2
  injection h2 with h3 h4
  injection h3 with h5 h6
  exact ⟨h5.symm, by rw [h6], h4.symm⟩
theorem res_ReadAbelian_small {S : ByteArray} {R : List Int} {K d : Int} (h : res_ReadAbelian S R K d) : R.length ≤ 1048576 := by
  obtain ⟨k, rfl, h⟩ := h
  unfold fin at h
  split at h
  · split at h
    · rename_i xs r _ hc
      injection h with h3 h4
      injection h3 with h5 h6
      obtain ⟨r0, hr0, ht⟩ := Txt.of (isAb_ok hc.1)
      have := ht.len
      rw [h5]
      omega
    · injection h with h3 h4
      injection h3 with h5 h6
      rw [h5]; simp
  · injection h with h3 h4
    injection h3 with h5 h6
    rw [h5]; simp
theorem spec_ReadAbelian_law (S : ByteArray) (w : World) (hs : S.size ≤ 1048576) :
    Calls Tryd.prog 10 #[.string S] w fun e w' => ∃ (R : List Int) (K : Int) (d : Int) (a' : Option Addr) (c' : Nat), e = .returned (.tuple #[.agg #[.slice a' R.length c', .int .i64 K], .int .i64 d]) ∧ res_ReadAbelian S R K d ∧ OwnI 2 w' w.heap.size a' R.length c' R ∧ Below w.heap.size w w' := by
  have h := spec_ReadAbelian_any S.data.toList w (by rw [Array.length_toList]; exact hs)
  rw [bs_of] at h
  refine h.mono ?_
  rintro e w' ⟨R, K, d, a', c', rfl, h1, h2, h3⟩
  exact ⟨R, K, d, a', c', rfl, ⟨K, rfl, by rw [h1, fin_eq]⟩, h2, h3⟩
theorem impl_ReadAbelian_law (S : ByteArray) (w : World) (hs : S.size ≤ 1048576) (hw : LibW w) :
    Calls Tryd.prog 11 #[.string S] w fun e w' => ∃ (R : List Int) (K : Int) (d : Int) (a' : Option Addr) (c' : Nat), e = .returned (.tuple #[.agg #[.slice a' R.length c', .int .i64 K], .int .i64 d]) ∧ res_ReadAbelian S R K d ∧ OwnI 2 w' w.heap.size a' R.length c' R ∧ Below w.heap.size w w' := by
  have h := impl_ReadAbelian_any S.data.toList w (by rw [Array.length_toList]; exact hs) hw
  rw [bs_of] at h
  refine h.mono ?_
  rintro e w' ⟨R, K, d, a', c', rfl, h1, h2, h3⟩
  exact ⟨R, K, d, a', c', rfl, ⟨K, rfl, h1⟩, h2, h3⟩
--LAW ReadAbelian
set_option maxRecDepth 20000 in
set_option maxHeartbeats 8000000 in
theorem law_ReadAbelian (S0 : ByteArray) (w : World) (hlw : LibW w) :
    Calls Tryd.prog 4 #[.string S0] w fun e w' => e = .returned (.bool true) ∧ Below w.heap.size w w' := by
  have HLW := Lib.hid hlw
  clear hlw
  by_cases hn0' : 1048576 < (S0.size : Int)
  · go_enter Tryd.func4, Tryd.ntmps4
    go_wp2_with fail
    go_ret
    exact ⟨rfl, Below.refl _ _⟩
  have hn0 : S0.size ≤ 1048576 := by omega
  go_enter Tryd.func4, Tryd.ntmps4
  go_wp2_with fail
  refine (spec_ReadAbelian_law S0 _ hn0).mono ?_
  rintro e w1 ⟨R1, K1, d1, aw, cw, rfl, hres, ho, hb⟩
  have sz_1 : w.heap.size + 0 ≤ w1.heap.size := (by have := hb.size; omega)
  have HB_1 : Hid (Below w.heap.size w w1) := Lib.hid hb
  have HRes : Hid (res_ReadAbelian S0 R1 K1 d1) := Lib.hid hres
  have RW : Hid (RdI w1 aw R1) := Lib.hid (by first | exact ho | exact ho.rd)
  have SW_1 : Hid (Snap 0 w1 w1) := Lib.hid (Snap.start _ _)
  clear ho hres
  clear hb
  have hrs := res_ReadAbelian_small HRes.out
  go_wp2_with fail
  refine (impl_ReadAbelian_law S0 _ hn0 (by exact (HLW.out.keep (HB_1.out.alloc HB_1.out.size _)))).mono ?_
  rintro e w2 ⟨R2, K2, d2, ag, cg, rfl, hres, ho, hb⟩
  have sz_2 : w1.heap.size + 1 ≤ w2.heap.size := (by have := hb.size; simp at this; omega)
  have w0_2 := cell_below (p := ⟨w1.heap.size, 0, none⟩) (v := .slice aw R1.length cw) (by simp) hb
  have w1_2 := cell_below (p := ⟨w1.heap.size, 1, none⟩) (v := .int .i64 K1) (by simp) hb
  replace hb := below_al1 hb
  have SW_2 : Hid (Snap (0) w1 w2) := Lib.hid (SW_1.out.keep hb)
  have HB_2 : Hid (Below w.heap.size w w2) := Lib.hid (HB_1.out.trans (hb.mono HB_1.out.size))
  obtain ⟨rfl, rfl, rfl⟩ := res_ReadAbelian_uniq HRes.out hres
  have ho1 := ho.mono (B' := w1.heap.size + 1) (by first | exact Nat.le_refl _ | simp)
  have Og : Hid (OwnI 2 w2 (w1.heap.size + 1) ag R1.length cg R1) := Lib.hid ho1
  have Sg_2 : Hid (Snap (w1.heap.size + 1) w2 w2) := Lib.hid (Snap.start _ _)
  clear ho ho1 hres
  clear hb SW_1 HB_1
  have lt_w0_2 : w1.heap.size < w2.heap.size := block_lt w0_2
  go_wp2_with fail
  refine (eqAbelian_t _ _ _ _ _ _ R1 _ _ (by exact ((Sg_2.out.ownI Og.out).rd.alloc _)) (by exact ((SW_2.out.rdI RW.out).alloc _)) rfl rfl (by omega)).mono ?_
  rintro e w3 ⟨rfl, hb⟩
  have sz_3 : w2.heap.size + 1 ≤ w3.heap.size := (by have := hb.size; simp at this; omega)
  have g0_3 := cell_below (p := ⟨w2.heap.size, 0, none⟩) (v := .slice ag R1.length cg) (by simp) hb
  have g1_3 := cell_below (p := ⟨w2.heap.size, 1, none⟩) (v := .int .i64 K1) (by simp) hb
  replace hb := below_al1 hb
  have SW_3 : Hid (Snap (0) w1 w3) := Lib.hid (SW_2.out.keep hb)
  have w0_3 := cell_below (p := ⟨w1.heap.size, 0, none⟩) (v := .slice aw R1.length cw) w0_2 hb
  have w1_3 := cell_below (p := ⟨w1.heap.size, 1, none⟩) (v := .int .i64 K1) w1_2 hb
  have Sg_3 : Hid (Snap (w1.heap.size + 1) w2 w3) := Lib.hid (Sg_2.out.keep hb)
  have HB_3 : Hid (Below w.heap.size w w3) := Lib.hid (HB_2.out.trans (hb.mono HB_2.out.size))
  clear hb SW_2 w0_2 w1_2 Sg_2 HB_2
  go_wp2_with fail
  refine (markAbelian_t 2 _ _ _ _ _ _ (by exact (Sg_3.out.ownI Og.out).wr) (by omega) (by omega) (by omega)).mono ?_
  rintro e w4 ⟨rfl, hr, hc⟩
  have hg := Og.out.rg hc
  have sz_4 : w3.heap.size + 0 ≤ w4.heap.size := by have := hg.size; omega
  have SW_4 : Hid (Snap (0) w1 w4) := Lib.hid (SW_3.out.chg hg (show w1.heap.size ≤ w1.heap.size + 1 ∨ w2.heap.size ≤ 0 by omega))
  have w0_4 := cell_chg (p := ⟨w1.heap.size, 0, none⟩) (v := .slice aw R1.length cw) w0_3 hg (show w1.heap.size < w1.heap.size + 1 ∨ w2.heap.size ≤ w1.heap.size by omega)
  have w1_4 := cell_chg (p := ⟨w1.heap.size, 1, none⟩) (v := .int .i64 K1) w1_3 hg (show w1.heap.size < w1.heap.size + 1 ∨ w2.heap.size ≤ w1.heap.size by omega)
  have g0_4 := cell_chg (p := ⟨w2.heap.size, 0, none⟩) (v := .slice ag R1.length cg) g0_3 hg (show w2.heap.size < w1.heap.size + 1 ∨ w2.heap.size ≤ w2.heap.size by omega)
  have g1_4 := cell_chg (p := ⟨w2.heap.size, 1, none⟩) (v := .int .i64 K1) g1_3 hg (show w2.heap.size < w1.heap.size + 1 ∨ w2.heap.size ≤ w2.heap.size by omega)
  have HB_4 : Hid (Below w.heap.size w w4) := Lib.hid (below_chg HB_3.out hg (Nat.le_refl _) (show w.heap.size ≤ w1.heap.size + 1 by omega))
  have Rg_4 : Hid (RdI w4 ag (marks 1 R1.length)) := Lib.hid hr
  clear hr hc hg SW_3 w0_3 w1_3 g0_3 g1_3 HB_3
  go_wp2_with fail
  refine (heldAbelian_t _ _ _ _ _ _ (by exact Rg_4.out) (by omega) (by omega) (by omega)).mono ?_
  rintro e w5 ⟨rfl, hb⟩
  have sz_5 : w4.heap.size + 0 ≤ w5.heap.size := (by have := hb.size; omega)
  have SW_5 : Hid (Snap (0) w1 w5) := Lib.hid (SW_4.out.keep hb)
  have w0_5 := cell_below (p := ⟨w1.heap.size, 0, none⟩) (v := .slice aw R1.length cw) w0_4 hb
  have w1_5 := cell_below (p := ⟨w1.heap.size, 1, none⟩) (v := .int .i64 K1) w1_4 hb
  have g0_5 := cell_below (p := ⟨w2.heap.size, 0, none⟩) (v := .slice ag R1.length cg) g0_4 hb
  have g1_5 := cell_below (p := ⟨w2.heap.size, 1, none⟩) (v := .int .i64 K1) g1_4 hb
  have Rg_5 : Hid (RdI w5 ag (marks 1 R1.length)) := Lib.hid (Rg_4.out.keep hb (Nat.le_refl _))
  have HB_5 : Hid (Below w.heap.size w w5) := Lib.hid (HB_4.out.trans (hb.mono HB_4.out.size))
  clear hb SW_4 w0_4 w1_4 g0_4 g1_4 Rg_4 HB_4
  go_wp2_with fail
  refine (impl_ReadAbelian_law S0 _ hn0 (by exact (HLW.out.keep HB_5.out))).mono ?_
  rintro e w6 ⟨R3, K3, d3, ah, ch, rfl, hres, ho, hb⟩
  have sz_6 : w5.heap.size + 0 ≤ w6.heap.size := (by have := hb.size; omega)
  have SW_6 : Hid (Snap (0) w1 w6) := Lib.hid (SW_5.out.keep hb)
  have w0_6 := cell_below (p := ⟨w1.heap.size, 0, none⟩) (v := .slice aw R1.length cw) w0_5 hb
  have w1_6 := cell_below (p := ⟨w1.heap.size, 1, none⟩) (v := .int .i64 K1) w1_5 hb
  have g0_6 := cell_below (p := ⟨w2.heap.size, 0, none⟩) (v := .slice ag R1.length cg) g0_5 hb
  have g1_6 := cell_below (p := ⟨w2.heap.size, 1, none⟩) (v := .int .i64 K1) g1_5 hb
  have Rg_6 : Hid (RdI w6 ag (marks 1 R1.length)) := Lib.hid (Rg_5.out.keep hb (Nat.le_refl _))
  have HB_6 : Hid (Below w.heap.size w w6) := Lib.hid (HB_5.out.trans (hb.mono HB_5.out.size))
  obtain ⟨rfl, rfl, rfl⟩ := res_ReadAbelian_uniq HRes.out hres
  have Rh_6 : Hid (RdI w6 ah R1) := Lib.hid ho.rd
  clear ho hres
  clear hb SW_5 w0_5 w1_5 g0_5 g1_5 Rg_5 HB_5
  have lt_w0_6 : w1.heap.size < w6.heap.size := block_lt w0_6
  have lt_g0_6 : w2.heap.size < w6.heap.size := block_lt g0_6
  go_wp2_with fail
  refine (eqAbelian_t _ _ _ _ _ _ R1 _ _ (by exact (Rh_6.out.alloc _)) (by exact ((SW_6.out.rdI RW.out).alloc _)) rfl rfl (by omega)).mono ?_
  rintro e w7 ⟨rfl, hb⟩
  have sz_7 : w6.heap.size + 1 ≤ w7.heap.size := (by have := hb.size; simp at this; omega)
  have h0_7 := cell_below (p := ⟨w6.heap.size, 0, none⟩) (v := .slice ah R1.length ch) (by simp) hb
  have h1_7 := cell_below (p := ⟨w6.heap.size, 1, none⟩) (v := .int .i64 K1) (by simp) hb
  replace hb := below_al1 hb
  have SW_7 : Hid (Snap (0) w1 w7) := Lib.hid (SW_6.out.keep hb)
  have w0_7 := cell_below (p := ⟨w1.heap.size, 0, none⟩) (v := .slice aw R1.length cw) w0_6 hb
  have w1_7 := cell_below (p := ⟨w1.heap.size, 1, none⟩) (v := .int .i64 K1) w1_6 hb
  have g0_7 := cell_below (p := ⟨w2.heap.size, 0, none⟩) (v := .slice ag R1.length cg) g0_6 hb
  have g1_7 := cell_below (p := ⟨w2.heap.size, 1, none⟩) (v := .int .i64 K1) g1_6 hb
  have Rg_7 : Hid (RdI w7 ag (marks 1 R1.length)) := Lib.hid (Rg_6.out.keep hb (Nat.le_refl _))
  have Rh_7 : Hid (RdI w7 ah R1) := Lib.hid (Rh_6.out.keep hb (Nat.le_refl _))
  have HB_7 : Hid (Below w.heap.size w w7) := Lib.hid (HB_6.out.trans (hb.mono HB_6.out.size))
  clear hb SW_6 w0_6 w1_6 g0_6 g1_6 Rg_6 Rh_6 HB_6
  go_wp2_with fail
  refine (heldAbelian_t _ _ _ _ _ _ (by exact Rg_7.out) (by omega) (by omega) (by omega)).mono ?_
  rintro e w8 ⟨rfl, hb⟩
  have sz_8 : w7.heap.size + 0 ≤ w8.heap.size := (by have := hb.size; omega)
  have SW_8 : Hid (Snap (0) w1 w8) := Lib.hid (SW_7.out.keep hb)
  have w0_8 := cell_below (p := ⟨w1.heap.size, 0, none⟩) (v := .slice aw R1.length cw) w0_7 hb
  have w1_8 := cell_below (p := ⟨w1.heap.size, 1, none⟩) (v := .int .i64 K1) w1_7 hb
  have g0_8 := cell_below (p := ⟨w2.heap.size, 0, none⟩) (v := .slice ag R1.length cg) g0_7 hb
  have g1_8 := cell_below (p := ⟨w2.heap.size, 1, none⟩) (v := .int .i64 K1) g1_7 hb
  have Rg_8 : Hid (RdI w8 ag (marks 1 R1.length)) := Lib.hid (Rg_7.out.keep hb (Nat.le_refl _))
  have Rh_8 : Hid (RdI w8 ah R1) := Lib.hid (Rh_7.out.keep hb (Nat.le_refl _))
  have h0_8 := cell_below (p := ⟨w6.heap.size, 0, none⟩) (v := .slice ah R1.length ch) h0_7 hb
  have h1_8 := cell_below (p := ⟨w6.heap.size, 1, none⟩) (v := .int .i64 K1) h1_7 hb
  have HB_8 : Hid (Below w.heap.size w w8) := Lib.hid (HB_7.out.trans (hb.mono HB_7.out.size))
  clear hb SW_7 w0_7 w1_7 g0_7 g1_7 Rg_7 Rh_7 h0_7 h1_7 HB_7
  go_wp2_with fail
  go_ret
  exact ⟨rfl, HB_8.out⟩
--ENDLAW
end Go.Proofs.YtfinngmohhnnoaaDoor
