/- The law on the text of an abelian group. -/
import Derived.Test.YtfinngmohhnnoaaDoorTxtF
import Derived.Test.YtfinngmohhnnoaaDoorLawKit
import Derived.Test.YtfinngmohhnnoaaDoorKitA
import Derived.Deep.RegionHeld3
set_option linter.unusedVariables false
set_option linter.unusedSimpArgs false
namespace Go.Proofs.YtfinngmohhnnoaaDoor
open Go.RowKit
set_option maxRecDepth 20000 in
set_option maxHeartbeats 4000000 in
theorem law_AbelianText (a0 : Option Addr) (n0 c0 : Nat) (xs0 : List Int) (r0 : Int) (w : World) (hl0 : xs0.length = n0) (ha0 : RdI w a0 xs0) (hw0 : ∀ x ∈ xs0, (Lit.int .i64 x).wf = true) (hm0 : n0 ≤ maxLen) (hr0 : I64 r0) (hp : Pow w) :
    Calls Tryd.prog 3 #[.agg #[.slice a0 n0 c0, .int .i64 r0]] w fun e w' => e = .returned (.bool true) ∧ Below w.heap.size w w' := by
  have HA0 := Lib.hid ha0
  have HL0 := Lib.hid hl0
  unfold maxLen at hm0
  have HR0 := Lib.hid hr0
  have HP := Lib.hid hp
  clear hr0 hp
  clear ha0 hl0 hw0
  go_enter Tryd.func3, Tryd.ntmps3
  go_wp2_with fail
  refine (szAbelian_any _ n0 _ _ 1048576 _ (by omega) (by omega) (by omega)).mono ?_
  rintro e w1 ⟨z0, rfl, hz, hb⟩
  have p00_1 := cell_below (p := ⟨w.heap.size, 0, none⟩) (v := .slice a0 n0 c0) (by simp) hb
  have p01_1 := cell_below (p := ⟨w.heap.size, 1, none⟩) (v := .int .i64 r0) (by simp) hb
  replace hb := below_al1 hb
  have HB_1 : Hid (Below w.heap.size w w1) := Lib.hid hb
  clear hb
  rcases hz with rfl | ⟨hz0, hy0, hn0'⟩
  · go_wp2_with fail
    go_ret
    exact ⟨rfl, HB_1.out⟩
  have hn0 : n0 ≤ 1048576 := by omega
  clear hn0'
  go_wp2_with fail
  refine (toAbelian_any a0 n0 c0 xs0 r0 _ (by exact (HA0.out.keep HB_1.out (Nat.le_refl _))) HL0.out hn0).mono ?_
  rintro e w2 ⟨a0s, c0s, rfl, ho, hb⟩
  have p00_2 := cell_below (p := ⟨w.heap.size, 0, none⟩) (v := .slice a0 n0 c0) p00_1 hb
  have p01_2 := cell_below (p := ⟨w.heap.size, 1, none⟩) (v := .int .i64 r0) p01_1 hb
  have HB_2 : Hid (Below w.heap.size w w2) := Lib.hid (HB_1.out.trans (hb.mono HB_1.out.size))
  clear hb p00_1 p01_1 HB_1
  have R0s_2 : Hid (RdI w2 a0s xs0) := Lib.hid ho.rd
  clear ho
  go_wp2_with fail
  refine (spec_AbelianText_any a0s n0 c0s xs0 r0 _ (by exact R0s_2.out) HL0.out hn0 HR0.out).mono ?_
  rintro e w3 ⟨rfl, hb⟩
  have p00_3 := cell_below (p := ⟨w.heap.size, 0, none⟩) (v := .slice a0 n0 c0) p00_2 hb
  have p01_3 := cell_below (p := ⟨w.heap.size, 1, none⟩) (v := .int .i64 r0) p01_2 hb
  have R0s_3 : Hid (RdI w3 a0s xs0) := Lib.hid (R0s_2.out.keep hb (Nat.le_refl _))
  have HB_3 : Hid (Below w.heap.size w w3) := Lib.hid (HB_2.out.trans (hb.mono HB_2.out.size))
  clear hb p00_2 p01_2 R0s_2 HB_2
  clear R0s_3
  go_wp2_with fail
  refine (toAbelian_any a0 n0 c0 xs0 r0 _ (by exact (HA0.out.keep HB_3.out (Nat.le_refl _))) HL0.out hn0).mono ?_
  rintro e w4 ⟨a0x, c0x, rfl, ho, hb⟩
  have p00_4 := cell_below (p := ⟨w.heap.size, 0, none⟩) (v := .slice a0 n0 c0) p00_3 hb
  have p01_4 := cell_below (p := ⟨w.heap.size, 1, none⟩) (v := .int .i64 r0) p01_3 hb
  have HB_4 : Hid (Below w.heap.size w w4) := Lib.hid (HB_3.out.trans (hb.mono HB_3.out.size))
  clear hb p00_3 p01_3 HB_3
  have R0x_4 : Hid (RdI w4 a0x xs0) := Lib.hid ho.rd
  clear ho
  have lt_p00_4 : w.heap.size < w4.heap.size := block_lt p00_4
  go_wp2_with fail
  refine (impl_AbelianText_any a0x n0 c0x xs0 r0 _ (by exact (R0x_4.out.alloc _)) HL0.out hn0 HR0.out (by exact (HP.out.keep (HB_4.out.alloc HB_4.out.size _) (Nat.le_refl _)))).mono ?_
  rintro e w5 ⟨rfl, hb⟩
  have x00_5 := cell_below (p := ⟨w4.heap.size, 0, none⟩) (v := .slice a0x n0 c0x) (by simp) hb
  have x01_5 := cell_below (p := ⟨w4.heap.size, 1, none⟩) (v := .int .i64 r0) (by simp) hb
  replace hb := below_al1 hb
  have p00_5 := cell_below (p := ⟨w.heap.size, 0, none⟩) (v := .slice a0 n0 c0) p00_4 hb
  have p01_5 := cell_below (p := ⟨w.heap.size, 1, none⟩) (v := .int .i64 r0) p01_4 hb
  have R0x_5 : Hid (RdI w5 a0x xs0) := Lib.hid (R0x_4.out.keep hb (Nat.le_refl _))
  have HB_5 : Hid (Below w.heap.size w w5) := Lib.hid (HB_4.out.trans (hb.mono HB_4.out.size))
  clear hb p00_4 p01_4 R0x_4 HB_4
  go_wp2_with fail
  go_region_held3 (fun w' => w'.cell? ⟨w.heap.size, 0, none⟩ = some (.slice a0 n0 c0) ∧ w'.cell? ⟨w.heap.size, 1, none⟩ = some (.int .i64 r0) ∧ w'.cell? ⟨w4.heap.size, 0, none⟩ = some (.slice a0x n0 c0x) ∧ w'.cell? ⟨w4.heap.size, 1, none⟩ = some (.int .i64 r0)) (go_keep)
    (first
      | (go_at_call 7; (with_reducible refine (toAbelian_any a0 n0 c0 xs0 r0 _ ?_ HL0.out hn0).mono ?_); exact (show RdI w5 a0 xs0 from (HA0.out.keep HB_5.out (Nat.le_refl _))); rintro e w6 ⟨a0y, c0y, rfl, ho, hb0⟩; have hb : Below w5.heap.size w5 w6 := ⟨hb0.os, hb0.tape, hb0.output, hb0.size, hb0.block⟩; have p00_6 := cell_below (p := ⟨w.heap.size, 0, none⟩) (v := .slice a0 n0 c0) p00_5 hb; have p01_6 := cell_below (p := ⟨w.heap.size, 1, none⟩) (v := .int .i64 r0) p01_5 hb; have R0x_6 : Hid (RdI w6 a0x xs0) := Lib.hid (R0x_5.out.keep hb (Nat.le_refl _)); have x00_6 := cell_below (p := ⟨w4.heap.size, 0, none⟩) (v := .slice a0x n0 c0x) x00_5 hb; have x01_6 := cell_below (p := ⟨w4.heap.size, 1, none⟩) (v := .int .i64 r0) x01_5 hb; have HB_6 : Hid (Below w.heap.size w w6) := Lib.hid (HB_5.out.trans (hb.mono HB_5.out.size)); have R0y_6 : Hid (RdI w6 a0y xs0) := Lib.hid ho.rd; clear ho; clear hb hb0)
      | (go_at_call 9; (with_reducible refine (eqAbelian_t _ _ _ _ _ _ xs0 _ _ ?_ ?_ HL0.out HL0.out (by omega)).mono ?_); exact R0x_6.out; exact R0y_6.out; rintro e w7 ⟨rfl, hb0⟩; have hb := hb0; have p00_7 := cell_below (p := ⟨w.heap.size, 0, none⟩) (v := .slice a0 n0 c0) p00_6 hb; have p01_7 := cell_below (p := ⟨w.heap.size, 1, none⟩) (v := .int .i64 r0) p01_6 hb; have R0x_7 : Hid (RdI w7 a0x xs0) := Lib.hid (R0x_6.out.keep hb (Nat.le_refl _)); have x00_7 := cell_below (p := ⟨w4.heap.size, 0, none⟩) (v := .slice a0x n0 c0x) x00_6 hb; have x01_7 := cell_below (p := ⟨w4.heap.size, 1, none⟩) (v := .int .i64 r0) x01_6 hb; have R0y_7 : Hid (RdI w7 a0y xs0) := Lib.hid (R0y_6.out.keep hb (Nat.le_refl _)); have HB_7 : Hid (Below w.heap.size w w7) := Lib.hid (HB_6.out.trans (hb.mono HB_6.out.size)); clear hb hb0))
  go_wp2_with fail
  go_ret
  exact ⟨rfl, HB_7.out⟩
end Go.Proofs.YtfinngmohhnnoaaDoor
