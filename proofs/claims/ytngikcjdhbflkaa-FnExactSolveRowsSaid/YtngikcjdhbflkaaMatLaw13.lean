/- The law on solutions of linear equations. -/
import Derived.Test.YtngikcjdhbflkaaKitV
import Derived.Test.YtngikcjdhbflkaaSolM
import Derived.Deep.RegionHeld3
set_option linter.unusedVariables false
set_option linter.unusedSimpArgs false
namespace Go.Proofs.Ytngikcjdhbflkaa
open Go.RowKit

theorem heldInt64S_b (a : Option Addr) (c n : Nat) (m : Int) (w : World) (ha : RdI w a (marks m n)) (hl : n ≤ 1000000000000) (h0 : 0 ≤ m) (h1 : m ≤ 1000000000000000) :
    Calls Try.prog 45 #[.slice a n c, .int .i64 m] w fun e w' => e = .returned (.int .i64 (m + n)) ∧ Below w.heap.size w w' :=
  (heldInt64S_t a c n m w ha hl h0 h1).mono fun _ _ h => ⟨h.1, by rw [← h.2]; exact Below.refl _ _⟩
--LAW SolveRows
set_option maxRecDepth 20000 in
set_option maxHeartbeats 8000000 in
theorem law_SolveRows (p0 q0 : Int) (a0 : Option Addr) (n0 c0 : Nat) (xs0 : List (List Int)) (a1 : Option Addr) (n1 c1 : Nat) (xs1 : List Int) (w : World) (hp0 : I64 p0) (hq0 : I64 q0) (hl0 : xs0.length = n0) (ha0 : RdR w a0 xs0) (hw0 : ∀ xs ∈ xs0, xs.length ≤ maxLen ∧ ∀ x ∈ xs, (Lit.int .i64 x).wf = true) (hm0 : n0 ≤ maxLen) (hl1 : xs1.length = n1) (ha1 : RdI w a1 xs1) (hw1 : ∀ x ∈ xs1, (Lit.int .i64 x).wf = true) (hm1 : n1 ≤ maxLen) :
    Calls Try.prog 13 #[.agg #[.int .i64 p0, .int .i64 q0, .slice a0 n0 c0], .slice a1 n1 c1] w fun e w' => e = .returned (.bool true) ∧ Below w.heap.size w w' := by
  have HA0 := Lib.hid ha0
  have HL0 := Lib.hid hl0
  unfold maxLen at hm0
  have HY0 : Hid (∀ xs ∈ xs0, xs.length ≤ maxLen) := Lib.hid fun xs h => (hw0 xs h).1
  have HP0 := Lib.hid hp0
  clear hp0
  have HQ0 := Lib.hid hq0
  clear hq0
  clear ha0 hl0 hw0
  have HA1 := Lib.hid ha1
  have HL1 := Lib.hid hl1
  unfold maxLen at hm1
  have HW1 : Hid (∀ x ∈ xs1, I64 x) := Lib.hid fun x h => wf_bd (hw1 x h)
  clear ha1 hl1 hw1
  by_cases hn1' : 1048576 < (n1 : Int)
  · go_enter Try.func13, Try.ntmps13
    go_wp2_with fail
    go_ret
    exact ⟨rfl, ((Below.refl _ _).alloc (Nat.le_refl _) _)⟩
  have hn1 : n1 ≤ 1048576 := by omega
  clear hn1'
  go_enter Try.func13, Try.ntmps13
  go_wp2_with fail
  refine (szMatrix_any _ _ _ n0 _ xs0 1048576 _ (by exact (HA0.out.alloc _)) HL0.out HY0.out hm0 (by omega) (by omega)).mono ?_
  rintro e w1 ⟨z0, rfl, hz, hb⟩
  have sz_1 : w.heap.size + 1 ≤ w1.heap.size := (by have := hb.size; simp at this; omega)
  have p00_1 := cell_below (p := ⟨w.heap.size, 0, none⟩) (v := .int .i64 p0) (by simp) hb
  have p01_1 := cell_below (p := ⟨w.heap.size, 1, none⟩) (v := .int .i64 q0) (by simp) hb
  have p02_1 := cell_below (p := ⟨w.heap.size, 2, none⟩) (v := .slice a0 n0 c0) (by simp) hb
  replace hb := below_al1 hb
  have HB_1 : Hid (Below w.heap.size w w1) := Lib.hid hb
  clear hb
  rcases hz with rfl | ⟨hz0, hy0, hn0', hx0⟩
  · go_wp2_with fail
    go_ret
    exact ⟨rfl, HB_1.out⟩
  have hn0 : n0 ≤ 1048576 := by have := HL0.out; omega
  have HX0 : Hid (∀ i, i < n0 → (rw_ xs0 i).length ≤ 1048576) := Lib.hid fun i hi => by have := hx0 i (by rw [HL0.out]; exact hi); omega
  clear hx0
  clear hn0'
  go_wp2_with fail
  refine (toMatrix_any p0 q0 a0 n0 c0 xs0 _ (by exact ((HA0.out.keep HB_1.out (Nat.le_refl _)))) HL0.out HX0.out hn0).mono ?_
  rintro e w2 ⟨a0s, c0s, rfl, ho, hb⟩
  have sz_2 : w1.heap.size + 0 ≤ w2.heap.size := (by have := hb.size; omega)
  have p00_2 := cell_below (p := ⟨w.heap.size, 0, none⟩) (v := .int .i64 p0) p00_1 hb
  have p01_2 := cell_below (p := ⟨w.heap.size, 1, none⟩) (v := .int .i64 q0) p01_1 hb
  have p02_2 := cell_below (p := ⟨w.heap.size, 2, none⟩) (v := .slice a0 n0 c0) p02_1 hb
  have HB_2 : Hid (Below w.heap.size w w2) := Lib.hid (HB_1.out.trans (hb.mono HB_1.out.size))
  have hcp0s := ho.capl
  have R0s_2 : Hid (RdR w2 a0s xs0) := Lib.hid ho.rd
  clear ho
  clear hb p00_1 p01_1 p02_1 HB_1
  go_wp2_with fail
  refine (toInt64S_any a1 n1 c1 xs1 _ (by exact ((HA1.out.keep HB_2.out (Nat.le_refl _)))) HL1.out hn1).mono ?_
  rintro e w3 ⟨a1s, c1s, rfl, ho, hb⟩
  have sz_3 : w2.heap.size + 0 ≤ w3.heap.size := (by have := hb.size; omega)
  have p00_3 := cell_below (p := ⟨w.heap.size, 0, none⟩) (v := .int .i64 p0) p00_2 hb
  have p01_3 := cell_below (p := ⟨w.heap.size, 1, none⟩) (v := .int .i64 q0) p01_2 hb
  have p02_3 := cell_below (p := ⟨w.heap.size, 2, none⟩) (v := .slice a0 n0 c0) p02_2 hb
  have R0s_3 : Hid (RdR w3 a0s xs0) := Lib.hid (R0s_2.out.keep hb (Nat.le_refl _))
  have HB_3 : Hid (Below w.heap.size w w3) := Lib.hid (HB_2.out.trans (hb.mono HB_2.out.size))
  have R1s_3 : Hid (RdI w3 a1s xs1) := Lib.hid ho.rd
  clear ho
  clear hb p00_2 p01_2 p02_2 R0s_2 HB_2
  go_wp2_with fail
  refine (spec_SolveRows_any p0 q0 a0s n0 c0s xs0 a1s n1 c1s xs1 _ HP0.out HQ0.out (by exact R0s_3.out) HL0.out HX0.out hn0 (by omega) (by exact R1s_3.out) HL1.out hn1 HW1.out).mono ?_
  rintro e w4 ⟨R1, d1, aw, cw, rfl, hres, ho, hb⟩
  have sz_4 : w3.heap.size + 0 ≤ w4.heap.size := (by have := hb.size; omega)
  have p00_4 := cell_below (p := ⟨w.heap.size, 0, none⟩) (v := .int .i64 p0) p00_3 hb
  have p01_4 := cell_below (p := ⟨w.heap.size, 1, none⟩) (v := .int .i64 q0) p01_3 hb
  have p02_4 := cell_below (p := ⟨w.heap.size, 2, none⟩) (v := .slice a0 n0 c0) p02_3 hb
  have R0s_4 : Hid (RdR w4 a0s xs0) := Lib.hid (R0s_3.out.keep hb (Nat.le_refl _))
  have R1s_4 : Hid (RdI w4 a1s xs1) := Lib.hid (R1s_3.out.keep hb (Nat.le_refl _))
  have HB_4 : Hid (Below w.heap.size w w4) := Lib.hid (HB_3.out.trans (hb.mono HB_3.out.size))
  have HRes : Hid (res_SolveRows xs0 p0 q0 xs1 R1 d1) := Lib.hid hres
  have RW : Hid (RdI w4 aw R1) := Lib.hid (by first | exact ho | exact ho.rd)
  have SW_4 : Hid (Snap 0 w4 w4) := Lib.hid (Snap.start _ _)
  clear ho hres
  clear hb p00_3 p01_3 p02_3 R0s_3 R1s_3 HB_3
  have hrs := res_SolveRows_small HRes.out
  go_wp2_with fail
  refine (toMatrix_any p0 q0 a0 n0 c0 xs0 _ (by exact ((HA0.out.keep HB_4.out (Nat.le_refl _)))) HL0.out HX0.out hn0).mono ?_
  rintro e w5 ⟨a0x, c0x, rfl, ho, hb⟩
  have sz_5 : w4.heap.size + 0 ≤ w5.heap.size := (by have := hb.size; omega)
  have p00_5 := cell_below (p := ⟨w.heap.size, 0, none⟩) (v := .int .i64 p0) p00_4 hb
  have p01_5 := cell_below (p := ⟨w.heap.size, 1, none⟩) (v := .int .i64 q0) p01_4 hb
  have p02_5 := cell_below (p := ⟨w.heap.size, 2, none⟩) (v := .slice a0 n0 c0) p02_4 hb
  have SW_5 : Hid (Snap (0) w4 w5) := Lib.hid (SW_4.out.keep hb)
  have HB_5 : Hid (Below w.heap.size w w5) := Lib.hid (HB_4.out.trans (hb.mono HB_4.out.size))
  have hcp0x := ho.capl
  obtain ⟨A0x, C0x, ho1⟩ := ho.has.mono (B' := w4.heap.size) (by first | exact Nat.le_refl _ | simp)
  have O0x : Hid (HasR 2 w5 (w4.heap.size) a0x n0 c0x xs0 A0x C0x) := Lib.hid ho1
  have S0x_5 : Hid (Snap (w4.heap.size) w5 w5) := Lib.hid (Snap.start _ _)
  clear ho ho1
  clear hb p00_4 p01_4 p02_4 SW_4 HB_4
  have lt_p00_5 : w.heap.size < w5.heap.size := block_lt p00_5
  go_wp2_with fail
  refine (toInt64S_any a1 n1 c1 xs1 _ (by exact ((HA1.out.keep HB_5.out (Nat.le_refl _)).alloc _)) HL1.out hn1).mono ?_
  rintro e w6 ⟨a1x, c1x, rfl, ho, hb⟩
  have sz_6 : w5.heap.size + 1 ≤ w6.heap.size := (by have := hb.size; simp at this; omega)
  have x00_6 := cell_below (p := ⟨w5.heap.size, 0, none⟩) (v := .int .i64 p0) (by simp) hb
  have x01_6 := cell_below (p := ⟨w5.heap.size, 1, none⟩) (v := .int .i64 q0) (by simp) hb
  have x02_6 := cell_below (p := ⟨w5.heap.size, 2, none⟩) (v := .slice a0x n0 c0x) (by simp) hb
  replace hb := below_al1 hb
  have p00_6 := cell_below (p := ⟨w.heap.size, 0, none⟩) (v := .int .i64 p0) p00_5 hb
  have p01_6 := cell_below (p := ⟨w.heap.size, 1, none⟩) (v := .int .i64 q0) p01_5 hb
  have p02_6 := cell_below (p := ⟨w.heap.size, 2, none⟩) (v := .slice a0 n0 c0) p02_5 hb
  have SW_6 : Hid (Snap (0) w4 w6) := Lib.hid (SW_5.out.keep hb)
  have S0x_6 : Hid (Snap (w4.heap.size) w5 w6) := Lib.hid (S0x_5.out.keep hb)
  have HB_6 : Hid (Below w.heap.size w w6) := Lib.hid (HB_5.out.trans (hb.mono HB_5.out.size))
  have ho1 := ho.mono (B' := w5.heap.size + 1) (by first | exact Nat.le_refl _ | simp)
  have O1x : Hid (OwnI 2 w6 (w5.heap.size + 1) a1x n1 c1x xs1) := Lib.hid ho1
  have S1x_6 : Hid (Snap (w5.heap.size + 1) w6 w6) := Lib.hid (Snap.start _ _)
  clear ho ho1
  clear hb p00_5 p01_5 p02_5 SW_5 S0x_5 HB_5
  go_wp2_with fail
  refine (impl_SolveRows_any p0 q0 a0x n0 c0x xs0 a1x n1 c1x xs1 _ HP0.out HQ0.out (by exact ((S0x_6.out.hasR O0x.out).rd)) HL0.out HX0.out hn0 (by omega) (by exact ((S1x_6.out.ownI O1x.out).rd)) HL1.out hn1 HW1.out).mono ?_
  rintro e w7 ⟨R2, d2, ag, cg, rfl, hres, ho, hb⟩
  have sz_7 : w6.heap.size + 0 ≤ w7.heap.size := (by have := hb.size; omega)
  have p00_7 := cell_below (p := ⟨w.heap.size, 0, none⟩) (v := .int .i64 p0) p00_6 hb
  have p01_7 := cell_below (p := ⟨w.heap.size, 1, none⟩) (v := .int .i64 q0) p01_6 hb
  have p02_7 := cell_below (p := ⟨w.heap.size, 2, none⟩) (v := .slice a0 n0 c0) p02_6 hb
  have SW_7 : Hid (Snap (0) w4 w7) := Lib.hid (SW_6.out.keep hb)
  have S0x_7 : Hid (Snap (w4.heap.size) w5 w7) := Lib.hid (S0x_6.out.keep hb)
  have x00_7 := cell_below (p := ⟨w5.heap.size, 0, none⟩) (v := .int .i64 p0) x00_6 hb
  have x01_7 := cell_below (p := ⟨w5.heap.size, 1, none⟩) (v := .int .i64 q0) x01_6 hb
  have x02_7 := cell_below (p := ⟨w5.heap.size, 2, none⟩) (v := .slice a0x n0 c0x) x02_6 hb
  have S1x_7 : Hid (Snap (w5.heap.size + 1) w6 w7) := Lib.hid (S1x_6.out.keep hb)
  have HB_7 : Hid (Below w.heap.size w w7) := Lib.hid (HB_6.out.trans (hb.mono HB_6.out.size))
  obtain ⟨rfl, rfl⟩ := res_SolveRows_uniq HRes.out hres
  have ho1 := ho.mono (B' := w6.heap.size) (by first | exact Nat.le_refl _ | simp)
  have Og : Hid (OwnI 2 w7 (w6.heap.size) ag R1.length cg R1) := Lib.hid ho1
  have Sg_7 : Hid (Snap (w6.heap.size) w7 w7) := Lib.hid (Snap.start _ _)
  clear ho ho1 hres
  clear hb p00_6 p01_6 p02_6 SW_6 S0x_6 x00_6 x01_6 x02_6 S1x_6 HB_6
  go_wp2_with fail
  refine (eqInt64S_b _ _ _ _ _ _ R1 _ (by exact ((Sg_7.out.ownI Og.out).rd)) (by exact ((SW_7.out.rdI RW.out))) rfl rfl (by omega)).mono ?_
  rintro e w8 ⟨rfl, hb⟩
  have sz_8 : w7.heap.size + 0 ≤ w8.heap.size := (by have := hb.size; omega)
  have p00_8 := cell_below (p := ⟨w.heap.size, 0, none⟩) (v := .int .i64 p0) p00_7 hb
  have p01_8 := cell_below (p := ⟨w.heap.size, 1, none⟩) (v := .int .i64 q0) p01_7 hb
  have p02_8 := cell_below (p := ⟨w.heap.size, 2, none⟩) (v := .slice a0 n0 c0) p02_7 hb
  have SW_8 : Hid (Snap (0) w4 w8) := Lib.hid (SW_7.out.keep hb)
  have S0x_8 : Hid (Snap (w4.heap.size) w5 w8) := Lib.hid (S0x_7.out.keep hb)
  have x00_8 := cell_below (p := ⟨w5.heap.size, 0, none⟩) (v := .int .i64 p0) x00_7 hb
  have x01_8 := cell_below (p := ⟨w5.heap.size, 1, none⟩) (v := .int .i64 q0) x01_7 hb
  have x02_8 := cell_below (p := ⟨w5.heap.size, 2, none⟩) (v := .slice a0x n0 c0x) x02_7 hb
  have S1x_8 : Hid (Snap (w5.heap.size + 1) w6 w8) := Lib.hid (S1x_7.out.keep hb)
  have Sg_8 : Hid (Snap (w6.heap.size) w7 w8) := Lib.hid (Sg_7.out.keep hb)
  have HB_8 : Hid (Below w.heap.size w w8) := Lib.hid (HB_7.out.trans (hb.mono HB_7.out.size))
  clear hb p00_7 p01_7 p02_7 SW_7 S0x_7 x00_7 x01_7 x02_7 S1x_7 Sg_7 HB_7
  go_wp2_with fail
  go_region_held3 (fun w' => w'.cell? ⟨w.heap.size, 0, none⟩ = some (.int .i64 p0) ∧ w'.cell? ⟨w.heap.size, 1, none⟩ = some (.int .i64 q0) ∧ w'.cell? ⟨w.heap.size, 2, none⟩ = some (.slice a0 n0 c0) ∧ w'.cell? ⟨w5.heap.size, 0, none⟩ = some (.int .i64 p0) ∧ w'.cell? ⟨w5.heap.size, 1, none⟩ = some (.int .i64 q0) ∧ w'.cell? ⟨w5.heap.size, 2, none⟩ = some (.slice a0x n0 c0x)) (go_keep)
    (first
      | (go_at_call 22; (with_reducible refine (toMatrix_any p0 q0 a0 n0 c0 xs0 _ ?_ HL0.out HX0.out hn0).mono ?_); exact (show RdR w8 a0 xs0 from ((HA0.out.keep HB_8.out (Nat.le_refl _)))); rintro e w9 ⟨a0y, c0y, rfl, ho, hb0⟩; have hb : Below w8.heap.size w8 w9 := ⟨hb0.os, hb0.tape, hb0.output, hb0.size, hb0.block⟩; have sz_9 : w8.heap.size + 0 ≤ w9.heap.size := (by have := hb.size; omega); have p00_9 := cell_below (p := ⟨w.heap.size, 0, none⟩) (v := .int .i64 p0) p00_8 hb; have p01_9 := cell_below (p := ⟨w.heap.size, 1, none⟩) (v := .int .i64 q0) p01_8 hb; have p02_9 := cell_below (p := ⟨w.heap.size, 2, none⟩) (v := .slice a0 n0 c0) p02_8 hb; have SW_9 : Hid (Snap (0) w4 w9) := Lib.hid (SW_8.out.keep hb); have S0x_9 : Hid (Snap (w4.heap.size) w5 w9) := Lib.hid (S0x_8.out.keep hb); have x00_9 := cell_below (p := ⟨w5.heap.size, 0, none⟩) (v := .int .i64 p0) x00_8 hb; have x01_9 := cell_below (p := ⟨w5.heap.size, 1, none⟩) (v := .int .i64 q0) x01_8 hb; have x02_9 := cell_below (p := ⟨w5.heap.size, 2, none⟩) (v := .slice a0x n0 c0x) x02_8 hb; have S1x_9 : Hid (Snap (w5.heap.size + 1) w6 w9) := Lib.hid (S1x_8.out.keep hb); have Sg_9 : Hid (Snap (w6.heap.size) w7 w9) := Lib.hid (Sg_8.out.keep hb); have HB_9 : Hid (Below w.heap.size w w9) := Lib.hid (HB_8.out.trans (hb.mono HB_8.out.size)); have hcp0y := ho.capl; have R0y_9 : Hid (RdR w9 a0y xs0) := Lib.hid ho.rd; clear ho; clear hb hb0)
      | (go_at_call 17; (with_reducible refine (eqMatrix_t _ _ _ _ _ _ _ _ xs0 _ ?_ ?_ HL0.out HL0.out (by omega) HX0.out).mono ?_); exact ((S0x_9.out.hasR O0x.out).rd); exact R0y_9.out; rintro e w10 ⟨rfl, hb0⟩; have hb := hb0; have sz_10 : w9.heap.size + 0 ≤ w10.heap.size := (by have := hb.size; omega); have p00_10 := cell_below (p := ⟨w.heap.size, 0, none⟩) (v := .int .i64 p0) p00_9 hb; have p01_10 := cell_below (p := ⟨w.heap.size, 1, none⟩) (v := .int .i64 q0) p01_9 hb; have p02_10 := cell_below (p := ⟨w.heap.size, 2, none⟩) (v := .slice a0 n0 c0) p02_9 hb; have SW_10 : Hid (Snap (0) w4 w10) := Lib.hid (SW_9.out.keep hb); have S0x_10 : Hid (Snap (w4.heap.size) w5 w10) := Lib.hid (S0x_9.out.keep hb); have x00_10 := cell_below (p := ⟨w5.heap.size, 0, none⟩) (v := .int .i64 p0) x00_9 hb; have x01_10 := cell_below (p := ⟨w5.heap.size, 1, none⟩) (v := .int .i64 q0) x01_9 hb; have x02_10 := cell_below (p := ⟨w5.heap.size, 2, none⟩) (v := .slice a0x n0 c0x) x02_9 hb; have S1x_10 : Hid (Snap (w5.heap.size + 1) w6 w10) := Lib.hid (S1x_9.out.keep hb); have Sg_10 : Hid (Snap (w6.heap.size) w7 w10) := Lib.hid (Sg_9.out.keep hb); have R0y_10 : Hid (RdR w10 a0y xs0) := Lib.hid (R0y_9.out.keep hb (Nat.le_refl _)); have HB_10 : Hid (Below w.heap.size w w10) := Lib.hid (HB_9.out.trans (hb.mono HB_9.out.size)); clear hb hb0))
  go_wp2_with fail
  refine (toInt64S_any a1 n1 c1 xs1 _ (by exact ((HA1.out.keep HB_10.out (Nat.le_refl _)))) HL1.out hn1).mono ?_
  rintro e w11 ⟨a1y, c1y, rfl, ho, hb⟩
  have sz_11 : w10.heap.size + 0 ≤ w11.heap.size := (by have := hb.size; omega)
  have p00_11 := cell_below (p := ⟨w.heap.size, 0, none⟩) (v := .int .i64 p0) p00_10 hb
  have p01_11 := cell_below (p := ⟨w.heap.size, 1, none⟩) (v := .int .i64 q0) p01_10 hb
  have p02_11 := cell_below (p := ⟨w.heap.size, 2, none⟩) (v := .slice a0 n0 c0) p02_10 hb
  have SW_11 : Hid (Snap (0) w4 w11) := Lib.hid (SW_10.out.keep hb)
  have S0x_11 : Hid (Snap (w4.heap.size) w5 w11) := Lib.hid (S0x_10.out.keep hb)
  have x00_11 := cell_below (p := ⟨w5.heap.size, 0, none⟩) (v := .int .i64 p0) x00_10 hb
  have x01_11 := cell_below (p := ⟨w5.heap.size, 1, none⟩) (v := .int .i64 q0) x01_10 hb
  have x02_11 := cell_below (p := ⟨w5.heap.size, 2, none⟩) (v := .slice a0x n0 c0x) x02_10 hb
  have S1x_11 : Hid (Snap (w5.heap.size + 1) w6 w11) := Lib.hid (S1x_10.out.keep hb)
  have Sg_11 : Hid (Snap (w6.heap.size) w7 w11) := Lib.hid (Sg_10.out.keep hb)
  have HB_11 : Hid (Below w.heap.size w w11) := Lib.hid (HB_10.out.trans (hb.mono HB_10.out.size))
  have R1y_11 : Hid (RdI w11 a1y xs1) := Lib.hid ho.rd
  clear ho
  clear hb p00_10 p01_10 p02_10 SW_10 S0x_10 x00_10 x01_10 x02_10 S1x_10 Sg_10 HB_10
  go_wp2_with fail
  refine (eqInt64S_b _ _ _ _ _ _ xs1 _ (by exact ((S1x_11.out.ownI O1x.out).rd)) (by exact R1y_11.out) HL1.out HL1.out (by omega)).mono ?_
  rintro e w12 ⟨rfl, hb⟩
  have sz_12 : w11.heap.size + 0 ≤ w12.heap.size := (by have := hb.size; omega)
  have p00_12 := cell_below (p := ⟨w.heap.size, 0, none⟩) (v := .int .i64 p0) p00_11 hb
  have p01_12 := cell_below (p := ⟨w.heap.size, 1, none⟩) (v := .int .i64 q0) p01_11 hb
  have p02_12 := cell_below (p := ⟨w.heap.size, 2, none⟩) (v := .slice a0 n0 c0) p02_11 hb
  have SW_12 : Hid (Snap (0) w4 w12) := Lib.hid (SW_11.out.keep hb)
  have S0x_12 : Hid (Snap (w4.heap.size) w5 w12) := Lib.hid (S0x_11.out.keep hb)
  have x00_12 := cell_below (p := ⟨w5.heap.size, 0, none⟩) (v := .int .i64 p0) x00_11 hb
  have x01_12 := cell_below (p := ⟨w5.heap.size, 1, none⟩) (v := .int .i64 q0) x01_11 hb
  have x02_12 := cell_below (p := ⟨w5.heap.size, 2, none⟩) (v := .slice a0x n0 c0x) x02_11 hb
  have S1x_12 : Hid (Snap (w5.heap.size + 1) w6 w12) := Lib.hid (S1x_11.out.keep hb)
  have Sg_12 : Hid (Snap (w6.heap.size) w7 w12) := Lib.hid (Sg_11.out.keep hb)
  have R1y_12 : Hid (RdI w12 a1y xs1) := Lib.hid (R1y_11.out.keep hb (Nat.le_refl _))
  have HB_12 : Hid (Below w.heap.size w w12) := Lib.hid (HB_11.out.trans (hb.mono HB_11.out.size))
  clear hb p00_11 p01_11 p02_11 SW_11 S0x_11 x00_11 x01_11 x02_11 S1x_11 Sg_11 R1y_11 HB_11
  have of0 := offs_small hn0 HX0.out
  go_wp2_with fail
  refine (markMatrix_t _ _ _ _ _ _ _ xs0 A0x C0x _ _ (by exact (S0x_12.out.hasR O0x.out)) (by omega) HX0.out (by omega) (by omega)).mono ?_
  rintro e w13 ⟨rfl, hr, hc⟩
  have hg := O0x.out.rg hc
  have sz_13 : w12.heap.size + 0 ≤ w13.heap.size := by have := hg.size; omega
  have p00_13 := cell_chg (p := ⟨w.heap.size, 0, none⟩) (v := .int .i64 p0) p00_12 hg (show w.heap.size < w4.heap.size ∨ w5.heap.size ≤ w.heap.size by omega)
  have p01_13 := cell_chg (p := ⟨w.heap.size, 1, none⟩) (v := .int .i64 q0) p01_12 hg (show w.heap.size < w4.heap.size ∨ w5.heap.size ≤ w.heap.size by omega)
  have p02_13 := cell_chg (p := ⟨w.heap.size, 2, none⟩) (v := .slice a0 n0 c0) p02_12 hg (show w.heap.size < w4.heap.size ∨ w5.heap.size ≤ w.heap.size by omega)
  have SW_13 : Hid (Snap (0) w4 w13) := Lib.hid (SW_12.out.chg hg (show w4.heap.size ≤ w4.heap.size ∨ w5.heap.size ≤ 0 by omega))
  have x00_13 := cell_chg (p := ⟨w5.heap.size, 0, none⟩) (v := .int .i64 p0) x00_12 hg (show w5.heap.size < w4.heap.size ∨ w5.heap.size ≤ w5.heap.size by omega)
  have x01_13 := cell_chg (p := ⟨w5.heap.size, 1, none⟩) (v := .int .i64 q0) x01_12 hg (show w5.heap.size < w4.heap.size ∨ w5.heap.size ≤ w5.heap.size by omega)
  have x02_13 := cell_chg (p := ⟨w5.heap.size, 2, none⟩) (v := .slice a0x n0 c0x) x02_12 hg (show w5.heap.size < w4.heap.size ∨ w5.heap.size ≤ w5.heap.size by omega)
  have S1x_13 : Hid (Snap (w5.heap.size + 1) w6 w13) := Lib.hid (S1x_12.out.chg hg (show w6.heap.size ≤ w4.heap.size ∨ w5.heap.size ≤ w5.heap.size + 1 by omega))
  have Sg_13 : Hid (Snap (w6.heap.size) w7 w13) := Lib.hid (Sg_12.out.chg hg (show w7.heap.size ≤ w4.heap.size ∨ w5.heap.size ≤ w6.heap.size by omega))
  have HB_13 : Hid (Below w.heap.size w w13) := Lib.hid (below_chg HB_12.out hg (Nat.le_refl _) (show w.heap.size ≤ w4.heap.size by omega))
  clear hr hc hg p00_12 p01_12 p02_12 SW_12 x00_12 x01_12 x02_12 S1x_12 Sg_12 HB_12
  go_wp2_with fail
  refine (markInt64S_t 2 _ _ _ _ _ (by exact (S1x_13.out.ownI O1x.out).wr) (by omega) (by omega) (by omega)).mono ?_
  rintro e w14 ⟨rfl, hr, hc⟩
  have hg := O1x.out.rg hc
  have sz_14 : w13.heap.size + 0 ≤ w14.heap.size := by have := hg.size; omega
  have p00_14 := cell_chg (p := ⟨w.heap.size, 0, none⟩) (v := .int .i64 p0) p00_13 hg (show w.heap.size < w5.heap.size + 1 ∨ w6.heap.size ≤ w.heap.size by omega)
  have p01_14 := cell_chg (p := ⟨w.heap.size, 1, none⟩) (v := .int .i64 q0) p01_13 hg (show w.heap.size < w5.heap.size + 1 ∨ w6.heap.size ≤ w.heap.size by omega)
  have p02_14 := cell_chg (p := ⟨w.heap.size, 2, none⟩) (v := .slice a0 n0 c0) p02_13 hg (show w.heap.size < w5.heap.size + 1 ∨ w6.heap.size ≤ w.heap.size by omega)
  have SW_14 : Hid (Snap (0) w4 w14) := Lib.hid (SW_13.out.chg hg (show w4.heap.size ≤ w5.heap.size + 1 ∨ w6.heap.size ≤ 0 by omega))
  have x00_14 := cell_chg (p := ⟨w5.heap.size, 0, none⟩) (v := .int .i64 p0) x00_13 hg (show w5.heap.size < w5.heap.size + 1 ∨ w6.heap.size ≤ w5.heap.size by omega)
  have x01_14 := cell_chg (p := ⟨w5.heap.size, 1, none⟩) (v := .int .i64 q0) x01_13 hg (show w5.heap.size < w5.heap.size + 1 ∨ w6.heap.size ≤ w5.heap.size by omega)
  have x02_14 := cell_chg (p := ⟨w5.heap.size, 2, none⟩) (v := .slice a0x n0 c0x) x02_13 hg (show w5.heap.size < w5.heap.size + 1 ∨ w6.heap.size ≤ w5.heap.size by omega)
  have Sg_14 : Hid (Snap (w6.heap.size) w7 w14) := Lib.hid (Sg_13.out.chg hg (show w7.heap.size ≤ w5.heap.size + 1 ∨ w6.heap.size ≤ w6.heap.size by omega))
  have HB_14 : Hid (Below w.heap.size w w14) := Lib.hid (below_chg HB_13.out hg (Nat.le_refl _) (show w.heap.size ≤ w5.heap.size + 1 by omega))
  clear hr hc hg p00_13 p01_13 p02_13 SW_13 x00_13 x01_13 x02_13 Sg_13 HB_13
  go_wp2_with fail
  refine (eqInt64S_b _ _ _ _ _ _ R1 _ (by exact ((Sg_14.out.ownI Og.out).rd)) (by exact ((SW_14.out.rdI RW.out))) rfl rfl (by omega)).mono ?_
  rintro e w15 ⟨rfl, hb⟩
  have sz_15 : w14.heap.size + 0 ≤ w15.heap.size := (by have := hb.size; omega)
  have p00_15 := cell_below (p := ⟨w.heap.size, 0, none⟩) (v := .int .i64 p0) p00_14 hb
  have p01_15 := cell_below (p := ⟨w.heap.size, 1, none⟩) (v := .int .i64 q0) p01_14 hb
  have p02_15 := cell_below (p := ⟨w.heap.size, 2, none⟩) (v := .slice a0 n0 c0) p02_14 hb
  have SW_15 : Hid (Snap (0) w4 w15) := Lib.hid (SW_14.out.keep hb)
  have x00_15 := cell_below (p := ⟨w5.heap.size, 0, none⟩) (v := .int .i64 p0) x00_14 hb
  have x01_15 := cell_below (p := ⟨w5.heap.size, 1, none⟩) (v := .int .i64 q0) x01_14 hb
  have x02_15 := cell_below (p := ⟨w5.heap.size, 2, none⟩) (v := .slice a0x n0 c0x) x02_14 hb
  have Sg_15 : Hid (Snap (w6.heap.size) w7 w15) := Lib.hid (Sg_14.out.keep hb)
  have HB_15 : Hid (Below w.heap.size w w15) := Lib.hid (HB_14.out.trans (hb.mono HB_14.out.size))
  clear hb p00_14 p01_14 p02_14 SW_14 x00_14 x01_14 x02_14 Sg_14 HB_14
  go_wp2_with fail
  refine (markInt64S_t 2 _ _ _ _ _ (by exact (Sg_15.out.ownI Og.out).wr) (by omega) (by omega) (by omega)).mono ?_
  rintro e w16 ⟨rfl, hr, hc⟩
  have hg := Og.out.rg hc
  have sz_16 : w15.heap.size + 0 ≤ w16.heap.size := by have := hg.size; omega
  have p00_16 := cell_chg (p := ⟨w.heap.size, 0, none⟩) (v := .int .i64 p0) p00_15 hg (show w.heap.size < w6.heap.size ∨ w7.heap.size ≤ w.heap.size by omega)
  have p01_16 := cell_chg (p := ⟨w.heap.size, 1, none⟩) (v := .int .i64 q0) p01_15 hg (show w.heap.size < w6.heap.size ∨ w7.heap.size ≤ w.heap.size by omega)
  have p02_16 := cell_chg (p := ⟨w.heap.size, 2, none⟩) (v := .slice a0 n0 c0) p02_15 hg (show w.heap.size < w6.heap.size ∨ w7.heap.size ≤ w.heap.size by omega)
  have SW_16 : Hid (Snap (0) w4 w16) := Lib.hid (SW_15.out.chg hg (show w4.heap.size ≤ w6.heap.size ∨ w7.heap.size ≤ 0 by omega))
  have x00_16 := cell_chg (p := ⟨w5.heap.size, 0, none⟩) (v := .int .i64 p0) x00_15 hg (show w5.heap.size < w6.heap.size ∨ w7.heap.size ≤ w5.heap.size by omega)
  have x01_16 := cell_chg (p := ⟨w5.heap.size, 1, none⟩) (v := .int .i64 q0) x01_15 hg (show w5.heap.size < w6.heap.size ∨ w7.heap.size ≤ w5.heap.size by omega)
  have x02_16 := cell_chg (p := ⟨w5.heap.size, 2, none⟩) (v := .slice a0x n0 c0x) x02_15 hg (show w5.heap.size < w6.heap.size ∨ w7.heap.size ≤ w5.heap.size by omega)
  have HB_16 : Hid (Below w.heap.size w w16) := Lib.hid (below_chg HB_15.out hg (Nat.le_refl _) (show w.heap.size ≤ w6.heap.size by omega))
  have Rg_16 : Hid (RdI w16 ag (marks 1 R1.length)) := Lib.hid hr
  clear hr hc hg p00_15 p01_15 p02_15 SW_15 x00_15 x01_15 x02_15 HB_15
  go_wp2_with fail
  refine (heldInt64S_b _ _ _ _ _ (by exact Rg_16.out) (by omega) (by omega) (by omega)).mono ?_
  rintro e w17 ⟨rfl, hb⟩
  have sz_17 : w16.heap.size + 0 ≤ w17.heap.size := (by have := hb.size; omega)
  have p00_17 := cell_below (p := ⟨w.heap.size, 0, none⟩) (v := .int .i64 p0) p00_16 hb
  have p01_17 := cell_below (p := ⟨w.heap.size, 1, none⟩) (v := .int .i64 q0) p01_16 hb
  have p02_17 := cell_below (p := ⟨w.heap.size, 2, none⟩) (v := .slice a0 n0 c0) p02_16 hb
  have SW_17 : Hid (Snap (0) w4 w17) := Lib.hid (SW_16.out.keep hb)
  have x00_17 := cell_below (p := ⟨w5.heap.size, 0, none⟩) (v := .int .i64 p0) x00_16 hb
  have x01_17 := cell_below (p := ⟨w5.heap.size, 1, none⟩) (v := .int .i64 q0) x01_16 hb
  have x02_17 := cell_below (p := ⟨w5.heap.size, 2, none⟩) (v := .slice a0x n0 c0x) x02_16 hb
  have Rg_17 : Hid (RdI w17 ag (marks 1 R1.length)) := Lib.hid (Rg_16.out.keep hb (Nat.le_refl _))
  have HB_17 : Hid (Below w.heap.size w w17) := Lib.hid (HB_16.out.trans (hb.mono HB_16.out.size))
  clear hb p00_16 p01_16 p02_16 SW_16 x00_16 x01_16 x02_16 Rg_16 HB_16
  go_wp2_with fail
  refine (toMatrix_any p0 q0 a0 n0 c0 xs0 _ (by exact ((HA0.out.keep HB_17.out (Nat.le_refl _)))) HL0.out HX0.out hn0).mono ?_
  rintro e w18 ⟨a0h, c0h, rfl, ho, hb⟩
  have sz_18 : w17.heap.size + 0 ≤ w18.heap.size := (by have := hb.size; omega)
  have p00_18 := cell_below (p := ⟨w.heap.size, 0, none⟩) (v := .int .i64 p0) p00_17 hb
  have p01_18 := cell_below (p := ⟨w.heap.size, 1, none⟩) (v := .int .i64 q0) p01_17 hb
  have p02_18 := cell_below (p := ⟨w.heap.size, 2, none⟩) (v := .slice a0 n0 c0) p02_17 hb
  have SW_18 : Hid (Snap (0) w4 w18) := Lib.hid (SW_17.out.keep hb)
  have x00_18 := cell_below (p := ⟨w5.heap.size, 0, none⟩) (v := .int .i64 p0) x00_17 hb
  have x01_18 := cell_below (p := ⟨w5.heap.size, 1, none⟩) (v := .int .i64 q0) x01_17 hb
  have x02_18 := cell_below (p := ⟨w5.heap.size, 2, none⟩) (v := .slice a0x n0 c0x) x02_17 hb
  have Rg_18 : Hid (RdI w18 ag (marks 1 R1.length)) := Lib.hid (Rg_17.out.keep hb (Nat.le_refl _))
  have HB_18 : Hid (Below w.heap.size w w18) := Lib.hid (HB_17.out.trans (hb.mono HB_17.out.size))
  have hcp0h := ho.capl
  have R0h_18 : Hid (RdR w18 a0h xs0) := Lib.hid ho.rd
  clear ho
  clear hb p00_17 p01_17 p02_17 SW_17 x00_17 x01_17 x02_17 Rg_17 HB_17
  go_wp2_with fail
  refine (toInt64S_any a1 n1 c1 xs1 _ (by exact ((HA1.out.keep HB_18.out (Nat.le_refl _)))) HL1.out hn1).mono ?_
  rintro e w19 ⟨a1h, c1h, rfl, ho, hb⟩
  have sz_19 : w18.heap.size + 0 ≤ w19.heap.size := (by have := hb.size; omega)
  have p00_19 := cell_below (p := ⟨w.heap.size, 0, none⟩) (v := .int .i64 p0) p00_18 hb
  have p01_19 := cell_below (p := ⟨w.heap.size, 1, none⟩) (v := .int .i64 q0) p01_18 hb
  have p02_19 := cell_below (p := ⟨w.heap.size, 2, none⟩) (v := .slice a0 n0 c0) p02_18 hb
  have SW_19 : Hid (Snap (0) w4 w19) := Lib.hid (SW_18.out.keep hb)
  have x00_19 := cell_below (p := ⟨w5.heap.size, 0, none⟩) (v := .int .i64 p0) x00_18 hb
  have x01_19 := cell_below (p := ⟨w5.heap.size, 1, none⟩) (v := .int .i64 q0) x01_18 hb
  have x02_19 := cell_below (p := ⟨w5.heap.size, 2, none⟩) (v := .slice a0x n0 c0x) x02_18 hb
  have Rg_19 : Hid (RdI w19 ag (marks 1 R1.length)) := Lib.hid (Rg_18.out.keep hb (Nat.le_refl _))
  have R0h_19 : Hid (RdR w19 a0h xs0) := Lib.hid (R0h_18.out.keep hb (Nat.le_refl _))
  have HB_19 : Hid (Below w.heap.size w w19) := Lib.hid (HB_18.out.trans (hb.mono HB_18.out.size))
  have R1h_19 : Hid (RdI w19 a1h xs1) := Lib.hid ho.rd
  clear ho
  clear hb p00_18 p01_18 p02_18 SW_18 x00_18 x01_18 x02_18 Rg_18 R0h_18 HB_18
  go_wp2_with fail
  refine (impl_SolveRows_any p0 q0 a0h n0 c0h xs0 a1h n1 c1h xs1 _ HP0.out HQ0.out (by exact R0h_19.out) HL0.out HX0.out hn0 (by omega) (by exact R1h_19.out) HL1.out hn1 HW1.out).mono ?_
  rintro e w20 ⟨R3, d3, ah, ch, rfl, hres, ho, hb⟩
  have sz_20 : w19.heap.size + 0 ≤ w20.heap.size := (by have := hb.size; omega)
  have p00_20 := cell_below (p := ⟨w.heap.size, 0, none⟩) (v := .int .i64 p0) p00_19 hb
  have p01_20 := cell_below (p := ⟨w.heap.size, 1, none⟩) (v := .int .i64 q0) p01_19 hb
  have p02_20 := cell_below (p := ⟨w.heap.size, 2, none⟩) (v := .slice a0 n0 c0) p02_19 hb
  have SW_20 : Hid (Snap (0) w4 w20) := Lib.hid (SW_19.out.keep hb)
  have x00_20 := cell_below (p := ⟨w5.heap.size, 0, none⟩) (v := .int .i64 p0) x00_19 hb
  have x01_20 := cell_below (p := ⟨w5.heap.size, 1, none⟩) (v := .int .i64 q0) x01_19 hb
  have x02_20 := cell_below (p := ⟨w5.heap.size, 2, none⟩) (v := .slice a0x n0 c0x) x02_19 hb
  have Rg_20 : Hid (RdI w20 ag (marks 1 R1.length)) := Lib.hid (Rg_19.out.keep hb (Nat.le_refl _))
  have R0h_20 : Hid (RdR w20 a0h xs0) := Lib.hid (R0h_19.out.keep hb (Nat.le_refl _))
  have R1h_20 : Hid (RdI w20 a1h xs1) := Lib.hid (R1h_19.out.keep hb (Nat.le_refl _))
  have HB_20 : Hid (Below w.heap.size w w20) := Lib.hid (HB_19.out.trans (hb.mono HB_19.out.size))
  obtain ⟨rfl, rfl⟩ := res_SolveRows_uniq HRes.out hres
  have Rh_20 : Hid (RdI w20 ah R1) := Lib.hid ho.rd
  clear ho hres
  clear hb p00_19 p01_19 p02_19 SW_19 x00_19 x01_19 x02_19 Rg_19 R0h_19 R1h_19 HB_19
  go_wp2_with fail
  refine (eqInt64S_b _ _ _ _ _ _ R1 _ (by exact (Rh_20.out)) (by exact ((SW_20.out.rdI RW.out))) rfl rfl (by omega)).mono ?_
  rintro e w21 ⟨rfl, hb⟩
  have sz_21 : w20.heap.size + 0 ≤ w21.heap.size := (by have := hb.size; omega)
  have p00_21 := cell_below (p := ⟨w.heap.size, 0, none⟩) (v := .int .i64 p0) p00_20 hb
  have p01_21 := cell_below (p := ⟨w.heap.size, 1, none⟩) (v := .int .i64 q0) p01_20 hb
  have p02_21 := cell_below (p := ⟨w.heap.size, 2, none⟩) (v := .slice a0 n0 c0) p02_20 hb
  have SW_21 : Hid (Snap (0) w4 w21) := Lib.hid (SW_20.out.keep hb)
  have x00_21 := cell_below (p := ⟨w5.heap.size, 0, none⟩) (v := .int .i64 p0) x00_20 hb
  have x01_21 := cell_below (p := ⟨w5.heap.size, 1, none⟩) (v := .int .i64 q0) x01_20 hb
  have x02_21 := cell_below (p := ⟨w5.heap.size, 2, none⟩) (v := .slice a0x n0 c0x) x02_20 hb
  have Rg_21 : Hid (RdI w21 ag (marks 1 R1.length)) := Lib.hid (Rg_20.out.keep hb (Nat.le_refl _))
  have Rh_21 : Hid (RdI w21 ah R1) := Lib.hid (Rh_20.out.keep hb (Nat.le_refl _))
  have HB_21 : Hid (Below w.heap.size w w21) := Lib.hid (HB_20.out.trans (hb.mono HB_20.out.size))
  clear hb p00_20 p01_20 p02_20 SW_20 x00_20 x01_20 x02_20 Rg_20 Rh_20 HB_20
  go_wp2_with fail
  refine (heldInt64S_b _ _ _ _ _ (by exact Rg_21.out) (by omega) (by omega) (by omega)).mono ?_
  rintro e w22 ⟨rfl, hb⟩
  have sz_22 : w21.heap.size + 0 ≤ w22.heap.size := (by have := hb.size; omega)
  have p00_22 := cell_below (p := ⟨w.heap.size, 0, none⟩) (v := .int .i64 p0) p00_21 hb
  have p01_22 := cell_below (p := ⟨w.heap.size, 1, none⟩) (v := .int .i64 q0) p01_21 hb
  have p02_22 := cell_below (p := ⟨w.heap.size, 2, none⟩) (v := .slice a0 n0 c0) p02_21 hb
  have SW_22 : Hid (Snap (0) w4 w22) := Lib.hid (SW_21.out.keep hb)
  have x00_22 := cell_below (p := ⟨w5.heap.size, 0, none⟩) (v := .int .i64 p0) x00_21 hb
  have x01_22 := cell_below (p := ⟨w5.heap.size, 1, none⟩) (v := .int .i64 q0) x01_21 hb
  have x02_22 := cell_below (p := ⟨w5.heap.size, 2, none⟩) (v := .slice a0x n0 c0x) x02_21 hb
  have Rg_22 : Hid (RdI w22 ag (marks 1 R1.length)) := Lib.hid (Rg_21.out.keep hb (Nat.le_refl _))
  have Rh_22 : Hid (RdI w22 ah R1) := Lib.hid (Rh_21.out.keep hb (Nat.le_refl _))
  have HB_22 : Hid (Below w.heap.size w w22) := Lib.hid (HB_21.out.trans (hb.mono HB_21.out.size))
  clear hb p00_21 p01_21 p02_21 SW_21 x00_21 x01_21 x02_21 Rg_21 Rh_21 HB_21
  go_wp2_with fail
  go_ret
  exact ⟨rfl, HB_22.out⟩
--ENDLAW
end Go.Proofs.Ytngikcjdhbflkaa
