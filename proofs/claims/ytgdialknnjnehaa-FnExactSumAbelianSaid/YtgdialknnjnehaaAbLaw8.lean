/- The law on the sum of two abelian groups. -/
import Derived.Test.YtgdialknnjnehaaFpA
import Derived.Test.YtgdialknnjnehaaKitA
import Derived.Test.YtgdialknnjnehaaHeld
import Derived.Test.YtgdialknnjnehaaKitV
import Derived.Test.YtgdialknnjnehaaCellN
import Derived.Deep.RegionHeld3
set_option linter.unusedVariables false
set_option linter.unusedSimpArgs false
namespace Go.Proofs.Ytgdialknnjnehaa
open Go.RowKit

--LAW SumAbelian
set_option maxRecDepth 20000 in
set_option maxHeartbeats 8000000 in
theorem law_SumAbelian (a0 : Option Addr) (n0 c0 : Nat) (xs0 : List Int) (r0 : Int) (a1 : Option Addr) (n1 c1 : Nat) (xs1 : List Int) (r1 : Int) (w : World) (hl0 : xs0.length = n0) (ha0 : RdI w a0 xs0) (hw0 : ∀ x ∈ xs0, (Lit.int .i64 x).wf = true) (hm0 : n0 ≤ maxLen) (hr0 : I64 r0) (hl1 : xs1.length = n1) (ha1 : RdI w a1 xs1) (hw1 : ∀ x ∈ xs1, (Lit.int .i64 x).wf = true) (hm1 : n1 ≤ maxLen) (hr1 : I64 r1) :
    Calls Try.prog 11 #[.agg #[.slice a0 n0 c0, .int .i64 r0], .agg #[.slice a1 n1 c1, .int .i64 r1]] w fun e w' => e = .returned (.bool true) ∧ Below w.heap.size w w' := by
  have HA0 := Lib.hid ha0
  have HL0 := Lib.hid hl0
  unfold maxLen at hm0
  have HR0 := Lib.hid hr0
  clear hr0
  clear ha0 hl0 hw0
  have HA1 := Lib.hid ha1
  have HL1 := Lib.hid hl1
  unfold maxLen at hm1
  have HR1 := Lib.hid hr1
  clear hr1
  clear ha1 hl1 hw1
  go_enter Try.func11, Try.ntmps11
  go_wp2_with fail
  refine (szAbelian_any _ n0 _ _ 1048576 _ (by omega) (by omega) (by omega)).mono ?_
  rintro e w1 ⟨z0, rfl, hz, hb⟩
  have sz_1 : w.heap.size + 2 ≤ w1.heap.size := (by have := hb.size; simp at this; omega)
  have p00_1 := cell_below (p := ⟨w.heap.size, 0, none⟩) (v := .slice a0 n0 c0) (by simp) hb
  have p01_1 := cell_below (p := ⟨w.heap.size, 1, none⟩) (v := .int .i64 r0) (by simp) hb
  have p10_1 := cell_below (p := ⟨w.heap.size + 1, 0, none⟩) (v := .slice a1 n1 c1) (by simp) hb
  have p11_1 := cell_below (p := ⟨w.heap.size + 1, 1, none⟩) (v := .int .i64 r1) (by simp) hb
  replace hb := below_al2 hb
  have HB_1 : Hid (Below w.heap.size w w1) := Lib.hid hb
  clear hb
  rcases hz with rfl | ⟨hz0, hy0, hn0'⟩
  · go_wp2_with fail
    go_ret
    exact ⟨rfl, HB_1.out⟩
  have hn0 : n0 ≤ 1048576 := by omega
  clear hn0'
  go_wp2_with fail
  refine (szAbelian_any _ n1 _ _ z0 _ (by omega) (by omega) (by omega)).mono ?_
  rintro e w2 ⟨z1, rfl, hz, hb⟩
  have sz_2 : w1.heap.size + 0 ≤ w2.heap.size := (by have := hb.size; omega)
  have p00_2 := cell_below (p := ⟨w.heap.size, 0, none⟩) (v := .slice a0 n0 c0) p00_1 hb
  have p01_2 := cell_below (p := ⟨w.heap.size, 1, none⟩) (v := .int .i64 r0) p01_1 hb
  have p10_2 := cell_below (p := ⟨w.heap.size + 1, 0, none⟩) (v := .slice a1 n1 c1) p10_1 hb
  have p11_2 := cell_below (p := ⟨w.heap.size + 1, 1, none⟩) (v := .int .i64 r1) p11_1 hb
  have HB_2 : Hid (Below w.heap.size w w2) := Lib.hid (HB_1.out.trans (hb.mono HB_1.out.size))
  clear hb p00_1 p01_1 p10_1 p11_1 HB_1
  rcases hz with rfl | ⟨hz1, hy1, hn1'⟩
  · go_wp2_with fail
    go_ret
    exact ⟨rfl, HB_2.out⟩
  have hn1 : n1 ≤ 1048576 := by omega
  clear hn1'
  go_wp2_with fail
  go_region_held3 (fun w' => w'.cell? ⟨w.heap.size, 0, none⟩ = some (.slice a0 n0 c0) ∧ w'.cell? ⟨w.heap.size, 1, none⟩ = some (.int .i64 r0) ∧ w'.cell? ⟨w.heap.size + 1, 0, none⟩ = some (.slice a1 n1 c1) ∧ w'.cell? ⟨w.heap.size + 1, 1, none⟩ = some (.int .i64 r1)) (first | ((try dsimp only); (refine ⟨?_, ?_, ?_, ?_⟩) <;> first | with_reducible assumption | (rw [cell_ne (by first | (simp; done) | (simp; omega) | omega), cell_ne (by first | (simp; done) | (simp; omega) | omega)]; with_reducible assumption) | (rw [cell_al (by first | (simp; done) | (simp; omega) | omega)]; with_reducible assumption)) | go_keep)
    (first
      | (go_at_call 16; (with_reducible refine (toAbelian_any a0 n0 c0 xs0 r0 _ ?_ HL0.out hn0).mono ?_); (first | exact (show RdI w2 a0 xs0 from HA0.out.keep (HB_2.out) (Nat.le_refl _)) | exact (show RdI (w2.alloc _) a0 xs0 from (HA0.out.keep (HB_2.out) (Nat.le_refl _)).alloc _)); rintro e s0 ⟨a0s, c0s, rfl, ho, hb0⟩; (first | (have hbi : Below w2.heap.size w2 s0 := ⟨hb0.os, hb0.tape, hb0.output, hb0.size, hb0.block⟩) | (have hbz : Below (w2.alloc (.cells #[.slice none 0 0, .int .i64 0] 27)).heap.size (w2.alloc (.cells #[.slice none 0 0, .int .i64 0] 27)) s0 := ⟨hb0.os, hb0.tape, hb0.output, hb0.size, hb0.block⟩; have hbi : Below w2.heap.size w2 s0 := below_al1 hbz; have HZs0 : Hid (BX 27 s0 w2.heap.size #[.slice none 0 0, .int .i64 0]) := Lib.hid ((BX.new w2 _ _).keep hbz))); (first | (have lzs0 := HZs0.out.lt) | skip); have hbs0 : Below w2.heap.size w2 s0 := hbi; have szs0 := hbs0.size; have sis0 := hbi.size; have p00_s0 := cell_below (p := ⟨w.heap.size, 0, none⟩) (v := .slice a0 n0 c0) p00_2 hbs0; have p01_s0 := cell_below (p := ⟨w.heap.size, 1, none⟩) (v := .int .i64 r0) p01_2 hbs0; have p10_s0 := cell_below (p := ⟨w.heap.size + 1, 0, none⟩) (v := .slice a1 n1 c1) p10_2 hbs0; have p11_s0 := cell_below (p := ⟨w.heap.size + 1, 1, none⟩) (v := .int .i64 r1) p11_2 hbs0; have R0s : Hid (RdI s0 a0s xs0) := Lib.hid ho.rd; clear ho; (first | clear hb0 hbz hbi | clear hb0 hbi))
      | (go_at_call 16; (with_reducible refine (toAbelian_any a1 n1 c1 xs1 r1 _ ?_ HL1.out hn1).mono ?_); (first | exact (show RdI s0 a1 xs1 from HA1.out.keep (HB_2.out.trans (hbs0.mono HB_2.out.size)) (Nat.le_refl _)) | exact (show RdI (s0.alloc _) a1 xs1 from (HA1.out.keep (HB_2.out.trans (hbs0.mono HB_2.out.size)) (Nat.le_refl _)).alloc _)); rintro e s1 ⟨a1s, c1s, rfl, ho, hb0⟩; (first | (have hbi : Below s0.heap.size s0 s1 := ⟨hb0.os, hb0.tape, hb0.output, hb0.size, hb0.block⟩) | (have hbz : Below (s0.alloc (.cells #[.slice none 0 0, .int .i64 0] 27)).heap.size (s0.alloc (.cells #[.slice none 0 0, .int .i64 0] 27)) s1 := ⟨hb0.os, hb0.tape, hb0.output, hb0.size, hb0.block⟩; have hbi : Below s0.heap.size s0 s1 := below_al1 hbz; have HZs1 : Hid (BX 27 s1 s0.heap.size #[.slice none 0 0, .int .i64 0]) := Lib.hid ((BX.new s0 _ _).keep hbz))); (first | (have HZs1 := Lib.hid (HZs0.out.keep hbi)) | skip); (first | (have lzs1 := HZs1.out.lt) | skip); have hbs1 : Below w2.heap.size w2 s1 := hbs0.trans (hbi.mono hbs0.size); have szs1 := hbs1.size; have sis1 := hbi.size; have p00_s1 := cell_below (p := ⟨w.heap.size, 0, none⟩) (v := .slice a0 n0 c0) p00_2 hbs1; have p01_s1 := cell_below (p := ⟨w.heap.size, 1, none⟩) (v := .int .i64 r0) p01_2 hbs1; have p10_s1 := cell_below (p := ⟨w.heap.size + 1, 0, none⟩) (v := .slice a1 n1 c1) p10_2 hbs1; have p11_s1 := cell_below (p := ⟨w.heap.size + 1, 1, none⟩) (v := .int .i64 r1) p11_2 hbs1; have R1s : Hid (RdI s1 a1s xs1) := Lib.hid ho.rd; replace R0s : Hid (RdI s1 a0s xs0) := Lib.hid (R0s.out.keep hbi (Nat.le_refl _)); clear ho; (first | clear hb0 hbz hbi | clear hb0 hbi))
      | (go_at_call 39; (with_reducible refine (spec_SumAbelian_any a0s n0 c0s xs0 r0 a1s n1 c1s xs1 r1 _ ?_ HL0.out hn0 HR0.out ?_ HL1.out hn1 HR1.out).mono ?_); (first | exact R0s.out | exact R0s.out.alloc _); (first | exact R1s.out | exact R1s.out.alloc _); rintro e s2 ⟨R1, K1, d1, aw, cw, rfl, hres, ho, hb0⟩; (first | (have hbi : Below s1.heap.size s1 s2 := ⟨hb0.os, hb0.tape, hb0.output, hb0.size, hb0.block⟩) | (have hbz : Below (s1.alloc (.cells #[.slice none 0 0, .int .i64 0] 27)).heap.size (s1.alloc (.cells #[.slice none 0 0, .int .i64 0] 27)) s2 := ⟨hb0.os, hb0.tape, hb0.output, hb0.size, hb0.block⟩; have hbi : Below s1.heap.size s1 s2 := below_al1 hbz; have HZs2 : Hid (BX 27 s2 s1.heap.size #[.slice none 0 0, .int .i64 0]) := Lib.hid ((BX.new s1 _ _).keep hbz))); (first | (have HZs2 := Lib.hid (HZs1.out.keep hbi)) | skip); (first | (have lzs2 := HZs2.out.lt) | skip); have hbs2 : Below w2.heap.size w2 s2 := hbs1.trans (hbi.mono hbs1.size); have szs2 := hbs2.size; have sis2 := hbi.size; have p00_s2 := cell_below (p := ⟨w.heap.size, 0, none⟩) (v := .slice a0 n0 c0) p00_2 hbs2; have p01_s2 := cell_below (p := ⟨w.heap.size, 1, none⟩) (v := .int .i64 r0) p01_2 hbs2; have p10_s2 := cell_below (p := ⟨w.heap.size + 1, 0, none⟩) (v := .slice a1 n1 c1) p10_2 hbs2; have p11_s2 := cell_below (p := ⟨w.heap.size + 1, 1, none⟩) (v := .int .i64 r1) p11_2 hbs2; have HRes : Hid (res_SumAbelian xs0 r0 xs1 r1 R1 K1 d1) := Lib.hid hres; have RHs := Lib.hid ho; (first | (have zcs0 : s2.cell? ⟨_, 0, none⟩ = some (.slice none 0 0) := HZs2.out.cell 0) | skip); (first | (have zfs0 := HZs2.out.frz 0) | skip); (first | (have zcs1 : s2.cell? ⟨_, 1, none⟩ = some (.int .i64 0) := HZs2.out.cell 1) | skip); (first | (have zfs1 := HZs2.out.frz 1) | skip); clear ho hres; (first | clear hb0 hbz hbi | clear hb0 hbi)))
  all_goals
    first
      | (obtain ⟨w3, hWf⟩ : ∃ x, x = ((s2).setCell ⟨w2.heap.size, 0, none⟩ (.slice aw R1.length cw)).setCell ⟨w2.heap.size, 1, none⟩ (.int .i64 K1) := ⟨_, rfl⟩; rw [← hWf]; have hzf : BX 27 w3 w2.heap.size #[.slice aw R1.length cw, .int .i64 K1] := (by rw [hWf]; exact ((HZs2.out.set 0 _).set 1 _)); have RFs : Hid (RdI w3 aw R1) := Lib.hid (by rw [hWf]; exact ((RHs.out.setCell (by first | (simp; done) | (simp; omega) | omega) _).setCell (by first | (simp; done) | (simp; omega) | omega) _).rd); have hbf : Below w2.heap.size w2 w3 := (by rw [hWf]; exact ((hbs2.setCell (by first | (simp; done) | (simp; omega) | omega) _).setCell (by first | (simp; done) | (simp; omega) | omega) _)); obtain ⟨bs, hbe⟩ : ∃ x, x = w2.heap.size := ⟨_, rfl⟩; rw [← hbe] at hzf ⊢; clear hWf hbe)
      | (obtain ⟨w3, hWf⟩ : ∃ x, x = ((s2).setCell ⟨s0.heap.size, 0, none⟩ (.slice aw R1.length cw)).setCell ⟨s0.heap.size, 1, none⟩ (.int .i64 K1) := ⟨_, rfl⟩; rw [← hWf]; have hzf : BX 27 w3 s0.heap.size #[.slice aw R1.length cw, .int .i64 K1] := (by rw [hWf]; exact ((HZs2.out.set 0 _).set 1 _)); have RFs : Hid (RdI w3 aw R1) := Lib.hid (by rw [hWf]; exact ((RHs.out.setCell (by first | (simp; done) | (simp; omega) | omega) _).setCell (by first | (simp; done) | (simp; omega) | omega) _).rd); have hbf : Below w2.heap.size w2 w3 := (by rw [hWf]; exact ((hbs2.setCell (by first | (simp; done) | (simp; omega) | omega) _).setCell (by first | (simp; done) | (simp; omega) | omega) _)); obtain ⟨bs, hbe⟩ : ∃ x, x = s0.heap.size := ⟨_, rfl⟩; rw [← hbe] at hzf ⊢; clear hWf hbe)
      | (obtain ⟨w3, hWf⟩ : ∃ x, x = ((s2).setCell ⟨s1.heap.size, 0, none⟩ (.slice aw R1.length cw)).setCell ⟨s1.heap.size, 1, none⟩ (.int .i64 K1) := ⟨_, rfl⟩; rw [← hWf]; have hzf : BX 27 w3 s1.heap.size #[.slice aw R1.length cw, .int .i64 K1] := (by rw [hWf]; exact ((HZs2.out.set 0 _).set 1 _)); have RFs : Hid (RdI w3 aw R1) := Lib.hid (by rw [hWf]; exact ((RHs.out.setCell (by first | (simp; done) | (simp; omega) | omega) _).setCell (by first | (simp; done) | (simp; omega) | omega) _).rd); have hbf : Below w2.heap.size w2 w3 := (by rw [hWf]; exact ((hbs2.setCell (by first | (simp; done) | (simp; omega) | omega) _).setCell (by first | (simp; done) | (simp; omega) | omega) _)); obtain ⟨bs, hbe⟩ : ∃ x, x = s1.heap.size := ⟨_, rfl⟩; rw [← hbe] at hzf ⊢; clear hWf hbe)
      | (obtain ⟨w3, hWf⟩ : ∃ x, x = s2.alloc (.cells #[.slice aw R1.length cw, .int .i64 K1] 27) := ⟨_, rfl⟩; rw [← hWf]; have hzf : BX 27 w3 s2.heap.size #[.slice aw R1.length cw, .int .i64 K1] := (by rw [hWf]; exact BX.new s2 _ _); have RFs : Hid (RdI w3 aw R1) := Lib.hid (by rw [hWf]; exact (RHs.out.rd.alloc _)); have hbf : Below w2.heap.size w2 w3 := (by rw [hWf]; exact (hbs2.alloc (by omega) _)); obtain ⟨bs, hbe⟩ : ∃ x, x = s2.heap.size := ⟨_, rfl⟩; rw [← hbe] at hzf ⊢; clear hWf hbe)
    have lbs := hzf.lt
    have sz_3 : w2.heap.size + 0 ≤ w3.heap.size := (by have := hbf.size; omega)
    have p00_3 := cell_below (p := ⟨w.heap.size, 0, none⟩) (v := .slice a0 n0 c0) p00_2 hbf
    have p01_3 := cell_below (p := ⟨w.heap.size, 1, none⟩) (v := .int .i64 r0) p01_2 hbf
    have p10_3 := cell_below (p := ⟨w.heap.size + 1, 0, none⟩) (v := .slice a1 n1 c1) p10_2 hbf
    have p11_3 := cell_below (p := ⟨w.heap.size + 1, 1, none⟩) (v := .int .i64 r1) p11_2 hbf
    have HB_3 : Hid (Below w.heap.size w w3) := Lib.hid (HB_2.out.trans (hbf.mono HB_2.out.size))
    have w0_3 : w3.cell? ⟨bs, 0, none⟩ = some (.slice aw R1.length cw) := hzf.cell 0
    have w1_3 : w3.cell? ⟨bs, 1, none⟩ = some (.int .i64 K1) := hzf.cell 1
    have RW := RFs
    have SW_3 : Hid (Snap 0 w3 w3) := Lib.hid (Snap.start _ _)
    clear hzf hbf p00_2 p01_2 p10_2 p11_2 HB_2
    have hrs := res_SumAbelian_small HRes.out
    go_wp2_with fail
    refine (toAbelian_any a0 n0 c0 xs0 r0 _ (by exact ((HA0.out.keep HB_3.out (Nat.le_refl _)))) HL0.out hn0).mono ?_
    rintro e w4 ⟨a0x, c0x, rfl, ho, hb⟩
    have sz_4 : w3.heap.size + 0 ≤ w4.heap.size := (by have := hb.size; omega)
    have p00_4 := cell_below (p := ⟨w.heap.size, 0, none⟩) (v := .slice a0 n0 c0) p00_3 hb
    have p01_4 := cell_below (p := ⟨w.heap.size, 1, none⟩) (v := .int .i64 r0) p01_3 hb
    have p10_4 := cell_below (p := ⟨w.heap.size + 1, 0, none⟩) (v := .slice a1 n1 c1) p10_3 hb
    have p11_4 := cell_below (p := ⟨w.heap.size + 1, 1, none⟩) (v := .int .i64 r1) p11_3 hb
    have w0_4 := cell_below (p := ⟨bs, 0, none⟩) (v := .slice aw R1.length cw) w0_3 hb
    have w1_4 := cell_below (p := ⟨bs, 1, none⟩) (v := .int .i64 K1) w1_3 hb
    have SW_4 : Hid (Snap (0) w3 w4) := Lib.hid (SW_3.out.keep hb)
    have HB_4 : Hid (Below w.heap.size w w4) := Lib.hid (HB_3.out.trans (hb.mono HB_3.out.size))
    have ho1 := ho.mono (B' := w3.heap.size) (by first | exact Nat.le_refl _ | simp)
    have O0x : Hid (OwnI 2 w4 (w3.heap.size) a0x n0 c0x xs0) := Lib.hid ho1
    have S0x_4 : Hid (Snap (w3.heap.size) w4 w4) := Lib.hid (Snap.start _ _)
    clear ho ho1
    clear hb p00_3 p01_3 p10_3 p11_3 w0_3 w1_3 SW_3 HB_3
    have lt_p00_4 : w.heap.size < w4.heap.size := block_lt p00_4
    have lt_p10_4 : w.heap.size + 1 < w4.heap.size := block_lt p10_4
    have lt_w0_4 : bs < w4.heap.size := block_lt w0_4
    go_wp2_with fail
    refine (toAbelian_any a1 n1 c1 xs1 r1 _ (by exact ((HA1.out.keep HB_4.out (Nat.le_refl _)).alloc _)) HL1.out hn1).mono ?_
    rintro e w5 ⟨a1x, c1x, rfl, ho, hb⟩
    have sz_5 : w4.heap.size + 1 ≤ w5.heap.size := (by have := hb.size; simp at this; omega)
    have x00_5 := cell_below (p := ⟨w4.heap.size, 0, none⟩) (v := .slice a0x n0 c0x) (by simp) hb
    have x01_5 := cell_below (p := ⟨w4.heap.size, 1, none⟩) (v := .int .i64 r0) (by simp) hb
    replace hb := below_al1 hb
    have p00_5 := cell_below (p := ⟨w.heap.size, 0, none⟩) (v := .slice a0 n0 c0) p00_4 hb
    have p01_5 := cell_below (p := ⟨w.heap.size, 1, none⟩) (v := .int .i64 r0) p01_4 hb
    have p10_5 := cell_below (p := ⟨w.heap.size + 1, 0, none⟩) (v := .slice a1 n1 c1) p10_4 hb
    have p11_5 := cell_below (p := ⟨w.heap.size + 1, 1, none⟩) (v := .int .i64 r1) p11_4 hb
    have w0_5 := cell_below (p := ⟨bs, 0, none⟩) (v := .slice aw R1.length cw) w0_4 hb
    have w1_5 := cell_below (p := ⟨bs, 1, none⟩) (v := .int .i64 K1) w1_4 hb
    have SW_5 : Hid (Snap (0) w3 w5) := Lib.hid (SW_4.out.keep hb)
    have S0x_5 : Hid (Snap (w3.heap.size) w4 w5) := Lib.hid (S0x_4.out.keep hb)
    have HB_5 : Hid (Below w.heap.size w w5) := Lib.hid (HB_4.out.trans (hb.mono HB_4.out.size))
    have ho1 := ho.mono (B' := w4.heap.size + 1) (by first | exact Nat.le_refl _ | simp)
    have O1x : Hid (OwnI 2 w5 (w4.heap.size + 1) a1x n1 c1x xs1) := Lib.hid ho1
    have S1x_5 : Hid (Snap (w4.heap.size + 1) w5 w5) := Lib.hid (Snap.start _ _)
    clear ho ho1
    clear hb p00_4 p01_4 p10_4 p11_4 w0_4 w1_4 SW_4 S0x_4 HB_4
    have lt_p00_5 : w.heap.size < w5.heap.size := block_lt p00_5
    have lt_p10_5 : w.heap.size + 1 < w5.heap.size := block_lt p10_5
    have lt_w0_5 : bs < w5.heap.size := block_lt w0_5
    have lt_x00_5 : w4.heap.size < w5.heap.size := block_lt x00_5
    go_wp2_with fail
    refine (impl_SumAbelian_any a0x n0 c0x xs0 r0 a1x n1 c1x xs1 r1 _ (by exact ((S0x_5.out.ownI O0x.out).rd.alloc _)) HL0.out hn0 HR0.out (by exact ((S1x_5.out.ownI O1x.out).rd.alloc _)) HL1.out hn1 HR1.out).mono ?_
    rintro e w6 ⟨R2, K2, d2, ag, cg, rfl, hres, ho, hb⟩
    have sz_6 : w5.heap.size + 1 ≤ w6.heap.size := (by have := hb.size; simp at this; omega)
    have x10_6 := cell_below (p := ⟨w5.heap.size, 0, none⟩) (v := .slice a1x n1 c1x) (by simp) hb
    have x11_6 := cell_below (p := ⟨w5.heap.size, 1, none⟩) (v := .int .i64 r1) (by simp) hb
    replace hb := below_al1 hb
    have p00_6 := cell_below (p := ⟨w.heap.size, 0, none⟩) (v := .slice a0 n0 c0) p00_5 hb
    have p01_6 := cell_below (p := ⟨w.heap.size, 1, none⟩) (v := .int .i64 r0) p01_5 hb
    have p10_6 := cell_below (p := ⟨w.heap.size + 1, 0, none⟩) (v := .slice a1 n1 c1) p10_5 hb
    have p11_6 := cell_below (p := ⟨w.heap.size + 1, 1, none⟩) (v := .int .i64 r1) p11_5 hb
    have w0_6 := cell_below (p := ⟨bs, 0, none⟩) (v := .slice aw R1.length cw) w0_5 hb
    have w1_6 := cell_below (p := ⟨bs, 1, none⟩) (v := .int .i64 K1) w1_5 hb
    have SW_6 : Hid (Snap (0) w3 w6) := Lib.hid (SW_5.out.keep hb)
    have S0x_6 : Hid (Snap (w3.heap.size) w4 w6) := Lib.hid (S0x_5.out.keep hb)
    have x00_6 := cell_below (p := ⟨w4.heap.size, 0, none⟩) (v := .slice a0x n0 c0x) x00_5 hb
    have x01_6 := cell_below (p := ⟨w4.heap.size, 1, none⟩) (v := .int .i64 r0) x01_5 hb
    have S1x_6 : Hid (Snap (w4.heap.size + 1) w5 w6) := Lib.hid (S1x_5.out.keep hb)
    have HB_6 : Hid (Below w.heap.size w w6) := Lib.hid (HB_5.out.trans (hb.mono HB_5.out.size))
    obtain ⟨rfl, rfl, rfl⟩ := res_SumAbelian_uniq HRes.out hres
    have ho1 := ho.mono (B' := w5.heap.size + 1) (by first | exact Nat.le_refl _ | simp)
    have Og : Hid (OwnI 2 w6 (w5.heap.size + 1) ag R1.length cg R1) := Lib.hid ho1
    have Sg_6 : Hid (Snap (w5.heap.size + 1) w6 w6) := Lib.hid (Snap.start _ _)
    clear ho ho1 hres
    clear hb p00_5 p01_5 p10_5 p11_5 w0_5 w1_5 SW_5 S0x_5 x00_5 x01_5 S1x_5 HB_5
    have lt_p00_6 : w.heap.size < w6.heap.size := block_lt p00_6
    have lt_p10_6 : w.heap.size + 1 < w6.heap.size := block_lt p10_6
    have lt_w0_6 : bs < w6.heap.size := block_lt w0_6
    have lt_x00_6 : w4.heap.size < w6.heap.size := block_lt x00_6
    have lt_x10_6 : w5.heap.size < w6.heap.size := block_lt x10_6
    go_wp2_with fail
    refine (eqAbelian_t _ _ _ _ _ _ R1 _ _ (by exact ((Sg_6.out.ownI Og.out).rd.alloc _)) (by exact ((SW_6.out.rdI RW.out).alloc _)) rfl rfl (by omega)).mono ?_
    rintro e w7 ⟨rfl, hb⟩
    have sz_7 : w6.heap.size + 1 ≤ w7.heap.size := (by have := hb.size; simp at this; omega)
    have g0_7 := cell_below (p := ⟨w6.heap.size, 0, none⟩) (v := .slice ag R1.length cg) (by simp) hb
    have g1_7 := cell_below (p := ⟨w6.heap.size, 1, none⟩) (v := .int .i64 K1) (by simp) hb
    replace hb := below_al1 hb
    have p00_7 := cell_below (p := ⟨w.heap.size, 0, none⟩) (v := .slice a0 n0 c0) p00_6 hb
    have p01_7 := cell_below (p := ⟨w.heap.size, 1, none⟩) (v := .int .i64 r0) p01_6 hb
    have p10_7 := cell_below (p := ⟨w.heap.size + 1, 0, none⟩) (v := .slice a1 n1 c1) p10_6 hb
    have p11_7 := cell_below (p := ⟨w.heap.size + 1, 1, none⟩) (v := .int .i64 r1) p11_6 hb
    have w0_7 := cell_below (p := ⟨bs, 0, none⟩) (v := .slice aw R1.length cw) w0_6 hb
    have w1_7 := cell_below (p := ⟨bs, 1, none⟩) (v := .int .i64 K1) w1_6 hb
    have SW_7 : Hid (Snap (0) w3 w7) := Lib.hid (SW_6.out.keep hb)
    have S0x_7 : Hid (Snap (w3.heap.size) w4 w7) := Lib.hid (S0x_6.out.keep hb)
    have x00_7 := cell_below (p := ⟨w4.heap.size, 0, none⟩) (v := .slice a0x n0 c0x) x00_6 hb
    have x01_7 := cell_below (p := ⟨w4.heap.size, 1, none⟩) (v := .int .i64 r0) x01_6 hb
    have S1x_7 : Hid (Snap (w4.heap.size + 1) w5 w7) := Lib.hid (S1x_6.out.keep hb)
    have x10_7 := cell_below (p := ⟨w5.heap.size, 0, none⟩) (v := .slice a1x n1 c1x) x10_6 hb
    have x11_7 := cell_below (p := ⟨w5.heap.size, 1, none⟩) (v := .int .i64 r1) x11_6 hb
    have Sg_7 : Hid (Snap (w5.heap.size + 1) w6 w7) := Lib.hid (Sg_6.out.keep hb)
    have HB_7 : Hid (Below w.heap.size w w7) := Lib.hid (HB_6.out.trans (hb.mono HB_6.out.size))
    clear hb p00_6 p01_6 p10_6 p11_6 w0_6 w1_6 SW_6 S0x_6 x00_6 x01_6 S1x_6 x10_6 x11_6 Sg_6 HB_6
    go_wp2_with fail
    go_region_held3 (fun w' => w'.cell? ⟨w.heap.size, 0, none⟩ = some (.slice a0 n0 c0) ∧ w'.cell? ⟨w.heap.size, 1, none⟩ = some (.int .i64 r0) ∧ w'.cell? ⟨w.heap.size + 1, 0, none⟩ = some (.slice a1 n1 c1) ∧ w'.cell? ⟨w.heap.size + 1, 1, none⟩ = some (.int .i64 r1) ∧ w'.cell? ⟨bs, 0, none⟩ = some (.slice aw R1.length cw) ∧ w'.cell? ⟨bs, 1, none⟩ = some (.int .i64 K1) ∧ w'.cell? ⟨w4.heap.size, 0, none⟩ = some (.slice a0x n0 c0x) ∧ w'.cell? ⟨w4.heap.size, 1, none⟩ = some (.int .i64 r0) ∧ w'.cell? ⟨w5.heap.size, 0, none⟩ = some (.slice a1x n1 c1x) ∧ w'.cell? ⟨w5.heap.size, 1, none⟩ = some (.int .i64 r1) ∧ w'.cell? ⟨w6.heap.size, 0, none⟩ = some (.slice ag R1.length cg) ∧ w'.cell? ⟨w6.heap.size, 1, none⟩ = some (.int .i64 K1)) (go_keep)
      (first
        | (go_at_call 16; (with_reducible refine (toAbelian_any a0 n0 c0 xs0 r0 _ ?_ HL0.out hn0).mono ?_); exact (show RdI w7 a0 xs0 from ((HA0.out.keep HB_7.out (Nat.le_refl _)))); rintro e w8 ⟨a0y, c0y, rfl, ho, hb0⟩; have hb : Below w7.heap.size w7 w8 := ⟨hb0.os, hb0.tape, hb0.output, hb0.size, hb0.block⟩; have sz_8 : w7.heap.size + 0 ≤ w8.heap.size := (by have := hb.size; omega); have p00_8 := cell_below (p := ⟨w.heap.size, 0, none⟩) (v := .slice a0 n0 c0) p00_7 hb; have p01_8 := cell_below (p := ⟨w.heap.size, 1, none⟩) (v := .int .i64 r0) p01_7 hb; have p10_8 := cell_below (p := ⟨w.heap.size + 1, 0, none⟩) (v := .slice a1 n1 c1) p10_7 hb; have p11_8 := cell_below (p := ⟨w.heap.size + 1, 1, none⟩) (v := .int .i64 r1) p11_7 hb; have w0_8 := cell_below (p := ⟨bs, 0, none⟩) (v := .slice aw R1.length cw) w0_7 hb; have w1_8 := cell_below (p := ⟨bs, 1, none⟩) (v := .int .i64 K1) w1_7 hb; have SW_8 : Hid (Snap (0) w3 w8) := Lib.hid (SW_7.out.keep hb); have S0x_8 : Hid (Snap (w3.heap.size) w4 w8) := Lib.hid (S0x_7.out.keep hb); have x00_8 := cell_below (p := ⟨w4.heap.size, 0, none⟩) (v := .slice a0x n0 c0x) x00_7 hb; have x01_8 := cell_below (p := ⟨w4.heap.size, 1, none⟩) (v := .int .i64 r0) x01_7 hb; have S1x_8 : Hid (Snap (w4.heap.size + 1) w5 w8) := Lib.hid (S1x_7.out.keep hb); have x10_8 := cell_below (p := ⟨w5.heap.size, 0, none⟩) (v := .slice a1x n1 c1x) x10_7 hb; have x11_8 := cell_below (p := ⟨w5.heap.size, 1, none⟩) (v := .int .i64 r1) x11_7 hb; have Sg_8 : Hid (Snap (w5.heap.size + 1) w6 w8) := Lib.hid (Sg_7.out.keep hb); have g0_8 := cell_below (p := ⟨w6.heap.size, 0, none⟩) (v := .slice ag R1.length cg) g0_7 hb; have g1_8 := cell_below (p := ⟨w6.heap.size, 1, none⟩) (v := .int .i64 K1) g1_7 hb; have HB_8 : Hid (Below w.heap.size w w8) := Lib.hid (HB_7.out.trans (hb.mono HB_7.out.size)); have R0y_8 : Hid (RdI w8 a0y xs0) := Lib.hid ho.rd; clear ho; clear hb hb0)
        | (go_at_call 18; (with_reducible refine (eqAbelian_t _ _ _ _ _ _ xs0 _ _ ?_ ?_ HL0.out HL0.out (by omega)).mono ?_); exact ((S0x_8.out.ownI O0x.out).rd); exact R0y_8.out; rintro e w9 ⟨rfl, hb0⟩; have hb := hb0; have sz_9 : w8.heap.size + 0 ≤ w9.heap.size := (by have := hb.size; omega); have p00_9 := cell_below (p := ⟨w.heap.size, 0, none⟩) (v := .slice a0 n0 c0) p00_8 hb; have p01_9 := cell_below (p := ⟨w.heap.size, 1, none⟩) (v := .int .i64 r0) p01_8 hb; have p10_9 := cell_below (p := ⟨w.heap.size + 1, 0, none⟩) (v := .slice a1 n1 c1) p10_8 hb; have p11_9 := cell_below (p := ⟨w.heap.size + 1, 1, none⟩) (v := .int .i64 r1) p11_8 hb; have w0_9 := cell_below (p := ⟨bs, 0, none⟩) (v := .slice aw R1.length cw) w0_8 hb; have w1_9 := cell_below (p := ⟨bs, 1, none⟩) (v := .int .i64 K1) w1_8 hb; have SW_9 : Hid (Snap (0) w3 w9) := Lib.hid (SW_8.out.keep hb); have S0x_9 : Hid (Snap (w3.heap.size) w4 w9) := Lib.hid (S0x_8.out.keep hb); have x00_9 := cell_below (p := ⟨w4.heap.size, 0, none⟩) (v := .slice a0x n0 c0x) x00_8 hb; have x01_9 := cell_below (p := ⟨w4.heap.size, 1, none⟩) (v := .int .i64 r0) x01_8 hb; have S1x_9 : Hid (Snap (w4.heap.size + 1) w5 w9) := Lib.hid (S1x_8.out.keep hb); have x10_9 := cell_below (p := ⟨w5.heap.size, 0, none⟩) (v := .slice a1x n1 c1x) x10_8 hb; have x11_9 := cell_below (p := ⟨w5.heap.size, 1, none⟩) (v := .int .i64 r1) x11_8 hb; have Sg_9 : Hid (Snap (w5.heap.size + 1) w6 w9) := Lib.hid (Sg_8.out.keep hb); have g0_9 := cell_below (p := ⟨w6.heap.size, 0, none⟩) (v := .slice ag R1.length cg) g0_8 hb; have g1_9 := cell_below (p := ⟨w6.heap.size, 1, none⟩) (v := .int .i64 K1) g1_8 hb; have R0y_9 : Hid (RdI w9 a0y xs0) := Lib.hid (R0y_8.out.keep hb (Nat.le_refl _)); have HB_9 : Hid (Below w.heap.size w w9) := Lib.hid (HB_8.out.trans (hb.mono HB_8.out.size)); clear hb hb0))
    go_wp2_with fail
    go_region_held3 (fun w' => w'.cell? ⟨w.heap.size, 0, none⟩ = some (.slice a0 n0 c0) ∧ w'.cell? ⟨w.heap.size, 1, none⟩ = some (.int .i64 r0) ∧ w'.cell? ⟨w.heap.size + 1, 0, none⟩ = some (.slice a1 n1 c1) ∧ w'.cell? ⟨w.heap.size + 1, 1, none⟩ = some (.int .i64 r1) ∧ w'.cell? ⟨bs, 0, none⟩ = some (.slice aw R1.length cw) ∧ w'.cell? ⟨bs, 1, none⟩ = some (.int .i64 K1) ∧ w'.cell? ⟨w4.heap.size, 0, none⟩ = some (.slice a0x n0 c0x) ∧ w'.cell? ⟨w4.heap.size, 1, none⟩ = some (.int .i64 r0) ∧ w'.cell? ⟨w5.heap.size, 0, none⟩ = some (.slice a1x n1 c1x) ∧ w'.cell? ⟨w5.heap.size, 1, none⟩ = some (.int .i64 r1) ∧ w'.cell? ⟨w6.heap.size, 0, none⟩ = some (.slice ag R1.length cg) ∧ w'.cell? ⟨w6.heap.size, 1, none⟩ = some (.int .i64 K1)) (go_keep)
      (first
        | (go_at_call 16; (with_reducible refine (toAbelian_any a1 n1 c1 xs1 r1 _ ?_ HL1.out hn1).mono ?_); exact (show RdI w9 a1 xs1 from ((HA1.out.keep HB_9.out (Nat.le_refl _)))); rintro e w10 ⟨a1y, c1y, rfl, ho, hb0⟩; have hb : Below w9.heap.size w9 w10 := ⟨hb0.os, hb0.tape, hb0.output, hb0.size, hb0.block⟩; have sz_10 : w9.heap.size + 0 ≤ w10.heap.size := (by have := hb.size; omega); have p00_10 := cell_below (p := ⟨w.heap.size, 0, none⟩) (v := .slice a0 n0 c0) p00_9 hb; have p01_10 := cell_below (p := ⟨w.heap.size, 1, none⟩) (v := .int .i64 r0) p01_9 hb; have p10_10 := cell_below (p := ⟨w.heap.size + 1, 0, none⟩) (v := .slice a1 n1 c1) p10_9 hb; have p11_10 := cell_below (p := ⟨w.heap.size + 1, 1, none⟩) (v := .int .i64 r1) p11_9 hb; have w0_10 := cell_below (p := ⟨bs, 0, none⟩) (v := .slice aw R1.length cw) w0_9 hb; have w1_10 := cell_below (p := ⟨bs, 1, none⟩) (v := .int .i64 K1) w1_9 hb; have SW_10 : Hid (Snap (0) w3 w10) := Lib.hid (SW_9.out.keep hb); have S0x_10 : Hid (Snap (w3.heap.size) w4 w10) := Lib.hid (S0x_9.out.keep hb); have x00_10 := cell_below (p := ⟨w4.heap.size, 0, none⟩) (v := .slice a0x n0 c0x) x00_9 hb; have x01_10 := cell_below (p := ⟨w4.heap.size, 1, none⟩) (v := .int .i64 r0) x01_9 hb; have S1x_10 : Hid (Snap (w4.heap.size + 1) w5 w10) := Lib.hid (S1x_9.out.keep hb); have x10_10 := cell_below (p := ⟨w5.heap.size, 0, none⟩) (v := .slice a1x n1 c1x) x10_9 hb; have x11_10 := cell_below (p := ⟨w5.heap.size, 1, none⟩) (v := .int .i64 r1) x11_9 hb; have Sg_10 : Hid (Snap (w5.heap.size + 1) w6 w10) := Lib.hid (Sg_9.out.keep hb); have g0_10 := cell_below (p := ⟨w6.heap.size, 0, none⟩) (v := .slice ag R1.length cg) g0_9 hb; have g1_10 := cell_below (p := ⟨w6.heap.size, 1, none⟩) (v := .int .i64 K1) g1_9 hb; have HB_10 : Hid (Below w.heap.size w w10) := Lib.hid (HB_9.out.trans (hb.mono HB_9.out.size)); have R1y_10 : Hid (RdI w10 a1y xs1) := Lib.hid ho.rd; clear ho; clear hb hb0)
        | (go_at_call 18; (with_reducible refine (eqAbelian_t _ _ _ _ _ _ xs1 _ _ ?_ ?_ HL1.out HL1.out (by omega)).mono ?_); exact ((S1x_10.out.ownI O1x.out).rd); exact R1y_10.out; rintro e w11 ⟨rfl, hb0⟩; have hb := hb0; have sz_11 : w10.heap.size + 0 ≤ w11.heap.size := (by have := hb.size; omega); have p00_11 := cell_below (p := ⟨w.heap.size, 0, none⟩) (v := .slice a0 n0 c0) p00_10 hb; have p01_11 := cell_below (p := ⟨w.heap.size, 1, none⟩) (v := .int .i64 r0) p01_10 hb; have p10_11 := cell_below (p := ⟨w.heap.size + 1, 0, none⟩) (v := .slice a1 n1 c1) p10_10 hb; have p11_11 := cell_below (p := ⟨w.heap.size + 1, 1, none⟩) (v := .int .i64 r1) p11_10 hb; have w0_11 := cell_below (p := ⟨bs, 0, none⟩) (v := .slice aw R1.length cw) w0_10 hb; have w1_11 := cell_below (p := ⟨bs, 1, none⟩) (v := .int .i64 K1) w1_10 hb; have SW_11 : Hid (Snap (0) w3 w11) := Lib.hid (SW_10.out.keep hb); have S0x_11 : Hid (Snap (w3.heap.size) w4 w11) := Lib.hid (S0x_10.out.keep hb); have x00_11 := cell_below (p := ⟨w4.heap.size, 0, none⟩) (v := .slice a0x n0 c0x) x00_10 hb; have x01_11 := cell_below (p := ⟨w4.heap.size, 1, none⟩) (v := .int .i64 r0) x01_10 hb; have S1x_11 : Hid (Snap (w4.heap.size + 1) w5 w11) := Lib.hid (S1x_10.out.keep hb); have x10_11 := cell_below (p := ⟨w5.heap.size, 0, none⟩) (v := .slice a1x n1 c1x) x10_10 hb; have x11_11 := cell_below (p := ⟨w5.heap.size, 1, none⟩) (v := .int .i64 r1) x11_10 hb; have Sg_11 : Hid (Snap (w5.heap.size + 1) w6 w11) := Lib.hid (Sg_10.out.keep hb); have g0_11 := cell_below (p := ⟨w6.heap.size, 0, none⟩) (v := .slice ag R1.length cg) g0_10 hb; have g1_11 := cell_below (p := ⟨w6.heap.size, 1, none⟩) (v := .int .i64 K1) g1_10 hb; have R1y_11 : Hid (RdI w11 a1y xs1) := Lib.hid (R1y_10.out.keep hb (Nat.le_refl _)); have HB_11 : Hid (Below w.heap.size w w11) := Lib.hid (HB_10.out.trans (hb.mono HB_10.out.size)); clear hb hb0))
    go_wp2_with fail
    refine (markAbelian_t 2 _ _ _ _ _ _ (by exact (S0x_11.out.ownI O0x.out).wr) (by omega) (by omega) (by omega)).mono ?_
    rintro e w12 ⟨rfl, hr, hc⟩
    have hg := O0x.out.rg hc
    have sz_12 : w11.heap.size + 0 ≤ w12.heap.size := by have := hg.size; omega
    have p00_12 := cell_chg (p := ⟨w.heap.size, 0, none⟩) (v := .slice a0 n0 c0) p00_11 hg (show w.heap.size < w3.heap.size ∨ w4.heap.size ≤ w.heap.size by omega)
    have p01_12 := cell_chg (p := ⟨w.heap.size, 1, none⟩) (v := .int .i64 r0) p01_11 hg (show w.heap.size < w3.heap.size ∨ w4.heap.size ≤ w.heap.size by omega)
    have p10_12 := cell_chg (p := ⟨w.heap.size + 1, 0, none⟩) (v := .slice a1 n1 c1) p10_11 hg (show w.heap.size + 1 < w3.heap.size ∨ w4.heap.size ≤ w.heap.size + 1 by omega)
    have p11_12 := cell_chg (p := ⟨w.heap.size + 1, 1, none⟩) (v := .int .i64 r1) p11_11 hg (show w.heap.size + 1 < w3.heap.size ∨ w4.heap.size ≤ w.heap.size + 1 by omega)
    have w0_12 := cell_chg (p := ⟨bs, 0, none⟩) (v := .slice aw R1.length cw) w0_11 hg (show bs < w3.heap.size ∨ w4.heap.size ≤ bs by omega)
    have w1_12 := cell_chg (p := ⟨bs, 1, none⟩) (v := .int .i64 K1) w1_11 hg (show bs < w3.heap.size ∨ w4.heap.size ≤ bs by omega)
    have SW_12 : Hid (Snap (0) w3 w12) := Lib.hid (SW_11.out.chg hg (show w3.heap.size ≤ w3.heap.size ∨ w4.heap.size ≤ 0 by omega))
    have x00_12 := cell_chg (p := ⟨w4.heap.size, 0, none⟩) (v := .slice a0x n0 c0x) x00_11 hg (show w4.heap.size < w3.heap.size ∨ w4.heap.size ≤ w4.heap.size by omega)
    have x01_12 := cell_chg (p := ⟨w4.heap.size, 1, none⟩) (v := .int .i64 r0) x01_11 hg (show w4.heap.size < w3.heap.size ∨ w4.heap.size ≤ w4.heap.size by omega)
    have S1x_12 : Hid (Snap (w4.heap.size + 1) w5 w12) := Lib.hid (S1x_11.out.chg hg (show w5.heap.size ≤ w3.heap.size ∨ w4.heap.size ≤ w4.heap.size + 1 by omega))
    have x10_12 := cell_chg (p := ⟨w5.heap.size, 0, none⟩) (v := .slice a1x n1 c1x) x10_11 hg (show w5.heap.size < w3.heap.size ∨ w4.heap.size ≤ w5.heap.size by omega)
    have x11_12 := cell_chg (p := ⟨w5.heap.size, 1, none⟩) (v := .int .i64 r1) x11_11 hg (show w5.heap.size < w3.heap.size ∨ w4.heap.size ≤ w5.heap.size by omega)
    have Sg_12 : Hid (Snap (w5.heap.size + 1) w6 w12) := Lib.hid (Sg_11.out.chg hg (show w6.heap.size ≤ w3.heap.size ∨ w4.heap.size ≤ w5.heap.size + 1 by omega))
    have g0_12 := cell_chg (p := ⟨w6.heap.size, 0, none⟩) (v := .slice ag R1.length cg) g0_11 hg (show w6.heap.size < w3.heap.size ∨ w4.heap.size ≤ w6.heap.size by omega)
    have g1_12 := cell_chg (p := ⟨w6.heap.size, 1, none⟩) (v := .int .i64 K1) g1_11 hg (show w6.heap.size < w3.heap.size ∨ w4.heap.size ≤ w6.heap.size by omega)
    have HB_12 : Hid (Below w.heap.size w w12) := Lib.hid (below_chg HB_11.out hg (Nat.le_refl _) (show w.heap.size ≤ w3.heap.size by omega))
    clear hr hc hg p00_11 p01_11 p10_11 p11_11 w0_11 w1_11 SW_11 x00_11 x01_11 S1x_11 x10_11 x11_11 Sg_11 g0_11 g1_11 HB_11
    go_wp2_with fail
    refine (markAbelian_t 2 _ _ _ _ _ _ (by exact (S1x_12.out.ownI O1x.out).wr) (by omega) (by omega) (by omega)).mono ?_
    rintro e w13 ⟨rfl, hr, hc⟩
    have hg := O1x.out.rg hc
    have sz_13 : w12.heap.size + 0 ≤ w13.heap.size := by have := hg.size; omega
    have p00_13 := cell_chg (p := ⟨w.heap.size, 0, none⟩) (v := .slice a0 n0 c0) p00_12 hg (show w.heap.size < w4.heap.size + 1 ∨ w5.heap.size ≤ w.heap.size by omega)
    have p01_13 := cell_chg (p := ⟨w.heap.size, 1, none⟩) (v := .int .i64 r0) p01_12 hg (show w.heap.size < w4.heap.size + 1 ∨ w5.heap.size ≤ w.heap.size by omega)
    have p10_13 := cell_chg (p := ⟨w.heap.size + 1, 0, none⟩) (v := .slice a1 n1 c1) p10_12 hg (show w.heap.size + 1 < w4.heap.size + 1 ∨ w5.heap.size ≤ w.heap.size + 1 by omega)
    have p11_13 := cell_chg (p := ⟨w.heap.size + 1, 1, none⟩) (v := .int .i64 r1) p11_12 hg (show w.heap.size + 1 < w4.heap.size + 1 ∨ w5.heap.size ≤ w.heap.size + 1 by omega)
    have w0_13 := cell_chg (p := ⟨bs, 0, none⟩) (v := .slice aw R1.length cw) w0_12 hg (show bs < w4.heap.size + 1 ∨ w5.heap.size ≤ bs by omega)
    have w1_13 := cell_chg (p := ⟨bs, 1, none⟩) (v := .int .i64 K1) w1_12 hg (show bs < w4.heap.size + 1 ∨ w5.heap.size ≤ bs by omega)
    have SW_13 : Hid (Snap (0) w3 w13) := Lib.hid (SW_12.out.chg hg (show w3.heap.size ≤ w4.heap.size + 1 ∨ w5.heap.size ≤ 0 by omega))
    have x00_13 := cell_chg (p := ⟨w4.heap.size, 0, none⟩) (v := .slice a0x n0 c0x) x00_12 hg (show w4.heap.size < w4.heap.size + 1 ∨ w5.heap.size ≤ w4.heap.size by omega)
    have x01_13 := cell_chg (p := ⟨w4.heap.size, 1, none⟩) (v := .int .i64 r0) x01_12 hg (show w4.heap.size < w4.heap.size + 1 ∨ w5.heap.size ≤ w4.heap.size by omega)
    have x10_13 := cell_chg (p := ⟨w5.heap.size, 0, none⟩) (v := .slice a1x n1 c1x) x10_12 hg (show w5.heap.size < w4.heap.size + 1 ∨ w5.heap.size ≤ w5.heap.size by omega)
    have x11_13 := cell_chg (p := ⟨w5.heap.size, 1, none⟩) (v := .int .i64 r1) x11_12 hg (show w5.heap.size < w4.heap.size + 1 ∨ w5.heap.size ≤ w5.heap.size by omega)
    have Sg_13 : Hid (Snap (w5.heap.size + 1) w6 w13) := Lib.hid (Sg_12.out.chg hg (show w6.heap.size ≤ w4.heap.size + 1 ∨ w5.heap.size ≤ w5.heap.size + 1 by omega))
    have g0_13 := cell_chg (p := ⟨w6.heap.size, 0, none⟩) (v := .slice ag R1.length cg) g0_12 hg (show w6.heap.size < w4.heap.size + 1 ∨ w5.heap.size ≤ w6.heap.size by omega)
    have g1_13 := cell_chg (p := ⟨w6.heap.size, 1, none⟩) (v := .int .i64 K1) g1_12 hg (show w6.heap.size < w4.heap.size + 1 ∨ w5.heap.size ≤ w6.heap.size by omega)
    have HB_13 : Hid (Below w.heap.size w w13) := Lib.hid (below_chg HB_12.out hg (Nat.le_refl _) (show w.heap.size ≤ w4.heap.size + 1 by omega))
    clear hr hc hg p00_12 p01_12 p10_12 p11_12 w0_12 w1_12 SW_12 x00_12 x01_12 x10_12 x11_12 Sg_12 g0_12 g1_12 HB_12
    go_wp2_with fail
    refine (eqAbelian_t _ _ _ _ _ _ R1 _ _ (by exact ((Sg_13.out.ownI Og.out).rd)) (by exact ((SW_13.out.rdI RW.out))) rfl rfl (by omega)).mono ?_
    rintro e w14 ⟨rfl, hb⟩
    have sz_14 : w13.heap.size + 0 ≤ w14.heap.size := (by have := hb.size; omega)
    have p00_14 := cell_below (p := ⟨w.heap.size, 0, none⟩) (v := .slice a0 n0 c0) p00_13 hb
    have p01_14 := cell_below (p := ⟨w.heap.size, 1, none⟩) (v := .int .i64 r0) p01_13 hb
    have p10_14 := cell_below (p := ⟨w.heap.size + 1, 0, none⟩) (v := .slice a1 n1 c1) p10_13 hb
    have p11_14 := cell_below (p := ⟨w.heap.size + 1, 1, none⟩) (v := .int .i64 r1) p11_13 hb
    have w0_14 := cell_below (p := ⟨bs, 0, none⟩) (v := .slice aw R1.length cw) w0_13 hb
    have w1_14 := cell_below (p := ⟨bs, 1, none⟩) (v := .int .i64 K1) w1_13 hb
    have SW_14 : Hid (Snap (0) w3 w14) := Lib.hid (SW_13.out.keep hb)
    have x00_14 := cell_below (p := ⟨w4.heap.size, 0, none⟩) (v := .slice a0x n0 c0x) x00_13 hb
    have x01_14 := cell_below (p := ⟨w4.heap.size, 1, none⟩) (v := .int .i64 r0) x01_13 hb
    have x10_14 := cell_below (p := ⟨w5.heap.size, 0, none⟩) (v := .slice a1x n1 c1x) x10_13 hb
    have x11_14 := cell_below (p := ⟨w5.heap.size, 1, none⟩) (v := .int .i64 r1) x11_13 hb
    have Sg_14 : Hid (Snap (w5.heap.size + 1) w6 w14) := Lib.hid (Sg_13.out.keep hb)
    have g0_14 := cell_below (p := ⟨w6.heap.size, 0, none⟩) (v := .slice ag R1.length cg) g0_13 hb
    have g1_14 := cell_below (p := ⟨w6.heap.size, 1, none⟩) (v := .int .i64 K1) g1_13 hb
    have HB_14 : Hid (Below w.heap.size w w14) := Lib.hid (HB_13.out.trans (hb.mono HB_13.out.size))
    clear hb p00_13 p01_13 p10_13 p11_13 w0_13 w1_13 SW_13 x00_13 x01_13 x10_13 x11_13 Sg_13 g0_13 g1_13 HB_13
    go_wp2_with fail
    refine (markAbelian_t 2 _ _ _ _ _ _ (by exact (Sg_14.out.ownI Og.out).wr) (by omega) (by omega) (by omega)).mono ?_
    rintro e w15 ⟨rfl, hr, hc⟩
    have hg := Og.out.rg hc
    have sz_15 : w14.heap.size + 0 ≤ w15.heap.size := by have := hg.size; omega
    have p00_15 := cell_chg (p := ⟨w.heap.size, 0, none⟩) (v := .slice a0 n0 c0) p00_14 hg (show w.heap.size < w5.heap.size + 1 ∨ w6.heap.size ≤ w.heap.size by omega)
    have p01_15 := cell_chg (p := ⟨w.heap.size, 1, none⟩) (v := .int .i64 r0) p01_14 hg (show w.heap.size < w5.heap.size + 1 ∨ w6.heap.size ≤ w.heap.size by omega)
    have p10_15 := cell_chg (p := ⟨w.heap.size + 1, 0, none⟩) (v := .slice a1 n1 c1) p10_14 hg (show w.heap.size + 1 < w5.heap.size + 1 ∨ w6.heap.size ≤ w.heap.size + 1 by omega)
    have p11_15 := cell_chg (p := ⟨w.heap.size + 1, 1, none⟩) (v := .int .i64 r1) p11_14 hg (show w.heap.size + 1 < w5.heap.size + 1 ∨ w6.heap.size ≤ w.heap.size + 1 by omega)
    have w0_15 := cell_chg (p := ⟨bs, 0, none⟩) (v := .slice aw R1.length cw) w0_14 hg (show bs < w5.heap.size + 1 ∨ w6.heap.size ≤ bs by omega)
    have w1_15 := cell_chg (p := ⟨bs, 1, none⟩) (v := .int .i64 K1) w1_14 hg (show bs < w5.heap.size + 1 ∨ w6.heap.size ≤ bs by omega)
    have SW_15 : Hid (Snap (0) w3 w15) := Lib.hid (SW_14.out.chg hg (show w3.heap.size ≤ w5.heap.size + 1 ∨ w6.heap.size ≤ 0 by omega))
    have x00_15 := cell_chg (p := ⟨w4.heap.size, 0, none⟩) (v := .slice a0x n0 c0x) x00_14 hg (show w4.heap.size < w5.heap.size + 1 ∨ w6.heap.size ≤ w4.heap.size by omega)
    have x01_15 := cell_chg (p := ⟨w4.heap.size, 1, none⟩) (v := .int .i64 r0) x01_14 hg (show w4.heap.size < w5.heap.size + 1 ∨ w6.heap.size ≤ w4.heap.size by omega)
    have x10_15 := cell_chg (p := ⟨w5.heap.size, 0, none⟩) (v := .slice a1x n1 c1x) x10_14 hg (show w5.heap.size < w5.heap.size + 1 ∨ w6.heap.size ≤ w5.heap.size by omega)
    have x11_15 := cell_chg (p := ⟨w5.heap.size, 1, none⟩) (v := .int .i64 r1) x11_14 hg (show w5.heap.size < w5.heap.size + 1 ∨ w6.heap.size ≤ w5.heap.size by omega)
    have g0_15 := cell_chg (p := ⟨w6.heap.size, 0, none⟩) (v := .slice ag R1.length cg) g0_14 hg (show w6.heap.size < w5.heap.size + 1 ∨ w6.heap.size ≤ w6.heap.size by omega)
    have g1_15 := cell_chg (p := ⟨w6.heap.size, 1, none⟩) (v := .int .i64 K1) g1_14 hg (show w6.heap.size < w5.heap.size + 1 ∨ w6.heap.size ≤ w6.heap.size by omega)
    have HB_15 : Hid (Below w.heap.size w w15) := Lib.hid (below_chg HB_14.out hg (Nat.le_refl _) (show w.heap.size ≤ w5.heap.size + 1 by omega))
    have Rg_15 : Hid (RdI w15 ag (marks 1 R1.length)) := Lib.hid hr
    clear hr hc hg p00_14 p01_14 p10_14 p11_14 w0_14 w1_14 SW_14 x00_14 x01_14 x10_14 x11_14 g0_14 g1_14 HB_14
    go_wp2_with fail
    refine (heldAbelian_t _ _ _ _ _ _ (by exact Rg_15.out) (by omega) (by omega) (by omega)).mono ?_
    rintro e w16 ⟨rfl, hb⟩
    have sz_16 : w15.heap.size + 0 ≤ w16.heap.size := (by have := hb.size; omega)
    have p00_16 := cell_below (p := ⟨w.heap.size, 0, none⟩) (v := .slice a0 n0 c0) p00_15 hb
    have p01_16 := cell_below (p := ⟨w.heap.size, 1, none⟩) (v := .int .i64 r0) p01_15 hb
    have p10_16 := cell_below (p := ⟨w.heap.size + 1, 0, none⟩) (v := .slice a1 n1 c1) p10_15 hb
    have p11_16 := cell_below (p := ⟨w.heap.size + 1, 1, none⟩) (v := .int .i64 r1) p11_15 hb
    have w0_16 := cell_below (p := ⟨bs, 0, none⟩) (v := .slice aw R1.length cw) w0_15 hb
    have w1_16 := cell_below (p := ⟨bs, 1, none⟩) (v := .int .i64 K1) w1_15 hb
    have SW_16 : Hid (Snap (0) w3 w16) := Lib.hid (SW_15.out.keep hb)
    have x00_16 := cell_below (p := ⟨w4.heap.size, 0, none⟩) (v := .slice a0x n0 c0x) x00_15 hb
    have x01_16 := cell_below (p := ⟨w4.heap.size, 1, none⟩) (v := .int .i64 r0) x01_15 hb
    have x10_16 := cell_below (p := ⟨w5.heap.size, 0, none⟩) (v := .slice a1x n1 c1x) x10_15 hb
    have x11_16 := cell_below (p := ⟨w5.heap.size, 1, none⟩) (v := .int .i64 r1) x11_15 hb
    have g0_16 := cell_below (p := ⟨w6.heap.size, 0, none⟩) (v := .slice ag R1.length cg) g0_15 hb
    have g1_16 := cell_below (p := ⟨w6.heap.size, 1, none⟩) (v := .int .i64 K1) g1_15 hb
    have Rg_16 : Hid (RdI w16 ag (marks 1 R1.length)) := Lib.hid (Rg_15.out.keep hb (Nat.le_refl _))
    have HB_16 : Hid (Below w.heap.size w w16) := Lib.hid (HB_15.out.trans (hb.mono HB_15.out.size))
    clear hb p00_15 p01_15 p10_15 p11_15 w0_15 w1_15 SW_15 x00_15 x01_15 x10_15 x11_15 g0_15 g1_15 Rg_15 HB_15
    go_wp2_with fail
    go_region_held3 (fun w' => w'.cell? ⟨w.heap.size, 0, none⟩ = some (.slice a0 n0 c0) ∧ w'.cell? ⟨w.heap.size, 1, none⟩ = some (.int .i64 r0) ∧ w'.cell? ⟨w.heap.size + 1, 0, none⟩ = some (.slice a1 n1 c1) ∧ w'.cell? ⟨w.heap.size + 1, 1, none⟩ = some (.int .i64 r1) ∧ w'.cell? ⟨bs, 0, none⟩ = some (.slice aw R1.length cw) ∧ w'.cell? ⟨bs, 1, none⟩ = some (.int .i64 K1) ∧ w'.cell? ⟨w4.heap.size, 0, none⟩ = some (.slice a0x n0 c0x) ∧ w'.cell? ⟨w4.heap.size, 1, none⟩ = some (.int .i64 r0) ∧ w'.cell? ⟨w5.heap.size, 0, none⟩ = some (.slice a1x n1 c1x) ∧ w'.cell? ⟨w5.heap.size, 1, none⟩ = some (.int .i64 r1) ∧ w'.cell? ⟨w6.heap.size, 0, none⟩ = some (.slice ag R1.length cg) ∧ w'.cell? ⟨w6.heap.size, 1, none⟩ = some (.int .i64 K1)) (first | ((try dsimp only); (refine ⟨?_, ?_, ?_, ?_, ?_, ?_, ?_, ?_, ?_, ?_, ?_, ?_⟩) <;> first | with_reducible assumption | (rw [cell_ne (by first | (simp; done) | (simp; omega) | omega), cell_ne (by first | (simp; done) | (simp; omega) | omega)]; with_reducible assumption) | (rw [cell_al (by first | (simp; done) | (simp; omega) | omega)]; with_reducible assumption)) | go_keep)
      (first
        | (go_at_call 16; (with_reducible refine (toAbelian_any a0 n0 c0 xs0 r0 _ ?_ HL0.out hn0).mono ?_); (first | exact (show RdI w16 a0 xs0 from HA0.out.keep (HB_16.out) (Nat.le_refl _)) | exact (show RdI (w16.alloc _) a0 xs0 from (HA0.out.keep (HB_16.out) (Nat.le_refl _)).alloc _)); rintro e h0 ⟨a0h, c0h, rfl, ho, hb0⟩; (first | (have hbi : Below w16.heap.size w16 h0 := ⟨hb0.os, hb0.tape, hb0.output, hb0.size, hb0.block⟩) | (have hbz : Below (w16.alloc (.cells #[.slice none 0 0, .int .i64 0] 27)).heap.size (w16.alloc (.cells #[.slice none 0 0, .int .i64 0] 27)) h0 := ⟨hb0.os, hb0.tape, hb0.output, hb0.size, hb0.block⟩; have hbi : Below w16.heap.size w16 h0 := below_al1 hbz; have HZh0 : Hid (BX 27 h0 w16.heap.size #[.slice none 0 0, .int .i64 0]) := Lib.hid ((BX.new w16 _ _).keep hbz))); (first | (have lzh0 := HZh0.out.lt) | skip); have hbh0 : Below w16.heap.size w16 h0 := hbi; have szh0 := hbh0.size; have sih0 := hbi.size; have p00_h0 := cell_below (p := ⟨w.heap.size, 0, none⟩) (v := .slice a0 n0 c0) p00_16 hbh0; have p01_h0 := cell_below (p := ⟨w.heap.size, 1, none⟩) (v := .int .i64 r0) p01_16 hbh0; have p10_h0 := cell_below (p := ⟨w.heap.size + 1, 0, none⟩) (v := .slice a1 n1 c1) p10_16 hbh0; have p11_h0 := cell_below (p := ⟨w.heap.size + 1, 1, none⟩) (v := .int .i64 r1) p11_16 hbh0; have w0_h0 := cell_below (p := ⟨bs, 0, none⟩) (v := .slice aw R1.length cw) w0_16 hbh0; have w1_h0 := cell_below (p := ⟨bs, 1, none⟩) (v := .int .i64 K1) w1_16 hbh0; have x00_h0 := cell_below (p := ⟨w4.heap.size, 0, none⟩) (v := .slice a0x n0 c0x) x00_16 hbh0; have x01_h0 := cell_below (p := ⟨w4.heap.size, 1, none⟩) (v := .int .i64 r0) x01_16 hbh0; have x10_h0 := cell_below (p := ⟨w5.heap.size, 0, none⟩) (v := .slice a1x n1 c1x) x10_16 hbh0; have x11_h0 := cell_below (p := ⟨w5.heap.size, 1, none⟩) (v := .int .i64 r1) x11_16 hbh0; have g0_h0 := cell_below (p := ⟨w6.heap.size, 0, none⟩) (v := .slice ag R1.length cg) g0_16 hbh0; have g1_h0 := cell_below (p := ⟨w6.heap.size, 1, none⟩) (v := .int .i64 K1) g1_16 hbh0; have R0h : Hid (RdI h0 a0h xs0) := Lib.hid ho.rd; clear ho; (first | clear hb0 hbz hbi | clear hb0 hbi))
        | (go_at_call 16; (with_reducible refine (toAbelian_any a1 n1 c1 xs1 r1 _ ?_ HL1.out hn1).mono ?_); (first | exact (show RdI h0 a1 xs1 from HA1.out.keep (HB_16.out.trans (hbh0.mono HB_16.out.size)) (Nat.le_refl _)) | exact (show RdI (h0.alloc _) a1 xs1 from (HA1.out.keep (HB_16.out.trans (hbh0.mono HB_16.out.size)) (Nat.le_refl _)).alloc _)); rintro e h1 ⟨a1h, c1h, rfl, ho, hb0⟩; (first | (have hbi : Below h0.heap.size h0 h1 := ⟨hb0.os, hb0.tape, hb0.output, hb0.size, hb0.block⟩) | (have hbz : Below (h0.alloc (.cells #[.slice none 0 0, .int .i64 0] 27)).heap.size (h0.alloc (.cells #[.slice none 0 0, .int .i64 0] 27)) h1 := ⟨hb0.os, hb0.tape, hb0.output, hb0.size, hb0.block⟩; have hbi : Below h0.heap.size h0 h1 := below_al1 hbz; have HZh1 : Hid (BX 27 h1 h0.heap.size #[.slice none 0 0, .int .i64 0]) := Lib.hid ((BX.new h0 _ _).keep hbz))); (first | (have HZh1 := Lib.hid (HZh0.out.keep hbi)) | skip); (first | (have lzh1 := HZh1.out.lt) | skip); have hbh1 : Below w16.heap.size w16 h1 := hbh0.trans (hbi.mono hbh0.size); have szh1 := hbh1.size; have sih1 := hbi.size; have p00_h1 := cell_below (p := ⟨w.heap.size, 0, none⟩) (v := .slice a0 n0 c0) p00_16 hbh1; have p01_h1 := cell_below (p := ⟨w.heap.size, 1, none⟩) (v := .int .i64 r0) p01_16 hbh1; have p10_h1 := cell_below (p := ⟨w.heap.size + 1, 0, none⟩) (v := .slice a1 n1 c1) p10_16 hbh1; have p11_h1 := cell_below (p := ⟨w.heap.size + 1, 1, none⟩) (v := .int .i64 r1) p11_16 hbh1; have w0_h1 := cell_below (p := ⟨bs, 0, none⟩) (v := .slice aw R1.length cw) w0_16 hbh1; have w1_h1 := cell_below (p := ⟨bs, 1, none⟩) (v := .int .i64 K1) w1_16 hbh1; have x00_h1 := cell_below (p := ⟨w4.heap.size, 0, none⟩) (v := .slice a0x n0 c0x) x00_16 hbh1; have x01_h1 := cell_below (p := ⟨w4.heap.size, 1, none⟩) (v := .int .i64 r0) x01_16 hbh1; have x10_h1 := cell_below (p := ⟨w5.heap.size, 0, none⟩) (v := .slice a1x n1 c1x) x10_16 hbh1; have x11_h1 := cell_below (p := ⟨w5.heap.size, 1, none⟩) (v := .int .i64 r1) x11_16 hbh1; have g0_h1 := cell_below (p := ⟨w6.heap.size, 0, none⟩) (v := .slice ag R1.length cg) g0_16 hbh1; have g1_h1 := cell_below (p := ⟨w6.heap.size, 1, none⟩) (v := .int .i64 K1) g1_16 hbh1; have R1h : Hid (RdI h1 a1h xs1) := Lib.hid ho.rd; replace R0h : Hid (RdI h1 a0h xs0) := Lib.hid (R0h.out.keep hbi (Nat.le_refl _)); clear ho; (first | clear hb0 hbz hbi | clear hb0 hbi))
        | (go_at_call 40; (with_reducible refine (impl_SumAbelian_any a0h n0 c0h xs0 r0 a1h n1 c1h xs1 r1 _ ?_ HL0.out hn0 HR0.out ?_ HL1.out hn1 HR1.out).mono ?_); (first | exact R0h.out | exact R0h.out.alloc _); (first | exact R1h.out | exact R1h.out.alloc _); rintro e h2 ⟨R3, K3, d3, ah, ch, rfl, hres, ho, hb0⟩; (first | (have hbi : Below h1.heap.size h1 h2 := ⟨hb0.os, hb0.tape, hb0.output, hb0.size, hb0.block⟩) | (have hbz : Below (h1.alloc (.cells #[.slice none 0 0, .int .i64 0] 27)).heap.size (h1.alloc (.cells #[.slice none 0 0, .int .i64 0] 27)) h2 := ⟨hb0.os, hb0.tape, hb0.output, hb0.size, hb0.block⟩; have hbi : Below h1.heap.size h1 h2 := below_al1 hbz; have HZh2 : Hid (BX 27 h2 h1.heap.size #[.slice none 0 0, .int .i64 0]) := Lib.hid ((BX.new h1 _ _).keep hbz))); (first | (have HZh2 := Lib.hid (HZh1.out.keep hbi)) | skip); (first | (have lzh2 := HZh2.out.lt) | skip); have hbh2 : Below w16.heap.size w16 h2 := hbh1.trans (hbi.mono hbh1.size); have szh2 := hbh2.size; have sih2 := hbi.size; have p00_h2 := cell_below (p := ⟨w.heap.size, 0, none⟩) (v := .slice a0 n0 c0) p00_16 hbh2; have p01_h2 := cell_below (p := ⟨w.heap.size, 1, none⟩) (v := .int .i64 r0) p01_16 hbh2; have p10_h2 := cell_below (p := ⟨w.heap.size + 1, 0, none⟩) (v := .slice a1 n1 c1) p10_16 hbh2; have p11_h2 := cell_below (p := ⟨w.heap.size + 1, 1, none⟩) (v := .int .i64 r1) p11_16 hbh2; have w0_h2 := cell_below (p := ⟨bs, 0, none⟩) (v := .slice aw R1.length cw) w0_16 hbh2; have w1_h2 := cell_below (p := ⟨bs, 1, none⟩) (v := .int .i64 K1) w1_16 hbh2; have x00_h2 := cell_below (p := ⟨w4.heap.size, 0, none⟩) (v := .slice a0x n0 c0x) x00_16 hbh2; have x01_h2 := cell_below (p := ⟨w4.heap.size, 1, none⟩) (v := .int .i64 r0) x01_16 hbh2; have x10_h2 := cell_below (p := ⟨w5.heap.size, 0, none⟩) (v := .slice a1x n1 c1x) x10_16 hbh2; have x11_h2 := cell_below (p := ⟨w5.heap.size, 1, none⟩) (v := .int .i64 r1) x11_16 hbh2; have g0_h2 := cell_below (p := ⟨w6.heap.size, 0, none⟩) (v := .slice ag R1.length cg) g0_16 hbh2; have g1_h2 := cell_below (p := ⟨w6.heap.size, 1, none⟩) (v := .int .i64 K1) g1_16 hbh2; obtain ⟨rfl, rfl, rfl⟩ := res_SumAbelian_uniq HRes.out hres; have RHh := Lib.hid ho; (first | (have zch0 : h2.cell? ⟨_, 0, none⟩ = some (.slice none 0 0) := HZh2.out.cell 0) | skip); (first | (have zfh0 := HZh2.out.frz 0) | skip); (first | (have zch1 : h2.cell? ⟨_, 1, none⟩ = some (.int .i64 0) := HZh2.out.cell 1) | skip); (first | (have zfh1 := HZh2.out.frz 1) | skip); clear ho hres; (first | clear hb0 hbz hbi | clear hb0 hbi)))
    all_goals
      first
        | (obtain ⟨w17, hWf⟩ : ∃ x, x = ((h2).setCell ⟨w16.heap.size, 0, none⟩ (.slice ah R1.length ch)).setCell ⟨w16.heap.size, 1, none⟩ (.int .i64 K1) := ⟨_, rfl⟩; rw [← hWf]; have hzf : BX 27 w17 w16.heap.size #[.slice ah R1.length ch, .int .i64 K1] := (by rw [hWf]; exact ((HZh2.out.set 0 _).set 1 _)); have RFh : Hid (RdI w17 ah R1) := Lib.hid (by rw [hWf]; exact ((RHh.out.setCell (by first | (simp; done) | (simp; omega) | omega) _).setCell (by first | (simp; done) | (simp; omega) | omega) _).rd); have hbf : Below w16.heap.size w16 w17 := (by rw [hWf]; exact ((hbh2.setCell (by first | (simp; done) | (simp; omega) | omega) _).setCell (by first | (simp; done) | (simp; omega) | omega) _)); obtain ⟨bh, hbe⟩ : ∃ x, x = w16.heap.size := ⟨_, rfl⟩; rw [← hbe] at hzf ⊢; clear hWf hbe)
        | (obtain ⟨w17, hWf⟩ : ∃ x, x = ((h2).setCell ⟨h0.heap.size, 0, none⟩ (.slice ah R1.length ch)).setCell ⟨h0.heap.size, 1, none⟩ (.int .i64 K1) := ⟨_, rfl⟩; rw [← hWf]; have hzf : BX 27 w17 h0.heap.size #[.slice ah R1.length ch, .int .i64 K1] := (by rw [hWf]; exact ((HZh2.out.set 0 _).set 1 _)); have RFh : Hid (RdI w17 ah R1) := Lib.hid (by rw [hWf]; exact ((RHh.out.setCell (by first | (simp; done) | (simp; omega) | omega) _).setCell (by first | (simp; done) | (simp; omega) | omega) _).rd); have hbf : Below w16.heap.size w16 w17 := (by rw [hWf]; exact ((hbh2.setCell (by first | (simp; done) | (simp; omega) | omega) _).setCell (by first | (simp; done) | (simp; omega) | omega) _)); obtain ⟨bh, hbe⟩ : ∃ x, x = h0.heap.size := ⟨_, rfl⟩; rw [← hbe] at hzf ⊢; clear hWf hbe)
        | (obtain ⟨w17, hWf⟩ : ∃ x, x = ((h2).setCell ⟨h1.heap.size, 0, none⟩ (.slice ah R1.length ch)).setCell ⟨h1.heap.size, 1, none⟩ (.int .i64 K1) := ⟨_, rfl⟩; rw [← hWf]; have hzf : BX 27 w17 h1.heap.size #[.slice ah R1.length ch, .int .i64 K1] := (by rw [hWf]; exact ((HZh2.out.set 0 _).set 1 _)); have RFh : Hid (RdI w17 ah R1) := Lib.hid (by rw [hWf]; exact ((RHh.out.setCell (by first | (simp; done) | (simp; omega) | omega) _).setCell (by first | (simp; done) | (simp; omega) | omega) _).rd); have hbf : Below w16.heap.size w16 w17 := (by rw [hWf]; exact ((hbh2.setCell (by first | (simp; done) | (simp; omega) | omega) _).setCell (by first | (simp; done) | (simp; omega) | omega) _)); obtain ⟨bh, hbe⟩ : ∃ x, x = h1.heap.size := ⟨_, rfl⟩; rw [← hbe] at hzf ⊢; clear hWf hbe)
        | (obtain ⟨w17, hWf⟩ : ∃ x, x = h2.alloc (.cells #[.slice ah R1.length ch, .int .i64 K1] 27) := ⟨_, rfl⟩; rw [← hWf]; have hzf : BX 27 w17 h2.heap.size #[.slice ah R1.length ch, .int .i64 K1] := (by rw [hWf]; exact BX.new h2 _ _); have RFh : Hid (RdI w17 ah R1) := Lib.hid (by rw [hWf]; exact (RHh.out.rd.alloc _)); have hbf : Below w16.heap.size w16 w17 := (by rw [hWf]; exact (hbh2.alloc (by omega) _)); obtain ⟨bh, hbe⟩ : ∃ x, x = h2.heap.size := ⟨_, rfl⟩; rw [← hbe] at hzf ⊢; clear hWf hbe)
      have lbh := hzf.lt
      have sz_17 : w16.heap.size + 0 ≤ w17.heap.size := (by have := hbf.size; omega)
      have p00_17 := cell_below (p := ⟨w.heap.size, 0, none⟩) (v := .slice a0 n0 c0) p00_16 hbf
      have p01_17 := cell_below (p := ⟨w.heap.size, 1, none⟩) (v := .int .i64 r0) p01_16 hbf
      have p10_17 := cell_below (p := ⟨w.heap.size + 1, 0, none⟩) (v := .slice a1 n1 c1) p10_16 hbf
      have p11_17 := cell_below (p := ⟨w.heap.size + 1, 1, none⟩) (v := .int .i64 r1) p11_16 hbf
      have w0_17 := cell_below (p := ⟨bs, 0, none⟩) (v := .slice aw R1.length cw) w0_16 hbf
      have w1_17 := cell_below (p := ⟨bs, 1, none⟩) (v := .int .i64 K1) w1_16 hbf
      have SW_17 : Hid (Snap (0) w3 w17) := Lib.hid (SW_16.out.keep hbf)
      have x00_17 := cell_below (p := ⟨w4.heap.size, 0, none⟩) (v := .slice a0x n0 c0x) x00_16 hbf
      have x01_17 := cell_below (p := ⟨w4.heap.size, 1, none⟩) (v := .int .i64 r0) x01_16 hbf
      have x10_17 := cell_below (p := ⟨w5.heap.size, 0, none⟩) (v := .slice a1x n1 c1x) x10_16 hbf
      have x11_17 := cell_below (p := ⟨w5.heap.size, 1, none⟩) (v := .int .i64 r1) x11_16 hbf
      have g0_17 := cell_below (p := ⟨w6.heap.size, 0, none⟩) (v := .slice ag R1.length cg) g0_16 hbf
      have g1_17 := cell_below (p := ⟨w6.heap.size, 1, none⟩) (v := .int .i64 K1) g1_16 hbf
      have Rg_17 : Hid (RdI w17 ag (marks 1 R1.length)) := Lib.hid (Rg_16.out.keep hbf (Nat.le_refl _))
      have HB_17 : Hid (Below w.heap.size w w17) := Lib.hid (HB_16.out.trans (hbf.mono HB_16.out.size))
      have h0_17 : w17.cell? ⟨bh, 0, none⟩ = some (.slice ah R1.length ch) := hzf.cell 0
      have h1_17 : w17.cell? ⟨bh, 1, none⟩ = some (.int .i64 K1) := hzf.cell 1
      have Rh_17 : Hid (RdI w17 ah R1) := RFh
      clear hzf hbf p00_16 p01_16 p10_16 p11_16 w0_16 w1_16 SW_16 x00_16 x01_16 x10_16 x11_16 g0_16 g1_16 Rg_16 HB_16
      go_wp2_with fail
      refine (eqAbelian_t _ _ _ _ _ _ R1 _ _ (by exact (Rh_17.out)) (by exact ((SW_17.out.rdI RW.out))) rfl rfl (by omega)).mono ?_
      rintro e w18 ⟨rfl, hb⟩
      have sz_18 : w17.heap.size + 0 ≤ w18.heap.size := (by have := hb.size; omega)
      have p00_18 := cell_below (p := ⟨w.heap.size, 0, none⟩) (v := .slice a0 n0 c0) p00_17 hb
      have p01_18 := cell_below (p := ⟨w.heap.size, 1, none⟩) (v := .int .i64 r0) p01_17 hb
      have p10_18 := cell_below (p := ⟨w.heap.size + 1, 0, none⟩) (v := .slice a1 n1 c1) p10_17 hb
      have p11_18 := cell_below (p := ⟨w.heap.size + 1, 1, none⟩) (v := .int .i64 r1) p11_17 hb
      have w0_18 := cell_below (p := ⟨bs, 0, none⟩) (v := .slice aw R1.length cw) w0_17 hb
      have w1_18 := cell_below (p := ⟨bs, 1, none⟩) (v := .int .i64 K1) w1_17 hb
      have SW_18 : Hid (Snap (0) w3 w18) := Lib.hid (SW_17.out.keep hb)
      have x00_18 := cell_below (p := ⟨w4.heap.size, 0, none⟩) (v := .slice a0x n0 c0x) x00_17 hb
      have x01_18 := cell_below (p := ⟨w4.heap.size, 1, none⟩) (v := .int .i64 r0) x01_17 hb
      have x10_18 := cell_below (p := ⟨w5.heap.size, 0, none⟩) (v := .slice a1x n1 c1x) x10_17 hb
      have x11_18 := cell_below (p := ⟨w5.heap.size, 1, none⟩) (v := .int .i64 r1) x11_17 hb
      have g0_18 := cell_below (p := ⟨w6.heap.size, 0, none⟩) (v := .slice ag R1.length cg) g0_17 hb
      have g1_18 := cell_below (p := ⟨w6.heap.size, 1, none⟩) (v := .int .i64 K1) g1_17 hb
      have Rg_18 : Hid (RdI w18 ag (marks 1 R1.length)) := Lib.hid (Rg_17.out.keep hb (Nat.le_refl _))
      have h0_18 := cell_below (p := ⟨bh, 0, none⟩) (v := .slice ah R1.length ch) h0_17 hb
      have h1_18 := cell_below (p := ⟨bh, 1, none⟩) (v := .int .i64 K1) h1_17 hb
      have Rh_18 : Hid (RdI w18 ah R1) := Lib.hid (Rh_17.out.keep hb (Nat.le_refl _))
      have HB_18 : Hid (Below w.heap.size w w18) := Lib.hid (HB_17.out.trans (hb.mono HB_17.out.size))
      clear hb p00_17 p01_17 p10_17 p11_17 w0_17 w1_17 SW_17 x00_17 x01_17 x10_17 x11_17 g0_17 g1_17 Rg_17 h0_17 h1_17 Rh_17 HB_17
      go_wp2_with fail
      refine (heldAbelian_t _ _ _ _ _ _ (by exact Rg_18.out) (by omega) (by omega) (by omega)).mono ?_
      rintro e w19 ⟨rfl, hb⟩
      have sz_19 : w18.heap.size + 0 ≤ w19.heap.size := (by have := hb.size; omega)
      have p00_19 := cell_below (p := ⟨w.heap.size, 0, none⟩) (v := .slice a0 n0 c0) p00_18 hb
      have p01_19 := cell_below (p := ⟨w.heap.size, 1, none⟩) (v := .int .i64 r0) p01_18 hb
      have p10_19 := cell_below (p := ⟨w.heap.size + 1, 0, none⟩) (v := .slice a1 n1 c1) p10_18 hb
      have p11_19 := cell_below (p := ⟨w.heap.size + 1, 1, none⟩) (v := .int .i64 r1) p11_18 hb
      have w0_19 := cell_below (p := ⟨bs, 0, none⟩) (v := .slice aw R1.length cw) w0_18 hb
      have w1_19 := cell_below (p := ⟨bs, 1, none⟩) (v := .int .i64 K1) w1_18 hb
      have SW_19 : Hid (Snap (0) w3 w19) := Lib.hid (SW_18.out.keep hb)
      have x00_19 := cell_below (p := ⟨w4.heap.size, 0, none⟩) (v := .slice a0x n0 c0x) x00_18 hb
      have x01_19 := cell_below (p := ⟨w4.heap.size, 1, none⟩) (v := .int .i64 r0) x01_18 hb
      have x10_19 := cell_below (p := ⟨w5.heap.size, 0, none⟩) (v := .slice a1x n1 c1x) x10_18 hb
      have x11_19 := cell_below (p := ⟨w5.heap.size, 1, none⟩) (v := .int .i64 r1) x11_18 hb
      have g0_19 := cell_below (p := ⟨w6.heap.size, 0, none⟩) (v := .slice ag R1.length cg) g0_18 hb
      have g1_19 := cell_below (p := ⟨w6.heap.size, 1, none⟩) (v := .int .i64 K1) g1_18 hb
      have Rg_19 : Hid (RdI w19 ag (marks 1 R1.length)) := Lib.hid (Rg_18.out.keep hb (Nat.le_refl _))
      have h0_19 := cell_below (p := ⟨bh, 0, none⟩) (v := .slice ah R1.length ch) h0_18 hb
      have h1_19 := cell_below (p := ⟨bh, 1, none⟩) (v := .int .i64 K1) h1_18 hb
      have Rh_19 : Hid (RdI w19 ah R1) := Lib.hid (Rh_18.out.keep hb (Nat.le_refl _))
      have HB_19 : Hid (Below w.heap.size w w19) := Lib.hid (HB_18.out.trans (hb.mono HB_18.out.size))
      clear hb p00_18 p01_18 p10_18 p11_18 w0_18 w1_18 SW_18 x00_18 x01_18 x10_18 x11_18 g0_18 g1_18 Rg_18 h0_18 h1_18 Rh_18 HB_18
      go_wp2_with fail
      go_ret
      exact ⟨rfl, HB_19.out⟩
--ENDLAW
end Go.Proofs.Ytgdialknnjnehaa
