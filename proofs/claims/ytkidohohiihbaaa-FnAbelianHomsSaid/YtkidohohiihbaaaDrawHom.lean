/- The draw of two abelian groups. -/
import Derived.Test.YtkidohohiihbaaaDrawAb2
import Derived.RegionTactic
set_option linter.unusedVariables false
set_option linter.unusedSimpArgs false
namespace Go.Proofs.Ytkidohohiihbaaa
open Go.RowKit

theorem Code0.keep {w w' : World} {a : Option Addr} {m : Nat} {bs : List Int} (h : Code0 w a m bs) (hb : Below w.heap.size w w') : Code0 w' a m bs := ⟨h.len, h.rd.keep hb (Nat.le_refl _), h.rng, h.sm⟩
set_option maxRecDepth 20000 in
set_option maxHeartbeats 2000000 in
theorem DrawCountAbelianHoms_any (a : Option Addr) (m c : Nat) (bs : List Int) (w : World) (hs : Code0 w a m bs) (hmc : m ≤ c) :
    Calls Try.prog 27 #[.slice a m c] w fun e w' => ∃ (xs : List Int) (r : Int) (af : Option Addr) (nf cf : Nat) (ys : List Int) (s : Int) (bf : Option Addr) (mf df : Nat), e = .returned (.tuple #[.agg #[.slice af nf cf, .int .i64 r], .agg #[.slice bf mf df, .int .i64 s]]) ∧ RdI w' af xs ∧ xs.length = nf ∧ nf ≤ 30 ∧ I64 r ∧ RdI w' bf ys ∧ ys.length = mf ∧ mf ≤ 30 ∧ I64 s ∧ Below w.heap.size w w' := by
  have HS := Lib.hid hs
  clear hs
  go_enter Try.func27, Try.ntmps27
  go_wp2_with fail
  obtain ⟨W, hW⟩ : ∃ W, W = (w.alloc (.cells #[.slice none 0 0, .int .i64 0] 37)).alloc (.cells #[.slice none 0 0, .int .i64 0] 37) := ⟨_, rfl⟩
  rw [← hW]
  have HRA : Hid (BX 37 W w.heap.size #[.slice none 0 0, .int .i64 0]) := Lib.hid (by rw [hW]; exact (BX.new _ _ _).alloc _)
  have HRB : Hid (BX 37 W (w.heap.size + 1) #[.slice none 0 0, .int .i64 0]) := Lib.hid (by rw [hW]; have := BX.new (w.alloc (.cells #[.slice none 0 0, .int .i64 0] 37)) 37 #[.slice none 0 0, .int .i64 0]; simpa using this)
  have HB0 : Hid (Below w.heap.size w W) := Lib.hid (by rw [hW]; exact ((Below.refl _ _).alloc (Nat.le_refl _) _).alloc (by simp) _)
  have sW : W.heap.size = w.heap.size + 2 := by rw [hW]; simp
  clear hW
  refine (l01From_any a m c bs W (by exact ⟨HS.out.len, HS.out.rd.keep HB0.out (Nat.le_refl _), HS.out.rng, HS.out.sm⟩) hmc).mono ?_
  rintro e w1 ⟨rfl, hs, hb⟩
  rw [sW] at hs
  have HS1 := Lib.hid hs
  have HRA1 := Lib.hid (HRA.out.keep hb)
  have HRB1 := Lib.hid (HRB.out.keep hb)
  have HB1 : Hid (Below w.heap.size w w1) := Lib.hid (HB0.out.trans (hb.mono HB0.out.size))
  have s1 := hs.lt
  clear hs hb HRA HRB HB0
  go_wp2_with fail
  refine (l05Great_any (w.heap.size + 2) a m c bs w1 HS1.out hmc).mono ?_
  rintro e w2 ⟨xs, r, af, nf, cf, rfl, ho, hnf, hxi, hri, hs, hc⟩
  have s2 := hc.size
  have HS2 := Lib.hid hs
  have HO2 := Lib.hid ho
  have HR := Lib.hid hri
  have HRA2 := Lib.hid (HRA1.out.chg hc (by omega))
  have HRB2 := Lib.hid (HRB1.out.chg hc (by omega))
  have HB2 : Hid (Below w.heap.size w w2) := Lib.hid (HB1.out.trans (hc.up (by omega) (by omega)))
  clear ho hxi hri hs hc HRA1 HRB1 HB1
  go_wp2_with fail
  refine (l05Great_any (w.heap.size + 2) a m c bs w2 HS2.out hmc).mono ?_
  rintro e w3 ⟨ys, s, bf, mf, df, rfl, ho, hmf, hyi, hsi, hs, hc⟩
  have s3 := hc.size
  have HS3 := Lib.hid hs
  have HO3 := Lib.hid ho
  have HO23 := Lib.hid (HO2.out.kept hc (fun p hp e => by have := (HO2.out.block p hp).1; omega))
  have HT := Lib.hid hsi
  have HRA3 := Lib.hid (HRA2.out.chg hc (by omega))
  have HRB3 := Lib.hid (HRB2.out.chg hc (by omega))
  have HB3 : Hid (Below w.heap.size w w3) := Lib.hid (HB2.out.trans (hc.up (by omega) (by omega)))
  clear ho hyi hsi hs hc HRA2 HRB2 HB2 HO2
  go_wp2_with fail
  obtain ⟨W4, hW4⟩ : ∃ x, x = (w3.alloc (.cells #[.slice af nf cf, .int .i64 r] 37)).alloc (.cells #[.slice bf mf df, .int .i64 s] 37) := ⟨_, rfl⟩
  rw [← hW4]
  have HX4 : Hid (BX 37 W4 w3.heap.size #[.slice af nf cf, .int .i64 r]) := Lib.hid (by rw [hW4]; exact (BX.new _ _ _).alloc _)
  have HY4 : Hid (BX 37 W4 (w3.heap.size + 1) #[.slice bf mf df, .int .i64 s]) := Lib.hid (by rw [hW4]; have := BX.new (w3.alloc (.cells #[.slice af nf cf, .int .i64 r] 37)) 37 #[.slice bf mf df, .int .i64 s]; simpa using this)
  have HRA4 : Hid (BX 37 W4 w.heap.size #[.slice none 0 0, .int .i64 0]) := Lib.hid (by rw [hW4]; exact (HRA3.out.alloc _).alloc _)
  have HRB4 : Hid (BX 37 W4 (w.heap.size + 1) #[.slice none 0 0, .int .i64 0]) := Lib.hid (by rw [hW4]; exact (HRB3.out.alloc _).alloc _)
  have hb4 : Below w3.heap.size w3 W4 := by rw [hW4]; exact ((Below.refl _ _).alloc (Nat.le_refl _) _).alloc (by simp) _
  have HB4 : Hid (Below w.heap.size w W4) := Lib.hid (HB3.out.trans (hb4.mono (by omega)))
  have HP4 := Lib.hid (HO23.out.keep hb4 (Nat.le_refl _))
  have HQ4 := Lib.hid (HO3.out.keep hb4 (Nat.le_refl _))
  have HS4 := Lib.hid (HS3.out.keep hb4)
  have s4 : W4.heap.size = w3.heap.size + 2 := by rw [hW4]; simp
  have HLA : Hid (∀ p, af = some p → p.block ≠ w3.heap.size + 1) := Lib.hid (fun p hp => by have := (HO23.out.block p hp).2; omega)
  have HLB : Hid (∀ p, bf = some p → p.block ≠ w3.heap.size + 1) := Lib.hid (fun p hp => by have := (HO3.out.block p hp).2; omega)
  clear hW4 hb4 HRA3 HRB3 HB3 HO3 HO23 HS3
  have HSZ := Lib.hid s4
  clear s4
  refine (l01Next_any (w.heap.size + 2) a m c bs 4 W4 HS4.out (by omega) hmc).mono ?_
  rintro e w5 ⟨v, rfl, hv0, hv1, hs, hc⟩
  have s5 := hc.size
  have HX5 := Lib.hid (HX4.out.chg hc (by omega))
  have HY5 := Lib.hid (HY4.out.chg hc (by omega))
  have HRA5 := Lib.hid (HRA4.out.chg hc (by omega))
  have HRB5 := Lib.hid (HRB4.out.chg hc (by omega))
  have HP5 := Lib.hid (HP4.out.kept hc (fun p hp e => by have := (HP4.out.block p hp).1; omega))
  have HQ5 := Lib.hid (HQ4.out.kept hc (fun p hp e => by have := (HQ4.out.block p hp).1; omega))
  have HB5 : Hid (Below w.heap.size w w5) := Lib.hid (HB4.out.trans (hc.up (by omega) (by have := HSZ.out; omega)))
  have HS5 : Hid (w3.heap.size + 2 ≤ w5.heap.size) := Lib.hid (by have := HSZ.out; omega)
  clear hs hc HX4 HY4 HRA4 HRB4 HP4 HQ4 HB4 hv1
  by_cases h0 : 0 < v
  · have d0 : decide (0 < v) = true := decide_eq_true h0
    have HH : Hid (BX 37 (w5.setCell ⟨w3.heap.size + 1, 1, none⟩ (.int .i64 0)) w3.heap.size #[.slice af nf cf, .int .i64 r] ∧ BX 37 (w5.setCell ⟨w3.heap.size + 1, 1, none⟩ (.int .i64 0)) (w3.heap.size + 1) #[.slice bf mf df, .int .i64 0] ∧ BX 37 (w5.setCell ⟨w3.heap.size + 1, 1, none⟩ (.int .i64 0)) w.heap.size #[.slice none 0 0, .int .i64 0] ∧ BX 37 (w5.setCell ⟨w3.heap.size + 1, 1, none⟩ (.int .i64 0)) (w.heap.size + 1) #[.slice none 0 0, .int .i64 0] ∧ True) := Lib.hid ⟨HX5.out.other (by simp) _, by simpa using HY5.out.set 1 (.int .i64 0), HRA5.out.other (by simp; omega) _, HRB5.out.other (by simp; omega) _, trivial⟩
    have g1 := HY5.out.frz 1
    have g0 := HY5.out.lt
    have g2 := HY5.out.cell 1
    go_wp2_with fail
    obtain ⟨w6, hw6⟩ : ∃ x, x = w5.setCell ⟨w3.heap.size + 1, 1, none⟩ (.int .i64 0) := ⟨_, rfl⟩
    rw [← hw6]
    rw [← hw6] at HH
    have hc6 : Below (w3.heap.size + 1) w5 w6 := by rw [hw6]; exact (Below.refl _ _).setCell (p := ⟨w3.heap.size + 1, 1, none⟩) (Nat.le_refl _) _
    have HP6 : Hid (OwnI 2 w6 w1.heap.size af nf cf xs) := Lib.hid (HP5.out.same (fun p hp => by rw [hw6]; exact Below.heap_setCell _ _ _ _ (HLA.out p hp)))
    have HQ6 : Hid (OwnI 2 w6 w2.heap.size bf mf df ys) := Lib.hid (HQ5.out.same (fun p hp => by rw [hw6]; exact Below.heap_setCell _ _ _ _ (HLB.out p hp)))
    have HB6 : Hid (Below w.heap.size w w6) := Lib.hid (HB5.out.trans (hc6.mono (by omega)))
    clear g0 g1 g2 hw6 hc6
    have q0 := HH.out.1.cell 0
    have q1 := HH.out.1.cell 1
    have q2 := HH.out.2.1.cell 0
    have q3 := HH.out.2.1.cell 1
    have r0 := HH.out.2.2.1.cell 0
    have r1 := HH.out.2.2.1.cell 1
    have r2 := HH.out.2.2.2.1.cell 0
    have r3 := HH.out.2.2.2.1.cell 1
    have f0 := HH.out.2.2.1.frz 0
    have f1 := HH.out.2.2.1.frz 1
    have f2 := HH.out.2.2.2.1.frz 0
    have f3 := HH.out.2.2.2.1.frz 1
    simp at q0 q1 q2 q3 r0 r1 r2 r3
    have l0 := HH.out.2.2.1.lt
    have l1 := HH.out.2.2.2.1.lt
    go_wp2_with fail
    go_region
    have hbz : Below w.heap.size w6 ((((w6.setCell ⟨w.heap.size, 0, none⟩ (.slice af nf cf)).setCell ⟨w.heap.size, 1, none⟩ (.int .i64 r)).setCell ⟨w.heap.size + 1, 0, none⟩ (.slice bf mf df)).setCell ⟨w.heap.size + 1, 1, none⟩ (.int .i64 0)) := ((((Below.refl _ _).setCell (p := ⟨w.heap.size, 0, none⟩) (Nat.le_refl _) _).setCell (p := ⟨w.heap.size, 1, none⟩) (Nat.le_refl _) _).setCell (p := ⟨w.heap.size + 1, 0, none⟩) (show w.heap.size ≤ w.heap.size + 1 by omega) _).setCell (p := ⟨w.heap.size + 1, 1, none⟩) (show w.heap.size ≤ w.heap.size + 1 by omega) _
    have HZ : Hid (∀ q, RdI (((((w6.setCell ⟨w.heap.size, 0, none⟩ (.slice af nf cf)).setCell ⟨w.heap.size, 1, none⟩ (.int .i64 r)).setCell ⟨w.heap.size + 1, 0, none⟩ (.slice bf mf df)).setCell ⟨w.heap.size + 1, 1, none⟩ (.int .i64 0)).drewN q) af xs ∧ RdI (((((w6.setCell ⟨w.heap.size, 0, none⟩ (.slice af nf cf)).setCell ⟨w.heap.size, 1, none⟩ (.int .i64 r)).setCell ⟨w.heap.size + 1, 0, none⟩ (.slice bf mf df)).setCell ⟨w.heap.size + 1, 1, none⟩ (.int .i64 0)).drewN q) bf ys ∧ Below w.heap.size w (((((w6.setCell ⟨w.heap.size, 0, none⟩ (.slice af nf cf)).setCell ⟨w.heap.size, 1, none⟩ (.int .i64 r)).setCell ⟨w.heap.size + 1, 0, none⟩ (.slice bf mf df)).setCell ⟨w.heap.size + 1, 1, none⟩ (.int .i64 0)).drewN q)) := Lib.hid (fun q => ⟨(show RdI ((((w6.setCell ⟨w.heap.size, 0, none⟩ (.slice af nf cf)).setCell ⟨w.heap.size, 1, none⟩ (.int .i64 r)).setCell ⟨w.heap.size + 1, 0, none⟩ (.slice bf mf df)).setCell ⟨w.heap.size + 1, 1, none⟩ (.int .i64 0)) af xs from HP6.out.rd.same (fun p hp => by have := (HP6.out.block p hp).1; rw [Below.heap_setCell _ _ _ _ (show p.block ≠ w.heap.size + 1 by omega), Below.heap_setCell _ _ _ _ (show p.block ≠ w.heap.size + 1 by omega), Below.heap_setCell _ _ _ _ (show p.block ≠ w.heap.size by omega), Below.heap_setCell _ _ _ _ (show p.block ≠ w.heap.size by omega)])), (show RdI ((((w6.setCell ⟨w.heap.size, 0, none⟩ (.slice af nf cf)).setCell ⟨w.heap.size, 1, none⟩ (.int .i64 r)).setCell ⟨w.heap.size + 1, 0, none⟩ (.slice bf mf df)).setCell ⟨w.heap.size + 1, 1, none⟩ (.int .i64 0)) bf ys from HQ6.out.rd.same (fun p hp => by have := (HQ6.out.block p hp).1; rw [Below.heap_setCell _ _ _ _ (show p.block ≠ w.heap.size + 1 by omega), Below.heap_setCell _ _ _ _ (show p.block ≠ w.heap.size + 1 by omega), Below.heap_setCell _ _ _ _ (show p.block ≠ w.heap.size by omega), Below.heap_setCell _ _ _ _ (show p.block ≠ w.heap.size by omega)])), below_drewN' (HB6.out.trans (hbz.mono (Nat.le_refl _))) _⟩)
    have A0 := (((HH.out.2.2.1.set 0 (.slice af nf cf)).set 1 (.int .i64 r)).other (p := ⟨w.heap.size + 1, 0, none⟩) (by simp) (.slice bf mf df)).other (p := ⟨w.heap.size + 1, 1, none⟩) (by simp) (.int .i64 0)
    have B0 := ((((HH.out.2.2.2.1.other (p := ⟨w.heap.size, 0, none⟩) (by simp) (.slice af nf cf)).other (p := ⟨w.heap.size, 1, none⟩) (by simp) (.int .i64 r)).set 0 (.slice bf mf df)).set 1 (.int .i64 0))
    have u0 := A0.cell 0
    have u1 := A0.cell 1
    have u2 := B0.cell 0
    have u3 := B0.cell 1
    simp at u0 u1 u2 u3
    clear A0 B0 hbz
    go_wp2_with fail
    refine bodyPost_ret (v := .tuple #[.agg #[.slice af nf cf, .int .i64 r], .agg #[.slice bf mf df, .int .i64 0]]) (by simp [results, Try.results27, go_sem, u0, u1, u2, u3]) rfl ⟨xs, r, af, nf, cf, ys, 0, bf, mf, df, rfl, (HZ.out 1).1, HP6.out.len, hnf, HR.out, (HZ.out 1).2.1, HQ6.out.len, hmf, by unfold I64; omega, (HZ.out 1).2.2⟩

  · have d0 : decide (0 < v) = false := decide_eq_false h0
    have HH : Hid (BX 37 w5 w3.heap.size #[.slice af nf cf, .int .i64 r] ∧ BX 37 w5 (w3.heap.size + 1) #[.slice bf mf df, .int .i64 s] ∧ BX 37 w5 w.heap.size #[.slice none 0 0, .int .i64 0] ∧ BX 37 w5 (w.heap.size + 1) #[.slice none 0 0, .int .i64 0] ∧ True) := Lib.hid ⟨HX5.out, HY5.out, HRA5.out, HRB5.out, trivial⟩
    have q0 := HH.out.1.cell 0
    have q1 := HH.out.1.cell 1
    have q2 := HH.out.2.1.cell 0
    have q3 := HH.out.2.1.cell 1
    have r0 := HH.out.2.2.1.cell 0
    have r1 := HH.out.2.2.1.cell 1
    have r2 := HH.out.2.2.2.1.cell 0
    have r3 := HH.out.2.2.2.1.cell 1
    have f0 := HH.out.2.2.1.frz 0
    have f1 := HH.out.2.2.1.frz 1
    have f2 := HH.out.2.2.2.1.frz 0
    have f3 := HH.out.2.2.2.1.frz 1
    simp at q0 q1 q2 q3 r0 r1 r2 r3
    have l0 := HH.out.2.2.1.lt
    have l1 := HH.out.2.2.2.1.lt
    go_wp2_with fail
    go_region
    have hbz : Below w.heap.size w5 ((((w5.setCell ⟨w.heap.size, 0, none⟩ (.slice af nf cf)).setCell ⟨w.heap.size, 1, none⟩ (.int .i64 r)).setCell ⟨w.heap.size + 1, 0, none⟩ (.slice bf mf df)).setCell ⟨w.heap.size + 1, 1, none⟩ (.int .i64 s)) := ((((Below.refl _ _).setCell (p := ⟨w.heap.size, 0, none⟩) (Nat.le_refl _) _).setCell (p := ⟨w.heap.size, 1, none⟩) (Nat.le_refl _) _).setCell (p := ⟨w.heap.size + 1, 0, none⟩) (show w.heap.size ≤ w.heap.size + 1 by omega) _).setCell (p := ⟨w.heap.size + 1, 1, none⟩) (show w.heap.size ≤ w.heap.size + 1 by omega) _
    have HZ : Hid (∀ q, RdI (((((w5.setCell ⟨w.heap.size, 0, none⟩ (.slice af nf cf)).setCell ⟨w.heap.size, 1, none⟩ (.int .i64 r)).setCell ⟨w.heap.size + 1, 0, none⟩ (.slice bf mf df)).setCell ⟨w.heap.size + 1, 1, none⟩ (.int .i64 s)).drewN q) af xs ∧ RdI (((((w5.setCell ⟨w.heap.size, 0, none⟩ (.slice af nf cf)).setCell ⟨w.heap.size, 1, none⟩ (.int .i64 r)).setCell ⟨w.heap.size + 1, 0, none⟩ (.slice bf mf df)).setCell ⟨w.heap.size + 1, 1, none⟩ (.int .i64 s)).drewN q) bf ys ∧ Below w.heap.size w (((((w5.setCell ⟨w.heap.size, 0, none⟩ (.slice af nf cf)).setCell ⟨w.heap.size, 1, none⟩ (.int .i64 r)).setCell ⟨w.heap.size + 1, 0, none⟩ (.slice bf mf df)).setCell ⟨w.heap.size + 1, 1, none⟩ (.int .i64 s)).drewN q)) := Lib.hid (fun q => ⟨(show RdI ((((w5.setCell ⟨w.heap.size, 0, none⟩ (.slice af nf cf)).setCell ⟨w.heap.size, 1, none⟩ (.int .i64 r)).setCell ⟨w.heap.size + 1, 0, none⟩ (.slice bf mf df)).setCell ⟨w.heap.size + 1, 1, none⟩ (.int .i64 s)) af xs from HP5.out.rd.same (fun p hp => by have := (HP5.out.block p hp).1; rw [Below.heap_setCell _ _ _ _ (show p.block ≠ w.heap.size + 1 by omega), Below.heap_setCell _ _ _ _ (show p.block ≠ w.heap.size + 1 by omega), Below.heap_setCell _ _ _ _ (show p.block ≠ w.heap.size by omega), Below.heap_setCell _ _ _ _ (show p.block ≠ w.heap.size by omega)])), (show RdI ((((w5.setCell ⟨w.heap.size, 0, none⟩ (.slice af nf cf)).setCell ⟨w.heap.size, 1, none⟩ (.int .i64 r)).setCell ⟨w.heap.size + 1, 0, none⟩ (.slice bf mf df)).setCell ⟨w.heap.size + 1, 1, none⟩ (.int .i64 s)) bf ys from HQ5.out.rd.same (fun p hp => by have := (HQ5.out.block p hp).1; rw [Below.heap_setCell _ _ _ _ (show p.block ≠ w.heap.size + 1 by omega), Below.heap_setCell _ _ _ _ (show p.block ≠ w.heap.size + 1 by omega), Below.heap_setCell _ _ _ _ (show p.block ≠ w.heap.size by omega), Below.heap_setCell _ _ _ _ (show p.block ≠ w.heap.size by omega)])), below_drewN' (HB5.out.trans (hbz.mono (Nat.le_refl _))) _⟩)
    have A0 := (((HH.out.2.2.1.set 0 (.slice af nf cf)).set 1 (.int .i64 r)).other (p := ⟨w.heap.size + 1, 0, none⟩) (by simp) (.slice bf mf df)).other (p := ⟨w.heap.size + 1, 1, none⟩) (by simp) (.int .i64 s)
    have B0 := ((((HH.out.2.2.2.1.other (p := ⟨w.heap.size, 0, none⟩) (by simp) (.slice af nf cf)).other (p := ⟨w.heap.size, 1, none⟩) (by simp) (.int .i64 r)).set 0 (.slice bf mf df)).set 1 (.int .i64 s))
    have u0 := A0.cell 0
    have u1 := A0.cell 1
    have u2 := B0.cell 0
    have u3 := B0.cell 1
    simp at u0 u1 u2 u3
    clear A0 B0 hbz
    go_wp2_with fail
    refine bodyPost_ret (v := .tuple #[.agg #[.slice af nf cf, .int .i64 r], .agg #[.slice bf mf df, .int .i64 s]]) (by simp [results, Try.results27, go_sem, u0, u1, u2, u3]) rfl ⟨xs, r, af, nf, cf, ys, s, bf, mf, df, rfl, (HZ.out 1).1, HP5.out.len, hnf, HR.out, (HZ.out 1).2.1, HQ5.out.len, hmf, HT.out, (HZ.out 1).2.2⟩

end Go.Proofs.Ytkidohohiihbaaa
