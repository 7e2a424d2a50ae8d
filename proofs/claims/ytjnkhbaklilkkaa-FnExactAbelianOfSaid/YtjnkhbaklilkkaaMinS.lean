/- The greatest common divisor of the minors of a table: the reference's function. -/
import Derived.Test.YtjnkhbaklilkkaaMin
import Derived.Deep.RegionHeld3
set_option linter.unusedVariables false
set_option linter.unusedSimpArgs false
namespace Go.Proofs.Ytjnkhbaklilkkaa
open Go.RowKit

theorem push_reg {T : TypeId} {w5 w6 W w7 : World} {a2 a4 : Option Addr} {y c2 c4 : Nat} {xs : List Int} {x : Int} (o : Obj) (h : OwnI T w6 w5.heap.size a2 y c2 xs) (hb : Below w5.heap.size w5 w6)
    (r4 : w7.ownsRow w5.heap.size T 1 (.slice a4 (y + 1) c4) (y + 1) (xs.map (Value.int .i64) ++ [.int .i64 x])) (g4 : Chg (fun k => ∃ p, a2 = some p ∧ p.block = k) W w7) (h1 : W.heap = (w6.alloc o).heap) (h2 : W.os = w6.os) (h3 : W.tape = w6.tape) (h4 : W.output = w6.output) : OwnI T w7 w5.heap.size a4 (y + 1) c4 (xs ++ [x]) ∧ Below w5.heap.size w5 w7 := by
  have hk := hb.alloc hb.size o
  have hW : Below w5.heap.size w5 W := ⟨h2.trans hb.os, h3.trans hb.tape, h4.trans hb.output, by rw [h1]; exact hk.size, fun k hk' => by rw [h1]; exact hk.block k hk'⟩
  exact ⟨OwnI.pushed r4, hW.trans (g4.below hW.size (fun b hb' hx => by obtain ⟨x, hx, e⟩ := hx; have := (h.block x hx).1; omega))⟩
set_option maxRecDepth 20000 in
set_option maxHeartbeats 4000000 in
theorem l04Minors_any (Q k : Nat) (a : Option Addr) (n c : Nat) (xss : List (List Int)) (w : World) (ha : RdR w a xss) (hl : xss.length = n) (ht : TbOk xss Q) (hcp : n ≤ c) (hk1 : 1 ≤ k) (hk : k ≤ 4) :
    Calls Try.prog 62 #[.slice a n c, .int .i64 Q, .int .i64 k] w fun e w' => e = .returned (.int .i64 (mdiv xss n Q k)) ∧ Below w.heap.size w w' := by
  have HA := Lib.hid ha
  have HL := Lib.hid hl
  have HT := Lib.hid ht
  have hn12 : n ≤ 12 := by have := ht.len; omega
  have hQ4 : Q ≤ 4 := by have := ht.q4; omega
  have HE := Lib.hid (ht.ent (Q := Q) rfl)
  rw [hl] at HE
  clear ha hl ht
  rw [← mdiv_pks]
  go_enter Try.func62, Try.ntmps62
  go_wp2_with fail
  refine (l04Picks_any n k (by omega) hk _).mono ?_
  rintro e w1 ⟨aR, cR, rfl, hR, hcR, hb⟩
  have HR1 := Lib.hid hR
  have HB1 := Lib.hid hb
  clear hR hb
  go_wp2_with fail
  refine (l04Picks_any Q k (by omega) hk _).mono ?_
  rintro e w3 ⟨aC, cC, rfl, hC, hcC, hb⟩
  have HR3 := Lib.hid (HR1.out.keep hb (Nat.le_refl _))
  have HC3 := Lib.hid hC
  have HB3 : Hid (Below w.heap.size w w3) := Lib.hid (HB1.out.trans (hb.mono HB1.out.size))
  have HA3 := Lib.hid (HA.out.keep HB3.out (Nat.le_refl _))
  have hsR := pks_small (n := n) (k := k) (by omega) hk
  have hsC := pks_small (n := Q) (k := k) (by omega) hk
  clear hC hb HR1 HB1
  go_wp2_with fail
  go_loopw [10, 7] (fun i g wr => ∃ I : Nat, I ≤ (pks n k).length ∧ i = .int .i64 I ∧ g = .int .i64 (gfold (mls xss (pks n k) (pks Q k) I 0)) ∧ Hid (Below w3.heap.size w3 wr)) (fun i _ _ => (pks n k).length - (intOf i).toNat)
  case atStart => exact ⟨0, Nat.zero_le _, rfl, by rw [mls_zero]; rfl, Lib.hid (Below.refl _ _)⟩
  case round =>
    obtain ⟨I, hI, rfl, rfl, HW⟩ := hrel
    obtain ⟨w2, rfl⟩ : ∃ x, x = wr := ⟨wr, rfl⟩
    by_cases hIt : I < (pks n k).length
    · have HPr := Lib.hid (pick_pks hIt)
      have b0 : decide ((I : Int) < ((pks n k).length : Int)) = true := decide_eq_true (by omega)
      go_wp2_with fail
      go_loopw [11, 7] (fun i g wr => ∃ J : Nat, J ≤ (pks Q k).length ∧ i = .int .i64 J ∧ g = .int .i64 (gfold (mls xss (pks n k) (pks Q k) I J)) ∧ Hid (Below w3.heap.size w3 wr)) (fun i _ _ => (pks Q k).length - (intOf i).toNat)
      case atStart => exact ⟨0, Nat.zero_le _, rfl, rfl, HW⟩
      case round =>
        obtain ⟨J, hJ, rfl, rfl, HV⟩ := hrel
        obtain ⟨w4, rfl⟩ : ∃ x, x = wr := ⟨wr, rfl⟩
        by_cases hJt : J < (pks Q k).length
        · have HPc := Lib.hid (pick_pks hJt)
          have b1 : decide ((J : Int) < ((pks Q k).length : Int)) = true := decide_eq_true (by omega)
          obtain ⟨bR, oR, aI, cI, rfl, dI, rI, kI⟩ := rdR_at (HR3.out.keep HV.out (Nat.le_refl _)) hIt
          obtain ⟨bC, oC, aJ, cJ, rfl, dJ, rJ, kJ⟩ := rdR_at (HC3.out.keep HV.out (Nat.le_refl _)) hJt
          rw [HPr.out.len] at dI kI
          rw [HPc.out.len] at dJ kJ
          have RI4 := Lib.hid rI
          have RJ := Lib.hid rJ
          have DI := Lib.hid dI
          have DJ := Lib.hid dJ
          have HSQ := Lib.hid (mnr_sq HPr.out HPc.out HE.out)
          obtain ⟨g0, g1⟩ := gf_bd (i := I) (j := J) (fun r hr => Pick.of (mem_pks.1 hr)) (fun c hc => Pick.of (mem_pks.1 hc)) HE.out hk (.inl hIt)
          clear rI rJ dI dJ
          go_wp2_with fail
          go_loopw [13, 12] (fun i v wr => ∃ (x : Nat) (a1 : Option Addr) (c1 : Nat) (A : Nat → Option Addr) (C : Nat → Nat), x ≤ k ∧ i = .int .i64 x ∧ v = .slice a1 x c1 ∧ Hid (OwnR 35 2 wr w4.heap.size a1 x c1 ((partR xss (rw_ (pks n k) I) (rw_ (pks Q k) J)).take x) A C ∧ Below w4.heap.size w4 wr)) (fun i _ _ => k - (intOf i).toNat)
          case atStart => exact ⟨0, _, 0, fun _ => none, fun _ => 0, Nat.zero_le _, rfl, rfl, Lib.hid ⟨by simpa using OwnR.empty w4 _ _ _ _, (Below.refl _ _).alloc (Nat.le_refl _) _⟩⟩
          case round =>
            obtain ⟨x, a1, c1, A, C, hx, rfl, rfl, HX⟩ := hrel
            obtain ⟨w5, rfl⟩ : ∃ x, x = wr := ⟨wr, rfl⟩
            have dI := cell_below DI.out HX.out.2
            by_cases hxt : x < k
            · obtain ⟨b6, o6, rfl, d6⟩ := rdI_at (RI4.out.keep HX.out.2 (Nat.le_refl _)) (show x < _ by rw [HPr.out.len]; exact hxt)
              obtain ⟨e0, e1⟩ := HPr.out.rng x hxt
              obtain ⟨rx, hrx⟩ : ∃ rx : Nat, el (rw_ (pks n k) I) x = rx := ⟨(el (rw_ (pks n k) I) x).toNat, by omega⟩
              rw [hrx] at d6 e0 e1
              have hrn : rx < n := by omega
              have HRX := Lib.hid hrx
              have hs5 := HX.out.2.size
              have b2 : decide ((x : Int) < (k : Int)) = true := decide_eq_true (by omega)
              have DI5 := Lib.hid dI
              have D6 := Lib.hid d6
              clear hrx e0 e1 d6
              go_wp2_with fail
              clear dI
              go_loopw [15, 14] (fun i v wr => ∃ (y : Nat) (a2 : Option Addr) (c2 : Nat), y ≤ k ∧ i = .int .i64 y ∧ v = .slice a2 y c2 ∧ Hid (OwnI 2 wr w5.heap.size a2 y c2 ((prow xss (rw_ (pks Q k) J) rx).take y) ∧ Below w5.heap.size w5 wr)) (fun i _ _ => k - (intOf i).toNat)
              case atStart => exact ⟨0, _, 0, Nat.zero_le _, rfl, rfl, Lib.hid ⟨by simpa using OwnI.empty w5 _, (Below.refl _ _).alloc (Nat.le_refl _) _⟩⟩
              case round =>
                obtain ⟨y, a2, c2, hy, rfl, rfl, HY⟩ := hrel
                obtain ⟨w6, rfl⟩ : ∃ x, x = wr := ⟨wr, rfl⟩
                have HB6 : Hid (Below w4.heap.size w4 w6) := Lib.hid (HX.out.2.trans (HY.out.2.mono hs5))
                have dJ := cell_below DJ.out HB6.out
                by_cases hyt : y < k
                · obtain ⟨b7, o7, rfl, d7⟩ := rdI_at (RJ.out.keep HX.out.2 (Nat.le_refl _)) (show y < _ by rw [HPc.out.len]; exact hyt)
                  obtain ⟨f0, f1⟩ := HPc.out.rng y hyt
                  obtain ⟨cy, hcy⟩ : ∃ cy : Nat, el (rw_ (pks Q k) J) y = cy := ⟨(el (rw_ (pks Q k) J) y).toNat, by omega⟩
                  rw [hcy] at d7 f0 f1
                  have hcq : cy < Q := by omega
                  have HCY := Lib.hid hcy
                  have HB7 : Hid (Below w3.heap.size w3 w5) := Lib.hid (HV.out.trans (HX.out.2.mono HV.out.size))
                  have DJ5 := Lib.hid (cell_below DJ.out HX.out.2)
                  have dI := cell_below DI5.out HY.out.2
                  have d6 := cell_below D6.out HY.out.2
                  obtain ⟨b8, o8, a8, c8, rfl, d8, r8, k8⟩ := rdR_at (HA3.out.keep HB7.out (Nat.le_refl _)) (show rx < xss.length by rw [HL.out]; exact hrn)
                  have hlen8 : (rw_ xss rx).length = Q := by have := (HT.out.row rx (by rw [HL.out]; exact hrn)).1; omega
                  obtain ⟨b9, o9, rfl, d9⟩ := rdI_at r8 (show cy < _ by omega)
                  rw [hlen8] at d8 k8
                  have hs6 := HY.out.2.size
                  have J1 : (I : Int) < ((pks n k).length : Int) := by omega
                  have J2 : (J : Int) < ((pks Q k).length : Int) := by omega
                  have J3 : (x : Int) < (k : Int) := by omega
                  have J4 : (y : Int) < (k : Int) := by omega
                  have J5 : (rx : Int) < (n : Int) := by omega
                  have J6 : (cy : Int) < (Q : Int) := by omega
                  have D7 := Lib.hid d7
                  have D8 := Lib.hid d8
                  have D9 := Lib.hid d9
                  clear hcy f0 f1 r8 hlen8 d7 d8 d9
                  have d7 := cell_below D7.out HY.out.2
                  have d8 := cell_below D8.out HY.out.2
                  have d9 := cell_below D9.out HY.out.2
                  go_wp2_with fail
                  have bl1 : bR < w6.heap.size := block_lt dI
                  have bl2 : b6 < w6.heap.size := block_lt d6
                  have bl3 : bC < w6.heap.size := block_lt dJ
                  have bl4 : b7 < w6.heap.size := block_lt d7
                  have bl5 : b8 < w6.heap.size := block_lt d8
                  have bl6 : b9 < w6.heap.size := block_lt d9
                  have HCA : Hid ((w6.alloc (.cells #[.int .i64 (el (rw_ xss rx) cy)] 2)).cell? ⟨w6.heap.size, 0, none⟩ = some (.int .i64 (el (rw_ xss rx) cy))) := Lib.hid ((World.cell?_alloc_at _ _ _ _ rfl).trans rfl)
                  have HOA : Hid ((w6.alloc (.cells #[.int .i64 (el (rw_ xss rx) cy)] 2)).ownsRow w5.heap.size 2 1 (.slice a2 y c2) y (((prow xss (rw_ (pks Q k) J) rx).take y).map (Value.int .i64))) := Lib.hid (ownsRow_same HY.out.1 (fun p hp => Below.heap_alloc _ _ _ (HY.out.1.block p hp).2))
                  have HSA : Hid (w5.heap.size ≤ (w6.alloc (.cells #[.int .i64 (el (rw_ xss rx) cy)] 2)).heap.size) := Lib.hid (Nat.le_trans hs6 (by simp))
                  go_region_held3 (fun w' => w'.cell? ⟨bR, oR + I, none⟩ = some (.slice (some ⟨b6, o6, none⟩) k cI) ∧ w'.cell? ⟨b6, o6 + x, none⟩ = some (.int .i64 rx) ∧ w'.cell? ⟨b8, o8 + rx, none⟩ = some (.slice (some ⟨b9, o9, none⟩) Q c8) ∧ w'.cell? ⟨bC, oC + J, none⟩ = some (.slice (some ⟨b7, o7, none⟩) k cJ) ∧ w'.cell? ⟨b7, o7 + y, none⟩ = some (.int .i64 cy) ∧ w'.cell? ⟨b9, o9 + cy, none⟩ = some (.int .i64 (el (rw_ xss rx) cy))) (go_keep)
                    (first
                      | (refine step_pushW rfl (.tmp 55) (.tmp 75) 35 rfl w5.heap.size 2 (.int .i64 0) 8 Try.underlying35 Try.info2 rfl (by decide) (.int .i64 (el (rw_ xss rx) cy)) rfl a2 y c2 (((prow xss (rw_ (pks Q k) J) rx).take y).map (Value.int .i64)) w6.heap.size rfl rfl ?_ ?_ ?_ ?_ ?_; (exact HCA.out); (exact HOA.out); omega; (exact HSA.out); rintro a4 c4 w7 r4 q4 g4; have RA := Lib.hid (push_reg (.cells #[.int .i64 (el (rw_ xss rx) cy)] 2) HY.out.1 HY.out.2 r4 g4 rfl rfl rfl rfl); clear r4 q4 g4; have t1 := cell_below DI5.out RA.out.2; have t2 := cell_below D6.out RA.out.2; have t3 := cell_below D8.out RA.out.2; have t4 := cell_below DJ5.out RA.out.2; have t5 := cell_below D7.out RA.out.2; have t6 := cell_below D9.out RA.out.2))
                  have HN : Hid (OwnI 2 w7 w5.heap.size a4 (y + 1) c4 ((prow xss (rw_ (pks Q k) J) rx).take (y + 1)) ∧ Below w5.heap.size w5 w7) := by
                    refine Lib.hid ⟨?_, RA.out.2⟩
                    rw [take_prow (by rw [HPc.out.len]; exact hyt), HCY.out]
                    exact RA.out.1
                  go_wp2_with fail
                  go_roundw
                  case rel => exact ⟨y + 1, a4, c4, by omega, by go_num, rfl, HN⟩
                  case measure => simp [intOf]; omega
                · obtain rfl : y = k := by omega
                  have hlp : (prow xss (rw_ (pks Q y) J) rx).length = y := by rw [prow_len, HPc.out.len]
                  have HY2 := HY.out.1
                  rw [List.take_of_length_le (by omega)] at HY2
                  have HYR := Lib.hid HY2
                  have hs6 := HY.out.2.size
                  clear HY2
                  go_wp2_with (at_builtin; refine wpList_push rfl (.tmp 77) (.tmp 79) 22 rfl w4.heap.size 35 (.slice none 0 0) 24 Try.underlying22 Try.infoR rfl (by decide) (.slice a2 y c2) rfl _ _ _ _ rfl rfl (by exact (HX.out.1.keep HY.out.2 (Nat.le_refl _)).own) (by omega) (by exact Nat.le_trans hs5 hs6) ?_; rintro a4 c4 w7 r4 q4 g4; have HN := Lib.hid (HX.out.1.pushNew2 hs5 HY.out.2 HYR.out (Nat.le_refl _) r4 q4 g4); clear r4 q4 g4)
                  have HN2 : Hid (OwnR 35 2 w7 w4.heap.size a4 (x + 1) c4 ((partR xss (rw_ (pks n y) I) (rw_ (pks Q y) J)).take (x + 1)) (upd A x a2) (upd C x c2) ∧ Below w4.heap.size w4 w7) := by
                    refine Lib.hid ⟨?_, HX.out.2.trans HN.out.2⟩
                    rw [take_rw (by rw [partR_len, HPr.out.len]; exact hxt), partR_row (by rw [HPr.out.len]; exact hxt), HRX.out]
                    exact HN.out.1
                  go_roundw
                  case rel => exact ⟨x + 1, a4, c4, _, _, by omega, by go_num, rfl, HN2⟩
                  case measure => simp [intOf]; omega
            · obtain rfl : x = k := by omega
              have hlp : (partR xss (rw_ (pks n x) I) (rw_ (pks Q x) J)).length = x := by rw [partR_len, HPr.out.len]
              have HM : Hid (RdR w5 a1 (partR xss (rw_ (pks n x) I) (rw_ (pks Q x) J))) := Lib.hid (by have := HX.out.1.rd; rwa [List.take_of_length_le (by omega)] at this)
              have hc1 := HX.out.1.capl
              have HB6 : Hid (Below w3.heap.size w3 w5) := Lib.hid (HV.out.trans (HX.out.2.mono HV.out.size))
              have hd := det_bd _ _ HSQ.out
              have hd2 := dB_le hk
              have HG : Hid ((Int.gcd (gfold (mls xss (pks n x) (pks Q x) I J)) (detN x (partR xss (rw_ (pks n x) I) (rw_ (pks Q x) J))) : Int) = gfold (mls xss (pks n x) (pks Q x) I (J + 1))) := Lib.hid (by rw [mls_j hJt, gfold_snoc]; unfold mnr; rw [HPr.out.len])
              clear hlp
              go_wp2_with fail
              refine (l04Det_any x hk a1 c1 _ _ (by exact HM.out) HSQ.out hc1).mono ?_
              rintro e w6 ⟨rfl, hb⟩
              have HB7 : Hid (Below w3.heap.size w3 w6) := Lib.hid (HB6.out.trans (hb.mono HB6.out.size))
              clear hb
              go_wp2_with fail
              refine (l04Gcd_any _ _ _ (by omega) (by omega) (by omega) (by omega)).mono ?_
              rintro e w7 ⟨rfl, nq, rfl⟩
              rw [HG.out]
              go_wp2_with fail
              go_roundw
              case rel => exact ⟨J + 1, by omega, by go_num, rfl, Lib.hid (below_drewN' HB7.out _)⟩
              case measure => simp [intOf]; omega
        · obtain rfl : J = (pks Q k).length := by omega
          rw [mls_i hIt]
          go_wp2_with fail
          go_roundw
          case rel => exact ⟨I + 1, by omega, by go_num, rfl, HV⟩
          case measure => simp [intOf]; omega
    · obtain rfl : I = (pks n k).length := by omega
      go_wp2
      go_ret
      exact ⟨rfl, HB3.out.trans (HW.out.mono HB3.out.size)⟩
end Go.Proofs.Ytjnkhbaklilkkaa
