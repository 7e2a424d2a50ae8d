/- The greatest common divisor of the minors of a table: the program's function. -/
import Derived.Test.YtcnphhcdjhmmkaaPks
import Derived.Test.YtcnphhcdjhmmkaaBox
import Derived.Test.YtcnphhcdjhmmkaaTabDet
set_option linter.unusedVariables false
set_option linter.unusedSimpArgs false
namespace Go.Proofs.Ytcnphhcdjhmmkaa
open Go.RowKit

theorem pick_chs {n k i : Nat} (h : i < (chs n k).length) : Pick n k (rw_ (chs n k) i) := Pick.of (mem_chs.1 (rw_mem h))
theorem pick_pks {n k i : Nat} (h : i < (pks n k).length) : Pick n k (rw_ (pks n k) i) := Pick.of (mem_pks.1 (rw_mem h))
theorem take_prow {xss : List (List Int)} {c : List Int} {r : Int} {y : Nat} (h : y < c.length) : (prow xss c r).take (y + 1) = (prow xss c r).take y ++ [el (rw_ xss r.toNat) (el c y).toNat] := by
  rw [take_el (by rw [prow_len]; exact h), prow_el h]
theorem TbOk.ent {xss : List (List Int)} {q : Int} (h : TbOk xss q) {Q : Nat} (hQ : q = Q) : ∀ i j, i < xss.length → j < Q → -64 ≤ el (rw_ xss i) j ∧ el (rw_ xss i) j ≤ 64 := fun i j hi hj => (h.row i hi).2 j (by have := (h.row i hi).1; omega)
set_option maxRecDepth 20000 in
set_option maxHeartbeats 4000000 in
theorem minorsDivisor_any (Q k : Nat) (a : Option Addr) (n c : Nat) (xss : List (List Int)) (w : World) (ha : RdR w a xss) (hl : xss.length = n) (ht : TbOk xss Q) (hcp : n ≤ c) (hk1 : 1 ≤ k) (hk : k ≤ 4) :
    Calls Try.prog 42 #[.agg #[.int .i64 Q, .slice a n c], .int .i64 k] w fun e w' => e = .returned (.int .i64 (mdiv xss n Q k)) ∧ Below w.heap.size w w' := by
  have HA := Lib.hid ha
  have HL := Lib.hid hl
  have HT := Lib.hid ht
  have hn12 : n ≤ 12 := by have := ht.len; omega
  have hQ4 : Q ≤ 4 := by have := ht.q4; omega
  have HE := Lib.hid (ht.ent (Q := Q) rfl)
  rw [hl] at HE
  clear ha hl ht
  go_enter Try.func42, Try.ntmps42
  go_wp2_with fail
  refine (choices_any k (by omega) n (by omega) _).mono ?_
  rintro e w1 ⟨aR, cR, AR, CR, rfl, hR, hb⟩
  have p0 := cell_below (p := ⟨w.heap.size, 0, none⟩) (v := .int .i64 Q) (by simp) hb
  have p1 := cell_below (p := ⟨w.heap.size, 1, none⟩) (v := .slice a n c) (by simp) hb
  have P0 := Lib.hid p0
  have P1 := Lib.hid p1
  have HR1 := Lib.hid hR.rd
  have HA1 := Lib.hid ((HA.out.alloc _).keep hb (Nat.le_refl _))
  have HB1 : Hid (Below w.heap.size w w1) := Lib.hid (below_al1 hb)
  have hsR := chs_small (n := n) (k := k) (by omega)
  have hsC := chs_small (n := Q) (k := k) (by omega)
  have hbx : w.heap.size < w1.heap.size := block_lt p0
  clear hR hb p0 p1
  go_wp2_with fail
  go_loopw [22, 5] (fun i g wr => ∃ I : Nat, I ≤ (chs n k).length ∧ i = .int .i64 I ∧ g = .int .i64 (gfold (mls xss (chs n k) (chs Q k) I 0)) ∧ Hid (Below w1.heap.size w1 wr)) (fun i _ _ => (chs n k).length - (intOf i).toNat)
  case atStart => exact ⟨0, Nat.zero_le _, rfl, by rw [mls_zero]; rfl, Lib.hid (Below.refl _ _)⟩
  case round =>
    obtain ⟨I, hI, rfl, rfl, HW⟩ := hrel
    obtain ⟨w2, rfl⟩ : ∃ x, x = wr := ⟨wr, rfl⟩
    by_cases hIt : I < (chs n k).length
    · obtain ⟨bR, oR, aI, cI, rfl, dI, rI, kI⟩ := rdR_at (HR1.out.keep HW.out (Nat.le_refl _)) hIt
      have HPr := Lib.hid (pick_chs hIt)
      rw [HPr.out.len] at dI kI
      have RI := Lib.hid rI
      have p0 := cell_below P0.out HW.out
      clear rI
      go_wp2_with fail
      refine (choices_any k (by omega) Q (by omega) _).mono ?_
      rintro e w3 ⟨aC, cC, AC, CC, rfl, hC, hb⟩
      have HC3 := Lib.hid hC.rd
      have RI3 := Lib.hid (RI.out.keep hb (Nat.le_refl _))
      have HW3 : Hid (Below w1.heap.size w1 w3) := Lib.hid (HW.out.trans (hb.mono HW.out.size))
      clear hC hb p0 dI
      go_wp2_with fail
      go_loopw [31, 5] (fun i g wr => ∃ J : Nat, J ≤ (chs Q k).length ∧ i = .int .i64 J ∧ g = .int .i64 (gfold (mls xss (chs n k) (chs Q k) I J)) ∧ Hid (Below w3.heap.size w3 wr)) (fun i _ _ => (chs Q k).length - (intOf i).toNat)
      case atStart => exact ⟨0, Nat.zero_le _, rfl, rfl, Lib.hid (Below.refl _ _)⟩
      case round =>
        obtain ⟨J, hJ, rfl, rfl, HV⟩ := hrel
        obtain ⟨w4, rfl⟩ : ∃ x, x = wr := ⟨wr, rfl⟩
        by_cases hJt : J < (chs Q k).length
        · obtain ⟨bC, oC, aJ, cJ, rfl, dJ, rJ, kJ⟩ := rdR_at (HC3.out.keep HV.out (Nat.le_refl _)) hJt
          have HPc := Lib.hid (pick_chs hJt)
          rw [HPc.out.len] at dJ kJ
          have RJ := Lib.hid rJ
          have RI4 := Lib.hid (RI3.out.keep HV.out (Nat.le_refl _))
          have HW4 : Hid (Below w1.heap.size w1 w4) := Lib.hid (HW3.out.trans (HV.out.mono HW3.out.size))
          have HSQ := Lib.hid (mnr_sq HPr.out HPc.out HE.out)
          obtain ⟨g0, g1⟩ := gf_bd (i := I) (j := J) (fun r hr => Pick.of (mem_chs.1 hr)) (fun c hc => Pick.of (mem_chs.1 hc)) HE.out hk (.inl hIt)
          clear rJ
          go_wp2_with fail
          go_loopw [37, 10] (fun i v wr => ∃ (x : Nat) (a1 : Option Addr) (c1 : Nat) (A : Nat → Option Addr) (C : Nat → Nat), x ≤ k ∧ i = .int .i64 x ∧ v = .slice a1 x c1 ∧ Hid (OwnR 31 2 wr w4.heap.size a1 x c1 ((partR xss (rw_ (chs n k) I) (rw_ (chs Q k) J)).take x) A C ∧ Below w4.heap.size w4 wr)) (fun i _ _ => k - (intOf i).toNat)
          case atStart => exact ⟨0, none, 0, fun _ => none, fun _ => 0, Nat.zero_le _, rfl, rfl, Lib.hid ⟨by simpa using OwnR.none _ _, Below.refl _ _⟩⟩
          case round =>
            obtain ⟨x, a1, c1, A, C, hx, rfl, rfl, HX⟩ := hrel
            obtain ⟨w5, rfl⟩ : ∃ x, x = wr := ⟨wr, rfl⟩
            by_cases hxt : x < k
            · obtain ⟨b6, o6, rfl, d6⟩ := rdI_at (RI4.out.keep HX.out.2 (Nat.le_refl _)) (show x < _ by rw [HPr.out.len]; exact hxt)
              obtain ⟨e0, e1⟩ := HPr.out.rng x hxt
              obtain ⟨rx, hrx⟩ : ∃ rx : Nat, el (rw_ (chs n k) I) x = rx := ⟨(el (rw_ (chs n k) I) x).toNat, by omega⟩
              rw [hrx] at d6 e0 e1
              have hrn : rx < n := by omega
              have HRX := Lib.hid hrx
              have hs5 := HX.out.2.size
              clear hrx e0 e1
              go_wp2_with fail
              go_loopw [43, 13] (fun i v wr => ∃ (y : Nat) (a2 : Option Addr) (c2 : Nat), y ≤ k ∧ i = .int .i64 y ∧ v = .slice a2 y c2 ∧ Hid (OwnI 2 wr w5.heap.size a2 y c2 ((prow xss (rw_ (chs Q k) J) rx).take y) ∧ Below w5.heap.size w5 wr)) (fun i _ _ => k - (intOf i).toNat)
              case atStart => exact ⟨0, none, 0, Nat.zero_le _, rfl, rfl, Lib.hid ⟨by simpa using OwnI.none, Below.refl _ _⟩⟩
              case round =>
                obtain ⟨y, a2, c2, hy, rfl, rfl, HY⟩ := hrel
                obtain ⟨w6, rfl⟩ : ∃ x, x = wr := ⟨wr, rfl⟩
                have HB6 : Hid (Below w4.heap.size w4 w6) := Lib.hid (HX.out.2.trans (HY.out.2.mono hs5))
                by_cases hyt : y < k
                · obtain ⟨b7, o7, rfl, d7⟩ := rdI_at (RJ.out.keep HB6.out (Nat.le_refl _)) (show y < _ by rw [HPc.out.len]; exact hyt)
                  obtain ⟨f0, f1⟩ := HPc.out.rng y hyt
                  obtain ⟨cy, hcy⟩ : ∃ cy : Nat, el (rw_ (chs Q k) J) y = cy := ⟨(el (rw_ (chs Q k) J) y).toNat, by omega⟩
                  rw [hcy] at d7 f0 f1
                  have hcq : cy < Q := by omega
                  have HCY := Lib.hid hcy
                  have HB7 : Hid (Below w1.heap.size w1 w6) := Lib.hid (HW4.out.trans (HB6.out.mono HW4.out.size))
                  have p1 := cell_below P1.out HB7.out
                  obtain ⟨b8, o8, a8, c8, rfl, d8, r8, k8⟩ := rdR_at (HA1.out.keep HB7.out (Nat.le_refl _)) (show rx < xss.length by rw [HL.out]; exact hrn)
                  have hlen8 : (rw_ xss rx).length = Q := by have := (HT.out.row rx (by rw [HL.out]; exact hrn)).1; omega
                  obtain ⟨b9, o9, rfl, d9⟩ := rdI_at r8 (show cy < _ by omega)
                  rw [hlen8] at d8 k8
                  have hs6 := HY.out.2.size
                  clear hcy f0 f1 r8 hlen8
                  go_wp2_with (at_builtin; refine wpList_push rfl (.tmp 47) (.tmp 56) 31 rfl w5.heap.size 2 (.int .i64 0) 8 Try.underlying31 Try.info2 rfl (by decide) (.int .i64 (el (rw_ xss rx) cy)) rfl _ _ _ _ rfl rfl (by exact HY.out.1) (by omega) (by exact hs6) ?_; rintro a4 c4 w7 r4 q4 g4; have RA := Lib.hid (And.intro (OwnI.pushed r4) (HY.out.2.trans (g4.below hs6 (fun b hb hx => by obtain ⟨x, hx, e⟩ := hx; have := (HY.out.1.block x hx).1; omega)))); clear r4 q4 g4)
                  have HN : Hid (OwnI 2 w7 w5.heap.size a4 (y + 1) c4 ((prow xss (rw_ (chs Q k) J) rx).take (y + 1)) ∧ Below w5.heap.size w5 w7) := by
                    refine Lib.hid ⟨?_, RA.out.2⟩
                    rw [take_prow (by rw [HPc.out.len]; exact hyt), HCY.out]
                    exact RA.out.1
                  go_roundw
                  case rel => exact ⟨y + 1, a4, c4, by omega, by go_num, rfl, HN⟩
                  case measure => simp [intOf]; omega
                · obtain rfl : y = k := by omega
                  have hlp : (prow xss (rw_ (chs Q y) J) rx).length = y := by rw [prow_len, HPc.out.len]
                  have HY2 := HY.out.1
                  rw [List.take_of_length_le (by omega)] at HY2
                  have HYR := Lib.hid HY2
                  have hs6 := HY.out.2.size
                  clear HY2
                  go_wp2_with (at_builtin; refine wpList_push rfl (.tmp 59) (.tmp 61) 24 rfl w4.heap.size 31 (.slice none 0 0) 24 Try.underlying24 Try.infoR rfl (by decide) (.slice a2 y c2) rfl _ _ _ _ rfl rfl (by exact (HX.out.1.keep HY.out.2 (Nat.le_refl _)).own) (by omega) (by exact Nat.le_trans hs5 hs6) ?_; rintro a4 c4 w7 r4 q4 g4; have HN := Lib.hid (HX.out.1.pushNew2 hs5 HY.out.2 HYR.out (Nat.le_refl _) r4 q4 g4); clear r4 q4 g4)
                  have HN2 : Hid (OwnR 31 2 w7 w4.heap.size a4 (x + 1) c4 ((partR xss (rw_ (chs n y) I) (rw_ (chs Q y) J)).take (x + 1)) (upd A x a2) (upd C x c2) ∧ Below w4.heap.size w4 w7) := by
                    refine Lib.hid ⟨?_, HX.out.2.trans HN.out.2⟩
                    rw [take_rw (by rw [partR_len, HPr.out.len]; exact hxt), partR_row (by rw [HPr.out.len]; exact hxt), HRX.out]
                    exact HN.out.1
                  go_roundw
                  case rel => exact ⟨x + 1, a4, c4, _, _, by omega, by go_num, rfl, HN2⟩
                  case measure => simp [intOf]; omega
            · obtain rfl : x = k := by omega
              have hlp : (partR xss (rw_ (chs n x) I) (rw_ (chs Q x) J)).length = x := by rw [partR_len, HPr.out.len]
              have HM : Hid (RdR w5 a1 (partR xss (rw_ (chs n x) I) (rw_ (chs Q x) J))) := Lib.hid (by have := HX.out.1.rd; rwa [List.take_of_length_le (by omega)] at this)
              have hc1 := HX.out.1.capl
              have HB6 : Hid (Below w3.heap.size w3 w5) := Lib.hid (HV.out.trans (HX.out.2.mono HV.out.size))
              have hd := det_bd _ _ HSQ.out
              have hd2 := dB_le hk
              have HG : Hid ((Int.gcd (gfold (mls xss (chs n x) (chs Q x) I J)) (detN x (partR xss (rw_ (chs n x) I) (rw_ (chs Q x) J))) : Int) = gfold (mls xss (chs n x) (chs Q x) I (J + 1))) := Lib.hid (by rw [mls_j hJt, gfold_snoc]; unfold mnr; rw [HPr.out.len])
              clear hlp
              go_wp2_with fail
              refine (integerDeterminant_any x hk a1 c1 _ _ (by exact HM.out) HSQ.out hc1).mono ?_
              rintro e w6 ⟨rfl, hb⟩
              have HB7 : Hid (Below w3.heap.size w3 w6) := Lib.hid (HB6.out.trans (hb.mono HB6.out.size))
              clear hb
              go_wp2_with fail
              refine (gcd_any _ _ _ (by omega) (by omega) (by omega) (by omega)).mono ?_
              rintro e w7 ⟨rfl, nq, rfl⟩
              rw [HG.out]
              go_wp2_with fail
              go_roundw
              case rel => exact ⟨J + 1, by omega, by go_num, rfl, Lib.hid (below_drewN' HB7.out _)⟩
              case measure => simp [intOf]; omega
        · obtain rfl : J = (chs Q k).length := by omega
          have HW4 : Hid (Below w1.heap.size w1 w4) := Lib.hid (HW3.out.trans (HV.out.mono HW3.out.size))
          rw [mls_i hIt]
          go_wp2_with fail
          go_roundw
          case rel => exact ⟨I + 1, by omega, by go_num, rfl, HW4⟩
          case measure => simp [intOf]; omega
    · obtain rfl : I = (chs n k).length := by omega
      go_wp2
      go_ret
      exact ⟨rfl, HB1.out.trans (HW.out.mono HB1.out.size)⟩
end Go.Proofs.Ytcnphhcdjhmmkaa
