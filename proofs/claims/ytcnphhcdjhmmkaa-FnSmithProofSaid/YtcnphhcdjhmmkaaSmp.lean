/- The checker of Smith proofs: the program's function. -/
import Derived.Test.YtcnphhcdjhmmkaaSmpD
import Derived.Deep.RegionHeld3
set_option linter.unusedVariables false
set_option linter.unusedSimpArgs false
namespace Go.Proofs.Ytcnphhcdjhmmkaa
open Go.RowKit

set_option maxRecDepth 20000 in
set_option maxHeartbeats 4000000 in
theorem impl_IsSmithProof_any (q0 : Int) (a0 : Option Addr) (n0 c0 : Nat) (xs0 : List (List Int)) (q1 : Int) (a1 : Option Addr) (n1 c1 : Nat) (xs1 : List (List Int)) (q2 : Int) (a2 : Option Addr) (n2 c2 : Nat) (xs2 : List (List Int)) (a3 : Option Addr) (n3 c3 : Nat) (ds : List Int) (w : World)
    (hq0 : I64 q0) (ha0 : RdR w a0 xs0) (hl0 : xs0.length = n0) (hx0 : ∀ i, i < n0 → (rw_ xs0 i).length ≤ 1048576) (hn0 : n0 ≤ 1048576) (hcp0 : n0 ≤ c0)
    (hq1 : I64 q1) (ha1 : RdR w a1 xs1) (hl1 : xs1.length = n1) (hx1 : ∀ i, i < n1 → (rw_ xs1 i).length ≤ 1048576) (hn1 : n1 ≤ 1048576) (hcp1 : n1 ≤ c1)
    (hq2 : I64 q2) (ha2 : RdR w a2 xs2) (hl2 : xs2.length = n2) (hx2 : ∀ i, i < n2 → (rw_ xs2 i).length ≤ 1048576) (hn2 : n2 ≤ 1048576) (hcp2 : n2 ≤ c2)
    (ha3 : RdI w a3 ds) (hl3 : ds.length = n3) (hn3 : n3 ≤ 1048576) (hw3 : ∀ x ∈ ds, I64 x) :
    Calls Try.prog 13 #[.agg #[.int .i64 q0, .slice a0 n0 c0], .agg #[.int .i64 q1, .slice a1 n1 c1], .agg #[.int .i64 q2, .slice a2 n2 c2], .slice a3 n3 c3] w fun e w' => e = .returned (.bool (spB xs0 q0 xs1 q1 xs2 q2 ds)) ∧ Below w.heap.size w w' := by
  have HQ0 := Lib.hid hq0
  have HA0 := Lib.hid ha0
  have HL0 := Lib.hid hl0
  have HX0 := Lib.hid hx0
  have HQ1 := Lib.hid hq1
  have HA1 := Lib.hid ha1
  have HL1 := Lib.hid hl1
  have HX1 := Lib.hid hx1
  have HQ2 := Lib.hid hq2
  have HA2 := Lib.hid ha2
  have HL2 := Lib.hid hl2
  have HX2 := Lib.hid hx2
  have HA3 := Lib.hid ha3
  have HL3 := Lib.hid hl3
  have HW3 := Lib.hid hw3
  clear hq0 ha0 hl0 hx0 hq1 ha1 hl1 hx1 hq2 ha2 hl2 hx2 ha3 hl3 hw3
  have HFal : Hid (¬ SpOk xs0 q0 xs1 q1 xs2 q2 ds → spB xs0 q0 xs1 q1 xs2 q2 ds = false) := Lib.hid spB_f
  have HTru : Hid (SpOk xs0 q0 xs1 q1 xs2 q2 ds → spB xs0 q0 xs1 q1 xs2 q2 ds = true) := Lib.hid spB_t
  have HNo : Hid (∀ B : Bool, spB xs0 q0 xs1 q1 xs2 q2 ds = B → B = spB xs0 q0 xs1 q1 xs2 q2 ds) := Lib.hid fun _ h => h.symm
  go_enter Try.func13, Try.ntmps13
  go_wp2_with fail
  obtain ⟨W, hW⟩ : ∃ W, W = ((w.alloc (.cells #[.int .i64 q0, .slice a0 n0 c0] 26)).alloc (.cells #[.int .i64 q1, .slice a1 n1 c1] 26)).alloc (.cells #[.int .i64 q2, .slice a2 n2 c2] 26) := ⟨_, rfl⟩
  rw [← hW]
  have X0 : Hid (BX 26 W w.heap.size #[.int .i64 q0, .slice a0 n0 c0]) := Lib.hid (by rw [hW]; exact ((BX.new w _ _).alloc _).alloc _)
  have X1 : Hid (BX 26 W (w.heap.size + 1) #[.int .i64 q1, .slice a1 n1 c1]) := Lib.hid (by rw [hW, show w.heap.size + 1 = (w.alloc (.cells #[.int .i64 q0, .slice a0 n0 c0] 26)).heap.size by simp]; exact (BX.new _ _ _).alloc _)
  have X2 : Hid (BX 26 W (w.heap.size + 1 + 1) #[.int .i64 q2, .slice a2 n2 c2]) := Lib.hid (by rw [hW, show w.heap.size + 1 + 1 = ((w.alloc (.cells #[.int .i64 q0, .slice a0 n0 c0] 26)).alloc (.cells #[.int .i64 q1, .slice a1 n1 c1] 26)).heap.size by simp]; exact BX.new _ _ _)
  have HBW : Hid (Below w.heap.size w W) := Lib.hid (by rw [hW]; exact (((Below.refl _ _).alloc (Nat.le_refl _) _).alloc (by simp) _).alloc (by simp; omega) _)
  have sW : W.heap.size = w.heap.size + 1 + 1 + 1 := by rw [hW]; simp
  clear hW
  have p00 := X0.out.cell 0
  have p01 := X0.out.cell 1
  have p10 := X1.out.cell 0
  have p11 := X1.out.cell 1
  have p20 := X2.out.cell 0
  have p21 := X2.out.cell 1
  simp at p00 p01 p10 p11 p20 p21
  refine (impl_IsTable_any _ _ _ _ xs0 W HQ0.out (by exact HA0.out.keep HBW.out (Nat.le_refl _)) HL0.out HX0.out hn0 hcp0).mono ?_
  clear p00 p01 p10 p11 p20 p21
  cases hv : isTb xs0 q0
  · rintro e w1 ⟨rfl, hb⟩
    have HB1 : Hid (Below w.heap.size w w1) := Lib.hid (HBW.out.trans (hb.mono HBW.out.size))
    have p00 := (X0.out.keep hb).cell 0
    have p01 := (X0.out.keep hb).cell 1
    have p10 := (X1.out.keep hb).cell 0
    have p11 := (X1.out.keep hb).cell 1
    have p20 := (X2.out.keep hb).cell 0
    have p21 := (X2.out.keep hb).cell 1
    simp at p00 p01 p10 p11 p20 p21
    clear hb
    have HV : Hid (false = spB xs0 q0 xs1 q1 xs2 q2 ds) := Lib.hid (HFal.out (fun h => by have := h.tb; rw [hv] at this; cases this)).symm
    go_wp2_with fail
    go_ret
    exact ⟨ret_bool HV.out, HB1.out⟩
  rintro e w1 ⟨rfl, hb⟩
  have HB1 : Hid (Below w.heap.size w w1) := Lib.hid (HBW.out.trans (hb.mono HBW.out.size))
  have HC1 : Hid (Below W.heap.size W w1) := Lib.hid hb
  have p00 := (X0.out.keep hb).cell 0
  have p01 := (X0.out.keep hb).cell 1
  have p10 := (X1.out.keep hb).cell 0
  have p11 := (X1.out.keep hb).cell 1
  have p20 := (X2.out.keep hb).cell 0
  have p21 := (X2.out.keep hb).cell 1
  simp at p00 p01 p10 p11 p20 p21
  clear hb
  have HT := Lib.hid (isTb_ok hv)
  have HVt := Lib.hid hv
  clear hv
  have hQ4 := HT.out.q4
  have hQ1 := HT.out.q1
  by_cases hn : 1 ≤ (n0 : Int) ∧ (n0 : Int) ≤ 4
  rotate_left
  · have hn' : (n0 : Int) < 1 ∨ 4 < (n0 : Int) := by omega
    have HV : Hid (false = spB xs0 q0 xs1 q1 xs2 q2 ds) := Lib.hid (HFal.out (fun h => by have := h.n4; have := HL0.out; omega)).symm
    go_wp2_with (go_at_call 29; refine (inside_f _ _ _ _ hn').mono ?_; rintro e w' ⟨rfl, rfl⟩)
    go_ret
    exact ⟨ret_bool HV.out, HB1.out⟩
  obtain ⟨hn1', hn4⟩ := hn
  go_wp2_with (go_at_call 29; refine (inside_t _ _ _ _ hn1' hn4).mono ?_; rintro e w' ⟨rfl, rfl⟩)
  refine (impl_IsUnimodular_any _ _ _ _ xs1 w1 HQ1.out (by exact HA1.out.keep HB1.out (Nat.le_refl _)) HL1.out HX1.out hn1 hcp1).mono ?_
  clear p00 p01 p10 p11 p20 p21
  cases hu : uniV xs1 q1
  · rintro e w2 ⟨rfl, hb⟩
    have HB2 : Hid (Below w.heap.size w w2) := Lib.hid (HB1.out.trans (hb.mono HB1.out.size))
    have HC2 : Hid (Below W.heap.size W w2) := Lib.hid (HC1.out.trans (hb.mono HC1.out.size))
    have p00 := (X0.out.keep HC2.out).cell 0
    have p01 := (X0.out.keep HC2.out).cell 1
    have p10 := (X1.out.keep HC2.out).cell 0
    have p11 := (X1.out.keep HC2.out).cell 1
    have p20 := (X2.out.keep HC2.out).cell 0
    have p21 := (X2.out.keep HC2.out).cell 1
    simp at p00 p01 p10 p11 p20 p21
    clear hb
    have HV : Hid (false = spB xs0 q0 xs1 q1 xs2 q2 ds) := Lib.hid (HFal.out (fun h => by have := h.uu; rw [hu] at this; cases this)).symm
    go_wp2_with fail
    go_ret
    exact ⟨ret_bool HV.out, HB2.out⟩
  rintro e w2 ⟨rfl, hb⟩
  have HB2 : Hid (Below w.heap.size w w2) := Lib.hid (HB1.out.trans (hb.mono HB1.out.size))
  have HC2 : Hid (Below W.heap.size W w2) := Lib.hid (HC1.out.trans (hb.mono HC1.out.size))
  have p00 := (X0.out.keep HC2.out).cell 0
  have p01 := (X0.out.keep HC2.out).cell 1
  have p10 := (X1.out.keep HC2.out).cell 0
  have p11 := (X1.out.keep HC2.out).cell 1
  have p20 := (X2.out.keep HC2.out).cell 0
  have p21 := (X2.out.keep HC2.out).cell 1
  simp at p00 p01 p10 p11 p20 p21
  have HUu := Lib.hid hu
  clear hb hu
  go_wp2_with fail
  refine (impl_IsUnimodular_any _ _ _ _ xs2 w2 HQ2.out (by exact HA2.out.keep HB2.out (Nat.le_refl _)) HL2.out HX2.out hn2 hcp2).mono ?_
  clear p00 p01 p10 p11 p20 p21
  cases hv : uniV xs2 q2
  · rintro e w3 ⟨rfl, hb⟩
    have HB3 : Hid (Below w.heap.size w w3) := Lib.hid (HB2.out.trans (hb.mono HB2.out.size))
    have HC3 : Hid (Below W.heap.size W w3) := Lib.hid (HC2.out.trans (hb.mono HC2.out.size))
    have p00 := (X0.out.keep HC3.out).cell 0
    have p01 := (X0.out.keep HC3.out).cell 1
    have p10 := (X1.out.keep HC3.out).cell 0
    have p11 := (X1.out.keep HC3.out).cell 1
    have p20 := (X2.out.keep HC3.out).cell 0
    have p21 := (X2.out.keep HC3.out).cell 1
    simp at p00 p01 p10 p11 p20 p21
    clear hb
    have HV : Hid (false = spB xs0 q0 xs1 q1 xs2 q2 ds) := Lib.hid (HFal.out (fun h => by have := h.uv; rw [hv] at this; cases this)).symm
    go_wp2_with fail
    go_ret
    exact ⟨ret_bool HV.out, HB3.out⟩
  rintro e w3 ⟨rfl, hb⟩
  have HB3 : Hid (Below w.heap.size w w3) := Lib.hid (HB2.out.trans (hb.mono HB2.out.size))
  have HC3 : Hid (Below W.heap.size W w3) := Lib.hid (HC2.out.trans (hb.mono HC2.out.size))
  have p00 := (X0.out.keep HC3.out).cell 0
  have p01 := (X0.out.keep HC3.out).cell 1
  have p10 := (X1.out.keep HC3.out).cell 0
  have p11 := (X1.out.keep HC3.out).cell 1
  have p20 := (X2.out.keep HC3.out).cell 0
  have p21 := (X2.out.keep HC3.out).cell 1
  simp at p00 p01 p10 p11 p20 p21
  have HUv := Lib.hid hv
  clear hb hv
  by_cases huq : q1 = (n0 : Int)
  rotate_left
  · have g1 : (q1 != (n0 : Int)) = true := bne_iff_ne.2 huq
    have HV : Hid (false = spB xs0 q0 xs1 q1 xs2 q2 ds) := Lib.hid (HFal.out (fun h => by have := h.uq; rw [HL0.out] at this; exact huq this)).symm
    go_wp2_with fail
    go_ret
    exact ⟨ret_bool HV.out, HB3.out⟩
  have g1 : (q1 != (n0 : Int)) = false := by rw [huq]; simp
  by_cases hvq : q2 = q0
  rotate_left
  · have g2 : (q2 != q0) = true := bne_iff_ne.2 hvq
    clear huq
    have HV : Hid (false = spB xs0 q0 xs1 q1 xs2 q2 ds) := Lib.hid (HFal.out (fun h => by have := h.vq; exact hvq this)).symm
    go_wp2_with fail
    go_ret
    exact ⟨ret_bool HV.out, HB3.out⟩
  have g2 : (q2 != q0) = false := by rw [hvq]; simp
  have HUq := Lib.hid huq
  have HVq := Lib.hid hvq
  clear huq hvq
  rcases Int.lt_or_le q0 (n0 : Int) with hmq | hmq
  all_goals
    by_cases hd : (n3 : Int) ≤ n0 ∧ (n3 : Int) ≤ q0
    rotate_left
    · have hd1 : (n0 : Int) < (n3 : Int) ∨ q0 < (n3 : Int) := by omega
      have HV : Hid (false = spB xs0 q0 xs1 q1 xs2 q2 ds) := Lib.hid (HFal.out (fun h => by have := h.dn; have h2 := h.dq; have h3 := HL0.out; have h4 := HL3.out; omega)).symm
      first | (have hd2 : decide ((n0 : Int) < (n3 : Int)) = true := decide_eq_true (by omega); have hd5 : (n0 : Int) < (n3 : Int) := (by omega)) | (have hd2 : decide (q0 < (n3 : Int)) = true := decide_eq_true (by omega); have hd5 : q0 < (n3 : Int) := (by omega))
      clear hd hd1
      go_wp2_with fail
      go_ret
      exact ⟨ret_bool HV.out, HB3.out⟩
    obtain ⟨hdn', hdq⟩ := hd
    have hdn : n3 ≤ n0 := by omega
    have hd2 : decide ((n0 : Int) < (n3 : Int)) = false := decide_eq_false (by omega)
    have hd3 : decide (q0 < (n3 : Int)) = false := decide_eq_false (by omega)
    have hd4 : decide (n0 < n3) = false := decide_eq_false (by omega)
    go_wp2_with fail
    clear p00 p01 p10 p11 p20 p21
    obtain ⟨Q, rfl⟩ : ∃ Q : Nat, q0 = Q := ⟨q0.toNat, by omega⟩
    have hPf := pr_first HT.out HL0.out HUu.out HUq.out (by omega)
    have hPs := pr_second HT.out HL0.out HUu.out HUq.out (by omega) HUv.out HVq.out
    rw [Int.toNat_natCast] at hPf hPs
    obtain rfl : n0 = n1 := by rw [← HL1.out]; exact hPf.1.symm
    obtain rfl : n2 = Q := by rw [← HL2.out]; exact hPs.1
    have HP1 := Lib.hid hPf.2
    have HP2 := Lib.hid hPs.2
    clear hPf hPs
    have hdq' : n3 ≤ n2 := by omega
    go_loopw [63] (fun i wr => ∃ K N : Nat, K ≤ n3 ∧ i = .int .i64 K ∧ wr = w3.drewN N ∧ Hid (∀ j, j < K → dsOk ds j)) (fun i _ => n3 - (intOf i).toNat)
    case atStart => exact ⟨0, 0, Nat.zero_le _, rfl, rfl, Lib.hid (fun j hj => absurd hj (by omega))⟩
    case round =>
      obtain ⟨K, N, hK, rfl, hwN, HD⟩ := hrel
      obtain ⟨wz, rfl⟩ : ∃ x, x = wr := ⟨wr, rfl⟩
      have HBz : Hid (Below w.heap.size w wz) := Lib.hid (by rw [hwN]; exact below_drewN' HB3.out N)
      have HCz : Hid (Below W.heap.size W wz) := Lib.hid (by rw [hwN]; exact below_drewN' HC3.out N)
      have HNx : Hid (∀ q, wz.drewN q = w3.drewN (N + q)) := Lib.hid fun q => by rw [hwN]; simp
      have HN0 := Lib.hid hwN
      clear hwN
      by_cases hKt : K < n3
      · obtain ⟨bd, od, hbd, dd⟩ := rdI_at (HA3.out.keep HBz.out (Nat.le_refl _)) (show K < ds.length by rw [HL3.out]; exact hKt)
        have hr := HW3.out _ (el_mem (show K < ds.length by rw [HL3.out]; exact hKt))
        obtain ⟨r1, r2⟩ := hr
        have J1 : (K : Int) < (n3 : Int) := by omega
        have b1 : decide ((K : Int) < (n3 : Int)) = true := decide_eq_true J1
        by_cases hpos : 1 ≤ el ds K
        · have hp2 : ¬ (el ds K ≤ 0) := by omega
          have hp3 : ¬ (el ds K < 1) := by omega
          have hp4 : decide (el ds K ≤ 0) = false := decide_eq_false hp2
          have hp5 : decide (el ds K < 1) = false := decide_eq_false hp3
          cases K with
          | zero =>
            subst hbd
            rw [Nat.add_zero] at dd
            have HD1 : Hid (∀ j, j < 0 + 1 → dsOk ds j) := Lib.hid fun j hj => by
              obtain rfl : j = 0 := by omega
              exact ⟨hpos, fun h => absurd h (by omega)⟩
            have hn0p : 0 < n3 := by omega
            have hn0q : (0 : Int) < (n3 : Int) := by omega
            go_wp2_with fail
            go_roundw
            case rel => exact ⟨0 + 1, N, by omega, by go_num, HN0.out, HD1⟩
            case measure => simp [intOf]; omega
          | succ K =>
            obtain ⟨bd', od', hbd', dd2⟩ := rdI_at (HA3.out.keep HBz.out (Nat.le_refl _)) (show K < ds.length by rw [HL3.out]; omega)
            subst hbd
            injection hbd' with hbd'
            injection hbd' with t1 t2
            subst t1; subst t2
            obtain ⟨i3, _⟩ := HD.out K (by omega)
            have hr2 := HW3.out _ (el_mem (show K < ds.length by rw [HL3.out]; omega))
            obtain ⟨r3, r4⟩ := hr2
            have htm : (el ds (K + 1)).tmod (el ds K) = el ds (K + 1) % el ds K := Int.tmod_eq_emod_of_nonneg (by omega)
            have hkpos : decide (0 < ((K : Int) + 1)) = true := decide_eq_true (by omega)
            have hm1 : IntKind.i64.wrap ((K : Int) + 1 - 1) = K := by rw [IntWalk.i64_in _ (by omega)]; simp
            have hne : ¬ el ds K = 0 := by omega
            have hk3 : (K : Int) + 1 < (n3 : Int) := by omega
            have hk2 : (K : Int) < (n3 : Int) := by omega
            have hk4 : 0 ≤ (K : Int) + 1 := by omega
            have hk5 : ((K : Int) + 1).toNat = K + 1 := by omega
            have hk6 : (K : Int) + 1 - 1 = K := by omega
            by_cases hmod : el ds (K + 1) % el ds K = 0
            · have HD1 : Hid (∀ j, j < K + 1 + 1 → dsOk ds j) := Lib.hid fun j hj => by
                by_cases he : j = K + 1
                · subst he; exact ⟨hpos, fun _ => hmod⟩
                · exact HD.out j (by omega)
              have hm : (el ds (K + 1) % el ds K != 0) = false := by rw [hmod]; rfl
              rw [hmod] at htm
              have hmb : ((el ds (K + 1)).tmod (el ds K) != 0) = false := by rw [htm]; rfl
              clear hmod
              go_wp2_with fail
              go_roundw
              case rel => exact ⟨K + 1 + 1, N, by omega, by go_num, HN0.out, HD1⟩
              case measure => simp [intOf]; omega
            · have HV : Hid (false = spB xs0 n2 xs1 q1 xs2 q2 ds) := Lib.hid (HFal.out (fun h => hmod ((h.dk (K + 1) (by rw [HL3.out]; exact hKt)).2 (by omega)))).symm
              have hm : (el ds (K + 1) % el ds K != 0) = true := bne_iff_ne.2 hmod
              have hmb : ((el ds (K + 1)).tmod (el ds K) != 0) = true := by rw [htm]; exact hm
              clear hmod
              go_wp2_with fail
              go_ret
              exact ⟨ret_bool HV.out, HBz.out⟩
        · have HV : Hid (false = spB xs0 n2 xs1 q1 xs2 q2 ds) := Lib.hid (HFal.out (fun h => hpos (h.dk K (by rw [HL3.out]; exact hKt)).1)).symm
          have hp2 : el ds K ≤ 0 := by omega
          have hp3 : el ds K < 1 := by omega
          have hp4 : decide (el ds K ≤ 0) = true := decide_eq_true hp2
          have hp5 : decide (el ds K < 1) = true := decide_eq_true hp3
          subst hbd
          clear hpos
          go_wp2_with fail
          go_ret
          exact ⟨ret_bool HV.out, HBz.out⟩
      · obtain rfl : K = n3 := by omega
        have b1 : decide ((K : Int) < (K : Int)) = false := by simp
        have p00 := (X0.out.keep HCz.out).cell 0
        have p01 := (X0.out.keep HCz.out).cell 1
        have p10 := (X1.out.keep HCz.out).cell 0
        have p11 := (X1.out.keep HCz.out).cell 1
        have p20 := (X2.out.keep HCz.out).cell 0
        have p21 := (X2.out.keep HCz.out).cell 1
        simp at p00 p01 p10 p11 p20 p21
        have l0 : w.heap.size + 1 + 1 < wz.heap.size := by have := HCz.out.size; omega
        have l1 : w.heap.size + 1 < wz.heap.size := by omega
        have l2 : w.heap.size < wz.heap.size := by omega
        have HRu := Lib.hid (HA1.out.keep HBz.out (Nat.le_refl _))
        have HRa := Lib.hid (HA0.out.keep HBz.out (Nat.le_refl _))
        have HRv := Lib.hid (HA2.out.keep HBz.out (Nat.le_refl _))
        go_wp2_with fail
        go_region_held3 (fun w' => w'.cell? ⟨w.heap.size + 1, 1, none⟩ = some (.slice a1 n0 c1) ∧ w'.cell? ⟨w.heap.size, 1, none⟩ = some (.slice a0 n0 c0) ∧ w'.cell? ⟨w.heap.size + 1 + 1, 1, none⟩ = some (.slice a2 n2 c2)) (go_keep)
          (first
            | (go_at_call 30; (with_reducible refine (integerProduct_any a1 a0 n0 n0 c1 c0 n2 64 64 xs1 xs0 _ ?_ ?_ HP1.out hn0 (by omega) (by omega) (by omega)).mono ?_); exact (show RdR wz a1 xs1 from HRu.out); exact (show RdR wz a0 xs0 from HRa.out); rintro e w4 ⟨aP, cP, rfl, ho, hb0⟩; have hb4 : Below wz.heap.size wz w4 := ⟨hb0.os, hb0.tape, hb0.output, hb0.size, hb0.block⟩; have p114 := cell_below (p := ⟨w.heap.size + 1, 1, none⟩) (v := .slice a1 n0 c1) p11 hb4; have p014 := cell_below (p := ⟨w.heap.size, 1, none⟩) (v := .slice a0 n0 c0) p01 hb4; have p214 := cell_below (p := ⟨w.heap.size + 1 + 1, 1, none⟩) (v := .slice a2 n2 c2) p21 hb4; have HRP : Hid (RdR w4 aP (timesI n2 xs1 xs0)) := Lib.hid ho.rd; have HRv4 : Hid (RdR w4 a2 xs2) := Lib.hid (HRv.out.keep hb4 (Nat.le_refl _)); have HB4 : Hid (Below w.heap.size w w4) := Lib.hid (HBz.out.trans (hb4.mono HBz.out.size)); clear ho hb4 hb0)
            | (go_at_call 30; (with_reducible refine (integerProduct_any aP a2 n0 n2 cP c2 n2 16384 64 (timesI n2 xs1 xs0) xs2 _ ?_ ?_ HP2.out hn0 (by omega) (by omega) (by omega)).mono ?_); exact HRP.out; exact HRv4.out; rintro e w5 ⟨aR, cR, rfl, ho, hb0⟩; have hb5 := hb0; have p115 := cell_below (p := ⟨w.heap.size + 1, 1, none⟩) (v := .slice a1 n0 c1) p114 hb5; have p015 := cell_below (p := ⟨w.heap.size, 1, none⟩) (v := .slice a0 n0 c0) p014 hb5; have p215 := cell_below (p := ⟨w.heap.size + 1 + 1, 1, none⟩) (v := .slice a2 n2 c2) p214 hb5; have HRR : Hid (RdR w5 aR (timesI n2 (timesI n2 xs1 xs0) xs2)) := Lib.hid ho.rd; have HB5 : Hid (Below w.heap.size w w5) := Lib.hid (HB4.out.trans (hb5.mono HB4.out.size)); clear ho hb5 hb0))
        skip
        go_wp2_with fail
        have hlP : (timesI n2 (timesI n2 xs1 xs0) xs2).length = n0 := by rw [timesI_len, timesI_len, HL1.out]
        have HLP := Lib.hid hlP
        have HRow : Hid (∀ i, i < n0 → (rw_ (timesI n2 (timesI n2 xs1 xs0) xs2) i).length = n2) := Lib.hid fun i hi => by rw [timesI_row (by rw [timesI_len, HL1.out]; exact hi), psum_len]
        have HPr : Hid ((∀ i j, i < n0 → j < n2 → el (rw_ (timesI n2 (timesI n2 xs1 xs0) xs2) i) j = wantE ds i j) → true = spB xs0 n2 xs1 q1 xs2 q2 ds) := Lib.hid fun h => (HTru.out ⟨HVt.out, by rw [HL0.out]; omega, HUu.out, HUv.out, by rw [HL0.out]; exact HUq.out, HVq.out, by rw [HL0.out, HL3.out]; exact hdn, by rw [HL3.out]; omega, fun i hi => HD.out i (by rw [← HL3.out]; exact hi), fun i j hi hj => by rw [Int.toNat_natCast]; rw [Int.toNat_natCast] at hj; exact h i j (by rw [← HL0.out]; exact hi) hj⟩).symm
        have HPf : Hid (∀ i j, i < n0 → j < n2 → el (rw_ (timesI n2 (timesI n2 xs1 xs0) xs2) i) j ≠ wantE ds i j → false = spB xs0 n2 xs1 q1 xs2 q2 ds) := Lib.hid fun i j hi hj hne => (HFal.out (fun h => hne (by have h9 := h.pr i j (by rw [HL0.out]; exact hi) (by rw [Int.toNat_natCast]; exact hj); rw [Int.toNat_natCast] at h9; exact h9))).symm
        have HD5 := Lib.hid (HA3.out.keep HB5.out (Nat.le_refl _))
        clear hlP
        generalize timesI n2 (timesI n2 xs1 xs0) xs2 = P at *
        go_loopw [95] (fun i wr => ∃ I : Nat, I ≤ n0 ∧ i = .int .i64 I ∧ w5 = wr ∧ Hid (∀ i j, i < I → j < n2 → el (rw_ P i) j = wantE ds i j)) (fun i _ => n0 - (intOf i).toNat)
        case atStart => exact ⟨0, Nat.zero_le _, rfl, rfl, Lib.hid (fun i j hi => absurd hi (by omega))⟩
        case round =>
          obtain ⟨I, hI, rfl, rfl, HO⟩ := hrel
          by_cases hIt : I < n0
          · obtain ⟨bP, oP, aI, cI, e0, dI, rI, kI⟩ := rdR_at HRR.out (show I < P.length by rw [HLP.out]; exact hIt)
            subst e0
            rw [HRow.out I hIt] at dI kI
            have RI := Lib.hid rI
            have J1 : (I : Int) < (n0 : Int) := by omega
            have b2 : decide ((I : Int) < (n0 : Int)) = true := decide_eq_true J1
            clear rI
            go_wp2_with fail
            go_loopw [102] (fun i wr => ∃ J : Nat, J ≤ n2 ∧ i = .int .i64 J ∧ w5 = wr ∧ Hid (∀ j, j < J → el (rw_ P I) j = wantE ds I j)) (fun i _ => n2 - (intOf i).toNat)
            case atStart => exact ⟨0, Nat.zero_le _, rfl, rfl, Lib.hid (fun j hj => absurd hj (by omega))⟩
            case round =>
              obtain ⟨J, hJ, rfl, hw5, HJ⟩ := hrel
              subst hw5
              by_cases hJt : J < n2
              · obtain ⟨bI, oI, e1, dx⟩ := rdI_at RI.out (show J < _ by rw [HRow.out I hIt]; exact hJt)
                subst e1
                have J2 : (J : Int) < (n2 : Int) := by omega
                have b3 : decide ((J : Int) < (n2 : Int)) = true := decide_eq_true J2
                have HFl := Lib.hid (HPf.out I J hIt hJt)
                have HNx2 : Hid (el (rw_ P I) J = wantE ds I J → ∀ j, j < J + 1 → el (rw_ P I) j = wantE ds I j) := Lib.hid fun h j hj => by
                  by_cases he : j = J
                  · subst he; exact h
                  · exact HJ.out j (by omega)
                by_cases hij : I = J
                · have hb9 : ((I : Int) == (J : Int)) = true := beq_iff_eq.2 (by omega)
                  by_cases hik : I < K
                  · obtain ⟨bd, od, e2, dd⟩ := rdI_at HD5.out (show I < ds.length by rw [HL3.out]; exact hik)
                    subst e2
                    have hw : wantE ds I J = el ds I := by unfold wantE; rw [if_pos ⟨hij, by rw [HL3.out]; exact hik⟩]
                    have J3 : (I : Int) < (K : Int) := by omega
                    have b4 : decide ((I : Int) < (K : Int)) = true := decide_eq_true J3
                    have b5 : decide (I < K) = true := decide_eq_true hik
                    clear hij
                    by_cases hx : el (rw_ P I) J = el ds I
                    · have hx2 : (el (rw_ P I) J != el ds I) = false := by rw [hx]; simp
                      have HK2 := Lib.hid (HNx2.out (by rw [hw, hx]))
                      clear hx hw
                      go_wp2_with fail
                      go_roundw
                      case rel => exact ⟨J + 1, by omega, by go_num, by first | rfl | trivial, HK2⟩
                      case measure => simp [intOf]; omega
                    · have hx2 : (el (rw_ P I) J != el ds I) = true := bne_iff_ne.2 hx
                      have HV := Lib.hid (HFl.out (by rw [hw]; exact hx))
                      clear hx hw
                      go_wp2_with fail
                      go_ret
                      exact ⟨ret_bool HV.out, HB5.out⟩
                  · have hw : wantE ds I J = 0 := by unfold wantE; rw [if_neg (fun h => hik (by rw [← HL3.out]; exact h.2))]
                    have b4 : decide ((I : Int) < (K : Int)) = false := decide_eq_false (by omega)
                    have b5 : decide (I < K) = false := decide_eq_false hik
                    clear hij
                    by_cases hx : el (rw_ P I) J = 0
                    · have hx2 : (el (rw_ P I) J != 0) = false := by rw [hx]; simp
                      have HK2 := Lib.hid (HNx2.out (by rw [hw, hx]))
                      clear hx hw
                      go_wp2_with fail
                      go_roundw
                      case rel => exact ⟨J + 1, by omega, by go_num, by first | rfl | trivial, HK2⟩
                      case measure => simp [intOf]; omega
                    · have hx2 : (el (rw_ P I) J != 0) = true := bne_iff_ne.2 hx
                      have HV := Lib.hid (HFl.out (by rw [hw]; exact hx))
                      clear hx hw
                      go_wp2_with fail
                      go_ret
                      exact ⟨ret_bool HV.out, HB5.out⟩
                · have hb9 : ((I : Int) == (J : Int)) = false := beq_eq_false_iff_ne.2 (by omega)
                  have hw : wantE ds I J = 0 := by unfold wantE; rw [if_neg (fun h => hij h.1)]
                  by_cases hx : el (rw_ P I) J = 0
                  · have hx2 : (el (rw_ P I) J != 0) = false := by rw [hx]; simp
                    have HK2 := Lib.hid (HNx2.out (by rw [hw, hx]))
                    clear hx hw
                    go_wp2_with fail
                    go_roundw
                    case rel => exact ⟨J + 1, by omega, by go_num, by first | rfl | trivial, HK2⟩
                    case measure => simp [intOf]; omega
                  · have hx2 : (el (rw_ P I) J != 0) = true := bne_iff_ne.2 hx
                    have HV := Lib.hid (HFl.out (by rw [hw]; exact hx))
                    clear hx hw
                    go_wp2_with fail
                    go_ret
                    exact ⟨ret_bool HV.out, HB5.out⟩
              · obtain rfl : J = n2 := by omega
                have HO2 : Hid (∀ i j, i < I + 1 → j < J → el (rw_ P i) j = wantE ds i j) := Lib.hid fun i j hi hj => by
                  by_cases he : i = I
                  · subst he; exact HJ.out j hj
                  · exact HO.out i j (by omega) hj
                have b3 : decide ((J : Int) < (J : Int)) = false := by simp
                go_wp2_with fail
                go_roundw
                case rel => exact ⟨I + 1, by omega, by go_num, by first | rfl | trivial, HO2⟩
                case measure => simp [intOf]; omega
          · obtain rfl : I = n0 := by omega
            have HV := Lib.hid (HPr.out HO.out)
            have b2 : decide ((I : Int) < (I : Int)) = false := by simp
            go_wp2_with fail
            go_ret
            exact ⟨ret_bool HV.out, HB5.out⟩
end Go.Proofs.Ytcnphhcdjhmmkaa
