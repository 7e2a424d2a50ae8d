/- When one abelian group is a quotient of another: the reference's function. -/
import Derived.Test.YtgdialknnjnehaaQuR
set_option linter.unusedVariables false
set_option linter.unusedSimpArgs false
namespace Go.Proofs.Ytgdialknnjnehaa
open Go.RowKit
theorem refQ_bad {xs ys : List Int} {r s : Int} {i : Nat} (hi : i < (dnL ys s).length) (h1 : el (dnL xs r) i ≠ 0) (h2 : el (dnL ys s) i = 0 ∨ el (dnL xs r) i % el (dnL ys s) i ≠ 0) : quB xs r ys s = false := by
  refine quB_f (fun h => ?_)
  rcases h.2 i hi with h3 | ⟨h3, h4⟩
  · exact h1 h3
  · rcases h2 with h2 | h2
    · exact h3 h2
    · exact h2 h4
theorem dnL_rng {xs : List Int} {r : Int} (h : isAb xs r = true) (i : Nat) : 0 ≤ el (dnL xs r) i ∧ el (dnL xs r) i ≤ 1000000 := by
  rcases Nat.lt_or_ge i r.toNat with h1 | h1
  · rw [dnL_lo h1]; omega
  · rcases Nat.lt_or_ge (i - r.toNat) xs.length with h2 | h2
    · have e := dnL_hi (xs := xs) (r := r) (i := i - r.toNat)
      rw [show r.toNat + (i - r.toNat) = i by omega] at e
      rw [e]
      have := rev_rng h h2
      omega
    · have : el (dnL xs r) i = 0 := by
        unfold el
        rw [List.getElem?_eq_none (by rw [dnL_len]; omega)]
        rfl
      omega
set_option maxRecDepth 20000 in
set_option maxHeartbeats 4000000 in
theorem spec_HasAbelianQuotient_any (a : Option Addr) (n c : Nat) (xs : List Int) (r : Int) (b : Option Addr) (m d : Nat) (ys : List Int) (s : Int) (w : World) (ha : RdI w a xs) (hl : xs.length = n) (hb : RdI w b ys) (hl2 : ys.length = m) (hn : n ≤ 1048576) (hm : m ≤ 1048576) :
    Calls Try.prog 41 #[.agg #[.slice a n c, .int .i64 r], .agg #[.slice b m d, .int .i64 s]] w fun e w' => e = .returned (.tuple #[.bool (quV xs r ys s).1, .int .i64 (quV xs r ys s).2]) ∧ Below w.heap.size w w' := by
  have HA := Lib.hid ha
  have HL := Lib.hid hl
  have HA2 := Lib.hid hb
  have HL2 := Lib.hid hl2
  clear ha hl hb hl2
  cases hv : isAb xs r
  · rw [quV_no1 hv]
    go_enter Try.func41, Try.ntmps41
    go_wp2_with fail
    refine (spec_IsAbelian_any _ _ _ xs _ _ (by exact (HA.out.alloc _).alloc _) HL.out (by omega)).mono ?_
    rw [hv]
    rintro e w1 ⟨rfl, hb⟩
    have HB : Hid (Below w.heap.size w w1) := Lib.hid ((((Below.refl _ _).alloc (Nat.le_refl _) _).alloc (by simp) _).trans (hb.mono (by simp; omega)))
    have p0 := cell_keep (p := ⟨w.heap.size, 0, none⟩) (v := .slice a n c) (by simp) hb
    have p1 := cell_keep (p := ⟨w.heap.size, 1, none⟩) (v := .int .i64 r) (by simp) hb
    have p2 := cell_keep (p := ⟨w.heap.size + 1, 0, none⟩) (v := .slice b m d) (by simp) hb
    have p3 := cell_keep (p := ⟨w.heap.size + 1, 1, none⟩) (v := .int .i64 s) (by simp) hb
    have sz1 : w.heap.size + 2 ≤ w1.heap.size := by have := hb.size; simp at this; omega
    clear hb
    clear hv
    go_wp2_with fail
    go_ret2
    exact ⟨rfl, HB.out⟩
  cases hu : isAb ys s
  · rw [quV_no2 hu]
    go_enter Try.func41, Try.ntmps41
    go_wp2_with fail
    refine (spec_IsAbelian_any _ _ _ xs _ _ (by exact (HA.out.alloc _).alloc _) HL.out (by omega)).mono ?_
    rw [hv]
    rintro e w1 ⟨rfl, hb⟩
    have HB : Hid (Below w.heap.size w w1) := Lib.hid ((((Below.refl _ _).alloc (Nat.le_refl _) _).alloc (by simp) _).trans (hb.mono (by simp; omega)))
    have p0 := cell_keep (p := ⟨w.heap.size, 0, none⟩) (v := .slice a n c) (by simp) hb
    have p1 := cell_keep (p := ⟨w.heap.size, 1, none⟩) (v := .int .i64 r) (by simp) hb
    have p2 := cell_keep (p := ⟨w.heap.size + 1, 0, none⟩) (v := .slice b m d) (by simp) hb
    have p3 := cell_keep (p := ⟨w.heap.size + 1, 1, none⟩) (v := .int .i64 s) (by simp) hb
    have sz1 : w.heap.size + 2 ≤ w1.heap.size := by have := hb.size; simp at this; omega
    clear hb
    go_wp2_with fail
    refine (spec_IsAbelian_any _ _ _ ys _ _ (by exact HA2.out.keep HB.out (Nat.le_refl _)) HL2.out (by omega)).mono ?_
    rw [hu]
    rintro e w2 ⟨rfl, hb⟩
    replace HB : Hid (Below w.heap.size w w2) := Lib.hid (HB.out.trans (hb.mono HB.out.size))
    replace p0 := cell_keep p0 hb
    replace p1 := cell_keep p1 hb
    replace p2 := cell_keep p2 hb
    replace p3 := cell_keep p3 hb
    replace sz1 : w.heap.size + 2 ≤ w2.heap.size := Nat.le_trans sz1 hb.size
    clear hb
    clear hv hu
    go_wp2_with fail
    go_ret2
    exact ⟨rfl, HB.out⟩
  rw [quV_ok hv hu]
  have HV := Lib.hid hv
  have HU := Lib.hid hu
  have hv9 := isAb_ok hv
  have hu9 := isAb_ok hu
  have r0 : 0 ≤ r := hv9.1
  have r10 : r ≤ 10 := hv9.2.1
  have s0 : 0 ≤ s := hu9.1
  have s10 : s ≤ 10 := hu9.2.1
  have n10 : n ≤ 10 := by have h1 := hv9.2.2.1; have h2 := HL.out; omega
  have m10 : m ≤ 10 := by have h1 := hu9.2.2.1; have h2 := HL2.out; omega
  clear hv9 hu9
  obtain ⟨R, rfl⟩ : ∃ R : Nat, r = R := ⟨r.toNat, by omega⟩
  obtain ⟨T, rfl⟩ : ∃ T : Nat, s = T := ⟨s.toNat, by omega⟩
  obtain ⟨q, hq⟩ : ∃ q, q = quB xs R ys T := ⟨_, rfl⟩
  rw [← hq]
  have HQ := Lib.hid hq
  clear hq
  go_enter Try.func41, Try.ntmps41
  go_wp2_with fail
  refine (spec_IsAbelian_any _ _ _ xs _ _ (by exact (HA.out.alloc _).alloc _) HL.out (by omega)).mono ?_
  rw [hv]
  rintro e w1 ⟨rfl, hb⟩
  have HB : Hid (Below w.heap.size w w1) := Lib.hid ((((Below.refl _ _).alloc (Nat.le_refl _) _).alloc (by simp) _).trans (hb.mono (by simp; omega)))
  have p0 := cell_keep (p := ⟨w.heap.size, 0, none⟩) (v := .slice a n c) (by simp) hb
  have p1 := cell_keep (p := ⟨w.heap.size, 1, none⟩) (v := .int .i64 R) (by simp) hb
  have p2 := cell_keep (p := ⟨w.heap.size + 1, 0, none⟩) (v := .slice b m d) (by simp) hb
  have p3 := cell_keep (p := ⟨w.heap.size + 1, 1, none⟩) (v := .int .i64 T) (by simp) hb
  have sz1 : w.heap.size + 2 ≤ w1.heap.size := by have := hb.size; simp at this; omega
  clear hb
  go_wp2_with fail
  refine (spec_IsAbelian_any _ _ _ ys _ _ (by exact HA2.out.keep HB.out (Nat.le_refl _)) HL2.out (by omega)).mono ?_
  rw [hu]
  rintro e w2 ⟨rfl, hb⟩
  replace HB : Hid (Below w.heap.size w w2) := Lib.hid (HB.out.trans (hb.mono HB.out.size))
  replace p0 := cell_keep p0 hb
  replace p1 := cell_keep p1 hb
  replace p2 := cell_keep p2 hb
  replace p3 := cell_keep p3 hb
  replace sz1 : w.heap.size + 2 ≤ w2.heap.size := Nat.le_trans sz1 hb.size
  clear hb
  have HR1 : Hid (RdI w2 a xs) := Lib.hid (HA.out.keep HB.out (Nat.le_refl _))
  have HR2 : Hid (RdI w2 b ys) := Lib.hid (HA2.out.keep HB.out (Nat.le_refl _))
  clear hv hu
  go_wp2_with fail
  go_region_held3 (fun w' => w'.cell? ⟨w.heap.size, 0, none⟩ = some (.slice a n c) ∧ w'.cell? ⟨w.heap.size, 1, none⟩ = some (.int .i64 R) ∧ w'.cell? ⟨w.heap.size + 1, 0, none⟩ = some (.slice b m d) ∧ w'.cell? ⟨w.heap.size + 1, 1, none⟩ = some (.int .i64 T)) (go_keep)
    (first
      | (go_at_call 63; (with_reducible refine (l05Down_any a n c xs R _ ?_ HL.out (by omega) (by omega)).mono ?_); exact (show RdI w2 a xs from HR1.out); rintro e w3 ⟨a1, c1, rfl, ho, hb0⟩; have hb : Below w2.heap.size w2 w3 := ⟨hb0.os, hb0.tape, hb0.output, hb0.size, hb0.block⟩; have p0' := cell_below (p := ⟨w.heap.size, 0, none⟩) p0 hb; have p1' := cell_below (p := ⟨w.heap.size, 1, none⟩) p1 hb; have p2' := cell_below (p := ⟨w.heap.size + 1, 0, none⟩) p2 hb; have p3' := cell_below (p := ⟨w.heap.size + 1, 1, none⟩) p3 hb; have HO1 : Hid (OwnI 2 w3 w2.heap.size a1 (R + n) c1 (dnL xs R)) := Lib.hid ho; have HB3 := Lib.hid hb; have HR3 : Hid (RdI w3 b ys) := Lib.hid (HR2.out.keep hb (Nat.le_refl _)); have s3 := hb.size; clear ho hb hb0)
      | (go_at_call 63; (with_reducible refine (l05Down_any b m d ys T _ ?_ HL2.out (by omega) (by omega)).mono ?_); exact (show RdI w3 b ys from HR3.out); rintro e w4 ⟨a2, c2, rfl, ho, hb0⟩; have hb : Below w3.heap.size w3 w4 := ⟨hb0.os, hb0.tape, hb0.output, hb0.size, hb0.block⟩; have p0'' := cell_below (p := ⟨w.heap.size, 0, none⟩) p0' hb; have p1'' := cell_below (p := ⟨w.heap.size, 1, none⟩) p1' hb; have p2'' := cell_below (p := ⟨w.heap.size + 1, 0, none⟩) p2' hb; have p3'' := cell_below (p := ⟨w.heap.size + 1, 1, none⟩) p3' hb; have HD1 : Hid (RdI w4 a1 (dnL xs R)) := Lib.hid (HO1.out.keep hb (Nat.le_refl _)).rd; have HD2 : Hid (RdI w4 a2 (dnL ys T)) := Lib.hid ho.rd; have HB4 : Hid (Below w2.heap.size w2 w4) := Lib.hid (HB3.out.trans (hb.mono s3)); clear ho hb hb0))
  have HBw : Hid (Below w.heap.size w w4) := Lib.hid (HB.out.trans (HB4.out.mono HB.out.size))
  have HLx : Hid ((dnL xs R).length = R + n) := Lib.hid (by rw [dnL_len, HL.out]; simp)
  have HLy : Hid ((dnL ys T).length = T + m) := Lib.hid (by rw [dnL_len, HL2.out]; simp)
  obtain ⟨N, hN⟩ : ∃ N, N = R + n := ⟨_, rfl⟩
  obtain ⟨M, hM⟩ : ∃ M, M = T + m := ⟨_, rfl⟩
  have hN9 : N ≤ 20 := by omega
  have hM9 : M ≤ 20 := by omega
  rw [← hN] at HLx ⊢
  rw [← hM] at HLy ⊢
  clear hN hM
  by_cases hlen : N < M
  · obtain rfl : q = false := by rw [HQ.out]; exact quB_f (fun h => by have := h.1; rw [HLx.out, HLy.out] at this; omega)
    have l1 : (N : Int) < M := by omega
    have l2 : decide ((N : Int) < M) = true := decide_eq_true l1
    have l3 : decide (N < M) = true := decide_eq_true hlen
    go_wp2_with fail
    go_ret2
    exact ⟨rfl, HBw.out⟩
  have l1 : ¬ (N : Int) < M := by omega
  have l2 : decide ((N : Int) < M) = false := decide_eq_false l1
  have l3 : decide (N < M) = false := decide_eq_false hlen
  go_wp2_with fail
  go_loopw [8] (fun v wr => ∃ (i : Nat), v = .int .i64 i ∧ i ≤ M ∧ Hid ((∀ j, j < i → el (dnL xs R) j = 0 ∨ (el (dnL ys T) j ≠ 0 ∧ el (dnL xs R) j % el (dnL ys T) j = 0)) ∧ Below w4.heap.size w4 wr)) (fun v _ => M - (intOf v).toNat)
  case atStart => exact ⟨0, rfl, Nat.zero_le _, Lib.hid ⟨fun j hj => absurd hj (Nat.not_lt_zero _), Below.refl _ _⟩⟩
  case round =>
    obtain ⟨i, rfl, hi, HI⟩ := hrel
    obtain ⟨wo, rfl⟩ : ∃ x, x = wr := ⟨wr, rfl⟩
    have HBo : Hid (Below w.heap.size w wo) := Lib.hid (HBw.out.trans (HI.out.2.mono HBw.out.size))
    by_cases hiM : i < M
    · have i1 : (i : Int) < M := by omega
      have i2 : decide ((i : Int) < M) = true := decide_eq_true i1
      have i3 : decide (i < M) = true := decide_eq_true hiM
      have hiN : i < N := by omega
      have iN1 : (i : Int) < N := by omega
      obtain ⟨b1, o1, rfl, c1⟩ := rdI_at (HD1.out.keep HI.out.2 (Nat.le_refl _)) (show i < (dnL xs R).length by rw [HLx.out]; exact hiN)
      obtain ⟨b2, o2, rfl, c2⟩ := rdI_at (HD2.out.keep HI.out.2 (Nat.le_refl _)) (show i < (dnL ys T).length by rw [HLy.out]; exact hiM)
      have HX := Lib.hid (dnL_rng HV.out i)
      have HY := Lib.hid (dnL_rng HU.out i)
      have HBAD : Hid (el (dnL xs R) i ≠ 0 → (el (dnL ys T) i = 0 ∨ el (dnL xs R) i % el (dnL ys T) i ≠ 0) → quB xs R ys T = false) := Lib.hid (refQ_bad (by rw [HLy.out]; exact hiM))
      have HOK : Hid (el (dnL xs R) i = 0 ∨ (el (dnL ys T) i ≠ 0 ∧ el (dnL xs R) i % el (dnL ys T) i = 0) → ∀ j, j < i + 1 → el (dnL xs R) j = 0 ∨ (el (dnL ys T) j ≠ 0 ∧ el (dnL xs R) j % el (dnL ys T) j = 0)) := Lib.hid (fun h j hj => by
        rcases Nat.lt_or_ge j i with h1 | h1
        · exact HI.out.1 j h1
        · have : j = i := by omega
          subst this; exact h)
      obtain ⟨X, hX⟩ : ∃ X, X = el (dnL xs R) i := ⟨_, rfl⟩
      obtain ⟨Y, hY⟩ : ∃ Y, Y = el (dnL ys T) i := ⟨_, rfl⟩
      rw [← hX] at c1 HX HBAD HOK
      rw [← hY] at c2 HY HBAD HOK
      clear hX hY
      obtain ⟨X0, X9⟩ := HX.out
      obtain ⟨Y0, Y9⟩ := HY.out
      by_cases hx : X = 0
      · have HN := Lib.hid (HOK.out (.inl hx))
        subst hx
        go_wp2_with fail
        go_quiet (fail)
        go_wp2_with fail
        go_roundw
        case rel => exact ⟨i + 1, by go_num, by omega, Lib.hid ⟨HN.out, (by first | exact HI.out.2 | exact below_drewN' HI.out.2 _)⟩⟩
        case measure => simp [intOf]; omega
      have x1 : (X == 0) = false := by simp [hx]
      have x2 : (X != 0) = true := by simp [hx]
      by_cases hy : Y = 0
      · have HF := Lib.hid (HBAD.out hx (.inl hy))
        obtain rfl : q = false := by rw [HQ.out]; exact HF.out
        subst hy
        go_wp2_with fail
        go_quiet (fail)
        go_wp2_with fail
        go_ret2
        exact ⟨rfl, (by first | exact HBo.out | exact below_drewN' HBo.out _)⟩
      have y1 : (Y == 0) = false := by simp [hy]
      have y2 : (Y != 0) = true := by simp [hy]
      have et : X.tmod Y = X % Y := Int.tmod_eq_emod_of_nonneg X0
      obtain ⟨Z, hZ⟩ : ∃ Z, Z = X % Y := ⟨_, rfl⟩
      have Z0 : 0 ≤ Z := by rw [hZ]; exact Int.emod_nonneg _ hy
      have Z9 : Z ≤ 1000000 := by rw [hZ]; have := Int.emod_lt_of_pos X (show 0 < Y by omega); omega
      rw [← hZ] at et HBAD HOK
      clear hZ
      by_cases hz : Z = 0
      · have HN := Lib.hid (HOK.out (.inr ⟨hy, hz⟩))
        subst hz
        go_wp2_with fail
        go_quiet (fail)
        go_wp2_with fail
        go_roundw
        case rel => exact ⟨i + 1, by go_num, by omega, Lib.hid ⟨HN.out, (by first | exact HI.out.2 | exact below_drewN' HI.out.2 _)⟩⟩
        case measure => simp [intOf]; omega
      have z1 : (Z == 0) = false := by simp [hz]
      have z2 : (Z != 0) = true := by simp [hz]
      have HF := Lib.hid (HBAD.out hx (.inr hz))
      obtain rfl : q = false := by rw [HQ.out]; exact HF.out
      go_wp2_with fail
      go_quiet (fail)
      go_wp2_with fail
      go_ret2
      exact ⟨rfl, (by first | exact HBo.out | exact below_drewN' HBo.out _)⟩
    · have i1 : ¬ (i : Int) < M := by omega
      have i2 : decide ((i : Int) < M) = false := decide_eq_false i1
      have i3 : decide (i < M) = false := decide_eq_false hiM
      obtain rfl : q = true := by
        rw [HQ.out]
        refine quB_t ⟨by rw [HLx.out, HLy.out]; omega, fun j hj => HI.out.1 j (by rw [HLy.out] at hj; omega)⟩
      go_wp2_with fail
      go_ret2
      exact ⟨rfl, HBo.out⟩
end Go.Proofs.Ytgdialknnjnehaa
