/- FromPrimary: the program's and the reference's. -/
import Derived.Test.YtgdialknnjnehaaFpI
set_option linter.unusedVariables false
set_option linter.unusedSimpArgs false
namespace Go.Proofs.Ytgdialknnjnehaa
open Go.RowKit

def ppB (q : Int) : Bool := decide (2 ≤ q ∧ q ≤ 1000000 ∧ (primesOf q).length = 1)
theorem ppB_iff {q : Int} : ppB q = true ↔ isPP q := by unfold ppB isPP; simp
def fpO (qs : List Int) : List Int × Int × Int := if qs.all ppB = true then (if 100 < qs.length then ([], 0, 3) else fpV qs 0) else ([], 0, 2)
def res_FromPrimary (qs : List Int) (R : List Int) (K d : Int) : Prop := (R, K, d) = fpO qs
theorem res_FromPrimary_uniq {qs : List Int} {K1 K2 d1 d2 : Int} {R1 R2 : List Int} (h : res_FromPrimary qs R1 K1 d1) (k : res_FromPrimary qs R2 K2 d2) : R1 = R2 ∧ K1 = K2 ∧ d1 = d2 := by
  have := h.trans k.symm
  simp at this
  exact ⟨this.1, this.2.1, this.2.2⟩
theorem fpV_small {qs : List Int} {r : Int} : (fpV qs r).1.length ≤ 1048576 := by
  unfold fpV
  split
  · rename_i h
    have := isAb_ok h.2
    have h1 := this.1
    have h2 := this.2.2.1
    simp only
    omega
  · simp
theorem res_FromPrimary_small {qs : List Int} {K d : Int} {R : List Int} (h : res_FromPrimary qs R K d) : R.length ≤ 1048576 := by
  have e : R = (fpO qs).1 := congrArg Prod.fst h
  rw [e]
  unfold fpO
  split
  · split
    · simp
    · exact fpV_small
  · simp
theorem fpO_range {qs : List Int} {k : Nat} (hk : k < qs.length) (h : ¬ isPP (el qs k)) : res_FromPrimary qs [] 0 2 := by
  unfold res_FromPrimary fpO
  rw [if_neg]
  intro hall
  exact h (ppB_iff.1 (List.all_eq_true.1 hall _ (el_mem hk)))
theorem fpO_long {qs : List Int} (hx : ∀ x ∈ qs, isPP x) (h : 100 < qs.length) : res_FromPrimary qs [] 0 3 := by
  unfold res_FromPrimary fpO
  rw [if_pos (List.all_eq_true.2 fun x hm => ppB_iff.2 (hx x hm)), if_pos h]
theorem fpO_res {qs R : List Int} {K d : Int} (hx : ∀ x ∈ qs, isPP x) (h : ¬ 100 < qs.length) (hr : res_fp qs 0 R K d) : res_FromPrimary qs R K d := by
  unfold res_FromPrimary fpO
  rw [if_pos (List.all_eq_true.2 fun x hm => ppB_iff.2 (hx x hm)), if_neg h]
  exact hr
theorem allPP_of {qs : List Int} (h : ∀ j, j < qs.length → isPP (el qs j)) : ∀ x ∈ qs, isPP x := fun x hx => by
  obtain ⟨j, hj, e⟩ := List.mem_iff_getElem.1 hx
  have := h j hj
  rwa [show el qs j = x by rw [← e]; simp [el, hj]] at this
set_option maxRecDepth 20000 in
set_option maxHeartbeats 4000000 in
theorem impl_FromPrimary_any (a : Option Addr) (n c : Nat) (xs : List Int) (w : World) (ha : RdI w a xs) (hl : xs.length = n) (hn : n ≤ 1048576) (hx : ∀ x ∈ xs, I64 x) :
    Calls Try.prog 37 #[.slice a n c] w fun e w' => ∃ (R : List Int) (K d : Int) (a' : Option Addr) (c' : Nat), e = .returned (.tuple #[.agg #[.slice a' R.length c', .int .i64 K], .int .i64 d]) ∧ res_FromPrimary xs R K d ∧ OwnI 2 w' w.heap.size a' R.length c' R ∧ Below w.heap.size w w' := by
  have HA := Lib.hid ha
  have HL := Lib.hid hl
  have HX64 := Lib.hid hx
  clear ha hl hx
  go_enter Try.func37, Try.ntmps37
  go_wp2_with fail
  go_loopw [10] (fun i wr => ∃ (k : Nat), i = .int .i64 k ∧ k ≤ n ∧ Hid ((∀ j, j < k → isPP (el xs j)) ∧ Below w.heap.size w wr ∧ BX 27 wr w.heap.size #[.slice none 0 0, .int .i64 0])) (fun i _ => n - (intOf i).toNat)
  case atStart => exact ⟨0, rfl, Nat.zero_le _, Lib.hid ⟨fun j hj => absurd hj (Nat.not_lt_zero _), (Below.refl _ _).alloc (Nat.le_refl _) _, BX.new _ _ _⟩⟩
  case round =>
    obtain ⟨k, rfl, hk, HR⟩ := hrel
    obtain ⟨wo, rfl⟩ : ∃ x, x = wr := ⟨wr, rfl⟩
    by_cases hkn : k < n
    · have k1 : (k : Int) < n := by omega
      have k2 : decide ((k : Int) < n) = true := decide_eq_true k1
      have k3 : decide (k < n) = true := decide_eq_true hkn
      obtain ⟨b0, o0, rfl, cx⟩ := rdI_at (HA.out.keep HR.out.2.1 (Nat.le_refl _)) (show k < xs.length by rw [HL.out]; exact hkn)
      have HI6 : Hid (I64 (el xs k)) := Lib.hid (HX64.out _ (el_mem (by rw [HL.out]; exact hkn)))
      have HKL : Hid (k < xs.length) := Lib.hid (by rw [HL.out]; exact hkn)
      obtain ⟨x, hxe⟩ : ∃ x, x = el xs k := ⟨_, rfl⟩
      have HXE := Lib.hid hxe
      rw [← hxe] at cx HI6
      clear hxe
      have hI1 := HI6.out.1
      have hI2 := HI6.out.2
      have HX0 : Hid (BX 27 wo w.heap.size #[.slice none 0 0, .int .i64 0]) := Lib.hid HR.out.2.2
      have HB0 : Hid (Below w.heap.size w wo) := Lib.hid HR.out.2.1
      by_cases hbig : x < 2 ∨ 1000000 < x
      · have HRS : Hid (res_FromPrimary xs [] 0 2) := Lib.hid (fpO_range HKL.out (fun h => by rw [← HXE.out] at h; have h1 := h.1; have h2 := h.2.1; omega))
        have X := (HX0.out.set 0 (.slice none 0 0)).set 1 (.int .i64 0)
        have y0 := X.cell 0
        have y1 := X.cell 1
        simp at y0 y1
        have l5 := HX0.out.lt
        have f0 := HX0.out.frz 0
        have f1 := HX0.out.frz 1
        have z0 := HX0.out.cell 0
        have z1 := HX0.out.cell 1
        simp at z0 z1
        clear X
        go_wp2_with (go_at_call 50; refine (inside_f _ _ _ _ hbig).mono ?_; rintro e w' ⟨rfl, rfl⟩)
        refine bodyPost_ret (v := .tuple #[.agg #[.slice none 0 0, .int .i64 0], .int .i64 2]) (by simp [results, Try.results37, go_sem, y0, y1]) rfl ⟨[], 0, 2, none, 0, rfl, HRS.out, OwnI.none, ?_⟩
        exact (HB0.out.setCell (p := ⟨w.heap.size, 0, none⟩) (Nat.le_refl _) _).setCell (p := ⟨w.heap.size, 1, none⟩) (Nat.le_refl _) _
      · have x1 : 2 ≤ x := by omega
        have x2 : x ≤ 1000000 := by omega
        clear hbig
        go_wp2_with (go_at_call 50; refine (inside_t _ _ _ _ x1 x2).mono ?_; rintro e w' ⟨rfl, rfl⟩)
        refine (factors_any x wo (by omega) x2).mono ?_
        rintro e w2 ⟨a1, n1, c1, a2, n2, c2, rfl, ho1, ho2, _, hb⟩
        have HB2 : Hid (Below w.heap.size w w2) := Lib.hid (HB0.out.trans (hb.mono HB0.out.size))
        have HX2 : Hid (BX 27 w2 w.heap.size #[.slice none 0 0, .int .i64 0]) := Lib.hid (HX0.out.keep hb)
        have HN1 : Hid ((primesOf x).length = n1) := Lib.hid ho1.len
        clear ho1 ho2 hb
        by_cases hn1 : n1 = 1
        · have HRN : Hid ((∀ j, j < k + 1 → isPP (el xs j)) ∧ Below w.heap.size w w2 ∧ BX 27 w2 w.heap.size #[.slice none 0 0, .int .i64 0]) := Lib.hid ⟨fun j hj => by
            rcases Nat.lt_or_ge j k with h | h
            · exact HR.out.1 j h
            · have : j = k := by omega
              subst this
              rw [← HXE.out]
              exact ⟨x1, x2, by rw [HN1.out, hn1]⟩, HB2.out, HX2.out⟩
          subst hn1
          go_wp2_with fail
          go_roundw
          case rel => exact ⟨k + 1, by go_num, by omega, HRN⟩
          case measure => simp [intOf]; omega
        · have HRS : Hid (res_FromPrimary xs [] 0 2) := Lib.hid (fpO_range HKL.out (fun h => by rw [← HXE.out] at h; have h1 := h.2.2; rw [HN1.out] at h1; exact hn1 h1))
          have e1 : ((n1 : Int) == 1) = false := by simp; omega
          have e2 : (n1 == 1) = false := by simp [hn1]
          have e3 : decide ((n1 : Int) = 1) = false := by simp; omega
          have e4 : ¬ (n1 : Int) = 1 := by omega
          have X := (HX2.out.set 0 (.slice none 0 0)).set 1 (.int .i64 0)
          have y0 := X.cell 0
          have y1 := X.cell 1
          simp at y0 y1
          have l5 := HX2.out.lt
          have f0 := HX2.out.frz 0
          have f1 := HX2.out.frz 1
          have z0 := HX2.out.cell 0
          have z1 := HX2.out.cell 1
          simp at z0 z1
          clear X
          go_wp2_with fail
          refine bodyPost_ret (v := .tuple #[.agg #[.slice none 0 0, .int .i64 0], .int .i64 2]) (by simp [results, Try.results37, go_sem, y0, y1]) rfl ⟨[], 0, 2, none, 0, rfl, HRS.out, OwnI.none, ?_⟩
          exact (HB2.out.setCell (p := ⟨w.heap.size, 0, none⟩) (Nat.le_refl _) _).setCell (p := ⟨w.heap.size, 1, none⟩) (Nat.le_refl _) _
    · have hkn' : k = n := by omega
      have k1 : ¬ (k : Int) < n := by omega
      have k2 : decide ((k : Int) < n) = false := decide_eq_false k1
      have k3 : decide (k < n) = false := decide_eq_false hkn
      have HX0 : Hid (BX 27 wo w.heap.size #[.slice none 0 0, .int .i64 0]) := Lib.hid HR.out.2.2
      have HB0 : Hid (Below w.heap.size w wo) := Lib.hid HR.out.2.1
      have HPP : Hid (∀ x ∈ xs, isPP x) := Lib.hid (allPP_of (fun j hj => HR.out.1 j (by rw [hkn', ← HL.out]; exact hj)))
      by_cases hlong : 100 < n
      · have HRS : Hid (res_FromPrimary xs [] 0 3) := Lib.hid (fpO_long HPP.out (by rw [HL.out]; exact hlong))
        have g1 : (100 : Int) < n := by omega
        have g2 : decide ((100 : Int) < n) = true := decide_eq_true g1
        have g3 : decide (100 < n) = true := decide_eq_true hlong
        have X := (HX0.out.set 0 (.slice none 0 0)).set 1 (.int .i64 0)
        have y0 := X.cell 0
        have y1 := X.cell 1
        simp at y0 y1
        have l5 := HX0.out.lt
        have f0 := HX0.out.frz 0
        have f1 := HX0.out.frz 1
        have z0 := HX0.out.cell 0
        have z1 := HX0.out.cell 1
        simp at z0 z1
        clear X
        go_wp2_with fail
        refine bodyPost_ret (v := .tuple #[.agg #[.slice none 0 0, .int .i64 0], .int .i64 3]) (by simp [results, Try.results37, go_sem, y0, y1]) rfl ⟨[], 0, 3, none, 0, rfl, HRS.out, OwnI.none, ?_⟩
        exact (HB0.out.setCell (p := ⟨w.heap.size, 0, none⟩) (Nat.le_refl _) _).setCell (p := ⟨w.heap.size, 1, none⟩) (Nat.le_refl _) _
      · have g1 : ¬ (100 : Int) < n := by omega
        have g2 : decide ((100 : Int) < n) = false := decide_eq_false g1
        have g3 : decide (100 < n) = false := decide_eq_false hlong
        go_wp2_with fail
        refine (fromPrimary_any a n c xs 0 wo (HA.out.keep HB0.out (Nat.le_refl _)) HL.out (by omega) HPP.out (by omega) (by omega)).mono ?_
        rintro e w5 ⟨R, K, d, a', c', rfl, hres, ho, hb⟩
        have HRS : Hid (res_FromPrimary xs R K d) := Lib.hid (fpO_res HPP.out (by rw [HL.out]; exact hlong) hres)
        have HBC : Hid (Below w.heap.size w w5) := Lib.hid (HB0.out.trans (hb.mono HB0.out.size))
        have HXC : Hid (BX 27 w5 w.heap.size #[.slice none 0 0, .int .i64 0]) := Lib.hid (HX0.out.keep hb)
        have HO : Hid (OwnI 2 w5 (w.heap.size + 1) a' R.length c' R) := Lib.hid (ho.mono (by have := HX0.out.lt; omega))
        clear hb ho hres
        have X := (HXC.out.set 0 (.slice a' R.length c')).set 1 (.int .i64 K)
        have y0 := X.cell 0
        have y1 := X.cell 1
        simp at y0 y1
        have l5 := HXC.out.lt
        have f0 := HXC.out.frz 0
        have f1 := HXC.out.frz 1
        have z0 := HXC.out.cell 0
        have z1 := HXC.out.cell 1
        simp at z0 z1
        clear X
        go_wp2_with fail
        refine bodyPost_ret (v := .tuple #[.agg #[.slice a' R.length c', .int .i64 K], .int .i64 d]) (by simp [results, Try.results37, go_sem, y0, y1]) rfl ⟨R, K, d, a', c', rfl, HRS.out, ?_, ?_⟩
        · exact ((HO.out.setCell (by simp) _).setCell (by simp) _).mono (Nat.le_succ _)
        · exact (HBC.out.setCell (p := ⟨w.heap.size, 0, none⟩) (Nat.le_refl _) _).setCell (p := ⟨w.heap.size, 1, none⟩) (Nat.le_refl _) _
set_option maxRecDepth 20000 in
set_option maxHeartbeats 4000000 in
theorem spec_FromPrimary_any (a : Option Addr) (n c : Nat) (xs : List Int) (w : World) (ha : RdI w a xs) (hl : xs.length = n) (hn : n ≤ 1048576) (hx : ∀ x ∈ xs, I64 x) :
    Calls Try.prog 35 #[.slice a n c] w fun e w' => ∃ (R : List Int) (K d : Int) (a' : Option Addr) (c' : Nat), e = .returned (.tuple #[.agg #[.slice a' R.length c', .int .i64 K], .int .i64 d]) ∧ res_FromPrimary xs R K d ∧ OwnI 2 w' w.heap.size a' R.length c' R ∧ Below w.heap.size w w' := by
  have HA := Lib.hid ha
  have HL := Lib.hid hl
  have HX64 := Lib.hid hx
  clear ha hl hx
  go_enter Try.func35, Try.ntmps35
  go_wp2_with fail
  go_loopw [4] (fun i wr => ∃ (k : Nat), i = .int .i64 k ∧ k ≤ n ∧ Hid ((∀ j, j < k → isPP (el xs j)) ∧ Below w.heap.size w wr ∧ BX 27 wr w.heap.size #[.slice none 0 0, .int .i64 0])) (fun i _ => n - (intOf i).toNat)
  case atStart => exact ⟨0, rfl, Nat.zero_le _, Lib.hid ⟨fun j hj => absurd hj (Nat.not_lt_zero _), (Below.refl _ _).alloc (Nat.le_refl _) _, BX.new _ _ _⟩⟩
  case round =>
    obtain ⟨k, rfl, hk, HR⟩ := hrel
    obtain ⟨wo, rfl⟩ : ∃ x, x = wr := ⟨wr, rfl⟩
    by_cases hkn : k < n
    · have k1 : (k : Int) < n := by omega
      have k2 : decide ((k : Int) < n) = true := decide_eq_true k1
      have k3 : decide (k < n) = true := decide_eq_true hkn
      obtain ⟨b0, o0, rfl, cx⟩ := rdI_at (HA.out.keep HR.out.2.1 (Nat.le_refl _)) (show k < xs.length by rw [HL.out]; exact hkn)
      have HI6 : Hid (I64 (el xs k)) := Lib.hid (HX64.out _ (el_mem (by rw [HL.out]; exact hkn)))
      have HKL : Hid (k < xs.length) := Lib.hid (by rw [HL.out]; exact hkn)
      obtain ⟨x, hxe⟩ : ∃ x, x = el xs k := ⟨_, rfl⟩
      have HXE := Lib.hid hxe
      rw [← hxe] at cx HI6
      clear hxe
      have hI1 := HI6.out.1
      have hI2 := HI6.out.2
      have HX0 : Hid (BX 27 wo w.heap.size #[.slice none 0 0, .int .i64 0]) := Lib.hid HR.out.2.2
      have HB0 : Hid (Below w.heap.size w wo) := Lib.hid HR.out.2.1
      by_cases hbig : x < 2 ∨ 1000000 < x
      · have HRS : Hid (res_FromPrimary xs [] 0 2) := Lib.hid (fpO_range HKL.out (fun h => by rw [← HXE.out] at h; have h1 := h.1; have h2 := h.2.1; omega))
        have X := (HX0.out.set 0 (.slice none 0 0)).set 1 (.int .i64 0)
        have y0 := X.cell 0
        have y1 := X.cell 1
        simp at y0 y1
        have l5 := HX0.out.lt
        have f0 := HX0.out.frz 0
        have f1 := HX0.out.frz 1
        have z0 := HX0.out.cell 0
        have z1 := HX0.out.cell 1
        simp at z0 z1
        clear X
        go_wp2_with (go_at_call 49; refine (l01In_f _ _ _ _ hbig).mono ?_; rintro e w' ⟨rfl, rfl⟩)
        refine bodyPost_ret (v := .tuple #[.agg #[.slice none 0 0, .int .i64 0], .int .i64 2]) (by simp [results, Try.results35, go_sem, y0, y1]) rfl ⟨[], 0, 2, none, 0, rfl, HRS.out, OwnI.none, ?_⟩
        exact (HB0.out.setCell (p := ⟨w.heap.size, 0, none⟩) (Nat.le_refl _) _).setCell (p := ⟨w.heap.size, 1, none⟩) (Nat.le_refl _) _
      · have x1 : 2 ≤ x := by omega
        have x2 : x ≤ 1000000 := by omega
        clear hbig
        have hB0 : Hid (baseV x = 0 ↔ ¬ isPP x) := Lib.hid (by
          constructor
          · intro h hp
            rw [base_isPP hp] at h
            have := primes_bd x1 x2
            omega
          · intro h
            unfold baseV
            rw [if_neg (by omega)]
            split
            · rename_i h1; exact absurd ⟨x1, x2, h1⟩ h
            · rfl)
        obtain ⟨B, hB⟩ : ∃ B, B = baseV x := ⟨_, rfl⟩
        have HBE := Lib.hid hB
        by_cases hz : B = 0
        · have HRS : Hid (res_FromPrimary xs [] 0 2) := Lib.hid (fpO_range HKL.out (by rw [← HXE.out]; exact hB0.out.1 (by rw [← hB]; exact hz)))
          have e1 : (baseV x == 0) = true := by rw [← hB]; simp [hz]
          have e2 : baseV x = 0 := by rw [← hB]; exact hz
          have e3 : decide (baseV x = 0) = true := decide_eq_true e2
          clear hB
          have X := (HX0.out.set 0 (.slice none 0 0)).set 1 (.int .i64 0)
          have y0 := X.cell 0
          have y1 := X.cell 1
          simp at y0 y1
          have l5 := HX0.out.lt
          have f0 := HX0.out.frz 0
          have f1 := HX0.out.frz 1
          have z0 := HX0.out.cell 0
          have z1 := HX0.out.cell 1
          simp at z0 z1
          clear X
          go_wp2_with (first | (go_at_call 49; refine (l01In_t _ _ _ _ x1 x2).mono ?_; rintro e w' ⟨rfl, rfl⟩) | (go_at_call 55; refine (l05Base_any _ _ x1 x2).mono ?_; rintro e w' ⟨rfl, rfl⟩))
          refine bodyPost_ret (v := .tuple #[.agg #[.slice none 0 0, .int .i64 0], .int .i64 2]) (by simp [results, Try.results35, go_sem, y0, y1]) rfl ⟨[], 0, 2, none, 0, rfl, HRS.out, OwnI.none, ?_⟩
          exact (HB0.out.setCell (p := ⟨w.heap.size, 0, none⟩) (Nat.le_refl _) _).setCell (p := ⟨w.heap.size, 1, none⟩) (Nat.le_refl _) _
        · have HRN : Hid ((∀ j, j < k + 1 → isPP (el xs j)) ∧ Below w.heap.size w wo ∧ BX 27 wo w.heap.size #[.slice none 0 0, .int .i64 0]) := Lib.hid ⟨fun j hj => by
            rcases Nat.lt_or_ge j k with h | h
            · exact HR.out.1 j h
            · have : j = k := by omega
              subst this
              rw [← HXE.out]
              exact Classical.not_not.1 (fun h => hz (by rw [hB]; exact hB0.out.2 h)), HB0.out, HX0.out⟩
          have e1 : (baseV x == 0) = false := by rw [← hB]; simp [hz]
          have e2 : ¬ baseV x = 0 := by rw [← hB]; exact hz
          have e3 : decide (baseV x = 0) = false := decide_eq_false e2
          clear hB
          go_wp2_with (first | (go_at_call 49; refine (l01In_t _ _ _ _ x1 x2).mono ?_; rintro e w' ⟨rfl, rfl⟩) | (go_at_call 55; refine (l05Base_any _ _ x1 x2).mono ?_; rintro e w' ⟨rfl, rfl⟩))
          go_roundw
          case rel => exact ⟨k + 1, by go_num, by omega, Lib.hid HRN.out⟩
          case measure => simp [intOf]; omega
    · have hkn' : k = n := by omega
      have k1 : ¬ (k : Int) < n := by omega
      have k2 : decide ((k : Int) < n) = false := decide_eq_false k1
      have k3 : decide (k < n) = false := decide_eq_false hkn
      have HX0 : Hid (BX 27 wo w.heap.size #[.slice none 0 0, .int .i64 0]) := Lib.hid HR.out.2.2
      have HB0 : Hid (Below w.heap.size w wo) := Lib.hid HR.out.2.1
      have HPP : Hid (∀ x ∈ xs, isPP x) := Lib.hid (allPP_of (fun j hj => HR.out.1 j (by rw [hkn', ← HL.out]; exact hj)))
      by_cases hlong : 100 < n
      · have HRS : Hid (res_FromPrimary xs [] 0 3) := Lib.hid (fpO_long HPP.out (by rw [HL.out]; exact hlong))
        have g1 : (100 : Int) < n := by omega
        have g2 : decide ((100 : Int) < n) = true := decide_eq_true g1
        have g3 : decide (100 < n) = true := decide_eq_true hlong
        have X := (HX0.out.set 0 (.slice none 0 0)).set 1 (.int .i64 0)
        have y0 := X.cell 0
        have y1 := X.cell 1
        simp at y0 y1
        have l5 := HX0.out.lt
        have f0 := HX0.out.frz 0
        have f1 := HX0.out.frz 1
        have z0 := HX0.out.cell 0
        have z1 := HX0.out.cell 1
        simp at z0 z1
        clear X
        go_wp2_with fail
        refine bodyPost_ret (v := .tuple #[.agg #[.slice none 0 0, .int .i64 0], .int .i64 3]) (by simp [results, Try.results35, go_sem, y0, y1]) rfl ⟨[], 0, 3, none, 0, rfl, HRS.out, OwnI.none, ?_⟩
        exact (HB0.out.setCell (p := ⟨w.heap.size, 0, none⟩) (Nat.le_refl _) _).setCell (p := ⟨w.heap.size, 1, none⟩) (Nat.le_refl _) _
      · have g1 : ¬ (100 : Int) < n := by omega
        have g2 : decide ((100 : Int) < n) = false := decide_eq_false g1
        have g3 : decide (100 < n) = false := decide_eq_false hlong
        go_wp2_with fail
        refine (l05From_any a n c xs wo (HA.out.keep HB0.out (Nat.le_refl _)) HL.out (by omega) HPP.out).mono ?_
        cases hok : okB xs
        · rintro e w5 ⟨R, a', m, c', rfl, hres, ho, hb⟩
          have HRS : Hid (res_FromPrimary xs [] 0 3) := Lib.hid (fpO_res HPP.out (by rw [HL.out]; exact hlong) (fp_bad hok))
          have HBC : Hid (Below w.heap.size w w5) := Lib.hid (HB0.out.trans (hb.mono HB0.out.size))
          have HXC : Hid (BX 27 w5 w.heap.size #[.slice none 0 0, .int .i64 0]) := Lib.hid (HX0.out.keep hb)
          clear hb ho hres hok
          have X := (HXC.out.set 0 (.slice none 0 0)).set 1 (.int .i64 0)
          have y0 := X.cell 0
          have y1 := X.cell 1
          simp at y0 y1
          have l5 := HXC.out.lt
          have f0 := HXC.out.frz 0
          have f1 := HXC.out.frz 1
          have z0 := HXC.out.cell 0
          have z1 := HXC.out.cell 1
          simp at z0 z1
          clear X
          go_wp2_with fail
          refine bodyPost_ret (v := .tuple #[.agg #[.slice none 0 0, .int .i64 0], .int .i64 3]) (by simp [results, Try.results35, go_sem, y0, y1]) rfl ⟨[], 0, 3, none, 0, rfl, HRS.out, OwnI.none, ?_⟩
          exact (HBC.out.setCell (p := ⟨w.heap.size, 0, none⟩) (Nat.le_refl _) _).setCell (p := ⟨w.heap.size, 1, none⟩) (Nat.le_refl _) _
        · rintro e w5 ⟨R, a', m, c', rfl, hres, ho, hb⟩
          obtain rfl : R = facG xs := hres hok
          have hm := ho.len
          have HBC : Hid (Below w.heap.size w w5) := Lib.hid (HB0.out.trans (hb.mono HB0.out.size))
          have HXC : Hid (BX 27 w5 w.heap.size #[.slice none 0 0, .int .i64 0]) := Lib.hid (HX0.out.keep hb)
          have HO : Hid (OwnI 2 w5 (w.heap.size + 1) a' m c' (facG xs)) := Lib.hid (ho.mono (by have := HX0.out.lt; omega))
          have HM : Hid ((facG xs).length = m) := Lib.hid hm
          have hm9 : m ≤ 1048576 := by
            have h1 := facG_len xs
            have h2 := nmax_le (prs xs) xs
            have h3 := HL.out
            omega
          have HOK := Lib.hid hok
          clear hb ho hres hm hok
          cases hab : isAb (facG xs) 0
          · have HRS : Hid (res_FromPrimary xs [] 0 3) := Lib.hid (fpO_res HPP.out (by rw [HL.out]; exact hlong) (fp_ab hab))
            have HAB := Lib.hid hab
            clear hab
            go_wp2_with fail
            refine (l05Made_f _ _ _ (facG xs) _ _ (by exact HO.out.rd) HM.out (by omega) HAB.out).mono ?_
            rintro e w6 ⟨rfl, hb⟩
            have HBD : Hid (Below w.heap.size w w6) := Lib.hid (HBC.out.trans (hb.mono HBC.out.size))
            have HXD : Hid (BX 27 w6 w.heap.size #[.slice none 0 0, .int .i64 0]) := Lib.hid (HXC.out.keep hb)
            clear hb
            have X := (HXD.out.set 0 (.slice none 0 0)).set 1 (.int .i64 0)
            have y0 := X.cell 0
            have y1 := X.cell 1
            simp at y0 y1
            have l5 := HXD.out.lt
            have f0 := HXD.out.frz 0
            have f1 := HXD.out.frz 1
            have z0 := HXD.out.cell 0
            have z1 := HXD.out.cell 1
            simp at z0 z1
            clear X
            go_wp2_with fail
            refine bodyPost_ret (v := .tuple #[.agg #[.slice none 0 0, .int .i64 0], .int .i64 3]) (by simp [results, Try.results35, go_sem, y0, y1]) rfl ⟨[], 0, 3, none, 0, rfl, HRS.out, OwnI.none, ?_⟩
            exact (HBD.out.setCell (p := ⟨w.heap.size, 0, none⟩) (Nat.le_refl _) _).setCell (p := ⟨w.heap.size, 1, none⟩) (Nat.le_refl _) _
          · have HRS : Hid (res_FromPrimary xs (facG xs) 0 0) := Lib.hid (fpO_res HPP.out (by rw [HL.out]; exact hlong) (fp_ok HOK.out hab))
            have HAB := Lib.hid hab
            clear hab
            go_wp2_with fail
            refine (l05Made_t _ _ _ (facG xs) _ _ (by exact HO.out.rd) HM.out (by omega) HAB.out).mono ?_
            rintro e w6 ⟨rfl, hb⟩
            have HBD : Hid (Below w.heap.size w w6) := Lib.hid (HBC.out.trans (hb.mono HBC.out.size))
            have HXD : Hid (BX 27 w6 w.heap.size #[.slice none 0 0, .int .i64 0]) := Lib.hid (HXC.out.keep hb)
            have HOD : Hid (OwnI 2 w6 (w.heap.size + 1) a' m c' (facG xs)) := Lib.hid (HO.out.keep hb (by have := HXC.out.lt; omega))
            clear hb
            have X := (HXD.out.set 0 (.slice a' m c')).set 1 (.int .i64 0)
            have y0 := X.cell 0
            have y1 := X.cell 1
            simp at y0 y1
            have l5 := HXD.out.lt
            have f0 := HXD.out.frz 0
            have f1 := HXD.out.frz 1
            have z0 := HXD.out.cell 0
            have z1 := HXD.out.cell 1
            simp at z0 z1
            clear X
            go_wp2_with fail
            refine bodyPost_ret (v := .tuple #[.agg #[.slice a' m c', .int .i64 0], .int .i64 0]) (by simp [results, Try.results35, go_sem, y0, y1]) rfl ⟨facG xs, 0, 0, a', c', by rw [HM.out], HRS.out, ?_, ?_⟩
            · rw [HM.out]; exact ((HOD.out.setCell (by simp) _).setCell (by simp) _).mono (Nat.le_succ _)
            · exact (HBD.out.setCell (p := ⟨w.heap.size, 0, none⟩) (Nat.le_refl _) _).setCell (p := ⟨w.heap.size, 1, none⟩) (Nat.le_refl _) _
end Go.Proofs.Ytgdialknnjnehaa
