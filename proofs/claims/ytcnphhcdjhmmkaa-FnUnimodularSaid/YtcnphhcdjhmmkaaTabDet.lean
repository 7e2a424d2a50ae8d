/- The determinant of a table, and whether a table is unimodular. -/
import Derived.Test.YtcnphhcdjhmmkaaDetS
set_option linter.unusedVariables false
set_option linter.unusedSimpArgs false
namespace Go.Proofs.Ytcnphhcdjhmmkaa
open Go.RowKit

def detV (xss : List (List Int)) (q : Int) : Int × Int := if isTb xss q = true then (if (xss.length : Int) = q then (detN xss.length xss, 0) else (0, 5)) else (0, 1)
theorem detV_no {xss : List (List Int)} {q : Int} (h : isTb xss q = false) : detV xss q = (0, 1) := by unfold detV; rw [h]; rfl
theorem detV_sq {xss : List (List Int)} {q : Int} (h : isTb xss q = true) (h2 : (xss.length : Int) = q) : detV xss q = (detN xss.length xss, 0) := by unfold detV; rw [if_pos h, if_pos h2]
theorem detV_ns {xss : List (List Int)} {q : Int} (h : isTb xss q = true) (h2 : (xss.length : Int) ≠ q) : detV xss q = (0, 5) := by unfold detV; rw [if_pos h, if_neg h2]
theorem TbOk.sq {xss : List (List Int)} {q : Int} (h : TbOk xss q) (h2 : (xss.length : Int) = q) : SqB xss.length xss ∧ xss.length ≤ 4 := by
  have h4 := h.q4
  refine ⟨⟨rfl, fun i hi => by have := (h.row i hi).1; omega, fun i j hi hj => (h.row i hi).2 j (by have := (h.row i hi).1; omega)⟩, by omega⟩
/-- whether a table is unimodular -/
def uniV (xss : List (List Int)) (q : Int) : Bool := isTb xss q && decide ((xss.length : Int) = q) && (decide (detN xss.length xss = 1) || decide (detN xss.length xss = -1))
theorem uniV_no {xss : List (List Int)} {q : Int} (h : isTb xss q = false) : uniV xss q = false := by unfold uniV; rw [h]; rfl
theorem uniV_ns {xss : List (List Int)} {q : Int} (h2 : (xss.length : Int) ≠ q) : uniV xss q = false := by unfold uniV; rw [decide_eq_false h2]; simp
theorem uniV_sq {xss : List (List Int)} {q : Int} (h : isTb xss q = true) (h2 : (xss.length : Int) = q) : uniV xss q = (decide (detN xss.length xss = 1) || decide (detN xss.length xss = -1)) := by unfold uniV; rw [h, decide_eq_true h2]; rfl
set_option maxHeartbeats 1000000 in
theorem impl_DeterminantOf_any (q : Int) (a : Option Addr) (n c : Nat) (xss : List (List Int)) (w : World) (hq : I64 q) (ha : RdR w a xss) (hl : xss.length = n) (hx : ∀ i, i < n → (rw_ xss i).length ≤ 1048576) (hn : n ≤ 1048576) (hcp : n ≤ c) :
    Calls Try.prog 7 #[.agg #[.int .i64 q, .slice a n c]] w fun e w' => e = .returned (.tuple #[.int .i64 (detV xss q).1, .int .i64 (detV xss q).2]) ∧ Below w.heap.size w w' := by
  have HQ := Lib.hid hq
  have HA := Lib.hid ha
  have HL := Lib.hid hl
  have HX := Lib.hid hx
  clear hq ha hl hx
  cases hv : isTb xss q
  · rw [detV_no hv]
    go_enter Try.func7, Try.ntmps7
    go_wp2_with fail
    refine (impl_IsTable_any _ _ _ _ xss _ HQ.out (by exact HA.out.alloc _) HL.out HX.out hn hcp).mono ?_
    rintro e w1 ⟨rfl, hb⟩
    have p0 := cell_below (p := ⟨w.heap.size, 0, none⟩) (v := .int .i64 q) (by simp) hb
    have p1 := cell_below (p := ⟨w.heap.size, 1, none⟩) (v := .slice a n c) (by simp) hb
    have HB : Hid (Below w.heap.size w w1) := Lib.hid (below_al1 hb)
    clear hb
    go_wp2_with fail
    go_ret2
    exact ⟨rfl, HB.out⟩
  · have HT := Lib.hid (isTb_ok hv)
    by_cases hsq : (n : Int) = q
    · have hsq2 : (xss.length : Int) = q := by rw [HL.out]; exact hsq
      obtain ⟨hs, h4⟩ := HT.out.sq hsq2
      rw [detV_sq hv hsq2]
      rw [HL.out] at hs h4 ⊢
      have HS := Lib.hid hs
      have g1 : ((n : Int) != q) = false := by rw [hsq]; simp
      clear hsq2 hs hsq
      go_enter Try.func7, Try.ntmps7
      go_wp2_with fail
      refine (impl_IsTable_any _ _ _ _ xss _ HQ.out (by exact HA.out.alloc _) HL.out HX.out hn hcp).mono ?_
      rintro e w1 ⟨rfl, hb⟩
      have p0 := cell_below (p := ⟨w.heap.size, 0, none⟩) (v := .int .i64 q) (by simp) hb
      have p1 := cell_below (p := ⟨w.heap.size, 1, none⟩) (v := .slice a n c) (by simp) hb
      have HB : Hid (Below w.heap.size w w1) := Lib.hid (below_al1 hb)
      clear hb
      go_wp2_with fail
      refine (integerDeterminant_any n h4 _ _ xss _ (by exact HA.out.keep HB.out (Nat.le_refl _)) HS.out hcp).mono ?_
      rintro e w2 ⟨rfl, hb⟩
      replace HB : Hid (Below w.heap.size w w2) := Lib.hid (HB.out.trans (hb.mono HB.out.size))
      clear hb
      go_wp2_with fail
      go_ret2
      exact ⟨rfl, HB.out⟩
    · rw [detV_ns hv (by rw [HL.out]; exact hsq)]
      have g1 : ((n : Int) != q) = true := bne_iff_ne.2 hsq
      clear hsq
      go_enter Try.func7, Try.ntmps7
      go_wp2_with fail
      refine (impl_IsTable_any _ _ _ _ xss _ HQ.out (by exact HA.out.alloc _) HL.out HX.out hn hcp).mono ?_
      rintro e w1 ⟨rfl, hb⟩
      have p0 := cell_below (p := ⟨w.heap.size, 0, none⟩) (v := .int .i64 q) (by simp) hb
      have p1 := cell_below (p := ⟨w.heap.size, 1, none⟩) (v := .slice a n c) (by simp) hb
      have HB : Hid (Below w.heap.size w w1) := Lib.hid (below_al1 hb)
      clear hb
      go_wp2_with fail
      go_ret2
      exact ⟨rfl, HB.out⟩
set_option maxHeartbeats 1000000 in
theorem spec_DeterminantOf_any (q : Int) (a : Option Addr) (n c : Nat) (xss : List (List Int)) (w : World) (hq : I64 q) (ha : RdR w a xss) (hl : xss.length = n) (hx : ∀ i, i < n → (rw_ xss i).length ≤ 1048576) (hn : n ≤ 1048576) (hcp : n ≤ c) :
    Calls Try.prog 8 #[.agg #[.int .i64 q, .slice a n c]] w fun e w' => e = .returned (.tuple #[.int .i64 (detV xss q).1, .int .i64 (detV xss q).2]) ∧ Below w.heap.size w w' := by
  have HQ := Lib.hid hq
  have HA := Lib.hid ha
  have HL := Lib.hid hl
  have HX := Lib.hid hx
  clear hq ha hl hx
  cases hv : isTb xss q
  · rw [detV_no hv]
    go_enter Try.func8, Try.ntmps8
    go_wp2_with fail
    refine (spec_IsTable_any _ _ _ _ xss _ HQ.out (by exact HA.out.alloc _) HL.out HX.out hn hcp).mono ?_
    rintro e w1 ⟨rfl, hb⟩
    have p0 := cell_below (p := ⟨w.heap.size, 0, none⟩) (v := .int .i64 q) (by simp) hb
    have p1 := cell_below (p := ⟨w.heap.size, 1, none⟩) (v := .slice a n c) (by simp) hb
    have HB : Hid (Below w.heap.size w w1) := Lib.hid (below_al1 hb)
    clear hb
    go_wp2_with fail
    go_ret2
    exact ⟨rfl, HB.out⟩
  · have HT := Lib.hid (isTb_ok hv)
    by_cases hsq : (n : Int) = q
    · have hsq2 : (xss.length : Int) = q := by rw [HL.out]; exact hsq
      obtain ⟨hs, h4⟩ := HT.out.sq hsq2
      rw [detV_sq hv hsq2]
      rw [HL.out] at hs h4 ⊢
      have HS := Lib.hid hs
      have g1 : ((n : Int) != q) = false := by rw [hsq]; simp
      clear hsq2 hs hsq
      go_enter Try.func8, Try.ntmps8
      go_wp2_with fail
      refine (spec_IsTable_any _ _ _ _ xss _ HQ.out (by exact HA.out.alloc _) HL.out HX.out hn hcp).mono ?_
      rintro e w1 ⟨rfl, hb⟩
      have p0 := cell_below (p := ⟨w.heap.size, 0, none⟩) (v := .int .i64 q) (by simp) hb
      have p1 := cell_below (p := ⟨w.heap.size, 1, none⟩) (v := .slice a n c) (by simp) hb
      have HB : Hid (Below w.heap.size w w1) := Lib.hid (below_al1 hb)
      clear hb
      go_wp2_with fail
      refine (l04Det_any n h4 _ _ xss _ (by exact HA.out.keep HB.out (Nat.le_refl _)) HS.out hcp).mono ?_
      rintro e w2 ⟨rfl, hb⟩
      replace HB : Hid (Below w.heap.size w w2) := Lib.hid (HB.out.trans (hb.mono HB.out.size))
      clear hb
      go_wp2_with fail
      go_ret2
      exact ⟨rfl, HB.out⟩
    · rw [detV_ns hv (by rw [HL.out]; exact hsq)]
      have g1 : ((n : Int) != q) = true := bne_iff_ne.2 hsq
      clear hsq
      go_enter Try.func8, Try.ntmps8
      go_wp2_with fail
      refine (spec_IsTable_any _ _ _ _ xss _ HQ.out (by exact HA.out.alloc _) HL.out HX.out hn hcp).mono ?_
      rintro e w1 ⟨rfl, hb⟩
      have p0 := cell_below (p := ⟨w.heap.size, 0, none⟩) (v := .int .i64 q) (by simp) hb
      have p1 := cell_below (p := ⟨w.heap.size, 1, none⟩) (v := .slice a n c) (by simp) hb
      have HB : Hid (Below w.heap.size w w1) := Lib.hid (below_al1 hb)
      clear hb
      go_wp2_with fail
      go_ret2
      exact ⟨rfl, HB.out⟩
set_option maxHeartbeats 1000000 in
theorem impl_IsUnimodular_any (q : Int) (a : Option Addr) (n c : Nat) (xss : List (List Int)) (w : World) (hq : I64 q) (ha : RdR w a xss) (hl : xss.length = n) (hx : ∀ i, i < n → (rw_ xss i).length ≤ 1048576) (hn : n ≤ 1048576) (hcp : n ≤ c) :
    Calls Try.prog 9 #[.agg #[.int .i64 q, .slice a n c]] w fun e w' => e = .returned (.bool (uniV xss q)) ∧ Below w.heap.size w w' := by
  have HQ := Lib.hid hq
  have HA := Lib.hid ha
  have HL := Lib.hid hl
  have HX := Lib.hid hx
  clear hq ha hl hx
  cases hv : isTb xss q
  · have HU := Lib.hid (uniV_no hv)
    have HD := Lib.hid (detV_no hv)
    clear hv
    go_enter Try.func9, Try.ntmps9
    go_wp2_with fail
    refine (impl_DeterminantOf_any _ _ _ _ xss _ HQ.out (by exact HA.out.alloc _) HL.out HX.out hn hcp).mono ?_
    rw [HD.out]
    rintro e w1 ⟨rfl, hb⟩
    have HB : Hid (Below w.heap.size w w1) := Lib.hid (below_al1 hb)
    clear hb
    go_wp2_with fail
    go_ret
    exact ⟨ret_bool HU.out.symm, HB.out⟩
  · by_cases hsq : (xss.length : Int) = q
    · obtain ⟨hs, h4⟩ := (isTb_ok hv).sq hsq
      have hd := det_bd _ _ hs
      have hd2 := dB_le h4
      have HD := Lib.hid (detV_sq hv hsq)
      have HU := Lib.hid (uniV_sq hv hsq)
      clear hv hs hsq
      go_enter Try.func9, Try.ntmps9
      go_wp2_with fail
      refine (impl_DeterminantOf_any _ _ _ _ xss _ HQ.out (by exact HA.out.alloc _) HL.out HX.out hn hcp).mono ?_
      rw [HD.out]
      rintro e w1 ⟨rfl, hb⟩
      have HB : Hid (Below w.heap.size w w1) := Lib.hid (below_al1 hb)
      clear hb
      go_wp2_with (go_at_call 25; refine (abs_any _ _ (by omega) (by omega)).mono ?_; rintro e w' ⟨rfl, rfl⟩)
      go_ret
      refine ⟨ret_bool ?_, HB.out⟩
      rw [HU.out, Bool.eq_iff_iff]
      simp
      omega
    · have HU := Lib.hid (uniV_ns hsq)
      have HD := Lib.hid (detV_ns hv hsq)
      clear hv hsq
      go_enter Try.func9, Try.ntmps9
      go_wp2_with fail
      refine (impl_DeterminantOf_any _ _ _ _ xss _ HQ.out (by exact HA.out.alloc _) HL.out HX.out hn hcp).mono ?_
      rw [HD.out]
      rintro e w1 ⟨rfl, hb⟩
      have HB : Hid (Below w.heap.size w w1) := Lib.hid (below_al1 hb)
      clear hb
      go_wp2_with fail
      go_ret
      exact ⟨ret_bool HU.out.symm, HB.out⟩
set_option maxHeartbeats 1000000 in
theorem spec_IsUnimodular_any (q : Int) (a : Option Addr) (n c : Nat) (xss : List (List Int)) (w : World) (hq : I64 q) (ha : RdR w a xss) (hl : xss.length = n) (hx : ∀ i, i < n → (rw_ xss i).length ≤ 1048576) (hn : n ≤ 1048576) (hcp : n ≤ c) :
    Calls Try.prog 10 #[.agg #[.int .i64 q, .slice a n c]] w fun e w' => e = .returned (.bool (uniV xss q)) ∧ Below w.heap.size w w' := by
  have HQ := Lib.hid hq
  have HA := Lib.hid ha
  have HL := Lib.hid hl
  have HX := Lib.hid hx
  clear hq ha hl hx
  cases hv : isTb xss q
  · have HU := Lib.hid (uniV_no hv)
    go_enter Try.func10, Try.ntmps10
    go_wp2_with fail
    refine (spec_IsTable_any _ _ _ _ xss _ HQ.out (by exact HA.out.alloc _) HL.out HX.out hn hcp).mono ?_
    rintro e w1 ⟨rfl, hb⟩
    have p0 := cell_below (p := ⟨w.heap.size, 0, none⟩) (v := .int .i64 q) (by simp) hb
    have p1 := cell_below (p := ⟨w.heap.size, 1, none⟩) (v := .slice a n c) (by simp) hb
    have HB : Hid (Below w.heap.size w w1) := Lib.hid (below_al1 hb)
    clear hb
    go_wp2_with fail
    go_ret
    exact ⟨ret_bool HU.out.symm, HB.out⟩
  · by_cases hsq : (n : Int) = q
    · have hsq2 : (xss.length : Int) = q := by rw [HL.out]; exact hsq
      obtain ⟨hs, h4⟩ := (isTb_ok hv).sq hsq2
      have HU := Lib.hid (uniV_sq hv hsq2)
      rw [HL.out] at hs h4 HU
      have HS := Lib.hid hs
      have g1 : ((n : Int) != q) = false := by rw [hsq]; simp
      clear hsq2 hs hsq
      go_enter Try.func10, Try.ntmps10
      go_wp2_with fail
      refine (spec_IsTable_any _ _ _ _ xss _ HQ.out (by exact HA.out.alloc _) HL.out HX.out hn hcp).mono ?_
      rintro e w1 ⟨rfl, hb⟩
      have p0 := cell_below (p := ⟨w.heap.size, 0, none⟩) (v := .int .i64 q) (by simp) hb
      have p1 := cell_below (p := ⟨w.heap.size, 1, none⟩) (v := .slice a n c) (by simp) hb
      have HB : Hid (Below w.heap.size w w1) := Lib.hid (below_al1 hb)
      clear hb
      go_wp2_with fail
      have hR : (detN n xss == 1) = true ∨ ((detN n xss == 1) = false ∧ (detN n xss == -1) = true) ∨ ((detN n xss == 1) = false ∧ (detN n xss == -1) = false) := by
        by_cases h1 : detN n xss = 1
        · exact .inl (beq_iff_eq.2 h1)
        · by_cases h2 : detN n xss = -1
          · exact .inr (.inl ⟨beq_eq_false_iff_ne.2 h1, beq_iff_eq.2 h2⟩)
          · exact .inr (.inr ⟨beq_eq_false_iff_ne.2 h1, beq_eq_false_iff_ne.2 h2⟩)
      rcases hR with h1 | ⟨h1, h2⟩ | ⟨h1, h2⟩
      all_goals
        refine (l04Det_any n h4 _ _ xss _ (by exact HA.out.keep HB.out (Nat.le_refl _)) HS.out hcp).mono ?_
        rintro e w2 ⟨rfl, hb⟩
        have HB2 : Hid (Below w.heap.size w w2) := Lib.hid (HB.out.trans (hb.mono HB.out.size))
        clear hb
        go_wp2_with fail
        go_ret
        refine ⟨ret_bool ?_, HB2.out⟩
        rw [HU.out]
        simp_all
    · have HU := Lib.hid (uniV_ns (xss := xss) (q := q) (by rw [HL.out]; exact hsq))
      have g1 : ((n : Int) != q) = true := bne_iff_ne.2 hsq
      clear hsq
      go_enter Try.func10, Try.ntmps10
      go_wp2_with fail
      refine (spec_IsTable_any _ _ _ _ xss _ HQ.out (by exact HA.out.alloc _) HL.out HX.out hn hcp).mono ?_
      rintro e w1 ⟨rfl, hb⟩
      have p0 := cell_below (p := ⟨w.heap.size, 0, none⟩) (v := .int .i64 q) (by simp) hb
      have p1 := cell_below (p := ⟨w.heap.size, 1, none⟩) (v := .slice a n c) (by simp) hb
      have HB : Hid (Below w.heap.size w w1) := Lib.hid (below_al1 hb)
      clear hb
      go_wp2_with fail
      go_ret
      exact ⟨ret_bool HU.out.symm, HB.out⟩
end Go.Proofs.Ytcnphhcdjhmmkaa
