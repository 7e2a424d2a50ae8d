/- The law on unimodular tables, from a code: a square table is unimodular exactly if its lattice has the index 1, and the index is the absolute value of the determinant. -/
import Derived.Test.YtcnphhcdjhmmkaaLikeW
import Derived.Test.YtcnphhcdjhmmkaaDrX
import Derived.Test.YtcnphhcdjhmmkaaLatI
import Derived.Test.YtcnphhcdjhmmkaaTabDet
import Derived.Test.YtcnphhcdjhmmkaaOpenB
set_option linter.unusedVariables false
set_option linter.unusedSimpArgs false
namespace Go.Proofs.Ytcnphhcdjhmmkaa
open Go.RowKit
/-- the box of a table -/
structure UX (T : TypeId) (w wr : World) (tb : Nat) (q : Int) (a : Option Addr) (n c : Nat) (xs : List (List Int)) : Prop where
  bx : BX T wr tb #[.int .i64 q, .slice a n c]
  tx : SmT wr q a n c xs
  low : Below w.heap.size w wr
theorem UX.keep {T : TypeId} {w wr w2 : World} {tb : Nat} {q : Int} {a : Option Addr} {n c : Nat} {xs : List (List Int)} (h : UX T w wr tb q a n c xs) (hb : Below wr.heap.size wr w2) : UX T w w2 tb q a n c xs :=
  ⟨h.bx.keep hb, h.tx.keep hb (Nat.le_refl _), h.low.trans (hb.mono h.low.size)⟩
theorem SmT.xm {w : World} {q : Int} {a : Option Addr} {n c : Nat} {xs : List (List Int)} (h : SmT w q a n c xs) : ∀ i, i < n → (rw_ xs i).length ≤ 1048576 := fun i hi => Nat.le_trans (h.xl i hi) (by omega)
theorem SmT.nm {w : World} {q : Int} {a : Option Addr} {n c : Nat} {xs : List (List Int)} (h : SmT w q a n c xs) : n ≤ 1048576 := Nat.le_trans h.nl (by omega)
set_option maxRecDepth 20000 in
set_option maxHeartbeats 8000000 in
theorem law_Unimodular (a0 : Option Addr) (n0 c0 : Nat) (bs : List Int) (w : World) (hl : bs.length = n0) (hx : RdB w a0 bs) (hw : ∀ x ∈ bs, 0 ≤ x ∧ x ≤ 255) (hc : n0 ≤ c0) (hm : n0 ≤ maxLen) :
    Calls Try.prog 3 #[.slice a0 n0 c0] w fun e w' => e = .returned (.bool true) ∧ Below w.heap.size w w' := by
  by_cases hbig : 4096 < n0
  · clear hx hw
    go_enter Try.func3, Try.ntmps3
    go_wp2_with (go_at_call 5; refine (big_t _ _ _ _ hbig hm).mono ?_; rintro e w' ⟨rfl, rfl⟩)
    go_ret
    exact ⟨rfl, Below.refl _ _⟩
  have hs : n0 ≤ 4096 := by omega
  have HS := Lib.hid (Code0.of hl hx hw hs)
  clear hl hx hw hm hbig
  go_enter Try.func3, Try.ntmps3
  go_wp2_with (go_at_call 5; refine (big_f _ _ _ _ hs).mono ?_; rintro e w' ⟨rfl, rfl⟩)
  refine (DrawIsUnimodular_any a0 n0 c0 bs w HS.out hc).mono ?_
  rintro e w1 ⟨q, a, n, c, xs, rfl, hT, hb⟩
  have HX : Hid (UX 26 w (w1.alloc (.cells #[.int .i64 q, .slice a n c] 26)) w1.heap.size q a n c xs) := Lib.hid ⟨BX.new _ _ _, hT.keep ((Below.refl w1.heap.size w1).alloc (Nat.le_refl _) _) (Nat.le_refl _), hb.alloc hb.size _⟩
  clear hT hb HS
  go_wp2_with fail
  obtain ⟨w2, hw2⟩ : ∃ x, x = w1.alloc (.cells #[.int .i64 q, .slice a n c] 26) := ⟨_, rfl⟩
  rw [← hw2] at HX ⊢
  obtain ⟨tb, htb⟩ : ∃ x, x = w1.heap.size := ⟨_, rfl⟩
  rw [← htb] at HX ⊢
  clear hw2 htb
  refine (impl_DeterminantOf_any q a n c xs _ HX.out.tx.iq (by exact HX.out.tx.rd) HX.out.tx.len HX.out.tx.xm HX.out.tx.nm HX.out.tx.cap).mono ?_
  rintro e w3 ⟨rfl, hb⟩
  have HX3 := Lib.hid (HX.out.keep hb)
  clear HX hb
  have y0 := HX3.out.bx.cell 0
  have y1 := HX3.out.bx.cell 1
  simp at y0 y1
  go_wp2_with fail
  refine (spec_DeterminantOf_any q a n c xs _ HX3.out.tx.iq (by exact HX3.out.tx.rd) HX3.out.tx.len HX3.out.tx.xm HX3.out.tx.nm HX3.out.tx.cap).mono ?_
  rintro e w4 ⟨rfl, hb⟩
  have HX4 := Lib.hid (HX3.out.keep hb)
  clear HX3 hb y0 y1
  have y0 := HX4.out.bx.cell 0
  have y1 := HX4.out.bx.cell 1
  simp at y0 y1
  go_wp2_with fail
  refine (impl_IsUnimodular_any q a n c xs _ HX4.out.tx.iq (by exact HX4.out.tx.rd) HX4.out.tx.len HX4.out.tx.xm HX4.out.tx.nm HX4.out.tx.cap).mono ?_
  rintro e w5 ⟨rfl, hb⟩
  have HX5 := Lib.hid (HX4.out.keep hb)
  clear HX4 hb y0 y1
  have y0 := HX5.out.bx.cell 0
  have y1 := HX5.out.bx.cell 1
  simp at y0 y1
  have b1 : ((detV xs q).2 != (detV xs q).2) = false := by simp
  have b2 : ((detV xs q).1 != (detV xs q).1) = false := by simp
  go_wp2_with fail
  refine (spec_IsUnimodular_any q a n c xs _ HX5.out.tx.iq (by exact HX5.out.tx.rd) HX5.out.tx.len HX5.out.tx.xm HX5.out.tx.nm HX5.out.tx.cap).mono ?_
  rintro e w6 ⟨rfl, hb⟩
  have HX6 := Lib.hid (HX5.out.keep hb)
  clear HX5 hb y0 y1
  have y0 := HX6.out.bx.cell 0
  have y1 := HX6.out.bx.cell 1
  simp at y0 y1
  have b3 : (uniV xs q != uniV xs q) = false := by simp
  by_cases hgood : isTb xs q = true ∧ (xs.length : Int) = q
  · obtain ⟨hv, hlen⟩ := hgood
    obtain rfl : q = (n : Int) := by rw [← hlen, HX6.out.tx.len]
    have ED := detV_sq hv hlen
    have EU := uniV_sq hv hlen
    rw [HX6.out.tx.len] at ED EU
    have HT := isTb_ok hv
    obtain ⟨hsq, h4⟩ := HT.sq hlen
    rw [HX6.out.tx.len] at hsq h4
    have hsm := det_small (by have := HT.q1; omega) h4 HX6.out.tx.len hsq.row hsq.abs
    have HV := Lib.hid hv
    have HLI := Lib.hid (LatticeIndex_sq n c a xs w6 (by exact HX6.out.tx.rd) HX6.out.tx.len hv HX6.out.tx.cap)
    rw [ED, EU]
    generalize detN n xs = D at *
    have WD : IntKind.i64.wrap (-D) = -D := IntWalk.i64_in _ (by omega)
    clear ED EU hsq h4 HT hv hlen hsm b1 b2 b3
    go_wp2_with fail
    refine HLI.out.mono ?_
    rintro e w7 ⟨rfl, hb⟩
    have HX7 := Lib.hid (HX6.out.keep hb)
    clear hb HLI HX6 y0 y1
    rcases Int.lt_or_le D 0 with hD | hD
    · have eN : ((D.natAbs : Nat) : Int) = -D := by omega
      have mx : D ≤ -D := by omega
      have mx2 : ¬ -D ≤ D := by omega
      rw [eN]
      clear eN
      by_cases h1 : D = -1
      · have eB : (decide (D = 1) || decide (D = -1)) = true := by simp [h1]
        have c1 : (-D == 1) = true := by simp [h1]
        rw [eB]
        clear h1 hD eB
        go_wp2_with fail
        go_ret
        exact ⟨rfl, HX7.out.low⟩
      · have eB : (decide (D = 1) || decide (D = -1)) = false := by simp; omega
        have c1 : (-D == 1) = false := beq_eq_false_iff_ne.2 (by omega)
        rw [eB]
        clear h1 hD eB
        go_wp2_with fail
        go_ret
        exact ⟨rfl, HX7.out.low⟩
    · have eN : ((D.natAbs : Nat) : Int) = D := by omega
      have mx2 : -D ≤ D := by omega
      rw [eN]
      clear eN
      by_cases h1 : D = 1
      · have eB : (decide (D = 1) || decide (D = -1)) = true := by simp [h1]
        have c1 : (D == 1) = true := by simp [h1]
        have mx : ¬ D ≤ -D := by omega
        rw [eB]
        clear h1 hD eB
        go_wp2_with fail
        go_ret
        exact ⟨rfl, HX7.out.low⟩
      · have eB : (decide (D = 1) || decide (D = -1)) = false := by simp; omega
        have c1 : (D == 1) = false := beq_eq_false_iff_ne.2 (by omega)
        rw [eB]
        by_cases h0 : D = 0
        · subst h0
          clear h1 hD eB
          go_wp2_with fail
          go_ret
          exact ⟨rfl, HX7.out.low⟩
        · have mx : ¬ D ≤ -D := by omega
          clear h1 hD eB h0
          go_wp2_with fail
          go_ret
          exact ⟨rfl, HX7.out.low⟩
  · have HU : Hid (uniV xs q = false) := Lib.hid (by
      cases hv : isTb xs q
      · exact uniV_no hv
      · exact uniV_ns (fun h => hgood ⟨hv, h⟩))
    have b4 : ((detV xs q).2 == 0) = false := by
      cases hv : isTb xs q
      · rw [detV_no hv]; rfl
      · rw [detV_ns hv (fun h => hgood ⟨hv, h⟩)]; rfl
    have b5 : ((detV xs q).2 != 0) = true := by simpa using b4
    clear hgood
    go_wp2_with fail
    go_ret
    exact ⟨by rw [HU.out]; rfl, HX6.out.low⟩
end Go.Proofs.Ytcnphhcdjhmmkaa
