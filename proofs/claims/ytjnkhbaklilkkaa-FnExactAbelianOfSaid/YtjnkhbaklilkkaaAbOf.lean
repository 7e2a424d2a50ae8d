/- The abelian group that a table presents. -/
import Derived.Test.YtjnkhbaklilkkaaSmfD
import Derived.Test.YtjnkhbaklilkkaaAbMade
set_option linter.unusedVariables false
set_option linter.unusedSimpArgs false
namespace Go.Proofs.Ytjnkhbaklilkkaa
open Go.RowKit

/-- the factors that are greater than 1 -/
def bigs (xs : List Int) : List Int := xs.filter fun x => decide (1 < x)
theorem bigs_snoc {xs : List Int} {i : Nat} (h : i < xs.length) : bigs (xs.take (i + 1)) = if 1 < el xs i then bigs (xs.take i) ++ [el xs i] else bigs (xs.take i) := by
  unfold bigs
  rw [take_el h, List.filter_append]
  by_cases hx : 1 < el xs i
  · rw [if_pos hx]; simp [hx]
  · rw [if_neg hx]; simp [hx]
theorem bigs_len (xs : List Int) : (bigs xs).length ≤ xs.length := List.length_filter_le _ _
def abF (xss : List (List Int)) (n Q : Nat) : List Int := bigs (smithL xss n Q)
def abR (xss : List (List Int)) (n Q : Nat) : Int := (Q : Int) - (smithL xss n Q).length
def abV (xss : List (List Int)) (q : Int) : List Int × Int × Int :=
  if isTb xss q = true then (if isAb (abF xss xss.length q.toNat) (abR xss xss.length q.toNat) = true then (abF xss xss.length q.toNat, abR xss xss.length q.toNat, 0) else ([], 0, 3)) else ([], 0, 1)
def res_AbelianOf (xss : List (List Int)) (q : Int) (R : List Int) (K d : Int) : Prop := (R, K, d) = abV xss q
theorem res_AbelianOf_uniq {xss : List (List Int)} {q K1 K2 d1 d2 : Int} {R1 R2 : List Int} (h : res_AbelianOf xss q R1 K1 d1) (k : res_AbelianOf xss q R2 K2 d2) : R1 = R2 ∧ K1 = K2 ∧ d1 = d2 := by
  unfold res_AbelianOf at h k
  have := h.trans k.symm
  simpa using this
theorem res_AbelianOf_small {xss : List (List Int)} {q K d : Int} {R : List Int} (h : res_AbelianOf xss q R K d) : R.length ≤ 1048576 := by
  unfold res_AbelianOf abV at h
  by_cases hv : isTb xss q = true
  · rw [if_pos hv] at h
    have h4 := (isTb_ok hv).q4
    have h1 := smithL_len xss xss.length q.toNat
    have h2 := bigs_len (smithL xss xss.length q.toNat)
    by_cases hb : isAb (abF xss xss.length q.toNat) (abR xss xss.length q.toNat) = true
    · rw [if_pos hb] at h
      simp at h
      rw [h.1]
      unfold abF
      omega
    · rw [if_neg hb] at h
      simp at h
      rw [h.1]; simp
  · rw [if_neg hv] at h
    simp at h
    rw [h.1]; simp
set_option maxRecDepth 20000 in
set_option maxHeartbeats 2000000 in
theorem impl_AbelianOf_any (q : Int) (a : Option Addr) (n c : Nat) (xss : List (List Int)) (w : World) (hq : I64 q) (ha : RdR w a xss) (hl : xss.length = n) (hx : ∀ i, i < n → (rw_ xss i).length ≤ 1048576) (hn : n ≤ 1048576) (hcp : n ≤ c) :
    Calls Try.prog 49 #[.agg #[.int .i64 q, .slice a n c]] w fun e w' => ∃ (R : List Int) (K d : Int) (a' : Option Addr) (c' : Nat), e = .returned (.tuple #[.agg #[.slice a' R.length c', .int .i64 K], .int .i64 d]) ∧ res_AbelianOf xss q R K d ∧ OwnI 2 w' w.heap.size a' R.length c' R ∧ Below w.heap.size w w' := by
  have HQ := Lib.hid hq
  have HA := Lib.hid ha
  have HL := Lib.hid hl
  have HX := Lib.hid hx
  clear hq ha hl hx
  cases hv : isTb xss q
  · have HR : Hid (res_AbelianOf xss q [] 0 1) := Lib.hid (by unfold res_AbelianOf abV; rw [hv]; rfl)
    have HV := Lib.hid hv
    clear hv
    go_enter Try.func49, Try.ntmps49
    go_wp2_with fail
    refine (impl_IsTable_any _ _ _ _ xss _ HQ.out (by exact (HA.out.alloc _).alloc _) HL.out HX.out hn hcp).mono ?_
    rw [HV.out]
    rintro e w1 ⟨rfl, hb⟩
    have X := (((BX.new (w.alloc (.cells #[.int .i64 q, .slice a n c] 27)) 54 #[.slice none 0 0, .int .i64 0])).keep hb).set 0 (.slice none 0 0) |>.set 1 (.int .i64 0)
    have x0 := X.cell 0
    have x1 := X.cell 1
    simp at x0 x1
    obtain ⟨hc, hf⟩ := bcell hb
    have hz : w.heap.size + 1 < w1.heap.size := by have := hb.size; simp at this; omega
    have HB : Hid (Below w.heap.size w w1) := Lib.hid (below_al2 hb)
    clear hb X
    go_wp2_with fail
    refine bodyPost_ret (v := .tuple #[.agg #[.slice none 0 0, .int .i64 0], .int .i64 1]) (by simp [results, Try.results49, go_sem, x0, x1]) rfl ⟨[], 0, 1, none, 0, rfl, HR.out, OwnI.none, ?_⟩
    exact ((HB.out.setCell (by first | (simp; done) | (simp; omega)) _).setCell (by first | (simp; done) | (simp; omega)) _)
  · have HT := Lib.hid (isTb_ok hv)
    obtain ⟨Q, rfl⟩ : ∃ Q : Nat, q = Q := ⟨q.toNat, by have := HT.out.q1; omega⟩
    have hQ4 : Q ≤ 4 := by have := HT.out.q4; omega
    have hsl := smithL_len xss n Q
    have HRt : Hid (isAb (abF xss n Q) (abR xss n Q) = true → res_AbelianOf xss Q (abF xss n Q) (abR xss n Q) 0) := Lib.hid (fun h => by unfold res_AbelianOf abV; rw [hv, HL.out, Int.toNat_natCast]; simp [h])
    have HRf : Hid (isAb (abF xss n Q) (abR xss n Q) = false → res_AbelianOf xss Q [] 0 3) := Lib.hid (fun h => by unfold res_AbelianOf abV; rw [hv, HL.out, Int.toNat_natCast]; simp [h])
    clear hv
    go_enter Try.func49, Try.ntmps49
    go_wp2_with fail
    obtain ⟨W, hW⟩ : ∃ W, W = ((w.alloc (.cells #[.int .i64 Q, .slice a n c] 27)).alloc (.cells #[.slice none 0 0, .int .i64 0] 54)) := ⟨_, rfl⟩
    rw [← hW]
    have X1 : Hid (BX 27 W w.heap.size #[.int .i64 Q, .slice a n c]) := Lib.hid (by rw [hW]; exact (BX.new w _ _).alloc _)
    have X2 : Hid (BX 54 W (w.heap.size + 1) #[.slice none 0 0, .int .i64 0]) := Lib.hid (by rw [hW]; rw [show w.heap.size + 1 = (w.alloc (.cells #[.int .i64 Q, .slice a n c] 27)).heap.size by simp]; exact BX.new _ _ _)
    have HBW : Hid (Below w.heap.size w W) := Lib.hid (by rw [hW]; exact ((Below.refl _ _).alloc (Nat.le_refl _) _).alloc (by simp) _)
    have sW : W.heap.size = w.heap.size + 1 + 1 := by rw [hW]; simp
    clear hW
    have p0 := X1.out.cell 0
    have p1 := X1.out.cell 1
    simp at p0 p1
    refine (impl_IsTable_any _ _ _ _ xss _ HQ.out (by exact HA.out.keep HBW.out (Nat.le_refl _)) HL.out HX.out hn hcp).mono ?_
    rw [isTb_t HT.out]
    rintro e w1 ⟨rfl, hb⟩
    have HB1 : Hid (Below W.heap.size W w1) := Lib.hid hb
    have HBw1 : Hid (Below w.heap.size w w1) := Lib.hid (HBW.out.trans (hb.mono (by omega)))
    have p0 := (X1.out.keep HB1.out).cell 0
    have p1 := (X1.out.keep HB1.out).cell 1
    simp at p0 p1
    clear hb
    go_wp2_with fail
    refine (smithFactors_any Q _ _ _ xss _ (by exact HA.out.keep HBw1.out (Nat.le_refl _)) HL.out HT.out hcp).mono ?_
    rintro e w2 ⟨aF, cF, rfl, hF, hb⟩
    have HF := Lib.hid hF
    have HB2 : Hid (Below W.heap.size W w2) := Lib.hid (HB1.out.trans (hb.mono HB1.out.size))
    have HBw2 : Hid (Below w.heap.size w w2) := Lib.hid (HBW.out.trans (HB2.out.mono (by omega)))
    have p0 := (X1.out.keep HB2.out).cell 0
    simp at p0
    have s2 : W.heap.size ≤ w2.heap.size := HB2.out.size
    have l0 : w.heap.size < w2.heap.size := by omega
    have hr1 : -4 ≤ (Q : Int) - (smithL xss n Q).length := by omega
    have hr2 : (Q : Int) - (smithL xss n Q).length ≤ 4 := by omega
    clear hb hF
    go_wp2_with fail
    go_loopw [22] (fun i wr => ∃ (I : Nat) (out : List Int) (a1 : Option Addr) (c1 : Nat), I ≤ (smithL xss n Q).length ∧ out.length ≤ I ∧ i = .int .i64 I ∧ Hid (out = bigs ((smithL xss n Q).take I) ∧ BX 54 wr w2.heap.size #[.slice a1 out.length c1, .int .i64 ((Q : Int) - (smithL xss n Q).length)] ∧ OwnI 2 wr (w2.heap.size + 1) a1 out.length c1 out ∧ Below w2.heap.size w2 wr)) (fun i _ => (smithL xss n Q).length - (intOf i).toNat)
    case atStart => exact ⟨0, [], none, 0, Nat.zero_le _, Nat.le_refl _, rfl, Lib.hid ⟨by simp [bigs], BX.new w2 _ _, OwnI.none, (Below.refl _ _).alloc (Nat.le_refl _) _⟩⟩
    case round =>
      obtain ⟨I, out, a1, c1, hI, hol, rfl, HI⟩ := hrel
      obtain ⟨wi, rfl⟩ : ∃ x, x = wr := ⟨wr, rfl⟩
      have x0 := HI.out.2.1.cell 0
      have x1 := HI.out.2.1.cell 1
      simp at x0 x1
      have f0 := HI.out.2.1.frz 0
      have lx := HI.out.2.1.lt
      by_cases hIt : I < (smithL xss n Q).length
      · obtain ⟨bF, oF, rfl, dF⟩ := rdI_at (HF.out.rd.keep HI.out.2.2.2 (Nat.le_refl _)) hIt
        have HS := Lib.hid (bigs_snoc hIt)
        by_cases hbig : 1 < el (smithL xss n Q) I
        · go_wp2_with (at_builtin; refine wpList_push rfl (.tmp 29) (.tmp 31) 35 rfl (w2.heap.size + 1) 2 (.int .i64 0) 8 Try.underlying35 Try.info2 rfl (by decide) (.int .i64 (el (smithL xss n Q) I)) rfl _ _ _ _ rfl rfl (by exact HI.out.2.2.1) (by omega) (by exact lx) ?_; rintro a4 c4 w4 r4 q4 g4; have HN := Lib.hid (OwnI.pushed r4); have G4 := Lib.hid g4; have X4 := Lib.hid (HI.out.2.1.chg g4 (fun hx => by obtain ⟨x, hx, e⟩ := hx; have := (HI.out.2.2.1.block x hx).1; omega)); have f4 := X4.out.frz 0; have y0 := X4.out.cell 0; have l4 := X4.out.lt; clear r4 q4 g4)
          have HN2 : Hid (out ++ [el (smithL xss n Q) I] = bigs ((smithL xss n Q).take (I + 1)) ∧ BX 54 (w4.setCell ⟨w2.heap.size, 0, none⟩ (.slice a4 (out.length + 1) c4)) w2.heap.size #[.slice a4 (out ++ [el (smithL xss n Q) I]).length c4, .int .i64 ((Q : Int) - (smithL xss n Q).length)] ∧ OwnI 2 (w4.setCell ⟨w2.heap.size, 0, none⟩ (.slice a4 (out.length + 1) c4)) (w2.heap.size + 1) a4 (out ++ [el (smithL xss n Q) I]).length c4 (out ++ [el (smithL xss n Q) I]) ∧ Below w2.heap.size w2 (w4.setCell ⟨w2.heap.size, 0, none⟩ (.slice a4 (out.length + 1) c4))) := by
            refine Lib.hid ⟨by rw [HS.out, if_pos hbig, HI.out.1], by rw [List.length_append]; exact X4.out.set 0 _, by rw [List.length_append]; exact HN.out.setCell (by simp) _, ?_⟩
            exact (HI.out.2.2.2.trans (G4.out.below (Nat.le_of_lt lx) (fun b hb hx => by obtain ⟨x, hx, e⟩ := hx; have := (HI.out.2.2.1.block x hx).1; omega))).setCell (by simp) _
          go_wp2_with fail
          go_roundw
          case rel => exact ⟨I + 1, out ++ [el (smithL xss n Q) I], a4, c4, by omega, by simp; omega, by go_num, HN2⟩
          case measure => simp [intOf]; omega
        · have HN2 : Hid (out = bigs ((smithL xss n Q).take (I + 1)) ∧ BX 54 wi w2.heap.size #[.slice a1 out.length c1, .int .i64 ((Q : Int) - (smithL xss n Q).length)] ∧ OwnI 2 wi (w2.heap.size + 1) a1 out.length c1 out ∧ Below w2.heap.size w2 wi) := Lib.hid ⟨by rw [HS.out, if_neg hbig, HI.out.1], HI.out.2⟩
          go_wp2_with fail
          go_roundw
          case rel => exact ⟨I + 1, out, a1, c1, by omega, by omega, by go_num, HN2⟩
          case measure => simp [intOf]; omega
      · obtain rfl : I = (smithL xss n Q).length := by omega
        have HOut : Hid (out = abF xss n Q) := Lib.hid (by rw [HI.out.1, List.take_length]; rfl)
        have HBwi : Hid (Below w.heap.size w wi) := Lib.hid (HBw2.out.trans (HI.out.2.2.2.mono HBw2.out.size))
        have HBWi : Hid (Below W.heap.size W wi) := Lib.hid (HB2.out.trans (HI.out.2.2.2.mono HB2.out.size))
        have hs : w.heap.size ≤ w2.heap.size + 1 := by omega
        cases hab : isAb (abF xss n Q) (abR xss n Q)
        all_goals
          have HAB := Lib.hid hab
          clear hab
          go_wp2_with fail
        · refine (abelianResult_f _ _ _ out _ _ (by exact HI.out.2.2.1.rd) rfl (by omega) (by rw [HOut.out]; exact HAB.out)).mono ?_
          rintro e w5 ⟨rfl, hb⟩
          have X := ((X2.out.keep HBWi.out).keep hb).set 0 (.slice none 0 0) |>.set 1 (.int .i64 0)
          have y0 := X.cell 0
          have y1 := X.cell 1
          simp at y0 y1
          have l5 : w.heap.size + 1 < w5.heap.size := by have := hb.size; omega
          have f0 := ((X2.out.keep HBWi.out).keep hb).frz 0
          have f1 := ((X2.out.keep HBWi.out).keep hb).frz 1
          have z0 := ((X2.out.keep HBWi.out).keep hb).cell 0
          have z1 := ((X2.out.keep HBWi.out).keep hb).cell 1
          simp at z0 z1
          have HB : Hid (Below w.heap.size w w5) := Lib.hid (HBwi.out.trans (hb.mono HBwi.out.size))
          clear hb X
          go_wp2_with fail
          refine bodyPost_ret (v := .tuple #[.agg #[.slice none 0 0, .int .i64 0], .int .i64 3]) (by simp [results, Try.results49, go_sem, y0, y1]) rfl ⟨[], 0, 3, none, 0, rfl, HRf.out HAB.out, OwnI.none, ?_⟩
          exact ((HB.out.setCell (by first | (simp; done) | (simp; omega)) _).setCell (by first | (simp; done) | (simp; omega)) _)
        · refine (abelianResult_t _ _ _ out _ _ (by exact HI.out.2.2.1.rd) rfl (by omega) (by rw [HOut.out]; exact HAB.out)).mono ?_
          rintro e w5 ⟨rfl, hb⟩
          have X := ((X2.out.keep HBWi.out).keep hb).set 0 (.slice a1 out.length c1) |>.set 1 (.int .i64 ((Q : Int) - (smithL xss n Q).length))
          have y0 := X.cell 0
          have y1 := X.cell 1
          simp at y0 y1
          have l5 : w.heap.size + 1 < w5.heap.size := by have := hb.size; omega
          have f0 := ((X2.out.keep HBWi.out).keep hb).frz 0
          have f1 := ((X2.out.keep HBWi.out).keep hb).frz 1
          have z0 := ((X2.out.keep HBWi.out).keep hb).cell 0
          have z1 := ((X2.out.keep HBWi.out).keep hb).cell 1
          simp at z0 z1
          have HB : Hid (Below w.heap.size w w5) := Lib.hid (HBwi.out.trans (hb.mono HBwi.out.size))
          have HO5 : Hid (OwnI 2 w5 (w2.heap.size + 1) a1 out.length c1 out) := Lib.hid (HI.out.2.2.1.keep hb (Nat.le_refl _))
          have HRR : Hid (res_AbelianOf xss Q out ((Q : Int) - (smithL xss n Q).length) 0) := Lib.hid (by rw [HOut.out]; exact HRt.out HAB.out)
          clear hb X
          go_wp2_with fail
          refine bodyPost_ret (v := .tuple #[.agg #[.slice a1 out.length c1, .int .i64 ((Q : Int) - (smithL xss n Q).length)], .int .i64 0]) (by simp [results, Try.results49, go_sem, y0, y1]) rfl ⟨out, (Q : Int) - (smithL xss n Q).length, 0, a1, c1, rfl, HRR.out, ?_, ?_⟩
          · exact ((HO5.out.setCell (by simp; omega) _).setCell (by simp; omega) _).mono hs
          · exact ((HB.out.setCell (by first | (simp; done) | (simp; omega)) _).setCell (by first | (simp; done) | (simp; omega)) _)
end Go.Proofs.Ytjnkhbaklilkkaa
