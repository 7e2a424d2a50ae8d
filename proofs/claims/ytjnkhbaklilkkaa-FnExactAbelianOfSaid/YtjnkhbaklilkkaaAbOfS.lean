/- The abelian group that a table presents: the reference's functions. -/
import Derived.Test.YtjnkhbaklilkkaaAbOf
set_option linter.unusedVariables false
set_option linter.unusedSimpArgs false
namespace Go.Proofs.Ytjnkhbaklilkkaa
open Go.RowKit

def abW (xss : List (List Int)) (n Q : Nat) : List Int × Int × Int := if isAb (abF xss n Q) (abR xss n Q) = true then (abF xss n Q, abR xss n Q, 0) else ([], 0, 3)
set_option maxRecDepth 20000 in
set_option maxHeartbeats 2000000 in
theorem l05Abelian_any (Q : Nat) (a : Option Addr) (n c : Nat) (xss : List (List Int)) (w : World) (ha : RdR w a xss) (hl : xss.length = n) (ht : TbOk xss Q) (hcp : n ≤ c) :
    Calls Try.prog 77 #[.slice a n c, .int .i64 Q] w fun e w' => ∃ (R : List Int) (K d : Int) (a' : Option Addr) (c' : Nat), e = .returned (.tuple #[.agg #[.slice a' R.length c', .int .i64 K], .int .i64 d]) ∧ (R, K, d) = abW xss n Q ∧ OwnI 2 w' w.heap.size a' R.length c' R ∧ Below w.heap.size w w' := by
  have HA := Lib.hid ha
  have HL := Lib.hid hl
  have HT := Lib.hid ht
  clear ha hl ht
  have hQ4 : Q ≤ 4 := by have := HT.out.q4; omega
  have hsl := smithL_len xss n Q
  have HRt : Hid (isAb (abF xss n Q) (abR xss n Q) = true → (abF xss n Q, abR xss n Q, (0 : Int)) = abW xss n Q) := Lib.hid (fun h => by unfold abW; rw [if_pos h])
  have HRf : Hid (isAb (abF xss n Q) (abR xss n Q) = false → (([] : List Int), (0 : Int), (3 : Int)) = abW xss n Q) := Lib.hid (fun h => by unfold abW; rw [h]; rfl)
  go_enter Try.func77, Try.ntmps77
  go_wp2_with fail
  obtain ⟨W, hW⟩ : ∃ W, W = (w.alloc (.cells #[.slice none 0 0, .int .i64 0] 54)) := ⟨_, rfl⟩
  rw [← hW]
  have X2 : Hid (BX 54 W w.heap.size #[.slice none 0 0, .int .i64 0]) := Lib.hid (by rw [hW]; exact BX.new _ _ _)
  have HBW : Hid (Below w.heap.size w W) := Lib.hid (by rw [hW]; exact (Below.refl _ _).alloc (Nat.le_refl _) _)
  have sW : W.heap.size = w.heap.size + 1 := by rw [hW]; simp
  clear hW
  refine (l04Smith_any Q _ _ _ xss _ (by exact HA.out.keep HBW.out (Nat.le_refl _)) HL.out HT.out hcp).mono ?_
  rintro e w2 ⟨aF, cF, rfl, hF, hb⟩
  have HF := Lib.hid hF
  have HB2 : Hid (Below W.heap.size W w2) := Lib.hid hb
  have HBw2 : Hid (Below w.heap.size w w2) := Lib.hid (HBW.out.trans (HB2.out.mono (by omega)))
  have s2 : W.heap.size ≤ w2.heap.size := HB2.out.size
  have hr1 : -4 ≤ (Q : Int) - (smithL xss n Q).length := by omega
  have hr2 : (Q : Int) - (smithL xss n Q).length ≤ 4 := by omega
  clear hb hF
  go_wp2_with fail
  go_loopw [8, 7] (fun i v wr => ∃ (I : Nat) (out : List Int) (a1 : Option Addr) (c1 : Nat), I ≤ (smithL xss n Q).length ∧ out.length ≤ I ∧ i = .int .i64 I ∧ v = .slice a1 out.length c1 ∧ Hid (out = bigs ((smithL xss n Q).take I) ∧ OwnI 2 wr w2.heap.size a1 out.length c1 out ∧ Below w2.heap.size w2 wr)) (fun i _ _ => (smithL xss n Q).length - (intOf i).toNat)
  case atStart => exact ⟨0, [], _, 0, Nat.zero_le _, Nat.le_refl _, rfl, rfl, Lib.hid ⟨by simp [bigs], OwnI.empty w2 _, (Below.refl _ _).alloc (Nat.le_refl _) _⟩⟩
  case round =>
    obtain ⟨I, out, a1, c1, hI, hol, rfl, rfl, HI⟩ := hrel
    obtain ⟨wi, rfl⟩ : ∃ x, x = wr := ⟨wr, rfl⟩
    by_cases hIt : I < (smithL xss n Q).length
    · obtain ⟨bF, oF, rfl, dF⟩ := rdI_at (HF.out.rd.keep HI.out.2.2 (Nat.le_refl _)) hIt
      have HS := Lib.hid (bigs_snoc hIt)
      have hs := HI.out.2.2.size
      by_cases hbig : 1 < el (smithL xss n Q) I
      · go_wp2_with (at_builtin; refine wpList_push rfl (.tmp 24) (.tmp 29) 35 rfl w2.heap.size 2 (.int .i64 0) 8 Try.underlying35 Try.info2 rfl (by decide) (.int .i64 (el (smithL xss n Q) I)) rfl _ _ _ _ rfl rfl (by exact HI.out.2.1) (by omega) (by exact hs) ?_; rintro a4 c4 w4 r4 q4 g4; have HN := Lib.hid (OwnI.pushed r4); have G4 := Lib.hid g4; clear r4 q4 g4)
        have HN2 : Hid (out ++ [el (smithL xss n Q) I] = bigs ((smithL xss n Q).take (I + 1)) ∧ OwnI 2 w4 w2.heap.size a4 (out ++ [el (smithL xss n Q) I]).length c4 (out ++ [el (smithL xss n Q) I]) ∧ Below w2.heap.size w2 w4) := by
          refine Lib.hid ⟨by rw [HS.out, if_pos hbig, HI.out.1], by rw [List.length_append]; exact HN.out, ?_⟩
          exact HI.out.2.2.trans (G4.out.below hs (fun b hb hx => by obtain ⟨x, hx, e⟩ := hx; have := (HI.out.2.1.block x hx).1; omega))
        go_wp2_with fail
        go_roundw
        case rel => exact ⟨I + 1, out ++ [el (smithL xss n Q) I], a4, c4, by omega, by simp; omega, by go_num, by simp, HN2⟩
        case measure => simp [intOf]; omega
      · have HN2 : Hid (out = bigs ((smithL xss n Q).take (I + 1)) ∧ OwnI 2 wi w2.heap.size a1 out.length c1 out ∧ Below w2.heap.size w2 wi) := Lib.hid ⟨by rw [HS.out, if_neg hbig, HI.out.1], HI.out.2⟩
        go_wp2_with fail
        go_roundw
        case rel => exact ⟨I + 1, out, a1, c1, by omega, by omega, by go_num, rfl, HN2⟩
        case measure => simp [intOf]; omega
    · obtain rfl : I = (smithL xss n Q).length := by omega
      have HOut : Hid (out = abF xss n Q) := Lib.hid (by rw [HI.out.1, List.take_length]; rfl)
      have HBwi : Hid (Below w.heap.size w wi) := Lib.hid (HBw2.out.trans (HI.out.2.2.mono HBw2.out.size))
      have HBWi : Hid (Below W.heap.size W wi) := Lib.hid (HB2.out.trans (HI.out.2.2.mono HB2.out.size))
      have hs : w.heap.size ≤ w2.heap.size := by omega
      cases hab : isAb (abF xss n Q) (abR xss n Q)
      all_goals
        have HAB := Lib.hid hab
        clear hab
        go_wp2_with fail
      · refine (l05Made_f _ _ _ out _ _ (by exact HI.out.2.1.rd) rfl (by omega) (by rw [HOut.out]; exact HAB.out)).mono ?_
        rintro e w5 ⟨rfl, hb⟩
        have X := ((X2.out.keep HBWi.out).keep hb).set 0 (.slice none 0 0) |>.set 1 (.int .i64 0)
        have y0 := X.cell 0
        have y1 := X.cell 1
        simp at y0 y1
        have l5 : w.heap.size < w5.heap.size := by have := hb.size; have := HBWi.out.size; omega
        have f0 := ((X2.out.keep HBWi.out).keep hb).frz 0
        have f1 := ((X2.out.keep HBWi.out).keep hb).frz 1
        have z0 := ((X2.out.keep HBWi.out).keep hb).cell 0
        have z1 := ((X2.out.keep HBWi.out).keep hb).cell 1
        simp at z0 z1
        have HB : Hid (Below w.heap.size w w5) := Lib.hid (HBwi.out.trans (hb.mono HBwi.out.size))
        clear hb X
        go_wp2_with fail
        refine bodyPost_ret (v := .tuple #[.agg #[.slice none 0 0, .int .i64 0], .int .i64 3]) (by simp [results, Try.results77, go_sem, y0, y1]) rfl ⟨[], 0, 3, none, 0, rfl, HRf.out HAB.out, OwnI.none, ?_⟩
        exact ((HB.out.setCell (by first | (simp; done) | (simp; omega)) _).setCell (by first | (simp; done) | (simp; omega)) _)
      · refine (l05Made_t _ _ _ out _ _ (by exact HI.out.2.1.rd) rfl (by omega) (by rw [HOut.out]; exact HAB.out)).mono ?_
        rintro e w5 ⟨rfl, hb⟩
        have X := ((X2.out.keep HBWi.out).keep hb).set 0 (.slice a1 out.length c1) |>.set 1 (.int .i64 ((Q : Int) - (smithL xss n Q).length))
        have y0 := X.cell 0
        have y1 := X.cell 1
        simp at y0 y1
        have l5 : w.heap.size < w5.heap.size := by have := hb.size; have := HBWi.out.size; omega
        have f0 := ((X2.out.keep HBWi.out).keep hb).frz 0
        have f1 := ((X2.out.keep HBWi.out).keep hb).frz 1
        have z0 := ((X2.out.keep HBWi.out).keep hb).cell 0
        have z1 := ((X2.out.keep HBWi.out).keep hb).cell 1
        simp at z0 z1
        have HB : Hid (Below w.heap.size w w5) := Lib.hid (HBwi.out.trans (hb.mono HBwi.out.size))
        have HO5 : Hid (OwnI 2 w5 w2.heap.size a1 out.length c1 out) := Lib.hid (HI.out.2.1.keep hb (Nat.le_refl _))
        have HRR : Hid ((out, ((Q : Int) - (smithL xss n Q).length), (0 : Int)) = abW xss n Q) := Lib.hid (by rw [HOut.out]; exact HRt.out HAB.out)
        clear hb X
        go_wp2_with fail
        refine bodyPost_ret (v := .tuple #[.agg #[.slice a1 out.length c1, .int .i64 ((Q : Int) - (smithL xss n Q).length)], .int .i64 0]) (by simp [results, Try.results77, go_sem, y0, y1]) rfl ⟨out, (Q : Int) - (smithL xss n Q).length, 0, a1, c1, rfl, HRR.out, ?_, ?_⟩
        · exact ((HO5.out.setCell (by simp; omega) _).setCell (by simp; omega) _).mono hs
        · exact ((HB.out.setCell (by first | (simp; done) | (simp; omega)) _).setCell (by first | (simp; done) | (simp; omega)) _)
set_option maxRecDepth 20000 in
set_option maxHeartbeats 2000000 in
theorem spec_AbelianOf_any (q : Int) (a : Option Addr) (n c : Nat) (xss : List (List Int)) (w : World) (hq : I64 q) (ha : RdR w a xss) (hl : xss.length = n) (hx : ∀ i, i < n → (rw_ xss i).length ≤ 1048576) (hn : n ≤ 1048576) (hcp : n ≤ c) :
    Calls Try.prog 48 #[.agg #[.int .i64 q, .slice a n c]] w fun e w' => ∃ (R : List Int) (K d : Int) (a' : Option Addr) (c' : Nat), e = .returned (.tuple #[.agg #[.slice a' R.length c', .int .i64 K], .int .i64 d]) ∧ res_AbelianOf xss q R K d ∧ OwnI 2 w' w.heap.size a' R.length c' R ∧ Below w.heap.size w w' := by
  have HQ := Lib.hid hq
  have HA := Lib.hid ha
  have HL := Lib.hid hl
  have HX := Lib.hid hx
  clear hq ha hl hx
  cases hv : isTb xss q
  · have HR : Hid (res_AbelianOf xss q [] 0 1) := Lib.hid (by unfold res_AbelianOf abV; rw [hv]; rfl)
    have HV := Lib.hid hv
    clear hv
    go_enter Try.func48, Try.ntmps48
    go_wp2_with fail
    refine (spec_IsTable_any _ _ _ _ xss _ HQ.out (by exact (HA.out.alloc _).alloc _) HL.out HX.out hn hcp).mono ?_
    rw [HV.out]
    rintro e w1 ⟨rfl, hb⟩
    have X := (((BX.new (w.alloc (.cells #[.int .i64 q, .slice a n c] 27)) 54 #[.slice none 0 0, .int .i64 0])).keep hb).set 0 (.slice none 0 0) |>.set 1 (.int .i64 0)
    have x0 := X.cell 0
    have x1 := X.cell 1
    simp at x0 x1
    obtain ⟨hc, hf⟩ := bcell hb
    have hz : w.heap.size + 1 < w1.heap.size := by have := hb.size; simp at this; omega
    have HB : Hid (Below w.heap.size w w1) := Lib.hid (below_al2 hb)
    clear hb X
    go_wp2_with fail
    refine bodyPost_ret (v := .tuple #[.agg #[.slice none 0 0, .int .i64 0], .int .i64 1]) (by simp [results, Try.results48, go_sem, x0, x1]) rfl ⟨[], 0, 1, none, 0, rfl, HR.out, OwnI.none, ?_⟩
    exact ((HB.out.setCell (by first | (simp; done) | (simp; omega)) _).setCell (by first | (simp; done) | (simp; omega)) _)
  · have HT := Lib.hid (isTb_ok hv)
    obtain ⟨Q, rfl⟩ : ∃ Q : Nat, q = Q := ⟨q.toNat, by have := HT.out.q1; omega⟩
    have HRW : Hid (∀ R K d, (R, K, d) = abW xss n Q → res_AbelianOf xss Q R K d) := Lib.hid (fun R K d h => by unfold res_AbelianOf abV; rw [hv, HL.out, Int.toNat_natCast, h]; rfl)
    clear hv
    go_enter Try.func48, Try.ntmps48
    go_wp2_with fail
    obtain ⟨W, hW⟩ : ∃ W, W = ((w.alloc (.cells #[.int .i64 Q, .slice a n c] 27)).alloc (.cells #[.slice none 0 0, .int .i64 0] 54)) := ⟨_, rfl⟩
    rw [← hW]
    have X1 : Hid (BX 27 W w.heap.size #[.int .i64 Q, .slice a n c]) := Lib.hid (by rw [hW]; exact (BX.new w _ _).alloc _)
    have X2 : Hid (BX 54 W (w.heap.size + 1) #[.slice none 0 0, .int .i64 0]) := Lib.hid (by rw [hW]; rw [show w.heap.size + 1 = (w.alloc (.cells #[.int .i64 Q, .slice a n c] 27)).heap.size by simp]; exact BX.new _ _ _)
    have HBW : Hid (Below w.heap.size w W) := Lib.hid (by rw [hW]; exact ((Below.refl _ _).alloc (Nat.le_refl _) _).alloc (by simp) _)
    have sW : W.heap.size = w.heap.size + 1 + 1 := by rw [hW]; simp
    clear hW
    have p0 := X1.out.cell 0
    have p1 := X1.out.cell 1
    simp at p0 p1
    refine (spec_IsTable_any _ _ _ _ xss _ HQ.out (by exact HA.out.keep HBW.out (Nat.le_refl _)) HL.out HX.out hn hcp).mono ?_
    rw [isTb_t HT.out]
    rintro e w1 ⟨rfl, hb⟩
    have HB1 : Hid (Below W.heap.size W w1) := Lib.hid hb
    have HBw1 : Hid (Below w.heap.size w w1) := Lib.hid (HBW.out.trans (hb.mono (by omega)))
    have p0 := (X1.out.keep HB1.out).cell 0
    have p1 := (X1.out.keep HB1.out).cell 1
    simp at p0 p1
    clear hb
    go_wp2_with fail
    refine (l05Abelian_any Q _ _ _ xss _ (by exact HA.out.keep HBw1.out (Nat.le_refl _)) HL.out HT.out hcp).mono ?_
    rintro e w5 ⟨R, K, d, a', c', rfl, hres, ho, hb⟩
    have X := ((X2.out.keep HB1.out).keep hb).set 0 (.slice a' R.length c') |>.set 1 (.int .i64 K)
    have y0 := X.cell 0
    have y1 := X.cell 1
    simp at y0 y1
    have l5 : w.heap.size + 1 < w5.heap.size := by have := hb.size; have := HB1.out.size; omega
    have f0 := ((X2.out.keep HB1.out).keep hb).frz 0
    have f1 := ((X2.out.keep HB1.out).keep hb).frz 1
    have z0 := ((X2.out.keep HB1.out).keep hb).cell 0
    have z1 := ((X2.out.keep HB1.out).keep hb).cell 1
    simp at z0 z1
    have HB : Hid (Below w.heap.size w w5) := Lib.hid (HBw1.out.trans (hb.mono HBw1.out.size))
    have HO := Lib.hid ho
    have HRR := Lib.hid (HRW.out R K d hres)
    have hs : w.heap.size ≤ w1.heap.size := HBw1.out.size
    have hs1 : w.heap.size + 1 < w1.heap.size := by have := HB1.out.size; omega
    clear hb X ho hres
    go_wp2_with fail
    refine bodyPost_ret (v := .tuple #[.agg #[.slice a' R.length c', .int .i64 K], .int .i64 d]) (by simp [results, Try.results48, go_sem, y0, y1]) rfl ⟨R, K, d, a', c', rfl, HRR.out, ?_, ?_⟩
    · exact ((HO.out.setCell (by simp; omega) _).setCell (by simp; omega) _).mono hs
    · exact ((HB.out.setCell (by first | (simp; done) | (simp; omega)) _).setCell (by first | (simp; done) | (simp; omega)) _)
end Go.Proofs.Ytjnkhbaklilkkaa
