/- The transposed matrix: the program and the reference. -/
import Derived.Test.YtpkdgemnddcefaaMatId
set_option linter.unusedVariables false
set_option linter.unusedSimpArgs false
namespace Go.Proofs.Ytpkdgemnddcefaa
open Go.RowKit

theorem BX.newAt {T : TypeId} {w : World} {b : Nat} {vs : Array Value} (h : b = w.heap.size) : BX T (w.alloc (.cells vs T)) b vs := by subst h; exact BX.new w T vs
/-- column k -/
def colR (xss : List (List Int)) (k : Nat) : List Int := tab xss.length fun i => el (rw_ xss i) k
/-- the columns as rows -/
def colsR (xss : List (List Int)) (q : Nat) : List (List Int) := tab q (colR xss)
theorem colR_len (xss : List (List Int)) (k : Nat) : (colR xss k).length = xss.length := tab_len _ _
theorem colsR_len (xss : List (List Int)) (q : Nat) : (colsR xss q).length = q := tab_len _ _
theorem colsR_row {xss : List (List Int)} {q k : Nat} (h : k < q) : rw_ (colsR xss q) k = colR xss k := rw_tab h
theorem colR_take {xss : List (List Int)} {k i : Nat} (h : i < xss.length) : (colR xss k).take (i + 1) = (colR xss k).take i ++ [el (rw_ xss i) k] := by
  rw [take_el (by rw [colR_len]; exact h)]
  congr 2
  exact el_tab h
def trV (xss : List (List Int)) (p q : Int) : MV := if isMx xss p q = true then (p, xss.length, colsR xss q.toNat, 0) else mvBad 1
def res_TransposeMatrix (xss : List (List Int)) (p q P Q : Int) (R : List (List Int)) (d : Int) : Prop := (P, Q, R, d) = trV xss p q
theorem res_TransposeMatrix_uniq {xss : List (List Int)} {p q P1 Q1 P2 Q2 d1 d2 : Int} {R1 R2 : List (List Int)} (h : res_TransposeMatrix xss p q P1 Q1 R1 d1) (k : res_TransposeMatrix xss p q P2 Q2 R2 d2) : P1 = P2 ∧ Q1 = Q2 ∧ R1 = R2 ∧ d1 = d2 := mv_uniq h k
theorem res_TransposeMatrix_small {xss : List (List Int)} {p q P Q d : Int} {R : List (List Int)} (h : res_TransposeMatrix xss p q P Q R d) : R.length ≤ 1048576 ∧ ∀ i, i < R.length → (rw_ R i).length ≤ 1048576 := by
  unfold res_TransposeMatrix trV mvBad at h
  split at h
  · rename_i hc
    have hm := isMx_ok hc
    have h8 := hm.q8
    have hl := hm.len
    simp only [Prod.mk.injEq] at h
    rw [h.2.2.1]
    refine ⟨by rw [colsR_len]; omega, fun i hi => ?_⟩
    rw [colsR_len] at hi
    rw [colsR_row hi, colR_len]; omega
  · simp only [Prod.mk.injEq] at h
    rw [h.2.2.1]
    exact ⟨by simp, fun i hi => absurd hi (by simp)⟩
set_option maxRecDepth 20000 in
set_option maxHeartbeats 4000000 in
theorem transposed_any (p : Int) (q : Nat) (a : Option Addr) (n c : Nat) (xss : List (List Int)) (w : World) (ha : RdR w a xss) (hl : xss.length = n) (hr : ∀ i, i < n → (rw_ xss i).length = q) (hn : n ≤ 100) (hq : q ≤ 100) :
    Calls Try.prog 50 #[.agg #[.int .i64 p, .int .i64 q, .slice a n c]] w fun e w' => ∃ a' c', e = .returned (.agg #[.int .i64 p, .int .i64 n, .slice a' q c']) ∧ MadeR 52 2 w' w.heap.size a' q c' (colsR xss q) ∧ Below w.heap.size w w' := by
  have HA := Lib.hid ha
  have HL := Lib.hid hl
  have HR := Lib.hid hr
  clear ha hl hr
  go_enter Try.func50, Try.ntmps50
  go_wp2
  go_loopw [15] (fun i wr => ∃ (k : Nat) (a1 : Option Addr) (c1 : Nat) (A : Nat → Option Addr) (C : Nat → Nat), k ≤ q ∧ i = .int .i64 k ∧ Hid (BX 26 wr w.heap.size #[.int .i64 p, .int .i64 q, .slice a n c] ∧ BX 26 wr (w.heap.size + 1) #[.int .i64 0, .int .i64 0, .slice none 0 0] ∧ BX 26 wr (w.heap.size + 2) #[.int .i64 p, .int .i64 n, .slice a1 k c1]) ∧ Hid (OwnR 52 2 wr (w.heap.size + 3) a1 k c1 ((colsR xss q).take k) A C ∧ Below w.heap.size w wr ∧ w.heap.size + 3 ≤ wr.heap.size)) (fun i _ => q - (intOf i).toNat)
  case atStart =>
    refine ⟨0, none, 0, fun _ => none, fun _ => 0, Nat.zero_le _, rfl, Lib.hid ⟨?_, ?_, ?_⟩, Lib.hid ⟨by simpa using OwnR.none _ _, ?_, ?_⟩⟩
    · exact ((BX.new w _ _).alloc _).alloc _
    · exact (BX.newAt (by simp)).alloc _
    · exact BX.newAt (by simp)
    · exact (((Below.refl _ _).alloc (Nat.le_refl _) _).alloc (by simp) _).alloc (by simp; omega) _
    · simp
  case round =>
    obtain ⟨k, a1, c1, A, C, hk, rfl, HX, HJ⟩ := hrel
    obtain ⟨wo, rfl⟩ : ∃ x, x = wr := ⟨wr, rfl⟩
    have hsz := HJ.out.2.2
    have lt0 : w.heap.size < wo.heap.size := by omega
    have lt1 : w.heap.size + 1 < wo.heap.size := by omega
    have lt2 : w.heap.size + 2 < wo.heap.size := by omega
    have p1 : wo.cell? ⟨w.heap.size, 1, none⟩ = some (.int .i64 q) := HX.out.1.cell 1
    have p2 : wo.cell? ⟨w.heap.size, 2, none⟩ = some (.slice a n c) := HX.out.1.cell 2
    by_cases hkt : k < q
    · have HAo : Hid (RdR wo a xss) := Lib.hid (HA.out.keep HJ.out.2.1 (Nat.le_refl _))
      have B1 : decide ((k : Int) < (q : Int)) = true := decide_eq_true (by omega)
      go_wp2
      go_loopw [21, 5] (fun i v wr => ∃ (j : Nat) (a2 : Option Addr) (c2 : Nat), j ≤ n ∧ i = .int .i64 j ∧ v = .slice a2 j c2 ∧ Hid (OwnI 2 wr wo.heap.size a2 j c2 ((colR xss k).take j) ∧ Below wo.heap.size wo wr)) (fun i _ _ => n - (intOf i).toNat)
      case atStart => exact ⟨0, none, 0, Nat.zero_le _, rfl, rfl, Lib.hid ⟨by simpa using OwnI.none, Below.refl _ _⟩⟩
      case round =>
        obtain ⟨i, a2, c2, hi, rfl, rfl, HI⟩ := hrel
        obtain ⟨wi, rfl⟩ : ∃ x, x = wr := ⟨wr, rfl⟩
        have x2 : wi.cell? ⟨w.heap.size, 2, none⟩ = some (.slice a n c) := cell_below (p := ⟨w.heap.size, 2, none⟩) p2 HI.out.2
        have szi := HI.out.2.size
        by_cases hit : i < n
        · obtain ⟨b, o, rfl, hc⟩ := (HAo.out.keep HI.out.2 (Nat.le_refl _)) (by rw [HL.out]; omega)
          obtain ⟨aj, cj, dj, rj, _⟩ := hc i (by rw [HL.out]; exact hit)
          have hrow := HR.out i hit
          rw [hrow] at dj
          obtain ⟨bj, oj, rfl, hcj⟩ := rj (by omega)
          have ej := hcj k (by rw [hrow]; exact hkt)
          clear hc hcj rj hrow
          go_wp2_with (at_builtin; refine wpList_push rfl (.tmp 24) (.tmp 33) 52 rfl wo.heap.size 2 (.int .i64 0) 8 Try.underlying52 Try.info2 rfl (by decide) (.int .i64 (el (rw_ xss i) k)) rfl _ _ _ _ rfl rfl (by exact HI.out.1) (by omega) (by exact HI.out.2.size) ?_; rintro a4 c4 w4 r4 q4 g4; have HN := Lib.hid (And.intro (OwnI.pushed r4) (HI.out.2.trans (g4.below HI.out.2.size (fun m hm hx => by obtain ⟨x, hx, e⟩ := hx; have := (HI.out.1.block x hx).1; omega)))); clear r4 q4 g4)
          have HN2 : Hid (OwnI 2 w4 wo.heap.size a4 (i + 1) c4 ((colR xss k).take (i + 1)) ∧ Below wo.heap.size wo w4) := Lib.hid ⟨by rw [colR_take (by rw [HL.out]; exact hit)]; exact HN.out.1, HN.out.2⟩
          go_roundw
          case rel => exact ⟨i + 1, a4, c4, by omega, by go_num, rfl, HN2⟩
          case measure => simp [intOf]; omega
        · obtain rfl : n = i := by omega
          have HO : Hid (OwnI 2 wi wo.heap.size a2 n c2 (colR xss k)) := Lib.hid (by have := HI.out.1; rwa [List.take_of_length_le (by rw [colR_len, HL.out]; omega)] at this)
          have HBo : Hid (Below wo.heap.size wo wi) := Lib.hid HI.out.2
          have z0 : wi.cell? ⟨w.heap.size + 2, 2, none⟩ = some (.slice a1 k c1) := (HX.out.2.2.keep HBo.out).cell 2
          have lt3 : w.heap.size + 2 < wi.heap.size := by omega
          go_wp2_with (at_builtin; refine wpList_push rfl (.tmp 37) (.tmp 39) 24 rfl (w.heap.size + 3) 52 (.slice none 0 0) 24 Try.underlying24 Try.infoR rfl (by decide) (.slice a2 n c2) rfl _ _ _ _ rfl rfl (by exact (HJ.out.1.keep HBo.out (Nat.le_refl _)).own) (by omega) (by exact Nat.le_trans hsz szi) ?_; rintro a4 c4 w4 r4 q4 g4; have HN := Lib.hid (HJ.out.1.pushNew2 hsz HBo.out HO.out (Nat.le_refl _) r4 q4 g4); have Y := Lib.hid (And.intro ((HX.out.1.keep HBo.out).chg g4 (fun hx => by obtain ⟨x, hx, e⟩ := hx; have := (ownsRow_block HJ.out.1.own x hx).1; omega)) (And.intro ((HX.out.2.1.keep HBo.out).chg g4 (fun hx => by obtain ⟨x, hx, e⟩ := hx; have := (ownsRow_block HJ.out.1.own x hx).1; omega)) ((HX.out.2.2.keep HBo.out).chg g4 (fun hx => by obtain ⟨x, hx, e⟩ := hx; have := (ownsRow_block HJ.out.1.own x hx).1; omega)))); have z1 : w4.cell? ⟨w.heap.size + 2, 2, none⟩ = some (.slice a1 k c1) := Y.out.2.2.cell 2; have z2 := Y.out.2.2.frz 2; clear r4 q4 g4)
          have HR2 : Hid (BX 26 (w4.setCell ⟨w.heap.size + 2, 2, none⟩ (.slice a4 (k + 1) c4)) w.heap.size #[.int .i64 p, .int .i64 q, .slice a n c] ∧ BX 26 (w4.setCell ⟨w.heap.size + 2, 2, none⟩ (.slice a4 (k + 1) c4)) (w.heap.size + 1) #[.int .i64 0, .int .i64 0, .slice none 0 0] ∧ BX 26 (w4.setCell ⟨w.heap.size + 2, 2, none⟩ (.slice a4 (k + 1) c4)) (w.heap.size + 2) #[.int .i64 p, .int .i64 n, .slice a4 (k + 1) c4]) := Lib.hid ⟨Y.out.1.other (by simp) _, Y.out.2.1.other (by simp) _, Y.out.2.2.set 2 _⟩
          have HN2 : Hid (OwnR 52 2 (w4.setCell ⟨w.heap.size + 2, 2, none⟩ (.slice a4 (k + 1) c4)) (w.heap.size + 3) a4 (k + 1) c4 ((colsR xss q).take (k + 1)) (upd A k a2) (upd C k c2) ∧ Below w.heap.size w (w4.setCell ⟨w.heap.size + 2, 2, none⟩ (.slice a4 (k + 1) c4)) ∧ w.heap.size + 3 ≤ (w4.setCell ⟨w.heap.size + 2, 2, none⟩ (.slice a4 (k + 1) c4)).heap.size) := Lib.hid ⟨by rw [take_row2 (by rw [colsR_len]; exact hkt), colsR_row hkt]; exact HN.out.1.setLow _ (by simp) _, (HJ.out.2.1.trans (HN.out.2.mono (by omega))).setCell (by simp) _, by have := HN.out.2.size; simp; omega⟩
          go_roundw
          case rel => exact ⟨k + 1, a4, c4, _, _, by omega, by go_num, HR2, HN2⟩
          case measure => simp [intOf]; omega
    · obtain rfl : q = k := by omega
      have HM : Hid (MadeR 52 2 wo (w.heap.size + 3) a1 q c1 (colsR xss q) ∧ Below w.heap.size w wo) := Lib.hid ⟨⟨A, C, by have := HJ.out.1; rwa [List.take_of_length_le (by rw [colsR_len]; omega)] at this⟩, HJ.out.2.1⟩
      have x0 : wo.cell? ⟨w.heap.size + 2, 0, none⟩ = some (.int .i64 p) := HX.out.2.2.cell 0
      have x1 : wo.cell? ⟨w.heap.size + 2, 1, none⟩ = some (.int .i64 n) := HX.out.2.2.cell 1
      have x2 : wo.cell? ⟨w.heap.size + 2, 2, none⟩ = some (.slice a1 q c1) := HX.out.2.2.cell 2
      have y0 : wo.cell? ⟨w.heap.size + 1, 0, none⟩ = some (.int .i64 0) := HX.out.2.1.cell 0
      have y1 : wo.cell? ⟨w.heap.size + 1, 1, none⟩ = some (.int .i64 0) := HX.out.2.1.cell 1
      have y2 : wo.cell? ⟨w.heap.size + 1, 2, none⟩ = some (.slice none 0 0) := HX.out.2.1.cell 2
      have f0 := HX.out.2.1.frz 0
      have f1 := HX.out.2.1.frz 1
      have f2 := HX.out.2.1.frz 2
      go_wp2
      refine bodyPost_ret (v := .agg #[.int .i64 p, .int .i64 n, .slice a1 q c1]) (by simp [results, Try.results50, go_sem, y0, y1, y2]) rfl ⟨a1, c1, rfl, ?_, ?_⟩
      · refine MadeR.mono (B := w.heap.size + 3) ?_ (by omega)
        exact (((HM.out.1).setLow _ (by first | (simp; done) | (simp; omega)) _).setLow _ (by first | (simp; done) | (simp; omega)) _).setLow _ (by first | (simp; done) | (simp; omega)) _
      · exact (((HM.out.2.setCell (by first | (simp; done) | (simp; omega)) _).setCell (by first | (simp; done) | (simp; omega)) _).setCell (by first | (simp; done) | (simp; omega)) _)
end Go.Proofs.Ytpkdgemnddcefaa
