/- The transposed matrix: the program and the reference. -/
import Derived.Test.YtngikcjdhbflkaaMatId
set_option linter.unusedVariables false
set_option linter.unusedSimpArgs false
namespace Go.Proofs.Ytngikcjdhbflkaa
open Go.RowKit

theorem BX.newAt {T : TypeId} {w : World} {b : Nat} {vs : Array Value} (h : b = w.heap.size) : BX T (w.alloc (.cells vs T)) b vs := by subst h; exact BX.new w T vs
/-- column k -/
def colR (xss : List (List Int)) (k : Nat) : List Int := tab xss.length fun i => el (rw_ xss i) k
/-- the columns as rows -/
def colsR (xss : List (List Int)) (q : Nat) : List (List Int) := tab q (colR xss)
theorem colR_len (xss : List (List Int)) (k : Nat) : (colR xss k).length = xss.length := tab_len _ _
theorem colsR_len (xss : List (List Int)) (q : Nat) : (colsR xss q).length = q := tab_len _ _
theorem colsR_row {xss : List (List Int)} {q k : Nat} (h : k < q) : rw_ (colsR xss q) k = colR xss k := rw_tab h
theorem colR_take {xss : List (List Int)} {k i : Nat} (h : i < xss.length) : (colR xss k).take (i + 1) = (colR xss k).take i ++ [el (rw_ xss i) k] := by
  rw [take_el (by rw [colR_len]; exact h)]
  congr 2
  exact el_tab h
def trV (xss : List (List Int)) (p q : Int) : MV := if isMx xss p q = true then (p, xss.length, colsR xss q.toNat, 0) else mvBad 1
def res_TransposeMatrix (xss : List (List Int)) (p q P Q : Int) (R : List (List Int)) (d : Int) : Prop := (P, Q, R, d) = trV xss p q
theorem res_TransposeMatrix_uniq {xss : List (List Int)} {p q P1 Q1 P2 Q2 d1 d2 : Int} {R1 R2 : List (List Int)} (h : res_TransposeMatrix xss p q P1 Q1 R1 d1) (k : res_TransposeMatrix xss p q P2 Q2 R2 d2) : P1 = P2 ∧ Q1 = Q2 ∧ R1 = R2 ∧ d1 = d2 := mv_uniq h k
theorem res_TransposeMatrix_small {xss : List (List Int)} {p q P Q d : Int} {R : List (List Int)} (h : res_TransposeMatrix xss p q P Q R d) : R.length ≤ 1048576 ∧ ∀ i, i < R.length → (rw_ R i).length ≤ 1048576 := by
  unfold res_TransposeMatrix trV mvBad at h
  split at h
  · rename_i hc
    have hm := isMx_ok hc
    have h8 := hm.q8
    have hl := hm.len
    simp only [Prod.mk.injEq] at h
    rw [h.2.2.1]
    refine ⟨by rw [colsR_len]; omega, fun i hi => ?_⟩
    rw [colsR_len] at hi
    rw [colsR_row hi, colR_len]; omega
  · simp only [Prod.mk.injEq] at h
    rw [h.2.2.1]
    exact ⟨by simp, fun i hi => absurd hi (by simp)⟩
set_option maxRecDepth 20000 in
set_option maxHeartbeats 4000000 in
theorem transposed_any (p : Int) (q : Nat) (a : Option Addr) (n c : Nat) (xss : List (List Int)) (w : World) (ha : RdR w a xss) (hl : xss.length = n) (hr : ∀ i, i < n → (rw_ xss i).length = q) (hn : n ≤ 100) (hq : q ≤ 100) :
    Calls Try.prog 62 #[.agg #[.int .i64 p, .int .i64 q, .slice a n c]] w fun e w' => ∃ a' c', e = .returned (.agg #[.int .i64 p, .int .i64 n, .slice a' q c']) ∧ MadeR 38 2 w' w.heap.size a' q c' (colsR xss q) ∧ Below w.heap.size w w' := by
  have HA := Lib.hid ha
  have HL := Lib.hid hl
  have HR := Lib.hid hr
  clear ha hl hr
  go_enter Try.func62, Try.ntmps62
  go_wp2
  go_loopw [15] (fun i wr => ∃ (k : Nat) (a1 : Option Addr) (c1 : Nat) (A : Nat → Option Addr) (C : Nat → Nat), k ≤ q ∧ i = .int .i64 k ∧ Hid (BX 24 wr w.heap.size #[.int .i64 p, .int .i64 q, .slice a n c] ∧ BX 24 wr (w.heap.size + 1) #[.int .i64 0, .int .i64 0, .slice none 0 0] ∧ BX 24 wr (w.heap.size + 2) #[.int .i64 p, .int .i64 n, .slice a1 k c1]) ∧ Hid (OwnR 38 2 wr (w.heap.size + 3) a1 k c1 ((colsR xss q).take k) A C ∧ Below w.heap.size w wr ∧ w.heap.size + 3 ≤ wr.heap.size)) (fun i _ => q - (intOf i).toNat)
  case atStart =>
    refine ⟨0, none, 0, fun _ => none, fun _ => 0, Nat.zero_le _, rfl, Lib.hid ⟨?_, ?_, ?_⟩, Lib.hid ⟨by simpa using OwnR.none _ _, ?_, ?_⟩⟩
    · exact ((BX.new w _ _).alloc _).alloc _
    · exact (BX.newAt (by simp)).alloc _
    · exact BX.newAt (by simp)
    · exact (((Below.refl _ _).alloc (Nat.le_refl _) _).alloc (by simp) _).alloc (by simp; omega) _
    · simp
  case round =>
    obtain ⟨k, a1, c1, A, C, hk, rfl, HX, HJ⟩ := hrel
    obtain ⟨wo, rfl⟩ : ∃ x, x = wr := ⟨wr, rfl⟩
    have hsz := HJ.out.2.2
    have lt0 : w.heap.size < wo.heap.size := by omega
    have lt1 : w.heap.size + 1 < wo.heap.size := by omega
    have lt2 : w.heap.size + 2 < wo.heap.size := by omega
    have p1 : wo.cell? ⟨w.heap.size, 1, none⟩ = some (.int .i64 q) := HX.out.1.cell 1
    have p2 : wo.cell? ⟨w.heap.size, 2, none⟩ = some (.slice a n c) := HX.out.1.cell 2
    by_cases hkt : k < q
    · have HAo : Hid (RdR wo a xss) := Lib.hid (HA.out.keep HJ.out.2.1 (Nat.le_refl _))
      have B1 : decide ((k : Int) < (q : Int)) = true := decide_eq_true (by omega)
      go_wp2
      go_loopw [21, 5] (fun i v wr => ∃ (j : Nat) (a2 : Option Addr) (c2 : Nat), j ≤ n ∧ i = .int .i64 j ∧ v = .slice a2 j c2 ∧ Hid (OwnI 2 wr wo.heap.size a2 j c2 ((colR xss k).take j) ∧ Below wo.heap.size wo wr)) (fun i _ _ => n - (intOf i).toNat)
      case atStart => exact ⟨0, none, 0, Nat.zero_le _, rfl, rfl, Lib.hid ⟨by simpa using OwnI.none, Below.refl _ _⟩⟩
      case round =>
        obtain ⟨i, a2, c2, hi, rfl, rfl, HI⟩ := hrel
        obtain ⟨wi, rfl⟩ : ∃ x, x = wr := ⟨wr, rfl⟩
        have x2 : wi.cell? ⟨w.heap.size, 2, none⟩ = some (.slice a n c) := cell_below (p := ⟨w.heap.size, 2, none⟩) p2 HI.out.2
        have szi := HI.out.2.size
        by_cases hit : i < n
        · obtain ⟨b, o, rfl, hc⟩ := (HAo.out.keep HI.out.2 (Nat.le_refl _)) (by rw [HL.out]; omega)
          obtain ⟨aj, cj, dj, rj, _⟩ := hc i (by rw [HL.out]; exact hit)
          have hrow := HR.out i hit
          rw [hrow] at dj
          obtain ⟨bj, oj, rfl, hcj⟩ := rj (by omega)
          have ej := hcj k (by rw [hrow]; exact hkt)
          clear hc hcj rj hrow
          go_wp2_with (at_builtin; refine wpList_push rfl (.tmp 24) (.tmp 33) 38 rfl wo.heap.size 2 (.int .i64 0) 8 Try.underlying38 Try.info2 rfl (by decide) (.int .i64 (el (rw_ xss i) k)) rfl _ _ _ _ rfl rfl (by exact HI.out.1) (by omega) (by exact HI.out.2.size) ?_; rintro a4 c4 w4 r4 q4 g4; have HN := Lib.hid (And.intro (OwnI.pushed r4) (HI.out.2.trans (g4.below HI.out.2.size (fun m hm hx => by obtain ⟨x, hx, e⟩ := hx; have := (HI.out.1.block x hx).1; omega)))); clear r4 q4 g4)
          have HN2 : Hid (OwnI 2 w4 wo.heap.size a4 (i + 1) c4 ((colR xss k).take (i + 1)) ∧ Below wo.heap.size wo w4) := Lib.hid ⟨by rw [colR_take (by rw [HL.out]; exact hit)]; exact HN.out.1, HN.out.2⟩
          go_roundw
          case rel => exact ⟨i + 1, a4, c4, by omega, by go_num, rfl, HN2⟩
          case measure => simp [intOf]; omega
        · obtain rfl : n = i := by omega
          have HO : Hid (OwnI 2 wi wo.heap.size a2 n c2 (colR xss k)) := Lib.hid (by have := HI.out.1; rwa [List.take_of_length_le (by rw [colR_len, HL.out]; omega)] at this)
          have HBo : Hid (Below wo.heap.size wo wi) := Lib.hid HI.out.2
          have z0 : wi.cell? ⟨w.heap.size + 2, 2, none⟩ = some (.slice a1 k c1) := (HX.out.2.2.keep HBo.out).cell 2
          have lt3 : w.heap.size + 2 < wi.heap.size := by omega
          go_wp2_with (at_builtin; refine wpList_push rfl (.tmp 37) (.tmp 39) 22 rfl (w.heap.size + 3) 38 (.slice none 0 0) 24 Try.underlying22 Try.infoR rfl (by decide) (.slice a2 n c2) rfl _ _ _ _ rfl rfl (by exact (HJ.out.1.keep HBo.out (Nat.le_refl _)).own) (by omega) (by exact Nat.le_trans hsz szi) ?_; rintro a4 c4 w4 r4 q4 g4; have HN := Lib.hid (HJ.out.1.pushNew2 hsz HBo.out HO.out (Nat.le_refl _) r4 q4 g4); have Y := Lib.hid (And.intro ((HX.out.1.keep HBo.out).chg g4 (fun hx => by obtain ⟨x, hx, e⟩ := hx; have := (ownsRow_block HJ.out.1.own x hx).1; omega)) (And.intro ((HX.out.2.1.keep HBo.out).chg g4 (fun hx => by obtain ⟨x, hx, e⟩ := hx; have := (ownsRow_block HJ.out.1.own x hx).1; omega)) ((HX.out.2.2.keep HBo.out).chg g4 (fun hx => by obtain ⟨x, hx, e⟩ := hx; have := (ownsRow_block HJ.out.1.own x hx).1; omega)))); have z1 : w4.cell? ⟨w.heap.size + 2, 2, none⟩ = some (.slice a1 k c1) := Y.out.2.2.cell 2; have z2 := Y.out.2.2.frz 2; clear r4 q4 g4)
          have HR2 : Hid (BX 24 (w4.setCell ⟨w.heap.size + 2, 2, none⟩ (.slice a4 (k + 1) c4)) w.heap.size #[.int .i64 p, .int .i64 q, .slice a n c] ∧ BX 24 (w4.setCell ⟨w.heap.size + 2, 2, none⟩ (.slice a4 (k + 1) c4)) (w.heap.size + 1) #[.int .i64 0, .int .i64 0, .slice none 0 0] ∧ BX 24 (w4.setCell ⟨w.heap.size + 2, 2, none⟩ (.slice a4 (k + 1) c4)) (w.heap.size + 2) #[.int .i64 p, .int .i64 n, .slice a4 (k + 1) c4]) := Lib.hid ⟨Y.out.1.other (by simp) _, Y.out.2.1.other (by simp) _, Y.out.2.2.set 2 _⟩
          have HN2 : Hid (OwnR 38 2 (w4.setCell ⟨w.heap.size + 2, 2, none⟩ (.slice a4 (k + 1) c4)) (w.heap.size + 3) a4 (k + 1) c4 ((colsR xss q).take (k + 1)) (upd A k a2) (upd C k c2) ∧ Below w.heap.size w (w4.setCell ⟨w.heap.size + 2, 2, none⟩ (.slice a4 (k + 1) c4)) ∧ w.heap.size + 3 ≤ (w4.setCell ⟨w.heap.size + 2, 2, none⟩ (.slice a4 (k + 1) c4)).heap.size) := Lib.hid ⟨by rw [take_row2 (by rw [colsR_len]; exact hkt), colsR_row hkt]; exact HN.out.1.setLow _ (by simp) _, (HJ.out.2.1.trans (HN.out.2.mono (by omega))).setCell (by simp) _, by have := HN.out.2.size; simp; omega⟩
          go_roundw
          case rel => exact ⟨k + 1, a4, c4, _, _, by omega, by go_num, HR2, HN2⟩
          case measure => simp [intOf]; omega
    · obtain rfl : q = k := by omega
      have HM : Hid (MadeR 38 2 wo (w.heap.size + 3) a1 q c1 (colsR xss q) ∧ Below w.heap.size w wo) := Lib.hid ⟨⟨A, C, by have := HJ.out.1; rwa [List.take_of_length_le (by rw [colsR_len]; omega)] at this⟩, HJ.out.2.1⟩
      have x0 : wo.cell? ⟨w.heap.size + 2, 0, none⟩ = some (.int .i64 p) := HX.out.2.2.cell 0
      have x1 : wo.cell? ⟨w.heap.size + 2, 1, none⟩ = some (.int .i64 n) := HX.out.2.2.cell 1
      have x2 : wo.cell? ⟨w.heap.size + 2, 2, none⟩ = some (.slice a1 q c1) := HX.out.2.2.cell 2
      have y0 : wo.cell? ⟨w.heap.size + 1, 0, none⟩ = some (.int .i64 0) := HX.out.2.1.cell 0
      have y1 : wo.cell? ⟨w.heap.size + 1, 1, none⟩ = some (.int .i64 0) := HX.out.2.1.cell 1
      have y2 : wo.cell? ⟨w.heap.size + 1, 2, none⟩ = some (.slice none 0 0) := HX.out.2.1.cell 2
      have f0 := HX.out.2.1.frz 0
      have f1 := HX.out.2.1.frz 1
      have f2 := HX.out.2.1.frz 2
      go_wp2
      refine bodyPost_ret (v := .agg #[.int .i64 p, .int .i64 n, .slice a1 q c1]) (by simp [results, Try.results62, go_sem, y0, y1, y2]) rfl ⟨a1, c1, rfl, ?_, ?_⟩
      · refine MadeR.mono (B := w.heap.size + 3) ?_ (by omega)
        exact (((HM.out.1).setLow _ (by first | (simp; done) | (simp; omega)) _).setLow _ (by first | (simp; done) | (simp; omega)) _).setLow _ (by first | (simp; done) | (simp; omega)) _
      · exact (((HM.out.2.setCell (by first | (simp; done) | (simp; omega)) _).setCell (by first | (simp; done) | (simp; omega)) _).setCell (by first | (simp; done) | (simp; omega)) _)
set_option maxHeartbeats 2000000 in
theorem impl_TransposeMatrix_any (p q : Int) (a : Option Addr) (n c : Nat) (xss : List (List Int)) (w : World) (hp : I64 p) (hq : I64 q) (ha : RdR w a xss) (hl : xss.length = n) (hx : ∀ i, i < n → (rw_ xss i).length ≤ 1048576) (hn : n ≤ 1048576) (hcp : n ≤ c) :
    Calls Try.prog 25 #[.agg #[.int .i64 p, .int .i64 q, .slice a n c]] w fun e w' => ∃ (P Q : Int) (R : List (List Int)) (d : Int) (a' : Option Addr) (c' : Nat), e = .returned (.tuple #[.agg #[.int .i64 P, .int .i64 Q, .slice a' R.length c'], .int .i64 d]) ∧ res_TransposeMatrix xss p q P Q R d ∧ MadeR 38 2 w' w.heap.size a' R.length c' R ∧ Below w.heap.size w w' := by
  have HP := Lib.hid hp
  have HQ := Lib.hid hq
  have HA := Lib.hid ha
  have HL := Lib.hid hl
  have HX := Lib.hid hx
  clear hp hq ha hl hx
  cases hv : isMx xss p q
  · have HR : Hid (res_TransposeMatrix xss p q 0 0 [] 1) := Lib.hid (by unfold res_TransposeMatrix trV; rw [hv]; rfl)
    go_enter Try.func25, Try.ntmps25
    go_wp2_with fail
    refine (impl_IsMatrix_any _ _ _ _ _ xss _ HP.out HQ.out (by exact (HA.out.alloc _).alloc _) HL.out HX.out hn hcp).mono ?_
    rintro e w1 ⟨rfl, hb⟩
    have X0 : Hid (BX 24 w1 w.heap.size #[.int .i64 p, .int .i64 q, .slice a n c]) := Lib.hid (((BX.new w _ _).alloc _).keep hb)
    have X1 : Hid (BX 24 w1 (w.heap.size + 1) #[.int .i64 0, .int .i64 0, .slice none 0 0]) := Lib.hid ((BX.newAt (by simp)).keep hb)
    have HB1 : Hid (Below w.heap.size w w1) := Lib.hid (below_al2 hb)
    have s1 : w.heap.size + 2 ≤ w1.heap.size := by have := hb.size; simp at this; omega
    clear hb
    have p0 : w1.cell? ⟨w.heap.size, 0, none⟩ = some (.int .i64 p) := X0.out.cell 0
    have p1 : w1.cell? ⟨w.heap.size, 1, none⟩ = some (.int .i64 q) := X0.out.cell 1
    have p2 : w1.cell? ⟨w.heap.size, 2, none⟩ = some (.slice a n c) := X0.out.cell 2
    have y0 : w1.cell? ⟨w.heap.size + 1, 0, none⟩ = some (.int .i64 0) := X1.out.cell 0
    have y1 : w1.cell? ⟨w.heap.size + 1, 1, none⟩ = some (.int .i64 0) := X1.out.cell 1
    have y2 : w1.cell? ⟨w.heap.size + 1, 2, none⟩ = some (.slice none 0 0) := X1.out.cell 2
    have f0 := X1.out.frz 0
    have f1 := X1.out.frz 1
    have f2 := X1.out.frz 2
    go_wp2_with fail
    refine bodyPost_ret (v := .tuple #[.agg #[.int .i64 0, .int .i64 0, .slice none 0 0], .int .i64 1]) (by simp [results, Try.results25, go_sem, y0, y1, y2]) rfl ⟨0, 0, [], 1, none, 0, rfl, HR.out, MadeR.none, ?_⟩
    exact (((HB1.out.setCell (by first | (simp; done) | (simp; omega)) _).setCell (by first | (simp; done) | (simp; omega)) _).setCell (by first | (simp; done) | (simp; omega)) _)
  · have hm := isMx_ok hv
    have q0 := hm.q0
    have q8 := hm.q8
    have hl8 := hm.len
    have hrow := hm.row
    rw [HL.out] at hl8 hrow
    have HRW := Lib.hid hrow
    have HR : Hid (res_TransposeMatrix xss p q p n (colsR xss q.toNat) 0) := Lib.hid (by unfold res_TransposeMatrix trV; rw [if_pos hv, HL.out])
    obtain ⟨m, rfl⟩ : ∃ m : Nat, q = m := ⟨q.toNat, by omega⟩
    have HRL : Hid (∀ i, i < n → (rw_ xss i).length = m) := Lib.hid fun i hi => by have := (HRW.out i hi).1; omega
    clear hm hrow
    go_enter Try.func25, Try.ntmps25
    go_wp2_with fail
    refine (impl_IsMatrix_any _ _ _ _ _ xss _ HP.out HQ.out (by exact (HA.out.alloc _).alloc _) HL.out HX.out hn hcp).mono ?_
    rintro e w1 ⟨rfl, hb⟩
    have X0 : Hid (BX 24 w1 w.heap.size #[.int .i64 p, .int .i64 m, .slice a n c]) := Lib.hid (((BX.new w _ _).alloc _).keep hb)
    have X1 : Hid (BX 24 w1 (w.heap.size + 1) #[.int .i64 0, .int .i64 0, .slice none 0 0]) := Lib.hid ((BX.newAt (by simp)).keep hb)
    have HB1 : Hid (Below w.heap.size w w1) := Lib.hid (below_al2 hb)
    have s1 : w.heap.size + 2 ≤ w1.heap.size := by have := hb.size; simp at this; omega
    clear hb
    have p0 : w1.cell? ⟨w.heap.size, 0, none⟩ = some (.int .i64 p) := X0.out.cell 0
    have p1 : w1.cell? ⟨w.heap.size, 1, none⟩ = some (.int .i64 m) := X0.out.cell 1
    have p2 : w1.cell? ⟨w.heap.size, 2, none⟩ = some (.slice a n c) := X0.out.cell 2
    have y0 : w1.cell? ⟨w.heap.size + 1, 0, none⟩ = some (.int .i64 0) := X1.out.cell 0
    have y1 : w1.cell? ⟨w.heap.size + 1, 1, none⟩ = some (.int .i64 0) := X1.out.cell 1
    have y2 : w1.cell? ⟨w.heap.size + 1, 2, none⟩ = some (.slice none 0 0) := X1.out.cell 2
    have f0 := X1.out.frz 0
    have f1 := X1.out.frz 1
    have f2 := X1.out.frz 2
    go_wp2_with fail
    refine (transposed_any _ m _ _ _ xss _ (by exact HA.out.keep HB1.out (Nat.le_refl _)) HL.out HRL.out (by omega) (by omega)).mono ?_
    rintro e w2 ⟨a', c', rfl, ho, hb⟩
    have HO := Lib.hid ho
    clear p0 p1 p2 y0 y1 y2 f0 f1 f2
    replace X0 : Hid (BX 24 w2 w.heap.size #[.int .i64 p, .int .i64 m, .slice a n c]) := Lib.hid (X0.out.keep hb)
    replace X1 : Hid (BX 24 w2 (w.heap.size + 1) #[.int .i64 0, .int .i64 0, .slice none 0 0]) := Lib.hid (X1.out.keep hb)
    have HB2 : Hid (Below w.heap.size w w2) := Lib.hid (HB1.out.trans (hb.mono HB1.out.size))
    have p0 : w2.cell? ⟨w.heap.size, 0, none⟩ = some (.int .i64 p) := X0.out.cell 0
    have p1 : w2.cell? ⟨w.heap.size, 1, none⟩ = some (.int .i64 m) := X0.out.cell 1
    have p2 : w2.cell? ⟨w.heap.size, 2, none⟩ = some (.slice a n c) := X0.out.cell 2
    have y0 : w2.cell? ⟨w.heap.size + 1, 0, none⟩ = some (.int .i64 0) := X1.out.cell 0
    have y1 : w2.cell? ⟨w.heap.size + 1, 1, none⟩ = some (.int .i64 0) := X1.out.cell 1
    have y2 : w2.cell? ⟨w.heap.size + 1, 2, none⟩ = some (.slice none 0 0) := X1.out.cell 2
    have f0 := X1.out.frz 0
    have f1 := X1.out.frz 1
    have f2 := X1.out.frz 2
    clear ho hb
    go_wp2_with fail
    refine bodyPost_ret (v := .tuple #[.agg #[.int .i64 (p), .int .i64 (n), .slice a' m c'], .int .i64 0]) (by simp [results, Try.results25, go_sem, y0, y1, y2]) rfl ⟨p, n, colsR xss m, 0, a', c', by rw [colsR_len], HR.out, ?_, ?_⟩
    · rw [colsR_len]; refine MadeR.mono (B := w1.heap.size) ?_ (by omega)
      exact (((HO.out).setLow _ (by first | (simp; done) | (simp; omega)) _).setLow _ (by first | (simp; done) | (simp; omega)) _).setLow _ (by first | (simp; done) | (simp; omega)) _
    · exact (((HB2.out.setCell (by first | (simp; done) | (simp; omega)) _).setCell (by first | (simp; done) | (simp; omega)) _).setCell (by first | (simp; done) | (simp; omega)) _)
set_option maxRecDepth 20000 in
set_option maxHeartbeats 4000000 in
theorem spec_TransposeMatrix_any (p q : Int) (a : Option Addr) (n c : Nat) (xss : List (List Int)) (w : World) (hp : I64 p) (hq : I64 q) (ha : RdR w a xss) (hl : xss.length = n) (hx : ∀ i, i < n → (rw_ xss i).length ≤ 1048576) (hn : n ≤ 1048576) (hcp : n ≤ c) :
    Calls Try.prog 24 #[.agg #[.int .i64 p, .int .i64 q, .slice a n c]] w fun e w' => ∃ (P Q : Int) (R : List (List Int)) (d : Int) (a' : Option Addr) (c' : Nat), e = .returned (.tuple #[.agg #[.int .i64 P, .int .i64 Q, .slice a' R.length c'], .int .i64 d]) ∧ res_TransposeMatrix xss p q P Q R d ∧ MadeR 38 2 w' w.heap.size a' R.length c' R ∧ Below w.heap.size w w' := by
  have HP := Lib.hid hp
  have HQ := Lib.hid hq
  have HA := Lib.hid ha
  have HL := Lib.hid hl
  have HX := Lib.hid hx
  clear hp hq ha hl hx
  cases hv : isMx xss p q
  · have HR : Hid (res_TransposeMatrix xss p q 0 0 [] 1) := Lib.hid (by unfold res_TransposeMatrix trV; rw [hv]; rfl)
    go_enter Try.func24, Try.ntmps24
    go_wp2_with fail
    refine (spec_IsMatrix_any _ _ _ _ _ xss _ HP.out HQ.out (by exact (HA.out.alloc _).alloc _) HL.out HX.out hn hcp).mono ?_
    rintro e w1 ⟨rfl, hb⟩
    have X0 : Hid (BX 24 w1 w.heap.size #[.int .i64 p, .int .i64 q, .slice a n c]) := Lib.hid (((BX.new w _ _).alloc _).keep hb)
    have X1 : Hid (BX 24 w1 (w.heap.size + 1) #[.int .i64 0, .int .i64 0, .slice none 0 0]) := Lib.hid ((BX.newAt (by simp)).keep hb)
    have HB1 : Hid (Below w.heap.size w w1) := Lib.hid (below_al2 hb)
    have s1 : w.heap.size + 2 ≤ w1.heap.size := by have := hb.size; simp at this; omega
    clear hb
    have p0 : w1.cell? ⟨w.heap.size, 0, none⟩ = some (.int .i64 p) := X0.out.cell 0
    have p1 : w1.cell? ⟨w.heap.size, 1, none⟩ = some (.int .i64 q) := X0.out.cell 1
    have p2 : w1.cell? ⟨w.heap.size, 2, none⟩ = some (.slice a n c) := X0.out.cell 2
    have y0 : w1.cell? ⟨w.heap.size + 1, 0, none⟩ = some (.int .i64 0) := X1.out.cell 0
    have y1 : w1.cell? ⟨w.heap.size + 1, 1, none⟩ = some (.int .i64 0) := X1.out.cell 1
    have y2 : w1.cell? ⟨w.heap.size + 1, 2, none⟩ = some (.slice none 0 0) := X1.out.cell 2
    have f0 := X1.out.frz 0
    have f1 := X1.out.frz 1
    have f2 := X1.out.frz 2
    go_wp2_with fail
    refine bodyPost_ret (v := .tuple #[.agg #[.int .i64 0, .int .i64 0, .slice none 0 0], .int .i64 1]) (by simp [results, Try.results24, go_sem, y0, y1, y2]) rfl ⟨0, 0, [], 1, none, 0, rfl, HR.out, MadeR.none, ?_⟩
    exact (((HB1.out.setCell (by first | (simp; done) | (simp; omega)) _).setCell (by first | (simp; done) | (simp; omega)) _).setCell (by first | (simp; done) | (simp; omega)) _)
  · have hm := isMx_ok hv
    have q0 := hm.q0
    have q8 := hm.q8
    have hl8 := hm.len
    have hrow := hm.row
    rw [HL.out] at hl8 hrow
    have HRW := Lib.hid hrow
    have HR : Hid (res_TransposeMatrix xss p q p n (colsR xss q.toNat) 0) := Lib.hid (by unfold res_TransposeMatrix trV; rw [if_pos hv, HL.out])
    obtain ⟨m, rfl⟩ : ∃ m : Nat, q = m := ⟨q.toNat, by omega⟩
    have HRL : Hid (∀ i, i < n → (rw_ xss i).length = m) := Lib.hid fun i hi => by have := (HRW.out i hi).1; omega
    clear hm hrow
    go_enter Try.func24, Try.ntmps24
    go_wp2_with fail
    refine (spec_IsMatrix_any _ _ _ _ _ xss _ HP.out HQ.out (by exact (HA.out.alloc _).alloc _) HL.out HX.out hn hcp).mono ?_
    rintro e w1 ⟨rfl, hb⟩
    have X0 : Hid (BX 24 w1 w.heap.size #[.int .i64 p, .int .i64 m, .slice a n c]) := Lib.hid (((BX.new w _ _).alloc _).keep hb)
    have X1 : Hid (BX 24 w1 (w.heap.size + 1) #[.int .i64 0, .int .i64 0, .slice none 0 0]) := Lib.hid ((BX.newAt (by simp)).keep hb)
    have HB1 : Hid (Below w.heap.size w w1) := Lib.hid (below_al2 hb)
    have s1 : w.heap.size + 2 ≤ w1.heap.size := by have := hb.size; simp at this; omega
    clear hb
    have p0 : w1.cell? ⟨w.heap.size, 0, none⟩ = some (.int .i64 p) := X0.out.cell 0
    have p1 : w1.cell? ⟨w.heap.size, 1, none⟩ = some (.int .i64 m) := X0.out.cell 1
    have p2 : w1.cell? ⟨w.heap.size, 2, none⟩ = some (.slice a n c) := X0.out.cell 2
    have y0 : w1.cell? ⟨w.heap.size + 1, 0, none⟩ = some (.int .i64 0) := X1.out.cell 0
    have y1 : w1.cell? ⟨w.heap.size + 1, 1, none⟩ = some (.int .i64 0) := X1.out.cell 1
    have y2 : w1.cell? ⟨w.heap.size + 1, 2, none⟩ = some (.slice none 0 0) := X1.out.cell 2
    have f0 := X1.out.frz 0
    have f1 := X1.out.frz 1
    have f2 := X1.out.frz 2
    clear p0 p1 p2 y0 y1 y2 f0 f1 f2
    have HAo1 : Hid (RdR w1 a xss) := Lib.hid (HA.out.keep HB1.out (Nat.le_refl _))
    go_wp2_with fail
    go_loopw [5, 4] (fun i v wr => ∃ (k : Nat) (a1 : Option Addr) (c1 : Nat) (A : Nat → Option Addr) (C : Nat → Nat), k ≤ m ∧ i = .int .i64 k ∧ v = .slice a1 k c1 ∧ Hid (OwnR 38 2 wr w1.heap.size a1 k c1 ((colsR xss m).take k) A C ∧ Below w1.heap.size w1 wr)) (fun i _ _ => m - (intOf i).toNat)
    case atStart => exact ⟨0, _, 0, fun _ => none, fun _ => 0, Nat.zero_le _, rfl, rfl, Lib.hid ⟨by simpa using OwnR.empty w1 _ _ _ _, (Below.refl _ _).alloc (Nat.le_refl _) _⟩⟩
    case round =>
      obtain ⟨k, a1, c1, A, C, hk, rfl, rfl, HJ⟩ := hrel
      obtain ⟨wo, rfl⟩ : ∃ x, x = wr := ⟨wr, rfl⟩
      have hsz := HJ.out.2.size
      have lt0 : w.heap.size < wo.heap.size := by omega
      have p1 : wo.cell? ⟨w.heap.size, 1, none⟩ = some (.int .i64 m) := (X0.out.keep HJ.out.2).cell 1
      have p2 : wo.cell? ⟨w.heap.size, 2, none⟩ = some (.slice a n c) := (X0.out.keep HJ.out.2).cell 2
      by_cases hkt : k < m
      · have HAo : Hid (RdR wo a xss) := Lib.hid (HAo1.out.keep HJ.out.2 (Nat.le_refl _))
        have B1 : decide ((k : Int) < (m : Int)) = true := decide_eq_true (by omega)
        go_wp2
        go_loopw [7, 6] (fun i v wr => ∃ (j : Nat) (a2 : Option Addr) (c2 : Nat), j ≤ n ∧ i = .int .i64 j ∧ v = .slice a2 j c2 ∧ Hid (OwnI 2 wr wo.heap.size a2 j c2 ((colR xss k).take j) ∧ Below wo.heap.size wo wr)) (fun i _ _ => n - (intOf i).toNat)
        case atStart => exact ⟨0, _, 0, Nat.zero_le _, rfl, rfl, Lib.hid ⟨by simpa using OwnI.empty wo _, (Below.refl _ _).alloc (Nat.le_refl _) _⟩⟩
        case round =>
          obtain ⟨i, a2, c2, hi, rfl, rfl, HI⟩ := hrel
          obtain ⟨wi, rfl⟩ : ∃ x, x = wr := ⟨wr, rfl⟩
          have x2 : wi.cell? ⟨w.heap.size, 2, none⟩ = some (.slice a n c) := cell_below (p := ⟨w.heap.size, 2, none⟩) p2 HI.out.2
          have szi := HI.out.2.size
          by_cases hit : i < n
          · obtain ⟨b, o, rfl, hc⟩ := (HAo.out.keep HI.out.2 (Nat.le_refl _)) (by rw [HL.out]; omega)
            obtain ⟨aj, cj, dj, rj, _⟩ := hc i (by rw [HL.out]; exact hit)
            have hrow := HRL.out i hit
            rw [hrow] at dj
            obtain ⟨bj, oj, rfl, hcj⟩ := rj (by omega)
            have ej := hcj k (by rw [hrow]; exact hkt)
            clear hc hcj rj hrow
            go_wp2_with (at_builtin; refine wpList_push rfl (.tmp 27) (.tmp 36) 38 rfl wo.heap.size 2 (.int .i64 0) 8 Try.underlying38 Try.info2 rfl (by decide) (.int .i64 (el (rw_ xss i) k)) rfl _ _ _ _ rfl rfl (by exact HI.out.1) (by omega) (by exact HI.out.2.size) ?_; rintro a4 c4 w4 r4 q4 g4; have HN := Lib.hid (And.intro (OwnI.pushed r4) (HI.out.2.trans (g4.below HI.out.2.size (fun m hm hx => by obtain ⟨x, hx, e⟩ := hx; have := (HI.out.1.block x hx).1; omega)))); clear r4 q4 g4)
            have HN2 : Hid (OwnI 2 w4 wo.heap.size a4 (i + 1) c4 ((colR xss k).take (i + 1)) ∧ Below wo.heap.size wo w4) := Lib.hid ⟨by rw [colR_take (by rw [HL.out]; exact hit)]; exact HN.out.1, HN.out.2⟩
            go_roundw
            case rel => exact ⟨i + 1, a4, c4, by omega, by go_num, rfl, HN2⟩
            case measure => simp [intOf]; omega
          · obtain rfl : n = i := by omega
            have HO : Hid (OwnI 2 wi wo.heap.size a2 n c2 (colR xss k)) := Lib.hid (by have := HI.out.1; rwa [List.take_of_length_le (by rw [colR_len, HL.out]; omega)] at this)
            have HBo : Hid (Below wo.heap.size wo wi) := Lib.hid HI.out.2
            go_wp2_with (at_builtin; refine wpList_push rfl (.tmp 38) (.tmp 40) 22 rfl w1.heap.size 38 (.slice none 0 0) 24 Try.underlying22 Try.infoR rfl (by decide) (.slice a2 n c2) rfl _ _ _ _ rfl rfl (by exact (HJ.out.1.keep HBo.out (Nat.le_refl _)).own) (by omega) (by exact Nat.le_trans hsz szi) ?_; rintro a4 c4 w4 r4 q4 g4; have HN := Lib.hid (HJ.out.1.pushNew2 hsz HBo.out HO.out (Nat.le_refl _) r4 q4 g4); clear r4 q4 g4)
            have HN2 : Hid (OwnR 38 2 w4 w1.heap.size a4 (k + 1) c4 ((colsR xss m).take (k + 1)) (upd A k a2) (upd C k c2) ∧ Below w1.heap.size w1 w4) := Lib.hid ⟨by rw [take_row2 (by rw [colsR_len]; exact hkt), colsR_row hkt]; exact HN.out.1, HJ.out.2.trans HN.out.2⟩
            go_roundw
            case rel => exact ⟨k + 1, a4, c4, _, _, by omega, by go_num, rfl, HN2⟩
            case measure => simp [intOf]; omega
      · obtain rfl : m = k := by omega
        have HM : Hid (RdR wo a1 (colsR xss m)) := Lib.hid (by have := HJ.out.1.rd; rwa [List.take_of_length_le (by rw [colsR_len]; omega)] at this)
        have p0 : wo.cell? ⟨w.heap.size, 0, none⟩ = some (.int .i64 p) := (X0.out.keep HJ.out.2).cell 0
        replace X0 : Hid (BX 24 wo w.heap.size #[.int .i64 p, .int .i64 m, .slice a n c]) := Lib.hid (X0.out.keep HJ.out.2)
        replace X1 : Hid (BX 24 wo (w.heap.size + 1) #[.int .i64 0, .int .i64 0, .slice none 0 0]) := Lib.hid (X1.out.keep HJ.out.2)
        have HBo : Hid (Below w.heap.size w wo) := Lib.hid (HB1.out.trans (HJ.out.2.mono HB1.out.size))
        go_wp2_with fail
        refine (l02Make_any _ _ _ _ _ (colsR xss m) _ (by exact HM.out) (colsR_len _ _) (fun i hi => by rw [colsR_row hi, colR_len, HL.out]; omega) (by omega)).mono ?_
        rintro e w2 ⟨a', c', rfl, ho, hb⟩
        have HO := Lib.hid ho
        clear p0 p1 p2
        replace X1 : Hid (BX 24 w2 (w.heap.size + 1) #[.int .i64 0, .int .i64 0, .slice none 0 0]) := Lib.hid (X1.out.keep hb)
        have HB2 : Hid (Below w.heap.size w w2) := Lib.hid (HBo.out.trans (hb.mono HBo.out.size))
        have y0 : w2.cell? ⟨w.heap.size + 1, 0, none⟩ = some (.int .i64 0) := X1.out.cell 0
        have y1 : w2.cell? ⟨w.heap.size + 1, 1, none⟩ = some (.int .i64 0) := X1.out.cell 1
        have y2 : w2.cell? ⟨w.heap.size + 1, 2, none⟩ = some (.slice none 0 0) := X1.out.cell 2
        have f0 := X1.out.frz 0
        have f1 := X1.out.frz 1
        have f2 := X1.out.frz 2
        clear ho hb
        go_wp2_with fail
        refine bodyPost_ret (v := .tuple #[.agg #[.int .i64 (p), .int .i64 (n), .slice a' m c'], .int .i64 0]) (by simp [results, Try.results24, go_sem, y0, y1, y2]) rfl ⟨p, n, colsR xss m, 0, a', c', by rw [colsR_len], HR.out, ?_, ?_⟩
        · rw [colsR_len]; refine MadeR.mono (B := wo.heap.size) ?_ (by omega)
          exact (((HO.out).setLow _ (by first | (simp; done) | (simp; omega)) _).setLow _ (by first | (simp; done) | (simp; omega)) _).setLow _ (by first | (simp; done) | (simp; omega)) _
        · exact (((HB2.out.setCell (by first | (simp; done) | (simp; omega)) _).setCell (by first | (simp; done) | (simp; omega)) _).setCell (by first | (simp; done) | (simp; omega)) _)
end Go.Proofs.Ytngikcjdhbflkaa
