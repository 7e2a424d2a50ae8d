/- The inverse of a matrix: the program and the reference. -/
import Derived.Test.YtngikcjdhbflkaaInvI
set_option linter.unusedVariables false
set_option linter.unusedSimpArgs false
namespace Go.Proofs.Ytngikcjdhbflkaa
open Go.RowKit

def res_InverseMatrix (xss : List (List Int)) (p q P Q : Int) (R : List (List Int)) (d : Int) : Prop :=
  (isMx xss p q = false ∧ (P, Q, R, d) = mvBad 1) ∨ (isMx xss p q = true ∧ (xss.length : Int) ≠ q ∧ (P, Q, R, d) = mvBad 2) ∨
  (isMx xss p q = true ∧ (xss.length : Int) = q ∧ ∃ ok R0, InvR p q.toNat xss ok R0 ∧ ((ok = true ∧ P = p ∧ Q = q ∧ R = R0 ∧ d = 0) ∨ (ok = false ∧ (P, Q, R, d) = mvBad 4)))
theorem res_InverseMatrix_uniq {xss : List (List Int)} {p q P1 Q1 P2 Q2 d1 d2 : Int} {R1 R2 : List (List Int)} (h : res_InverseMatrix xss p q P1 Q1 R1 d1) (k : res_InverseMatrix xss p q P2 Q2 R2 d2) : P1 = P2 ∧ Q1 = Q2 ∧ R1 = R2 ∧ d1 = d2 := by
  rcases h with ⟨h0, h⟩ | ⟨h0, h1, h⟩ | ⟨h0, h1, ok, R0, h2, h3⟩ <;> rcases k with ⟨k0, k⟩ | ⟨k0, k1, k⟩ | ⟨k0, k1, ok', R0', k2, k3⟩
  · exact mv_uniq h k
  · rw [h0] at k0; cases k0
  · rw [h0] at k0; cases k0
  · rw [h0] at k0; cases k0
  · exact mv_uniq h k
  · exact absurd k1 h1
  · rw [h0] at k0; cases k0
  · exact absurd h1 k1
  · obtain ⟨e1, e2⟩ := h2.unique k2 (isMx_ok h0).gp.bd.1
    rcases h3 with ⟨a1, a2, a3, a4, a5⟩ | ⟨a1, a2⟩ <;> rcases k3 with ⟨b1, b2, b3, b4, b5⟩ | ⟨b1, b2⟩
    · exact ⟨by rw [a2, b2], by rw [a3, b3], by rw [a4, b4, e2], by rw [a5, b5]⟩
    · rw [a1, b1] at e1; cases e1
    · rw [a1, b1] at e1; cases e1
    · exact mv_uniq a2 b2
theorem mvBad_small {P Q d k : Int} {R : List (List Int)} (h : (P, Q, R, d) = mvBad k) : R.length ≤ 1048576 ∧ ∀ i, i < R.length → (rw_ R i).length ≤ 1048576 := by
  simp only [mvBad, Prod.mk.injEq] at h
  rw [h.2.2.1]
  exact ⟨by simp, fun i hi => absurd hi (by simp)⟩
theorem res_InverseMatrix_small {xss : List (List Int)} {p q P Q d : Int} {R : List (List Int)} (h : res_InverseMatrix xss p q P Q R d) : R.length ≤ 1048576 ∧ ∀ i, i < R.length → (rw_ R i).length ≤ 1048576 := by
  rcases h with ⟨h0, h⟩ | ⟨h0, h1, h⟩ | ⟨h0, h1, ok, R0, h2, h3⟩
  · exact mvBad_small h
  · exact mvBad_small h
  · rcases h3 with ⟨a1, a2, a3, a4, a5⟩ | ⟨a1, a2⟩
    · have h8 := (isMx_ok h0).q8
      have hl := (isMx_ok h0).len
      rw [a4]
      exact h2.sm (by omega) (by omega)
    · exact mvBad_small a2
set_option maxRecDepth 20000 in
set_option maxHeartbeats 4000000 in
theorem impl_InverseMatrix_any (p q : Int) (a : Option Addr) (n c : Nat) (xss : List (List Int)) (w : World) (hp : I64 p) (hq : I64 q) (ha : RdR w a xss) (hl : xss.length = n) (hx : ∀ i, i < n → (rw_ xss i).length ≤ 1048576) (hn : n ≤ 1048576) (hcp : n ≤ c) :
    Calls Try.prog 39 #[.agg #[.int .i64 p, .int .i64 q, .slice a n c]] w fun e w' => ∃ (P Q : Int) (R : List (List Int)) (d : Int) (a' : Option Addr) (c' : Nat), e = .returned (.tuple #[.agg #[.int .i64 P, .int .i64 Q, .slice a' R.length c'], .int .i64 d]) ∧ res_InverseMatrix xss p q P Q R d ∧ MadeR 38 2 w' w.heap.size a' R.length c' R ∧ Below w.heap.size w w' := by
  have HP := Lib.hid hp
  have HQ := Lib.hid hq
  have HA := Lib.hid ha
  have HL := Lib.hid hl
  have HX := Lib.hid hx
  clear hp hq ha hl hx
  cases hv : isMx xss p q
  · have HR : Hid (res_InverseMatrix xss p q 0 0 [] 1) := Lib.hid (.inl ⟨hv, rfl⟩)
    go_enter Try.func39, Try.ntmps39
    go_wp2_with fail
    refine (impl_IsMatrix_any _ _ _ _ _ xss _ HP.out HQ.out (by exact (HA.out.alloc _).alloc _) HL.out HX.out hn hcp).mono ?_
    rintro e w1 ⟨rfl, hb⟩
    have X0 : Hid (BX 24 w1 w.heap.size #[.int .i64 p, .int .i64 q, .slice a n c]) := Lib.hid (((BX.new w _ _).alloc _).keep hb)
    have X1 : Hid (BX 24 w1 (w.heap.size + 1) #[.int .i64 0, .int .i64 0, .slice none 0 0]) := Lib.hid ((BX.newAt (by simp)).keep hb)
    have HB1 : Hid (Below w.heap.size w w1) := Lib.hid (below_al2 hb)
    have s1 : w.heap.size + 2 ≤ w1.heap.size := by have := hb.size; simp at this; omega
    clear hb
    have p0 : w1.cell? ⟨w.heap.size, 0, none⟩ = some (.int .i64 p) := X0.out.cell 0
    have p1 : w1.cell? ⟨w.heap.size, 1, none⟩ = some (.int .i64 q) := X0.out.cell 1
    have p2 : w1.cell? ⟨w.heap.size, 2, none⟩ = some (.slice a n c) := X0.out.cell 2
    have y0 : w1.cell? ⟨w.heap.size + 1, 0, none⟩ = some (.int .i64 0) := X1.out.cell 0
    have y1 : w1.cell? ⟨w.heap.size + 1, 1, none⟩ = some (.int .i64 0) := X1.out.cell 1
    have y2 : w1.cell? ⟨w.heap.size + 1, 2, none⟩ = some (.slice none 0 0) := X1.out.cell 2
    have f0 := X1.out.frz 0
    have f1 := X1.out.frz 1
    have f2 := X1.out.frz 2
    go_wp2_with fail
    refine bodyPost_ret (v := .tuple #[.agg #[.int .i64 0, .int .i64 0, .slice none 0 0], .int .i64 1]) (by simp [results, Try.results39, go_sem, y0, y1, y2]) rfl ⟨0, 0, [], 1, none, 0, rfl, HR.out, MadeR.none, ?_⟩
    exact (((HB1.out.setCell (by first | (simp; done) | (simp; omega)) _).setCell (by first | (simp; done) | (simp; omega)) _).setCell (by first | (simp; done) | (simp; omega)) _)
  · have hm := isMx_ok hv
    have q0 := hm.q0
    have q8 := hm.q8
    have hl8 := hm.len
    rw [HL.out] at hl8
    have HV := Lib.hid hv
    have HM := Lib.hid hm
    clear hm
    by_cases hnq : (n : Int) = q
    rotate_left
    · have HR : Hid (res_InverseMatrix xss p q 0 0 [] 2) := Lib.hid (.inr (.inl ⟨HV.out, by rw [HL.out]; exact hnq, rfl⟩))
      have bq : ((n : Int) != q) = true := bne_iff_ne.2 hnq
      have be : ((n : Int) == q) = false := beq_eq_false_iff_ne.2 hnq
      clear hnq
      go_enter Try.func39, Try.ntmps39
      go_wp2_with fail
      refine (impl_IsMatrix_any _ _ _ _ _ xss _ HP.out HQ.out (by exact (HA.out.alloc _).alloc _) HL.out HX.out hn hcp).mono ?_
      rintro e w1 ⟨rfl, hb⟩
      have X0 : Hid (BX 24 w1 w.heap.size #[.int .i64 p, .int .i64 q, .slice a n c]) := Lib.hid (((BX.new w _ _).alloc _).keep hb)
      have X1 : Hid (BX 24 w1 (w.heap.size + 1) #[.int .i64 0, .int .i64 0, .slice none 0 0]) := Lib.hid ((BX.newAt (by simp)).keep hb)
      have HB1 : Hid (Below w.heap.size w w1) := Lib.hid (below_al2 hb)
      have s1 : w.heap.size + 2 ≤ w1.heap.size := by have := hb.size; simp at this; omega
      clear hb
      have p0 : w1.cell? ⟨w.heap.size, 0, none⟩ = some (.int .i64 p) := X0.out.cell 0
      have p1 : w1.cell? ⟨w.heap.size, 1, none⟩ = some (.int .i64 q) := X0.out.cell 1
      have p2 : w1.cell? ⟨w.heap.size, 2, none⟩ = some (.slice a n c) := X0.out.cell 2
      have y0 : w1.cell? ⟨w.heap.size + 1, 0, none⟩ = some (.int .i64 0) := X1.out.cell 0
      have y1 : w1.cell? ⟨w.heap.size + 1, 1, none⟩ = some (.int .i64 0) := X1.out.cell 1
      have y2 : w1.cell? ⟨w.heap.size + 1, 2, none⟩ = some (.slice none 0 0) := X1.out.cell 2
      have f0 := X1.out.frz 0
      have f1 := X1.out.frz 1
      have f2 := X1.out.frz 2
      go_wp2_with fail
      refine bodyPost_ret (v := .tuple #[.agg #[.int .i64 0, .int .i64 0, .slice none 0 0], .int .i64 2]) (by simp [results, Try.results39, go_sem, y0, y1, y2]) rfl ⟨0, 0, [], 2, none, 0, rfl, HR.out, MadeR.none, ?_⟩
      exact (((HB1.out.setCell (by first | (simp; done) | (simp; omega)) _).setCell (by first | (simp; done) | (simp; omega)) _).setCell (by first | (simp; done) | (simp; omega)) _)
    · subst hnq
      have HRW : Hid (Rws p n xss) := Lib.hid HM.out.rws
      have bq : ((n : Int) != (n : Int)) = false := by simp
      have be : ((n : Int) == (n : Int)) = true := by simp
      go_enter Try.func39, Try.ntmps39
      go_wp2_with fail
      refine (impl_IsMatrix_any _ _ _ _ _ xss _ HP.out HQ.out (by exact (HA.out.alloc _).alloc _) HL.out HX.out hn hcp).mono ?_
      rintro e w1 ⟨rfl, hb⟩
      have X0 : Hid (BX 24 w1 w.heap.size #[.int .i64 p, .int .i64 n, .slice a n c]) := Lib.hid (((BX.new w _ _).alloc _).keep hb)
      have X1 : Hid (BX 24 w1 (w.heap.size + 1) #[.int .i64 0, .int .i64 0, .slice none 0 0]) := Lib.hid ((BX.newAt (by simp)).keep hb)
      have HB1 : Hid (Below w.heap.size w w1) := Lib.hid (below_al2 hb)
      have s1 : w.heap.size + 2 ≤ w1.heap.size := by have := hb.size; simp at this; omega
      clear hb
      have p0 : w1.cell? ⟨w.heap.size, 0, none⟩ = some (.int .i64 p) := X0.out.cell 0
      have p1 : w1.cell? ⟨w.heap.size, 1, none⟩ = some (.int .i64 n) := X0.out.cell 1
      have p2 : w1.cell? ⟨w.heap.size, 2, none⟩ = some (.slice a n c) := X0.out.cell 2
      have y0 : w1.cell? ⟨w.heap.size + 1, 0, none⟩ = some (.int .i64 0) := X1.out.cell 0
      have y1 : w1.cell? ⟨w.heap.size + 1, 1, none⟩ = some (.int .i64 0) := X1.out.cell 1
      have y2 : w1.cell? ⟨w.heap.size + 1, 2, none⟩ = some (.slice none 0 0) := X1.out.cell 2
      have f0 := X1.out.frz 0
      have f1 := X1.out.frz 1
      have f2 := X1.out.frz 2
      go_wp2_with fail
      refine (inverseOf_any p HM.out.gp _ n _ xss _ (by exact HA.out.keep HB1.out (Nat.le_refl _)) HL.out HRW.out (by omega)).mono ?_
      rintro e w2 ⟨ok, P, Q, R, a', c', rfl, hinv, hpq, ho, hb⟩
      have HO := Lib.hid ho
      clear p0 p1 p2 y0 y1 y2 f0 f1 f2
      replace X0 : Hid (BX 24 w2 w.heap.size #[.int .i64 p, .int .i64 n, .slice a n c]) := Lib.hid (X0.out.keep hb)
      replace X1 : Hid (BX 24 w2 (w.heap.size + 1) #[.int .i64 0, .int .i64 0, .slice none 0 0]) := Lib.hid (X1.out.keep hb)
      have HB2 : Hid (Below w.heap.size w w2) := Lib.hid (HB1.out.trans (hb.mono HB1.out.size))
      have p0 : w2.cell? ⟨w.heap.size, 0, none⟩ = some (.int .i64 p) := X0.out.cell 0
      have p1 : w2.cell? ⟨w.heap.size, 1, none⟩ = some (.int .i64 n) := X0.out.cell 1
      have p2 : w2.cell? ⟨w.heap.size, 2, none⟩ = some (.slice a n c) := X0.out.cell 2
      have y0 : w2.cell? ⟨w.heap.size + 1, 0, none⟩ = some (.int .i64 0) := X1.out.cell 0
      have y1 : w2.cell? ⟨w.heap.size + 1, 1, none⟩ = some (.int .i64 0) := X1.out.cell 1
      have y2 : w2.cell? ⟨w.heap.size + 1, 2, none⟩ = some (.slice none 0 0) := X1.out.cell 2
      have f0 := X1.out.frz 0
      have f1 := X1.out.frz 1
      have f2 := X1.out.frz 2
      have s2 := hb.size
      clear ho hb
      have lt0 : w.heap.size < w2.heap.size := by omega
      have lt1 : w.heap.size + 1 < w2.heap.size := by omega
      cases ok
      · have HR : Hid (res_InverseMatrix xss p n 0 0 [] 4) := Lib.hid (.inr (.inr ⟨HV.out, by rw [HL.out], false, R, by simpa using hinv, .inr ⟨rfl, rfl⟩⟩))
        clear hinv hpq
        go_wp2_with fail
        refine bodyPost_ret (v := .tuple #[.agg #[.int .i64 0, .int .i64 0, .slice none 0 0], .int .i64 4]) (by simp [results, Try.results39, go_sem, y0, y1, y2, lt1]) rfl ⟨0, 0, [], 4, none, 0, rfl, HR.out, MadeR.none, ?_⟩
        exact Below.alloc (((HB2.out.setCell (by first | (simp; done) | (simp; omega)) _).setCell (by first | (simp; done) | (simp; omega)) _).setCell (by first | (simp; done) | (simp; omega)) _) (by simp; omega) _
      · obtain ⟨rfl, rfl⟩ := hpq rfl
        have HR : Hid (res_InverseMatrix xss P n P n R 0) := Lib.hid (.inr (.inr ⟨HV.out, by rw [HL.out], true, R, by simpa using hinv, .inl ⟨rfl, rfl, rfl, rfl, rfl⟩⟩))
        clear hinv hpq
        go_wp2_with fail
        refine bodyPost_ret (v := .tuple #[.agg #[.int .i64 (P), .int .i64 (n), .slice a' R.length c'], .int .i64 0]) (by simp [results, Try.results39, go_sem, y0, y1, y2, lt1]) rfl ⟨P, n, R, 0, a', c', rfl, HR.out, ?_, ?_⟩
        · refine MadeR.mono (B := w1.heap.size) ?_ (by omega)
          exact MadeR.keep ((((HO.out).setLow _ (by first | (simp; done) | (simp; omega)) _).setLow _ (by first | (simp; done) | (simp; omega)) _).setLow _ (by first | (simp; done) | (simp; omega)) _) ((Below.refl _ _).alloc (Nat.le_refl _) _) (Nat.le_refl _)
        · exact Below.alloc (((HB2.out.setCell (by first | (simp; done) | (simp; omega)) _).setCell (by first | (simp; done) | (simp; omega)) _).setCell (by first | (simp; done) | (simp; omega)) _) (by simp; omega) _
set_option maxRecDepth 20000 in
set_option maxHeartbeats 4000000 in
theorem spec_InverseMatrix_any (p q : Int) (a : Option Addr) (n c : Nat) (xss : List (List Int)) (w : World) (hp : I64 p) (hq : I64 q) (ha : RdR w a xss) (hl : xss.length = n) (hx : ∀ i, i < n → (rw_ xss i).length ≤ 1048576) (hn : n ≤ 1048576) (hcp : n ≤ c) :
    Calls Try.prog 38 #[.agg #[.int .i64 p, .int .i64 q, .slice a n c]] w fun e w' => ∃ (P Q : Int) (R : List (List Int)) (d : Int) (a' : Option Addr) (c' : Nat), e = .returned (.tuple #[.agg #[.int .i64 P, .int .i64 Q, .slice a' R.length c'], .int .i64 d]) ∧ res_InverseMatrix xss p q P Q R d ∧ MadeR 38 2 w' w.heap.size a' R.length c' R ∧ Below w.heap.size w w' := by
  have HP := Lib.hid hp
  have HQ := Lib.hid hq
  have HA := Lib.hid ha
  have HL := Lib.hid hl
  have HX := Lib.hid hx
  clear hp hq ha hl hx
  cases hv : isMx xss p q
  · have HR : Hid (res_InverseMatrix xss p q 0 0 [] 1) := Lib.hid (.inl ⟨hv, rfl⟩)
    go_enter Try.func38, Try.ntmps38
    go_wp2_with fail
    refine (spec_IsMatrix_any _ _ _ _ _ xss _ HP.out HQ.out (by exact (HA.out.alloc _).alloc _) HL.out HX.out hn hcp).mono ?_
    rintro e w1 ⟨rfl, hb⟩
    have X0 : Hid (BX 24 w1 w.heap.size #[.int .i64 p, .int .i64 q, .slice a n c]) := Lib.hid (((BX.new w _ _).alloc _).keep hb)
    have X1 : Hid (BX 24 w1 (w.heap.size + 1) #[.int .i64 0, .int .i64 0, .slice none 0 0]) := Lib.hid ((BX.newAt (by simp)).keep hb)
    have HB1 : Hid (Below w.heap.size w w1) := Lib.hid (below_al2 hb)
    have s1 : w.heap.size + 2 ≤ w1.heap.size := by have := hb.size; simp at this; omega
    clear hb
    have p0 : w1.cell? ⟨w.heap.size, 0, none⟩ = some (.int .i64 p) := X0.out.cell 0
    have p1 : w1.cell? ⟨w.heap.size, 1, none⟩ = some (.int .i64 q) := X0.out.cell 1
    have p2 : w1.cell? ⟨w.heap.size, 2, none⟩ = some (.slice a n c) := X0.out.cell 2
    have y0 : w1.cell? ⟨w.heap.size + 1, 0, none⟩ = some (.int .i64 0) := X1.out.cell 0
    have y1 : w1.cell? ⟨w.heap.size + 1, 1, none⟩ = some (.int .i64 0) := X1.out.cell 1
    have y2 : w1.cell? ⟨w.heap.size + 1, 2, none⟩ = some (.slice none 0 0) := X1.out.cell 2
    have f0 := X1.out.frz 0
    have f1 := X1.out.frz 1
    have f2 := X1.out.frz 2
    go_wp2_with fail
    refine bodyPost_ret (v := .tuple #[.agg #[.int .i64 0, .int .i64 0, .slice none 0 0], .int .i64 1]) (by simp [results, Try.results38, go_sem, y0, y1, y2]) rfl ⟨0, 0, [], 1, none, 0, rfl, HR.out, MadeR.none, ?_⟩
    exact (((HB1.out.setCell (by first | (simp; done) | (simp; omega)) _).setCell (by first | (simp; done) | (simp; omega)) _).setCell (by first | (simp; done) | (simp; omega)) _)
  · have hm := isMx_ok hv
    have q0 := hm.q0
    have q8 := hm.q8
    have hl8 := hm.len
    rw [HL.out] at hl8
    have HV := Lib.hid hv
    have HM := Lib.hid hm
    clear hm
    by_cases hnq : (n : Int) = q
    rotate_left
    · have HR : Hid (res_InverseMatrix xss p q 0 0 [] 2) := Lib.hid (.inr (.inl ⟨HV.out, by rw [HL.out]; exact hnq, rfl⟩))
      have bq : ((n : Int) != q) = true := bne_iff_ne.2 hnq
      have be : ((n : Int) == q) = false := beq_eq_false_iff_ne.2 hnq
      clear hnq
      go_enter Try.func38, Try.ntmps38
      go_wp2_with fail
      refine (spec_IsMatrix_any _ _ _ _ _ xss _ HP.out HQ.out (by exact (HA.out.alloc _).alloc _) HL.out HX.out hn hcp).mono ?_
      rintro e w1 ⟨rfl, hb⟩
      have X0 : Hid (BX 24 w1 w.heap.size #[.int .i64 p, .int .i64 q, .slice a n c]) := Lib.hid (((BX.new w _ _).alloc _).keep hb)
      have X1 : Hid (BX 24 w1 (w.heap.size + 1) #[.int .i64 0, .int .i64 0, .slice none 0 0]) := Lib.hid ((BX.newAt (by simp)).keep hb)
      have HB1 : Hid (Below w.heap.size w w1) := Lib.hid (below_al2 hb)
      have s1 : w.heap.size + 2 ≤ w1.heap.size := by have := hb.size; simp at this; omega
      clear hb
      have p0 : w1.cell? ⟨w.heap.size, 0, none⟩ = some (.int .i64 p) := X0.out.cell 0
      have p1 : w1.cell? ⟨w.heap.size, 1, none⟩ = some (.int .i64 q) := X0.out.cell 1
      have p2 : w1.cell? ⟨w.heap.size, 2, none⟩ = some (.slice a n c) := X0.out.cell 2
      have y0 : w1.cell? ⟨w.heap.size + 1, 0, none⟩ = some (.int .i64 0) := X1.out.cell 0
      have y1 : w1.cell? ⟨w.heap.size + 1, 1, none⟩ = some (.int .i64 0) := X1.out.cell 1
      have y2 : w1.cell? ⟨w.heap.size + 1, 2, none⟩ = some (.slice none 0 0) := X1.out.cell 2
      have f0 := X1.out.frz 0
      have f1 := X1.out.frz 1
      have f2 := X1.out.frz 2
      go_wp2_with fail
      refine (l02Square_any _ _ _ _ _ _ hn).mono ?_
      rintro e w2 ⟨he, hb⟩
      rw [be] at he
      obtain rfl := he
      clear p0 p1 p2 y0 y1 y2 f0 f1 f2
      replace X0 : Hid (BX 24 w2 w.heap.size #[.int .i64 p, .int .i64 q, .slice a n c]) := Lib.hid (X0.out.keep hb)
      replace X1 : Hid (BX 24 w2 (w.heap.size + 1) #[.int .i64 0, .int .i64 0, .slice none 0 0]) := Lib.hid (X1.out.keep hb)
      have HB2 : Hid (Below w.heap.size w w2) := Lib.hid (HB1.out.trans (hb.mono HB1.out.size))
      have p0 : w2.cell? ⟨w.heap.size, 0, none⟩ = some (.int .i64 p) := X0.out.cell 0
      have p1 : w2.cell? ⟨w.heap.size, 1, none⟩ = some (.int .i64 q) := X0.out.cell 1
      have p2 : w2.cell? ⟨w.heap.size, 2, none⟩ = some (.slice a n c) := X0.out.cell 2
      have y0 : w2.cell? ⟨w.heap.size + 1, 0, none⟩ = some (.int .i64 0) := X1.out.cell 0
      have y1 : w2.cell? ⟨w.heap.size + 1, 1, none⟩ = some (.int .i64 0) := X1.out.cell 1
      have y2 : w2.cell? ⟨w.heap.size + 1, 2, none⟩ = some (.slice none 0 0) := X1.out.cell 2
      have f0 := X1.out.frz 0
      have f1 := X1.out.frz 1
      have f2 := X1.out.frz 2
      clear hb
      go_wp2_with fail
      refine bodyPost_ret (v := .tuple #[.agg #[.int .i64 0, .int .i64 0, .slice none 0 0], .int .i64 2]) (by simp [results, Try.results38, go_sem, y0, y1, y2]) rfl ⟨0, 0, [], 2, none, 0, rfl, HR.out, MadeR.none, ?_⟩
      exact (((HB2.out.setCell (by first | (simp; done) | (simp; omega)) _).setCell (by first | (simp; done) | (simp; omega)) _).setCell (by first | (simp; done) | (simp; omega)) _)
    · subst hnq
      have HRW : Hid (Rws p n xss) := Lib.hid HM.out.rws
      have bq : ((n : Int) != (n : Int)) = false := by simp
      have be : ((n : Int) == (n : Int)) = true := by simp
      go_enter Try.func38, Try.ntmps38
      go_wp2_with fail
      refine (spec_IsMatrix_any _ _ _ _ _ xss _ HP.out HQ.out (by exact (HA.out.alloc _).alloc _) HL.out HX.out hn hcp).mono ?_
      rintro e w1 ⟨rfl, hb⟩
      have X0 : Hid (BX 24 w1 w.heap.size #[.int .i64 p, .int .i64 n, .slice a n c]) := Lib.hid (((BX.new w _ _).alloc _).keep hb)
      have X1 : Hid (BX 24 w1 (w.heap.size + 1) #[.int .i64 0, .int .i64 0, .slice none 0 0]) := Lib.hid ((BX.newAt (by simp)).keep hb)
      have HB1 : Hid (Below w.heap.size w w1) := Lib.hid (below_al2 hb)
      have s1 : w.heap.size + 2 ≤ w1.heap.size := by have := hb.size; simp at this; omega
      clear hb
      have p0 : w1.cell? ⟨w.heap.size, 0, none⟩ = some (.int .i64 p) := X0.out.cell 0
      have p1 : w1.cell? ⟨w.heap.size, 1, none⟩ = some (.int .i64 n) := X0.out.cell 1
      have p2 : w1.cell? ⟨w.heap.size, 2, none⟩ = some (.slice a n c) := X0.out.cell 2
      have y0 : w1.cell? ⟨w.heap.size + 1, 0, none⟩ = some (.int .i64 0) := X1.out.cell 0
      have y1 : w1.cell? ⟨w.heap.size + 1, 1, none⟩ = some (.int .i64 0) := X1.out.cell 1
      have y2 : w1.cell? ⟨w.heap.size + 1, 2, none⟩ = some (.slice none 0 0) := X1.out.cell 2
      have f0 := X1.out.frz 0
      have f1 := X1.out.frz 1
      have f2 := X1.out.frz 2
      go_wp2_with fail
      refine (l02Square_any _ _ _ _ _ _ hn).mono ?_
      rintro e w2 ⟨he, hb⟩
      rw [be] at he
      obtain rfl := he
      clear p0 p1 p2 y0 y1 y2 f0 f1 f2
      replace X0 : Hid (BX 24 w2 w.heap.size #[.int .i64 p, .int .i64 n, .slice a n c]) := Lib.hid (X0.out.keep hb)
      replace X1 : Hid (BX 24 w2 (w.heap.size + 1) #[.int .i64 0, .int .i64 0, .slice none 0 0]) := Lib.hid (X1.out.keep hb)
      have HB2 : Hid (Below w.heap.size w w2) := Lib.hid (HB1.out.trans (hb.mono HB1.out.size))
      have p0 : w2.cell? ⟨w.heap.size, 0, none⟩ = some (.int .i64 p) := X0.out.cell 0
      have p1 : w2.cell? ⟨w.heap.size, 1, none⟩ = some (.int .i64 n) := X0.out.cell 1
      have p2 : w2.cell? ⟨w.heap.size, 2, none⟩ = some (.slice a n c) := X0.out.cell 2
      have y0 : w2.cell? ⟨w.heap.size + 1, 0, none⟩ = some (.int .i64 0) := X1.out.cell 0
      have y1 : w2.cell? ⟨w.heap.size + 1, 1, none⟩ = some (.int .i64 0) := X1.out.cell 1
      have y2 : w2.cell? ⟨w.heap.size + 1, 2, none⟩ = some (.slice none 0 0) := X1.out.cell 2
      have f0 := X1.out.frz 0
      have f1 := X1.out.frz 1
      have f2 := X1.out.frz 2
      have s2 := hb.size
      clear hb
      go_wp2_with fail
      refine (l02Inverse_any p HM.out.gp _ n _ xss _ (by exact HA.out.keep HB2.out (Nat.le_refl _)) HL.out HRW.out (by omega)).mono ?_
      rintro e w3 ⟨ok, R, ar, cr, rfl, hinv, ho, hb⟩
      have HO := Lib.hid ho
      clear p0 p1 p2 y0 y1 y2 f0 f1 f2
      replace X0 : Hid (BX 24 w3 w.heap.size #[.int .i64 p, .int .i64 n, .slice a n c]) := Lib.hid (X0.out.keep hb)
      replace X1 : Hid (BX 24 w3 (w.heap.size + 1) #[.int .i64 0, .int .i64 0, .slice none 0 0]) := Lib.hid (X1.out.keep hb)
      have HB3 : Hid (Below w.heap.size w w3) := Lib.hid (HB2.out.trans (hb.mono HB2.out.size))
      have p0 : w3.cell? ⟨w.heap.size, 0, none⟩ = some (.int .i64 p) := X0.out.cell 0
      have p1 : w3.cell? ⟨w.heap.size, 1, none⟩ = some (.int .i64 n) := X0.out.cell 1
      have p2 : w3.cell? ⟨w.heap.size, 2, none⟩ = some (.slice a n c) := X0.out.cell 2
      have y0 : w3.cell? ⟨w.heap.size + 1, 0, none⟩ = some (.int .i64 0) := X1.out.cell 0
      have y1 : w3.cell? ⟨w.heap.size + 1, 1, none⟩ = some (.int .i64 0) := X1.out.cell 1
      have y2 : w3.cell? ⟨w.heap.size + 1, 2, none⟩ = some (.slice none 0 0) := X1.out.cell 2
      have f0 := X1.out.frz 0
      have f1 := X1.out.frz 1
      have f2 := X1.out.frz 2
      have s3 := hb.size
      clear ho hb
      have lt0 : w.heap.size < w3.heap.size := by omega
      have lt1 : w.heap.size + 1 < w3.heap.size := by omega
      cases ok
      · have HR : Hid (res_InverseMatrix xss p n 0 0 [] 4) := Lib.hid (.inr (.inr ⟨HV.out, by rw [HL.out], false, R, by simpa using hinv, .inr ⟨rfl, rfl⟩⟩))
        clear hinv
        go_wp2_with fail
        refine bodyPost_ret (v := .tuple #[.agg #[.int .i64 0, .int .i64 0, .slice none 0 0], .int .i64 4]) (by simp [results, Try.results38, go_sem, y0, y1, y2]) rfl ⟨0, 0, [], 4, none, 0, rfl, HR.out, MadeR.none, ?_⟩
        exact (((HB3.out.setCell (by first | (simp; done) | (simp; omega)) _).setCell (by first | (simp; done) | (simp; omega)) _).setCell (by first | (simp; done) | (simp; omega)) _)
      · have HR : Hid (res_InverseMatrix xss p n p n R 0) := Lib.hid (.inr (.inr ⟨HV.out, by rw [HL.out], true, R, by simpa using hinv, .inl ⟨rfl, rfl, rfl, rfl, rfl⟩⟩))
        have hsm := (hinv.sm (by omega) (by rw [HL.out]; omega)).1
        have HSM := Lib.hid (hinv.sm (by omega) (by rw [HL.out]; omega)).2
        clear hinv
        go_wp2_with fail
        refine (l02Make_any _ _ _ _ _ R _ (by exact HO.out.rd) rfl HSM.out hsm).mono ?_
        rintro e w4 ⟨a', c', rfl, ho, hb⟩
        have HO4 := Lib.hid ho
        clear p0 p1 p2 y0 y1 y2 f0 f1 f2
        replace X0 : Hid (BX 24 w4 w.heap.size #[.int .i64 p, .int .i64 n, .slice a n c]) := Lib.hid (X0.out.keep hb)
        replace X1 : Hid (BX 24 w4 (w.heap.size + 1) #[.int .i64 0, .int .i64 0, .slice none 0 0]) := Lib.hid (X1.out.keep hb)
        have HB4 : Hid (Below w.heap.size w w4) := Lib.hid (HB3.out.trans (hb.mono HB3.out.size))
        have p0 : w4.cell? ⟨w.heap.size, 0, none⟩ = some (.int .i64 p) := X0.out.cell 0
        have p1 : w4.cell? ⟨w.heap.size, 1, none⟩ = some (.int .i64 n) := X0.out.cell 1
        have p2 : w4.cell? ⟨w.heap.size, 2, none⟩ = some (.slice a n c) := X0.out.cell 2
        have y0 : w4.cell? ⟨w.heap.size + 1, 0, none⟩ = some (.int .i64 0) := X1.out.cell 0
        have y1 : w4.cell? ⟨w.heap.size + 1, 1, none⟩ = some (.int .i64 0) := X1.out.cell 1
        have y2 : w4.cell? ⟨w.heap.size + 1, 2, none⟩ = some (.slice none 0 0) := X1.out.cell 2
        have f0 := X1.out.frz 0
        have f1 := X1.out.frz 1
        have f2 := X1.out.frz 2
        clear ho hb
        go_wp2_with fail
        refine bodyPost_ret (v := .tuple #[.agg #[.int .i64 (p), .int .i64 (n), .slice a' R.length c'], .int .i64 0]) (by simp [results, Try.results38, go_sem, y0, y1, y2]) rfl ⟨p, n, R, 0, a', c', rfl, HR.out, ?_, ?_⟩
        · refine MadeR.mono (B := w3.heap.size) ?_ (by omega)
          exact (((HO4.out).setLow _ (by first | (simp; done) | (simp; omega)) _).setLow _ (by first | (simp; done) | (simp; omega)) _).setLow _ (by first | (simp; done) | (simp; omega)) _
        · exact (((HB4.out.setCell (by first | (simp; done) | (simp; omega)) _).setCell (by first | (simp; done) | (simp; omega)) _).setCell (by first | (simp; done) | (simp; omega)) _)
end Go.Proofs.Ytngikcjdhbflkaa
