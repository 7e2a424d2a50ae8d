/- The reduced form of a matrix: the program and the reference. -/
import Derived.Test.YtngikcjdhbflkaaRedS3
import Derived.Test.YtngikcjdhbflkaaMatTr
import Derived.Deep.RegionHeld3
set_option linter.unusedVariables false
set_option linter.unusedSimpArgs false
namespace Go.Proofs.Ytngikcjdhbflkaa
open Go.RowKit

theorem MxOk.rws {xss : List (List Int)} {p : Int} {q : Nat} (h : MxOk xss p q) : Rws p q xss :=
  ⟨fun i hi => by have := (h.row i hi).1; omega, fun i j hi hj => by have h1 := (h.row i hi).1; have := (h.row i hi).2 j (by omega); omega⟩
theorem IsRref.rws {p : Int} {n : Nat} {rows R : List (List Int)} (h : IsRref p n rows R) : Rws p n R := ⟨h.row, h.rng⟩
theorem IsRref.sm {p : Int} {n : Nat} {rows R : List (List Int)} (h : IsRref p n rows R) (hn : n ≤ 100) : R.length ≤ 1048576 ∧ ∀ i, i < R.length → (rw_ R i).length ≤ 1048576 := by
  have := h.len
  exact ⟨by omega, fun i hi => by rw [h.row i hi]; omega⟩
set_option maxHeartbeats 1000000 in
theorem spanOf_any (p : Int) (hp : GP p) (q : Nat) (a : Option Addr) (n1 c1 : Nat) (rows : List (List Int)) (w : World) (ha : RdR w a rows) (hl : rows.length = n1) (hr : Rws p q rows) (h1 : n1 ≤ 100) (hn : q ≤ 100) :
    Calls Try.prog 97 #[.int .i64 p, .int .i64 q, .slice a n1 c1] w fun e w' => ∃ (R : List (List Int)) (a' : Option Addr) (c' : Nat), e = .returned (.agg #[.int .i64 p, .int .i64 q, .slice a' R.length c']) ∧ IsRref p q rows R ∧ MadeH 2 w' w.heap.size a' R.length c' R ∧ Below w.heap.size w w' := by
  have HP := Lib.hid hp
  have HA := Lib.hid ha
  have HL := Lib.hid hl
  have HR := Lib.hid hr
  clear hp ha hl hr
  go_enter Try.func97, Try.ntmps97
  go_wp2_with fail
  refine (reduceRows_any p HP.out _ n1 _ q rows _ (by exact HA.out.alloc _) HL.out HR.out h1 hn).mono ?_
  rintro e w1 ⟨R, a', c', rfl, hres, ho, hb⟩
  have HO := Lib.hid ho
  have HRes := Lib.hid hres
  have HB := Lib.hid (below_al1 hb)
  obtain ⟨hc, hf⟩ := bcell hb
  have hz : w.heap.size < w1.heap.size := by have := hb.size; simp at this; omega
  clear ho hb hres
  go_wp2_with fail
  refine bodyPost_ret (v := .agg #[.int .i64 p, .int .i64 q, .slice a' R.length c']) (by simp [results, Try.results97, go_sem, hc, hz]) rfl ⟨R, a', c', rfl, HRes.out, ?_, ?_⟩
  · refine MadeH.mono (B := w.heap.size + 1) ?_ (by omega)
    exact (((HO.out.mono (by simp)).setLow _ (by first | (simp; done) | (simp; omega)) _).setLow _ (by first | (simp; done) | (simp; omega)) _).setLow _ (by first | (simp; done) | (simp; omega)) _
  · exact (((HB.out.setCell (by first | (simp; done) | (simp; omega)) _).setCell (by first | (simp; done) | (simp; omega)) _).setCell (by first | (simp; done) | (simp; omega)) _)
set_option maxHeartbeats 1000000 in
theorem reduced_any (p : Int) (hp : GP p) (q : Nat) (a : Option Addr) (n1 c1 : Nat) (rows : List (List Int)) (w : World) (ha : RdR w a rows) (hl : rows.length = n1) (hr : Rws p q rows) (h1 : n1 ≤ 100) (hn : q ≤ 100) :
    Calls Try.prog 69 #[.agg #[.int .i64 p, .int .i64 q, .slice a n1 c1]] w fun e w' => ∃ (R : List (List Int)) (a' : Option Addr) (c' : Nat), e = .returned (.agg #[.int .i64 p, .int .i64 q, .slice a' R.length c']) ∧ IsRref p q rows R ∧ MadeH 2 w' w.heap.size a' R.length c' R ∧ Below w.heap.size w w' := by
  have HP := Lib.hid hp
  have HA := Lib.hid ha
  have HL := Lib.hid hl
  have HR := Lib.hid hr
  clear hp ha hl hr
  go_enter Try.func69, Try.ntmps69
  go_wp2_with fail
  refine (spanOf_any p HP.out q _ n1 _ rows _ (by exact (HA.out.alloc _).alloc _) HL.out HR.out h1 hn).mono ?_
  rintro e w1 ⟨R, a', c', rfl, hres, ho, hb⟩
  have HO := Lib.hid ho
  have HRes := Lib.hid hres
  have HB := Lib.hid (below_al2 hb)
  obtain ⟨hc, hf⟩ := bcell hb
  have hz : w.heap.size + 1 < w1.heap.size := by have := hb.size; simp at this; omega
  clear ho hb hres
  go_wp2_with fail
  refine bodyPost_ret (v := .agg #[.int .i64 p, .int .i64 q, .slice a' R.length c']) (by simp [results, Try.results69, go_sem, hc, hz]) rfl ⟨R, a', c', rfl, HRes.out, ?_, ?_⟩
  · refine MadeH.mono (B := w.heap.size + 2) ?_ (by omega)
    exact (((HO.out.mono (by simp)).setLow _ (by first | (simp; done) | (simp; omega)) _).setLow _ (by first | (simp; done) | (simp; omega)) _).setLow _ (by first | (simp; done) | (simp; omega)) _
  · exact (((HB.out.setCell (by first | (simp; done) | (simp; omega)) _).setCell (by first | (simp; done) | (simp; omega)) _).setCell (by first | (simp; done) | (simp; omega)) _)
def res_ReduceRows (xss : List (List Int)) (p q P Q : Int) (R : List (List Int)) (d : Int) : Prop :=
  (isMx xss p q = true ∧ P = p ∧ Q = q ∧ d = 0 ∧ IsRref p q.toNat xss R) ∨ (isMx xss p q = false ∧ (P, Q, R, d) = mvBad 1)
theorem res_ReduceRows_uniq {xss : List (List Int)} {p q P1 Q1 P2 Q2 d1 d2 : Int} {R1 R2 : List (List Int)} (h : res_ReduceRows xss p q P1 Q1 R1 d1) (k : res_ReduceRows xss p q P2 Q2 R2 d2) : P1 = P2 ∧ Q1 = Q2 ∧ R1 = R2 ∧ d1 = d2 := by
  rcases h with ⟨h0, h1, h2, h3, h4⟩ | ⟨h0, h⟩ <;> rcases k with ⟨k0, k1, k2, k3, k4⟩ | ⟨k0, k⟩
  · exact ⟨by rw [h1, k1], by rw [h2, k2], h4.unique k4 (isMx_ok h0).gp.bd.1, by rw [h3, k3]⟩
  · rw [h0] at k0; cases k0
  · rw [h0] at k0; cases k0
  · exact mv_uniq h k
theorem res_ReduceRows_small {xss : List (List Int)} {p q P Q d : Int} {R : List (List Int)} (h : res_ReduceRows xss p q P Q R d) : R.length ≤ 1048576 ∧ ∀ i, i < R.length → (rw_ R i).length ≤ 1048576 := by
  rcases h with ⟨h0, _, _, _, h4⟩ | ⟨_, h⟩
  · have := (isMx_ok h0).q8
    exact h4.sm (by omega)
  · simp only [mvBad, Prod.mk.injEq] at h
    rw [h.2.2.1]
    exact ⟨by simp, fun i hi => absurd hi (by simp)⟩
set_option maxRecDepth 20000 in
set_option maxHeartbeats 4000000 in
theorem impl_ReduceRows_any (p q : Int) (a : Option Addr) (n c : Nat) (xss : List (List Int)) (w : World) (hp : I64 p) (hq : I64 q) (ha : RdR w a xss) (hl : xss.length = n) (hx : ∀ i, i < n → (rw_ xss i).length ≤ 1048576) (hn : n ≤ 1048576) (hcp : n ≤ c) :
    Calls Try.prog 31 #[.agg #[.int .i64 p, .int .i64 q, .slice a n c]] w fun e w' => ∃ (P Q : Int) (R : List (List Int)) (d : Int) (a' : Option Addr) (c' : Nat), e = .returned (.tuple #[.agg #[.int .i64 P, .int .i64 Q, .slice a' R.length c'], .int .i64 d]) ∧ res_ReduceRows xss p q P Q R d ∧ MadeH 2 w' w.heap.size a' R.length c' R ∧ Below w.heap.size w w' := by
  have HP := Lib.hid hp
  have HQ := Lib.hid hq
  have HA := Lib.hid ha
  have HL := Lib.hid hl
  have HX := Lib.hid hx
  clear hp hq ha hl hx
  cases hv : isMx xss p q
  · have HR : Hid (res_ReduceRows xss p q 0 0 [] 1) := Lib.hid (.inr ⟨hv, rfl⟩)
    go_enter Try.func31, Try.ntmps31
    go_wp2_with fail
    refine (impl_IsMatrix_any _ _ _ _ _ xss _ HP.out HQ.out (by exact (HA.out.alloc _).alloc _) HL.out HX.out hn hcp).mono ?_
    rintro e w1 ⟨rfl, hb⟩
    have X0 : Hid (BX 24 w1 w.heap.size #[.int .i64 p, .int .i64 q, .slice a n c]) := Lib.hid (((BX.new w _ _).alloc _).keep hb)
    have X1 : Hid (BX 24 w1 (w.heap.size + 1) #[.int .i64 0, .int .i64 0, .slice none 0 0]) := Lib.hid ((BX.newAt (by simp)).keep hb)
    have HB1 : Hid (Below w.heap.size w w1) := Lib.hid (below_al2 hb)
    have s1 : w.heap.size + 2 ≤ w1.heap.size := by have := hb.size; simp at this; omega
    clear hb
    have p0 : w1.cell? ⟨w.heap.size, 0, none⟩ = some (.int .i64 p) := X0.out.cell 0
    have p1 : w1.cell? ⟨w.heap.size, 1, none⟩ = some (.int .i64 q) := X0.out.cell 1
    have p2 : w1.cell? ⟨w.heap.size, 2, none⟩ = some (.slice a n c) := X0.out.cell 2
    have y0 : w1.cell? ⟨w.heap.size + 1, 0, none⟩ = some (.int .i64 0) := X1.out.cell 0
    have y1 : w1.cell? ⟨w.heap.size + 1, 1, none⟩ = some (.int .i64 0) := X1.out.cell 1
    have y2 : w1.cell? ⟨w.heap.size + 1, 2, none⟩ = some (.slice none 0 0) := X1.out.cell 2
    have f0 := X1.out.frz 0
    have f1 := X1.out.frz 1
    have f2 := X1.out.frz 2
    go_wp2_with fail
    refine bodyPost_ret (v := .tuple #[.agg #[.int .i64 0, .int .i64 0, .slice none 0 0], .int .i64 1]) (by simp [results, Try.results31, go_sem, y0, y1, y2]) rfl ⟨0, 0, [], 1, none, 0, rfl, HR.out, MadeH.none, ?_⟩
    exact (((HB1.out.setCell (by first | (simp; done) | (simp; omega)) _).setCell (by first | (simp; done) | (simp; omega)) _).setCell (by first | (simp; done) | (simp; omega)) _)
  · have hm := isMx_ok hv
    have q0 := hm.q0
    have q8 := hm.q8
    have hl8 := hm.len
    rw [HL.out] at hl8
    have HV := Lib.hid hv
    obtain ⟨m, rfl⟩ : ∃ m : Nat, q = m := ⟨q.toNat, by omega⟩
    have HM := Lib.hid hm
    have HRW : Hid (Rws p m xss) := Lib.hid hm.rws
    clear hm
    go_enter Try.func31, Try.ntmps31
    go_wp2_with fail
    refine (impl_IsMatrix_any _ _ _ _ _ xss _ HP.out HQ.out (by exact (HA.out.alloc _).alloc _) HL.out HX.out hn hcp).mono ?_
    rintro e w1 ⟨rfl, hb⟩
    have X0 : Hid (BX 24 w1 w.heap.size #[.int .i64 p, .int .i64 m, .slice a n c]) := Lib.hid (((BX.new w _ _).alloc _).keep hb)
    have X1 : Hid (BX 24 w1 (w.heap.size + 1) #[.int .i64 0, .int .i64 0, .slice none 0 0]) := Lib.hid ((BX.newAt (by simp)).keep hb)
    have HB1 : Hid (Below w.heap.size w w1) := Lib.hid (below_al2 hb)
    have s1 : w.heap.size + 2 ≤ w1.heap.size := by have := hb.size; simp at this; omega
    clear hb
    have p0 : w1.cell? ⟨w.heap.size, 0, none⟩ = some (.int .i64 p) := X0.out.cell 0
    have p1 : w1.cell? ⟨w.heap.size, 1, none⟩ = some (.int .i64 m) := X0.out.cell 1
    have p2 : w1.cell? ⟨w.heap.size, 2, none⟩ = some (.slice a n c) := X0.out.cell 2
    have y0 : w1.cell? ⟨w.heap.size + 1, 0, none⟩ = some (.int .i64 0) := X1.out.cell 0
    have y1 : w1.cell? ⟨w.heap.size + 1, 1, none⟩ = some (.int .i64 0) := X1.out.cell 1
    have y2 : w1.cell? ⟨w.heap.size + 1, 2, none⟩ = some (.slice none 0 0) := X1.out.cell 2
    have f0 := X1.out.frz 0
    have f1 := X1.out.frz 1
    have f2 := X1.out.frz 2
    go_wp2_with fail
    refine (reduced_any p HM.out.gp m _ _ _ xss _ (by exact HA.out.keep HB1.out (Nat.le_refl _)) HL.out HRW.out (by omega) (by omega)).mono ?_
    rintro e w2 ⟨R, a', c', rfl, hres, ho, hb⟩
    have HO := Lib.hid ho
    have HR : Hid (res_ReduceRows xss p m p m R 0) := Lib.hid (.inl ⟨HV.out, rfl, rfl, rfl, by simpa using hres⟩)
    clear p0 p1 p2 y0 y1 y2 f0 f1 f2
    replace X0 : Hid (BX 24 w2 w.heap.size #[.int .i64 p, .int .i64 m, .slice a n c]) := Lib.hid (X0.out.keep hb)
    replace X1 : Hid (BX 24 w2 (w.heap.size + 1) #[.int .i64 0, .int .i64 0, .slice none 0 0]) := Lib.hid (X1.out.keep hb)
    have HB2 : Hid (Below w.heap.size w w2) := Lib.hid (HB1.out.trans (hb.mono HB1.out.size))
    have p0 : w2.cell? ⟨w.heap.size, 0, none⟩ = some (.int .i64 p) := X0.out.cell 0
    have p1 : w2.cell? ⟨w.heap.size, 1, none⟩ = some (.int .i64 m) := X0.out.cell 1
    have p2 : w2.cell? ⟨w.heap.size, 2, none⟩ = some (.slice a n c) := X0.out.cell 2
    have y0 : w2.cell? ⟨w.heap.size + 1, 0, none⟩ = some (.int .i64 0) := X1.out.cell 0
    have y1 : w2.cell? ⟨w.heap.size + 1, 1, none⟩ = some (.int .i64 0) := X1.out.cell 1
    have y2 : w2.cell? ⟨w.heap.size + 1, 2, none⟩ = some (.slice none 0 0) := X1.out.cell 2
    have f0 := X1.out.frz 0
    have f1 := X1.out.frz 1
    have f2 := X1.out.frz 2
    clear ho hb hres
    go_wp2_with fail
    refine bodyPost_ret (v := .tuple #[.agg #[.int .i64 (p), .int .i64 (m), .slice a' R.length c'], .int .i64 0]) (by simp [results, Try.results31, go_sem, y0, y1, y2]) rfl ⟨p, m, R, 0, a', c', rfl, HR.out, ?_, ?_⟩
    · refine MadeH.mono (B := w1.heap.size) ?_ (by omega)
      exact (((HO.out).setLow _ (by first | (simp; done) | (simp; omega)) _).setLow _ (by first | (simp; done) | (simp; omega)) _).setLow _ (by first | (simp; done) | (simp; omega)) _
    · exact (((HB2.out.setCell (by first | (simp; done) | (simp; omega)) _).setCell (by first | (simp; done) | (simp; omega)) _).setCell (by first | (simp; done) | (simp; omega)) _)
set_option maxRecDepth 20000 in
set_option maxHeartbeats 4000000 in
theorem spec_ReduceRows_any (p q : Int) (a : Option Addr) (n c : Nat) (xss : List (List Int)) (w : World) (hp : I64 p) (hq : I64 q) (ha : RdR w a xss) (hl : xss.length = n) (hx : ∀ i, i < n → (rw_ xss i).length ≤ 1048576) (hn : n ≤ 1048576) (hcp : n ≤ c) :
    Calls Try.prog 30 #[.agg #[.int .i64 p, .int .i64 q, .slice a n c]] w fun e w' => ∃ (P Q : Int) (R : List (List Int)) (d : Int) (a' : Option Addr) (c' : Nat), e = .returned (.tuple #[.agg #[.int .i64 P, .int .i64 Q, .slice a' R.length c'], .int .i64 d]) ∧ res_ReduceRows xss p q P Q R d ∧ MadeH 2 w' w.heap.size a' R.length c' R ∧ Below w.heap.size w w' := by
  have HP := Lib.hid hp
  have HQ := Lib.hid hq
  have HA := Lib.hid ha
  have HL := Lib.hid hl
  have HX := Lib.hid hx
  clear hp hq ha hl hx
  cases hv : isMx xss p q
  · have HR : Hid (res_ReduceRows xss p q 0 0 [] 1) := Lib.hid (.inr ⟨hv, rfl⟩)
    go_enter Try.func30, Try.ntmps30
    go_wp2_with fail
    refine (spec_IsMatrix_any _ _ _ _ _ xss _ HP.out HQ.out (by exact (HA.out.alloc _).alloc _) HL.out HX.out hn hcp).mono ?_
    rintro e w1 ⟨rfl, hb⟩
    have X0 : Hid (BX 24 w1 w.heap.size #[.int .i64 p, .int .i64 q, .slice a n c]) := Lib.hid (((BX.new w _ _).alloc _).keep hb)
    have X1 : Hid (BX 24 w1 (w.heap.size + 1) #[.int .i64 0, .int .i64 0, .slice none 0 0]) := Lib.hid ((BX.newAt (by simp)).keep hb)
    have HB1 : Hid (Below w.heap.size w w1) := Lib.hid (below_al2 hb)
    have s1 : w.heap.size + 2 ≤ w1.heap.size := by have := hb.size; simp at this; omega
    clear hb
    have p0 : w1.cell? ⟨w.heap.size, 0, none⟩ = some (.int .i64 p) := X0.out.cell 0
    have p1 : w1.cell? ⟨w.heap.size, 1, none⟩ = some (.int .i64 q) := X0.out.cell 1
    have p2 : w1.cell? ⟨w.heap.size, 2, none⟩ = some (.slice a n c) := X0.out.cell 2
    have y0 : w1.cell? ⟨w.heap.size + 1, 0, none⟩ = some (.int .i64 0) := X1.out.cell 0
    have y1 : w1.cell? ⟨w.heap.size + 1, 1, none⟩ = some (.int .i64 0) := X1.out.cell 1
    have y2 : w1.cell? ⟨w.heap.size + 1, 2, none⟩ = some (.slice none 0 0) := X1.out.cell 2
    have f0 := X1.out.frz 0
    have f1 := X1.out.frz 1
    have f2 := X1.out.frz 2
    go_wp2_with fail
    refine bodyPost_ret (v := .tuple #[.agg #[.int .i64 0, .int .i64 0, .slice none 0 0], .int .i64 1]) (by simp [results, Try.results30, go_sem, y0, y1, y2]) rfl ⟨0, 0, [], 1, none, 0, rfl, HR.out, MadeH.none, ?_⟩
    exact (((HB1.out.setCell (by first | (simp; done) | (simp; omega)) _).setCell (by first | (simp; done) | (simp; omega)) _).setCell (by first | (simp; done) | (simp; omega)) _)
  · have hm := isMx_ok hv
    have q0 := hm.q0
    have q8 := hm.q8
    have hl8 := hm.len
    rw [HL.out] at hl8
    have HV := Lib.hid hv
    obtain ⟨m, rfl⟩ : ∃ m : Nat, q = m := ⟨q.toNat, by omega⟩
    have HM := Lib.hid hm
    have HRW : Hid (Rws p m xss) := Lib.hid hm.rws
    clear hm
    go_enter Try.func30, Try.ntmps30
    go_wp2_with fail
    refine (spec_IsMatrix_any _ _ _ _ _ xss _ HP.out HQ.out (by exact (HA.out.alloc _).alloc _) HL.out HX.out hn hcp).mono ?_
    rintro e w1 ⟨rfl, hb⟩
    have X0 : Hid (BX 24 w1 w.heap.size #[.int .i64 p, .int .i64 m, .slice a n c]) := Lib.hid (((BX.new w _ _).alloc _).keep hb)
    have X1 : Hid (BX 24 w1 (w.heap.size + 1) #[.int .i64 0, .int .i64 0, .slice none 0 0]) := Lib.hid ((BX.newAt (by simp)).keep hb)
    have HB1 : Hid (Below w.heap.size w w1) := Lib.hid (below_al2 hb)
    have s1 : w.heap.size + 2 ≤ w1.heap.size := by have := hb.size; simp at this; omega
    clear hb
    have p0 : w1.cell? ⟨w.heap.size, 0, none⟩ = some (.int .i64 p) := X0.out.cell 0
    have p1 : w1.cell? ⟨w.heap.size, 1, none⟩ = some (.int .i64 m) := X0.out.cell 1
    have p2 : w1.cell? ⟨w.heap.size, 2, none⟩ = some (.slice a n c) := X0.out.cell 2
    have y0 : w1.cell? ⟨w.heap.size + 1, 0, none⟩ = some (.int .i64 0) := X1.out.cell 0
    have y1 : w1.cell? ⟨w.heap.size + 1, 1, none⟩ = some (.int .i64 0) := X1.out.cell 1
    have y2 : w1.cell? ⟨w.heap.size + 1, 2, none⟩ = some (.slice none 0 0) := X1.out.cell 2
    have f0 := X1.out.frz 0
    have f1 := X1.out.frz 1
    have f2 := X1.out.frz 2
    have HAo : Hid (RdR w1 a xss) := Lib.hid (HA.out.keep HB1.out (Nat.le_refl _))
    go_wp2_with fail
    go_region_held3 (fun w' => w'.cell? ⟨w.heap.size, 0, none⟩ = some (.int .i64 p) ∧ w'.cell? ⟨w.heap.size, 1, none⟩ = some (.int .i64 m) ∧ w'.cell? ⟨w.heap.size, 2, none⟩ = some (.slice a n c)) (go_keep)
      (first
        | (go_at_call 67; (with_reducible refine (l02Reduce_any p HM.out.gp _ n _ m xss _ ?_ HL.out HRW.out (by omega) (by omega)).mono ?_); exact (show RdR w1 a xss from HAo.out); rintro e w2 ⟨R, aR, cR, rfl, hres, ho, hb0⟩; have hb : Below w1.heap.size w1 w2 := ⟨hb0.os, hb0.tape, hb0.output, hb0.size, hb0.block⟩; have X0' : Hid (BX 24 w2 w.heap.size #[.int .i64 p, .int .i64 m, .slice a n c]) := Lib.hid (X0.out.keep hb); have X1' : Hid (BX 24 w2 (w.heap.size + 1) #[.int .i64 0, .int .i64 0, .slice none 0 0]) := Lib.hid (X1.out.keep hb); have p0' : w2.cell? ⟨w.heap.size, 0, none⟩ = some (.int .i64 p) := X0'.out.cell 0; have p1' : w2.cell? ⟨w.heap.size, 1, none⟩ = some (.int .i64 m) := X0'.out.cell 1; have p2' : w2.cell? ⟨w.heap.size, 2, none⟩ = some (.slice a n c) := X0'.out.cell 2; have y0' : w2.cell? ⟨w.heap.size + 1, 0, none⟩ = some (.int .i64 0) := X1'.out.cell 0; have y1' : w2.cell? ⟨w.heap.size + 1, 1, none⟩ = some (.int .i64 0) := X1'.out.cell 1; have y2' : w2.cell? ⟨w.heap.size + 1, 2, none⟩ = some (.slice none 0 0) := X1'.out.cell 2; have f0' := X1'.out.frz 0; have f1' := X1'.out.frz 1; have f2' := X1'.out.frz 2; have HB2 : Hid (Below w.heap.size w w2) := Lib.hid (HB1.out.trans (hb.mono HB1.out.size)); have s12 := hb.size; have HRD := Lib.hid ho; have HRes := Lib.hid hres; have hsm := (IsRref.sm hres (by omega)).1; have HSM := Lib.hid (IsRref.sm hres (by omega)).2; clear ho hb hb0 hres)
        | (go_at_call 50; (with_reducible refine (l02Make_any _ _ _ _ _ R _ ?_ rfl HSM.out hsm).mono ?_); exact HRD.out; rintro e w3 ⟨a', c', rfl, ho, hb⟩; have X0'' : Hid (BX 24 w3 w.heap.size #[.int .i64 p, .int .i64 m, .slice a n c]) := Lib.hid (X0'.out.keep hb); have X1'' : Hid (BX 24 w3 (w.heap.size + 1) #[.int .i64 0, .int .i64 0, .slice none 0 0]) := Lib.hid (X1'.out.keep hb); have p0'' : w3.cell? ⟨w.heap.size, 0, none⟩ = some (.int .i64 p) := X0''.out.cell 0; have p1'' : w3.cell? ⟨w.heap.size, 1, none⟩ = some (.int .i64 m) := X0''.out.cell 1; have p2'' : w3.cell? ⟨w.heap.size, 2, none⟩ = some (.slice a n c) := X0''.out.cell 2; have y0'' : w3.cell? ⟨w.heap.size + 1, 0, none⟩ = some (.int .i64 0) := X1''.out.cell 0; have y1'' : w3.cell? ⟨w.heap.size + 1, 1, none⟩ = some (.int .i64 0) := X1''.out.cell 1; have y2'' : w3.cell? ⟨w.heap.size + 1, 2, none⟩ = some (.slice none 0 0) := X1''.out.cell 2; have f0'' := X1''.out.frz 0; have f1'' := X1''.out.frz 1; have f2'' := X1''.out.frz 2; have HB3 : Hid (Below w.heap.size w w3) := Lib.hid (HB2.out.trans (hb.mono HB2.out.size)); have HO := Lib.hid ho; clear ho hb))
    have HR : Hid (res_ReduceRows xss p m p m R 0) := Lib.hid (.inl ⟨HV.out, rfl, rfl, rfl, by simpa using HRes.out⟩)
    go_wp2_with fail
    refine bodyPost_ret (v := .tuple #[.agg #[.int .i64 (p), .int .i64 (m), .slice a' R.length c'], .int .i64 0]) (by simp [results, Try.results30, go_sem, y0'', y1'', y2'']) rfl ⟨p, m, R, 0, a', c', rfl, HR.out, ?_, ?_⟩
    · refine MadeH.mono (B := w2.heap.size) ?_ (by omega)
      exact (((HO.out.has).setLow _ (by first | (simp; done) | (simp; omega)) _).setLow _ (by first | (simp; done) | (simp; omega)) _).setLow _ (by first | (simp; done) | (simp; omega)) _
    · exact (((HB3.out.setCell (by first | (simp; done) | (simp; omega)) _).setCell (by first | (simp; done) | (simp; omega)) _).setCell (by first | (simp; done) | (simp; omega)) _)
end Go.Proofs.Ytngikcjdhbflkaa
