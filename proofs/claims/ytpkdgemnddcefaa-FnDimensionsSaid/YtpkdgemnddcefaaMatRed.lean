/- The reduced form of a matrix: the program and the reference. -/
import Derived.Test.YtpkdgemnddcefaaRedS3
import Derived.Test.YtpkdgemnddcefaaMatTr
import Derived.Deep.RegionHeld3
set_option linter.unusedVariables false
set_option linter.unusedSimpArgs false
namespace Go.Proofs.Ytpkdgemnddcefaa
open Go.RowKit

theorem MxOk.rws {xss : List (List Int)} {p : Int} {q : Nat} (h : MxOk xss p q) : Rws p q xss :=
  ⟨fun i hi => by have := (h.row i hi).1; omega, fun i j hi hj => by have h1 := (h.row i hi).1; have := (h.row i hi).2 j (by omega); omega⟩
theorem IsRref.rws {p : Int} {n : Nat} {rows R : List (List Int)} (h : IsRref p n rows R) : Rws p n R := ⟨h.row, h.rng⟩
theorem IsRref.sm {p : Int} {n : Nat} {rows R : List (List Int)} (h : IsRref p n rows R) (hn : n ≤ 100) : R.length ≤ 1048576 ∧ ∀ i, i < R.length → (rw_ R i).length ≤ 1048576 := by
  have := h.len
  exact ⟨by omega, fun i hi => by rw [h.row i hi]; omega⟩
set_option maxHeartbeats 1000000 in
theorem spanOf_any (p : Int) (hp : GP p) (q : Nat) (a : Option Addr) (n1 c1 : Nat) (rows : List (List Int)) (w : World) (ha : RdR w a rows) (hl : rows.length = n1) (hr : Rws p q rows) (h1 : n1 ≤ 100) (hn : q ≤ 100) :
    Calls Try.prog 48 #[.int .i64 p, .int .i64 q, .slice a n1 c1] w fun e w' => ∃ (R : List (List Int)) (a' : Option Addr) (c' : Nat), e = .returned (.agg #[.int .i64 p, .int .i64 q, .slice a' R.length c']) ∧ IsRref p q rows R ∧ MadeH 2 w' w.heap.size a' R.length c' R ∧ Below w.heap.size w w' := by
  have HP := Lib.hid hp
  have HA := Lib.hid ha
  have HL := Lib.hid hl
  have HR := Lib.hid hr
  clear hp ha hl hr
  go_enter Try.func48, Try.ntmps48
  go_wp2_with fail
  refine (reduceRows_any p HP.out _ n1 _ q rows _ (by exact HA.out.alloc _) HL.out HR.out h1 hn).mono ?_
  rintro e w1 ⟨R, a', c', rfl, hres, ho, hb⟩
  have HO := Lib.hid ho
  have HRes := Lib.hid hres
  have HB := Lib.hid (below_al1 hb)
  obtain ⟨hc, hf⟩ := bcell hb
  have hz : w.heap.size < w1.heap.size := by have := hb.size; simp at this; omega
  clear ho hb hres
  go_wp2_with fail
  refine bodyPost_ret (v := .agg #[.int .i64 p, .int .i64 q, .slice a' R.length c']) (by simp [results, Try.results48, go_sem, hc, hz]) rfl ⟨R, a', c', rfl, HRes.out, ?_, ?_⟩
  · refine MadeH.mono (B := w.heap.size + 1) ?_ (by omega)
    exact (((HO.out.mono (by simp)).setLow _ (by first | (simp; done) | (simp; omega)) _).setLow _ (by first | (simp; done) | (simp; omega)) _).setLow _ (by first | (simp; done) | (simp; omega)) _
  · exact (((HB.out.setCell (by first | (simp; done) | (simp; omega)) _).setCell (by first | (simp; done) | (simp; omega)) _).setCell (by first | (simp; done) | (simp; omega)) _)
set_option maxHeartbeats 1000000 in
theorem reduced_any (p : Int) (hp : GP p) (q : Nat) (a : Option Addr) (n1 c1 : Nat) (rows : List (List Int)) (w : World) (ha : RdR w a rows) (hl : rows.length = n1) (hr : Rws p q rows) (h1 : n1 ≤ 100) (hn : q ≤ 100) :
    Calls Try.prog 31 #[.agg #[.int .i64 p, .int .i64 q, .slice a n1 c1]] w fun e w' => ∃ (R : List (List Int)) (a' : Option Addr) (c' : Nat), e = .returned (.agg #[.int .i64 p, .int .i64 q, .slice a' R.length c']) ∧ IsRref p q rows R ∧ MadeH 2 w' w.heap.size a' R.length c' R ∧ Below w.heap.size w w' := by
  have HP := Lib.hid hp
  have HA := Lib.hid ha
  have HL := Lib.hid hl
  have HR := Lib.hid hr
  clear hp ha hl hr
  go_enter Try.func31, Try.ntmps31
  go_wp2_with fail
  refine (spanOf_any p HP.out q _ n1 _ rows _ (by exact (HA.out.alloc _).alloc _) HL.out HR.out h1 hn).mono ?_
  rintro e w1 ⟨R, a', c', rfl, hres, ho, hb⟩
  have HO := Lib.hid ho
  have HRes := Lib.hid hres
  have HB := Lib.hid (below_al2 hb)
  obtain ⟨hc, hf⟩ := bcell hb
  have hz : w.heap.size + 1 < w1.heap.size := by have := hb.size; simp at this; omega
  clear ho hb hres
  go_wp2_with fail
  refine bodyPost_ret (v := .agg #[.int .i64 p, .int .i64 q, .slice a' R.length c']) (by simp [results, Try.results31, go_sem, hc, hz]) rfl ⟨R, a', c', rfl, HRes.out, ?_, ?_⟩
  · refine MadeH.mono (B := w.heap.size + 2) ?_ (by omega)
    exact (((HO.out.mono (by simp)).setLow _ (by first | (simp; done) | (simp; omega)) _).setLow _ (by first | (simp; done) | (simp; omega)) _).setLow _ (by first | (simp; done) | (simp; omega)) _
  · exact (((HB.out.setCell (by first | (simp; done) | (simp; omega)) _).setCell (by first | (simp; done) | (simp; omega)) _).setCell (by first | (simp; done) | (simp; omega)) _)
def res_ReduceRows (xss : List (List Int)) (p q P Q : Int) (R : List (List Int)) (d : Int) : Prop :=
  (isMx xss p q = true ∧ P = p ∧ Q = q ∧ d = 0 ∧ IsRref p q.toNat xss R) ∨ (isMx xss p q = false ∧ (P, Q, R, d) = mvBad 1)
theorem res_ReduceRows_uniq {xss : List (List Int)} {p q P1 Q1 P2 Q2 d1 d2 : Int} {R1 R2 : List (List Int)} (h : res_ReduceRows xss p q P1 Q1 R1 d1) (k : res_ReduceRows xss p q P2 Q2 R2 d2) : P1 = P2 ∧ Q1 = Q2 ∧ R1 = R2 ∧ d1 = d2 := by
  rcases h with ⟨h0, h1, h2, h3, h4⟩ | ⟨h0, h⟩ <;> rcases k with ⟨k0, k1, k2, k3, k4⟩ | ⟨k0, k⟩
  · exact ⟨by rw [h1, k1], by rw [h2, k2], h4.unique k4 (isMx_ok h0).gp.bd.1, by rw [h3, k3]⟩
  · rw [h0] at k0; cases k0
  · rw [h0] at k0; cases k0
  · exact mv_uniq h k
theorem res_ReduceRows_small {xss : List (List Int)} {p q P Q d : Int} {R : List (List Int)} (h : res_ReduceRows xss p q P Q R d) : R.length ≤ 1048576 ∧ ∀ i, i < R.length → (rw_ R i).length ≤ 1048576 := by
  rcases h with ⟨h0, _, _, _, h4⟩ | ⟨_, h⟩
  · have := (isMx_ok h0).q8
    exact h4.sm (by omega)
  · simp only [mvBad, Prod.mk.injEq] at h
    rw [h.2.2.1]
    exact ⟨by simp, fun i hi => absurd hi (by simp)⟩
end Go.Proofs.Ytpkdgemnddcefaa
