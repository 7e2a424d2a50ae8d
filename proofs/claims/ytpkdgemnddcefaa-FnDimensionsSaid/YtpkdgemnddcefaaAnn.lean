/- Annihilators of subspaces: the program and the reference. -/
import Derived.Test.YtpkdgemnddcefaaNullW
import Derived.Test.YtpkdgemnddcefaaMatRed
import Derived.Deep.RegionHeld3
import Derived.Test.YtpkdgemnddcefaaMatHas
import Derived.Test.YtpkdgemnddcefaaCellN
import Derived.Test.YtpkdgemnddcefaaInvM
set_option linter.unusedVariables false
set_option linter.unusedSimpArgs false
namespace Go.Proofs.Ytpkdgemnddcefaa
open Go.RowKit

def res_LeftKernel (xss : List (List Int)) (p q P Q : Int) (R : List (List Int)) (d : Int) : Prop :=
  (isMx xss p q = true ∧ P = p ∧ Q = xss.length ∧ d = 0 ∧ NullR p q.toNat xss R) ∨ (isMx xss p q = false ∧ (P, Q, R, d) = mvBad 1)
theorem res_LeftKernel_uniq {xss : List (List Int)} {p q P1 Q1 P2 Q2 d1 d2 : Int} {R1 R2 : List (List Int)} (h : res_LeftKernel xss p q P1 Q1 R1 d1) (k : res_LeftKernel xss p q P2 Q2 R2 d2) : P1 = P2 ∧ Q1 = Q2 ∧ R1 = R2 ∧ d1 = d2 := by
  rcases h with ⟨h0, h1, h2, h3, h4⟩ | ⟨h0, h⟩ <;> rcases k with ⟨k0, k1, k2, k3, k4⟩ | ⟨k0, k⟩
  · exact ⟨by rw [h1, k1], by rw [h2, k2], h4.unique k4 (isMx_ok h0).gp.bd.1, by rw [h3, k3]⟩
  · rw [h0] at k0; cases k0
  · rw [h0] at k0; cases k0
  · exact mv_uniq h k
theorem res_LeftKernel_small {xss : List (List Int)} {p q P Q d : Int} {R : List (List Int)} (h : res_LeftKernel xss p q P Q R d) : R.length ≤ 1048576 ∧ ∀ i, i < R.length → (rw_ R i).length ≤ 1048576 := by
  rcases h with ⟨h0, _, _, _, h4⟩ | ⟨_, h⟩
  · have := (isMx_ok h0).len
    exact h4.rref.sm (by omega)
  · simp only [mvBad, Prod.mk.injEq] at h
    rw [h.2.2.1]
    exact ⟨by simp, fun i hi => absurd hi (by simp)⟩
end Go.Proofs.Ytpkdgemnddcefaa
set_option linter.unusedVariables false
set_option linter.unusedSimpArgs false
namespace Go.Proofs.Ytpkdgemnddcefaa
open Go.RowKit

theorem colsR_rws {xss : List (List Int)} {p : Int} {m n : Nat} (h : Rws p m xss) (hl : xss.length = n) : Rws p n (colsR xss m) := by
  subst hl
  refine ⟨fun i hi => ?_, fun i j hi hj => ?_⟩
  · rw [colsR_len] at hi
    rw [colsR_row hi, colR_len]
  · rw [colsR_len] at hi
    rw [colsR_row hi]
    unfold colR
    rw [el_tab hj]
    exact h.rng j i hj hi
set_option maxRecDepth 20000 in
set_option maxHeartbeats 4000000 in
theorem annihilator_any (p : Int) (hp : GP p) (m : Nat) (a : Option Addr) (n c : Nat) (xss : List (List Int)) (w : World) (ha : RdR w a xss) (hl : xss.length = n) (hr : Rws p m xss) (hn : n ≤ 50) (hm : m ≤ 50) :
    Calls Try.prog 23 #[.agg #[.int .i64 p, .int .i64 m, .slice a n c]] w fun e w' => ∃ (N : List (List Int)) (a' : Option Addr) (c' : Nat), e = .returned (.agg #[.int .i64 p, .int .i64 m, .slice a' N.length c']) ∧ NullR p n (colsR xss m) N ∧ MadeH 2 w' w.heap.size a' N.length c' N ∧ Below w.heap.size w w' := by
  have HP := Lib.hid hp
  have HA := Lib.hid ha
  have HL := Lib.hid hl
  have HR := Lib.hid hr
  clear hp ha hl hr
  go_enter Try.func23, Try.ntmps23
  go_wp2_with fail
  refine (transposed_any p m _ n _ xss _ (by exact (HA.out.alloc _).alloc _) HL.out (fun i hi => HR.out.row i (by rw [HL.out]; exact hi)) (by omega) (by omega)).mono ?_
  rintro e w1 ⟨at1, ct1, rfl, ho, hb⟩
  have X0 : Hid (BX 26 w1 w.heap.size #[.int .i64 p, .int .i64 m, .slice a n c]) := Lib.hid (((BX.new w _ _).alloc _).keep hb)
  have X1 : Hid (BX 26 w1 (w.heap.size + 1) #[.int .i64 0, .int .i64 0, .slice none 0 0]) := Lib.hid ((BX.newAt (by simp)).keep hb)
  have HB1 : Hid (Below w.heap.size w w1) := Lib.hid (below_al2 hb)
  have s1 : w.heap.size + 2 ≤ w1.heap.size := by have := hb.size; simp at this; omega
  have HT1 := Lib.hid ho.rd
  clear ho hb
  go_wp2_with fail
  obtain ⟨W, hW⟩ : ∃ W, W = w1.alloc (.cells #[.int .i64 p, .int .i64 n, .slice at1 m ct1] 26) := ⟨_, rfl⟩
  rw [← hW]
  replace X0 : Hid (BX 26 W w.heap.size #[.int .i64 p, .int .i64 m, .slice a n c]) := Lib.hid (by rw [hW]; exact X0.out.alloc _)
  replace X1 : Hid (BX 26 W (w.heap.size + 1) #[.int .i64 0, .int .i64 0, .slice none 0 0]) := Lib.hid (by rw [hW]; exact X1.out.alloc _)
  have X2 : Hid (BX 26 W w1.heap.size #[.int .i64 p, .int .i64 n, .slice at1 m ct1]) := Lib.hid (by rw [hW]; exact BX.new w1 _ _)
  have HBW : Hid (Below w.heap.size w W) := Lib.hid (by rw [hW]; exact HB1.out.alloc HB1.out.size _)
  have HTW : Hid (RdR W at1 (colsR xss m)) := Lib.hid (by rw [hW]; exact HT1.out.alloc _)
  have sW : W.heap.size = w1.heap.size + 1 := by rw [hW]; simp
  clear hW
  have p0 : W.cell? ⟨w.heap.size, 0, none⟩ = some (.int .i64 p) := X0.out.cell 0
  have p1 : W.cell? ⟨w.heap.size, 1, none⟩ = some (.int .i64 m) := X0.out.cell 1
  have p2 : W.cell? ⟨w.heap.size, 2, none⟩ = some (.slice a n c) := X0.out.cell 2
  have y0 : W.cell? ⟨w.heap.size + 1, 0, none⟩ = some (.int .i64 0) := X1.out.cell 0
  have y1 : W.cell? ⟨w.heap.size + 1, 1, none⟩ = some (.int .i64 0) := X1.out.cell 1
  have y2 : W.cell? ⟨w.heap.size + 1, 2, none⟩ = some (.slice none 0 0) := X1.out.cell 2
  have f0 := X1.out.frz 0
  have f1 := X1.out.frz 1
  have f2 := X1.out.frz 2
  have t2 : W.cell? ⟨w1.heap.size, 2, none⟩ = some (.slice at1 m ct1) := X2.out.cell 2
  go_region_held3 (fun w' => w'.cell? ⟨w.heap.size, 0, none⟩ = some (.int .i64 p) ∧ w'.cell? ⟨w.heap.size, 1, none⟩ = some (.int .i64 m) ∧ w'.cell? ⟨w.heap.size, 2, none⟩ = some (.slice a n c) ∧ w'.cell? ⟨w1.heap.size, 2, none⟩ = some (.slice at1 m ct1)) (first | ((try dsimp only); (refine ⟨?_, ?_, ?_, ?_⟩) <;> first | with_reducible assumption | (rw [cell_ne (by first | (simp; done) | (simp; omega)), cell_ne (by first | (simp; done) | (simp; omega)), cell_ne (by first | (simp; done) | (simp; omega))]; with_reducible assumption)) | go_keep)
    (first
      | (go_at_call 51; (with_reducible refine (leftKernelRows_any p HP.out _ m _ n (colsR xss m) _ ?_ (colsR_len _ _) (colsR_rws HR.out HL.out) (by omega) (by omega)).mono ?_); exact (show RdR W at1 (colsR xss m) from HTW.out); rintro e w2 ⟨N, a', c', rfl, hres, ho, hb0⟩; have hb : Below W.heap.size W w2 := ⟨hb0.os, hb0.tape, hb0.output, hb0.size, hb0.block⟩; have X0' : Hid (BX 26 w2 w.heap.size #[.int .i64 p, .int .i64 m, .slice a n c]) := Lib.hid (X0.out.keep hb); have X1' : Hid (BX 26 w2 (w.heap.size + 1) #[.int .i64 0, .int .i64 0, .slice none 0 0]) := Lib.hid (X1.out.keep hb); have p0' : w2.cell? ⟨w.heap.size, 0, none⟩ = some (.int .i64 p) := X0'.out.cell 0; have p1' : w2.cell? ⟨w.heap.size, 1, none⟩ = some (.int .i64 m) := X0'.out.cell 1; have p2' : w2.cell? ⟨w.heap.size, 2, none⟩ = some (.slice a n c) := X0'.out.cell 2; have y0' : w2.cell? ⟨w.heap.size + 1, 0, none⟩ = some (.int .i64 0) := X1'.out.cell 0; have y1' : w2.cell? ⟨w.heap.size + 1, 1, none⟩ = some (.int .i64 0) := X1'.out.cell 1; have y2' : w2.cell? ⟨w.heap.size + 1, 2, none⟩ = some (.slice none 0 0) := X1'.out.cell 2; have f0' := X1'.out.frz 0; have f1' := X1'.out.frz 1; have f2' := X1'.out.frz 2; have t2' : w2.cell? ⟨w1.heap.size, 2, none⟩ = some (.slice at1 m ct1) := (X2.out.keep hb).cell 2; have HB2 : Hid (Below w.heap.size w w2) := Lib.hid (HBW.out.trans (hb.mono HBW.out.size)); have s12 := hb.size; have HO := Lib.hid ho; have HRes := Lib.hid hres; clear ho hb hb0 hres))
  go_wp2_with fail
  refine bodyPost_ret (v := .agg #[.int .i64 p, .int .i64 m, .slice a' N.length c']) (by simp [results, Try.results23, go_sem, y0', y1', y2']) rfl ⟨N, a', c', rfl, HRes.out, ?_, ?_⟩
  · refine MadeH.mono (B := W.heap.size) ?_ (by omega)
    exact (((HO.out).setLow _ (by first | (simp; done) | (simp; omega)) _).setLow _ (by first | (simp; done) | (simp; omega)) _).setLow _ (by first | (simp; done) | (simp; omega)) _
  · exact (((HB2.out.setCell (by first | (simp; done) | (simp; omega)) _).setCell (by first | (simp; done) | (simp; omega)) _).setCell (by first | (simp; done) | (simp; omega)) _)
def res_Annihilator (xss : List (List Int)) (p q P Q : Int) (R : List (List Int)) (d : Int) : Prop :=
  (subB xss p q = true ∧ P = p ∧ Q = q ∧ d = 0 ∧ NullR p xss.length (colsR xss q.toNat) R) ∨ (subB xss p q = false ∧ (P, Q, R, d) = mvBad 1)
theorem res_Annihilator_uniq {xss : List (List Int)} {p q P1 Q1 P2 Q2 d1 d2 : Int} {R1 R2 : List (List Int)} (h : res_Annihilator xss p q P1 Q1 R1 d1) (k : res_Annihilator xss p q P2 Q2 R2 d2) : P1 = P2 ∧ Q1 = Q2 ∧ R1 = R2 ∧ d1 = d2 := by
  rcases h with ⟨h0, h1, h2, h3, h4⟩ | ⟨h0, h⟩ <;> rcases k with ⟨k0, k1, k2, k3, k4⟩ | ⟨k0, k⟩
  · exact ⟨by rw [h1, k1], by rw [h2, k2], h4.unique k4 (isMx_ok (subB_yes h0).1).gp.bd.1, by rw [h3, k3]⟩
  · rw [h0] at k0; cases k0
  · rw [h0] at k0; cases k0
  · exact mv_uniq h k
theorem res_Annihilator_small {xss : List (List Int)} {p q P Q d : Int} {R : List (List Int)} (h : res_Annihilator xss p q P Q R d) : R.length ≤ 1048576 ∧ ∀ i, i < R.length → (rw_ R i).length ≤ 1048576 := by
  rcases h with ⟨h0, _, _, _, h4⟩ | ⟨_, h⟩
  · have := (isMx_ok (subB_yes h0).1).q8
    exact h4.rref.sm (by rw [colsR_len]; omega)
  · exact mvBad_small h
set_option maxRecDepth 20000 in
set_option maxHeartbeats 4000000 in
theorem impl_Annihilator_any (p q : Int) (a : Option Addr) (n c : Nat) (xss : List (List Int)) (w : World) (hp : I64 p) (hq : I64 q) (ha : RdR w a xss) (hl : xss.length = n) (hx : ∀ i, i < n → (rw_ xss i).length ≤ 1048576) (hn : n ≤ 1048576) (hcp : n ≤ c) :
    Calls Try.prog 12 #[.agg #[.int .i64 p, .int .i64 q, .slice a n c]] w fun e w' => ∃ (P Q : Int) (R : List (List Int)) (d : Int) (a' : Option Addr) (c' : Nat), e = .returned (.tuple #[.agg #[.int .i64 P, .int .i64 Q, .slice a' R.length c'], .int .i64 d]) ∧ res_Annihilator xss p q P Q R d ∧ MadeH 2 w' w.heap.size a' R.length c' R ∧ Below w.heap.size w w' := by
  have HP := Lib.hid hp
  have HQ := Lib.hid hq
  have HA := Lib.hid ha
  have HL := Lib.hid hl
  have HX := Lib.hid hx
  clear hp hq ha hl hx
  by_cases hs : subB xss p q = true
  rotate_left
  · have hsf : subB xss p q = false := by simpa using hs
    have HS := Lib.hid hsf
    have HR : Hid (res_Annihilator xss p q 0 0 [] 1) := Lib.hid (.inr ⟨hsf, rfl⟩)
    clear hs hsf
    go_enter Try.func12, Try.ntmps12
    go_wp2_with fail
    refine (impl_IsSubspace_any _ _ _ _ _ xss _ HP.out HQ.out (by exact (HA.out.alloc _).alloc _) HL.out HX.out hn hcp).mono ?_
    rintro e w1 ⟨he, hb⟩
    rw [HS.out] at he
    obtain rfl := he
    have X0 : Hid (BX 26 w1 w.heap.size #[.int .i64 p, .int .i64 q, .slice a n c]) := Lib.hid (((BX.new w _ _).alloc _).keep hb)
    have X1 : Hid (BX 26 w1 (w.heap.size + 1) #[.int .i64 0, .int .i64 0, .slice none 0 0]) := Lib.hid ((BX.newAt (by simp)).keep hb)
    have HB1 : Hid (Below w.heap.size w w1) := Lib.hid (below_al2 hb)
    have s1 : w.heap.size + 2 ≤ w1.heap.size := by have := hb.size; simp at this; omega
    clear hb
    have p0 : w1.cell? ⟨w.heap.size, 0, none⟩ = some (.int .i64 p) := X0.out.cell 0
    have p1 : w1.cell? ⟨w.heap.size, 1, none⟩ = some (.int .i64 q) := X0.out.cell 1
    have p2 : w1.cell? ⟨w.heap.size, 2, none⟩ = some (.slice a n c) := X0.out.cell 2
    have y0 : w1.cell? ⟨w.heap.size + 1, 0, none⟩ = some (.int .i64 0) := X1.out.cell 0
    have y1 : w1.cell? ⟨w.heap.size + 1, 1, none⟩ = some (.int .i64 0) := X1.out.cell 1
    have y2 : w1.cell? ⟨w.heap.size + 1, 2, none⟩ = some (.slice none 0 0) := X1.out.cell 2
    have f0 := X1.out.frz 0
    have f1 := X1.out.frz 1
    have f2 := X1.out.frz 2
    go_wp2_with fail
    refine bodyPost_ret (v := .tuple #[.agg #[.int .i64 0, .int .i64 0, .slice none 0 0], .int .i64 1]) (by simp [results, Try.results12, go_sem, y0, y1, y2]) rfl ⟨0, 0, [], 1, none, 0, rfl, HR.out, MadeH.none, ?_⟩
    exact (((HB1.out.setCell (by first | (simp; done) | (simp; omega)) _).setCell (by first | (simp; done) | (simp; omega)) _).setCell (by first | (simp; done) | (simp; omega)) _)
  · have hy := subB_yes hs
    have hm := isMx_ok hy.1
    have q0 := hm.q0
    have q8 := hm.q8
    have hl8 := hm.len
    rw [HL.out] at hl8
    obtain ⟨m, rfl⟩ : ∃ m : Nat, q = m := ⟨q.toNat, by omega⟩
    have HS := Lib.hid hs
    have HM := Lib.hid hm
    have HRW : Hid (Rws p m xss) := Lib.hid hm.rws
    clear hm hy hs
    go_enter Try.func12, Try.ntmps12
    go_wp2_with fail
    refine (impl_IsSubspace_any _ _ _ _ _ xss _ HP.out HQ.out (by exact (HA.out.alloc _).alloc _) HL.out HX.out hn hcp).mono ?_
    rintro e w1 ⟨he, hb⟩
    rw [HS.out] at he
    obtain rfl := he
    have X0 : Hid (BX 26 w1 w.heap.size #[.int .i64 p, .int .i64 m, .slice a n c]) := Lib.hid (((BX.new w _ _).alloc _).keep hb)
    have X1 : Hid (BX 26 w1 (w.heap.size + 1) #[.int .i64 0, .int .i64 0, .slice none 0 0]) := Lib.hid ((BX.newAt (by simp)).keep hb)
    have HB1 : Hid (Below w.heap.size w w1) := Lib.hid (below_al2 hb)
    have s1 : w.heap.size + 2 ≤ w1.heap.size := by have := hb.size; simp at this; omega
    clear hb
    have p0 : w1.cell? ⟨w.heap.size, 0, none⟩ = some (.int .i64 p) := X0.out.cell 0
    have p1 : w1.cell? ⟨w.heap.size, 1, none⟩ = some (.int .i64 m) := X0.out.cell 1
    have p2 : w1.cell? ⟨w.heap.size, 2, none⟩ = some (.slice a n c) := X0.out.cell 2
    have y0 : w1.cell? ⟨w.heap.size + 1, 0, none⟩ = some (.int .i64 0) := X1.out.cell 0
    have y1 : w1.cell? ⟨w.heap.size + 1, 1, none⟩ = some (.int .i64 0) := X1.out.cell 1
    have y2 : w1.cell? ⟨w.heap.size + 1, 2, none⟩ = some (.slice none 0 0) := X1.out.cell 2
    have f0 := X1.out.frz 0
    have f1 := X1.out.frz 1
    have f2 := X1.out.frz 2
    go_wp2_with fail
    refine (annihilator_any p HM.out.gp m _ _ _ xss _ (by exact HA.out.keep HB1.out (Nat.le_refl _)) HL.out HRW.out (by omega) (by omega)).mono ?_
    rintro e w2 ⟨R, a', c', rfl, hres, ho, hb⟩
    have HO := Lib.hid ho
    have HRes := Lib.hid hres
    have HR : Hid (res_Annihilator xss p m p m R 0) := Lib.hid (.inl ⟨HS.out, rfl, rfl, rfl, by rw [HL.out, Int.toNat_natCast]; exact HRes.out⟩)
    clear p0 p1 p2 y0 y1 y2 f0 f1 f2
    replace X0 : Hid (BX 26 w2 w.heap.size #[.int .i64 p, .int .i64 m, .slice a n c]) := Lib.hid (X0.out.keep hb)
    replace X1 : Hid (BX 26 w2 (w.heap.size + 1) #[.int .i64 0, .int .i64 0, .slice none 0 0]) := Lib.hid (X1.out.keep hb)
    have HB2 : Hid (Below w.heap.size w w2) := Lib.hid (HB1.out.trans (hb.mono HB1.out.size))
    have p0 : w2.cell? ⟨w.heap.size, 0, none⟩ = some (.int .i64 p) := X0.out.cell 0
    have p1 : w2.cell? ⟨w.heap.size, 1, none⟩ = some (.int .i64 m) := X0.out.cell 1
    have p2 : w2.cell? ⟨w.heap.size, 2, none⟩ = some (.slice a n c) := X0.out.cell 2
    have y0 : w2.cell? ⟨w.heap.size + 1, 0, none⟩ = some (.int .i64 0) := X1.out.cell 0
    have y1 : w2.cell? ⟨w.heap.size + 1, 1, none⟩ = some (.int .i64 0) := X1.out.cell 1
    have y2 : w2.cell? ⟨w.heap.size + 1, 2, none⟩ = some (.slice none 0 0) := X1.out.cell 2
    have f0 := X1.out.frz 0
    have f1 := X1.out.frz 1
    have f2 := X1.out.frz 2
    clear ho hb hres
    go_wp2_with fail
    refine bodyPost_ret (v := .tuple #[.agg #[.int .i64 (p), .int .i64 (m), .slice a' R.length c'], .int .i64 0]) (by simp [results, Try.results12, go_sem, y0, y1, y2]) rfl ⟨p, m, R, 0, a', c', rfl, HR.out, ?_, ?_⟩
    · refine MadeH.mono (B := w1.heap.size) ?_ (by omega)
      exact (((HO.out).setLow _ (by first | (simp; done) | (simp; omega)) _).setLow _ (by first | (simp; done) | (simp; omega)) _).setLow _ (by first | (simp; done) | (simp; omega)) _
    · exact (((HB2.out.setCell (by first | (simp; done) | (simp; omega)) _).setCell (by first | (simp; done) | (simp; omega)) _).setCell (by first | (simp; done) | (simp; omega)) _)
end Go.Proofs.Ytpkdgemnddcefaa
