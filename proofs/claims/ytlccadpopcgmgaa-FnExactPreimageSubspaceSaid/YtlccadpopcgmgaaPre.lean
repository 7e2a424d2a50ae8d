/- Preimages of subspaces: the program and the reference. -/
import Derived.Test.YtlccadpopcgmgaaAppR
import Derived.Test.YtlccadpopcgmgaaCellN
set_option linter.unusedVariables false
set_option linter.unusedSimpArgs false
namespace Go.Proofs.Ytlccadpopcgmgaa
open Go.RowKit

theorem RdV.keep2 {w w' : World} {a : Option Addr} {vs : List Value} (h : RdV w a vs) (hb : Below w.heap.size w w') : RdV w' a vs := fun h0 => by
  obtain ⟨b, o, ha, hc⟩ := h h0
  refine ⟨b, o, ha, fun i hi => ?_⟩
  have e := hc i hi
  rw [List.getElem?_eq_getElem hi] at e ⊢
  exact cell_below e hb
/-- the left parts of the rows -/
def headR (n : Nat) (N : List (List Int)) : List (List Int) := tab N.length fun i => (rw_ N i).take n
theorem headR_len (n : Nat) (N : List (List Int)) : (headR n N).length = N.length := tab_len _ _
theorem headR_row {n i : Nat} {N : List (List Int)} (h : i < N.length) : rw_ (headR n N) i = (rw_ N i).take n := rw_tab h
theorem headR_rws {p : Int} {n k : Nat} {N : List (List Int)} (h : Rws p (n + k) N) : Rws p n (headR n N) := by
  refine ⟨fun i hi => ?_, fun i j hi hj => ?_⟩
  · rw [headR_len] at hi
    rw [headR_row hi, List.length_take, h.row i hi]; omega
  · rw [headR_len] at hi
    rw [headR_row hi, el_take hj]
    exact h.rng i j hi (by omega)
def res_PreimageSubspace (xs0 : List (List Int)) (p0 q0 : Int) (xs1 : List (List Int)) (p1 q1 P Q : Int) (R : List (List Int)) (d : Int) : Prop :=
  (¬ (subB xs0 p0 q0 = true ∧ isMx xs1 p1 q1 = true) ∧ (P, Q, R, d) = mvBad 1) ∨
  ((subB xs0 p0 q0 = true ∧ isMx xs1 p1 q1 = true) ∧ ((¬ (p0 = p1 ∧ q0 = q1) ∧ (P, Q, R, d) = mvBad 2) ∨ ((p0 = p1 ∧ q0 = q1) ∧ P = p0 ∧ Q = xs1.length ∧ d = 0 ∧ ∃ N, NullR p0 q0.toNat (xs1 ++ xs0) N ∧ IsRref p0 xs1.length (headR xs1.length N) R)))
theorem res_PreimageSubspace_uniq {xs0 xs1 : List (List Int)} {p0 q0 p1 q1 P1 Q1 P2 Q2 d1 d2 : Int} {R1 R2 : List (List Int)} (h : res_PreimageSubspace xs0 p0 q0 xs1 p1 q1 P1 Q1 R1 d1) (k : res_PreimageSubspace xs0 p0 q0 xs1 p1 q1 P2 Q2 R2 d2) : P1 = P2 ∧ Q1 = Q2 ∧ R1 = R2 ∧ d1 = d2 := by
  rcases h with ⟨h0, h⟩ | ⟨h0, ⟨h1, h⟩ | ⟨h1, h2, h3, h4, N, h5, h6⟩⟩ <;> rcases k with ⟨k0, k⟩ | ⟨k0, ⟨k1, k⟩ | ⟨k1, k2, k3, k4, N', k5, k6⟩⟩
  · exact mv_uniq h k
  · exact absurd k0 h0
  · exact absurd k0 h0
  · exact absurd h0 k0
  · exact mv_uniq h k
  · exact absurd k1 h1
  · exact absurd h0 k0
  · exact absurd h1 k1
  · have hp := (isMx_ok (subB_yes h0.1).1).gp.bd.1
    obtain rfl := h5.unique k5 hp
    exact ⟨by rw [h2, k2], by rw [h3, k3], h6.unique k6 hp, by rw [h4, k4]⟩
theorem res_PreimageSubspace_small {xs0 xs1 : List (List Int)} {p0 q0 p1 q1 P Q d : Int} {R : List (List Int)} (h : res_PreimageSubspace xs0 p0 q0 xs1 p1 q1 P Q R d) : R.length ≤ 1048576 ∧ ∀ i, i < R.length → (rw_ R i).length ≤ 1048576 := by
  rcases h with ⟨h0, h⟩ | ⟨h0, ⟨h1, h⟩ | ⟨h1, h2, h3, h4, N, h5, h6⟩⟩
  · exact mvBad_small h
  · exact mvBad_small h
  · have := (isMx_ok h0.2).len
    exact h6.sm (by omega)
theorem Vw.pushA {T1 : TypeId} {wb w w' : World} {o : Obj} {a a' ar : Option Addr} {n cap cap' cr m : Nat} {xss : List (List Int)} {xs : List Int} {A : Nat → Option Addr} {C : Nat → Nat} (h : Vw T1 wb w a n cap xss A C)
    (hr : RdI wb ar xs) (hm : xs.length = m) (hc : m ≤ cr) (r : w'.ownsRow wb.heap.size T1 1 (.slice a' (n + 1) cap') (n + 1) (rowVals xss A C n ++ [.slice ar m cr]))
    (g : Chg (fun k => ∃ p, a = some p ∧ p.block = k) (w.alloc o) w') : Vw T1 wb w' a' (n + 1) cap' (xss ++ [xs]) (upd A n ar) (upd C n cr) :=
  Vw.push (w := w.alloc o) ⟨h.len, ownsRow_same h.own (fun p hp => Below.heap_alloc _ _ _ (ownsRow_block h.own p hp).2), h.row, h.below.alloc h.below.size o⟩ hr hm hc r g
set_option maxRecDepth 20000 in
set_option maxHeartbeats 4000000 in
theorem impl_PreimageSubspace_any (p0 q0 : Int) (a0 : Option Addr) (n0 c0 : Nat) (xs0 : List (List Int)) (p1 q1 : Int) (a1 : Option Addr) (n1 c1 : Nat) (xs1 : List (List Int)) (w : World) (hp0 : I64 p0) (hq0 : I64 q0) (ha0 : RdR w a0 xs0) (hl0 : xs0.length = n0) (hx0 : ∀ i, i < n0 → (rw_ xs0 i).length ≤ 1048576) (hn0 : n0 ≤ 1048576) (hcp0 : n0 ≤ c0) (hp1 : I64 p1) (hq1 : I64 q1) (ha1 : RdR w a1 xs1) (hl1 : xs1.length = n1) (hx1 : ∀ i, i < n1 → (rw_ xs1 i).length ≤ 1048576) (hn1 : n1 ≤ 1048576) (hcp1 : n1 ≤ c1) :
    Calls Try.prog 10 #[.agg #[.int .i64 p0, .int .i64 q0, .slice a0 n0 c0], .agg #[.int .i64 p1, .int .i64 q1, .slice a1 n1 c1]] w fun e w' => ∃ (P Q : Int) (R : List (List Int)) (d : Int) (a' : Option Addr) (c' : Nat), e = .returned (.tuple #[.agg #[.int .i64 P, .int .i64 Q, .slice a' R.length c'], .int .i64 d]) ∧ res_PreimageSubspace xs0 p0 q0 xs1 p1 q1 P Q R d ∧ MadeH 2 w' w.heap.size a' R.length c' R ∧ Below w.heap.size w w' := by
  have HP0 := Lib.hid hp0
  have HQ0 := Lib.hid hq0
  have HA0 := Lib.hid ha0
  have HL0 := Lib.hid hl0
  have HX0 := Lib.hid hx0
  clear hp0 hq0 ha0 hl0 hx0
  have HP1 := Lib.hid hp1
  have HQ1 := Lib.hid hq1
  have HA1 := Lib.hid ha1
  have HL1 := Lib.hid hl1
  have HX1 := Lib.hid hx1
  clear hp1 hq1 ha1 hl1 hx1
  by_cases hs0 : subB xs0 p0 q0 = true
  rotate_left
  · have HS0 : Hid (subB xs0 p0 q0 = false) := Lib.hid (by simpa using hs0)
    have HR : Hid (res_PreimageSubspace xs0 p0 q0 xs1 p1 q1 0 0 [] 1) := Lib.hid (.inl ⟨fun h => hs0 h.1, rfl⟩)
    clear hs0
    go_enter Try.func10, Try.ntmps10
    go_wp2_with fail
    obtain ⟨W, hW⟩ : ∃ W, W = ((w.alloc (.cells #[.int .i64 p0, .int .i64 q0, .slice a0 n0 c0] 26)).alloc (.cells #[.int .i64 p1, .int .i64 q1, .slice a1 n1 c1] 26)).alloc (.cells #[.int .i64 0, .int .i64 0, .slice none 0 0] 26) := ⟨_, rfl⟩
    rw [← hW]
    have X0 : Hid (BX 26 W (w.heap.size) #[.int .i64 p0, .int .i64 q0, .slice a0 n0 c0]) := Lib.hid (by rw [hW]; exact ((BX.new w _ _).alloc _).alloc _)
    have X1 : Hid (BX 26 W (w.heap.size + 1) #[.int .i64 p1, .int .i64 q1, .slice a1 n1 c1]) := Lib.hid (by rw [hW]; exact (BX.newAt (by simp)).alloc _)
    have X2 : Hid (BX 26 W (w.heap.size + 1 + 1) #[.int .i64 0, .int .i64 0, .slice none 0 0]) := Lib.hid (by rw [hW]; exact BX.newAt (by simp))
    have HB0 : Hid (Below w.heap.size w W) := Lib.hid (by rw [hW]; exact (((Below.refl _ _).alloc (Nat.le_refl _) _).alloc (by simp) _).alloc (by simp; omega) _)
    have sW : W.heap.size = w.heap.size + 3 := by rw [hW]; simp
    have HA0w : Hid (RdR W a0 xs0) := Lib.hid (HA0.out.keep HB0.out (Nat.le_refl _))
    have HA1w : Hid (RdR W a1 xs1) := Lib.hid (HA1.out.keep HB0.out (Nat.le_refl _))
    clear hW
    have k0 : W.cell? ⟨w.heap.size, 0, none⟩ = some (.int .i64 p0) := X0.out.cell 0
    have k1 : W.cell? ⟨w.heap.size, 1, none⟩ = some (.int .i64 q0) := X0.out.cell 1
    have k2 : W.cell? ⟨w.heap.size, 2, none⟩ = some (.slice a0 n0 c0) := X0.out.cell 2
    have v0 : W.cell? ⟨w.heap.size + 1, 0, none⟩ = some (.int .i64 p1) := X1.out.cell 0
    have v1 : W.cell? ⟨w.heap.size + 1, 1, none⟩ = some (.int .i64 q1) := X1.out.cell 1
    have v2 : W.cell? ⟨w.heap.size + 1, 2, none⟩ = some (.slice a1 n1 c1) := X1.out.cell 2
    have y0 : W.cell? ⟨w.heap.size + 1 + 1, 0, none⟩ = some (.int .i64 0) := X2.out.cell 0
    have y1 : W.cell? ⟨w.heap.size + 1 + 1, 1, none⟩ = some (.int .i64 0) := X2.out.cell 1
    have y2 : W.cell? ⟨w.heap.size + 1 + 1, 2, none⟩ = some (.slice none 0 0) := X2.out.cell 2
    have f0 := X2.out.frz 0
    have f1 := X2.out.frz 1
    have f2 := X2.out.frz 2
    refine (impl_IsSubspace_any _ _ _ _ _ xs0 _ HP0.out HQ0.out (by exact HA0w.out) HL0.out HX0.out hn0 hcp0).mono ?_
    rintro e w1 ⟨he, hb⟩
    rw [HS0.out] at he
    obtain rfl := he
    clear k0 k1 k2 v0 v1 v2 y0 y1 y2 f0 f1 f2
    have HB1 : Hid (Below w.heap.size w w1) := Lib.hid (HB0.out.trans (hb.mono HB0.out.size))
    replace X0 : Hid (BX 26 w1 (w.heap.size) #[.int .i64 p0, .int .i64 q0, .slice a0 n0 c0]) := Lib.hid (X0.out.keep hb)
    replace X1 : Hid (BX 26 w1 (w.heap.size + 1) #[.int .i64 p1, .int .i64 q1, .slice a1 n1 c1]) := Lib.hid (X1.out.keep hb)
    replace X2 : Hid (BX 26 w1 (w.heap.size + 1 + 1) #[.int .i64 0, .int .i64 0, .slice none 0 0]) := Lib.hid (X2.out.keep hb)
    have s_w1 := hb.size
    replace HA0w : Hid (RdR w1 a0 xs0) := Lib.hid (HA0w.out.keep hb (Nat.le_refl _))
    replace HA1w : Hid (RdR w1 a1 xs1) := Lib.hid (HA1w.out.keep hb (Nat.le_refl _))
    clear hb
    have k0 : w1.cell? ⟨w.heap.size, 0, none⟩ = some (.int .i64 p0) := X0.out.cell 0
    have k1 : w1.cell? ⟨w.heap.size, 1, none⟩ = some (.int .i64 q0) := X0.out.cell 1
    have k2 : w1.cell? ⟨w.heap.size, 2, none⟩ = some (.slice a0 n0 c0) := X0.out.cell 2
    have v0 : w1.cell? ⟨w.heap.size + 1, 0, none⟩ = some (.int .i64 p1) := X1.out.cell 0
    have v1 : w1.cell? ⟨w.heap.size + 1, 1, none⟩ = some (.int .i64 q1) := X1.out.cell 1
    have v2 : w1.cell? ⟨w.heap.size + 1, 2, none⟩ = some (.slice a1 n1 c1) := X1.out.cell 2
    have y0 : w1.cell? ⟨w.heap.size + 1 + 1, 0, none⟩ = some (.int .i64 0) := X2.out.cell 0
    have y1 : w1.cell? ⟨w.heap.size + 1 + 1, 1, none⟩ = some (.int .i64 0) := X2.out.cell 1
    have y2 : w1.cell? ⟨w.heap.size + 1 + 1, 2, none⟩ = some (.slice none 0 0) := X2.out.cell 2
    have f0 := X2.out.frz 0
    have f1 := X2.out.frz 1
    have f2 := X2.out.frz 2
    go_wp2_with fail
    refine bodyPost_ret (v := .tuple #[.agg #[.int .i64 0, .int .i64 0, .slice none 0 0], .int .i64 1]) (by simp [results, Try.results10, go_sem, y0, y1, y2]) rfl ⟨0, 0, [], 1, none, 0, rfl, HR.out, MadeH.none, ?_⟩
    exact (((HB1.out.setCell (by first | (simp; done) | (simp; omega)) _).setCell (by first | (simp; done) | (simp; omega)) _).setCell (by first | (simp; done) | (simp; omega)) _)
  have HS0 := Lib.hid hs0
  by_cases hs1 : isMx xs1 p1 q1 = true
  rotate_left
  · have HS1 : Hid (isMx xs1 p1 q1 = false) := Lib.hid (by simpa using hs1)
    have HR : Hid (res_PreimageSubspace xs0 p0 q0 xs1 p1 q1 0 0 [] 1) := Lib.hid (.inl ⟨fun h => hs1 h.2, rfl⟩)
    clear hs0 hs1
    go_enter Try.func10, Try.ntmps10
    go_wp2_with fail
    obtain ⟨W, hW⟩ : ∃ W, W = ((w.alloc (.cells #[.int .i64 p0, .int .i64 q0, .slice a0 n0 c0] 26)).alloc (.cells #[.int .i64 p1, .int .i64 q1, .slice a1 n1 c1] 26)).alloc (.cells #[.int .i64 0, .int .i64 0, .slice none 0 0] 26) := ⟨_, rfl⟩
    rw [← hW]
    have X0 : Hid (BX 26 W (w.heap.size) #[.int .i64 p0, .int .i64 q0, .slice a0 n0 c0]) := Lib.hid (by rw [hW]; exact ((BX.new w _ _).alloc _).alloc _)
    have X1 : Hid (BX 26 W (w.heap.size + 1) #[.int .i64 p1, .int .i64 q1, .slice a1 n1 c1]) := Lib.hid (by rw [hW]; exact (BX.newAt (by simp)).alloc _)
    have X2 : Hid (BX 26 W (w.heap.size + 1 + 1) #[.int .i64 0, .int .i64 0, .slice none 0 0]) := Lib.hid (by rw [hW]; exact BX.newAt (by simp))
    have HB0 : Hid (Below w.heap.size w W) := Lib.hid (by rw [hW]; exact (((Below.refl _ _).alloc (Nat.le_refl _) _).alloc (by simp) _).alloc (by simp; omega) _)
    have sW : W.heap.size = w.heap.size + 3 := by rw [hW]; simp
    have HA0w : Hid (RdR W a0 xs0) := Lib.hid (HA0.out.keep HB0.out (Nat.le_refl _))
    have HA1w : Hid (RdR W a1 xs1) := Lib.hid (HA1.out.keep HB0.out (Nat.le_refl _))
    clear hW
    have k0 : W.cell? ⟨w.heap.size, 0, none⟩ = some (.int .i64 p0) := X0.out.cell 0
    have k1 : W.cell? ⟨w.heap.size, 1, none⟩ = some (.int .i64 q0) := X0.out.cell 1
    have k2 : W.cell? ⟨w.heap.size, 2, none⟩ = some (.slice a0 n0 c0) := X0.out.cell 2
    have v0 : W.cell? ⟨w.heap.size + 1, 0, none⟩ = some (.int .i64 p1) := X1.out.cell 0
    have v1 : W.cell? ⟨w.heap.size + 1, 1, none⟩ = some (.int .i64 q1) := X1.out.cell 1
    have v2 : W.cell? ⟨w.heap.size + 1, 2, none⟩ = some (.slice a1 n1 c1) := X1.out.cell 2
    have y0 : W.cell? ⟨w.heap.size + 1 + 1, 0, none⟩ = some (.int .i64 0) := X2.out.cell 0
    have y1 : W.cell? ⟨w.heap.size + 1 + 1, 1, none⟩ = some (.int .i64 0) := X2.out.cell 1
    have y2 : W.cell? ⟨w.heap.size + 1 + 1, 2, none⟩ = some (.slice none 0 0) := X2.out.cell 2
    have f0 := X2.out.frz 0
    have f1 := X2.out.frz 1
    have f2 := X2.out.frz 2
    refine (impl_IsSubspace_any _ _ _ _ _ xs0 _ HP0.out HQ0.out (by exact HA0w.out) HL0.out HX0.out hn0 hcp0).mono ?_
    rintro e w1 ⟨he, hb⟩
    rw [HS0.out] at he
    obtain rfl := he
    clear k0 k1 k2 v0 v1 v2 y0 y1 y2 f0 f1 f2
    have HB1 : Hid (Below w.heap.size w w1) := Lib.hid (HB0.out.trans (hb.mono HB0.out.size))
    replace X0 : Hid (BX 26 w1 (w.heap.size) #[.int .i64 p0, .int .i64 q0, .slice a0 n0 c0]) := Lib.hid (X0.out.keep hb)
    replace X1 : Hid (BX 26 w1 (w.heap.size + 1) #[.int .i64 p1, .int .i64 q1, .slice a1 n1 c1]) := Lib.hid (X1.out.keep hb)
    replace X2 : Hid (BX 26 w1 (w.heap.size + 1 + 1) #[.int .i64 0, .int .i64 0, .slice none 0 0]) := Lib.hid (X2.out.keep hb)
    have s_w1 := hb.size
    replace HA0w : Hid (RdR w1 a0 xs0) := Lib.hid (HA0w.out.keep hb (Nat.le_refl _))
    replace HA1w : Hid (RdR w1 a1 xs1) := Lib.hid (HA1w.out.keep hb (Nat.le_refl _))
    clear hb
    have k0 : w1.cell? ⟨w.heap.size, 0, none⟩ = some (.int .i64 p0) := X0.out.cell 0
    have k1 : w1.cell? ⟨w.heap.size, 1, none⟩ = some (.int .i64 q0) := X0.out.cell 1
    have k2 : w1.cell? ⟨w.heap.size, 2, none⟩ = some (.slice a0 n0 c0) := X0.out.cell 2
    have v0 : w1.cell? ⟨w.heap.size + 1, 0, none⟩ = some (.int .i64 p1) := X1.out.cell 0
    have v1 : w1.cell? ⟨w.heap.size + 1, 1, none⟩ = some (.int .i64 q1) := X1.out.cell 1
    have v2 : w1.cell? ⟨w.heap.size + 1, 2, none⟩ = some (.slice a1 n1 c1) := X1.out.cell 2
    have y0 : w1.cell? ⟨w.heap.size + 1 + 1, 0, none⟩ = some (.int .i64 0) := X2.out.cell 0
    have y1 : w1.cell? ⟨w.heap.size + 1 + 1, 1, none⟩ = some (.int .i64 0) := X2.out.cell 1
    have y2 : w1.cell? ⟨w.heap.size + 1 + 1, 2, none⟩ = some (.slice none 0 0) := X2.out.cell 2
    have f0 := X2.out.frz 0
    have f1 := X2.out.frz 1
    have f2 := X2.out.frz 2
    go_wp2_with fail
    refine (impl_IsMatrix_any _ _ _ _ _ xs1 _ HP1.out HQ1.out (by exact HA1w.out) HL1.out HX1.out hn1 hcp1).mono ?_
    rintro e w2 ⟨he, hb⟩
    rw [HS1.out] at he
    obtain rfl := he
    clear k0 k1 k2 v0 v1 v2 y0 y1 y2 f0 f1 f2
    have HB2 : Hid (Below w.heap.size w w2) := Lib.hid (HB1.out.trans (hb.mono HB1.out.size))
    replace X0 : Hid (BX 26 w2 (w.heap.size) #[.int .i64 p0, .int .i64 q0, .slice a0 n0 c0]) := Lib.hid (X0.out.keep hb)
    replace X1 : Hid (BX 26 w2 (w.heap.size + 1) #[.int .i64 p1, .int .i64 q1, .slice a1 n1 c1]) := Lib.hid (X1.out.keep hb)
    replace X2 : Hid (BX 26 w2 (w.heap.size + 1 + 1) #[.int .i64 0, .int .i64 0, .slice none 0 0]) := Lib.hid (X2.out.keep hb)
    have s_w2 := hb.size
    replace HA0w : Hid (RdR w2 a0 xs0) := Lib.hid (HA0w.out.keep hb (Nat.le_refl _))
    replace HA1w : Hid (RdR w2 a1 xs1) := Lib.hid (HA1w.out.keep hb (Nat.le_refl _))
    clear hb
    have k0 : w2.cell? ⟨w.heap.size, 0, none⟩ = some (.int .i64 p0) := X0.out.cell 0
    have k1 : w2.cell? ⟨w.heap.size, 1, none⟩ = some (.int .i64 q0) := X0.out.cell 1
    have k2 : w2.cell? ⟨w.heap.size, 2, none⟩ = some (.slice a0 n0 c0) := X0.out.cell 2
    have v0 : w2.cell? ⟨w.heap.size + 1, 0, none⟩ = some (.int .i64 p1) := X1.out.cell 0
    have v1 : w2.cell? ⟨w.heap.size + 1, 1, none⟩ = some (.int .i64 q1) := X1.out.cell 1
    have v2 : w2.cell? ⟨w.heap.size + 1, 2, none⟩ = some (.slice a1 n1 c1) := X1.out.cell 2
    have y0 : w2.cell? ⟨w.heap.size + 1 + 1, 0, none⟩ = some (.int .i64 0) := X2.out.cell 0
    have y1 : w2.cell? ⟨w.heap.size + 1 + 1, 1, none⟩ = some (.int .i64 0) := X2.out.cell 1
    have y2 : w2.cell? ⟨w.heap.size + 1 + 1, 2, none⟩ = some (.slice none 0 0) := X2.out.cell 2
    have f0 := X2.out.frz 0
    have f1 := X2.out.frz 1
    have f2 := X2.out.frz 2
    go_wp2_with fail
    refine bodyPost_ret (v := .tuple #[.agg #[.int .i64 0, .int .i64 0, .slice none 0 0], .int .i64 1]) (by simp [results, Try.results10, go_sem, y0, y1, y2]) rfl ⟨0, 0, [], 1, none, 0, rfl, HR.out, MadeH.none, ?_⟩
    exact (((HB2.out.setCell (by first | (simp; done) | (simp; omega)) _).setCell (by first | (simp; done) | (simp; omega)) _).setCell (by first | (simp; done) | (simp; omega)) _)
  have HS1 := Lib.hid hs1
  have hgo := isMx_ok (subB_yes hs0).1
  have hgo1 := isMx_ok hs1
  clear hs0 hs1
  by_cases hpe : p0 = p1
  rotate_left
  · have HR : Hid (res_PreimageSubspace xs0 p0 q0 xs1 p1 q1 0 0 [] 2) := Lib.hid (.inr ⟨⟨HS0.out, HS1.out⟩, .inl ⟨fun h => hpe h.1, rfl⟩⟩)
    have b1 : (p0 != p1) = true := bne_iff_ne.2 hpe
    have HNE := Lib.hid hpe
    clear hgo hgo1 hpe
    go_enter Try.func10, Try.ntmps10
    go_wp2_with fail
    obtain ⟨W, hW⟩ : ∃ W, W = ((w.alloc (.cells #[.int .i64 p0, .int .i64 q0, .slice a0 n0 c0] 26)).alloc (.cells #[.int .i64 p1, .int .i64 q1, .slice a1 n1 c1] 26)).alloc (.cells #[.int .i64 0, .int .i64 0, .slice none 0 0] 26) := ⟨_, rfl⟩
    rw [← hW]
    have X0 : Hid (BX 26 W (w.heap.size) #[.int .i64 p0, .int .i64 q0, .slice a0 n0 c0]) := Lib.hid (by rw [hW]; exact ((BX.new w _ _).alloc _).alloc _)
    have X1 : Hid (BX 26 W (w.heap.size + 1) #[.int .i64 p1, .int .i64 q1, .slice a1 n1 c1]) := Lib.hid (by rw [hW]; exact (BX.newAt (by simp)).alloc _)
    have X2 : Hid (BX 26 W (w.heap.size + 1 + 1) #[.int .i64 0, .int .i64 0, .slice none 0 0]) := Lib.hid (by rw [hW]; exact BX.newAt (by simp))
    have HB0 : Hid (Below w.heap.size w W) := Lib.hid (by rw [hW]; exact (((Below.refl _ _).alloc (Nat.le_refl _) _).alloc (by simp) _).alloc (by simp; omega) _)
    have sW : W.heap.size = w.heap.size + 3 := by rw [hW]; simp
    have HA0w : Hid (RdR W a0 xs0) := Lib.hid (HA0.out.keep HB0.out (Nat.le_refl _))
    have HA1w : Hid (RdR W a1 xs1) := Lib.hid (HA1.out.keep HB0.out (Nat.le_refl _))
    clear hW
    have k0 : W.cell? ⟨w.heap.size, 0, none⟩ = some (.int .i64 p0) := X0.out.cell 0
    have k1 : W.cell? ⟨w.heap.size, 1, none⟩ = some (.int .i64 q0) := X0.out.cell 1
    have k2 : W.cell? ⟨w.heap.size, 2, none⟩ = some (.slice a0 n0 c0) := X0.out.cell 2
    have v0 : W.cell? ⟨w.heap.size + 1, 0, none⟩ = some (.int .i64 p1) := X1.out.cell 0
    have v1 : W.cell? ⟨w.heap.size + 1, 1, none⟩ = some (.int .i64 q1) := X1.out.cell 1
    have v2 : W.cell? ⟨w.heap.size + 1, 2, none⟩ = some (.slice a1 n1 c1) := X1.out.cell 2
    have y0 : W.cell? ⟨w.heap.size + 1 + 1, 0, none⟩ = some (.int .i64 0) := X2.out.cell 0
    have y1 : W.cell? ⟨w.heap.size + 1 + 1, 1, none⟩ = some (.int .i64 0) := X2.out.cell 1
    have y2 : W.cell? ⟨w.heap.size + 1 + 1, 2, none⟩ = some (.slice none 0 0) := X2.out.cell 2
    have f0 := X2.out.frz 0
    have f1 := X2.out.frz 1
    have f2 := X2.out.frz 2
    refine (impl_IsSubspace_any _ _ _ _ _ xs0 _ HP0.out HQ0.out (by exact HA0w.out) HL0.out HX0.out hn0 hcp0).mono ?_
    rintro e w1 ⟨he, hb⟩
    rw [HS0.out] at he
    obtain rfl := he
    clear k0 k1 k2 v0 v1 v2 y0 y1 y2 f0 f1 f2
    have HB1 : Hid (Below w.heap.size w w1) := Lib.hid (HB0.out.trans (hb.mono HB0.out.size))
    replace X0 : Hid (BX 26 w1 (w.heap.size) #[.int .i64 p0, .int .i64 q0, .slice a0 n0 c0]) := Lib.hid (X0.out.keep hb)
    replace X1 : Hid (BX 26 w1 (w.heap.size + 1) #[.int .i64 p1, .int .i64 q1, .slice a1 n1 c1]) := Lib.hid (X1.out.keep hb)
    replace X2 : Hid (BX 26 w1 (w.heap.size + 1 + 1) #[.int .i64 0, .int .i64 0, .slice none 0 0]) := Lib.hid (X2.out.keep hb)
    have s_w1 := hb.size
    replace HA0w : Hid (RdR w1 a0 xs0) := Lib.hid (HA0w.out.keep hb (Nat.le_refl _))
    replace HA1w : Hid (RdR w1 a1 xs1) := Lib.hid (HA1w.out.keep hb (Nat.le_refl _))
    clear hb
    have k0 : w1.cell? ⟨w.heap.size, 0, none⟩ = some (.int .i64 p0) := X0.out.cell 0
    have k1 : w1.cell? ⟨w.heap.size, 1, none⟩ = some (.int .i64 q0) := X0.out.cell 1
    have k2 : w1.cell? ⟨w.heap.size, 2, none⟩ = some (.slice a0 n0 c0) := X0.out.cell 2
    have v0 : w1.cell? ⟨w.heap.size + 1, 0, none⟩ = some (.int .i64 p1) := X1.out.cell 0
    have v1 : w1.cell? ⟨w.heap.size + 1, 1, none⟩ = some (.int .i64 q1) := X1.out.cell 1
    have v2 : w1.cell? ⟨w.heap.size + 1, 2, none⟩ = some (.slice a1 n1 c1) := X1.out.cell 2
    have y0 : w1.cell? ⟨w.heap.size + 1 + 1, 0, none⟩ = some (.int .i64 0) := X2.out.cell 0
    have y1 : w1.cell? ⟨w.heap.size + 1 + 1, 1, none⟩ = some (.int .i64 0) := X2.out.cell 1
    have y2 : w1.cell? ⟨w.heap.size + 1 + 1, 2, none⟩ = some (.slice none 0 0) := X2.out.cell 2
    have f0 := X2.out.frz 0
    have f1 := X2.out.frz 1
    have f2 := X2.out.frz 2
    go_wp2_with fail
    refine (impl_IsMatrix_any _ _ _ _ _ xs1 _ HP1.out HQ1.out (by exact HA1w.out) HL1.out HX1.out hn1 hcp1).mono ?_
    rintro e w2 ⟨he, hb⟩
    rw [HS1.out] at he
    obtain rfl := he
    clear k0 k1 k2 v0 v1 v2 y0 y1 y2 f0 f1 f2
    have HB2 : Hid (Below w.heap.size w w2) := Lib.hid (HB1.out.trans (hb.mono HB1.out.size))
    replace X0 : Hid (BX 26 w2 (w.heap.size) #[.int .i64 p0, .int .i64 q0, .slice a0 n0 c0]) := Lib.hid (X0.out.keep hb)
    replace X1 : Hid (BX 26 w2 (w.heap.size + 1) #[.int .i64 p1, .int .i64 q1, .slice a1 n1 c1]) := Lib.hid (X1.out.keep hb)
    replace X2 : Hid (BX 26 w2 (w.heap.size + 1 + 1) #[.int .i64 0, .int .i64 0, .slice none 0 0]) := Lib.hid (X2.out.keep hb)
    have s_w2 := hb.size
    replace HA0w : Hid (RdR w2 a0 xs0) := Lib.hid (HA0w.out.keep hb (Nat.le_refl _))
    replace HA1w : Hid (RdR w2 a1 xs1) := Lib.hid (HA1w.out.keep hb (Nat.le_refl _))
    clear hb
    have k0 : w2.cell? ⟨w.heap.size, 0, none⟩ = some (.int .i64 p0) := X0.out.cell 0
    have k1 : w2.cell? ⟨w.heap.size, 1, none⟩ = some (.int .i64 q0) := X0.out.cell 1
    have k2 : w2.cell? ⟨w.heap.size, 2, none⟩ = some (.slice a0 n0 c0) := X0.out.cell 2
    have v0 : w2.cell? ⟨w.heap.size + 1, 0, none⟩ = some (.int .i64 p1) := X1.out.cell 0
    have v1 : w2.cell? ⟨w.heap.size + 1, 1, none⟩ = some (.int .i64 q1) := X1.out.cell 1
    have v2 : w2.cell? ⟨w.heap.size + 1, 2, none⟩ = some (.slice a1 n1 c1) := X1.out.cell 2
    have y0 : w2.cell? ⟨w.heap.size + 1 + 1, 0, none⟩ = some (.int .i64 0) := X2.out.cell 0
    have y1 : w2.cell? ⟨w.heap.size + 1 + 1, 1, none⟩ = some (.int .i64 0) := X2.out.cell 1
    have y2 : w2.cell? ⟨w.heap.size + 1 + 1, 2, none⟩ = some (.slice none 0 0) := X2.out.cell 2
    have f0 := X2.out.frz 0
    have f1 := X2.out.frz 1
    have f2 := X2.out.frz 2
    go_wp2_with fail
    refine bodyPost_ret (v := .tuple #[.agg #[.int .i64 0, .int .i64 0, .slice none 0 0], .int .i64 2]) (by simp [results, Try.results10, go_sem, y0, y1, y2]) rfl ⟨0, 0, [], 2, none, 0, rfl, HR.out, MadeH.none, ?_⟩
    exact (((HB2.out.setCell (by first | (simp; done) | (simp; omega)) _).setCell (by first | (simp; done) | (simp; omega)) _).setCell (by first | (simp; done) | (simp; omega)) _)
  subst hpe
  by_cases hqe : q0 = q1
  rotate_left
  · have HR : Hid (res_PreimageSubspace xs0 p0 q0 xs1 p0 q1 0 0 [] 2) := Lib.hid (.inr ⟨⟨HS0.out, HS1.out⟩, .inl ⟨fun h => hqe h.2, rfl⟩⟩)
    have b1 : (p0 != p0) = false := by simp
    have b2 : (q0 != q1) = true := bne_iff_ne.2 hqe
    have HNE := Lib.hid hqe
    clear hgo hgo1 hqe
    go_enter Try.func10, Try.ntmps10
    go_wp2_with fail
    obtain ⟨W, hW⟩ : ∃ W, W = ((w.alloc (.cells #[.int .i64 p0, .int .i64 q0, .slice a0 n0 c0] 26)).alloc (.cells #[.int .i64 p0, .int .i64 q1, .slice a1 n1 c1] 26)).alloc (.cells #[.int .i64 0, .int .i64 0, .slice none 0 0] 26) := ⟨_, rfl⟩
    rw [← hW]
    have X0 : Hid (BX 26 W (w.heap.size) #[.int .i64 p0, .int .i64 q0, .slice a0 n0 c0]) := Lib.hid (by rw [hW]; exact ((BX.new w _ _).alloc _).alloc _)
    have X1 : Hid (BX 26 W (w.heap.size + 1) #[.int .i64 p0, .int .i64 q1, .slice a1 n1 c1]) := Lib.hid (by rw [hW]; exact (BX.newAt (by simp)).alloc _)
    have X2 : Hid (BX 26 W (w.heap.size + 1 + 1) #[.int .i64 0, .int .i64 0, .slice none 0 0]) := Lib.hid (by rw [hW]; exact BX.newAt (by simp))
    have HB0 : Hid (Below w.heap.size w W) := Lib.hid (by rw [hW]; exact (((Below.refl _ _).alloc (Nat.le_refl _) _).alloc (by simp) _).alloc (by simp; omega) _)
    have sW : W.heap.size = w.heap.size + 3 := by rw [hW]; simp
    have HA0w : Hid (RdR W a0 xs0) := Lib.hid (HA0.out.keep HB0.out (Nat.le_refl _))
    have HA1w : Hid (RdR W a1 xs1) := Lib.hid (HA1.out.keep HB0.out (Nat.le_refl _))
    clear hW
    have k0 : W.cell? ⟨w.heap.size, 0, none⟩ = some (.int .i64 p0) := X0.out.cell 0
    have k1 : W.cell? ⟨w.heap.size, 1, none⟩ = some (.int .i64 q0) := X0.out.cell 1
    have k2 : W.cell? ⟨w.heap.size, 2, none⟩ = some (.slice a0 n0 c0) := X0.out.cell 2
    have v0 : W.cell? ⟨w.heap.size + 1, 0, none⟩ = some (.int .i64 p0) := X1.out.cell 0
    have v1 : W.cell? ⟨w.heap.size + 1, 1, none⟩ = some (.int .i64 q1) := X1.out.cell 1
    have v2 : W.cell? ⟨w.heap.size + 1, 2, none⟩ = some (.slice a1 n1 c1) := X1.out.cell 2
    have y0 : W.cell? ⟨w.heap.size + 1 + 1, 0, none⟩ = some (.int .i64 0) := X2.out.cell 0
    have y1 : W.cell? ⟨w.heap.size + 1 + 1, 1, none⟩ = some (.int .i64 0) := X2.out.cell 1
    have y2 : W.cell? ⟨w.heap.size + 1 + 1, 2, none⟩ = some (.slice none 0 0) := X2.out.cell 2
    have f0 := X2.out.frz 0
    have f1 := X2.out.frz 1
    have f2 := X2.out.frz 2
    refine (impl_IsSubspace_any _ _ _ _ _ xs0 _ HP0.out HQ0.out (by exact HA0w.out) HL0.out HX0.out hn0 hcp0).mono ?_
    rintro e w1 ⟨he, hb⟩
    rw [HS0.out] at he
    obtain rfl := he
    clear k0 k1 k2 v0 v1 v2 y0 y1 y2 f0 f1 f2
    have HB1 : Hid (Below w.heap.size w w1) := Lib.hid (HB0.out.trans (hb.mono HB0.out.size))
    replace X0 : Hid (BX 26 w1 (w.heap.size) #[.int .i64 p0, .int .i64 q0, .slice a0 n0 c0]) := Lib.hid (X0.out.keep hb)
    replace X1 : Hid (BX 26 w1 (w.heap.size + 1) #[.int .i64 p0, .int .i64 q1, .slice a1 n1 c1]) := Lib.hid (X1.out.keep hb)
    replace X2 : Hid (BX 26 w1 (w.heap.size + 1 + 1) #[.int .i64 0, .int .i64 0, .slice none 0 0]) := Lib.hid (X2.out.keep hb)
    have s_w1 := hb.size
    replace HA0w : Hid (RdR w1 a0 xs0) := Lib.hid (HA0w.out.keep hb (Nat.le_refl _))
    replace HA1w : Hid (RdR w1 a1 xs1) := Lib.hid (HA1w.out.keep hb (Nat.le_refl _))
    clear hb
    have k0 : w1.cell? ⟨w.heap.size, 0, none⟩ = some (.int .i64 p0) := X0.out.cell 0
    have k1 : w1.cell? ⟨w.heap.size, 1, none⟩ = some (.int .i64 q0) := X0.out.cell 1
    have k2 : w1.cell? ⟨w.heap.size, 2, none⟩ = some (.slice a0 n0 c0) := X0.out.cell 2
    have v0 : w1.cell? ⟨w.heap.size + 1, 0, none⟩ = some (.int .i64 p0) := X1.out.cell 0
    have v1 : w1.cell? ⟨w.heap.size + 1, 1, none⟩ = some (.int .i64 q1) := X1.out.cell 1
    have v2 : w1.cell? ⟨w.heap.size + 1, 2, none⟩ = some (.slice a1 n1 c1) := X1.out.cell 2
    have y0 : w1.cell? ⟨w.heap.size + 1 + 1, 0, none⟩ = some (.int .i64 0) := X2.out.cell 0
    have y1 : w1.cell? ⟨w.heap.size + 1 + 1, 1, none⟩ = some (.int .i64 0) := X2.out.cell 1
    have y2 : w1.cell? ⟨w.heap.size + 1 + 1, 2, none⟩ = some (.slice none 0 0) := X2.out.cell 2
    have f0 := X2.out.frz 0
    have f1 := X2.out.frz 1
    have f2 := X2.out.frz 2
    go_wp2_with fail
    refine (impl_IsMatrix_any _ _ _ _ _ xs1 _ HP1.out HQ1.out (by exact HA1w.out) HL1.out HX1.out hn1 hcp1).mono ?_
    rintro e w2 ⟨he, hb⟩
    rw [HS1.out] at he
    obtain rfl := he
    clear k0 k1 k2 v0 v1 v2 y0 y1 y2 f0 f1 f2
    have HB2 : Hid (Below w.heap.size w w2) := Lib.hid (HB1.out.trans (hb.mono HB1.out.size))
    replace X0 : Hid (BX 26 w2 (w.heap.size) #[.int .i64 p0, .int .i64 q0, .slice a0 n0 c0]) := Lib.hid (X0.out.keep hb)
    replace X1 : Hid (BX 26 w2 (w.heap.size + 1) #[.int .i64 p0, .int .i64 q1, .slice a1 n1 c1]) := Lib.hid (X1.out.keep hb)
    replace X2 : Hid (BX 26 w2 (w.heap.size + 1 + 1) #[.int .i64 0, .int .i64 0, .slice none 0 0]) := Lib.hid (X2.out.keep hb)
    have s_w2 := hb.size
    replace HA0w : Hid (RdR w2 a0 xs0) := Lib.hid (HA0w.out.keep hb (Nat.le_refl _))
    replace HA1w : Hid (RdR w2 a1 xs1) := Lib.hid (HA1w.out.keep hb (Nat.le_refl _))
    clear hb
    have k0 : w2.cell? ⟨w.heap.size, 0, none⟩ = some (.int .i64 p0) := X0.out.cell 0
    have k1 : w2.cell? ⟨w.heap.size, 1, none⟩ = some (.int .i64 q0) := X0.out.cell 1
    have k2 : w2.cell? ⟨w.heap.size, 2, none⟩ = some (.slice a0 n0 c0) := X0.out.cell 2
    have v0 : w2.cell? ⟨w.heap.size + 1, 0, none⟩ = some (.int .i64 p0) := X1.out.cell 0
    have v1 : w2.cell? ⟨w.heap.size + 1, 1, none⟩ = some (.int .i64 q1) := X1.out.cell 1
    have v2 : w2.cell? ⟨w.heap.size + 1, 2, none⟩ = some (.slice a1 n1 c1) := X1.out.cell 2
    have y0 : w2.cell? ⟨w.heap.size + 1 + 1, 0, none⟩ = some (.int .i64 0) := X2.out.cell 0
    have y1 : w2.cell? ⟨w.heap.size + 1 + 1, 1, none⟩ = some (.int .i64 0) := X2.out.cell 1
    have y2 : w2.cell? ⟨w.heap.size + 1 + 1, 2, none⟩ = some (.slice none 0 0) := X2.out.cell 2
    have f0 := X2.out.frz 0
    have f1 := X2.out.frz 1
    have f2 := X2.out.frz 2
    go_wp2_with fail
    refine bodyPost_ret (v := .tuple #[.agg #[.int .i64 0, .int .i64 0, .slice none 0 0], .int .i64 2]) (by simp [results, Try.results10, go_sem, y0, y1, y2]) rfl ⟨0, 0, [], 2, none, 0, rfl, HR.out, MadeH.none, ?_⟩
    exact (((HB2.out.setCell (by first | (simp; done) | (simp; omega)) _).setCell (by first | (simp; done) | (simp; omega)) _).setCell (by first | (simp; done) | (simp; omega)) _)
  subst hqe
  have q8 := hgo.q8
  have qq0 := hgo.q0
  have hl8 := hgo.len
  have hl81 := hgo1.len
  rw [HL0.out] at hl8
  rw [HL1.out] at hl81
  obtain ⟨m, rfl⟩ : ∃ m : Nat, q0 = m := ⟨q0.toNat, by omega⟩
  have HP := Lib.hid hgo.gp
  have HW0 : Hid (Rws p0 m xs0) := Lib.hid hgo.rws
  have HW1 : Hid (Rws p0 m xs1) := Lib.hid hgo1.rws
  have b1 : (p0 != p0) = false := by simp
  have b2 : ((m : Int) != (m : Int)) = false := by simp
  clear hgo hgo1
  go_enter Try.func10, Try.ntmps10
  go_wp2_with fail
  obtain ⟨W, hW⟩ : ∃ W, W = ((w.alloc (.cells #[.int .i64 p0, .int .i64 m, .slice a0 n0 c0] 26)).alloc (.cells #[.int .i64 p0, .int .i64 m, .slice a1 n1 c1] 26)).alloc (.cells #[.int .i64 0, .int .i64 0, .slice none 0 0] 26) := ⟨_, rfl⟩
  rw [← hW]
  have X0 : Hid (BX 26 W (w.heap.size) #[.int .i64 p0, .int .i64 m, .slice a0 n0 c0]) := Lib.hid (by rw [hW]; exact ((BX.new w _ _).alloc _).alloc _)
  have X1 : Hid (BX 26 W (w.heap.size + 1) #[.int .i64 p0, .int .i64 m, .slice a1 n1 c1]) := Lib.hid (by rw [hW]; exact (BX.newAt (by simp)).alloc _)
  have X2 : Hid (BX 26 W (w.heap.size + 1 + 1) #[.int .i64 0, .int .i64 0, .slice none 0 0]) := Lib.hid (by rw [hW]; exact BX.newAt (by simp))
  have HB0 : Hid (Below w.heap.size w W) := Lib.hid (by rw [hW]; exact (((Below.refl _ _).alloc (Nat.le_refl _) _).alloc (by simp) _).alloc (by simp; omega) _)
  have sW : W.heap.size = w.heap.size + 3 := by rw [hW]; simp
  have HA0w : Hid (RdR W a0 xs0) := Lib.hid (HA0.out.keep HB0.out (Nat.le_refl _))
  have HA1w : Hid (RdR W a1 xs1) := Lib.hid (HA1.out.keep HB0.out (Nat.le_refl _))
  clear hW
  have k0 : W.cell? ⟨w.heap.size, 0, none⟩ = some (.int .i64 p0) := X0.out.cell 0
  have k1 : W.cell? ⟨w.heap.size, 1, none⟩ = some (.int .i64 m) := X0.out.cell 1
  have k2 : W.cell? ⟨w.heap.size, 2, none⟩ = some (.slice a0 n0 c0) := X0.out.cell 2
  have v0 : W.cell? ⟨w.heap.size + 1, 0, none⟩ = some (.int .i64 p0) := X1.out.cell 0
  have v1 : W.cell? ⟨w.heap.size + 1, 1, none⟩ = some (.int .i64 m) := X1.out.cell 1
  have v2 : W.cell? ⟨w.heap.size + 1, 2, none⟩ = some (.slice a1 n1 c1) := X1.out.cell 2
  have y0 : W.cell? ⟨w.heap.size + 1 + 1, 0, none⟩ = some (.int .i64 0) := X2.out.cell 0
  have y1 : W.cell? ⟨w.heap.size + 1 + 1, 1, none⟩ = some (.int .i64 0) := X2.out.cell 1
  have y2 : W.cell? ⟨w.heap.size + 1 + 1, 2, none⟩ = some (.slice none 0 0) := X2.out.cell 2
  have f0 := X2.out.frz 0
  have f1 := X2.out.frz 1
  have f2 := X2.out.frz 2
  refine (impl_IsSubspace_any _ _ _ _ _ xs0 _ HP0.out HQ0.out (by exact HA0w.out) HL0.out HX0.out hn0 hcp0).mono ?_
  rintro e w1 ⟨he, hb⟩
  rw [HS0.out] at he
  obtain rfl := he
  clear k0 k1 k2 v0 v1 v2 y0 y1 y2 f0 f1 f2
  have HB1 : Hid (Below w.heap.size w w1) := Lib.hid (HB0.out.trans (hb.mono HB0.out.size))
  replace X0 : Hid (BX 26 w1 (w.heap.size) #[.int .i64 p0, .int .i64 m, .slice a0 n0 c0]) := Lib.hid (X0.out.keep hb)
  replace X1 : Hid (BX 26 w1 (w.heap.size + 1) #[.int .i64 p0, .int .i64 m, .slice a1 n1 c1]) := Lib.hid (X1.out.keep hb)
  replace X2 : Hid (BX 26 w1 (w.heap.size + 1 + 1) #[.int .i64 0, .int .i64 0, .slice none 0 0]) := Lib.hid (X2.out.keep hb)
  have s_w1 := hb.size
  replace HA0w : Hid (RdR w1 a0 xs0) := Lib.hid (HA0w.out.keep hb (Nat.le_refl _))
  replace HA1w : Hid (RdR w1 a1 xs1) := Lib.hid (HA1w.out.keep hb (Nat.le_refl _))
  clear hb
  have k0 : w1.cell? ⟨w.heap.size, 0, none⟩ = some (.int .i64 p0) := X0.out.cell 0
  have k1 : w1.cell? ⟨w.heap.size, 1, none⟩ = some (.int .i64 m) := X0.out.cell 1
  have k2 : w1.cell? ⟨w.heap.size, 2, none⟩ = some (.slice a0 n0 c0) := X0.out.cell 2
  have v0 : w1.cell? ⟨w.heap.size + 1, 0, none⟩ = some (.int .i64 p0) := X1.out.cell 0
  have v1 : w1.cell? ⟨w.heap.size + 1, 1, none⟩ = some (.int .i64 m) := X1.out.cell 1
  have v2 : w1.cell? ⟨w.heap.size + 1, 2, none⟩ = some (.slice a1 n1 c1) := X1.out.cell 2
  have y0 : w1.cell? ⟨w.heap.size + 1 + 1, 0, none⟩ = some (.int .i64 0) := X2.out.cell 0
  have y1 : w1.cell? ⟨w.heap.size + 1 + 1, 1, none⟩ = some (.int .i64 0) := X2.out.cell 1
  have y2 : w1.cell? ⟨w.heap.size + 1 + 1, 2, none⟩ = some (.slice none 0 0) := X2.out.cell 2
  have f0 := X2.out.frz 0
  have f1 := X2.out.frz 1
  have f2 := X2.out.frz 2
  go_wp2_with fail
  refine (impl_IsMatrix_any _ _ _ _ _ xs1 _ HP1.out HQ1.out (by exact HA1w.out) HL1.out HX1.out hn1 hcp1).mono ?_
  rintro e w2 ⟨he, hb⟩
  rw [HS1.out] at he
  obtain rfl := he
  clear k0 k1 k2 v0 v1 v2 y0 y1 y2 f0 f1 f2
  have HB2 : Hid (Below w.heap.size w w2) := Lib.hid (HB1.out.trans (hb.mono HB1.out.size))
  replace X0 : Hid (BX 26 w2 (w.heap.size) #[.int .i64 p0, .int .i64 m, .slice a0 n0 c0]) := Lib.hid (X0.out.keep hb)
  replace X1 : Hid (BX 26 w2 (w.heap.size + 1) #[.int .i64 p0, .int .i64 m, .slice a1 n1 c1]) := Lib.hid (X1.out.keep hb)
  replace X2 : Hid (BX 26 w2 (w.heap.size + 1 + 1) #[.int .i64 0, .int .i64 0, .slice none 0 0]) := Lib.hid (X2.out.keep hb)
  have s_w2 := hb.size
  replace HA0w : Hid (RdR w2 a0 xs0) := Lib.hid (HA0w.out.keep hb (Nat.le_refl _))
  replace HA1w : Hid (RdR w2 a1 xs1) := Lib.hid (HA1w.out.keep hb (Nat.le_refl _))
  clear hb
  have k0 : w2.cell? ⟨w.heap.size, 0, none⟩ = some (.int .i64 p0) := X0.out.cell 0
  have k1 : w2.cell? ⟨w.heap.size, 1, none⟩ = some (.int .i64 m) := X0.out.cell 1
  have k2 : w2.cell? ⟨w.heap.size, 2, none⟩ = some (.slice a0 n0 c0) := X0.out.cell 2
  have v0 : w2.cell? ⟨w.heap.size + 1, 0, none⟩ = some (.int .i64 p0) := X1.out.cell 0
  have v1 : w2.cell? ⟨w.heap.size + 1, 1, none⟩ = some (.int .i64 m) := X1.out.cell 1
  have v2 : w2.cell? ⟨w.heap.size + 1, 2, none⟩ = some (.slice a1 n1 c1) := X1.out.cell 2
  have y0 : w2.cell? ⟨w.heap.size + 1 + 1, 0, none⟩ = some (.int .i64 0) := X2.out.cell 0
  have y1 : w2.cell? ⟨w.heap.size + 1 + 1, 1, none⟩ = some (.int .i64 0) := X2.out.cell 1
  have y2 : w2.cell? ⟨w.heap.size + 1 + 1, 2, none⟩ = some (.slice none 0 0) := X2.out.cell 2
  have f0 := X2.out.frz 0
  have f1 := X2.out.frz 1
  have f2 := X2.out.frz 2
  go_wp2_with fail
  obtain ⟨A0, C0, hrv, hv0⟩ := HA0w.out.fun HL0.out
  have HRV0 := Lib.hid hrv
  have HV0 := Lib.hid hv0
  clear hrv hv0
  go_region_held3 (fun w' => w'.cell? ⟨w.heap.size, 0, none⟩ = some (.int .i64 p0) ∧ w'.cell? ⟨w.heap.size, 1, none⟩ = some (.int .i64 m) ∧ w'.cell? ⟨w.heap.size, 2, none⟩ = some (.slice a0 n0 c0) ∧ w'.cell? ⟨w.heap.size + 1, 2, none⟩ = some (.slice a1 n1 c1)) (first | ((try dsimp only); (refine ⟨?_, ?_, ?_, ?_⟩) <;> first | with_reducible assumption | (rw [cell_ne (by first | (simp; done) | (simp; omega) | omega), cell_ne (by first | (simp; done) | (simp; omega) | omega), cell_ne (by first | (simp; done) | (simp; omega) | omega)]; with_reducible assumption) | (rw [cell_al (by first | (simp; done) | (simp; omega) | omega)]; with_reducible assumption)) | go_keep)
    (first
      | (go_at_call 35; (with_reducible refine (copyRows_any _ _ _ xs1 _ ?_ HL1.out (HW1.out.short (by omega) HL1.out) (by omega)).mono ?_); (first | exact (show RdR w2 a1 xs1 from HA1w.out) | exact (show RdR (w2.alloc _) a1 xs1 from HA1w.out.alloc _)); rintro e u1 ⟨ac, cc, rfl, ho, hb0⟩; obtain ⟨Ac, Cc, ho⟩ := ho; (first | (have hbi : Below w2.heap.size w2 u1 := ⟨hb0.os, hb0.tape, hb0.output, hb0.size, hb0.block⟩) | (have hbz : Below (w2.alloc (.cells #[.int .i64 0, .int .i64 0, .slice none 0 0] 26)).heap.size (w2.alloc (.cells #[.int .i64 0, .int .i64 0, .slice none 0 0] 26)) u1 := ⟨hb0.os, hb0.tape, hb0.output, hb0.size, hb0.block⟩; have hbi : Below w2.heap.size w2 u1 := below_al1 hbz; have HZu1 : Hid (BX 26 u1 w2.heap.size #[.int .i64 0, .int .i64 0, .slice none 0 0]) := Lib.hid ((BX.new w2 _ _).keep hbz); have HNE : ∀ x : Addr, ac = some x → x.block ≠ w2.heap.size := (fun x hx => by have := (ownsRow_block ho.own x hx).1; simp at this; omega); have lz1 := HZu1.out.lt)); have HO1 : Hid (OwnR 45 2 u1 w2.heap.size ac n1 cc xs1 Ac Cc) := Lib.hid (ho.mono (by first | exact Nat.le_refl _ | simp)); have HU1 : Hid (Below w2.heap.size w2 u1) := Lib.hid hbi; have HRV := Lib.hid (RdV.keep2 HRV0.out hbi); have X0' : Hid (BX 26 u1 (w.heap.size) #[.int .i64 p0, .int .i64 m, .slice a0 n0 c0]) := Lib.hid (X0.out.keep hbi); have X1' : Hid (BX 26 u1 (w.heap.size + 1) #[.int .i64 p0, .int .i64 m, .slice a1 n1 c1]) := Lib.hid (X1.out.keep hbi); have X2' : Hid (BX 26 u1 (w.heap.size + 1 + 1) #[.int .i64 0, .int .i64 0, .slice none 0 0]) := Lib.hid (X2.out.keep hbi); have k0' : u1.cell? ⟨w.heap.size, 0, none⟩ = some (.int .i64 p0) := X0'.out.cell 0; have k1' : u1.cell? ⟨w.heap.size, 1, none⟩ = some (.int .i64 m) := X0'.out.cell 1; have k2' : u1.cell? ⟨w.heap.size, 2, none⟩ = some (.slice a0 n0 c0) := X0'.out.cell 2; have v0' : u1.cell? ⟨w.heap.size + 1, 0, none⟩ = some (.int .i64 p0) := X1'.out.cell 0; have v1' : u1.cell? ⟨w.heap.size + 1, 1, none⟩ = some (.int .i64 m) := X1'.out.cell 1; have v2' : u1.cell? ⟨w.heap.size + 1, 2, none⟩ = some (.slice a1 n1 c1) := X1'.out.cell 2; have y0' : u1.cell? ⟨w.heap.size + 1 + 1, 0, none⟩ = some (.int .i64 0) := X2'.out.cell 0; have y1' : u1.cell? ⟨w.heap.size + 1 + 1, 1, none⟩ = some (.int .i64 0) := X2'.out.cell 1; have y2' : u1.cell? ⟨w.heap.size + 1 + 1, 2, none⟩ = some (.slice none 0 0) := X2'.out.cell 2; have f0' := X2'.out.frz 0; have f1' := X2'.out.frz 1; have f2' := X2'.out.frz 2; have su1 := hbi.size; (first | clear ho hb0 hbz hbi | clear ho hb0 hbi))
      | (refine step_appSW rfl (.tmp 43) (.tmp 45) 22 rfl w2.heap.size 45 (.slice none 0 0) 24 Try.underlying22 Try.infoR rfl (by decide) _ _ _ _ rfl _ _ _ rfl (by first | exact HO1.out.own | exact (HO1.out.keep ((Below.refl _ _).alloc (Nat.le_refl _) _) (Nat.le_refl _)).own) (rowVals xs0 A0 C0 n0) (rowVals_len _ _ _ _) (by first | exact HRV.out | exact HRV.out.keep2 ((Below.refl _ _).alloc (Nat.le_refl _) _)) (rowVals_one _ _ _ _) (by omega) (by first | exact su1 | (simp; omega)) ?_; rintro ad cd u2 r4 q4 g4; (first | (have HA2 := Lib.hid (app_rd HO1.out HU1.out HL0.out HV0.out r4 (show Chg _ u1 u2 from ⟨g4.os, g4.tape, g4.output, g4.size, g4.block⟩))) | (have HA2 := Lib.hid (app_rd (HO1.out.keep ((Below.refl u1.heap.size u1).alloc (Nat.le_refl _) (.cells #[.int .i64 0, .int .i64 0, .slice none 0 0] 26)) (Nat.le_refl _)) (HU1.out.alloc su1 (.cells #[.int .i64 0, .int .i64 0, .slice none 0 0] 26)) HL0.out HV0.out r4 (show Chg _ (u1.alloc (.cells #[.int .i64 0, .int .i64 0, .slice none 0 0] 26)) u2 from ⟨g4.os, g4.tape, g4.output, g4.size, g4.block⟩)); have HZu2 : Hid (BX 26 u2 u1.heap.size #[.int .i64 0, .int .i64 0, .slice none 0 0]) := Lib.hid ((BX.new u1 _ _).chg (show Chg _ (u1.alloc (.cells #[.int .i64 0, .int .i64 0, .slice none 0 0] 26)) u2 from ⟨g4.os, g4.tape, g4.output, g4.size, g4.block⟩) (fun hx => by obtain ⟨x, hx, e⟩ := hx; have := (ownsRow_block HO1.out.own x hx).2; omega)); have lz2 := HZu2.out.lt)); (first | (have HZu2 := Lib.hid (HZu1.out.chg (show Chg _ u1 u2 from ⟨g4.os, g4.tape, g4.output, g4.size, g4.block⟩) (fun hx => by obtain ⟨x, hx, e⟩ := hx; exact HNE x hx e)); have lz2 := HZu2.out.lt) | skip); have X0'' : Hid (BX 26 u2 (w.heap.size) #[.int .i64 p0, .int .i64 m, .slice a0 n0 c0]) := Lib.hid (X0.out.keep HA2.out.2); have X1'' : Hid (BX 26 u2 (w.heap.size + 1) #[.int .i64 p0, .int .i64 m, .slice a1 n1 c1]) := Lib.hid (X1.out.keep HA2.out.2); have X2'' : Hid (BX 26 u2 (w.heap.size + 1 + 1) #[.int .i64 0, .int .i64 0, .slice none 0 0]) := Lib.hid (X2.out.keep HA2.out.2); have k0'' : u2.cell? ⟨w.heap.size, 0, none⟩ = some (.int .i64 p0) := X0''.out.cell 0; have k1'' : u2.cell? ⟨w.heap.size, 1, none⟩ = some (.int .i64 m) := X0''.out.cell 1; have k2'' : u2.cell? ⟨w.heap.size, 2, none⟩ = some (.slice a0 n0 c0) := X0''.out.cell 2; have v0'' : u2.cell? ⟨w.heap.size + 1, 0, none⟩ = some (.int .i64 p0) := X1''.out.cell 0; have v1'' : u2.cell? ⟨w.heap.size + 1, 1, none⟩ = some (.int .i64 m) := X1''.out.cell 1; have v2'' : u2.cell? ⟨w.heap.size + 1, 2, none⟩ = some (.slice a1 n1 c1) := X1''.out.cell 2; have y0'' : u2.cell? ⟨w.heap.size + 1 + 1, 0, none⟩ = some (.int .i64 0) := X2''.out.cell 0; have y1'' : u2.cell? ⟨w.heap.size + 1 + 1, 1, none⟩ = some (.int .i64 0) := X2''.out.cell 1; have y2'' : u2.cell? ⟨w.heap.size + 1 + 1, 2, none⟩ = some (.slice none 0 0) := X2''.out.cell 2; have f0'' := X2''.out.frz 0; have f1'' := X2''.out.frz 1; have f2'' := X2''.out.frz 2; have su2 := HA2.out.2.size; (first | clear r4 q4 g4 HNE | clear r4 q4 g4))
      | (go_at_call 34; (with_reducible refine (spanOf_any p0 HP.out m _ (n1 + n0) _ (xs1 ++ xs0) _ ?_ (by rw [List.length_append, HL1.out, HL0.out]) (HW1.out.app HW0.out) (by omega) (by omega)).mono ?_); (first | exact HA2.out.1 | exact HA2.out.1.alloc _); rintro e u3 ⟨R3, a3, c3, rfl, hres, ho, hb0⟩; (first | (have hbi : Below u2.heap.size u2 u3 := ⟨hb0.os, hb0.tape, hb0.output, hb0.size, hb0.block⟩) | (have hbz : Below (u2.alloc (.cells #[.int .i64 0, .int .i64 0, .slice none 0 0] 26)).heap.size (u2.alloc (.cells #[.int .i64 0, .int .i64 0, .slice none 0 0] 26)) u3 := ⟨hb0.os, hb0.tape, hb0.output, hb0.size, hb0.block⟩; have hbi : Below u2.heap.size u2 u3 := below_al1 hbz; have HZu3 : Hid (BX 26 u3 u2.heap.size #[.int .i64 0, .int .i64 0, .slice none 0 0]) := Lib.hid ((BX.new u2 _ _).keep hbz))); (first | (have HZu3 := Lib.hid (HZu2.out.keep hbi)) | skip); have HB3u : Hid (Below w2.heap.size w2 u3) := Lib.hid (HA2.out.2.trans (hbi.mono su2)); have X0''' : Hid (BX 26 u3 (w.heap.size) #[.int .i64 p0, .int .i64 m, .slice a0 n0 c0]) := Lib.hid (X0.out.keep HB3u.out); have X1''' : Hid (BX 26 u3 (w.heap.size + 1) #[.int .i64 p0, .int .i64 m, .slice a1 n1 c1]) := Lib.hid (X1.out.keep HB3u.out); have X2''' : Hid (BX 26 u3 (w.heap.size + 1 + 1) #[.int .i64 0, .int .i64 0, .slice none 0 0]) := Lib.hid (X2.out.keep HB3u.out); have k0''' : u3.cell? ⟨w.heap.size, 0, none⟩ = some (.int .i64 p0) := X0'''.out.cell 0; have k1''' : u3.cell? ⟨w.heap.size, 1, none⟩ = some (.int .i64 m) := X0'''.out.cell 1; have k2''' : u3.cell? ⟨w.heap.size, 2, none⟩ = some (.slice a0 n0 c0) := X0'''.out.cell 2; have v0''' : u3.cell? ⟨w.heap.size + 1, 0, none⟩ = some (.int .i64 p0) := X1'''.out.cell 0; have v1''' : u3.cell? ⟨w.heap.size + 1, 1, none⟩ = some (.int .i64 m) := X1'''.out.cell 1; have v2''' : u3.cell? ⟨w.heap.size + 1, 2, none⟩ = some (.slice a1 n1 c1) := X1'''.out.cell 2; have y0''' : u3.cell? ⟨w.heap.size + 1 + 1, 0, none⟩ = some (.int .i64 0) := X2'''.out.cell 0; have y1''' : u3.cell? ⟨w.heap.size + 1 + 1, 1, none⟩ = some (.int .i64 0) := X2'''.out.cell 1; have y2''' : u3.cell? ⟨w.heap.size + 1 + 1, 2, none⟩ = some (.slice none 0 0) := X2'''.out.cell 2; have f0''' := X2'''.out.frz 0; have f1''' := X2'''.out.frz 1; have f2''' := X2'''.out.frz 2; have su3 := HB3u.out.size; (first | (have zc0 : u3.cell? ⟨_, 0, none⟩ = some (.int .i64 0) := HZu3.out.cell 0) | skip); (first | (have zf0 := HZu3.out.frz 0) | skip); (first | (have zc1 : u3.cell? ⟨_, 1, none⟩ = some (.int .i64 0) := HZu3.out.cell 1) | skip); (first | (have zf1 := HZu3.out.frz 1) | skip); (first | (have zc2 : u3.cell? ⟨_, 2, none⟩ = some (.slice none 0 0) := HZu3.out.cell 2) | skip); (first | (have zf2 := HZu3.out.frz 2) | skip); (first | clear ho hb0 hbz hbi hres | clear ho hb0 hbi hres)))
  all_goals
    first
      | (obtain ⟨w3, hWf⟩ : ∃ x, x = (((u3).setCell ⟨w2.heap.size, 0, none⟩ (.int .i64 p0)).setCell ⟨w2.heap.size, 1, none⟩ (.int .i64 m)).setCell ⟨w2.heap.size, 2, none⟩ (.slice a3 R3.length c3) := ⟨_, rfl⟩; rw [← hWf]; have hzf : BX 26 w3 w2.heap.size #[.int .i64 p0, .int .i64 m, .slice a3 R3.length c3] := (by rw [hWf]; exact (((HZu3.out.set 0 _).set 1 _).set 2 _)); have hbf : Below w2.heap.size w2 w3 := (by rw [hWf]; exact (((HB3u.out.setCell (by first | (simp; done) | (simp; omega) | omega) _).setCell (by first | (simp; done) | (simp; omega) | omega) _).setCell (by first | (simp; done) | (simp; omega) | omega) _)); obtain ⟨bb, hbe⟩ : ∃ x, x = w2.heap.size := ⟨_, rfl⟩; rw [← hbe] at hzf ⊢; clear hWf hbe)
      | (obtain ⟨w3, hWf⟩ : ∃ x, x = (((u3).setCell ⟨u1.heap.size, 0, none⟩ (.int .i64 p0)).setCell ⟨u1.heap.size, 1, none⟩ (.int .i64 m)).setCell ⟨u1.heap.size, 2, none⟩ (.slice a3 R3.length c3) := ⟨_, rfl⟩; rw [← hWf]; have hzf : BX 26 w3 u1.heap.size #[.int .i64 p0, .int .i64 m, .slice a3 R3.length c3] := (by rw [hWf]; exact (((HZu3.out.set 0 _).set 1 _).set 2 _)); have hbf : Below w2.heap.size w2 w3 := (by rw [hWf]; exact (((HB3u.out.setCell (by first | (simp; done) | (simp; omega) | omega) _).setCell (by first | (simp; done) | (simp; omega) | omega) _).setCell (by first | (simp; done) | (simp; omega) | omega) _)); obtain ⟨bb, hbe⟩ : ∃ x, x = u1.heap.size := ⟨_, rfl⟩; rw [← hbe] at hzf ⊢; clear hWf hbe)
      | (obtain ⟨w3, hWf⟩ : ∃ x, x = (((u3).setCell ⟨u2.heap.size, 0, none⟩ (.int .i64 p0)).setCell ⟨u2.heap.size, 1, none⟩ (.int .i64 m)).setCell ⟨u2.heap.size, 2, none⟩ (.slice a3 R3.length c3) := ⟨_, rfl⟩; rw [← hWf]; have hzf : BX 26 w3 u2.heap.size #[.int .i64 p0, .int .i64 m, .slice a3 R3.length c3] := (by rw [hWf]; exact (((HZu3.out.set 0 _).set 1 _).set 2 _)); have hbf : Below w2.heap.size w2 w3 := (by rw [hWf]; exact (((HB3u.out.setCell (by first | (simp; done) | (simp; omega) | omega) _).setCell (by first | (simp; done) | (simp; omega) | omega) _).setCell (by first | (simp; done) | (simp; omega) | omega) _)); obtain ⟨bb, hbe⟩ : ∃ x, x = u2.heap.size := ⟨_, rfl⟩; rw [← hbe] at hzf ⊢; clear hWf hbe)
      | (obtain ⟨w3, hWf⟩ : ∃ x, x = u3.alloc (.cells #[.int .i64 p0, .int .i64 m, .slice a3 R3.length c3] 26) := ⟨_, rfl⟩; rw [← hWf]; have hzf : BX 26 w3 u3.heap.size #[.int .i64 p0, .int .i64 m, .slice a3 R3.length c3] := (by rw [hWf]; exact BX.new u3 _ _); have hbf : Below w2.heap.size w2 w3 := (by rw [hWf]; exact (HB3u.out.alloc (by omega) _)); obtain ⟨bb, hbe⟩ : ∃ x, x = u3.heap.size := ⟨_, rfl⟩; rw [← hbe] at hzf ⊢; clear hWf hbe)
    have hb := hbf
    have HXB := Lib.hid hzf
    clear hzf hbf
    clear k0 k1 k2 v0 v1 v2 y0 y1 y2 f0 f1 f2
    have HB3 : Hid (Below w.heap.size w w3) := Lib.hid (HB2.out.trans (hb.mono HB2.out.size))
    replace X0 : Hid (BX 26 w3 (w.heap.size) #[.int .i64 p0, .int .i64 m, .slice a0 n0 c0]) := Lib.hid (X0.out.keep hb)
    replace X1 : Hid (BX 26 w3 (w.heap.size + 1) #[.int .i64 p0, .int .i64 m, .slice a1 n1 c1]) := Lib.hid (X1.out.keep hb)
    replace X2 : Hid (BX 26 w3 (w.heap.size + 1 + 1) #[.int .i64 0, .int .i64 0, .slice none 0 0]) := Lib.hid (X2.out.keep hb)
    have s_w3 := hb.size
    replace HA0w : Hid (RdR w3 a0 xs0) := Lib.hid (HA0w.out.keep hb (Nat.le_refl _))
    replace HA1w : Hid (RdR w3 a1 xs1) := Lib.hid (HA1w.out.keep hb (Nat.le_refl _))
    clear hb
    have k0 : w3.cell? ⟨w.heap.size, 0, none⟩ = some (.int .i64 p0) := X0.out.cell 0
    have k1 : w3.cell? ⟨w.heap.size, 1, none⟩ = some (.int .i64 m) := X0.out.cell 1
    have k2 : w3.cell? ⟨w.heap.size, 2, none⟩ = some (.slice a0 n0 c0) := X0.out.cell 2
    have v0 : w3.cell? ⟨w.heap.size + 1, 0, none⟩ = some (.int .i64 p0) := X1.out.cell 0
    have v1 : w3.cell? ⟨w.heap.size + 1, 1, none⟩ = some (.int .i64 m) := X1.out.cell 1
    have v2 : w3.cell? ⟨w.heap.size + 1, 2, none⟩ = some (.slice a1 n1 c1) := X1.out.cell 2
    have y0 : w3.cell? ⟨w.heap.size + 1 + 1, 0, none⟩ = some (.int .i64 0) := X2.out.cell 0
    have y1 : w3.cell? ⟨w.heap.size + 1 + 1, 1, none⟩ = some (.int .i64 0) := X2.out.cell 1
    have y2 : w3.cell? ⟨w.heap.size + 1 + 1, 2, none⟩ = some (.slice none 0 0) := X2.out.cell 2
    have f0 := X2.out.frz 0
    have f1 := X2.out.frz 1
    have f2 := X2.out.frz 2
    obtain ⟨An, Cn, hrvn, hvn⟩ := HA0w.out.fun HL0.out
    have HRVn := Lib.hid hrvn
    have HVn := Lib.hid hvn
    clear hrvn hvn
    have bq3 : w3.cell? ⟨bb, 1, none⟩ = some (.int .i64 m) := HXB.out.cell 1
    go_wp2_with fail
    go_region_held3 (fun w' => w'.cell? ⟨w.heap.size, 0, none⟩ = some (.int .i64 p0) ∧ w'.cell? ⟨w.heap.size + 1, 2, none⟩ = some (.slice a1 n1 c1) ∧ w'.cell? ⟨w.heap.size, 2, none⟩ = some (.slice a0 n0 c0) ∧ w'.cell? ⟨bb, 1, none⟩ = some (.int .i64 m)) (first | ((try dsimp only); (refine ⟨?_, ?_, ?_, ?_⟩) <;> first | with_reducible assumption | (rw [cell_ne (by first | (simp; done) | (simp; omega) | omega), cell_ne (by first | (simp; done) | (simp; omega) | omega), cell_ne (by first | (simp; done) | (simp; omega) | omega)]; with_reducible assumption) | (rw [cell_al (by first | (simp; done) | (simp; omega) | omega)]; with_reducible assumption)) | go_keep)
      (first
        | (go_at_call 35; (with_reducible refine (copyRows_any _ _ _ xs1 _ ?_ HL1.out (HW1.out.short (by omega) HL1.out) (by omega)).mono ?_); exact (show RdR w3 a1 xs1 from HA1w.out); rintro e u5 ⟨ac5, cc5, rfl, ho, hb0⟩; have hb : Below w3.heap.size w3 u5 := ⟨hb0.os, hb0.tape, hb0.output, hb0.size, hb0.block⟩; obtain ⟨Ac5, Cc5, ho⟩ := ho; have HO5 : Hid (OwnR 45 2 u5 w3.heap.size ac5 n1 cc5 xs1 Ac5 Cc5) := Lib.hid ho; have HU5 := Lib.hid hb; have HRV5 := Lib.hid (RdV.keep2 HRVn.out hb); have X05 : Hid (BX 26 u5 (w.heap.size) #[.int .i64 p0, .int .i64 m, .slice a0 n0 c0]) := Lib.hid (X0.out.keep hb); have X15 : Hid (BX 26 u5 (w.heap.size + 1) #[.int .i64 p0, .int .i64 m, .slice a1 n1 c1]) := Lib.hid (X1.out.keep hb); have X25 : Hid (BX 26 u5 (w.heap.size + 1 + 1) #[.int .i64 0, .int .i64 0, .slice none 0 0]) := Lib.hid (X2.out.keep hb); have k05 : u5.cell? ⟨w.heap.size, 0, none⟩ = some (.int .i64 p0) := X05.out.cell 0; have k15 : u5.cell? ⟨w.heap.size, 1, none⟩ = some (.int .i64 m) := X05.out.cell 1; have k25 : u5.cell? ⟨w.heap.size, 2, none⟩ = some (.slice a0 n0 c0) := X05.out.cell 2; have v05 : u5.cell? ⟨w.heap.size + 1, 0, none⟩ = some (.int .i64 p0) := X15.out.cell 0; have v15 : u5.cell? ⟨w.heap.size + 1, 1, none⟩ = some (.int .i64 m) := X15.out.cell 1; have v25 : u5.cell? ⟨w.heap.size + 1, 2, none⟩ = some (.slice a1 n1 c1) := X15.out.cell 2; have y05 : u5.cell? ⟨w.heap.size + 1 + 1, 0, none⟩ = some (.int .i64 0) := X25.out.cell 0; have y15 : u5.cell? ⟨w.heap.size + 1 + 1, 1, none⟩ = some (.int .i64 0) := X25.out.cell 1; have y25 : u5.cell? ⟨w.heap.size + 1 + 1, 2, none⟩ = some (.slice none 0 0) := X25.out.cell 2; have f05 := X25.out.frz 0; have f15 := X25.out.frz 1; have f25 := X25.out.frz 2; have bqx : u5.cell? ⟨bb, 1, none⟩ = some (.int .i64 m) := (HXB.out.keep hb).cell 1; have bqy5 := bqx; have su5 := hb.size; clear ho hb hb0)
          | (refine step_appSW rfl (.tmp 52) (.tmp 54) 22 rfl w3.heap.size 45 (.slice none 0 0) 24 Try.underlying22 Try.infoR rfl (by decide) _ _ _ _ rfl _ _ _ rfl (by exact HO5.out.own) (rowVals xs0 An Cn n0) (rowVals_len _ _ _ _) (by exact HRV5.out) (rowVals_one _ _ _ _) (by omega) (by exact su5) ?_; rintro ad6 cd6 u6 r4 q4 g4; have HA6 := Lib.hid (app_rd HO5.out HU5.out HL0.out HVn.out r4 ⟨g4.os, g4.tape, g4.output, g4.size, g4.block⟩); have X06 : Hid (BX 26 u6 (w.heap.size) #[.int .i64 p0, .int .i64 m, .slice a0 n0 c0]) := Lib.hid (X0.out.keep HA6.out.2); have X16 : Hid (BX 26 u6 (w.heap.size + 1) #[.int .i64 p0, .int .i64 m, .slice a1 n1 c1]) := Lib.hid (X1.out.keep HA6.out.2); have X26 : Hid (BX 26 u6 (w.heap.size + 1 + 1) #[.int .i64 0, .int .i64 0, .slice none 0 0]) := Lib.hid (X2.out.keep HA6.out.2); have k06 : u6.cell? ⟨w.heap.size, 0, none⟩ = some (.int .i64 p0) := X06.out.cell 0; have k16 : u6.cell? ⟨w.heap.size, 1, none⟩ = some (.int .i64 m) := X06.out.cell 1; have k26 : u6.cell? ⟨w.heap.size, 2, none⟩ = some (.slice a0 n0 c0) := X06.out.cell 2; have v06 : u6.cell? ⟨w.heap.size + 1, 0, none⟩ = some (.int .i64 p0) := X16.out.cell 0; have v16 : u6.cell? ⟨w.heap.size + 1, 1, none⟩ = some (.int .i64 m) := X16.out.cell 1; have v26 : u6.cell? ⟨w.heap.size + 1, 2, none⟩ = some (.slice a1 n1 c1) := X16.out.cell 2; have y06 : u6.cell? ⟨w.heap.size + 1 + 1, 0, none⟩ = some (.int .i64 0) := X26.out.cell 0; have y16 : u6.cell? ⟨w.heap.size + 1 + 1, 1, none⟩ = some (.int .i64 0) := X26.out.cell 1; have y26 : u6.cell? ⟨w.heap.size + 1 + 1, 2, none⟩ = some (.slice none 0 0) := X26.out.cell 2; have f06 := X26.out.frz 0; have f16 := X26.out.frz 1; have f26 := X26.out.frz 2; have bqx : u6.cell? ⟨bb, 1, none⟩ = some (.int .i64 m) := (HXB.out.keep HA6.out.2).cell 1; have bqy6 := bqx; have su6 := HA6.out.2.size; clear r4 q4 g4)
        | (go_at_call 36; (with_reducible refine (leftKernelRows_any p0 HP.out _ (n1 + n0) _ m (xs1 ++ xs0) _ ?_ (by rw [List.length_append, HL1.out, HL0.out]) (HW1.out.app HW0.out) (by omega) (by omega)).mono ?_); exact HA6.out.1; rintro e w4 ⟨N, a4, c4, rfl, hnr, ho, hb0⟩; have hb : Below u6.heap.size u6 w4 := ⟨hb0.os, hb0.tape, hb0.output, hb0.size, hb0.block⟩; have HB7 : Hid (Below w3.heap.size w3 w4) := Lib.hid (HA6.out.2.trans (hb.mono su6)); have X07 : Hid (BX 26 w4 (w.heap.size) #[.int .i64 p0, .int .i64 m, .slice a0 n0 c0]) := Lib.hid (X0.out.keep HB7.out); have X17 : Hid (BX 26 w4 (w.heap.size + 1) #[.int .i64 p0, .int .i64 m, .slice a1 n1 c1]) := Lib.hid (X1.out.keep HB7.out); have X27 : Hid (BX 26 w4 (w.heap.size + 1 + 1) #[.int .i64 0, .int .i64 0, .slice none 0 0]) := Lib.hid (X2.out.keep HB7.out); have k07 : w4.cell? ⟨w.heap.size, 0, none⟩ = some (.int .i64 p0) := X07.out.cell 0; have k17 : w4.cell? ⟨w.heap.size, 1, none⟩ = some (.int .i64 m) := X07.out.cell 1; have k27 : w4.cell? ⟨w.heap.size, 2, none⟩ = some (.slice a0 n0 c0) := X07.out.cell 2; have v07 : w4.cell? ⟨w.heap.size + 1, 0, none⟩ = some (.int .i64 p0) := X17.out.cell 0; have v17 : w4.cell? ⟨w.heap.size + 1, 1, none⟩ = some (.int .i64 m) := X17.out.cell 1; have v27 : w4.cell? ⟨w.heap.size + 1, 2, none⟩ = some (.slice a1 n1 c1) := X17.out.cell 2; have y07 : w4.cell? ⟨w.heap.size + 1 + 1, 0, none⟩ = some (.int .i64 0) := X27.out.cell 0; have y17 : w4.cell? ⟨w.heap.size + 1 + 1, 1, none⟩ = some (.int .i64 0) := X27.out.cell 1; have y27 : w4.cell? ⟨w.heap.size + 1 + 1, 2, none⟩ = some (.slice none 0 0) := X27.out.cell 2; have f07 := X27.out.frz 0; have f17 := X27.out.frz 1; have f27 := X27.out.frz 2; have bq7 : w4.cell? ⟨bb, 1, none⟩ = some (.int .i64 m) := (HXB.out.keep HB7.out).cell 1; have HNR := Lib.hid hnr; have HN4 := Lib.hid ho.rd; have su7 := HB7.out.size; clear ho hb hb0 hnr))
    
    have hnl := HNR.out.rref.len
    have hll : (xs1 ++ xs0).length = n1 + n0 := by rw [List.length_append, HL1.out, HL0.out]
    have HNW : Hid (Rws p0 (n1 + n0) N) := Lib.hid (by have h := HNR.out.rref; rw [hll] at h; exact ⟨h.row, h.rng⟩)
    rw [hll] at hnl
    clear hll
    have HB47 : Hid (Below w.heap.size w w4) := Lib.hid (HB3.out.trans (HB7.out.mono HB3.out.size))
    have s47 := HB3.out.size
    go_wp2_with fail
    go_loopw [61, 9] (fun i v wr => ∃ (j : Nat) (al : Option Addr) (cl : Nat) (A : Nat → Option Addr) (C : Nat → Nat), j ≤ N.length ∧ i = .int .i64 j ∧ v = .slice al j cl ∧ Hid (Vw 45 w4 wr al j cl ((headR n1 N).take j) A C)) (fun i _ _ => N.length - (intOf i).toNat)
    case atStart => exact ⟨0, none, 0, fun _ => none, fun _ => 0, Nat.zero_le _, rfl, rfl, Lib.hid (by rw [List.take_zero]; exact Vw.none _ _ _ _)⟩
    case round =>
      obtain ⟨j, al, cl, A, C, hj, rfl, rfl, HVw⟩ := hrel
      obtain ⟨wi, rfl⟩ : ∃ x, x = wr := ⟨wr, rfl⟩
      have HBv := Lib.hid HVw.out.below
      have hsz := HBv.out.size
      by_cases hjt : j < N.length
      · obtain ⟨b0, o0, rfl, hc⟩ := HN4.out (by omega)
        obtain ⟨aj, cj, dj0, rj, kj⟩ := hc j hjt
        have hlen := HNW.out.row j hjt
        rw [hlen] at dj0 kj
        have dj := cell_below (p := ⟨b0, o0 + j, none⟩) dj0 HBv.out
        have RT : Hid (RdI w4 aj ((rw_ N j).take n1)) := Lib.hid (rj.take n1 (by rw [hlen]; omega))
        have HLT : Hid (((rw_ N j).take n1).length = n1) := Lib.hid (by rw [List.length_take, hlen]; omega)
        have hpos : 0 < n1 + n0 := by obtain ⟨pv, hpv, _⟩ := HNR.out.rref; have := hpv.pn j hjt; have h2 := hpv.len j hjt; omega
        obtain ⟨bj, oj, rfl, _⟩ := id rj (by omega)
        have V1 : n1 ≤ cj := by omega
        have V3 : (n1 : Int) ≤ (n1 : Int) + n0 := by omega
        clear hc rj hlen dj0
        go_wp2_with (at_builtin; refine wpList_push rfl (.tmp 65) (.tmp 69) 22 rfl w4.heap.size 45 (.slice none 0 0) 24 Try.underlying22 Try.infoR rfl (by decide) (.slice (some ⟨bj, oj, none⟩) n1 cj) rfl _ _ _ _ rfl rfl (by exact HVw.out.own) (by omega) (by exact hsz) ?_; rintro a5 c5 w5 r4 q4 g4; have HN := Lib.hid (HVw.out.push RT.out HLT.out V1 r4 g4); clear r4 q4 g4)
        have HN2 : Hid (Vw 45 w4 w5 a5 (j + 1) c5 ((headR n1 N).take (j + 1)) (upd A j (some ⟨bj, oj, none⟩)) (upd C j cj)) := Lib.hid (by rw [take_row2 (by rw [headR_len]; exact hjt), headR_row hjt]; exact HN.out)
        go_roundw
        case rel => exact ⟨j + 1, a5, c5, _, _, by omega, by go_num, rfl, HN2⟩
        case measure => simp [intOf]; omega
      · obtain rfl : j = N.length := by omega
        have HV2 : Hid (RdR wi al (headR n1 N)) := Lib.hid (by have h := HVw.out.rd; rwa [List.take_of_length_le (by rw [headR_len]; omega)] at h)
        have X08 : Hid (BX 26 wi (w.heap.size) #[.int .i64 p0, .int .i64 m, .slice a0 n0 c0]) := Lib.hid (X07.out.keep HBv.out)
        have X18 : Hid (BX 26 wi (w.heap.size + 1) #[.int .i64 p0, .int .i64 m, .slice a1 n1 c1]) := Lib.hid (X17.out.keep HBv.out)
        have X28 : Hid (BX 26 wi (w.heap.size + 1 + 1) #[.int .i64 0, .int .i64 0, .slice none 0 0]) := Lib.hid (X27.out.keep HBv.out)
        have k08 : wi.cell? ⟨w.heap.size, 0, none⟩ = some (.int .i64 p0) := X08.out.cell 0
        have k18 : wi.cell? ⟨w.heap.size, 1, none⟩ = some (.int .i64 m) := X08.out.cell 1
        have k28 : wi.cell? ⟨w.heap.size, 2, none⟩ = some (.slice a0 n0 c0) := X08.out.cell 2
        have v08 : wi.cell? ⟨w.heap.size + 1, 0, none⟩ = some (.int .i64 p0) := X18.out.cell 0
        have v18 : wi.cell? ⟨w.heap.size + 1, 1, none⟩ = some (.int .i64 m) := X18.out.cell 1
        have v28 : wi.cell? ⟨w.heap.size + 1, 2, none⟩ = some (.slice a1 n1 c1) := X18.out.cell 2
        have y08 : wi.cell? ⟨w.heap.size + 1 + 1, 0, none⟩ = some (.int .i64 0) := X28.out.cell 0
        have y18 : wi.cell? ⟨w.heap.size + 1 + 1, 1, none⟩ = some (.int .i64 0) := X28.out.cell 1
        have y28 : wi.cell? ⟨w.heap.size + 1 + 1, 2, none⟩ = some (.slice none 0 0) := X28.out.cell 2
        have f08 := X28.out.frz 0
        have f18 := X28.out.frz 1
        have f28 := X28.out.frz 2
        have HB8 : Hid (Below w.heap.size w wi) := Lib.hid (HB47.out.trans (HBv.out.mono HB47.out.size))
        go_wp2_with fail
        refine (spanOf_any p0 HP.out n1 _ N.length _ (headR n1 N) _ (by exact HV2.out) (headR_len _ _) (headR_rws HNW.out) (by omega) (by omega)).mono ?_
        rintro e w9 ⟨R, a', c', rfl, hres, ho, hb⟩
        have HO := Lib.hid ho
        have HRes := Lib.hid hres
        have HB9 : Hid (Below w.heap.size w w9) := Lib.hid (HB8.out.trans (hb.mono HB8.out.size))
        have X09 : Hid (BX 26 w9 (w.heap.size) #[.int .i64 p0, .int .i64 m, .slice a0 n0 c0]) := Lib.hid (X08.out.keep hb)
        have X19 : Hid (BX 26 w9 (w.heap.size + 1) #[.int .i64 p0, .int .i64 m, .slice a1 n1 c1]) := Lib.hid (X18.out.keep hb)
        have X29 : Hid (BX 26 w9 (w.heap.size + 1 + 1) #[.int .i64 0, .int .i64 0, .slice none 0 0]) := Lib.hid (X28.out.keep hb)
        have k09 : w9.cell? ⟨w.heap.size, 0, none⟩ = some (.int .i64 p0) := X09.out.cell 0
        have k19 : w9.cell? ⟨w.heap.size, 1, none⟩ = some (.int .i64 m) := X09.out.cell 1
        have k29 : w9.cell? ⟨w.heap.size, 2, none⟩ = some (.slice a0 n0 c0) := X09.out.cell 2
        have v09 : w9.cell? ⟨w.heap.size + 1, 0, none⟩ = some (.int .i64 p0) := X19.out.cell 0
        have v19 : w9.cell? ⟨w.heap.size + 1, 1, none⟩ = some (.int .i64 m) := X19.out.cell 1
        have v29 : w9.cell? ⟨w.heap.size + 1, 2, none⟩ = some (.slice a1 n1 c1) := X19.out.cell 2
        have y09 : w9.cell? ⟨w.heap.size + 1 + 1, 0, none⟩ = some (.int .i64 0) := X29.out.cell 0
        have y19 : w9.cell? ⟨w.heap.size + 1 + 1, 1, none⟩ = some (.int .i64 0) := X29.out.cell 1
        have y29 : w9.cell? ⟨w.heap.size + 1 + 1, 2, none⟩ = some (.slice none 0 0) := X29.out.cell 2
        have f09 := X29.out.frz 0
        have f19 := X29.out.frz 1
        have f29 := X29.out.frz 2
        have s89 := HB8.out.size
        clear ho hres hb
        have HR : Hid (res_PreimageSubspace xs0 p0 m xs1 p0 m p0 n1 R 0) := Lib.hid (.inr ⟨⟨HS0.out, HS1.out⟩, .inr ⟨⟨rfl, rfl⟩, rfl, by rw [HL1.out], rfl, N, by rw [Int.toNat_natCast]; exact HNR.out, by rw [HL1.out]; exact HRes.out⟩⟩)
        go_wp2_with fail
        refine bodyPost_ret (v := .tuple #[.agg #[.int .i64 (p0), .int .i64 (n1), .slice a' R.length c'], .int .i64 0]) (by simp [results, Try.results10, go_sem, y09, y19, y29]) rfl ⟨p0, n1, R, 0, a', c', rfl, HR.out, ?_, ?_⟩
        · refine MadeH.mono (B := wi.heap.size) ?_ (by omega)
          exact (((HO.out).setLow _ (by first | (simp; done) | (simp; omega)) _).setLow _ (by first | (simp; done) | (simp; omega)) _).setLow _ (by first | (simp; done) | (simp; omega)) _
        · exact (((HB9.out.setCell (by first | (simp; done) | (simp; omega)) _).setCell (by first | (simp; done) | (simp; omega)) _).setCell (by first | (simp; done) | (simp; omega)) _)
set_option maxRecDepth 20000 in
set_option maxHeartbeats 4000000 in
theorem spec_PreimageSubspace_any (p0 q0 : Int) (a0 : Option Addr) (n0 c0 : Nat) (xs0 : List (List Int)) (p1 q1 : Int) (a1 : Option Addr) (n1 c1 : Nat) (xs1 : List (List Int)) (w : World) (hp0 : I64 p0) (hq0 : I64 q0) (ha0 : RdR w a0 xs0) (hl0 : xs0.length = n0) (hx0 : ∀ i, i < n0 → (rw_ xs0 i).length ≤ 1048576) (hn0 : n0 ≤ 1048576) (hcp0 : n0 ≤ c0) (hp1 : I64 p1) (hq1 : I64 q1) (ha1 : RdR w a1 xs1) (hl1 : xs1.length = n1) (hx1 : ∀ i, i < n1 → (rw_ xs1 i).length ≤ 1048576) (hn1 : n1 ≤ 1048576) (hcp1 : n1 ≤ c1) :
    Calls Try.prog 8 #[.agg #[.int .i64 p0, .int .i64 q0, .slice a0 n0 c0], .agg #[.int .i64 p1, .int .i64 q1, .slice a1 n1 c1]] w fun e w' => ∃ (P Q : Int) (R : List (List Int)) (d : Int) (a' : Option Addr) (c' : Nat), e = .returned (.tuple #[.agg #[.int .i64 P, .int .i64 Q, .slice a' R.length c'], .int .i64 d]) ∧ res_PreimageSubspace xs0 p0 q0 xs1 p1 q1 P Q R d ∧ MadeH 2 w' w.heap.size a' R.length c' R ∧ Below w.heap.size w w' := by
  have HP0 := Lib.hid hp0
  have HQ0 := Lib.hid hq0
  have HA0 := Lib.hid ha0
  have HL0 := Lib.hid hl0
  have HX0 := Lib.hid hx0
  clear hp0 hq0 ha0 hl0 hx0
  have HP1 := Lib.hid hp1
  have HQ1 := Lib.hid hq1
  have HA1 := Lib.hid ha1
  have HL1 := Lib.hid hl1
  have HX1 := Lib.hid hx1
  clear hp1 hq1 ha1 hl1 hx1
  by_cases hs0 : subB xs0 p0 q0 = true
  rotate_left
  · have HS0 : Hid (subB xs0 p0 q0 = false) := Lib.hid (by simpa using hs0)
    have HR : Hid (res_PreimageSubspace xs0 p0 q0 xs1 p1 q1 0 0 [] 1) := Lib.hid (.inl ⟨fun h => hs0 h.1, rfl⟩)
    clear hs0
    go_enter Try.func8, Try.ntmps8
    go_wp2_with fail
    obtain ⟨W, hW⟩ : ∃ W, W = ((w.alloc (.cells #[.int .i64 p0, .int .i64 q0, .slice a0 n0 c0] 26)).alloc (.cells #[.int .i64 p1, .int .i64 q1, .slice a1 n1 c1] 26)).alloc (.cells #[.int .i64 0, .int .i64 0, .slice none 0 0] 26) := ⟨_, rfl⟩
    rw [← hW]
    have X0 : Hid (BX 26 W (w.heap.size) #[.int .i64 p0, .int .i64 q0, .slice a0 n0 c0]) := Lib.hid (by rw [hW]; exact ((BX.new w _ _).alloc _).alloc _)
    have X1 : Hid (BX 26 W (w.heap.size + 1) #[.int .i64 p1, .int .i64 q1, .slice a1 n1 c1]) := Lib.hid (by rw [hW]; exact (BX.newAt (by simp)).alloc _)
    have X2 : Hid (BX 26 W (w.heap.size + 1 + 1) #[.int .i64 0, .int .i64 0, .slice none 0 0]) := Lib.hid (by rw [hW]; exact BX.newAt (by simp))
    have HB0 : Hid (Below w.heap.size w W) := Lib.hid (by rw [hW]; exact (((Below.refl _ _).alloc (Nat.le_refl _) _).alloc (by simp) _).alloc (by simp; omega) _)
    have sW : W.heap.size = w.heap.size + 3 := by rw [hW]; simp
    have HA0w : Hid (RdR W a0 xs0) := Lib.hid (HA0.out.keep HB0.out (Nat.le_refl _))
    have HA1w : Hid (RdR W a1 xs1) := Lib.hid (HA1.out.keep HB0.out (Nat.le_refl _))
    clear hW
    have k0 : W.cell? ⟨w.heap.size, 0, none⟩ = some (.int .i64 p0) := X0.out.cell 0
    have k1 : W.cell? ⟨w.heap.size, 1, none⟩ = some (.int .i64 q0) := X0.out.cell 1
    have k2 : W.cell? ⟨w.heap.size, 2, none⟩ = some (.slice a0 n0 c0) := X0.out.cell 2
    have v0 : W.cell? ⟨w.heap.size + 1, 0, none⟩ = some (.int .i64 p1) := X1.out.cell 0
    have v1 : W.cell? ⟨w.heap.size + 1, 1, none⟩ = some (.int .i64 q1) := X1.out.cell 1
    have v2 : W.cell? ⟨w.heap.size + 1, 2, none⟩ = some (.slice a1 n1 c1) := X1.out.cell 2
    have y0 : W.cell? ⟨w.heap.size + 1 + 1, 0, none⟩ = some (.int .i64 0) := X2.out.cell 0
    have y1 : W.cell? ⟨w.heap.size + 1 + 1, 1, none⟩ = some (.int .i64 0) := X2.out.cell 1
    have y2 : W.cell? ⟨w.heap.size + 1 + 1, 2, none⟩ = some (.slice none 0 0) := X2.out.cell 2
    have f0 := X2.out.frz 0
    have f1 := X2.out.frz 1
    have f2 := X2.out.frz 2
    refine (spec_IsSubspace_any _ _ _ _ _ xs0 _ HP0.out HQ0.out (by exact HA0w.out) HL0.out HX0.out hn0 hcp0).mono ?_
    rintro e w1 ⟨he, hb⟩
    rw [HS0.out] at he
    obtain rfl := he
    clear k0 k1 k2 v0 v1 v2 y0 y1 y2 f0 f1 f2
    have HB1 : Hid (Below w.heap.size w w1) := Lib.hid (HB0.out.trans (hb.mono HB0.out.size))
    replace X0 : Hid (BX 26 w1 (w.heap.size) #[.int .i64 p0, .int .i64 q0, .slice a0 n0 c0]) := Lib.hid (X0.out.keep hb)
    replace X1 : Hid (BX 26 w1 (w.heap.size + 1) #[.int .i64 p1, .int .i64 q1, .slice a1 n1 c1]) := Lib.hid (X1.out.keep hb)
    replace X2 : Hid (BX 26 w1 (w.heap.size + 1 + 1) #[.int .i64 0, .int .i64 0, .slice none 0 0]) := Lib.hid (X2.out.keep hb)
    have s_w1 := hb.size
    replace HA0w : Hid (RdR w1 a0 xs0) := Lib.hid (HA0w.out.keep hb (Nat.le_refl _))
    replace HA1w : Hid (RdR w1 a1 xs1) := Lib.hid (HA1w.out.keep hb (Nat.le_refl _))
    clear hb
    have k0 : w1.cell? ⟨w.heap.size, 0, none⟩ = some (.int .i64 p0) := X0.out.cell 0
    have k1 : w1.cell? ⟨w.heap.size, 1, none⟩ = some (.int .i64 q0) := X0.out.cell 1
    have k2 : w1.cell? ⟨w.heap.size, 2, none⟩ = some (.slice a0 n0 c0) := X0.out.cell 2
    have v0 : w1.cell? ⟨w.heap.size + 1, 0, none⟩ = some (.int .i64 p1) := X1.out.cell 0
    have v1 : w1.cell? ⟨w.heap.size + 1, 1, none⟩ = some (.int .i64 q1) := X1.out.cell 1
    have v2 : w1.cell? ⟨w.heap.size + 1, 2, none⟩ = some (.slice a1 n1 c1) := X1.out.cell 2
    have y0 : w1.cell? ⟨w.heap.size + 1 + 1, 0, none⟩ = some (.int .i64 0) := X2.out.cell 0
    have y1 : w1.cell? ⟨w.heap.size + 1 + 1, 1, none⟩ = some (.int .i64 0) := X2.out.cell 1
    have y2 : w1.cell? ⟨w.heap.size + 1 + 1, 2, none⟩ = some (.slice none 0 0) := X2.out.cell 2
    have f0 := X2.out.frz 0
    have f1 := X2.out.frz 1
    have f2 := X2.out.frz 2
    go_wp2_with fail
    refine bodyPost_ret (v := .tuple #[.agg #[.int .i64 0, .int .i64 0, .slice none 0 0], .int .i64 1]) (by simp [results, Try.results8, go_sem, y0, y1, y2]) rfl ⟨0, 0, [], 1, none, 0, rfl, HR.out, MadeH.none, ?_⟩
    exact (((HB1.out.setCell (by first | (simp; done) | (simp; omega)) _).setCell (by first | (simp; done) | (simp; omega)) _).setCell (by first | (simp; done) | (simp; omega)) _)
  have HS0 := Lib.hid hs0
  by_cases hs1 : isMx xs1 p1 q1 = true
  rotate_left
  · have HS1 : Hid (isMx xs1 p1 q1 = false) := Lib.hid (by simpa using hs1)
    have HR : Hid (res_PreimageSubspace xs0 p0 q0 xs1 p1 q1 0 0 [] 1) := Lib.hid (.inl ⟨fun h => hs1 h.2, rfl⟩)
    clear hs0 hs1
    go_enter Try.func8, Try.ntmps8
    go_wp2_with fail
    obtain ⟨W, hW⟩ : ∃ W, W = ((w.alloc (.cells #[.int .i64 p0, .int .i64 q0, .slice a0 n0 c0] 26)).alloc (.cells #[.int .i64 p1, .int .i64 q1, .slice a1 n1 c1] 26)).alloc (.cells #[.int .i64 0, .int .i64 0, .slice none 0 0] 26) := ⟨_, rfl⟩
    rw [← hW]
    have X0 : Hid (BX 26 W (w.heap.size) #[.int .i64 p0, .int .i64 q0, .slice a0 n0 c0]) := Lib.hid (by rw [hW]; exact ((BX.new w _ _).alloc _).alloc _)
    have X1 : Hid (BX 26 W (w.heap.size + 1) #[.int .i64 p1, .int .i64 q1, .slice a1 n1 c1]) := Lib.hid (by rw [hW]; exact (BX.newAt (by simp)).alloc _)
    have X2 : Hid (BX 26 W (w.heap.size + 1 + 1) #[.int .i64 0, .int .i64 0, .slice none 0 0]) := Lib.hid (by rw [hW]; exact BX.newAt (by simp))
    have HB0 : Hid (Below w.heap.size w W) := Lib.hid (by rw [hW]; exact (((Below.refl _ _).alloc (Nat.le_refl _) _).alloc (by simp) _).alloc (by simp; omega) _)
    have sW : W.heap.size = w.heap.size + 3 := by rw [hW]; simp
    have HA0w : Hid (RdR W a0 xs0) := Lib.hid (HA0.out.keep HB0.out (Nat.le_refl _))
    have HA1w : Hid (RdR W a1 xs1) := Lib.hid (HA1.out.keep HB0.out (Nat.le_refl _))
    clear hW
    have k0 : W.cell? ⟨w.heap.size, 0, none⟩ = some (.int .i64 p0) := X0.out.cell 0
    have k1 : W.cell? ⟨w.heap.size, 1, none⟩ = some (.int .i64 q0) := X0.out.cell 1
    have k2 : W.cell? ⟨w.heap.size, 2, none⟩ = some (.slice a0 n0 c0) := X0.out.cell 2
    have v0 : W.cell? ⟨w.heap.size + 1, 0, none⟩ = some (.int .i64 p1) := X1.out.cell 0
    have v1 : W.cell? ⟨w.heap.size + 1, 1, none⟩ = some (.int .i64 q1) := X1.out.cell 1
    have v2 : W.cell? ⟨w.heap.size + 1, 2, none⟩ = some (.slice a1 n1 c1) := X1.out.cell 2
    have y0 : W.cell? ⟨w.heap.size + 1 + 1, 0, none⟩ = some (.int .i64 0) := X2.out.cell 0
    have y1 : W.cell? ⟨w.heap.size + 1 + 1, 1, none⟩ = some (.int .i64 0) := X2.out.cell 1
    have y2 : W.cell? ⟨w.heap.size + 1 + 1, 2, none⟩ = some (.slice none 0 0) := X2.out.cell 2
    have f0 := X2.out.frz 0
    have f1 := X2.out.frz 1
    have f2 := X2.out.frz 2
    refine (spec_IsSubspace_any _ _ _ _ _ xs0 _ HP0.out HQ0.out (by exact HA0w.out) HL0.out HX0.out hn0 hcp0).mono ?_
    rintro e w1 ⟨he, hb⟩
    rw [HS0.out] at he
    obtain rfl := he
    clear k0 k1 k2 v0 v1 v2 y0 y1 y2 f0 f1 f2
    have HB1 : Hid (Below w.heap.size w w1) := Lib.hid (HB0.out.trans (hb.mono HB0.out.size))
    replace X0 : Hid (BX 26 w1 (w.heap.size) #[.int .i64 p0, .int .i64 q0, .slice a0 n0 c0]) := Lib.hid (X0.out.keep hb)
    replace X1 : Hid (BX 26 w1 (w.heap.size + 1) #[.int .i64 p1, .int .i64 q1, .slice a1 n1 c1]) := Lib.hid (X1.out.keep hb)
    replace X2 : Hid (BX 26 w1 (w.heap.size + 1 + 1) #[.int .i64 0, .int .i64 0, .slice none 0 0]) := Lib.hid (X2.out.keep hb)
    have s_w1 := hb.size
    replace HA0w : Hid (RdR w1 a0 xs0) := Lib.hid (HA0w.out.keep hb (Nat.le_refl _))
    replace HA1w : Hid (RdR w1 a1 xs1) := Lib.hid (HA1w.out.keep hb (Nat.le_refl _))
    clear hb
    have k0 : w1.cell? ⟨w.heap.size, 0, none⟩ = some (.int .i64 p0) := X0.out.cell 0
    have k1 : w1.cell? ⟨w.heap.size, 1, none⟩ = some (.int .i64 q0) := X0.out.cell 1
    have k2 : w1.cell? ⟨w.heap.size, 2, none⟩ = some (.slice a0 n0 c0) := X0.out.cell 2
    have v0 : w1.cell? ⟨w.heap.size + 1, 0, none⟩ = some (.int .i64 p1) := X1.out.cell 0
    have v1 : w1.cell? ⟨w.heap.size + 1, 1, none⟩ = some (.int .i64 q1) := X1.out.cell 1
    have v2 : w1.cell? ⟨w.heap.size + 1, 2, none⟩ = some (.slice a1 n1 c1) := X1.out.cell 2
    have y0 : w1.cell? ⟨w.heap.size + 1 + 1, 0, none⟩ = some (.int .i64 0) := X2.out.cell 0
    have y1 : w1.cell? ⟨w.heap.size + 1 + 1, 1, none⟩ = some (.int .i64 0) := X2.out.cell 1
    have y2 : w1.cell? ⟨w.heap.size + 1 + 1, 2, none⟩ = some (.slice none 0 0) := X2.out.cell 2
    have f0 := X2.out.frz 0
    have f1 := X2.out.frz 1
    have f2 := X2.out.frz 2
    go_wp2_with fail
    refine (spec_IsMatrix_any _ _ _ _ _ xs1 _ HP1.out HQ1.out (by exact HA1w.out) HL1.out HX1.out hn1 hcp1).mono ?_
    rintro e w2 ⟨he, hb⟩
    rw [HS1.out] at he
    obtain rfl := he
    clear k0 k1 k2 v0 v1 v2 y0 y1 y2 f0 f1 f2
    have HB2 : Hid (Below w.heap.size w w2) := Lib.hid (HB1.out.trans (hb.mono HB1.out.size))
    replace X0 : Hid (BX 26 w2 (w.heap.size) #[.int .i64 p0, .int .i64 q0, .slice a0 n0 c0]) := Lib.hid (X0.out.keep hb)
    replace X1 : Hid (BX 26 w2 (w.heap.size + 1) #[.int .i64 p1, .int .i64 q1, .slice a1 n1 c1]) := Lib.hid (X1.out.keep hb)
    replace X2 : Hid (BX 26 w2 (w.heap.size + 1 + 1) #[.int .i64 0, .int .i64 0, .slice none 0 0]) := Lib.hid (X2.out.keep hb)
    have s_w2 := hb.size
    replace HA0w : Hid (RdR w2 a0 xs0) := Lib.hid (HA0w.out.keep hb (Nat.le_refl _))
    replace HA1w : Hid (RdR w2 a1 xs1) := Lib.hid (HA1w.out.keep hb (Nat.le_refl _))
    clear hb
    have k0 : w2.cell? ⟨w.heap.size, 0, none⟩ = some (.int .i64 p0) := X0.out.cell 0
    have k1 : w2.cell? ⟨w.heap.size, 1, none⟩ = some (.int .i64 q0) := X0.out.cell 1
    have k2 : w2.cell? ⟨w.heap.size, 2, none⟩ = some (.slice a0 n0 c0) := X0.out.cell 2
    have v0 : w2.cell? ⟨w.heap.size + 1, 0, none⟩ = some (.int .i64 p1) := X1.out.cell 0
    have v1 : w2.cell? ⟨w.heap.size + 1, 1, none⟩ = some (.int .i64 q1) := X1.out.cell 1
    have v2 : w2.cell? ⟨w.heap.size + 1, 2, none⟩ = some (.slice a1 n1 c1) := X1.out.cell 2
    have y0 : w2.cell? ⟨w.heap.size + 1 + 1, 0, none⟩ = some (.int .i64 0) := X2.out.cell 0
    have y1 : w2.cell? ⟨w.heap.size + 1 + 1, 1, none⟩ = some (.int .i64 0) := X2.out.cell 1
    have y2 : w2.cell? ⟨w.heap.size + 1 + 1, 2, none⟩ = some (.slice none 0 0) := X2.out.cell 2
    have f0 := X2.out.frz 0
    have f1 := X2.out.frz 1
    have f2 := X2.out.frz 2
    go_wp2_with fail
    refine bodyPost_ret (v := .tuple #[.agg #[.int .i64 0, .int .i64 0, .slice none 0 0], .int .i64 1]) (by simp [results, Try.results8, go_sem, y0, y1, y2]) rfl ⟨0, 0, [], 1, none, 0, rfl, HR.out, MadeH.none, ?_⟩
    exact (((HB2.out.setCell (by first | (simp; done) | (simp; omega)) _).setCell (by first | (simp; done) | (simp; omega)) _).setCell (by first | (simp; done) | (simp; omega)) _)
  have HS1 := Lib.hid hs1
  have hgo := isMx_ok (subB_yes hs0).1
  have hgo1 := isMx_ok hs1
  clear hs0 hs1
  by_cases hpe : p0 = p1
  rotate_left
  · have HR : Hid (res_PreimageSubspace xs0 p0 q0 xs1 p1 q1 0 0 [] 2) := Lib.hid (.inr ⟨⟨HS0.out, HS1.out⟩, .inl ⟨fun h => hpe h.1, rfl⟩⟩)
    have b1 : (p0 != p1) = true := bne_iff_ne.2 hpe
    have HNE := Lib.hid hpe
    clear hgo hgo1 hpe
    go_enter Try.func8, Try.ntmps8
    go_wp2_with fail
    obtain ⟨W, hW⟩ : ∃ W, W = ((w.alloc (.cells #[.int .i64 p0, .int .i64 q0, .slice a0 n0 c0] 26)).alloc (.cells #[.int .i64 p1, .int .i64 q1, .slice a1 n1 c1] 26)).alloc (.cells #[.int .i64 0, .int .i64 0, .slice none 0 0] 26) := ⟨_, rfl⟩
    rw [← hW]
    have X0 : Hid (BX 26 W (w.heap.size) #[.int .i64 p0, .int .i64 q0, .slice a0 n0 c0]) := Lib.hid (by rw [hW]; exact ((BX.new w _ _).alloc _).alloc _)
    have X1 : Hid (BX 26 W (w.heap.size + 1) #[.int .i64 p1, .int .i64 q1, .slice a1 n1 c1]) := Lib.hid (by rw [hW]; exact (BX.newAt (by simp)).alloc _)
    have X2 : Hid (BX 26 W (w.heap.size + 1 + 1) #[.int .i64 0, .int .i64 0, .slice none 0 0]) := Lib.hid (by rw [hW]; exact BX.newAt (by simp))
    have HB0 : Hid (Below w.heap.size w W) := Lib.hid (by rw [hW]; exact (((Below.refl _ _).alloc (Nat.le_refl _) _).alloc (by simp) _).alloc (by simp; omega) _)
    have sW : W.heap.size = w.heap.size + 3 := by rw [hW]; simp
    have HA0w : Hid (RdR W a0 xs0) := Lib.hid (HA0.out.keep HB0.out (Nat.le_refl _))
    have HA1w : Hid (RdR W a1 xs1) := Lib.hid (HA1.out.keep HB0.out (Nat.le_refl _))
    clear hW
    have k0 : W.cell? ⟨w.heap.size, 0, none⟩ = some (.int .i64 p0) := X0.out.cell 0
    have k1 : W.cell? ⟨w.heap.size, 1, none⟩ = some (.int .i64 q0) := X0.out.cell 1
    have k2 : W.cell? ⟨w.heap.size, 2, none⟩ = some (.slice a0 n0 c0) := X0.out.cell 2
    have v0 : W.cell? ⟨w.heap.size + 1, 0, none⟩ = some (.int .i64 p1) := X1.out.cell 0
    have v1 : W.cell? ⟨w.heap.size + 1, 1, none⟩ = some (.int .i64 q1) := X1.out.cell 1
    have v2 : W.cell? ⟨w.heap.size + 1, 2, none⟩ = some (.slice a1 n1 c1) := X1.out.cell 2
    have y0 : W.cell? ⟨w.heap.size + 1 + 1, 0, none⟩ = some (.int .i64 0) := X2.out.cell 0
    have y1 : W.cell? ⟨w.heap.size + 1 + 1, 1, none⟩ = some (.int .i64 0) := X2.out.cell 1
    have y2 : W.cell? ⟨w.heap.size + 1 + 1, 2, none⟩ = some (.slice none 0 0) := X2.out.cell 2
    have f0 := X2.out.frz 0
    have f1 := X2.out.frz 1
    have f2 := X2.out.frz 2
    refine (spec_IsSubspace_any _ _ _ _ _ xs0 _ HP0.out HQ0.out (by exact HA0w.out) HL0.out HX0.out hn0 hcp0).mono ?_
    rintro e w1 ⟨he, hb⟩
    rw [HS0.out] at he
    obtain rfl := he
    clear k0 k1 k2 v0 v1 v2 y0 y1 y2 f0 f1 f2
    have HB1 : Hid (Below w.heap.size w w1) := Lib.hid (HB0.out.trans (hb.mono HB0.out.size))
    replace X0 : Hid (BX 26 w1 (w.heap.size) #[.int .i64 p0, .int .i64 q0, .slice a0 n0 c0]) := Lib.hid (X0.out.keep hb)
    replace X1 : Hid (BX 26 w1 (w.heap.size + 1) #[.int .i64 p1, .int .i64 q1, .slice a1 n1 c1]) := Lib.hid (X1.out.keep hb)
    replace X2 : Hid (BX 26 w1 (w.heap.size + 1 + 1) #[.int .i64 0, .int .i64 0, .slice none 0 0]) := Lib.hid (X2.out.keep hb)
    have s_w1 := hb.size
    replace HA0w : Hid (RdR w1 a0 xs0) := Lib.hid (HA0w.out.keep hb (Nat.le_refl _))
    replace HA1w : Hid (RdR w1 a1 xs1) := Lib.hid (HA1w.out.keep hb (Nat.le_refl _))
    clear hb
    have k0 : w1.cell? ⟨w.heap.size, 0, none⟩ = some (.int .i64 p0) := X0.out.cell 0
    have k1 : w1.cell? ⟨w.heap.size, 1, none⟩ = some (.int .i64 q0) := X0.out.cell 1
    have k2 : w1.cell? ⟨w.heap.size, 2, none⟩ = some (.slice a0 n0 c0) := X0.out.cell 2
    have v0 : w1.cell? ⟨w.heap.size + 1, 0, none⟩ = some (.int .i64 p1) := X1.out.cell 0
    have v1 : w1.cell? ⟨w.heap.size + 1, 1, none⟩ = some (.int .i64 q1) := X1.out.cell 1
    have v2 : w1.cell? ⟨w.heap.size + 1, 2, none⟩ = some (.slice a1 n1 c1) := X1.out.cell 2
    have y0 : w1.cell? ⟨w.heap.size + 1 + 1, 0, none⟩ = some (.int .i64 0) := X2.out.cell 0
    have y1 : w1.cell? ⟨w.heap.size + 1 + 1, 1, none⟩ = some (.int .i64 0) := X2.out.cell 1
    have y2 : w1.cell? ⟨w.heap.size + 1 + 1, 2, none⟩ = some (.slice none 0 0) := X2.out.cell 2
    have f0 := X2.out.frz 0
    have f1 := X2.out.frz 1
    have f2 := X2.out.frz 2
    go_wp2_with fail
    refine (spec_IsMatrix_any _ _ _ _ _ xs1 _ HP1.out HQ1.out (by exact HA1w.out) HL1.out HX1.out hn1 hcp1).mono ?_
    rintro e w2 ⟨he, hb⟩
    rw [HS1.out] at he
    obtain rfl := he
    clear k0 k1 k2 v0 v1 v2 y0 y1 y2 f0 f1 f2
    have HB2 : Hid (Below w.heap.size w w2) := Lib.hid (HB1.out.trans (hb.mono HB1.out.size))
    replace X0 : Hid (BX 26 w2 (w.heap.size) #[.int .i64 p0, .int .i64 q0, .slice a0 n0 c0]) := Lib.hid (X0.out.keep hb)
    replace X1 : Hid (BX 26 w2 (w.heap.size + 1) #[.int .i64 p1, .int .i64 q1, .slice a1 n1 c1]) := Lib.hid (X1.out.keep hb)
    replace X2 : Hid (BX 26 w2 (w.heap.size + 1 + 1) #[.int .i64 0, .int .i64 0, .slice none 0 0]) := Lib.hid (X2.out.keep hb)
    have s_w2 := hb.size
    replace HA0w : Hid (RdR w2 a0 xs0) := Lib.hid (HA0w.out.keep hb (Nat.le_refl _))
    replace HA1w : Hid (RdR w2 a1 xs1) := Lib.hid (HA1w.out.keep hb (Nat.le_refl _))
    clear hb
    have k0 : w2.cell? ⟨w.heap.size, 0, none⟩ = some (.int .i64 p0) := X0.out.cell 0
    have k1 : w2.cell? ⟨w.heap.size, 1, none⟩ = some (.int .i64 q0) := X0.out.cell 1
    have k2 : w2.cell? ⟨w.heap.size, 2, none⟩ = some (.slice a0 n0 c0) := X0.out.cell 2
    have v0 : w2.cell? ⟨w.heap.size + 1, 0, none⟩ = some (.int .i64 p1) := X1.out.cell 0
    have v1 : w2.cell? ⟨w.heap.size + 1, 1, none⟩ = some (.int .i64 q1) := X1.out.cell 1
    have v2 : w2.cell? ⟨w.heap.size + 1, 2, none⟩ = some (.slice a1 n1 c1) := X1.out.cell 2
    have y0 : w2.cell? ⟨w.heap.size + 1 + 1, 0, none⟩ = some (.int .i64 0) := X2.out.cell 0
    have y1 : w2.cell? ⟨w.heap.size + 1 + 1, 1, none⟩ = some (.int .i64 0) := X2.out.cell 1
    have y2 : w2.cell? ⟨w.heap.size + 1 + 1, 2, none⟩ = some (.slice none 0 0) := X2.out.cell 2
    have f0 := X2.out.frz 0
    have f1 := X2.out.frz 1
    have f2 := X2.out.frz 2
    go_wp2_with fail
    refine (l03Fit_any _ _ _ _ _ _ _ _ _ _ _).mono ?_
    rintro e w3 ⟨he, hb⟩
    rw [show (p0 == p1 && q0 == q1) = false from by simp [HNE.out]] at he
    obtain rfl := he
    clear k0 k1 k2 v0 v1 v2 y0 y1 y2 f0 f1 f2
    have HB3 : Hid (Below w.heap.size w w3) := Lib.hid (HB2.out.trans (hb.mono HB2.out.size))
    replace X0 : Hid (BX 26 w3 (w.heap.size) #[.int .i64 p0, .int .i64 q0, .slice a0 n0 c0]) := Lib.hid (X0.out.keep hb)
    replace X1 : Hid (BX 26 w3 (w.heap.size + 1) #[.int .i64 p1, .int .i64 q1, .slice a1 n1 c1]) := Lib.hid (X1.out.keep hb)
    replace X2 : Hid (BX 26 w3 (w.heap.size + 1 + 1) #[.int .i64 0, .int .i64 0, .slice none 0 0]) := Lib.hid (X2.out.keep hb)
    have s_w3 := hb.size
    replace HA0w : Hid (RdR w3 a0 xs0) := Lib.hid (HA0w.out.keep hb (Nat.le_refl _))
    replace HA1w : Hid (RdR w3 a1 xs1) := Lib.hid (HA1w.out.keep hb (Nat.le_refl _))
    clear hb
    have k0 : w3.cell? ⟨w.heap.size, 0, none⟩ = some (.int .i64 p0) := X0.out.cell 0
    have k1 : w3.cell? ⟨w.heap.size, 1, none⟩ = some (.int .i64 q0) := X0.out.cell 1
    have k2 : w3.cell? ⟨w.heap.size, 2, none⟩ = some (.slice a0 n0 c0) := X0.out.cell 2
    have v0 : w3.cell? ⟨w.heap.size + 1, 0, none⟩ = some (.int .i64 p1) := X1.out.cell 0
    have v1 : w3.cell? ⟨w.heap.size + 1, 1, none⟩ = some (.int .i64 q1) := X1.out.cell 1
    have v2 : w3.cell? ⟨w.heap.size + 1, 2, none⟩ = some (.slice a1 n1 c1) := X1.out.cell 2
    have y0 : w3.cell? ⟨w.heap.size + 1 + 1, 0, none⟩ = some (.int .i64 0) := X2.out.cell 0
    have y1 : w3.cell? ⟨w.heap.size + 1 + 1, 1, none⟩ = some (.int .i64 0) := X2.out.cell 1
    have y2 : w3.cell? ⟨w.heap.size + 1 + 1, 2, none⟩ = some (.slice none 0 0) := X2.out.cell 2
    have f0 := X2.out.frz 0
    have f1 := X2.out.frz 1
    have f2 := X2.out.frz 2
    go_wp2_with fail
    refine bodyPost_ret (v := .tuple #[.agg #[.int .i64 0, .int .i64 0, .slice none 0 0], .int .i64 2]) (by simp [results, Try.results8, go_sem, y0, y1, y2]) rfl ⟨0, 0, [], 2, none, 0, rfl, HR.out, MadeH.none, ?_⟩
    exact (((HB3.out.setCell (by first | (simp; done) | (simp; omega)) _).setCell (by first | (simp; done) | (simp; omega)) _).setCell (by first | (simp; done) | (simp; omega)) _)
  subst hpe
  by_cases hqe : q0 = q1
  rotate_left
  · have HR : Hid (res_PreimageSubspace xs0 p0 q0 xs1 p0 q1 0 0 [] 2) := Lib.hid (.inr ⟨⟨HS0.out, HS1.out⟩, .inl ⟨fun h => hqe h.2, rfl⟩⟩)
    have b1 : (p0 != p0) = false := by simp
    have b2 : (q0 != q1) = true := bne_iff_ne.2 hqe
    have HNE := Lib.hid hqe
    clear hgo hgo1 hqe
    go_enter Try.func8, Try.ntmps8
    go_wp2_with fail
    obtain ⟨W, hW⟩ : ∃ W, W = ((w.alloc (.cells #[.int .i64 p0, .int .i64 q0, .slice a0 n0 c0] 26)).alloc (.cells #[.int .i64 p0, .int .i64 q1, .slice a1 n1 c1] 26)).alloc (.cells #[.int .i64 0, .int .i64 0, .slice none 0 0] 26) := ⟨_, rfl⟩
    rw [← hW]
    have X0 : Hid (BX 26 W (w.heap.size) #[.int .i64 p0, .int .i64 q0, .slice a0 n0 c0]) := Lib.hid (by rw [hW]; exact ((BX.new w _ _).alloc _).alloc _)
    have X1 : Hid (BX 26 W (w.heap.size + 1) #[.int .i64 p0, .int .i64 q1, .slice a1 n1 c1]) := Lib.hid (by rw [hW]; exact (BX.newAt (by simp)).alloc _)
    have X2 : Hid (BX 26 W (w.heap.size + 1 + 1) #[.int .i64 0, .int .i64 0, .slice none 0 0]) := Lib.hid (by rw [hW]; exact BX.newAt (by simp))
    have HB0 : Hid (Below w.heap.size w W) := Lib.hid (by rw [hW]; exact (((Below.refl _ _).alloc (Nat.le_refl _) _).alloc (by simp) _).alloc (by simp; omega) _)
    have sW : W.heap.size = w.heap.size + 3 := by rw [hW]; simp
    have HA0w : Hid (RdR W a0 xs0) := Lib.hid (HA0.out.keep HB0.out (Nat.le_refl _))
    have HA1w : Hid (RdR W a1 xs1) := Lib.hid (HA1.out.keep HB0.out (Nat.le_refl _))
    clear hW
    have k0 : W.cell? ⟨w.heap.size, 0, none⟩ = some (.int .i64 p0) := X0.out.cell 0
    have k1 : W.cell? ⟨w.heap.size, 1, none⟩ = some (.int .i64 q0) := X0.out.cell 1
    have k2 : W.cell? ⟨w.heap.size, 2, none⟩ = some (.slice a0 n0 c0) := X0.out.cell 2
    have v0 : W.cell? ⟨w.heap.size + 1, 0, none⟩ = some (.int .i64 p0) := X1.out.cell 0
    have v1 : W.cell? ⟨w.heap.size + 1, 1, none⟩ = some (.int .i64 q1) := X1.out.cell 1
    have v2 : W.cell? ⟨w.heap.size + 1, 2, none⟩ = some (.slice a1 n1 c1) := X1.out.cell 2
    have y0 : W.cell? ⟨w.heap.size + 1 + 1, 0, none⟩ = some (.int .i64 0) := X2.out.cell 0
    have y1 : W.cell? ⟨w.heap.size + 1 + 1, 1, none⟩ = some (.int .i64 0) := X2.out.cell 1
    have y2 : W.cell? ⟨w.heap.size + 1 + 1, 2, none⟩ = some (.slice none 0 0) := X2.out.cell 2
    have f0 := X2.out.frz 0
    have f1 := X2.out.frz 1
    have f2 := X2.out.frz 2
    refine (spec_IsSubspace_any _ _ _ _ _ xs0 _ HP0.out HQ0.out (by exact HA0w.out) HL0.out HX0.out hn0 hcp0).mono ?_
    rintro e w1 ⟨he, hb⟩
    rw [HS0.out] at he
    obtain rfl := he
    clear k0 k1 k2 v0 v1 v2 y0 y1 y2 f0 f1 f2
    have HB1 : Hid (Below w.heap.size w w1) := Lib.hid (HB0.out.trans (hb.mono HB0.out.size))
    replace X0 : Hid (BX 26 w1 (w.heap.size) #[.int .i64 p0, .int .i64 q0, .slice a0 n0 c0]) := Lib.hid (X0.out.keep hb)
    replace X1 : Hid (BX 26 w1 (w.heap.size + 1) #[.int .i64 p0, .int .i64 q1, .slice a1 n1 c1]) := Lib.hid (X1.out.keep hb)
    replace X2 : Hid (BX 26 w1 (w.heap.size + 1 + 1) #[.int .i64 0, .int .i64 0, .slice none 0 0]) := Lib.hid (X2.out.keep hb)
    have s_w1 := hb.size
    replace HA0w : Hid (RdR w1 a0 xs0) := Lib.hid (HA0w.out.keep hb (Nat.le_refl _))
    replace HA1w : Hid (RdR w1 a1 xs1) := Lib.hid (HA1w.out.keep hb (Nat.le_refl _))
    clear hb
    have k0 : w1.cell? ⟨w.heap.size, 0, none⟩ = some (.int .i64 p0) := X0.out.cell 0
    have k1 : w1.cell? ⟨w.heap.size, 1, none⟩ = some (.int .i64 q0) := X0.out.cell 1
    have k2 : w1.cell? ⟨w.heap.size, 2, none⟩ = some (.slice a0 n0 c0) := X0.out.cell 2
    have v0 : w1.cell? ⟨w.heap.size + 1, 0, none⟩ = some (.int .i64 p0) := X1.out.cell 0
    have v1 : w1.cell? ⟨w.heap.size + 1, 1, none⟩ = some (.int .i64 q1) := X1.out.cell 1
    have v2 : w1.cell? ⟨w.heap.size + 1, 2, none⟩ = some (.slice a1 n1 c1) := X1.out.cell 2
    have y0 : w1.cell? ⟨w.heap.size + 1 + 1, 0, none⟩ = some (.int .i64 0) := X2.out.cell 0
    have y1 : w1.cell? ⟨w.heap.size + 1 + 1, 1, none⟩ = some (.int .i64 0) := X2.out.cell 1
    have y2 : w1.cell? ⟨w.heap.size + 1 + 1, 2, none⟩ = some (.slice none 0 0) := X2.out.cell 2
    have f0 := X2.out.frz 0
    have f1 := X2.out.frz 1
    have f2 := X2.out.frz 2
    go_wp2_with fail
    refine (spec_IsMatrix_any _ _ _ _ _ xs1 _ HP1.out HQ1.out (by exact HA1w.out) HL1.out HX1.out hn1 hcp1).mono ?_
    rintro e w2 ⟨he, hb⟩
    rw [HS1.out] at he
    obtain rfl := he
    clear k0 k1 k2 v0 v1 v2 y0 y1 y2 f0 f1 f2
    have HB2 : Hid (Below w.heap.size w w2) := Lib.hid (HB1.out.trans (hb.mono HB1.out.size))
    replace X0 : Hid (BX 26 w2 (w.heap.size) #[.int .i64 p0, .int .i64 q0, .slice a0 n0 c0]) := Lib.hid (X0.out.keep hb)
    replace X1 : Hid (BX 26 w2 (w.heap.size + 1) #[.int .i64 p0, .int .i64 q1, .slice a1 n1 c1]) := Lib.hid (X1.out.keep hb)
    replace X2 : Hid (BX 26 w2 (w.heap.size + 1 + 1) #[.int .i64 0, .int .i64 0, .slice none 0 0]) := Lib.hid (X2.out.keep hb)
    have s_w2 := hb.size
    replace HA0w : Hid (RdR w2 a0 xs0) := Lib.hid (HA0w.out.keep hb (Nat.le_refl _))
    replace HA1w : Hid (RdR w2 a1 xs1) := Lib.hid (HA1w.out.keep hb (Nat.le_refl _))
    clear hb
    have k0 : w2.cell? ⟨w.heap.size, 0, none⟩ = some (.int .i64 p0) := X0.out.cell 0
    have k1 : w2.cell? ⟨w.heap.size, 1, none⟩ = some (.int .i64 q0) := X0.out.cell 1
    have k2 : w2.cell? ⟨w.heap.size, 2, none⟩ = some (.slice a0 n0 c0) := X0.out.cell 2
    have v0 : w2.cell? ⟨w.heap.size + 1, 0, none⟩ = some (.int .i64 p0) := X1.out.cell 0
    have v1 : w2.cell? ⟨w.heap.size + 1, 1, none⟩ = some (.int .i64 q1) := X1.out.cell 1
    have v2 : w2.cell? ⟨w.heap.size + 1, 2, none⟩ = some (.slice a1 n1 c1) := X1.out.cell 2
    have y0 : w2.cell? ⟨w.heap.size + 1 + 1, 0, none⟩ = some (.int .i64 0) := X2.out.cell 0
    have y1 : w2.cell? ⟨w.heap.size + 1 + 1, 1, none⟩ = some (.int .i64 0) := X2.out.cell 1
    have y2 : w2.cell? ⟨w.heap.size + 1 + 1, 2, none⟩ = some (.slice none 0 0) := X2.out.cell 2
    have f0 := X2.out.frz 0
    have f1 := X2.out.frz 1
    have f2 := X2.out.frz 2
    go_wp2_with fail
    refine (l03Fit_any _ _ _ _ _ _ _ _ _ _ _).mono ?_
    rintro e w3 ⟨he, hb⟩
    rw [show (p0 == p0 && q0 == q1) = false from by simp [HNE.out]] at he
    obtain rfl := he
    clear k0 k1 k2 v0 v1 v2 y0 y1 y2 f0 f1 f2
    have HB3 : Hid (Below w.heap.size w w3) := Lib.hid (HB2.out.trans (hb.mono HB2.out.size))
    replace X0 : Hid (BX 26 w3 (w.heap.size) #[.int .i64 p0, .int .i64 q0, .slice a0 n0 c0]) := Lib.hid (X0.out.keep hb)
    replace X1 : Hid (BX 26 w3 (w.heap.size + 1) #[.int .i64 p0, .int .i64 q1, .slice a1 n1 c1]) := Lib.hid (X1.out.keep hb)
    replace X2 : Hid (BX 26 w3 (w.heap.size + 1 + 1) #[.int .i64 0, .int .i64 0, .slice none 0 0]) := Lib.hid (X2.out.keep hb)
    have s_w3 := hb.size
    replace HA0w : Hid (RdR w3 a0 xs0) := Lib.hid (HA0w.out.keep hb (Nat.le_refl _))
    replace HA1w : Hid (RdR w3 a1 xs1) := Lib.hid (HA1w.out.keep hb (Nat.le_refl _))
    clear hb
    have k0 : w3.cell? ⟨w.heap.size, 0, none⟩ = some (.int .i64 p0) := X0.out.cell 0
    have k1 : w3.cell? ⟨w.heap.size, 1, none⟩ = some (.int .i64 q0) := X0.out.cell 1
    have k2 : w3.cell? ⟨w.heap.size, 2, none⟩ = some (.slice a0 n0 c0) := X0.out.cell 2
    have v0 : w3.cell? ⟨w.heap.size + 1, 0, none⟩ = some (.int .i64 p0) := X1.out.cell 0
    have v1 : w3.cell? ⟨w.heap.size + 1, 1, none⟩ = some (.int .i64 q1) := X1.out.cell 1
    have v2 : w3.cell? ⟨w.heap.size + 1, 2, none⟩ = some (.slice a1 n1 c1) := X1.out.cell 2
    have y0 : w3.cell? ⟨w.heap.size + 1 + 1, 0, none⟩ = some (.int .i64 0) := X2.out.cell 0
    have y1 : w3.cell? ⟨w.heap.size + 1 + 1, 1, none⟩ = some (.int .i64 0) := X2.out.cell 1
    have y2 : w3.cell? ⟨w.heap.size + 1 + 1, 2, none⟩ = some (.slice none 0 0) := X2.out.cell 2
    have f0 := X2.out.frz 0
    have f1 := X2.out.frz 1
    have f2 := X2.out.frz 2
    go_wp2_with fail
    refine bodyPost_ret (v := .tuple #[.agg #[.int .i64 0, .int .i64 0, .slice none 0 0], .int .i64 2]) (by simp [results, Try.results8, go_sem, y0, y1, y2]) rfl ⟨0, 0, [], 2, none, 0, rfl, HR.out, MadeH.none, ?_⟩
    exact (((HB3.out.setCell (by first | (simp; done) | (simp; omega)) _).setCell (by first | (simp; done) | (simp; omega)) _).setCell (by first | (simp; done) | (simp; omega)) _)
  subst hqe
  have q8 := hgo.q8
  have qq0 := hgo.q0
  have hl8 := hgo.len
  have hl81 := hgo1.len
  rw [HL0.out] at hl8
  rw [HL1.out] at hl81
  obtain ⟨m, rfl⟩ : ∃ m : Nat, q0 = m := ⟨q0.toNat, by omega⟩
  have HP := Lib.hid hgo.gp
  have HW0 : Hid (Rws p0 m xs0) := Lib.hid hgo.rws
  have HW1 : Hid (Rws p0 m xs1) := Lib.hid hgo1.rws
  have b1 : (p0 != p0) = false := by simp
  have b2 : ((m : Int) != (m : Int)) = false := by simp
  clear hgo hgo1
  go_enter Try.func8, Try.ntmps8
  go_wp2_with fail
  obtain ⟨W, hW⟩ : ∃ W, W = ((w.alloc (.cells #[.int .i64 p0, .int .i64 m, .slice a0 n0 c0] 26)).alloc (.cells #[.int .i64 p0, .int .i64 m, .slice a1 n1 c1] 26)).alloc (.cells #[.int .i64 0, .int .i64 0, .slice none 0 0] 26) := ⟨_, rfl⟩
  rw [← hW]
  have X0 : Hid (BX 26 W (w.heap.size) #[.int .i64 p0, .int .i64 m, .slice a0 n0 c0]) := Lib.hid (by rw [hW]; exact ((BX.new w _ _).alloc _).alloc _)
  have X1 : Hid (BX 26 W (w.heap.size + 1) #[.int .i64 p0, .int .i64 m, .slice a1 n1 c1]) := Lib.hid (by rw [hW]; exact (BX.newAt (by simp)).alloc _)
  have X2 : Hid (BX 26 W (w.heap.size + 1 + 1) #[.int .i64 0, .int .i64 0, .slice none 0 0]) := Lib.hid (by rw [hW]; exact BX.newAt (by simp))
  have HB0 : Hid (Below w.heap.size w W) := Lib.hid (by rw [hW]; exact (((Below.refl _ _).alloc (Nat.le_refl _) _).alloc (by simp) _).alloc (by simp; omega) _)
  have sW : W.heap.size = w.heap.size + 3 := by rw [hW]; simp
  have HA0w : Hid (RdR W a0 xs0) := Lib.hid (HA0.out.keep HB0.out (Nat.le_refl _))
  have HA1w : Hid (RdR W a1 xs1) := Lib.hid (HA1.out.keep HB0.out (Nat.le_refl _))
  clear hW
  have k0 : W.cell? ⟨w.heap.size, 0, none⟩ = some (.int .i64 p0) := X0.out.cell 0
  have k1 : W.cell? ⟨w.heap.size, 1, none⟩ = some (.int .i64 m) := X0.out.cell 1
  have k2 : W.cell? ⟨w.heap.size, 2, none⟩ = some (.slice a0 n0 c0) := X0.out.cell 2
  have v0 : W.cell? ⟨w.heap.size + 1, 0, none⟩ = some (.int .i64 p0) := X1.out.cell 0
  have v1 : W.cell? ⟨w.heap.size + 1, 1, none⟩ = some (.int .i64 m) := X1.out.cell 1
  have v2 : W.cell? ⟨w.heap.size + 1, 2, none⟩ = some (.slice a1 n1 c1) := X1.out.cell 2
  have y0 : W.cell? ⟨w.heap.size + 1 + 1, 0, none⟩ = some (.int .i64 0) := X2.out.cell 0
  have y1 : W.cell? ⟨w.heap.size + 1 + 1, 1, none⟩ = some (.int .i64 0) := X2.out.cell 1
  have y2 : W.cell? ⟨w.heap.size + 1 + 1, 2, none⟩ = some (.slice none 0 0) := X2.out.cell 2
  have f0 := X2.out.frz 0
  have f1 := X2.out.frz 1
  have f2 := X2.out.frz 2
  refine (spec_IsSubspace_any _ _ _ _ _ xs0 _ HP0.out HQ0.out (by exact HA0w.out) HL0.out HX0.out hn0 hcp0).mono ?_
  rintro e w1 ⟨he, hb⟩
  rw [HS0.out] at he
  obtain rfl := he
  clear k0 k1 k2 v0 v1 v2 y0 y1 y2 f0 f1 f2
  have HB1 : Hid (Below w.heap.size w w1) := Lib.hid (HB0.out.trans (hb.mono HB0.out.size))
  replace X0 : Hid (BX 26 w1 (w.heap.size) #[.int .i64 p0, .int .i64 m, .slice a0 n0 c0]) := Lib.hid (X0.out.keep hb)
  replace X1 : Hid (BX 26 w1 (w.heap.size + 1) #[.int .i64 p0, .int .i64 m, .slice a1 n1 c1]) := Lib.hid (X1.out.keep hb)
  replace X2 : Hid (BX 26 w1 (w.heap.size + 1 + 1) #[.int .i64 0, .int .i64 0, .slice none 0 0]) := Lib.hid (X2.out.keep hb)
  have s_w1 := hb.size
  replace HA0w : Hid (RdR w1 a0 xs0) := Lib.hid (HA0w.out.keep hb (Nat.le_refl _))
  replace HA1w : Hid (RdR w1 a1 xs1) := Lib.hid (HA1w.out.keep hb (Nat.le_refl _))
  clear hb
  have k0 : w1.cell? ⟨w.heap.size, 0, none⟩ = some (.int .i64 p0) := X0.out.cell 0
  have k1 : w1.cell? ⟨w.heap.size, 1, none⟩ = some (.int .i64 m) := X0.out.cell 1
  have k2 : w1.cell? ⟨w.heap.size, 2, none⟩ = some (.slice a0 n0 c0) := X0.out.cell 2
  have v0 : w1.cell? ⟨w.heap.size + 1, 0, none⟩ = some (.int .i64 p0) := X1.out.cell 0
  have v1 : w1.cell? ⟨w.heap.size + 1, 1, none⟩ = some (.int .i64 m) := X1.out.cell 1
  have v2 : w1.cell? ⟨w.heap.size + 1, 2, none⟩ = some (.slice a1 n1 c1) := X1.out.cell 2
  have y0 : w1.cell? ⟨w.heap.size + 1 + 1, 0, none⟩ = some (.int .i64 0) := X2.out.cell 0
  have y1 : w1.cell? ⟨w.heap.size + 1 + 1, 1, none⟩ = some (.int .i64 0) := X2.out.cell 1
  have y2 : w1.cell? ⟨w.heap.size + 1 + 1, 2, none⟩ = some (.slice none 0 0) := X2.out.cell 2
  have f0 := X2.out.frz 0
  have f1 := X2.out.frz 1
  have f2 := X2.out.frz 2
  go_wp2_with fail
  refine (spec_IsMatrix_any _ _ _ _ _ xs1 _ HP1.out HQ1.out (by exact HA1w.out) HL1.out HX1.out hn1 hcp1).mono ?_
  rintro e w2 ⟨he, hb⟩
  rw [HS1.out] at he
  obtain rfl := he
  clear k0 k1 k2 v0 v1 v2 y0 y1 y2 f0 f1 f2
  have HB2 : Hid (Below w.heap.size w w2) := Lib.hid (HB1.out.trans (hb.mono HB1.out.size))
  replace X0 : Hid (BX 26 w2 (w.heap.size) #[.int .i64 p0, .int .i64 m, .slice a0 n0 c0]) := Lib.hid (X0.out.keep hb)
  replace X1 : Hid (BX 26 w2 (w.heap.size + 1) #[.int .i64 p0, .int .i64 m, .slice a1 n1 c1]) := Lib.hid (X1.out.keep hb)
  replace X2 : Hid (BX 26 w2 (w.heap.size + 1 + 1) #[.int .i64 0, .int .i64 0, .slice none 0 0]) := Lib.hid (X2.out.keep hb)
  have s_w2 := hb.size
  replace HA0w : Hid (RdR w2 a0 xs0) := Lib.hid (HA0w.out.keep hb (Nat.le_refl _))
  replace HA1w : Hid (RdR w2 a1 xs1) := Lib.hid (HA1w.out.keep hb (Nat.le_refl _))
  clear hb
  have k0 : w2.cell? ⟨w.heap.size, 0, none⟩ = some (.int .i64 p0) := X0.out.cell 0
  have k1 : w2.cell? ⟨w.heap.size, 1, none⟩ = some (.int .i64 m) := X0.out.cell 1
  have k2 : w2.cell? ⟨w.heap.size, 2, none⟩ = some (.slice a0 n0 c0) := X0.out.cell 2
  have v0 : w2.cell? ⟨w.heap.size + 1, 0, none⟩ = some (.int .i64 p0) := X1.out.cell 0
  have v1 : w2.cell? ⟨w.heap.size + 1, 1, none⟩ = some (.int .i64 m) := X1.out.cell 1
  have v2 : w2.cell? ⟨w.heap.size + 1, 2, none⟩ = some (.slice a1 n1 c1) := X1.out.cell 2
  have y0 : w2.cell? ⟨w.heap.size + 1 + 1, 0, none⟩ = some (.int .i64 0) := X2.out.cell 0
  have y1 : w2.cell? ⟨w.heap.size + 1 + 1, 1, none⟩ = some (.int .i64 0) := X2.out.cell 1
  have y2 : w2.cell? ⟨w.heap.size + 1 + 1, 2, none⟩ = some (.slice none 0 0) := X2.out.cell 2
  have f0 := X2.out.frz 0
  have f1 := X2.out.frz 1
  have f2 := X2.out.frz 2
  go_wp2_with fail
  refine (l03Fit_any _ _ _ _ _ _ _ _ _ _ _).mono ?_
  rintro e w3 ⟨he, hb⟩
  rw [show (p0 == p0 && (m : Int) == (m : Int)) = true from by simp] at he
  obtain rfl := he
  clear k0 k1 k2 v0 v1 v2 y0 y1 y2 f0 f1 f2
  have HB3 : Hid (Below w.heap.size w w3) := Lib.hid (HB2.out.trans (hb.mono HB2.out.size))
  replace X0 : Hid (BX 26 w3 (w.heap.size) #[.int .i64 p0, .int .i64 m, .slice a0 n0 c0]) := Lib.hid (X0.out.keep hb)
  replace X1 : Hid (BX 26 w3 (w.heap.size + 1) #[.int .i64 p0, .int .i64 m, .slice a1 n1 c1]) := Lib.hid (X1.out.keep hb)
  replace X2 : Hid (BX 26 w3 (w.heap.size + 1 + 1) #[.int .i64 0, .int .i64 0, .slice none 0 0]) := Lib.hid (X2.out.keep hb)
  have s_w3 := hb.size
  replace HA0w : Hid (RdR w3 a0 xs0) := Lib.hid (HA0w.out.keep hb (Nat.le_refl _))
  replace HA1w : Hid (RdR w3 a1 xs1) := Lib.hid (HA1w.out.keep hb (Nat.le_refl _))
  clear hb
  have k0 : w3.cell? ⟨w.heap.size, 0, none⟩ = some (.int .i64 p0) := X0.out.cell 0
  have k1 : w3.cell? ⟨w.heap.size, 1, none⟩ = some (.int .i64 m) := X0.out.cell 1
  have k2 : w3.cell? ⟨w.heap.size, 2, none⟩ = some (.slice a0 n0 c0) := X0.out.cell 2
  have v0 : w3.cell? ⟨w.heap.size + 1, 0, none⟩ = some (.int .i64 p0) := X1.out.cell 0
  have v1 : w3.cell? ⟨w.heap.size + 1, 1, none⟩ = some (.int .i64 m) := X1.out.cell 1
  have v2 : w3.cell? ⟨w.heap.size + 1, 2, none⟩ = some (.slice a1 n1 c1) := X1.out.cell 2
  have y0 : w3.cell? ⟨w.heap.size + 1 + 1, 0, none⟩ = some (.int .i64 0) := X2.out.cell 0
  have y1 : w3.cell? ⟨w.heap.size + 1 + 1, 1, none⟩ = some (.int .i64 0) := X2.out.cell 1
  have y2 : w3.cell? ⟨w.heap.size + 1 + 1, 2, none⟩ = some (.slice none 0 0) := X2.out.cell 2
  have f0 := X2.out.frz 0
  have f1 := X2.out.frz 1
  have f2 := X2.out.frz 2
  go_wp2_with fail
  obtain ⟨An, Cn, hrvn, hvn⟩ := HA0w.out.fun HL0.out
  have HRVn := Lib.hid hrvn
  have HVn := Lib.hid hvn
  clear hrvn hvn
  go_region_held3 (fun w' => w'.cell? ⟨w.heap.size, 0, none⟩ = some (.int .i64 p0) ∧ w'.cell? ⟨w.heap.size, 1, none⟩ = some (.int .i64 m) ∧ w'.cell? ⟨w.heap.size + 1, 2, none⟩ = some (.slice a1 n1 c1) ∧ w'.cell? ⟨w.heap.size, 2, none⟩ = some (.slice a0 n0 c0)) (first | ((try dsimp only); (refine ⟨?_, ?_, ?_, ?_⟩) <;> first | with_reducible assumption | (rw [cell_ne (by first | (simp; done) | (simp; omega) | omega), cell_ne (by first | (simp; done) | (simp; omega) | omega), cell_ne (by first | (simp; done) | (simp; omega) | omega)]; with_reducible assumption) | (rw [cell_al (by first | (simp; done) | (simp; omega) | omega)]; with_reducible assumption)) | go_keep)
    (first
      | (go_at_call 28; (with_reducible refine (l01Own2_any _ _ _ xs1 _ ?_ HL1.out (HW1.out.short (by omega) HL1.out) (by omega)).mono ?_); exact (show RdR w3 a1 xs1 from HA1w.out); rintro e u5 ⟨ac5, cc5, rfl, ho, hb0⟩; have hb : Below w3.heap.size w3 u5 := ⟨hb0.os, hb0.tape, hb0.output, hb0.size, hb0.block⟩; obtain ⟨Ac5, Cc5, ho⟩ := ho; have HO5 : Hid (OwnR 45 2 u5 w3.heap.size ac5 n1 cc5 xs1 Ac5 Cc5) := Lib.hid ho; have HU5 := Lib.hid hb; have HRV5 := Lib.hid (RdV.keep2 HRVn.out hb); have X05 : Hid (BX 26 u5 (w.heap.size) #[.int .i64 p0, .int .i64 m, .slice a0 n0 c0]) := Lib.hid (X0.out.keep hb); have X15 : Hid (BX 26 u5 (w.heap.size + 1) #[.int .i64 p0, .int .i64 m, .slice a1 n1 c1]) := Lib.hid (X1.out.keep hb); have X25 : Hid (BX 26 u5 (w.heap.size + 1 + 1) #[.int .i64 0, .int .i64 0, .slice none 0 0]) := Lib.hid (X2.out.keep hb); have k05 : u5.cell? ⟨w.heap.size, 0, none⟩ = some (.int .i64 p0) := X05.out.cell 0; have k15 : u5.cell? ⟨w.heap.size, 1, none⟩ = some (.int .i64 m) := X05.out.cell 1; have k25 : u5.cell? ⟨w.heap.size, 2, none⟩ = some (.slice a0 n0 c0) := X05.out.cell 2; have v05 : u5.cell? ⟨w.heap.size + 1, 0, none⟩ = some (.int .i64 p0) := X15.out.cell 0; have v15 : u5.cell? ⟨w.heap.size + 1, 1, none⟩ = some (.int .i64 m) := X15.out.cell 1; have v25 : u5.cell? ⟨w.heap.size + 1, 2, none⟩ = some (.slice a1 n1 c1) := X15.out.cell 2; have y05 : u5.cell? ⟨w.heap.size + 1 + 1, 0, none⟩ = some (.int .i64 0) := X25.out.cell 0; have y15 : u5.cell? ⟨w.heap.size + 1 + 1, 1, none⟩ = some (.int .i64 0) := X25.out.cell 1; have y25 : u5.cell? ⟨w.heap.size + 1 + 1, 2, none⟩ = some (.slice none 0 0) := X25.out.cell 2; have f05 := X25.out.frz 0; have f15 := X25.out.frz 1; have f25 := X25.out.frz 2; have su5 := hb.size; clear ho hb hb0)
      | (refine step_appSW rfl (.tmp 27) (.tmp 29) 22 rfl w3.heap.size 45 (.slice none 0 0) 24 Try.underlying22 Try.infoR rfl (by decide) _ _ _ _ rfl _ _ _ rfl (by exact HO5.out.own) (rowVals xs0 An Cn n0) (rowVals_len _ _ _ _) (by exact HRV5.out) (rowVals_one _ _ _ _) (by omega) (by exact su5) ?_; rintro ad6 cd6 u6 r4 q4 g4; have HA6 := Lib.hid (app_rd HO5.out HU5.out HL0.out HVn.out r4 ⟨g4.os, g4.tape, g4.output, g4.size, g4.block⟩); have X06 : Hid (BX 26 u6 (w.heap.size) #[.int .i64 p0, .int .i64 m, .slice a0 n0 c0]) := Lib.hid (X0.out.keep HA6.out.2); have X16 : Hid (BX 26 u6 (w.heap.size + 1) #[.int .i64 p0, .int .i64 m, .slice a1 n1 c1]) := Lib.hid (X1.out.keep HA6.out.2); have X26 : Hid (BX 26 u6 (w.heap.size + 1 + 1) #[.int .i64 0, .int .i64 0, .slice none 0 0]) := Lib.hid (X2.out.keep HA6.out.2); have k06 : u6.cell? ⟨w.heap.size, 0, none⟩ = some (.int .i64 p0) := X06.out.cell 0; have k16 : u6.cell? ⟨w.heap.size, 1, none⟩ = some (.int .i64 m) := X06.out.cell 1; have k26 : u6.cell? ⟨w.heap.size, 2, none⟩ = some (.slice a0 n0 c0) := X06.out.cell 2; have v06 : u6.cell? ⟨w.heap.size + 1, 0, none⟩ = some (.int .i64 p0) := X16.out.cell 0; have v16 : u6.cell? ⟨w.heap.size + 1, 1, none⟩ = some (.int .i64 m) := X16.out.cell 1; have v26 : u6.cell? ⟨w.heap.size + 1, 2, none⟩ = some (.slice a1 n1 c1) := X16.out.cell 2; have y06 : u6.cell? ⟨w.heap.size + 1 + 1, 0, none⟩ = some (.int .i64 0) := X26.out.cell 0; have y16 : u6.cell? ⟨w.heap.size + 1 + 1, 1, none⟩ = some (.int .i64 0) := X26.out.cell 1; have y26 : u6.cell? ⟨w.heap.size + 1 + 1, 2, none⟩ = some (.slice none 0 0) := X26.out.cell 2; have f06 := X26.out.frz 0; have f16 := X26.out.frz 1; have f26 := X26.out.frz 2; have su6 := HA6.out.2.size; clear r4 q4 g4)
      | (go_at_call 27; (with_reducible refine (l02Null_any p0 HP.out _ (n1 + n0) _ m (xs1 ++ xs0) _ ?_ (by rw [List.length_append, HL1.out, HL0.out]) (HW1.out.app HW0.out) (by omega) (by omega)).mono ?_); exact HA6.out.1; rintro e w4 ⟨N, a4, c4, rfl, hnr, ho, hb0⟩; have hb : Below u6.heap.size u6 w4 := ⟨hb0.os, hb0.tape, hb0.output, hb0.size, hb0.block⟩; have HB7 : Hid (Below w3.heap.size w3 w4) := Lib.hid (HA6.out.2.trans (hb.mono su6)); have X07 : Hid (BX 26 w4 (w.heap.size) #[.int .i64 p0, .int .i64 m, .slice a0 n0 c0]) := Lib.hid (X0.out.keep HB7.out); have X17 : Hid (BX 26 w4 (w.heap.size + 1) #[.int .i64 p0, .int .i64 m, .slice a1 n1 c1]) := Lib.hid (X1.out.keep HB7.out); have X27 : Hid (BX 26 w4 (w.heap.size + 1 + 1) #[.int .i64 0, .int .i64 0, .slice none 0 0]) := Lib.hid (X2.out.keep HB7.out); have k07 : w4.cell? ⟨w.heap.size, 0, none⟩ = some (.int .i64 p0) := X07.out.cell 0; have k17 : w4.cell? ⟨w.heap.size, 1, none⟩ = some (.int .i64 m) := X07.out.cell 1; have k27 : w4.cell? ⟨w.heap.size, 2, none⟩ = some (.slice a0 n0 c0) := X07.out.cell 2; have v07 : w4.cell? ⟨w.heap.size + 1, 0, none⟩ = some (.int .i64 p0) := X17.out.cell 0; have v17 : w4.cell? ⟨w.heap.size + 1, 1, none⟩ = some (.int .i64 m) := X17.out.cell 1; have v27 : w4.cell? ⟨w.heap.size + 1, 2, none⟩ = some (.slice a1 n1 c1) := X17.out.cell 2; have y07 : w4.cell? ⟨w.heap.size + 1 + 1, 0, none⟩ = some (.int .i64 0) := X27.out.cell 0; have y17 : w4.cell? ⟨w.heap.size + 1 + 1, 1, none⟩ = some (.int .i64 0) := X27.out.cell 1; have y27 : w4.cell? ⟨w.heap.size + 1 + 1, 2, none⟩ = some (.slice none 0 0) := X27.out.cell 2; have f07 := X27.out.frz 0; have f17 := X27.out.frz 1; have f27 := X27.out.frz 2; have HNR := Lib.hid hnr; have HN4 := Lib.hid ho.rd; have su7 := HB7.out.size; clear ho hb hb0 hnr))
  have hnl := HNR.out.rref.len
  have hll : (xs1 ++ xs0).length = n1 + n0 := by rw [List.length_append, HL1.out, HL0.out]
  have HNW : Hid (Rws p0 (n1 + n0) N) := Lib.hid (by have h := HNR.out.rref; rw [hll] at h; exact ⟨h.row, h.rng⟩)
  rw [hll] at hnl
  clear hll
  have HB47 : Hid (Below w.heap.size w w4) := Lib.hid (HB3.out.trans (HB7.out.mono HB3.out.size))
  have s47 := HB3.out.size
  go_wp2_with fail
  go_loopw [8, 7] (fun i v wr => ∃ (j : Nat) (al : Option Addr) (cl : Nat) (A : Nat → Option Addr) (C : Nat → Nat), j ≤ N.length ∧ i = .int .i64 j ∧ v = .slice al j cl ∧ Hid (Vw 45 w4 wr al j cl ((headR n1 N).take j) A C)) (fun i _ _ => N.length - (intOf i).toNat)
  case atStart => exact ⟨0, _, 0, fun _ => none, fun _ => 0, Nat.zero_le _, rfl, rfl, Lib.hid (by rw [List.take_zero]; exact ⟨rfl, (OwnR.empty w4 _ 2 (fun _ => none) (fun _ => 0)).own, fun i hi => absurd hi (by omega), (Below.refl _ _).alloc (Nat.le_refl _) _⟩)⟩
  case round =>
    obtain ⟨j, al, cl, A, C, hj, rfl, rfl, HVw⟩ := hrel
    obtain ⟨wi, rfl⟩ : ∃ x, x = wr := ⟨wr, rfl⟩
    have HBv := Lib.hid HVw.out.below
    have hsz := HBv.out.size
    have X08 : Hid (BX 26 wi (w.heap.size) #[.int .i64 p0, .int .i64 m, .slice a0 n0 c0]) := Lib.hid (X07.out.keep HBv.out)
    have X18 : Hid (BX 26 wi (w.heap.size + 1) #[.int .i64 p0, .int .i64 m, .slice a1 n1 c1]) := Lib.hid (X17.out.keep HBv.out)
    have X28 : Hid (BX 26 wi (w.heap.size + 1 + 1) #[.int .i64 0, .int .i64 0, .slice none 0 0]) := Lib.hid (X27.out.keep HBv.out)
    have k08 : wi.cell? ⟨w.heap.size, 0, none⟩ = some (.int .i64 p0) := X08.out.cell 0
    have k18 : wi.cell? ⟨w.heap.size, 1, none⟩ = some (.int .i64 m) := X08.out.cell 1
    have k28 : wi.cell? ⟨w.heap.size, 2, none⟩ = some (.slice a0 n0 c0) := X08.out.cell 2
    have v08 : wi.cell? ⟨w.heap.size + 1, 0, none⟩ = some (.int .i64 p0) := X18.out.cell 0
    have v18 : wi.cell? ⟨w.heap.size + 1, 1, none⟩ = some (.int .i64 m) := X18.out.cell 1
    have v28 : wi.cell? ⟨w.heap.size + 1, 2, none⟩ = some (.slice a1 n1 c1) := X18.out.cell 2
    have y08 : wi.cell? ⟨w.heap.size + 1 + 1, 0, none⟩ = some (.int .i64 0) := X28.out.cell 0
    have y18 : wi.cell? ⟨w.heap.size + 1 + 1, 1, none⟩ = some (.int .i64 0) := X28.out.cell 1
    have y28 : wi.cell? ⟨w.heap.size + 1 + 1, 2, none⟩ = some (.slice none 0 0) := X28.out.cell 2
    have f08 := X28.out.frz 0
    have f18 := X28.out.frz 1
    have f28 := X28.out.frz 2
    have HB8 : Hid (Below w.heap.size w wi) := Lib.hid (HB47.out.trans (HBv.out.mono HB47.out.size))
    by_cases hjt : j < N.length
    · obtain ⟨b0, o0, rfl, hc⟩ := HN4.out (by omega)
      obtain ⟨aj, cj, dj0, rj, kj⟩ := hc j hjt
      have hlen := HNW.out.row j hjt
      rw [hlen] at dj0 kj
      have dj := cell_below (p := ⟨b0, o0 + j, none⟩) dj0 HBv.out
      have RT : Hid (RdI w4 aj ((rw_ N j).take n1)) := Lib.hid (rj.take n1 (by rw [hlen]; omega))
      have HLT : Hid (((rw_ N j).take n1).length = n1) := Lib.hid (by rw [List.length_take, hlen]; omega)
      have hpos : 0 < n1 + n0 := by obtain ⟨pv, hpv, _⟩ := HNR.out.rref; have := hpv.pn j hjt; have h2 := hpv.len j hjt; omega
      obtain ⟨bj, oj, rfl, _⟩ := id rj (by omega)
      have V1 : n1 ≤ cj := by omega
      have V3 : (n1 : Int) ≤ (n1 : Int) + n0 := by omega
      have J1 : (j : Int) < (N.length : Int) := by omega
      have djw4 := dj0
      clear hc rj hlen dj0
      go_wp2_with fail
      go_region_held3 (fun w' => w'.cell? ⟨b0, o0 + j, none⟩ = some (.slice (some ⟨bj, oj, none⟩) (n1 + n0) cj) ∧ w'.cell? ⟨w.heap.size + 1, 2, none⟩ = some (.slice a1 n1 c1)) (first | ((try dsimp only); (refine ⟨?_, ?_⟩) <;> first | with_reducible assumption | (rw [cell_al (by first | exact block_lt dj | exact block_lt v28)]; with_reducible assumption)) | go_keep)
        (first
          | (refine step_pushW rfl (.tmp 41) (.tmp 50) 22 rfl w4.heap.size 45 (.slice none 0 0) 24 Try.underlying22 Try.infoR rfl (by decide) (.slice (some ⟨bj, oj, none⟩) n1 cj) rfl _ _ _ _ _ rfl rfl (by exact (World.cell?_alloc_at _ _ _ _ rfl).trans rfl) (by exact (ownsRow_same HVw.out.own (fun p hp => Below.heap_alloc _ _ _ (ownsRow_block HVw.out.own p hp).2))) (by omega) (by exact Nat.le_trans hsz (by simp)) ?_; rintro a5 c5 w5 r4 q4 g4; have HN := Lib.hid (HVw.out.pushA RT.out HLT.out V1 r4 ⟨g4.os, g4.tape, g4.output, g4.size, g4.block⟩); have d5 := cell_below (p := ⟨b0, o0 + j, none⟩) djw4 HN.out.below; have v5 := X17.out.keep HN.out.below |>.cell 2; clear r4 q4 g4))
      have HN2 : Hid (Vw 45 w4 w5 a5 (j + 1) c5 ((headR n1 N).take (j + 1)) (upd A j (some ⟨bj, oj, none⟩)) (upd C j cj)) := Lib.hid (by rw [take_row2 (by rw [headR_len]; exact hjt), headR_row hjt]; exact HN.out)
      go_wp2_with fail
      go_roundw
      case rel => exact ⟨j + 1, a5, c5, _, _, by omega, by go_num, rfl, HN2⟩
      case measure => simp [intOf]; omega
    · obtain rfl : j = N.length := by omega
      have HV2 : Hid (RdR wi al (headR n1 N)) := Lib.hid (by have h := HVw.out.rd; rwa [List.take_of_length_le (by rw [headR_len]; omega)] at h)
      go_wp2_with fail
      go_region_held3 (fun w' => w'.cell? ⟨w.heap.size, 0, none⟩ = some (.int .i64 p0) ∧ w'.cell? ⟨w.heap.size + 1, 2, none⟩ = some (.slice a1 n1 c1)) (first | ((try dsimp only); (refine ⟨?_, ?_⟩) <;> first | with_reducible assumption | (rw [cell_ne (by first | (simp; done) | (simp; omega) | omega), cell_ne (by first | (simp; done) | (simp; omega) | omega), cell_ne (by first | (simp; done) | (simp; omega) | omega)]; with_reducible assumption) | (rw [cell_al (by first | (simp; done) | (simp; omega) | omega)]; with_reducible assumption)) | go_keep)
        (first
          | (go_at_call 30; (with_reducible refine (l02Reduce_any p0 HP.out _ N.length _ n1 (headR n1 N) _ ?_ (headR_len _ _) (headR_rws HNW.out) (by omega) (by omega)).mono ?_); exact HV2.out; rintro e u8 ⟨R, a8, c8, rfl, hres, ho, hb0⟩; have hb : Below wi.heap.size wi u8 := ⟨hb0.os, hb0.tape, hb0.output, hb0.size, hb0.block⟩; have X0s : Hid (BX 26 u8 (w.heap.size) #[.int .i64 p0, .int .i64 m, .slice a0 n0 c0]) := Lib.hid (X08.out.keep hb); have X1s : Hid (BX 26 u8 (w.heap.size + 1) #[.int .i64 p0, .int .i64 m, .slice a1 n1 c1]) := Lib.hid (X18.out.keep hb); have X2s : Hid (BX 26 u8 (w.heap.size + 1 + 1) #[.int .i64 0, .int .i64 0, .slice none 0 0]) := Lib.hid (X28.out.keep hb); have k0s : u8.cell? ⟨w.heap.size, 0, none⟩ = some (.int .i64 p0) := X0s.out.cell 0; have k1s : u8.cell? ⟨w.heap.size, 1, none⟩ = some (.int .i64 m) := X0s.out.cell 1; have k2s : u8.cell? ⟨w.heap.size, 2, none⟩ = some (.slice a0 n0 c0) := X0s.out.cell 2; have v0s : u8.cell? ⟨w.heap.size + 1, 0, none⟩ = some (.int .i64 p0) := X1s.out.cell 0; have v1s : u8.cell? ⟨w.heap.size + 1, 1, none⟩ = some (.int .i64 m) := X1s.out.cell 1; have v2s : u8.cell? ⟨w.heap.size + 1, 2, none⟩ = some (.slice a1 n1 c1) := X1s.out.cell 2; have y0s : u8.cell? ⟨w.heap.size + 1 + 1, 0, none⟩ = some (.int .i64 0) := X2s.out.cell 0; have y1s : u8.cell? ⟨w.heap.size + 1 + 1, 1, none⟩ = some (.int .i64 0) := X2s.out.cell 1; have y2s : u8.cell? ⟨w.heap.size + 1 + 1, 2, none⟩ = some (.slice none 0 0) := X2s.out.cell 2; have f0s := X2s.out.frz 0; have f1s := X2s.out.frz 1; have f2s := X2s.out.frz 2; have HRD := Lib.hid ho; have HRes := Lib.hid hres; have hsm := (IsRref.sm hres (by omega)).1; have HSM := Lib.hid (IsRref.sm hres (by omega)).2; have HB8u := Lib.hid hb; have su8 := hb.size; clear ho hb hb0 hres)
          | (go_at_call 29; (with_reducible refine (l02Make_any _ _ _ _ _ R _ ?_ rfl HSM.out hsm).mono ?_); exact HRD.out; rintro e w9 ⟨a', c', rfl, ho, hb0⟩; have hb : Below u8.heap.size u8 w9 := ⟨hb0.os, hb0.tape, hb0.output, hb0.size, hb0.block⟩; have HB9u : Hid (Below wi.heap.size wi w9) := Lib.hid (HB8u.out.trans (hb.mono su8)); have X09 : Hid (BX 26 w9 (w.heap.size) #[.int .i64 p0, .int .i64 m, .slice a0 n0 c0]) := Lib.hid (X08.out.keep HB9u.out); have X19 : Hid (BX 26 w9 (w.heap.size + 1) #[.int .i64 p0, .int .i64 m, .slice a1 n1 c1]) := Lib.hid (X18.out.keep HB9u.out); have X29 : Hid (BX 26 w9 (w.heap.size + 1 + 1) #[.int .i64 0, .int .i64 0, .slice none 0 0]) := Lib.hid (X28.out.keep HB9u.out); have k09 : w9.cell? ⟨w.heap.size, 0, none⟩ = some (.int .i64 p0) := X09.out.cell 0; have k19 : w9.cell? ⟨w.heap.size, 1, none⟩ = some (.int .i64 m) := X09.out.cell 1; have k29 : w9.cell? ⟨w.heap.size, 2, none⟩ = some (.slice a0 n0 c0) := X09.out.cell 2; have v09 : w9.cell? ⟨w.heap.size + 1, 0, none⟩ = some (.int .i64 p0) := X19.out.cell 0; have v19 : w9.cell? ⟨w.heap.size + 1, 1, none⟩ = some (.int .i64 m) := X19.out.cell 1; have v29 : w9.cell? ⟨w.heap.size + 1, 2, none⟩ = some (.slice a1 n1 c1) := X19.out.cell 2; have y09 : w9.cell? ⟨w.heap.size + 1 + 1, 0, none⟩ = some (.int .i64 0) := X29.out.cell 0; have y19 : w9.cell? ⟨w.heap.size + 1 + 1, 1, none⟩ = some (.int .i64 0) := X29.out.cell 1; have y29 : w9.cell? ⟨w.heap.size + 1 + 1, 2, none⟩ = some (.slice none 0 0) := X29.out.cell 2; have f09 := X29.out.frz 0; have f19 := X29.out.frz 1; have f29 := X29.out.frz 2; have HO := Lib.hid ho.has; clear ho hb hb0))
      have HB9 : Hid (Below w.heap.size w w9) := Lib.hid (HB8.out.trans (HB9u.out.mono HB8.out.size))
      have s89 := HB8.out.size
      have HR : Hid (res_PreimageSubspace xs0 p0 m xs1 p0 m p0 n1 R 0) := Lib.hid (.inr ⟨⟨HS0.out, HS1.out⟩, .inr ⟨⟨rfl, rfl⟩, rfl, by rw [HL1.out], rfl, N, by rw [Int.toNat_natCast]; exact HNR.out, by rw [HL1.out]; exact HRes.out⟩⟩)
      go_wp2_with fail
      refine bodyPost_ret (v := .tuple #[.agg #[.int .i64 (p0), .int .i64 (n1), .slice a' R.length c'], .int .i64 0]) (by simp [results, Try.results8, go_sem, y09, y19, y29]) rfl ⟨p0, n1, R, 0, a', c', rfl, HR.out, ?_, ?_⟩
      · refine MadeH.mono (B := u8.heap.size) ?_ (by omega)
        exact (((HO.out).setLow _ (by first | (simp; done) | (simp; omega)) _).setLow _ (by first | (simp; done) | (simp; omega)) _).setLow _ (by first | (simp; done) | (simp; omega)) _
      · exact (((HB9.out.setCell (by first | (simp; done) | (simp; omega)) _).setCell (by first | (simp; done) | (simp; omega)) _).setCell (by first | (simp; done) | (simp; omega)) _)
end Go.Proofs.Ytlccadpopcgmgaa
