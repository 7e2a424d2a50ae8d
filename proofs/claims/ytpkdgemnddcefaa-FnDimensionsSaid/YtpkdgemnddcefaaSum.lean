/- The sum of two subspaces: the program and the reference. -/
import Derived.Test.YtpkdgemnddcefaaAppR
import Derived.Test.YtpkdgemnddcefaaCellN
set_option linter.unusedVariables false
set_option linter.unusedSimpArgs false
namespace Go.Proofs.Ytpkdgemnddcefaa
open Go.RowKit

theorem RdV.keep {w w' : World} {a : Option Addr} {vs : List Value} (h : RdV w a vs) (hb : Below w.heap.size w w') : RdV w' a vs := fun h0 => by
  obtain ⟨b, o, ha, hc⟩ := h h0
  refine ⟨b, o, ha, fun i hi => ?_⟩
  have e := hc i hi
  rw [List.getElem?_eq_getElem hi] at e ⊢
  exact cell_below e hb
set_option maxRecDepth 20000 in
set_option maxHeartbeats 4000000 in
theorem spaceSum_any (p0 : Int) (hp : GP p0) (m : Nat) (a0 a1 : Option Addr) (n0 c0 n1 c1 : Nat) (xs0 xs1 : List (List Int)) (w : World) (ha0 : RdR w a0 xs0) (ha1 : RdR w a1 xs1) (hl0 : xs0.length = n0) (hl1 : xs1.length = n1) (hw0 : Rws p0 m xs0) (hw1 : Rws p0 m xs1) (hn0 : n0 ≤ 50) (hn1 : n1 ≤ 50) (hm : m ≤ 50) :
    Calls Try.prog 22 #[.agg #[.int .i64 p0, .int .i64 m, .slice a0 n0 c0], .agg #[.int .i64 p0, .int .i64 m, .slice a1 n1 c1]] w fun e w' => ∃ (R : List (List Int)) (a' : Option Addr) (c' : Nat), e = .returned (.agg #[.int .i64 p0, .int .i64 m, .slice a' R.length c']) ∧ IsRref p0 m (xs0 ++ xs1) R ∧ MadeH 2 w' w.heap.size a' R.length c' R ∧ Below w.heap.size w w' := by
  have HP := Lib.hid hp
  have HA0 := Lib.hid ha0
  have HA1 := Lib.hid ha1
  have HL0 := Lib.hid hl0
  have HL1 := Lib.hid hl1
  have HW0 := Lib.hid hw0
  have HW1 := Lib.hid hw1
  clear hp ha0 ha1 hl0 hl1 hw0 hw1
  go_enter Try.func22, Try.ntmps22
  go_wp2_with fail
  obtain ⟨W, hW⟩ : ∃ W, W = ((w.alloc (.cells #[.int .i64 p0, .int .i64 m, .slice a0 n0 c0] 26)).alloc (.cells #[.int .i64 p0, .int .i64 m, .slice a1 n1 c1] 26)).alloc (.cells #[.int .i64 0, .int .i64 0, .slice none 0 0] 26) := ⟨_, rfl⟩
  rw [← hW]
  have X0 : Hid (BX 26 W (w.heap.size) #[.int .i64 p0, .int .i64 m, .slice a0 n0 c0]) := Lib.hid (by rw [hW]; exact ((BX.new w _ _).alloc _).alloc _)
  have X1 : Hid (BX 26 W (w.heap.size + 1) #[.int .i64 p0, .int .i64 m, .slice a1 n1 c1]) := Lib.hid (by rw [hW]; exact (BX.newAt (by simp)).alloc _)
  have X2 : Hid (BX 26 W (w.heap.size + 1 + 1) #[.int .i64 0, .int .i64 0, .slice none 0 0]) := Lib.hid (by rw [hW]; exact BX.newAt (by simp))
  have HB0 : Hid (Below w.heap.size w W) := Lib.hid (by rw [hW]; exact (((Below.refl _ _).alloc (Nat.le_refl _) _).alloc (by simp) _).alloc (by simp; omega) _)
  have sW : W.heap.size = w.heap.size + 3 := by rw [hW]; simp
  have HA0w : Hid (RdR W a0 xs0) := Lib.hid (HA0.out.keep HB0.out (Nat.le_refl _))
  have HA1w : Hid (RdR W a1 xs1) := Lib.hid (HA1.out.keep HB0.out (Nat.le_refl _))
  clear hW
  have k0 : W.cell? ⟨w.heap.size, 0, none⟩ = some (.int .i64 p0) := X0.out.cell 0
  have k1 : W.cell? ⟨w.heap.size, 1, none⟩ = some (.int .i64 m) := X0.out.cell 1
  have k2 : W.cell? ⟨w.heap.size, 2, none⟩ = some (.slice a0 n0 c0) := X0.out.cell 2
  have v0 : W.cell? ⟨w.heap.size + 1, 0, none⟩ = some (.int .i64 p0) := X1.out.cell 0
  have v1 : W.cell? ⟨w.heap.size + 1, 1, none⟩ = some (.int .i64 m) := X1.out.cell 1
  have v2 : W.cell? ⟨w.heap.size + 1, 2, none⟩ = some (.slice a1 n1 c1) := X1.out.cell 2
  have y0 : W.cell? ⟨w.heap.size + 1 + 1, 0, none⟩ = some (.int .i64 0) := X2.out.cell 0
  have y1 : W.cell? ⟨w.heap.size + 1 + 1, 1, none⟩ = some (.int .i64 0) := X2.out.cell 1
  have y2 : W.cell? ⟨w.heap.size + 1 + 1, 2, none⟩ = some (.slice none 0 0) := X2.out.cell 2
  have f0 := X2.out.frz 0
  have f1 := X2.out.frz 1
  have f2 := X2.out.frz 2
  obtain ⟨A1, C1, hrv, hv1⟩ := HA1w.out.fun HL1.out
  have HRV0 := Lib.hid hrv
  have HV1 := Lib.hid hv1
  clear hrv hv1
  go_region_held3 (fun w' => w'.cell? ⟨w.heap.size, 0, none⟩ = some (.int .i64 p0) ∧ w'.cell? ⟨w.heap.size, 1, none⟩ = some (.int .i64 m) ∧ w'.cell? ⟨w.heap.size, 2, none⟩ = some (.slice a0 n0 c0) ∧ w'.cell? ⟨w.heap.size + 1, 2, none⟩ = some (.slice a1 n1 c1)) (first | ((try dsimp only); (refine ⟨?_, ?_, ?_, ?_⟩) <;> first | with_reducible assumption | (rw [cell_ne (by first | (simp; done) | (simp; omega)), cell_ne (by first | (simp; done) | (simp; omega)), cell_ne (by first | (simp; done) | (simp; omega))]; with_reducible assumption)) | go_keep)
    (first
      | (go_at_call 49; (with_reducible refine (copyRows_any _ _ _ xs0 _ ?_ HL0.out (HW0.out.short (by omega) HL0.out) (by omega)).mono ?_); exact (show RdR W a0 xs0 from HA0w.out); rintro e u1 ⟨ac, cc, rfl, ho, hb0⟩; have hb : Below W.heap.size W u1 := ⟨hb0.os, hb0.tape, hb0.output, hb0.size, hb0.block⟩; obtain ⟨Ac, Cc, ho⟩ := ho; have HO1 : Hid (OwnR 52 2 u1 W.heap.size ac n0 cc xs0 Ac Cc) := Lib.hid ho; have HU1 := Lib.hid hb; have HRV := Lib.hid (RdV.keep HRV0.out hb); have X0' : Hid (BX 26 u1 (w.heap.size) #[.int .i64 p0, .int .i64 m, .slice a0 n0 c0]) := Lib.hid (X0.out.keep hb); have X1' : Hid (BX 26 u1 (w.heap.size + 1) #[.int .i64 p0, .int .i64 m, .slice a1 n1 c1]) := Lib.hid (X1.out.keep hb); have X2' : Hid (BX 26 u1 (w.heap.size + 1 + 1) #[.int .i64 0, .int .i64 0, .slice none 0 0]) := Lib.hid (X2.out.keep hb); have k0' : u1.cell? ⟨w.heap.size, 0, none⟩ = some (.int .i64 p0) := X0'.out.cell 0; have k1' : u1.cell? ⟨w.heap.size, 1, none⟩ = some (.int .i64 m) := X0'.out.cell 1; have k2' : u1.cell? ⟨w.heap.size, 2, none⟩ = some (.slice a0 n0 c0) := X0'.out.cell 2; have v0' : u1.cell? ⟨w.heap.size + 1, 0, none⟩ = some (.int .i64 p0) := X1'.out.cell 0; have v1' : u1.cell? ⟨w.heap.size + 1, 1, none⟩ = some (.int .i64 m) := X1'.out.cell 1; have v2' : u1.cell? ⟨w.heap.size + 1, 2, none⟩ = some (.slice a1 n1 c1) := X1'.out.cell 2; have y0' : u1.cell? ⟨w.heap.size + 1 + 1, 0, none⟩ = some (.int .i64 0) := X2'.out.cell 0; have y1' : u1.cell? ⟨w.heap.size + 1 + 1, 1, none⟩ = some (.int .i64 0) := X2'.out.cell 1; have y2' : u1.cell? ⟨w.heap.size + 1 + 1, 2, none⟩ = some (.slice none 0 0) := X2'.out.cell 2; have f0' := X2'.out.frz 0; have f1' := X2'.out.frz 1; have f2' := X2'.out.frz 2; have su1 := hb.size; clear ho hb hb0)
      | (refine step_appSW rfl (.tmp 11) (.tmp 13) 24 rfl W.heap.size 52 (.slice none 0 0) 24 Try.underlying24 Try.infoR rfl (by decide) _ _ _ _ rfl _ _ _ rfl (by exact HO1.out.own) (rowVals xs1 A1 C1 n1) (rowVals_len _ _ _ _) (by exact HRV.out) (rowVals_one _ _ _ _) (by omega) (by exact su1) ?_; rintro ad cd u2 r4 q4 g4; have HA2 := Lib.hid (app_rd HO1.out HU1.out HL1.out HV1.out r4 ⟨g4.os, g4.tape, g4.output, g4.size, g4.block⟩); have X0'' : Hid (BX 26 u2 (w.heap.size) #[.int .i64 p0, .int .i64 m, .slice a0 n0 c0]) := Lib.hid (X0.out.keep HA2.out.2); have X1'' : Hid (BX 26 u2 (w.heap.size + 1) #[.int .i64 p0, .int .i64 m, .slice a1 n1 c1]) := Lib.hid (X1.out.keep HA2.out.2); have X2'' : Hid (BX 26 u2 (w.heap.size + 1 + 1) #[.int .i64 0, .int .i64 0, .slice none 0 0]) := Lib.hid (X2.out.keep HA2.out.2); have k0'' : u2.cell? ⟨w.heap.size, 0, none⟩ = some (.int .i64 p0) := X0''.out.cell 0; have k1'' : u2.cell? ⟨w.heap.size, 1, none⟩ = some (.int .i64 m) := X0''.out.cell 1; have k2'' : u2.cell? ⟨w.heap.size, 2, none⟩ = some (.slice a0 n0 c0) := X0''.out.cell 2; have v0'' : u2.cell? ⟨w.heap.size + 1, 0, none⟩ = some (.int .i64 p0) := X1''.out.cell 0; have v1'' : u2.cell? ⟨w.heap.size + 1, 1, none⟩ = some (.int .i64 m) := X1''.out.cell 1; have v2'' : u2.cell? ⟨w.heap.size + 1, 2, none⟩ = some (.slice a1 n1 c1) := X1''.out.cell 2; have y0'' : u2.cell? ⟨w.heap.size + 1 + 1, 0, none⟩ = some (.int .i64 0) := X2''.out.cell 0; have y1'' : u2.cell? ⟨w.heap.size + 1 + 1, 1, none⟩ = some (.int .i64 0) := X2''.out.cell 1; have y2'' : u2.cell? ⟨w.heap.size + 1 + 1, 2, none⟩ = some (.slice none 0 0) := X2''.out.cell 2; have f0'' := X2''.out.frz 0; have f1'' := X2''.out.frz 1; have f2'' := X2''.out.frz 2; have su2 := HA2.out.2.size; clear r4 q4 g4)
      | (go_at_call 48; (with_reducible refine (spanOf_any p0 HP.out m _ (n0 + n1) _ (xs0 ++ xs1) _ ?_ (by rw [List.length_append, HL0.out, HL1.out]) (HW0.out.app HW1.out) (by omega) (by omega)).mono ?_); exact HA2.out.1; rintro e u3 ⟨R, a', c', rfl, hres, ho, hb0⟩; have hb : Below u2.heap.size u2 u3 := ⟨hb0.os, hb0.tape, hb0.output, hb0.size, hb0.block⟩; have HB3 : Hid (Below W.heap.size W u3) := Lib.hid (HA2.out.2.trans (hb.mono su2)); have X0''' : Hid (BX 26 u3 (w.heap.size) #[.int .i64 p0, .int .i64 m, .slice a0 n0 c0]) := Lib.hid (X0.out.keep HB3.out); have X1''' : Hid (BX 26 u3 (w.heap.size + 1) #[.int .i64 p0, .int .i64 m, .slice a1 n1 c1]) := Lib.hid (X1.out.keep HB3.out); have X2''' : Hid (BX 26 u3 (w.heap.size + 1 + 1) #[.int .i64 0, .int .i64 0, .slice none 0 0]) := Lib.hid (X2.out.keep HB3.out); have k0''' : u3.cell? ⟨w.heap.size, 0, none⟩ = some (.int .i64 p0) := X0'''.out.cell 0; have k1''' : u3.cell? ⟨w.heap.size, 1, none⟩ = some (.int .i64 m) := X0'''.out.cell 1; have k2''' : u3.cell? ⟨w.heap.size, 2, none⟩ = some (.slice a0 n0 c0) := X0'''.out.cell 2; have v0''' : u3.cell? ⟨w.heap.size + 1, 0, none⟩ = some (.int .i64 p0) := X1'''.out.cell 0; have v1''' : u3.cell? ⟨w.heap.size + 1, 1, none⟩ = some (.int .i64 m) := X1'''.out.cell 1; have v2''' : u3.cell? ⟨w.heap.size + 1, 2, none⟩ = some (.slice a1 n1 c1) := X1'''.out.cell 2; have y0''' : u3.cell? ⟨w.heap.size + 1 + 1, 0, none⟩ = some (.int .i64 0) := X2'''.out.cell 0; have y1''' : u3.cell? ⟨w.heap.size + 1 + 1, 1, none⟩ = some (.int .i64 0) := X2'''.out.cell 1; have y2''' : u3.cell? ⟨w.heap.size + 1 + 1, 2, none⟩ = some (.slice none 0 0) := X2'''.out.cell 2; have f0''' := X2'''.out.frz 0; have f1''' := X2'''.out.frz 1; have f2''' := X2'''.out.frz 2; have HO := Lib.hid ho; have HRes := Lib.hid hres; clear ho hb hb0 hres))
  have HB4 : Hid (Below w.heap.size w u3) := Lib.hid (HB0.out.trans (HB3.out.mono HB0.out.size))
  have s4 := HB0.out.size
  go_wp2_with fail
  refine bodyPost_ret (v := .agg #[.int .i64 p0, .int .i64 m, .slice a' R.length c']) (by simp [results, Try.results22, go_sem, y0''', y1''', y2''']) rfl ⟨R, a', c', rfl, HRes.out, ?_, ?_⟩
  · refine MadeH.mono (B := u2.heap.size) ?_ (by omega)
    exact (((HO.out).setLow _ (by first | (simp; done) | (simp; omega)) _).setLow _ (by first | (simp; done) | (simp; omega)) _).setLow _ (by first | (simp; done) | (simp; omega)) _
  · exact (((HB4.out.setCell (by first | (simp; done) | (simp; omega)) _).setCell (by first | (simp; done) | (simp; omega)) _).setCell (by first | (simp; done) | (simp; omega)) _)
def res_SubspaceSum (xs0 : List (List Int)) (p0 q0 : Int) (xs1 : List (List Int)) (p1 q1 P Q : Int) (R : List (List Int)) (d : Int) : Prop :=
  (¬ (subB xs0 p0 q0 = true ∧ subB xs1 p1 q1 = true) ∧ (P, Q, R, d) = mvBad 1) ∨
  ((subB xs0 p0 q0 = true ∧ subB xs1 p1 q1 = true) ∧ ((¬ (p0 = p1 ∧ q0 = q1) ∧ (P, Q, R, d) = mvBad 2) ∨ ((p0 = p1 ∧ q0 = q1) ∧ P = p0 ∧ Q = q0 ∧ d = 0 ∧ IsRref p0 q0.toNat (xs0 ++ xs1) R)))
theorem res_SubspaceSum_uniq {xs0 xs1 : List (List Int)} {p0 q0 p1 q1 P1 Q1 P2 Q2 d1 d2 : Int} {R1 R2 : List (List Int)} (h : res_SubspaceSum xs0 p0 q0 xs1 p1 q1 P1 Q1 R1 d1) (k : res_SubspaceSum xs0 p0 q0 xs1 p1 q1 P2 Q2 R2 d2) : P1 = P2 ∧ Q1 = Q2 ∧ R1 = R2 ∧ d1 = d2 := by
  rcases h with ⟨h0, h⟩ | ⟨h0, ⟨h1, h⟩ | ⟨h1, h2, h3, h4, h5⟩⟩ <;> rcases k with ⟨k0, k⟩ | ⟨k0, ⟨k1, k⟩ | ⟨k1, k2, k3, k4, k5⟩⟩
  · exact mv_uniq h k
  · exact absurd k0 h0
  · exact absurd k0 h0
  · exact absurd h0 k0
  · exact mv_uniq h k
  · exact absurd k1 h1
  · exact absurd h0 k0
  · exact absurd h1 k1
  · exact ⟨by rw [h2, k2], by rw [h3, k3], h5.unique k5 (isMx_ok (subB_yes h0.1).1).gp.bd.1, by rw [h4, k4]⟩
theorem res_SubspaceSum_small {xs0 xs1 : List (List Int)} {p0 q0 p1 q1 P Q d : Int} {R : List (List Int)} (h : res_SubspaceSum xs0 p0 q0 xs1 p1 q1 P Q R d) : R.length ≤ 1048576 ∧ ∀ i, i < R.length → (rw_ R i).length ≤ 1048576 := by
  rcases h with ⟨h0, h⟩ | ⟨h0, ⟨h1, h⟩ | ⟨h1, h2, h3, h4, h5⟩⟩
  · exact mvBad_small h
  · exact mvBad_small h
  · have := (isMx_ok (subB_yes h0.1).1).q8
    exact h5.sm (by omega)
set_option maxRecDepth 20000 in
set_option maxHeartbeats 4000000 in
theorem impl_SubspaceSum_any (p0 q0 : Int) (a0 : Option Addr) (n0 c0 : Nat) (xs0 : List (List Int)) (p1 q1 : Int) (a1 : Option Addr) (n1 c1 : Nat) (xs1 : List (List Int)) (w : World) (hp0 : I64 p0) (hq0 : I64 q0) (ha0 : RdR w a0 xs0) (hl0 : xs0.length = n0) (hx0 : ∀ i, i < n0 → (rw_ xs0 i).length ≤ 1048576) (hn0 : n0 ≤ 1048576) (hcp0 : n0 ≤ c0) (hp1 : I64 p1) (hq1 : I64 q1) (ha1 : RdR w a1 xs1) (hl1 : xs1.length = n1) (hx1 : ∀ i, i < n1 → (rw_ xs1 i).length ≤ 1048576) (hn1 : n1 ≤ 1048576) (hcp1 : n1 ≤ c1) :
    Calls Try.prog 7 #[.agg #[.int .i64 p0, .int .i64 q0, .slice a0 n0 c0], .agg #[.int .i64 p1, .int .i64 q1, .slice a1 n1 c1]] w fun e w' => ∃ (P Q : Int) (R : List (List Int)) (d : Int) (a' : Option Addr) (c' : Nat), e = .returned (.tuple #[.agg #[.int .i64 P, .int .i64 Q, .slice a' R.length c'], .int .i64 d]) ∧ res_SubspaceSum xs0 p0 q0 xs1 p1 q1 P Q R d ∧ MadeH 2 w' w.heap.size a' R.length c' R ∧ Below w.heap.size w w' := by
  have HP0 := Lib.hid hp0
  have HQ0 := Lib.hid hq0
  have HA0 := Lib.hid ha0
  have HL0 := Lib.hid hl0
  have HX0 := Lib.hid hx0
  clear hp0 hq0 ha0 hl0 hx0
  have HP1 := Lib.hid hp1
  have HQ1 := Lib.hid hq1
  have HA1 := Lib.hid ha1
  have HL1 := Lib.hid hl1
  have HX1 := Lib.hid hx1
  clear hp1 hq1 ha1 hl1 hx1
  by_cases hs0 : subB xs0 p0 q0 = true
  rotate_left
  · have HS0 : Hid (subB xs0 p0 q0 = false) := Lib.hid (by simpa using hs0)
    have HR : Hid (res_SubspaceSum xs0 p0 q0 xs1 p1 q1 0 0 [] 1) := Lib.hid (.inl ⟨fun h => hs0 h.1, rfl⟩)
    clear hs0
    go_enter Try.func7, Try.ntmps7
    go_wp2_with fail
    obtain ⟨W, hW⟩ : ∃ W, W = ((w.alloc (.cells #[.int .i64 p0, .int .i64 q0, .slice a0 n0 c0] 26)).alloc (.cells #[.int .i64 p1, .int .i64 q1, .slice a1 n1 c1] 26)).alloc (.cells #[.int .i64 0, .int .i64 0, .slice none 0 0] 26) := ⟨_, rfl⟩
    rw [← hW]
    have X0 : Hid (BX 26 W (w.heap.size) #[.int .i64 p0, .int .i64 q0, .slice a0 n0 c0]) := Lib.hid (by rw [hW]; exact ((BX.new w _ _).alloc _).alloc _)
    have X1 : Hid (BX 26 W (w.heap.size + 1) #[.int .i64 p1, .int .i64 q1, .slice a1 n1 c1]) := Lib.hid (by rw [hW]; exact (BX.newAt (by simp)).alloc _)
    have X2 : Hid (BX 26 W (w.heap.size + 1 + 1) #[.int .i64 0, .int .i64 0, .slice none 0 0]) := Lib.hid (by rw [hW]; exact BX.newAt (by simp))
    have HB0 : Hid (Below w.heap.size w W) := Lib.hid (by rw [hW]; exact (((Below.refl _ _).alloc (Nat.le_refl _) _).alloc (by simp) _).alloc (by simp; omega) _)
    have sW : W.heap.size = w.heap.size + 3 := by rw [hW]; simp
    have HA0w : Hid (RdR W a0 xs0) := Lib.hid (HA0.out.keep HB0.out (Nat.le_refl _))
    have HA1w : Hid (RdR W a1 xs1) := Lib.hid (HA1.out.keep HB0.out (Nat.le_refl _))
    clear hW
    have k0 : W.cell? ⟨w.heap.size, 0, none⟩ = some (.int .i64 p0) := X0.out.cell 0
    have k1 : W.cell? ⟨w.heap.size, 1, none⟩ = some (.int .i64 q0) := X0.out.cell 1
    have k2 : W.cell? ⟨w.heap.size, 2, none⟩ = some (.slice a0 n0 c0) := X0.out.cell 2
    have v0 : W.cell? ⟨w.heap.size + 1, 0, none⟩ = some (.int .i64 p1) := X1.out.cell 0
    have v1 : W.cell? ⟨w.heap.size + 1, 1, none⟩ = some (.int .i64 q1) := X1.out.cell 1
    have v2 : W.cell? ⟨w.heap.size + 1, 2, none⟩ = some (.slice a1 n1 c1) := X1.out.cell 2
    have y0 : W.cell? ⟨w.heap.size + 1 + 1, 0, none⟩ = some (.int .i64 0) := X2.out.cell 0
    have y1 : W.cell? ⟨w.heap.size + 1 + 1, 1, none⟩ = some (.int .i64 0) := X2.out.cell 1
    have y2 : W.cell? ⟨w.heap.size + 1 + 1, 2, none⟩ = some (.slice none 0 0) := X2.out.cell 2
    have f0 := X2.out.frz 0
    have f1 := X2.out.frz 1
    have f2 := X2.out.frz 2
    refine (impl_IsSubspace_any _ _ _ _ _ xs0 _ HP0.out HQ0.out (by exact HA0w.out) HL0.out HX0.out hn0 hcp0).mono ?_
    rintro e w1 ⟨he, hb⟩
    rw [HS0.out] at he
    obtain rfl := he
    clear k0 k1 k2 v0 v1 v2 y0 y1 y2 f0 f1 f2
    have HB1 : Hid (Below w.heap.size w w1) := Lib.hid (HB0.out.trans (hb.mono HB0.out.size))
    replace X0 : Hid (BX 26 w1 (w.heap.size) #[.int .i64 p0, .int .i64 q0, .slice a0 n0 c0]) := Lib.hid (X0.out.keep hb)
    replace X1 : Hid (BX 26 w1 (w.heap.size + 1) #[.int .i64 p1, .int .i64 q1, .slice a1 n1 c1]) := Lib.hid (X1.out.keep hb)
    replace X2 : Hid (BX 26 w1 (w.heap.size + 1 + 1) #[.int .i64 0, .int .i64 0, .slice none 0 0]) := Lib.hid (X2.out.keep hb)
    have s_w1 := hb.size
    replace HA0w : Hid (RdR w1 a0 xs0) := Lib.hid (HA0w.out.keep hb (Nat.le_refl _))
    replace HA1w : Hid (RdR w1 a1 xs1) := Lib.hid (HA1w.out.keep hb (Nat.le_refl _))
    clear hb
    have k0 : w1.cell? ⟨w.heap.size, 0, none⟩ = some (.int .i64 p0) := X0.out.cell 0
    have k1 : w1.cell? ⟨w.heap.size, 1, none⟩ = some (.int .i64 q0) := X0.out.cell 1
    have k2 : w1.cell? ⟨w.heap.size, 2, none⟩ = some (.slice a0 n0 c0) := X0.out.cell 2
    have v0 : w1.cell? ⟨w.heap.size + 1, 0, none⟩ = some (.int .i64 p1) := X1.out.cell 0
    have v1 : w1.cell? ⟨w.heap.size + 1, 1, none⟩ = some (.int .i64 q1) := X1.out.cell 1
    have v2 : w1.cell? ⟨w.heap.size + 1, 2, none⟩ = some (.slice a1 n1 c1) := X1.out.cell 2
    have y0 : w1.cell? ⟨w.heap.size + 1 + 1, 0, none⟩ = some (.int .i64 0) := X2.out.cell 0
    have y1 : w1.cell? ⟨w.heap.size + 1 + 1, 1, none⟩ = some (.int .i64 0) := X2.out.cell 1
    have y2 : w1.cell? ⟨w.heap.size + 1 + 1, 2, none⟩ = some (.slice none 0 0) := X2.out.cell 2
    have f0 := X2.out.frz 0
    have f1 := X2.out.frz 1
    have f2 := X2.out.frz 2
    go_wp2_with fail
    refine bodyPost_ret (v := .tuple #[.agg #[.int .i64 0, .int .i64 0, .slice none 0 0], .int .i64 1]) (by simp [results, Try.results7, go_sem, y0, y1, y2]) rfl ⟨0, 0, [], 1, none, 0, rfl, HR.out, MadeH.none, ?_⟩
    exact (((HB1.out.setCell (by first | (simp; done) | (simp; omega)) _).setCell (by first | (simp; done) | (simp; omega)) _).setCell (by first | (simp; done) | (simp; omega)) _)
  have HS0 := Lib.hid hs0
  by_cases hs1 : subB xs1 p1 q1 = true
  rotate_left
  · have HS1 : Hid (subB xs1 p1 q1 = false) := Lib.hid (by simpa using hs1)
    have HR : Hid (res_SubspaceSum xs0 p0 q0 xs1 p1 q1 0 0 [] 1) := Lib.hid (.inl ⟨fun h => hs1 h.2, rfl⟩)
    clear hs0 hs1
    go_enter Try.func7, Try.ntmps7
    go_wp2_with fail
    obtain ⟨W, hW⟩ : ∃ W, W = ((w.alloc (.cells #[.int .i64 p0, .int .i64 q0, .slice a0 n0 c0] 26)).alloc (.cells #[.int .i64 p1, .int .i64 q1, .slice a1 n1 c1] 26)).alloc (.cells #[.int .i64 0, .int .i64 0, .slice none 0 0] 26) := ⟨_, rfl⟩
    rw [← hW]
    have X0 : Hid (BX 26 W (w.heap.size) #[.int .i64 p0, .int .i64 q0, .slice a0 n0 c0]) := Lib.hid (by rw [hW]; exact ((BX.new w _ _).alloc _).alloc _)
    have X1 : Hid (BX 26 W (w.heap.size + 1) #[.int .i64 p1, .int .i64 q1, .slice a1 n1 c1]) := Lib.hid (by rw [hW]; exact (BX.newAt (by simp)).alloc _)
    have X2 : Hid (BX 26 W (w.heap.size + 1 + 1) #[.int .i64 0, .int .i64 0, .slice none 0 0]) := Lib.hid (by rw [hW]; exact BX.newAt (by simp))
    have HB0 : Hid (Below w.heap.size w W) := Lib.hid (by rw [hW]; exact (((Below.refl _ _).alloc (Nat.le_refl _) _).alloc (by simp) _).alloc (by simp; omega) _)
    have sW : W.heap.size = w.heap.size + 3 := by rw [hW]; simp
    have HA0w : Hid (RdR W a0 xs0) := Lib.hid (HA0.out.keep HB0.out (Nat.le_refl _))
    have HA1w : Hid (RdR W a1 xs1) := Lib.hid (HA1.out.keep HB0.out (Nat.le_refl _))
    clear hW
    have k0 : W.cell? ⟨w.heap.size, 0, none⟩ = some (.int .i64 p0) := X0.out.cell 0
    have k1 : W.cell? ⟨w.heap.size, 1, none⟩ = some (.int .i64 q0) := X0.out.cell 1
    have k2 : W.cell? ⟨w.heap.size, 2, none⟩ = some (.slice a0 n0 c0) := X0.out.cell 2
    have v0 : W.cell? ⟨w.heap.size + 1, 0, none⟩ = some (.int .i64 p1) := X1.out.cell 0
    have v1 : W.cell? ⟨w.heap.size + 1, 1, none⟩ = some (.int .i64 q1) := X1.out.cell 1
    have v2 : W.cell? ⟨w.heap.size + 1, 2, none⟩ = some (.slice a1 n1 c1) := X1.out.cell 2
    have y0 : W.cell? ⟨w.heap.size + 1 + 1, 0, none⟩ = some (.int .i64 0) := X2.out.cell 0
    have y1 : W.cell? ⟨w.heap.size + 1 + 1, 1, none⟩ = some (.int .i64 0) := X2.out.cell 1
    have y2 : W.cell? ⟨w.heap.size + 1 + 1, 2, none⟩ = some (.slice none 0 0) := X2.out.cell 2
    have f0 := X2.out.frz 0
    have f1 := X2.out.frz 1
    have f2 := X2.out.frz 2
    refine (impl_IsSubspace_any _ _ _ _ _ xs0 _ HP0.out HQ0.out (by exact HA0w.out) HL0.out HX0.out hn0 hcp0).mono ?_
    rintro e w1 ⟨he, hb⟩
    rw [HS0.out] at he
    obtain rfl := he
    clear k0 k1 k2 v0 v1 v2 y0 y1 y2 f0 f1 f2
    have HB1 : Hid (Below w.heap.size w w1) := Lib.hid (HB0.out.trans (hb.mono HB0.out.size))
    replace X0 : Hid (BX 26 w1 (w.heap.size) #[.int .i64 p0, .int .i64 q0, .slice a0 n0 c0]) := Lib.hid (X0.out.keep hb)
    replace X1 : Hid (BX 26 w1 (w.heap.size + 1) #[.int .i64 p1, .int .i64 q1, .slice a1 n1 c1]) := Lib.hid (X1.out.keep hb)
    replace X2 : Hid (BX 26 w1 (w.heap.size + 1 + 1) #[.int .i64 0, .int .i64 0, .slice none 0 0]) := Lib.hid (X2.out.keep hb)
    have s_w1 := hb.size
    replace HA0w : Hid (RdR w1 a0 xs0) := Lib.hid (HA0w.out.keep hb (Nat.le_refl _))
    replace HA1w : Hid (RdR w1 a1 xs1) := Lib.hid (HA1w.out.keep hb (Nat.le_refl _))
    clear hb
    have k0 : w1.cell? ⟨w.heap.size, 0, none⟩ = some (.int .i64 p0) := X0.out.cell 0
    have k1 : w1.cell? ⟨w.heap.size, 1, none⟩ = some (.int .i64 q0) := X0.out.cell 1
    have k2 : w1.cell? ⟨w.heap.size, 2, none⟩ = some (.slice a0 n0 c0) := X0.out.cell 2
    have v0 : w1.cell? ⟨w.heap.size + 1, 0, none⟩ = some (.int .i64 p1) := X1.out.cell 0
    have v1 : w1.cell? ⟨w.heap.size + 1, 1, none⟩ = some (.int .i64 q1) := X1.out.cell 1
    have v2 : w1.cell? ⟨w.heap.size + 1, 2, none⟩ = some (.slice a1 n1 c1) := X1.out.cell 2
    have y0 : w1.cell? ⟨w.heap.size + 1 + 1, 0, none⟩ = some (.int .i64 0) := X2.out.cell 0
    have y1 : w1.cell? ⟨w.heap.size + 1 + 1, 1, none⟩ = some (.int .i64 0) := X2.out.cell 1
    have y2 : w1.cell? ⟨w.heap.size + 1 + 1, 2, none⟩ = some (.slice none 0 0) := X2.out.cell 2
    have f0 := X2.out.frz 0
    have f1 := X2.out.frz 1
    have f2 := X2.out.frz 2
    go_wp2_with fail
    refine (impl_IsSubspace_any _ _ _ _ _ xs1 _ HP1.out HQ1.out (by exact HA1w.out) HL1.out HX1.out hn1 hcp1).mono ?_
    rintro e w2 ⟨he, hb⟩
    rw [HS1.out] at he
    obtain rfl := he
    clear k0 k1 k2 v0 v1 v2 y0 y1 y2 f0 f1 f2
    have HB2 : Hid (Below w.heap.size w w2) := Lib.hid (HB1.out.trans (hb.mono HB1.out.size))
    replace X0 : Hid (BX 26 w2 (w.heap.size) #[.int .i64 p0, .int .i64 q0, .slice a0 n0 c0]) := Lib.hid (X0.out.keep hb)
    replace X1 : Hid (BX 26 w2 (w.heap.size + 1) #[.int .i64 p1, .int .i64 q1, .slice a1 n1 c1]) := Lib.hid (X1.out.keep hb)
    replace X2 : Hid (BX 26 w2 (w.heap.size + 1 + 1) #[.int .i64 0, .int .i64 0, .slice none 0 0]) := Lib.hid (X2.out.keep hb)
    have s_w2 := hb.size
    replace HA0w : Hid (RdR w2 a0 xs0) := Lib.hid (HA0w.out.keep hb (Nat.le_refl _))
    replace HA1w : Hid (RdR w2 a1 xs1) := Lib.hid (HA1w.out.keep hb (Nat.le_refl _))
    clear hb
    have k0 : w2.cell? ⟨w.heap.size, 0, none⟩ = some (.int .i64 p0) := X0.out.cell 0
    have k1 : w2.cell? ⟨w.heap.size, 1, none⟩ = some (.int .i64 q0) := X0.out.cell 1
    have k2 : w2.cell? ⟨w.heap.size, 2, none⟩ = some (.slice a0 n0 c0) := X0.out.cell 2
    have v0 : w2.cell? ⟨w.heap.size + 1, 0, none⟩ = some (.int .i64 p1) := X1.out.cell 0
    have v1 : w2.cell? ⟨w.heap.size + 1, 1, none⟩ = some (.int .i64 q1) := X1.out.cell 1
    have v2 : w2.cell? ⟨w.heap.size + 1, 2, none⟩ = some (.slice a1 n1 c1) := X1.out.cell 2
    have y0 : w2.cell? ⟨w.heap.size + 1 + 1, 0, none⟩ = some (.int .i64 0) := X2.out.cell 0
    have y1 : w2.cell? ⟨w.heap.size + 1 + 1, 1, none⟩ = some (.int .i64 0) := X2.out.cell 1
    have y2 : w2.cell? ⟨w.heap.size + 1 + 1, 2, none⟩ = some (.slice none 0 0) := X2.out.cell 2
    have f0 := X2.out.frz 0
    have f1 := X2.out.frz 1
    have f2 := X2.out.frz 2
    go_wp2_with fail
    refine bodyPost_ret (v := .tuple #[.agg #[.int .i64 0, .int .i64 0, .slice none 0 0], .int .i64 1]) (by simp [results, Try.results7, go_sem, y0, y1, y2]) rfl ⟨0, 0, [], 1, none, 0, rfl, HR.out, MadeH.none, ?_⟩
    exact (((HB2.out.setCell (by first | (simp; done) | (simp; omega)) _).setCell (by first | (simp; done) | (simp; omega)) _).setCell (by first | (simp; done) | (simp; omega)) _)
  have HS1 := Lib.hid hs1
  have hgo := isMx_ok (subB_yes hs0).1
  have hgo1 := isMx_ok (subB_yes hs1).1
  clear hs0 hs1
  by_cases hpe : p0 = p1
  rotate_left
  · have HR : Hid (res_SubspaceSum xs0 p0 q0 xs1 p1 q1 0 0 [] 2) := Lib.hid (.inr ⟨⟨HS0.out, HS1.out⟩, .inl ⟨fun h => hpe h.1, rfl⟩⟩)
    have b1 : (p0 != p1) = true := bne_iff_ne.2 hpe
    have HNE := Lib.hid hpe
    clear hgo hgo1 hpe
    go_enter Try.func7, Try.ntmps7
    go_wp2_with fail
    obtain ⟨W, hW⟩ : ∃ W, W = ((w.alloc (.cells #[.int .i64 p0, .int .i64 q0, .slice a0 n0 c0] 26)).alloc (.cells #[.int .i64 p1, .int .i64 q1, .slice a1 n1 c1] 26)).alloc (.cells #[.int .i64 0, .int .i64 0, .slice none 0 0] 26) := ⟨_, rfl⟩
    rw [← hW]
    have X0 : Hid (BX 26 W (w.heap.size) #[.int .i64 p0, .int .i64 q0, .slice a0 n0 c0]) := Lib.hid (by rw [hW]; exact ((BX.new w _ _).alloc _).alloc _)
    have X1 : Hid (BX 26 W (w.heap.size + 1) #[.int .i64 p1, .int .i64 q1, .slice a1 n1 c1]) := Lib.hid (by rw [hW]; exact (BX.newAt (by simp)).alloc _)
    have X2 : Hid (BX 26 W (w.heap.size + 1 + 1) #[.int .i64 0, .int .i64 0, .slice none 0 0]) := Lib.hid (by rw [hW]; exact BX.newAt (by simp))
    have HB0 : Hid (Below w.heap.size w W) := Lib.hid (by rw [hW]; exact (((Below.refl _ _).alloc (Nat.le_refl _) _).alloc (by simp) _).alloc (by simp; omega) _)
    have sW : W.heap.size = w.heap.size + 3 := by rw [hW]; simp
    have HA0w : Hid (RdR W a0 xs0) := Lib.hid (HA0.out.keep HB0.out (Nat.le_refl _))
    have HA1w : Hid (RdR W a1 xs1) := Lib.hid (HA1.out.keep HB0.out (Nat.le_refl _))
    clear hW
    have k0 : W.cell? ⟨w.heap.size, 0, none⟩ = some (.int .i64 p0) := X0.out.cell 0
    have k1 : W.cell? ⟨w.heap.size, 1, none⟩ = some (.int .i64 q0) := X0.out.cell 1
    have k2 : W.cell? ⟨w.heap.size, 2, none⟩ = some (.slice a0 n0 c0) := X0.out.cell 2
    have v0 : W.cell? ⟨w.heap.size + 1, 0, none⟩ = some (.int .i64 p1) := X1.out.cell 0
    have v1 : W.cell? ⟨w.heap.size + 1, 1, none⟩ = some (.int .i64 q1) := X1.out.cell 1
    have v2 : W.cell? ⟨w.heap.size + 1, 2, none⟩ = some (.slice a1 n1 c1) := X1.out.cell 2
    have y0 : W.cell? ⟨w.heap.size + 1 + 1, 0, none⟩ = some (.int .i64 0) := X2.out.cell 0
    have y1 : W.cell? ⟨w.heap.size + 1 + 1, 1, none⟩ = some (.int .i64 0) := X2.out.cell 1
    have y2 : W.cell? ⟨w.heap.size + 1 + 1, 2, none⟩ = some (.slice none 0 0) := X2.out.cell 2
    have f0 := X2.out.frz 0
    have f1 := X2.out.frz 1
    have f2 := X2.out.frz 2
    refine (impl_IsSubspace_any _ _ _ _ _ xs0 _ HP0.out HQ0.out (by exact HA0w.out) HL0.out HX0.out hn0 hcp0).mono ?_
    rintro e w1 ⟨he, hb⟩
    rw [HS0.out] at he
    obtain rfl := he
    clear k0 k1 k2 v0 v1 v2 y0 y1 y2 f0 f1 f2
    have HB1 : Hid (Below w.heap.size w w1) := Lib.hid (HB0.out.trans (hb.mono HB0.out.size))
    replace X0 : Hid (BX 26 w1 (w.heap.size) #[.int .i64 p0, .int .i64 q0, .slice a0 n0 c0]) := Lib.hid (X0.out.keep hb)
    replace X1 : Hid (BX 26 w1 (w.heap.size + 1) #[.int .i64 p1, .int .i64 q1, .slice a1 n1 c1]) := Lib.hid (X1.out.keep hb)
    replace X2 : Hid (BX 26 w1 (w.heap.size + 1 + 1) #[.int .i64 0, .int .i64 0, .slice none 0 0]) := Lib.hid (X2.out.keep hb)
    have s_w1 := hb.size
    replace HA0w : Hid (RdR w1 a0 xs0) := Lib.hid (HA0w.out.keep hb (Nat.le_refl _))
    replace HA1w : Hid (RdR w1 a1 xs1) := Lib.hid (HA1w.out.keep hb (Nat.le_refl _))
    clear hb
    have k0 : w1.cell? ⟨w.heap.size, 0, none⟩ = some (.int .i64 p0) := X0.out.cell 0
    have k1 : w1.cell? ⟨w.heap.size, 1, none⟩ = some (.int .i64 q0) := X0.out.cell 1
    have k2 : w1.cell? ⟨w.heap.size, 2, none⟩ = some (.slice a0 n0 c0) := X0.out.cell 2
    have v0 : w1.cell? ⟨w.heap.size + 1, 0, none⟩ = some (.int .i64 p1) := X1.out.cell 0
    have v1 : w1.cell? ⟨w.heap.size + 1, 1, none⟩ = some (.int .i64 q1) := X1.out.cell 1
    have v2 : w1.cell? ⟨w.heap.size + 1, 2, none⟩ = some (.slice a1 n1 c1) := X1.out.cell 2
    have y0 : w1.cell? ⟨w.heap.size + 1 + 1, 0, none⟩ = some (.int .i64 0) := X2.out.cell 0
    have y1 : w1.cell? ⟨w.heap.size + 1 + 1, 1, none⟩ = some (.int .i64 0) := X2.out.cell 1
    have y2 : w1.cell? ⟨w.heap.size + 1 + 1, 2, none⟩ = some (.slice none 0 0) := X2.out.cell 2
    have f0 := X2.out.frz 0
    have f1 := X2.out.frz 1
    have f2 := X2.out.frz 2
    go_wp2_with fail
    refine (impl_IsSubspace_any _ _ _ _ _ xs1 _ HP1.out HQ1.out (by exact HA1w.out) HL1.out HX1.out hn1 hcp1).mono ?_
    rintro e w2 ⟨he, hb⟩
    rw [HS1.out] at he
    obtain rfl := he
    clear k0 k1 k2 v0 v1 v2 y0 y1 y2 f0 f1 f2
    have HB2 : Hid (Below w.heap.size w w2) := Lib.hid (HB1.out.trans (hb.mono HB1.out.size))
    replace X0 : Hid (BX 26 w2 (w.heap.size) #[.int .i64 p0, .int .i64 q0, .slice a0 n0 c0]) := Lib.hid (X0.out.keep hb)
    replace X1 : Hid (BX 26 w2 (w.heap.size + 1) #[.int .i64 p1, .int .i64 q1, .slice a1 n1 c1]) := Lib.hid (X1.out.keep hb)
    replace X2 : Hid (BX 26 w2 (w.heap.size + 1 + 1) #[.int .i64 0, .int .i64 0, .slice none 0 0]) := Lib.hid (X2.out.keep hb)
    have s_w2 := hb.size
    replace HA0w : Hid (RdR w2 a0 xs0) := Lib.hid (HA0w.out.keep hb (Nat.le_refl _))
    replace HA1w : Hid (RdR w2 a1 xs1) := Lib.hid (HA1w.out.keep hb (Nat.le_refl _))
    clear hb
    have k0 : w2.cell? ⟨w.heap.size, 0, none⟩ = some (.int .i64 p0) := X0.out.cell 0
    have k1 : w2.cell? ⟨w.heap.size, 1, none⟩ = some (.int .i64 q0) := X0.out.cell 1
    have k2 : w2.cell? ⟨w.heap.size, 2, none⟩ = some (.slice a0 n0 c0) := X0.out.cell 2
    have v0 : w2.cell? ⟨w.heap.size + 1, 0, none⟩ = some (.int .i64 p1) := X1.out.cell 0
    have v1 : w2.cell? ⟨w.heap.size + 1, 1, none⟩ = some (.int .i64 q1) := X1.out.cell 1
    have v2 : w2.cell? ⟨w.heap.size + 1, 2, none⟩ = some (.slice a1 n1 c1) := X1.out.cell 2
    have y0 : w2.cell? ⟨w.heap.size + 1 + 1, 0, none⟩ = some (.int .i64 0) := X2.out.cell 0
    have y1 : w2.cell? ⟨w.heap.size + 1 + 1, 1, none⟩ = some (.int .i64 0) := X2.out.cell 1
    have y2 : w2.cell? ⟨w.heap.size + 1 + 1, 2, none⟩ = some (.slice none 0 0) := X2.out.cell 2
    have f0 := X2.out.frz 0
    have f1 := X2.out.frz 1
    have f2 := X2.out.frz 2
    go_wp2_with fail
    refine bodyPost_ret (v := .tuple #[.agg #[.int .i64 0, .int .i64 0, .slice none 0 0], .int .i64 2]) (by simp [results, Try.results7, go_sem, y0, y1, y2]) rfl ⟨0, 0, [], 2, none, 0, rfl, HR.out, MadeH.none, ?_⟩
    exact (((HB2.out.setCell (by first | (simp; done) | (simp; omega)) _).setCell (by first | (simp; done) | (simp; omega)) _).setCell (by first | (simp; done) | (simp; omega)) _)
  subst hpe
  by_cases hqe : q0 = q1
  rotate_left
  · have HR : Hid (res_SubspaceSum xs0 p0 q0 xs1 p0 q1 0 0 [] 2) := Lib.hid (.inr ⟨⟨HS0.out, HS1.out⟩, .inl ⟨fun h => hqe h.2, rfl⟩⟩)
    have b1 : (p0 != p0) = false := by simp
    have b2 : (q0 != q1) = true := bne_iff_ne.2 hqe
    have HNE := Lib.hid hqe
    clear hgo hgo1 hqe
    go_enter Try.func7, Try.ntmps7
    go_wp2_with fail
    obtain ⟨W, hW⟩ : ∃ W, W = ((w.alloc (.cells #[.int .i64 p0, .int .i64 q0, .slice a0 n0 c0] 26)).alloc (.cells #[.int .i64 p0, .int .i64 q1, .slice a1 n1 c1] 26)).alloc (.cells #[.int .i64 0, .int .i64 0, .slice none 0 0] 26) := ⟨_, rfl⟩
    rw [← hW]
    have X0 : Hid (BX 26 W (w.heap.size) #[.int .i64 p0, .int .i64 q0, .slice a0 n0 c0]) := Lib.hid (by rw [hW]; exact ((BX.new w _ _).alloc _).alloc _)
    have X1 : Hid (BX 26 W (w.heap.size + 1) #[.int .i64 p0, .int .i64 q1, .slice a1 n1 c1]) := Lib.hid (by rw [hW]; exact (BX.newAt (by simp)).alloc _)
    have X2 : Hid (BX 26 W (w.heap.size + 1 + 1) #[.int .i64 0, .int .i64 0, .slice none 0 0]) := Lib.hid (by rw [hW]; exact BX.newAt (by simp))
    have HB0 : Hid (Below w.heap.size w W) := Lib.hid (by rw [hW]; exact (((Below.refl _ _).alloc (Nat.le_refl _) _).alloc (by simp) _).alloc (by simp; omega) _)
    have sW : W.heap.size = w.heap.size + 3 := by rw [hW]; simp
    have HA0w : Hid (RdR W a0 xs0) := Lib.hid (HA0.out.keep HB0.out (Nat.le_refl _))
    have HA1w : Hid (RdR W a1 xs1) := Lib.hid (HA1.out.keep HB0.out (Nat.le_refl _))
    clear hW
    have k0 : W.cell? ⟨w.heap.size, 0, none⟩ = some (.int .i64 p0) := X0.out.cell 0
    have k1 : W.cell? ⟨w.heap.size, 1, none⟩ = some (.int .i64 q0) := X0.out.cell 1
    have k2 : W.cell? ⟨w.heap.size, 2, none⟩ = some (.slice a0 n0 c0) := X0.out.cell 2
    have v0 : W.cell? ⟨w.heap.size + 1, 0, none⟩ = some (.int .i64 p0) := X1.out.cell 0
    have v1 : W.cell? ⟨w.heap.size + 1, 1, none⟩ = some (.int .i64 q1) := X1.out.cell 1
    have v2 : W.cell? ⟨w.heap.size + 1, 2, none⟩ = some (.slice a1 n1 c1) := X1.out.cell 2
    have y0 : W.cell? ⟨w.heap.size + 1 + 1, 0, none⟩ = some (.int .i64 0) := X2.out.cell 0
    have y1 : W.cell? ⟨w.heap.size + 1 + 1, 1, none⟩ = some (.int .i64 0) := X2.out.cell 1
    have y2 : W.cell? ⟨w.heap.size + 1 + 1, 2, none⟩ = some (.slice none 0 0) := X2.out.cell 2
    have f0 := X2.out.frz 0
    have f1 := X2.out.frz 1
    have f2 := X2.out.frz 2
    refine (impl_IsSubspace_any _ _ _ _ _ xs0 _ HP0.out HQ0.out (by exact HA0w.out) HL0.out HX0.out hn0 hcp0).mono ?_
    rintro e w1 ⟨he, hb⟩
    rw [HS0.out] at he
    obtain rfl := he
    clear k0 k1 k2 v0 v1 v2 y0 y1 y2 f0 f1 f2
    have HB1 : Hid (Below w.heap.size w w1) := Lib.hid (HB0.out.trans (hb.mono HB0.out.size))
    replace X0 : Hid (BX 26 w1 (w.heap.size) #[.int .i64 p0, .int .i64 q0, .slice a0 n0 c0]) := Lib.hid (X0.out.keep hb)
    replace X1 : Hid (BX 26 w1 (w.heap.size + 1) #[.int .i64 p0, .int .i64 q1, .slice a1 n1 c1]) := Lib.hid (X1.out.keep hb)
    replace X2 : Hid (BX 26 w1 (w.heap.size + 1 + 1) #[.int .i64 0, .int .i64 0, .slice none 0 0]) := Lib.hid (X2.out.keep hb)
    have s_w1 := hb.size
    replace HA0w : Hid (RdR w1 a0 xs0) := Lib.hid (HA0w.out.keep hb (Nat.le_refl _))
    replace HA1w : Hid (RdR w1 a1 xs1) := Lib.hid (HA1w.out.keep hb (Nat.le_refl _))
    clear hb
    have k0 : w1.cell? ⟨w.heap.size, 0, none⟩ = some (.int .i64 p0) := X0.out.cell 0
    have k1 : w1.cell? ⟨w.heap.size, 1, none⟩ = some (.int .i64 q0) := X0.out.cell 1
    have k2 : w1.cell? ⟨w.heap.size, 2, none⟩ = some (.slice a0 n0 c0) := X0.out.cell 2
    have v0 : w1.cell? ⟨w.heap.size + 1, 0, none⟩ = some (.int .i64 p0) := X1.out.cell 0
    have v1 : w1.cell? ⟨w.heap.size + 1, 1, none⟩ = some (.int .i64 q1) := X1.out.cell 1
    have v2 : w1.cell? ⟨w.heap.size + 1, 2, none⟩ = some (.slice a1 n1 c1) := X1.out.cell 2
    have y0 : w1.cell? ⟨w.heap.size + 1 + 1, 0, none⟩ = some (.int .i64 0) := X2.out.cell 0
    have y1 : w1.cell? ⟨w.heap.size + 1 + 1, 1, none⟩ = some (.int .i64 0) := X2.out.cell 1
    have y2 : w1.cell? ⟨w.heap.size + 1 + 1, 2, none⟩ = some (.slice none 0 0) := X2.out.cell 2
    have f0 := X2.out.frz 0
    have f1 := X2.out.frz 1
    have f2 := X2.out.frz 2
    go_wp2_with fail
    refine (impl_IsSubspace_any _ _ _ _ _ xs1 _ HP1.out HQ1.out (by exact HA1w.out) HL1.out HX1.out hn1 hcp1).mono ?_
    rintro e w2 ⟨he, hb⟩
    rw [HS1.out] at he
    obtain rfl := he
    clear k0 k1 k2 v0 v1 v2 y0 y1 y2 f0 f1 f2
    have HB2 : Hid (Below w.heap.size w w2) := Lib.hid (HB1.out.trans (hb.mono HB1.out.size))
    replace X0 : Hid (BX 26 w2 (w.heap.size) #[.int .i64 p0, .int .i64 q0, .slice a0 n0 c0]) := Lib.hid (X0.out.keep hb)
    replace X1 : Hid (BX 26 w2 (w.heap.size + 1) #[.int .i64 p0, .int .i64 q1, .slice a1 n1 c1]) := Lib.hid (X1.out.keep hb)
    replace X2 : Hid (BX 26 w2 (w.heap.size + 1 + 1) #[.int .i64 0, .int .i64 0, .slice none 0 0]) := Lib.hid (X2.out.keep hb)
    have s_w2 := hb.size
    replace HA0w : Hid (RdR w2 a0 xs0) := Lib.hid (HA0w.out.keep hb (Nat.le_refl _))
    replace HA1w : Hid (RdR w2 a1 xs1) := Lib.hid (HA1w.out.keep hb (Nat.le_refl _))
    clear hb
    have k0 : w2.cell? ⟨w.heap.size, 0, none⟩ = some (.int .i64 p0) := X0.out.cell 0
    have k1 : w2.cell? ⟨w.heap.size, 1, none⟩ = some (.int .i64 q0) := X0.out.cell 1
    have k2 : w2.cell? ⟨w.heap.size, 2, none⟩ = some (.slice a0 n0 c0) := X0.out.cell 2
    have v0 : w2.cell? ⟨w.heap.size + 1, 0, none⟩ = some (.int .i64 p0) := X1.out.cell 0
    have v1 : w2.cell? ⟨w.heap.size + 1, 1, none⟩ = some (.int .i64 q1) := X1.out.cell 1
    have v2 : w2.cell? ⟨w.heap.size + 1, 2, none⟩ = some (.slice a1 n1 c1) := X1.out.cell 2
    have y0 : w2.cell? ⟨w.heap.size + 1 + 1, 0, none⟩ = some (.int .i64 0) := X2.out.cell 0
    have y1 : w2.cell? ⟨w.heap.size + 1 + 1, 1, none⟩ = some (.int .i64 0) := X2.out.cell 1
    have y2 : w2.cell? ⟨w.heap.size + 1 + 1, 2, none⟩ = some (.slice none 0 0) := X2.out.cell 2
    have f0 := X2.out.frz 0
    have f1 := X2.out.frz 1
    have f2 := X2.out.frz 2
    go_wp2_with fail
    refine bodyPost_ret (v := .tuple #[.agg #[.int .i64 0, .int .i64 0, .slice none 0 0], .int .i64 2]) (by simp [results, Try.results7, go_sem, y0, y1, y2]) rfl ⟨0, 0, [], 2, none, 0, rfl, HR.out, MadeH.none, ?_⟩
    exact (((HB2.out.setCell (by first | (simp; done) | (simp; omega)) _).setCell (by first | (simp; done) | (simp; omega)) _).setCell (by first | (simp; done) | (simp; omega)) _)
  subst hqe
  have q8 := hgo.q8
  have qq0 := hgo.q0
  have hl8 := hgo.len
  have hl81 := hgo1.len
  rw [HL0.out] at hl8
  rw [HL1.out] at hl81
  obtain ⟨m, rfl⟩ : ∃ m : Nat, q0 = m := ⟨q0.toNat, by omega⟩
  have HP := Lib.hid hgo.gp
  have HW0 : Hid (Rws p0 m xs0) := Lib.hid hgo.rws
  have HW1 : Hid (Rws p0 m xs1) := Lib.hid hgo1.rws
  have b1 : (p0 != p0) = false := by simp
  have b2 : ((m : Int) != (m : Int)) = false := by simp
  clear hgo hgo1
  go_enter Try.func7, Try.ntmps7
  go_wp2_with fail
  obtain ⟨W, hW⟩ : ∃ W, W = ((w.alloc (.cells #[.int .i64 p0, .int .i64 m, .slice a0 n0 c0] 26)).alloc (.cells #[.int .i64 p0, .int .i64 m, .slice a1 n1 c1] 26)).alloc (.cells #[.int .i64 0, .int .i64 0, .slice none 0 0] 26) := ⟨_, rfl⟩
  rw [← hW]
  have X0 : Hid (BX 26 W (w.heap.size) #[.int .i64 p0, .int .i64 m, .slice a0 n0 c0]) := Lib.hid (by rw [hW]; exact ((BX.new w _ _).alloc _).alloc _)
  have X1 : Hid (BX 26 W (w.heap.size + 1) #[.int .i64 p0, .int .i64 m, .slice a1 n1 c1]) := Lib.hid (by rw [hW]; exact (BX.newAt (by simp)).alloc _)
  have X2 : Hid (BX 26 W (w.heap.size + 1 + 1) #[.int .i64 0, .int .i64 0, .slice none 0 0]) := Lib.hid (by rw [hW]; exact BX.newAt (by simp))
  have HB0 : Hid (Below w.heap.size w W) := Lib.hid (by rw [hW]; exact (((Below.refl _ _).alloc (Nat.le_refl _) _).alloc (by simp) _).alloc (by simp; omega) _)
  have sW : W.heap.size = w.heap.size + 3 := by rw [hW]; simp
  have HA0w : Hid (RdR W a0 xs0) := Lib.hid (HA0.out.keep HB0.out (Nat.le_refl _))
  have HA1w : Hid (RdR W a1 xs1) := Lib.hid (HA1.out.keep HB0.out (Nat.le_refl _))
  clear hW
  have k0 : W.cell? ⟨w.heap.size, 0, none⟩ = some (.int .i64 p0) := X0.out.cell 0
  have k1 : W.cell? ⟨w.heap.size, 1, none⟩ = some (.int .i64 m) := X0.out.cell 1
  have k2 : W.cell? ⟨w.heap.size, 2, none⟩ = some (.slice a0 n0 c0) := X0.out.cell 2
  have v0 : W.cell? ⟨w.heap.size + 1, 0, none⟩ = some (.int .i64 p0) := X1.out.cell 0
  have v1 : W.cell? ⟨w.heap.size + 1, 1, none⟩ = some (.int .i64 m) := X1.out.cell 1
  have v2 : W.cell? ⟨w.heap.size + 1, 2, none⟩ = some (.slice a1 n1 c1) := X1.out.cell 2
  have y0 : W.cell? ⟨w.heap.size + 1 + 1, 0, none⟩ = some (.int .i64 0) := X2.out.cell 0
  have y1 : W.cell? ⟨w.heap.size + 1 + 1, 1, none⟩ = some (.int .i64 0) := X2.out.cell 1
  have y2 : W.cell? ⟨w.heap.size + 1 + 1, 2, none⟩ = some (.slice none 0 0) := X2.out.cell 2
  have f0 := X2.out.frz 0
  have f1 := X2.out.frz 1
  have f2 := X2.out.frz 2
  refine (impl_IsSubspace_any _ _ _ _ _ xs0 _ HP0.out HQ0.out (by exact HA0w.out) HL0.out HX0.out hn0 hcp0).mono ?_
  rintro e w1 ⟨he, hb⟩
  rw [HS0.out] at he
  obtain rfl := he
  clear k0 k1 k2 v0 v1 v2 y0 y1 y2 f0 f1 f2
  have HB1 : Hid (Below w.heap.size w w1) := Lib.hid (HB0.out.trans (hb.mono HB0.out.size))
  replace X0 : Hid (BX 26 w1 (w.heap.size) #[.int .i64 p0, .int .i64 m, .slice a0 n0 c0]) := Lib.hid (X0.out.keep hb)
  replace X1 : Hid (BX 26 w1 (w.heap.size + 1) #[.int .i64 p0, .int .i64 m, .slice a1 n1 c1]) := Lib.hid (X1.out.keep hb)
  replace X2 : Hid (BX 26 w1 (w.heap.size + 1 + 1) #[.int .i64 0, .int .i64 0, .slice none 0 0]) := Lib.hid (X2.out.keep hb)
  have s_w1 := hb.size
  replace HA0w : Hid (RdR w1 a0 xs0) := Lib.hid (HA0w.out.keep hb (Nat.le_refl _))
  replace HA1w : Hid (RdR w1 a1 xs1) := Lib.hid (HA1w.out.keep hb (Nat.le_refl _))
  clear hb
  have k0 : w1.cell? ⟨w.heap.size, 0, none⟩ = some (.int .i64 p0) := X0.out.cell 0
  have k1 : w1.cell? ⟨w.heap.size, 1, none⟩ = some (.int .i64 m) := X0.out.cell 1
  have k2 : w1.cell? ⟨w.heap.size, 2, none⟩ = some (.slice a0 n0 c0) := X0.out.cell 2
  have v0 : w1.cell? ⟨w.heap.size + 1, 0, none⟩ = some (.int .i64 p0) := X1.out.cell 0
  have v1 : w1.cell? ⟨w.heap.size + 1, 1, none⟩ = some (.int .i64 m) := X1.out.cell 1
  have v2 : w1.cell? ⟨w.heap.size + 1, 2, none⟩ = some (.slice a1 n1 c1) := X1.out.cell 2
  have y0 : w1.cell? ⟨w.heap.size + 1 + 1, 0, none⟩ = some (.int .i64 0) := X2.out.cell 0
  have y1 : w1.cell? ⟨w.heap.size + 1 + 1, 1, none⟩ = some (.int .i64 0) := X2.out.cell 1
  have y2 : w1.cell? ⟨w.heap.size + 1 + 1, 2, none⟩ = some (.slice none 0 0) := X2.out.cell 2
  have f0 := X2.out.frz 0
  have f1 := X2.out.frz 1
  have f2 := X2.out.frz 2
  go_wp2_with fail
  refine (impl_IsSubspace_any _ _ _ _ _ xs1 _ HP1.out HQ1.out (by exact HA1w.out) HL1.out HX1.out hn1 hcp1).mono ?_
  rintro e w2 ⟨he, hb⟩
  rw [HS1.out] at he
  obtain rfl := he
  clear k0 k1 k2 v0 v1 v2 y0 y1 y2 f0 f1 f2
  have HB2 : Hid (Below w.heap.size w w2) := Lib.hid (HB1.out.trans (hb.mono HB1.out.size))
  replace X0 : Hid (BX 26 w2 (w.heap.size) #[.int .i64 p0, .int .i64 m, .slice a0 n0 c0]) := Lib.hid (X0.out.keep hb)
  replace X1 : Hid (BX 26 w2 (w.heap.size + 1) #[.int .i64 p0, .int .i64 m, .slice a1 n1 c1]) := Lib.hid (X1.out.keep hb)
  replace X2 : Hid (BX 26 w2 (w.heap.size + 1 + 1) #[.int .i64 0, .int .i64 0, .slice none 0 0]) := Lib.hid (X2.out.keep hb)
  have s_w2 := hb.size
  replace HA0w : Hid (RdR w2 a0 xs0) := Lib.hid (HA0w.out.keep hb (Nat.le_refl _))
  replace HA1w : Hid (RdR w2 a1 xs1) := Lib.hid (HA1w.out.keep hb (Nat.le_refl _))
  clear hb
  have k0 : w2.cell? ⟨w.heap.size, 0, none⟩ = some (.int .i64 p0) := X0.out.cell 0
  have k1 : w2.cell? ⟨w.heap.size, 1, none⟩ = some (.int .i64 m) := X0.out.cell 1
  have k2 : w2.cell? ⟨w.heap.size, 2, none⟩ = some (.slice a0 n0 c0) := X0.out.cell 2
  have v0 : w2.cell? ⟨w.heap.size + 1, 0, none⟩ = some (.int .i64 p0) := X1.out.cell 0
  have v1 : w2.cell? ⟨w.heap.size + 1, 1, none⟩ = some (.int .i64 m) := X1.out.cell 1
  have v2 : w2.cell? ⟨w.heap.size + 1, 2, none⟩ = some (.slice a1 n1 c1) := X1.out.cell 2
  have y0 : w2.cell? ⟨w.heap.size + 1 + 1, 0, none⟩ = some (.int .i64 0) := X2.out.cell 0
  have y1 : w2.cell? ⟨w.heap.size + 1 + 1, 1, none⟩ = some (.int .i64 0) := X2.out.cell 1
  have y2 : w2.cell? ⟨w.heap.size + 1 + 1, 2, none⟩ = some (.slice none 0 0) := X2.out.cell 2
  have f0 := X2.out.frz 0
  have f1 := X2.out.frz 1
  have f2 := X2.out.frz 2
  go_wp2_with fail
  refine (spaceSum_any p0 HP.out m _ _ _ _ _ _ xs0 xs1 _ (by exact HA0w.out) (by exact HA1w.out) HL0.out HL1.out HW0.out HW1.out (by omega) (by omega) (by omega)).mono ?_
  rintro e w3 ⟨R, a', c', rfl, hres, ho, hb⟩
  have HO := Lib.hid ho
  have HRes := Lib.hid hres
  clear ho hres
  clear k0 k1 k2 v0 v1 v2 y0 y1 y2 f0 f1 f2
  have HB3 : Hid (Below w.heap.size w w3) := Lib.hid (HB2.out.trans (hb.mono HB2.out.size))
  replace X0 : Hid (BX 26 w3 (w.heap.size) #[.int .i64 p0, .int .i64 m, .slice a0 n0 c0]) := Lib.hid (X0.out.keep hb)
  replace X1 : Hid (BX 26 w3 (w.heap.size + 1) #[.int .i64 p0, .int .i64 m, .slice a1 n1 c1]) := Lib.hid (X1.out.keep hb)
  replace X2 : Hid (BX 26 w3 (w.heap.size + 1 + 1) #[.int .i64 0, .int .i64 0, .slice none 0 0]) := Lib.hid (X2.out.keep hb)
  have s_w3 := hb.size
  replace HA0w : Hid (RdR w3 a0 xs0) := Lib.hid (HA0w.out.keep hb (Nat.le_refl _))
  replace HA1w : Hid (RdR w3 a1 xs1) := Lib.hid (HA1w.out.keep hb (Nat.le_refl _))
  clear hb
  have k0 : w3.cell? ⟨w.heap.size, 0, none⟩ = some (.int .i64 p0) := X0.out.cell 0
  have k1 : w3.cell? ⟨w.heap.size, 1, none⟩ = some (.int .i64 m) := X0.out.cell 1
  have k2 : w3.cell? ⟨w.heap.size, 2, none⟩ = some (.slice a0 n0 c0) := X0.out.cell 2
  have v0 : w3.cell? ⟨w.heap.size + 1, 0, none⟩ = some (.int .i64 p0) := X1.out.cell 0
  have v1 : w3.cell? ⟨w.heap.size + 1, 1, none⟩ = some (.int .i64 m) := X1.out.cell 1
  have v2 : w3.cell? ⟨w.heap.size + 1, 2, none⟩ = some (.slice a1 n1 c1) := X1.out.cell 2
  have y0 : w3.cell? ⟨w.heap.size + 1 + 1, 0, none⟩ = some (.int .i64 0) := X2.out.cell 0
  have y1 : w3.cell? ⟨w.heap.size + 1 + 1, 1, none⟩ = some (.int .i64 0) := X2.out.cell 1
  have y2 : w3.cell? ⟨w.heap.size + 1 + 1, 2, none⟩ = some (.slice none 0 0) := X2.out.cell 2
  have f0 := X2.out.frz 0
  have f1 := X2.out.frz 1
  have f2 := X2.out.frz 2
  have HR : Hid (res_SubspaceSum xs0 p0 m xs1 p0 m p0 m R 0) := Lib.hid (.inr ⟨⟨HS0.out, HS1.out⟩, .inr ⟨⟨rfl, rfl⟩, rfl, rfl, rfl, by rw [Int.toNat_natCast]; exact HRes.out⟩⟩)
  go_wp2_with fail
  refine bodyPost_ret (v := .tuple #[.agg #[.int .i64 (p0), .int .i64 (m), .slice a' R.length c'], .int .i64 0]) (by simp [results, Try.results7, go_sem, y0, y1, y2]) rfl ⟨p0, m, R, 0, a', c', rfl, HR.out, ?_, ?_⟩
  · refine MadeH.mono (B := w2.heap.size) ?_ (by omega)
    exact (((HO.out).setLow _ (by first | (simp; done) | (simp; omega)) _).setLow _ (by first | (simp; done) | (simp; omega)) _).setLow _ (by first | (simp; done) | (simp; omega)) _
  · exact (((HB3.out.setCell (by first | (simp; done) | (simp; omega)) _).setCell (by first | (simp; done) | (simp; omega)) _).setCell (by first | (simp; done) | (simp; omega)) _)
end Go.Proofs.Ytpkdgemnddcefaa
