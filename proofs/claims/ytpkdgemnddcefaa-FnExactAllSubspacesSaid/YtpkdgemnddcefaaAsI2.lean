/- The program's AllSubspaces and the law. -/
import Derived.Test.YtpkdgemnddcefaaAsI1
import Derived.Test.YtpkdgemnddcefaaMtsL
set_option linter.unusedVariables false
set_option linter.unusedSimpArgs false
namespace Go.Proofs.Ytpkdgemnddcefaa
open Go.RowKit
theorem specL_sm {p n k : Nat} (hn : n ≤ 8) (hk : k ≤ n) : SmM (specL p n k (2 ^ n)) := fun i => by
  by_cases h : i < (specL p n k (2 ^ n)).length
  · have hs : ShM n k (mx_ (specL p n k (2 ^ n)) i) := specQ_sh ((specL_perm p n k _).mem_iff.1 (mx_mem h))
    refine ⟨by have := hs.1; omega, fun j => ?_⟩
    by_cases hj : j < (mx_ (specL p n k (2 ^ n)) i).length
    · rw [hs.2 _ (rw_mem hj)]; omega
    · simp [rw_, hj]
  · have e : mx_ (specL p n k (2 ^ n)) i = [] := by simp [mx_, h]
    rw [e]
    exact ⟨by simp, fun j => by simp [rw_]⟩
theorem nilM_sm : SmM [] := fun i => by simp [mx_, rw_]
theorem specL_small {p n k : Nat} (hp : GP (p : Int)) (hn : n ≤ 8) (hk : k ≤ n) (hg : gauss p n k ≤ 200) : (specL p n k (2 ^ n)).length ≤ 200 := by
  rw [specL_len]; exact specQ_small hp hn hk hg (Nat.le_refl _)
set_option maxHeartbeats 1000000 in
theorem spec_AllSubspaces_bad (p n k : Int) (w : World) (h : CSBad p n k) :
    Calls Try.prog 14 #[.int .i64 p, .int .i64 n, .int .i64 k] w fun e w' => ∃ a c, e = .returned (.tuple #[.slice a 0 c, .int .i64 2]) ∧ RdM w' a 0 (fun _ => 0) (fun _ => 0) [] ∧ Below w.heap.size w w' := by
  have H := Lib.hid h
  clear h
  go_enter Try.func14, Try.ntmps14
  go_wp2_with (go_at_call 34; refine (spec_CountSubspaces_bad _ _ _ _ H.out).mono ?_; rintro e w' ⟨rfl, rfl⟩)
  go_ret2
  exact ⟨none, 0, rfl, fun h => absurd h (by omega), Below.refl _ _⟩
set_option maxHeartbeats 1000000 in
theorem spec_AllSubspaces_lim (p n k : Nat) (w : World) (hp : GP (p : Int)) (hn : n ≤ 8) (hk : k ≤ n) (hg : ¬ gauss p n k ≤ 200) :
    Calls Try.prog 14 #[.int .i64 (p : Int), .int .i64 n, .int .i64 k] w fun e w' => ∃ a c, e = .returned (.tuple #[.slice a 0 c, .int .i64 3]) ∧ RdM w' a 0 (fun _ => 0) (fun _ => 0) [] ∧ Below w.heap.size w w' := by
  have HP := Lib.hid hp
  clear hp
  go_enter Try.func14, Try.ntmps14
  go_wp2_with fail
  refine (spec_CountSubspaces_ok (p : Int) n k w HP.out hn hk).mono ?_
  rintro e w1 ⟨rfl, hb⟩
  have HB1 := Lib.hid hb
  obtain ⟨gq, hgq⟩ : ∃ x, x = gauss p n k := ⟨_, rfl⟩
  rw [← hgq] at hg ⊢
  have hg2 : gq > 200 := by omega
  have hg3 : 200 < gq := by omega
  clear hgq hb
  go_wp2_with fail
  go_ret2
  exact ⟨none, 0, rfl, fun h => absurd h (by omega), HB1.out⟩
set_option maxHeartbeats 1000000 in
theorem impl_AllSubspaces_bad (p n k : Int) (w : World) (h : CSBad p n k) :
    Calls Try.prog 15 #[.int .i64 p, .int .i64 n, .int .i64 k] w fun e w' => ∃ (a : Option Addr) (c : Nat) (A : Nat → Option Addr) (C : Nat → Nat) (AA : Nat → Nat → Option Addr) (CC : Nat → Nat → Nat) (lo hi : Nat → Nat), e = .returned (.tuple #[.slice a 0 c, .int .i64 2]) ∧ OwnM 26 52 2 w' w.heap.size a 0 c (fun _ => 0) (fun _ => 0) [] A C AA CC lo hi ∧ Below w.heap.size w w' := by
  have H := Lib.hid h
  clear h
  have HO : Hid (OwnM 26 52 2 w w.heap.size none 0 0 (fun _ => 0) (fun _ => 0) [] (fun _ => none) (fun _ => 0) (fun _ _ => none) (fun _ _ => 0) (fun _ => 0) (fun _ => 0)) := Lib.hid (OwnM.none _ _ _ _ _ _ _ _)
  go_enter Try.func15, Try.ntmps15
  go_wp2_with (go_at_call 36; refine (impl_CountSubspaces_bad _ _ _ _ H.out).mono ?_; rintro e w' ⟨rfl, rfl⟩)
  go_ret2
  exact ⟨none, 0, _, _, _, _, _, _, rfl, HO.out, Below.refl _ _⟩
set_option maxHeartbeats 1000000 in
theorem impl_AllSubspaces_lim (p n k : Nat) (w : World) (hp : GP (p : Int)) (hn : n ≤ 8) (hk : k ≤ n) (hg : ¬ gauss p n k ≤ 200) :
    Calls Try.prog 15 #[.int .i64 (p : Int), .int .i64 n, .int .i64 k] w fun e w' => ∃ (a : Option Addr) (c : Nat) (A : Nat → Option Addr) (C : Nat → Nat) (AA : Nat → Nat → Option Addr) (CC : Nat → Nat → Nat) (lo hi : Nat → Nat), e = .returned (.tuple #[.slice a 0 c, .int .i64 3]) ∧ OwnM 26 52 2 w' w.heap.size a 0 c (fun _ => 0) (fun _ => 0) [] A C AA CC lo hi ∧ Below w.heap.size w w' := by
  have HP := Lib.hid hp
  clear hp
  have HO : Hid (OwnM 26 52 2 w w.heap.size none 0 0 (fun _ => 0) (fun _ => 0) [] (fun _ => none) (fun _ => 0) (fun _ _ => none) (fun _ _ => 0) (fun _ => 0) (fun _ => 0)) := Lib.hid (OwnM.none _ _ _ _ _ _ _ _)
  go_enter Try.func15, Try.ntmps15
  go_wp2_with fail
  refine (impl_CountSubspaces_ok (p : Int) n k w HP.out hn hk).mono ?_
  rintro e w1 ⟨rfl, rfl⟩
  obtain ⟨gq, hgq⟩ : ∃ x, x = gauss p n k := ⟨_, rfl⟩
  rw [← hgq] at hg ⊢
  have hg2 : gq > 200 := by omega
  have hg3 : 200 < gq := by omega
  clear hgq
  go_wp2_with fail
  go_ret2
  exact ⟨none, 0, _, _, _, _, _, _, rfl, HO.out, Below.refl _ _⟩
set_option maxHeartbeats 1000000 in
theorem impl_AllSubspaces_ok (p n k : Nat) (w : World) (hp : GP (p : Int)) (hn : n ≤ 8) (hk : k ≤ n) (hg : gauss p n k ≤ 200) :
    Calls Try.prog 15 #[.int .i64 (p : Int), .int .i64 n, .int .i64 k] w fun e w' => ∃ (a : Option Addr) (c : Nat) (A : Nat → Option Addr) (C : Nat → Nat) (AA : Nat → Nat → Option Addr) (CC : Nat → Nat → Nat) (lo hi : Nat → Nat), e = .returned (.tuple #[.slice a (specL p n k (2 ^ n)).length c, .int .i64 0]) ∧ OwnM 26 52 2 w' w.heap.size a (specL p n k (2 ^ n)).length c (fun _ => (p : Int)) (fun _ => (n : Int)) (specL p n k (2 ^ n)) A C AA CC lo hi ∧ Below w.heap.size w w' := by
  have HP := Lib.hid hp
  have HC := Lib.hid (fun w => allSubspaces_any p n k w hp hn hk hg)
  clear hp
  generalize specL p n k (2 ^ n) = L at *
  obtain ⟨N, hN⟩ : ∃ N, N = L.length := ⟨_, rfl⟩
  rw [← hN] at HC ⊢
  clear hN
  go_enter Try.func15, Try.ntmps15
  go_wp2_with fail
  refine (impl_CountSubspaces_ok (p : Int) n k w HP.out hn hk).mono ?_
  rintro e w1 ⟨rfl, rfl⟩
  obtain ⟨gq, hgq⟩ : ∃ x, x = gauss p n k := ⟨_, rfl⟩
  rw [← hgq] at hg ⊢
  have hg2 : ¬ gq > 200 := by omega
  have hg3 : ¬ 200 < gq := by omega
  clear hgq
  go_wp2_with fail
  refine (HC.out _).mono ?_
  rintro e w2 ⟨a, c, A, C, AA, CC, lo, hi, rfl, ho, hb⟩
  have HO := Lib.hid ho
  have HB := Lib.hid hb
  clear ho hb
  go_wp2_with fail
  go_ret2
  exact ⟨a, c, A, C, AA, CC, lo, hi, rfl, HO.out, HB.out⟩
set_option maxHeartbeats 4000000 in
theorem lawAS_core (p n k d P Q : Int) (N : Nat) (L : List (List (List Int))) (w : World) (hL : L.length = N) (hN : N ≤ 1000) (hx : SmM L)
    (hs : ∀ w, Calls Try.prog 14 #[.int .i64 p, .int .i64 n, .int .i64 k] w fun e w' => ∃ a c, e = .returned (.tuple #[.slice a N c, .int .i64 d]) ∧ RdM w' a N (fun _ => P) (fun _ => Q) L ∧ Below w.heap.size w w')
    (hi : ∀ w, Calls Try.prog 15 #[.int .i64 p, .int .i64 n, .int .i64 k] w fun e w' => ∃ (a : Option Addr) (c : Nat) (A : Nat → Option Addr) (C : Nat → Nat) (AA : Nat → Nat → Option Addr) (CC : Nat → Nat → Nat) (lo hi : Nat → Nat), e = .returned (.tuple #[.slice a N c, .int .i64 d]) ∧ OwnM 26 52 2 w' w.heap.size a N c (fun _ => P) (fun _ => Q) L A C AA CC lo hi ∧ Below w.heap.size w w') :
    Calls Try.prog 4 #[.int .i64 p, .int .i64 n, .int .i64 k] w fun r w' => r = .returned (.bool true) ∧ Below w.heap.size w w' := by
  have HL := Lib.hid hL
  have HX := Lib.hid hx
  have HS := Lib.hid hs
  have HI := Lib.hid hi
  have hM1 : 1 ≤ stM 1 L N := stM_ge N
  obtain ⟨M, hM⟩ : ∃ M, M = stM 1 L N := ⟨_, rfl⟩
  rw [← hM] at hM1
  have HM := Lib.hid hM
  have hM2 : ¬ M < 0 := by omega
  have b1 : (d == d) = true := by simp
  have b2 : (M == M) = true := by simp
  clear hL hx hs hi hM
  go_enter Try.func4, Try.ntmps4
  go_wp2_with fail
  refine (HS.out _).mono ?_
  rintro e w1 ⟨aS, cS, rfl, hr, hb⟩
  have HR1 := Lib.hid hr
  have HB1 := Lib.hid hb
  clear hr hb
  go_wp2_with fail
  refine (HI.out _).mono ?_
  rintro e w2 ⟨aG, cG, A, C, AA, CC, lo, hi, rfl, ho, hb⟩
  have HO2 := Lib.hid ho
  have HB2 := Lib.hid hb
  clear ho hb
  go_wp2_with fail
  refine (eqMatrixS_t aG aS N cG cS L _ _ w2 HO2.out.rd (HR1.out.keep HB2.out (Nat.le_refl _)) (by omega) HX.out).mono ?_
  rintro e w3 ⟨rfl, hb⟩
  have HO3 := Lib.hid (HO2.out.keep hb (Nat.le_refl _))
  have HB3 : Hid (Below w1.heap.size w1 w3) := Lib.hid (HB2.out.trans (hb.mono HB2.out.size))
  clear hb
  go_wp2_with fail
  refine (markMatrixS_t _ _ _ aG N cG w1.heap.size L _ _ A C AA CC lo hi 1 w3 HO3.out (by omega) HX.out (by omega) (by omega)).mono ?_
  rintro e w4 ⟨rfl, hr, hb⟩
  have HK4 := Lib.hid hr
  have HB4 : Hid (Below w1.heap.size w1 w4) := Lib.hid (HB3.out.trans hb)
  rw [← HM.out]
  clear hr hb
  go_wp2_with fail
  refine (heldMatrixS_t aG N cG L 1 w4 HK4.out HL.out (by omega) HX.out (by omega) (by omega)).mono ?_
  rintro e w' ⟨rfl, rfl⟩
  rw [← HM.out]
  go_wp2_with fail
  refine (HI.out _).mono ?_
  rintro e w5 ⟨aH, cH, A2, C2, AA2, CC2, lo2, hi2, rfl, ho, hb⟩
  have HO5 := Lib.hid ho
  have HK5 := Lib.hid (HK4.out.keep hb (Nat.le_refl _))
  have HB5 : Hid (Below w1.heap.size w1 w5) := Lib.hid (HB4.out.trans (hb.mono HB4.out.size))
  clear ho hb
  go_wp2_with fail
  refine (eqMatrixS_t aH aS N cH cS L _ _ w5 HO5.out.rd (HR1.out.keep HB5.out (Nat.le_refl _)) (by omega) HX.out).mono ?_
  rintro e w6 ⟨rfl, hb⟩
  have HK6 := Lib.hid (HK5.out.keep hb (Nat.le_refl _))
  have HB6 : Hid (Below w1.heap.size w1 w6) := Lib.hid (HB5.out.trans (hb.mono HB5.out.size))
  clear hb
  go_wp2_with fail
  refine (heldMatrixS_t aG N cG L 1 w6 HK6.out HL.out (by omega) HX.out (by omega) (by omega)).mono ?_
  rintro e w' ⟨rfl, rfl⟩
  rw [← HM.out]
  go_wp2_with fail
  go_ret
  exact ⟨rfl, HB1.out.trans (HB6.out.mono HB1.out.size)⟩
theorem law_AllSubspaces (p n k : Int) (w : World) (hp : I64 p) (hn : I64 n) (hk : I64 k) :
    Calls Try.prog 4 #[.int .i64 p, .int .i64 n, .int .i64 k] w fun r w' => r = .returned (.bool true) ∧ Below w.heap.size w w' := by
  by_cases hv : CSBad p n k
  · exact lawAS_core p n k 2 0 0 0 [] w rfl (by omega) nilM_sm (fun w => spec_AllSubspaces_bad p n k w hv) (fun w => impl_AllSubspaces_bad p n k w hv)
  · obtain ⟨h1, h2, h3, h4, h5⟩ := CSOk hv
    have hp1 := h1.bd
    obtain ⟨p, rfl⟩ := Int.eq_ofNat_of_zero_le (show 0 ≤ p by omega)
    obtain ⟨n, rfl⟩ := Int.eq_ofNat_of_zero_le h2
    obtain ⟨k, rfl⟩ := Int.eq_ofNat_of_zero_le h4
    by_cases hg : gauss p n k ≤ 200
    · have hsm := specL_small h1 (show n ≤ 8 by omega) (show k ≤ n by omega) hg
      exact lawAS_core p n k 0 p n _ (specL p n k (2 ^ n)) w rfl (by omega) (specL_sm (by omega) (by omega)) (fun w => spec_AllSubspaces_ok p n k w h1 (by omega) (by omega) hg) (fun w => impl_AllSubspaces_ok p n k w h1 (by omega) (by omega) hg)
    · exact lawAS_core p n k 3 0 0 0 [] w rfl (by omega) nilM_sm (fun w => spec_AllSubspaces_lim p n k w h1 (by omega) (by omega) hg) (fun w => impl_AllSubspaces_lim p n k w h1 (by omega) (by omega) hg)
end Go.Proofs.Ytpkdgemnddcefaa
