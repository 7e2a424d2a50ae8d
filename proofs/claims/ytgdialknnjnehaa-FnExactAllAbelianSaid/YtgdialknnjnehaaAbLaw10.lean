/- The law of AllAbelian. -/
import Derived.Test.YtgdialknnjnehaaAllC
import Derived.Test.YtgdialknnjnehaaLawKit
set_option linter.unusedVariables false
set_option linter.unusedSimpArgs false
namespace Go.Proofs.Ytgdialknnjnehaa
open Go.RowKit
set_option maxRecDepth 20000 in
set_option maxHeartbeats 4000000 in
theorem law_AllAbelian (a0 : Int) (w : World) (h0 : I64 a0) :
    Calls Try.prog 13 #[.int .i64 a0] w fun e w' => e = .returned (.bool true) ∧ Below w.heap.size w w' := by
  obtain ⟨L, hL⟩ : ∃ L, L = allL a0 := ⟨_, rfl⟩
  obtain ⟨d, hd⟩ : ∃ d, d = allD a0 := ⟨_, rfl⟩
  obtain ⟨n, hn⟩ : ∃ n, n = L.length := ⟨_, rfl⟩
  have hsm := allL_small a0
  rw [← hL] at hsm
  have hn9 : n ≤ 100 := by rw [hn]; exact hsm.1
  have HX : Hid (∀ i, (rw_ L i).length ≤ 1000) := Lib.hid (fun i => by have := hsm.2 i; omega)
  have HLN : Hid (L.length = n) := Lib.hid hn.symm
  have HI : ∀ w : World, Hid (Calls Try.prog 44 #[.int .i64 a0] w fun e w' => ∃ (a : Option Addr) (c : Nat) (A : Nat → Option Addr) (C : Nat → Nat), e = .returned (.tuple #[.slice a n c, .int .i64 d]) ∧
      OwnA 27 2 w' w.heap.size a n c L A C (fun _ => 0) ∧ Below w.heap.size w w') := fun w => Lib.hid (by rw [hn, hL, hd]; exact impl_AllAbelian_all a0 w)
  have HS : Hid (Calls Try.prog 43 #[.int .i64 a0] w fun e w' => ∃ (a : Option Addr) (c : Nat) (A : Nat → Option Addr) (C : Nat → Nat), e = .returned (.tuple #[.slice a n c, .int .i64 d]) ∧
      OwnA 27 2 w' w.heap.size a n c L A C (fun _ => 0) ∧ Below w.heap.size w w') := Lib.hid (by rw [hn, hL, hd]; exact spec_AllAbelian_all a0 w)
  clear hL hd hn hsm h0
  have hs1 := stA_ge (k := 1) (L := L) n
  obtain ⟨s, hs⟩ : ∃ s, s = stA 1 L n := ⟨_, rfl⟩
  have HSE := Lib.hid hs
  rw [← hs] at hs1
  have s1 : ¬ s < 0 := by omega
  have s2 : decide (s < 0) = false := decide_eq_false s1
  clear hs
  go_enter Try.func13, Try.ntmps13
  go_wp2_with fail
  refine HS.out.mono ?_
  rintro e w1 ⟨a1, c1, A1, C1, rfl, ho, hb⟩
  have HR1 : Hid (RdA w1 a1 n L (fun _ => 0)) := Lib.hid ho.rd
  have HB1 : Hid (Below w.heap.size w w1) := Lib.hid hb
  clear ho hb HS
  go_wp2_with fail
  refine (HI w1).out.mono ?_
  rintro e w2 ⟨a2, c2, A2, C2, rfl, ho, hb⟩
  have HO2 := Lib.hid ho
  have HB2 : Hid (Below w1.heap.size w1 w2) := Lib.hid hb
  clear ho hb
  go_wp2_with fail
  refine (eqAbelianS_t a2 a1 n c2 c1 L (fun _ => 0) _ (by exact HO2.out.rd) (by exact HR1.out.keep HB2.out (Nat.le_refl _)) (by omega) HX.out).mono ?_
  rintro e w3 ⟨rfl, hb⟩
  have HB3 : Hid (Below w1.heap.size w1 w3) := Lib.hid (HB2.out.trans (hb.mono HB2.out.size))
  have HO3 : Hid (OwnA 27 2 w3 w1.heap.size a2 n c2 L A2 C2 (fun _ => 0)) := Lib.hid (HO2.out.keep hb (Nat.le_refl _))
  clear hb HO2 HB2
  go_wp2_with fail
  refine (markAbelianS_t 27 2 a2 n c2 w1.heap.size L A2 C2 (fun _ => 0) 1 _ (by exact HO3.out) (by omega) HX.out (by omega) (by omega)).mono ?_
  rintro e w4 ⟨rfl, hr, hb⟩
  rw [← HSE.out]
  have HR4 : Hid (RdA w4 a2 n (mkA 1 L) (fun i => stA 1 L i + (rw_ L i).length)) := Lib.hid hr
  have HB4 : Hid (Below w1.heap.size w1 w4) := Lib.hid (HB3.out.trans hb)
  clear hr hb HO3 HB3
  go_wp2_with fail
  refine (heldAbelianS_t a2 n c2 L 1 _ (by exact HR4.out) HLN.out (by omega) HX.out (by omega) (by omega)).mono ?_
  rintro e w' ⟨rfl, rfl⟩
  rw [← HSE.out]
  go_wp2_with fail
  refine (HI w4).out.mono ?_
  rintro e w5 ⟨a3, c3, A3, C3, rfl, ho, hb⟩
  have HO5 := Lib.hid ho
  have HB5 : Hid (Below w1.heap.size w1 w5) := Lib.hid (HB4.out.trans (hb.mono HB4.out.size))
  have HR5 : Hid (RdA w5 a2 n (mkA 1 L) (fun i => stA 1 L i + (rw_ L i).length)) := Lib.hid (HR4.out.keep hb (Nat.le_refl _))
  clear ho hb HR4 HB4
  go_wp2_with fail
  refine (eqAbelianS_t a3 a1 n c3 c1 L (fun _ => 0) _ (by exact HO5.out.rd) (by exact HR1.out.keep HB5.out (Nat.le_refl _)) (by omega) HX.out).mono ?_
  rintro e w6 ⟨rfl, hb⟩
  have HB6 : Hid (Below w1.heap.size w1 w6) := Lib.hid (HB5.out.trans (hb.mono HB5.out.size))
  have HR6 : Hid (RdA w6 a2 n (mkA 1 L) (fun i => stA 1 L i + (rw_ L i).length)) := Lib.hid (HR5.out.keep hb (Nat.le_refl _))
  clear hb HR5 HO5 HB5
  go_wp2_with fail
  refine (heldAbelianS_t a2 n c2 L 1 _ (by exact HR6.out) HLN.out (by omega) HX.out (by omega) (by omega)).mono ?_
  rintro e w' ⟨rfl, rfl⟩
  rw [← HSE.out]
  go_wp2_with fail
  go_ret
  exact ⟨rfl, HB1.out.trans (HB6.out.mono HB1.out.size)⟩
end Go.Proofs.Ytgdialknnjnehaa
