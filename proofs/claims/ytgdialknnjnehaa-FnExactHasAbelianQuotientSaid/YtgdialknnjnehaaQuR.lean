/- When one abelian group is a quotient of another: the reference. -/
import Derived.Test.YtgdialknnjnehaaQuP
import Derived.Test.YtgdialknnjnehaaPpE
import Derived.Test.YtgdialknnjnehaaRowW
import Derived.Deep.RegionHeld3
set_option linter.unusedVariables false
set_option linter.unusedSimpArgs false
namespace Go.Proofs.Ytgdialknnjnehaa
open Go.RowKit

noncomputable def quB (xs : List Int) (r : Int) (ys : List Int) (s : Int) : Bool := @decide (refQ xs r ys s) (Classical.propDecidable _)
theorem quB_t {xs ys : List Int} {r s : Int} (h : refQ xs r ys s) : quB xs r ys s = true := by unfold quB; simp [h]
theorem quB_f {xs ys : List Int} {r s : Int} (h : ¬ refQ xs r ys s) : quB xs r ys s = false := by unfold quB; simp [h]
noncomputable def quV (xs : List Int) (r : Int) (ys : List Int) (s : Int) : Bool × Int := if isAb xs r = true ∧ isAb ys s = true then (quB xs r ys s, 0) else (false, 1)
theorem quV_no1 {xs ys : List Int} {r s : Int} (h : isAb xs r = false) : quV xs r ys s = (false, 1) := by unfold quV; rw [if_neg (fun k => by rw [h] at k; cases k.1)]
theorem quV_no2 {xs ys : List Int} {r s : Int} (h : isAb ys s = false) : quV xs r ys s = (false, 1) := by unfold quV; rw [if_neg (fun k => by rw [h] at k; cases k.2)]
theorem quV_ok {xs ys : List Int} {r s : Int} (h1 : isAb xs r = true) (h2 : isAb ys s = true) : quV xs r ys s = (quB xs r ys s, 0) := by unfold quV; rw [if_pos ⟨h1, h2⟩]
theorem tab_zero (n : Nat) : tab n (fun _ => (0 : Int)) = List.replicate n (0 : Int) := by
  refine list_ext (by simp [tab_len]) (fun i hi => ?_)
  rw [tab_len] at hi
  rw [el_tab hi]
  simp [el, hi]
theorem dnL_take {xs : List Int} {R : Nat} : ∀ J, J = xs.length → List.replicate R 0 ++ xs.reverse.take J = dnL xs R := fun J h => by
  unfold dnL
  rw [List.take_of_length_le (by rw [List.length_reverse]; omega)]
  simp
theorem rev_el {xs : List Int} {J K : Nat} (h : K + J + 1 = xs.length) : el xs.reverse J = el xs K := by
  rw [el_eq (by rw [List.length_reverse]; omega), el_eq (by omega), List.getElem_reverse]
  congr 1
  omega
set_option maxRecDepth 20000 in
set_option maxHeartbeats 1000000 in
theorem l05Down_any (a : Option Addr) (n c : Nat) (xs : List Int) (R : Nat) (w : World) (ha : RdI w a xs) (hl : xs.length = n) (hn : n ≤ 1000) (hR : R ≤ 1000) :
    Calls Try.prog 63 #[.agg #[.slice a n c, .int .i64 R]] w fun e w' => ∃ a' c', e = .returned (.slice a' (R + n) c') ∧ OwnI 2 w' w.heap.size a' (R + n) c' (dnL xs R) ∧ Below w.heap.size w w' := by
  have hmk := run_make_row' (P := Try.prog) 22 2 (.int .i64 0) 8 Try.underlying22 Try.info2 rfl .i64 .i64 R (by omega) (by omega)
  have HA := Lib.hid ha
  have HL := Lib.hid hl
  have H0 : Hid (OwnI 2 ((w.alloc (.cells #[.slice a n c, .int .i64 R] 27)).alloc (.cells (madeCells #[.int .i64 0] R) 2)) (w.heap.size + 1) (some ⟨w.heap.size + 1, 0, none⟩) R R (List.replicate R 0)) := Lib.hid (by
    have h := OwnI.made (w.alloc (.cells #[.slice a n c, .int .i64 R] 27)) 2 R (by unfold maxLen; omega)
    rw [tab_zero] at h
    simpa using h)
  clear ha hl
  go_enter Try.func63, Try.ntmps63
  go_wp2_with fail
  clear hmk
  go_loopw [3, 4] (fun u v wr => ∃ (J : Nat) (z : Int) (a1 : Option Addr) (c1 : Nat), z + J + 1 = n ∧ -1 ≤ z ∧ v = .int .i64 z ∧ u = .slice a1 (R + J) c1 ∧ Hid (OwnI 2 wr (w.heap.size + 1) a1 (R + J) c1 (List.replicate R 0 ++ xs.reverse.take J) ∧ Below w.heap.size w wr ∧ w.heap.size + 1 ≤ wr.heap.size ∧ wr.cell? ⟨w.heap.size, 0, none⟩ = some (.slice a n c))) (fun _ v _ => (intOf v + 1).toNat)
  case atStart =>
    refine ⟨0, (n : Int) - 1, some ⟨w.heap.size + 1, 0, none⟩, R, by omega, by omega, rfl, rfl, Lib.hid ⟨by simpa using H0.out, ((Below.refl _ _).alloc (Nat.le_refl _) _).alloc (by simp) _, by simp, ?_⟩⟩
    simp
  case round =>
    obtain ⟨J, z, a1, c1, hz, hz1, rfl, rfl, HI⟩ := hrel
    clear H0
    obtain ⟨wo, rfl⟩ : ∃ x, x = wr := ⟨wr, rfl⟩
    have p0 := HI.out.2.2.2
    by_cases hzz : 0 ≤ z
    · obtain ⟨K, rfl⟩ : ∃ K : Nat, z = K := ⟨z.toNat, by omega⟩
      obtain ⟨b0, o0, rfl, cx⟩ := rdI_at (HA.out.keep HI.out.2.1 (Nat.le_refl _)) (show K < xs.length by rw [HL.out]; omega)
      have hKn : K < n := by omega
      have HE : Hid (List.replicate R 0 ++ xs.reverse.take J ++ [el xs K] = List.replicate R 0 ++ xs.reverse.take (J + 1)) := Lib.hid (by
        rw [take_el (by rw [List.length_reverse, HL.out]; omega), rev_el (K := K) (by rw [HL.out]; omega), List.append_assoc])
      obtain ⟨x, hx⟩ : ∃ x, x = el xs K := ⟨_, rfl⟩
      rw [← hx] at cx HE
      clear hx
      have hsz := HI.out.2.2.1
      go_wp2_with (at_builtin; refine wpList_push rfl (.tmp 16) (.tmp 22) 22 rfl (w.heap.size + 1) 2 (.int .i64 0) 8 Try.underlying22 Try.info2 rfl (by decide) (.int .i64 x) rfl _ _ _ _ rfl rfl (by exact HI.out.1) (by omega) (by exact hsz) ?_; rintro a4 c4 w4 r4 q4 g4; have HN : Hid (OwnI 2 w4 (w.heap.size + 1) a4 (R + J + 1) c4 (List.replicate R 0 ++ xs.reverse.take (J + 1))) := Lib.hid (by rw [← HE.out]; exact OwnI.pushed r4); have hb4 : Below (w.heap.size + 1) wo w4 := g4.below hsz (fun t ht hx => by obtain ⟨p, hp, e⟩ := hx; have := (HI.out.1.block p hp).1; omega); have p4 : w4.cell? ⟨w.heap.size, 0, none⟩ = some (.slice (some ⟨b0, o0, none⟩) n c) := (World.cell?_of_block (w := wo) (a := ⟨w.heap.size, 0, none⟩) (hb4.block w.heap.size (Nat.lt_succ_self _))).trans p0; have HB4 := Lib.hid hb4; clear r4 q4 g4 hb4)
      go_roundw
      case rel => exact ⟨J + 1, (K : Int) - 1, a4, c4, by omega, by omega, by go_num, rfl, Lib.hid ⟨HN.out, HI.out.2.1.trans (HB4.out.mono (Nat.le_succ _)), by have := HB4.out.size; omega, p4⟩⟩
      case measure => simp [intOf]
    · obtain rfl : z = -1 := by omega
      have hJ : J = n := by omega
      have HN : Hid (OwnI 2 wo (w.heap.size + 1) a1 (R + n) c1 (dnL xs R)) := Lib.hid (by
        have h := HI.out.1
        rw [dnL_take J (by rw [HL.out]; exact hJ), hJ] at h
        exact h)
      subst hJ
      go_wp2_with fail
      go_ret
      exact ⟨a1, c1, rfl, HN.out.mono (Nat.le_succ _), HI.out.2.1⟩
end Go.Proofs.Ytgdialknnjnehaa
