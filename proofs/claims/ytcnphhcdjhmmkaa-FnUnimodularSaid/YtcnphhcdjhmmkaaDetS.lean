/- The determinant of a small table, as the reference reckons it. -/
import Derived.Test.YtcnphhcdjhmmkaaDetW
import Derived.Test.YtcnphhcdjhmmkaaConcat
import Derived.Test.YtcnphhcdjhmmkaaPush
import Derived.Test.YtcnphhcdjhmmkaaDet
import Derived.Deep.RegionLaw
import Derived.Deep.RegionHeld3
set_option linter.unusedVariables false
set_option linter.unusedSimpArgs false
namespace Go.Proofs.Ytcnphhcdjhmmkaa
open Go.RowKit

set_option maxRecDepth 20000 in
set_option maxHeartbeats 4000000 in
theorem l04Det_any : ∀ (n : Nat), n ≤ 4 → ∀ (a : Option Addr) (c : Nat) (xss : List (List Int)) (w : World), RdR w a xss → SqB n xss → n ≤ c →
    Calls Try.prog 24 #[.slice a n c] w fun e w' => e = .returned (.int .i64 (detN n xss)) ∧ Below w.heap.size w w' := by
  intro n
  induction n with
  | zero =>
    intro _ a c xss w _ _ _
    go_enter Try.func24, Try.ntmps24
    go_wp2
    go_ret
    exact ⟨rfl, Below.refl _ _⟩
  | succ n ih =>
    intro hn a c xss w ha hsq hcap
    have IH := Lib.hid (ih (by omega))
    have HA := Lib.hid ha
    have HS := Lib.hid hsq
    clear ih
    obtain ⟨b, o, rfl, hc⟩ := ha (by rw [hsq.len]; omega)
    obtain ⟨a0, c0, d0, r0, _⟩ := hc 0 (by rw [hsq.len]; omega)
    rw [hsq.row 0 (by omega)] at d0
    obtain ⟨b0, o0, rfl, hc0⟩ := r0 (by rw [hsq.row 0 (by omega)]; omega)
    have HC0 : Hid (∀ i, i < n + 1 → w.cell? ⟨b0, o0 + i, none⟩ = some (.int .i64 (el (rw_ xss 0) i))) := Lib.hid fun i hi => hc0 i (by rw [hsq.row 0 (by omega)]; exact hi)
    clear hc hc0 hsq
    rw [Nat.add_zero] at d0
    have D0 := Lib.hid d0
    clear d0
    have B0 : (((n : Int) + 1) == 0) = false := beq_eq_false_iff_ne.2 (by omega)
    go_enter Try.func24, Try.ntmps24
    go_wp2
    go_loopw [6, 4, 5] (fun i s f wr => ∃ k : Nat, k ≤ n + 1 ∧ i = .int .i64 k ∧ s = .int .i64 (dPart n xss k) ∧ f = .int .i64 (sgn k) ∧ Hid (Below w.heap.size w wr)) (fun i _ _ _ => n + 1 - (intOf i).toNat)
    case atStart => exact ⟨0, Nat.zero_le _, rfl, rfl, rfl, Lib.hid (Below.refl _ _)⟩
    case round =>
      obtain ⟨k, hk, rfl, rfl, rfl, HB⟩ := hrel
      obtain ⟨wo, rfl⟩ : ∃ x, x = wr := ⟨wr, rfl⟩
      by_cases hlt : k < n + 1
      · have d0 : wo.cell? ⟨b, o, none⟩ = some (.slice (some ⟨b0, o0, none⟩) (n + 1) c0) := by rw [HB.out.cell (p := ⟨b, o, none⟩) (block_lt D0.out)]; exact D0.out
        have d1 : wo.cell? ⟨b0, o0 + k, none⟩ = some (.int .i64 (el (rw_ xss 0) k)) := by rw [HB.out.cell (p := ⟨b0, o0 + k, none⟩) (block_lt (HC0.out k hlt))]; exact HC0.out k hlt
        obtain ⟨⟨x1, x2⟩, ⟨y1, y2⟩, ⟨z1, z2⟩, ⟨u1, u2⟩, ⟨s1, s2⟩, ⟨t1, t2⟩, ⟨f1, f2⟩⟩ := det_term HS.out hlt hn
        have hmin := Lib.hid (HS.out.minor hlt)
        have HAo : Hid (RdR wo (some ⟨b, o, none⟩) xss) := Lib.hid (HA.out.keep HB.out (Nat.le_refl _))
        have B1 : decide ((k : Int) < (n : Int) + 1) = true := decide_eq_true (by omega)
        have hsg : Hid (-sgn k = sgn (k + 1)) := Lib.hid (sgn_succ k).symm
        by_cases hx0 : el (rw_ xss 0) k = 0
        · have hz : (el (rw_ xss 0) k != 0) = false := by rw [hx0]; rfl
          have HE := Lib.hid (dPart_skip (n := n) hx0)
          clear hx0
          go_wp2_with fail
          go_roundw
          case rel => exact ⟨k + 1, by omega, by go_num, by rw [HE.out], by rw [hsg.out], HB⟩
          case measure => simp [intOf]; omega
        · have hz : (el (rw_ xss 0) k != 0) = true := bne_iff_ne.2 hx0
          have HE := Lib.hid (dPart_succ n xss k)
          rw [HE.out] at t1 t2
          clear hx0
          go_wp2_with fail
          go_loopw [8, 7] (fun i v wr => ∃ (j : Nat) (a1 : Option Addr) (c1 : Nat) (A : Nat → Option Addr) (C : Nat → Nat), j ≤ n ∧ i = .int .i64 ((j : Int) + 1) ∧ v = .slice a1 j c1 ∧ Hid (OwnR 31 2 wr wo.heap.size a1 j c1 ((minorR xss k).take j) A C ∧ Below wo.heap.size wo wr)) (fun i _ _ => n + 1 - (intOf i).toNat)
          case atStart => exact ⟨0, _, 0, fun _ => none, fun _ => 0, Nat.zero_le _, rfl, rfl, Lib.hid ⟨by simpa using OwnR.empty wo _ _ _ _, (Below.refl _ _).alloc (Nat.le_refl _) _⟩⟩
          case round =>
            obtain ⟨j, a1, c1, A, C, hj, rfl, rfl, HJ⟩ := hrel
            obtain ⟨wi, rfl⟩ : ∃ x, x = wr := ⟨wr, rfl⟩
            by_cases hjt : j < n
            · obtain ⟨b', o', hbo, hc⟩ := (HAo.out.keep HJ.out.2 (Nat.le_refl _)) (by rw [HS.out.len]; omega)
              injection hbo with hbo
              injection hbo with q1 q2
              subst q1; subst q2
              obtain ⟨aj, cj, dj, rj, kj⟩ := hc (j + 1) (by rw [HS.out.len]; omega)
              have hlj := HS.out.row (j + 1) (by omega)
              rw [hlj] at dj kj
              obtain ⟨bj, oj, rfl, hcj⟩ := id rj (by omega)
              have RJ := Lib.hid rj
              have HLJ := Lib.hid hlj
              clear hc hcj rj hlj
              have hsz := HJ.out.2.size
              have V1 : k ≤ cj := by omega
              have blt : b < wi.heap.size := block_lt dj
              have V6 : n + 1 ≤ cj := kj
              have V2 : (k : Int) ≤ (k : Int) + 1 := by omega
              have V3 : (k : Int) + 1 ≤ (n : Int) + 1 := by omega
              have V4 : (k : Int) ≤ (n : Int) := by omega
              have V5 : k ≤ n := by omega
              by_cases hk1 : cj = k + 1
              all_goals
                have HD : Hid (RdI wi (if cj = k + 1 then some ⟨bj, oj, none⟩ else some ⟨bj, oj + (k + 1), none⟩) ((rw_ xss (j + 1)).drop (k + 1))) := by
                  refine Lib.hid ?_
                  first
                    | (rw [if_pos hk1]; exact fun h0 => absurd h0 (by simp [HLJ.out]; omega))
                    | (rw [if_neg hk1]; exact RJ.out.drop _)
                first | simp only [if_pos hk1] at HD | simp only [if_neg hk1] at HD
                go_wp2_with (first
                  | (at_builtin; refine wpList_appS rfl (.tmp 32) (.tmp 38) 31 rfl wi.heap.size 2 (.int .i64 0) 8 Try.underlying31 Try.info2 rfl (by decide) _ _ _ _ rfl _ _ _ rfl (by exact OwnI.empty wi _) (((rw_ xss (j + 1)).take k).map (Value.int .i64)) (by simp [HLJ.out]; omega) (by exact ((RJ.out.take k (by rw [HLJ.out]; omega)).alloc _).vals) (map_one _) (by omega) (by simp) ?_; rintro ar cr wa r4 q4 g4; have RA := Lib.hid (app_own (xs := []) (OwnI.empty wi _) ((Below.refl _ _).alloc (Nat.le_refl _) _) (by simp) r4 g4); rw [Nat.zero_add, List.nil_append] at RA; rw [Nat.zero_add]; have dja := cell_below (p := ⟨b, o + (j + 1), none⟩) dj RA.out.2; have sa := RA.out.2.size; clear r4 q4 g4)
                  | (at_builtin; refine wpList_appS rfl (.tmp 41) (.tmp 48) 31 rfl wi.heap.size 2 (.int .i64 0) 8 Try.underlying31 Try.info2 rfl (by decide) _ _ _ _ rfl _ _ _ rfl (by exact RA.out.1) (((rw_ xss (j + 1)).drop (k + 1)).map (Value.int .i64)) (by simp [HLJ.out]) (by exact (HD.out.keep RA.out.2 (Nat.le_refl _)).vals) (map_one _) (by omega) sa ?_; rintro ar2 cr2 wb r4 q4 g4; have RB := Lib.hid (app_own RA.out.1 RA.out.2 sa r4 g4); rw [show k + (n - k) = n by omega] at RB; rw [show k + (n - k) = n by omega]; have sb := RB.out.2.size; clear r4 q4 g4)
                  | (at_builtin; refine wpList_push rfl (.tmp 40) (.tmp 50) 24 rfl wo.heap.size 31 (.slice none 0 0) 24 Try.underlying24 Try.infoR rfl (by decide) (.slice ar2 n cr2) rfl _ _ _ _ rfl rfl (by exact (HJ.out.1.keep RB.out.2 (Nat.le_refl _)).own) (by omega) (by exact Nat.le_trans hsz sb) ?_; rintro a4 c4 w4 r4 q4 g4; have HN := Lib.hid (HJ.out.1.pushNew2 hsz RB.out.2 RB.out.1 (Nat.le_refl _) r4 q4 g4); clear r4 q4 g4))
                have HN2 : Hid (OwnR 31 2 w4 wo.heap.size a4 (j + 1) c4 ((minorR xss k).take (j + 1)) (upd A j ar2) (upd C j cr2) ∧ Below wo.heap.size wo w4) := Lib.hid ⟨by rw [take_row' (by rw [minorR_len, HS.out.len]; omega), minorR_row (by rw [HS.out.len]; omega), dropAt_split]; exact HN.out.1, HJ.out.2.trans HN.out.2⟩
                go_roundw
                case rel => exact ⟨j + 1, a4, c4, _, _, by omega, by go_num, rfl, HN2⟩
                case measure => simp [intOf]; omega
            · obtain rfl : n = j := by omega
              have HM : Hid (RdR wi a1 (minorR xss k)) := Lib.hid (by have := HJ.out.1.rd; rwa [List.take_of_length_le (by rw [minorR_len, HS.out.len]; omega)] at this)
              have hc1m := HJ.out.1.capl
              have HB2 : Hid (Below w.heap.size w wi) := Lib.hid (HB.out.trans (HJ.out.2.mono HB.out.size))
              have e0 : wi.cell? ⟨b, o, none⟩ = some (.slice (some ⟨b0, o0, none⟩) (n + 1) c0) := cell_below (p := ⟨b, o, none⟩) d0 HJ.out.2
              have e1 : wi.cell? ⟨b0, o0 + k, none⟩ = some (.int .i64 (el (rw_ xss 0) k)) := cell_below (p := ⟨b0, o0 + k, none⟩) d1 HJ.out.2
              have hk9 : (k : Int) < (n : Int) + 1 := by omega
              have X1 : IntKind.i64.wrap (sgn k * el (rw_ xss 0) k) = sgn k * el (rw_ xss 0) k := IntWalk.i64_in _ (by omega)
              have X2 : IntKind.i64.wrap (sgn k * el (rw_ xss 0) k * detN n (minorR xss k)) = sgn k * el (rw_ xss 0) k * detN n (minorR xss k) := IntWalk.i64_in _ (by omega)
              have X3 : IntKind.i64.wrap (dPart n xss k + sgn k * el (rw_ xss 0) k * detN n (minorR xss k)) = dPart n xss k + sgn k * el (rw_ xss 0) k * detN n (minorR xss k) := IntWalk.i64_in _ (by omega)
              go_wp2_with fail
              go_region_held3 (fun w' => w'.cell? ⟨b, o, none⟩ = some (.slice (some ⟨b0, o0, none⟩) (n + 1) c0) ∧ w'.cell? ⟨b0, o0 + k, none⟩ = some (.int .i64 (el (rw_ xss 0) k))) (go_keep)
                (first
                  | (go_at_call 24; (with_reducible refine (IH.out a1 c1 (minorR xss k) _ ?_ hmin.out hc1m).mono ?_); exact (show RdR wi a1 (minorR xss k) from HM.out); rintro e w5 ⟨rfl, hb0⟩; have hb : Below wi.heap.size wi w5 := ⟨hb0.os, hb0.tape, hb0.output, hb0.size, hb0.block⟩; have f0 := cell_below (p := ⟨b, o, none⟩) (v := .slice (some ⟨b0, o0, none⟩) (n + 1) c0) e0 hb; have f1 := cell_below (p := ⟨b0, o0 + k, none⟩) (v := .int .i64 (el (rw_ xss 0) k)) e1 hb; have HB3 : Hid (Below w.heap.size w w5) := Lib.hid (HB2.out.trans (hb.mono HB2.out.size)); clear hb hb0))
              go_wp2_with fail
              go_roundw
              case rel => exact ⟨k + 1, by omega, by go_num, by rw [HE.out], by rw [hsg.out], HB3⟩
              case measure => simp [intOf]; omega
      · obtain rfl : k = n + 1 := by omega
        go_wp2
        go_ret
        exact ⟨rfl, HB.out⟩
end Go.Proofs.Ytcnphhcdjhmmkaa
