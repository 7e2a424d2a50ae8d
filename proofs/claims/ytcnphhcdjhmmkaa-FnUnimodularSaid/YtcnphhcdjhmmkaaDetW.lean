/- The determinant of a small table, as the program and as the reference reckon it. -/
import Derived.Test.YtcnphhcdjhmmkaaTabIs
import Derived.Test.YtcnphhcdjhmmkaaConcat
import Derived.Test.YtcnphhcdjhmmkaaPush
import Derived.Test.YtcnphhcdjhmmkaaDet
import Derived.Deep.RegionLaw
import Derived.Deep.RegionHeld3
set_option linter.unusedVariables false
set_option linter.unusedSimpArgs false
namespace Go.Proofs.Ytcnphhcdjhmmkaa
open Go.RowKit

theorem take_row' {A : List (List Int)} {j : Nat} (h : j < A.length) : A.take (j + 1) = A.take j ++ [rw_ A j] := by
  rw [List.take_add_one, rw_get h]; rfl
theorem dropAt_split (c : Nat) (r : List Int) : dropAt c r = r.take c ++ r.drop (c + 1) := rfl
/-- bounds of what one term of the expansion needs -/
theorem det_term {n k : Nat} {xss : List (List Int)} (h : SqB (n + 1) xss) (hk : k < n + 1) (hn : n + 1 ≤ 4) :
    (-64 ≤ el (rw_ xss 0) k ∧ el (rw_ xss 0) k ≤ 64) ∧ (-64 ≤ sgn k * el (rw_ xss 0) k ∧ sgn k * el (rw_ xss 0) k ≤ 64) ∧ (-402653184 ≤ detN n (minorR xss k) ∧ detN n (minorR xss k) ≤ 402653184) ∧
      (-402653184 ≤ sgn k * el (rw_ xss 0) k * detN n (minorR xss k) ∧ sgn k * el (rw_ xss 0) k * detN n (minorR xss k) ≤ 402653184) ∧ (-402653184 ≤ dPart n xss k ∧ dPart n xss k ≤ 402653184) ∧ (-402653184 ≤ dPart n xss (k + 1) ∧ dPart n xss (k + 1) ≤ 402653184) ∧ (-1 ≤ sgn k ∧ sgn k ≤ 1) := by
  have he := h.ent 0 k (by omega) hk
  have hd := det_bd n _ (h.minor hk)
  have hb := dB_le (show n ≤ 4 by omega)
  have ht := term_bd h hk hd.1 hd.2
  have h0 := dB_nonneg n
  have h2 : ((n : Int) + 1) * (64 * dB n) = dB (n + 1) := rfl
  have h3 := dB_le hn
  have h4 : 64 * dB n ≤ ((n : Int) + 1) * (64 * dB n) := by
    have := Int.mul_le_mul_of_nonneg_right (show (1 : Int) ≤ (n : Int) + 1 by omega) (show 0 ≤ 64 * dB n by omega)
    omega
  refine ⟨he, sgn_mulB he.1 he.2, by omega, by omega, dPart_bd h (by omega) hn, dPart_bd h (by omega) hn, ?_⟩
  rcases sgn_cases k with e | e <;> omega

set_option maxRecDepth 20000 in
set_option maxHeartbeats 4000000 in
theorem integerDeterminant_any : ∀ (n : Nat), n ≤ 4 → ∀ (a : Option Addr) (c : Nat) (xss : List (List Int)) (w : World), RdR w a xss → SqB n xss → n ≤ c →
    Calls Try.prog 22 #[.slice a n c] w fun e w' => e = .returned (.int .i64 (detN n xss)) ∧ Below w.heap.size w w' := by
  intro n
  induction n with
  | zero =>
    intro _ a c xss w _ _ _
    go_enter Try.func22, Try.ntmps22
    go_wp2
    go_ret
    exact ⟨rfl, Below.refl _ _⟩
  | succ n ih =>
    intro hn a c xss w ha hsq hcap
    have IH := Lib.hid (ih (by omega))
    have HA := Lib.hid ha
    have HS := Lib.hid hsq
    clear ih
    obtain ⟨b, o, rfl, hc⟩ := ha (by rw [hsq.len]; omega)
    obtain ⟨a0, c0, d0, r0, _⟩ := hc 0 (by rw [hsq.len]; omega)
    rw [hsq.row 0 (by omega)] at d0
    obtain ⟨b0, o0, rfl, hc0⟩ := r0 (by rw [hsq.row 0 (by omega)]; omega)
    have HC0 : Hid (∀ i, i < n + 1 → w.cell? ⟨b0, o0 + i, none⟩ = some (.int .i64 (el (rw_ xss 0) i))) := Lib.hid fun i hi => hc0 i (by rw [hsq.row 0 (by omega)]; exact hi)
    clear hc hc0 hsq
    rw [Nat.add_zero] at d0
    have B0 : (((n : Int) + 1) == 0) = false := beq_eq_false_iff_ne.2 (by omega)
    by_cases hc1 : c = 1
    · subst hc1
      go_enter Try.func22, Try.ntmps22
      go_wp2
      go_loopw [17, 3, 4] (fun i s f wr => ∃ k : Nat, k ≤ n + 1 ∧ i = .int .i64 k ∧ s = .int .i64 (dPart n xss k) ∧ f = .int .i64 (sgn k) ∧ Hid (Below w.heap.size w wr)) (fun i _ _ _ => n + 1 - (intOf i).toNat)
      case atStart => exact ⟨0, Nat.zero_le _, rfl, rfl, rfl, Lib.hid (Below.refl _ _)⟩
      case round =>
        obtain ⟨k, hk, rfl, rfl, rfl, HB⟩ := hrel
        by_cases hlt : k < n + 1
        · have D1 := HC0.out k hlt
          have d1 : wr.cell? ⟨b0, o0 + k, none⟩ = some (.int .i64 (el (rw_ xss 0) k)) := by rw [HB.out.cell (p := ⟨b0, o0 + k, none⟩) (block_lt D1)]; exact D1
          clear D1
          obtain ⟨⟨x1, x2⟩, ⟨y1, y2⟩, ⟨z1, z2⟩, ⟨u1, u2⟩, ⟨s1, s2⟩, ⟨t1, t2⟩, ⟨f1, f2⟩⟩ := det_term HS.out hlt hn
          have hmin := Lib.hid (HS.out.minor hlt)
          have HAo : Hid (RdR wr (some ⟨b, o, none⟩) xss) := Lib.hid (HA.out.keep HB.out (Nat.le_refl _))
          have B1 : decide ((k : Int) < (n : Int) + 1) = true := decide_eq_true (by omega)
          obtain ⟨wo, rfl⟩ : ∃ x, x = wr := ⟨wr, rfl⟩
          go_wp2
          go_loopw [25, 7] (fun i v wr => ∃ (j : Nat) (a1 : Option Addr) (c1 : Nat) (A : Nat → Option Addr) (C : Nat → Nat), j ≤ n ∧ i = .int .i64 j ∧ v = .slice a1 j c1 ∧ Hid (OwnR 31 2 wr wo.heap.size a1 j c1 ((minorR xss k).take j) A C ∧ Below wo.heap.size wo wr)) (fun i _ _ => n - (intOf i).toNat)
          case atStart => exact ⟨0, none, 0, fun _ => none, fun _ => 0, Nat.zero_le _, rfl, rfl, Lib.hid ⟨by simpa using OwnR.none _ _, Below.refl _ _⟩⟩
          case round =>
            obtain ⟨wi, rfl⟩ : ∃ x, x = wr := ⟨wr, rfl⟩
            obtain ⟨j, a1, c1, A, C, hj, rfl, rfl, HJ⟩ := hrel
            by_cases hjt : j < n
            · exact absurd hjt (by omega)
            · obtain rfl : n = j := by omega
              have HM : Hid (RdR wi a1 (minorR xss k)) := Lib.hid (by have := HJ.out.1.rd; rwa [List.take_of_length_le (by rw [minorR_len, HS.out.len]; omega)] at this)
              have hc1m := HJ.out.1.capl
              have HB2 : Hid (Below w.heap.size w wi) := Lib.hid (HB.out.trans (HJ.out.2.mono HB.out.size))
              have hsg : Hid (-sgn k = sgn (k + 1)) := Lib.hid (sgn_succ k).symm
              by_cases hx0 : el (rw_ xss 0) k = 0
              · have hz : (el (rw_ xss 0) k != 0) = false := by rw [hx0]; rfl
                have HE := Lib.hid (dPart_skip (n := n) hx0)
                clear hx0
                go_wp2_with fail
                go_roundw
                case rel => exact ⟨k + 1, by omega, by go_num, by rw [HE.out], by rw [hsg.out], HB2⟩
                case measure => simp [intOf]; omega
              · have hz : (el (rw_ xss 0) k != 0) = true := bne_iff_ne.2 hx0
                have HE := Lib.hid (dPart_succ n xss k)
                rw [HE.out] at t1 t2
                clear hx0
                go_wp2_with fail
                refine (IH.out a1 c1 _ _ (by exact HM.out) hmin.out hc1m).mono ?_
                rintro e w5 ⟨rfl, hb⟩
                have HB3 : Hid (Below w.heap.size w w5) := Lib.hid (HB2.out.trans (hb.mono HB2.out.size))
                clear hb
                go_wp2_with fail
                go_roundw
                case rel => exact ⟨k + 1, by omega, by go_num, by rw [HE.out], by rw [hsg.out], HB3⟩
                case measure => simp [intOf]; omega
        · obtain rfl : k = n + 1 := by omega
          go_wp2
          go_ret
          exact ⟨rfl, HB.out⟩
    · go_enter Try.func22, Try.ntmps22
      go_wp2
      go_loopw [17, 3, 4] (fun i s f wr => ∃ k : Nat, k ≤ n + 1 ∧ i = .int .i64 k ∧ s = .int .i64 (dPart n xss k) ∧ f = .int .i64 (sgn k) ∧ Hid (Below w.heap.size w wr)) (fun i _ _ _ => n + 1 - (intOf i).toNat)
      case atStart => exact ⟨0, Nat.zero_le _, rfl, rfl, rfl, Lib.hid (Below.refl _ _)⟩
      case round =>
        obtain ⟨k, hk, rfl, rfl, rfl, HB⟩ := hrel
        by_cases hlt : k < n + 1
        · have D1 := HC0.out k hlt
          have d1 : wr.cell? ⟨b0, o0 + k, none⟩ = some (.int .i64 (el (rw_ xss 0) k)) := by rw [HB.out.cell (p := ⟨b0, o0 + k, none⟩) (block_lt D1)]; exact D1
          clear D1
          obtain ⟨⟨x1, x2⟩, ⟨y1, y2⟩, ⟨z1, z2⟩, ⟨u1, u2⟩, ⟨s1, s2⟩, ⟨t1, t2⟩, ⟨f1, f2⟩⟩ := det_term HS.out hlt hn
          have hmin := Lib.hid (HS.out.minor hlt)
          have HAo : Hid (RdR wr (some ⟨b, o, none⟩) xss) := Lib.hid (HA.out.keep HB.out (Nat.le_refl _))
          have B1 : decide ((k : Int) < (n : Int) + 1) = true := decide_eq_true (by omega)
          obtain ⟨wo, rfl⟩ : ∃ x, x = wr := ⟨wr, rfl⟩
          go_wp2
          go_loopw [25, 7] (fun i v wr => ∃ (j : Nat) (a1 : Option Addr) (c1 : Nat) (A : Nat → Option Addr) (C : Nat → Nat), j ≤ n ∧ i = .int .i64 j ∧ v = .slice a1 j c1 ∧ Hid (OwnR 31 2 wr wo.heap.size a1 j c1 ((minorR xss k).take j) A C ∧ Below wo.heap.size wo wr)) (fun i _ _ => n - (intOf i).toNat)
          case atStart => exact ⟨0, none, 0, fun _ => none, fun _ => 0, Nat.zero_le _, rfl, rfl, Lib.hid ⟨by simpa using OwnR.none _ _, Below.refl _ _⟩⟩
          case round =>
            obtain ⟨wi, rfl⟩ : ∃ x, x = wr := ⟨wr, rfl⟩
            obtain ⟨j, a1, c1, A, C, hj, rfl, rfl, HJ⟩ := hrel
            by_cases hjt : j < n
            · obtain ⟨b', o', hbo, hc⟩ := (HAo.out.keep HJ.out.2 (Nat.le_refl _)) (by rw [HS.out.len]; omega)
              injection hbo with hbo
              injection hbo with q1 q2
              subst q1; subst q2
              obtain ⟨aj, cj, dj, rj, kj⟩ := hc (j + 1) (by rw [HS.out.len]; omega)
              have hlj := HS.out.row (j + 1) (by omega)
              rw [hlj] at dj kj
              rw [show o + (j + 1) = o + 1 + j by omega] at dj
              obtain ⟨bj, oj, rfl, hcj⟩ := id rj (by omega)
              have RJ := Lib.hid rj
              have HLJ := Lib.hid hlj
              clear hc hcj rj hlj
              have hsz := HJ.out.2.size
              have W1 : IntKind.i64.wrap (k : Int) = k := IntWalk.i64_in _ (by omega)
              have W2 : IntKind.i64.wrap ((k : Int) + 1) = (k : Int) + 1 := IntWalk.i64_in _ (by omega)
              have W3 : ((k : Int) + 1).toNat = k + 1 := by omega
              have V1 : k ≤ cj := by omega
              have V2 : (k : Int) ≤ (k : Int) + 1 := by omega
              have V3 : (k : Int) + 1 ≤ (n : Int) + 1 := by omega
              have V4 : (k : Int) ≤ (n : Int) := by omega
              have V5 : k ≤ n := by omega
              have V6 : n + 1 ≤ cj := kj
              have V7 : 0 ≤ (k : Int) + 1 := by omega
              by_cases hk1 : cj = k + 1
              all_goals
                have HP : Hid (RdR (wi.alloc (.cells #[.slice (some ⟨bj, oj, none⟩) k cj, .slice (if cj = k + 1 then some ⟨bj, oj, none⟩ else some ⟨bj, oj + (k + 1), none⟩) (n - k) (if cj = k + 1 then 0 else cj - (k + 1))] 31)) (some ⟨wi.heap.size, 0, none⟩) [(rw_ xss (j + 1)).take k, (rw_ xss (j + 1)).drop (k + 1)]) := by
                  refine Lib.hid (RdR.pair (w := wi) _ (RJ.out.take k (by rw [HLJ.out]; omega)) ?_ (by simp [HLJ.out]; omega) (by simp [HLJ.out]) (by omega) (by split <;> omega))
                  first
                    | (rw [if_pos hk1]; exact fun h0 => absurd h0 (by simp [HLJ.out]; omega))
                    | (rw [if_neg hk1]; exact RJ.out.drop _)
                first | (simp only [if_pos hk1] at HP; rw [hk1] at HP) | simp only [if_neg hk1] at HP
                go_wp2
                go_region_law (first
                  | (refine step_pushW rfl (.tmp 29) (.tmp 39) 24 rfl wo.heap.size 31 (.slice none 0 0) 24 Try.underlying24 Try.infoR rfl (by decide) (.slice ac n cc) rfl _ _ _ _ _ rfl rfl (by exact (World.cell?_alloc_at _ _ _ _ rfl).trans rfl) (by exact (ownsRow_same (HJ.out.1.keep HBc.out (Nat.le_refl _)).own (fun p hp => Below.heap_alloc _ _ _ (ownsRow_block (HJ.out.1.keep HBc.out (Nat.le_refl _)).own p hp).2))) (by omega) (by exact Nat.le_trans hsz (Nat.le_trans HBc.out.size (by simp))) ?_; rintro a4 c4 w4 r4 q4 g4; have HN := Lib.hid (HJ.out.1.pushNew hsz HBc.out HOc.out (by simp) r4 q4 g4); clear r4 q4 g4)
                  | (go_simp; go_at_call 37; refine (concat_pair _ _ _ _ n _ (by exact HP.out) (by simp [HLJ.out]; omega) (by omega)).mono ?_; rintro e wc ⟨ac, cc, rfl, ho, hb⟩; have HOc := Lib.hid ho; have HBc : Hid (Below wi.heap.size wi wc) := Lib.hid (below_al1 (below_drw hb)); clear ho hb))
                all_goals
                  have HN2 : Hid (OwnR 31 2 w4 wo.heap.size a4 (j + 1) c4 ((minorR xss k).take (j + 1)) (upd A j ac) (upd C j cc) ∧ Below wo.heap.size wo w4) := Lib.hid ⟨by rw [take_row' (by rw [minorR_len, HS.out.len]; omega), minorR_row (by rw [HS.out.len]; omega), dropAt_split]; exact HN.out.1, HJ.out.2.trans HN.out.2⟩
                  go_wp2_with fail
                  go_roundw
                  case rel => exact ⟨j + 1, a4, c4, _, _, by omega, by go_num, rfl, HN2⟩
                  case measure => simp [intOf]; omega
            · obtain rfl : n = j := by omega
              have HM : Hid (RdR wi a1 (minorR xss k)) := Lib.hid (by have := HJ.out.1.rd; rwa [List.take_of_length_le (by rw [minorR_len, HS.out.len]; omega)] at this)
              have hc1m := HJ.out.1.capl
              have HB2 : Hid (Below w.heap.size w wi) := Lib.hid (HB.out.trans (HJ.out.2.mono HB.out.size))
              have hsg : Hid (-sgn k = sgn (k + 1)) := Lib.hid (sgn_succ k).symm
              by_cases hx0 : el (rw_ xss 0) k = 0
              · have hz : (el (rw_ xss 0) k != 0) = false := by rw [hx0]; rfl
                have HE := Lib.hid (dPart_skip (n := n) hx0)
                clear hx0
                go_wp2_with fail
                go_roundw
                case rel => exact ⟨k + 1, by omega, by go_num, by rw [HE.out], by rw [hsg.out], HB2⟩
                case measure => simp [intOf]; omega
              · have hz : (el (rw_ xss 0) k != 0) = true := bne_iff_ne.2 hx0
                have HE := Lib.hid (dPart_succ n xss k)
                rw [HE.out] at t1 t2
                clear hx0
                go_wp2_with fail
                refine (IH.out a1 c1 _ _ (by exact HM.out) hmin.out hc1m).mono ?_
                rintro e w5 ⟨rfl, hb⟩
                have HB3 : Hid (Below w.heap.size w w5) := Lib.hid (HB2.out.trans (hb.mono HB2.out.size))
                clear hb
                go_wp2_with fail
                go_roundw
                case rel => exact ⟨k + 1, by omega, by go_num, by rw [HE.out], by rw [hsg.out], HB3⟩
                case measure => simp [intOf]; omega
        · obtain rfl : k = n + 1 := by omega
          go_wp2
          go_ret
          exact ⟨rfl, HB.out⟩
end Go.Proofs.Ytcnphhcdjhmmkaa
