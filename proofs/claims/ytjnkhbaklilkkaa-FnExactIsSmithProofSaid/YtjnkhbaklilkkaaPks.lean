/- All ascending lists of k numbers below n: the reference's function. -/
import Derived.Test.YtjnkhbaklilkkaaChsW
set_option linter.unusedVariables false
set_option linter.unusedSimpArgs false
namespace Go.Proofs.Ytjnkhbaklilkkaa
open Go.RowKit

/-- one empty row, as slice literals -/
theorem one_lit {T1 T2 : TypeId} (w : World) : RdR ((w.alloc (.cells #[] T2)).alloc (.cells #[.slice (some ⟨w.heap.size, 0, none⟩) 0 0] T1)) (some ⟨w.heap.size + 1, 0, none⟩) [[]] := fun _ => by
  refine ⟨w.heap.size + 1, 0, rfl, fun i hi => ?_⟩
  obtain rfl : i = 0 := by simp at hi; omega
  exact ⟨some ⟨w.heap.size, 0, none⟩, 0, World.cell?_alloc_at _ _ _ _ (by simp), RdI.nil _ _, Nat.le_refl _⟩
theorem flat_take {f : List Int → List (List Int)} {R : List (List Int)} {j : Nat} (h : j < R.length) : (R.take (j + 1)).flatMap f = (R.take j).flatMap f ++ f (rw_ R j) := by
  rw [take_rw h, List.flatMap_append]; simp
set_option maxRecDepth 20000 in
set_option maxHeartbeats 2000000 in
theorem l04Picks_any (n k : Nat) (hn : n ≤ 20) (hk : k ≤ 4) (w : World) :
    Calls Try.prog 81 #[.int .i64 n, .int .i64 k] w fun e w' => ∃ (a : Option Addr) (c : Nat), e = .returned (.slice a (pks n k).length c) ∧ RdR w' a (pks n k) ∧ (pks n k).length ≤ c ∧ Below w.heap.size w w' := by
  have H0 : Hid (RdR ((w.alloc (.cells #[] 3)).alloc (.cells #[.slice (some ⟨w.heap.size, 0, none⟩) 0 0] 82)) (some ⟨w.heap.size + 1, 0, none⟩) [[]]) := Lib.hid (one_lit w)
  go_enter Try.func81, Try.ntmps81
  go_wp2
  go_loopw [6, 5] (fun i v wr => ∃ (m : Nat) (a1 : Option Addr) (c1 : Nat), m ≤ k ∧ i = .int .i64 m ∧ v = .slice a1 (pks n m).length c1 ∧ Hid (RdR wr a1 (pks n m) ∧ (pks n m).length ≤ c1 ∧ Below w.heap.size w wr)) (fun i _ _ => k - (intOf i).toNat)
  case atStart => exact ⟨0, _, 1, Nat.zero_le _, rfl, rfl, Lib.hid ⟨H0.out, Nat.le_refl _, ((Below.refl _ _).alloc (Nat.le_refl _) _).alloc (by simp) _⟩⟩
  case round =>
    clear H0
    obtain ⟨i, a1, c1, hi, rfl, rfl, HO⟩ := hrel
    obtain ⟨wo, rfl⟩ : ∃ x, x = wr := ⟨wr, rfl⟩
    have hc1 := HO.out.2.1
    by_cases hlt : i < k
    · have hs1 := pks_small (n := n) (k := i) hn (by omega)
      go_wp2
      go_loopw [8, 7] (fun i' v wr => ∃ (j : Nat) (a2 : Option Addr) (n2 c2 : Nat) (A : Nat → Option Addr) (C : Nat → Nat), j ≤ (pks n i).length ∧ i' = .int .i64 j ∧ n2 = (((pks n i).take j).flatMap (exts n)).length ∧ v = .slice a2 n2 c2 ∧ Hid (OwnR 82 3 wr wo.heap.size a2 n2 c2 (((pks n i).take j).flatMap (exts n)) A C ∧ Below wo.heap.size wo wr)) (fun i' _ _ => (pks n i).length - (intOf i').toNat)
      case atStart => exact ⟨0, _, 0, 0, fun _ => none, fun _ => 0, Nat.zero_le _, rfl, by simp, rfl, Lib.hid ⟨by simpa using OwnR.empty wo _ _ _ _, (Below.refl _ _).alloc (Nat.le_refl _) _⟩⟩
      case round =>
        obtain ⟨j, a2, n2, c2, A, C, hj, rfl, hn2, rfl, HJ⟩ := hrel
        by_cases hjt : j < (pks n i).length
        · have hmem := mem_pks.1 (rw_mem hjt)
          have hlen := hmem.1
          have hl0 := hmem.2.1.low0
          have hln := hmem.2.2
          have hb2 : n2 ≤ 3200000 := by
            have h1 := flat_bd (f := exts n) (B := n) (l := (pks n i).take j) (fun c hc => exts_len (mem_pks.1 (List.mem_of_mem_take hc)).2.1)
            have h2 : ((pks n i).take j).length = j := by simp; omega
            rw [← hn2, h2] at h1
            have h3 : j * n ≤ 160000 * 20 := Nat.mul_le_mul (by omega) hn
            omega
          obtain ⟨b, o, rfl, hc⟩ := (HO.out.1.keep HJ.out.2 (Nat.le_refl _)) (by omega)
          obtain ⟨ai, ci, d, r, kc⟩ := hc j hjt
          rw [hlen] at d kc
          have HD : Hid (wo.cell? ⟨b, o + j, none⟩ = some (.slice ai i ci) ∧ RdI wo ai (rw_ (pks n i) j)) := by
            obtain ⟨b', o', e, hc'⟩ := HO.out.1 (by omega)
            injection e with e
            injection e with e1 e2
            subst e1; subst e2
            obtain ⟨ai', ci', d', r', kc'⟩ := hc' j hjt
            have := HJ.out.2.cell (p := ⟨b, o + j, none⟩) (block_lt d')
            rw [this, d', hlen] at d
            injection d with d
            injection d with e3 e4 e5
            subst e3; subst e5
            exact Lib.hid ⟨by rw [d', hlen], r'⟩
          clear hc
          obtain ⟨L, hL⟩ : ∃ L : Nat, low (rw_ (pks n i) j) = L := ⟨(low (rw_ (pks n i) j)).toNat, by omega⟩
          rw [hL] at hl0 hln
          have HL := Lib.hid hL
          have HLEN := Lib.hid hlen
          have HN2 := Lib.hid hn2
          have HM := Lib.hid hmem
          have hsz := HJ.out.2.size
          clear hmem hn2
          have hsplit : (¬ (0 < (i : Int)) ∧ Hid (i = 0 ∧ L = 0)) ∨ ∃ i' : Nat, 0 < (i : Int) ∧ decide (0 < i) = true ∧ decide ((0 : Int) < i) = true ∧ (i : Int) - 1 = i' ∧ i' < i ∧ ∃ b3 o3, ai = some ⟨b3, o3, none⟩ ∧ wr.cell? ⟨b3, o3 + i', none⟩ = some (.int .i64 ((L : Int) - 1)) := by
            rcases Nat.eq_zero_or_pos i with h0 | h0
            · refine .inl ⟨by omega, Lib.hid ⟨h0, ?_⟩⟩
              subst h0
              have := List.eq_nil_of_length_eq_zero hlen
              rw [this, low_nil] at hL
              omega
            · obtain ⟨i', rfl⟩ : ∃ i', i = i' + 1 := ⟨i - 1, by omega⟩
              have h1 := low_el hlen
              obtain ⟨b3, o3, e3, hc3⟩ := r (by omega)
              refine .inr ⟨i', by omega, decide_eq_true (by omega), decide_eq_true (by omega), by omega, by omega, b3, o3, e3, ?_⟩
              rw [hc3 i' (by omega)]
              congr 2; omega
          clear hlen hL r
          rcases hsplit with ⟨Z0, S0⟩ | ⟨i', Z0, Y0, Y1, Z1, Z2, b3, o3, rfl, d3⟩
          all_goals
            go_wp2_with fail
            have LL : (L : Int) < 100 := by omega
            go_loopw [10, 7] (fun x v wr => ∃ (m : Nat) (a3 : Option Addr) (n3 c3 : Nat) (A3 : Nat → Option Addr) (C3 : Nat → Nat), m + L ≤ n ∧ x = .int .i64 ((L : Int) + m) ∧ n3 = n2 + m ∧ v = .slice a3 n3 c3 ∧ Hid (OwnR 82 3 wr wo.heap.size a3 n3 c3 (((pks n i).take j).flatMap (exts n) ++ extL n (rw_ (pks n i) j) m) A3 C3 ∧ Below wo.heap.size wo wr)) (fun x _ _ => n - (intOf x).toNat)
            case atStart => exact ⟨0, _, _, _, _, _, by omega, by first | (have := S0.out; go_num) | go_num, rfl, rfl, Lib.hid (by simpa [extL] using HJ.out)⟩
            case round =>
              obtain ⟨m, a3, n3, c3, A3, C3, hm, rfl, hn3, rfl, HM3⟩ := hrel
              obtain ⟨wi, rfl⟩ : ∃ x, x = wr := ⟨wr, rfl⟩
              have HN3 := Lib.hid hn3
              have hb3 : n3 ≤ 4000000 := by omega
              clear hn3
              have hs3 := HM3.out.2.size
              by_cases hmt : m + L < n
              · have hmt' : (L : Int) + m < n := by omega
                have d4 := cell_below (p := ⟨b, o + j, none⟩) HD.out.1 HM3.out.2
                have blt : b < wi.heap.size := block_lt d4
                have RC := Lib.hid (HD.out.2.keep HM3.out.2 (Nat.le_refl _))
                go_wp2_with (first
                  | (at_builtin; refine wpList_appS rfl (.tmp 43) (.tmp 47) 82 rfl wi.heap.size 3 (.int .i64 0) 8 Try.underlying82 Try.infoI rfl (by decide) _ _ _ _ rfl _ _ _ rfl (by exact OwnI.empty wi _) ((rw_ (pks n i) j).map (Value.int .i64)) (by rw [List.length_map]; exact HLEN.out) (by exact (RC.out.alloc _).vals) (map_one _) (by omega) (by simp) ?_; rintro ar cr wa r4 q4 g4; have RA := Lib.hid (app_own (xs := []) (OwnI.empty wi _) ((Below.refl _ _).alloc (Nat.le_refl _) _) (by simp) r4 g4); rw [Nat.zero_add, List.nil_append] at RA; rw [Nat.zero_add]; have sa := RA.out.2.size; clear r4 q4 g4)
                  | (at_builtin; refine wpList_push rfl (.tmp 48) (.tmp 50) 82 rfl wi.heap.size 3 (.int .i64 0) 8 Try.underlying82 Try.infoI rfl (by decide) (.int .i64 ((L : Int) + m)) rfl _ _ _ _ rfl rfl (by exact RA.out.1) (by omega) (by exact sa) ?_; rintro a4 c4 wb r4 q4 g4; have RB := Lib.hid (And.intro (OwnI.pushed r4) (RA.out.2.trans (g4.below sa (fun b hb hx => by obtain ⟨x, hx, e⟩ := hx; have := (RA.out.1.block x hx).1; omega)))); have sb := g4.size; clear r4 q4 g4)
                  | (at_builtin; refine wpList_push rfl (.tmp 42) (.tmp 52) 80 rfl wo.heap.size 82 (.slice none 0 0) 24 Try.underlying80 Try.infoRI rfl (by decide) (.slice a4 (i + 1) c4) rfl _ _ _ _ rfl rfl (by exact (HM3.out.1.keep RB.out.2 (Nat.le_refl _)).own) (by omega) (by exact Nat.le_trans hs3 RB.out.2.size) ?_; rintro a5 c5 w5 r5 q5 g5; have HN := Lib.hid (HM3.out.1.pushNew2 hs3 RB.out.2 RB.out.1 (Nat.le_refl _) r5 q5 g5); clear r5 q5 g5))
                have HN2b : Hid (OwnR 82 3 w5 wo.heap.size a5 (n3 + 1) c5 (((pks n i).take j).flatMap (exts n) ++ extL n (rw_ (pks n i) j) (m + 1)) (upd A3 n3 a4) (upd C3 n3 c4) ∧ Below wo.heap.size wo w5) := by
                  refine Lib.hid ⟨?_, HM3.out.2.trans HN.out.2⟩
                  rw [extL_succ, ← List.append_assoc, HL.out]
                  exact HN.out.1
                have HN3' := HN3.out
                go_roundw
                case rel => exact ⟨m + 1, a5, n3 + 1, c5, _, _, by omega, by go_num, by omega, rfl, HN2b⟩
                case measure => simp [intOf]; omega
              · have hmt' : ¬ ((L : Int) + m < n) := by omega
                have HN2b : Hid (OwnR 82 3 wi wo.heap.size a3 n3 c3 (((pks n i).take (j + 1)).flatMap (exts n)) A3 C3 ∧ Below wo.heap.size wo wi) := by
                  refine Lib.hid ⟨?_, HM3.out.2⟩
                  rw [flat_take hjt]
                  have : exts n (rw_ (pks n i) j) = extL n (rw_ (pks n i) j) m := by unfold exts; rw [HL.out, show ((n : Int) - L).toNat = m by omega]
                  rw [this]
                  exact HM3.out.1
                have hn4 := HN2b.out.1.len
                go_wp2_with fail
                go_roundw
                case rel => exact ⟨j + 1, a3, n3, c3, _, _, by omega, by go_num, hn4.symm, rfl, HN2b⟩
                case measure => simp [intOf]; omega
        · obtain rfl : j = (pks n i).length := by omega
          have hl9 : n2 = (pks n (i + 1)).length := by rw [hn2, List.take_length]; rfl
          have HN9 : Hid (RdR wr a2 (pks n (i + 1)) ∧ (pks n (i + 1)).length ≤ c2 ∧ Below w.heap.size w wr) := by
            have h1 := HJ.out.1
            rw [List.take_length] at h1
            refine Lib.hid ⟨h1.rd, ?_, HO.out.2.2.trans (HJ.out.2.mono HO.out.2.2.size)⟩
            rw [← hl9]; exact h1.capl
          clear hn2
          rw [hl9]
          go_wp2_with fail
          go_roundw
          case rel => exact ⟨i + 1, a2, c2, by omega, by go_num, rfl, HN9⟩
          case measure => simp [intOf]; omega
    · obtain rfl : i = k := by omega
      go_wp2
      go_ret
      exact ⟨_, _, rfl, HO.out⟩
end Go.Proofs.Ytjnkhbaklilkkaa
