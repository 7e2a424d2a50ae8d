/- The reference's small functions on lists of matrices: l01Less, l03Flat, l03Free. -/
import Derived.Test.YtpkdgemnddcefaaAsP
import Derived.Test.YtpkdgemnddcefaaConcat
import Derived.Test.YtpkdgemnddcefaaPush
import Derived.StillTailTactics
set_option linter.unusedVariables false
set_option linter.unusedSimpArgs false
namespace Go.Proofs.Ytpkdgemnddcefaa
open Go.RowKit
set_option maxHeartbeats 1000000 in
theorem l01Less_any (a b : Option Addr) (n m ca cb : Nat) (xs ys : List Int) (w : World) (ha : RdI w a xs) (hb : RdI w b ys) (hn : xs.length = n) (hm : ys.length = m) (h1 : n ≤ 1048576) (h2 : m ≤ 1048576) :
    Calls Try.prog 95 #[.slice a n ca, .slice b m cb] w fun e w' => e = .returned (.bool (decide (cmpL xs ys < 0))) ∧ ∃ t, w' = w.drewN t := by
  have HA := Lib.hid ha
  have HB := Lib.hid hb
  have HN := Lib.hid hn
  have HM := Lib.hid hm
  have H0 : Hid (cmpL (xs.drop 0) (ys.drop 0) = cmpL xs ys) := Lib.hid rfl
  clear ha hb hn hm
  go_enter Try.func95, Try.ntmps95
  go_wp2
  go_loopw [5] (fun i wr => ∃ k : Nat, k ≤ n ∧ k ≤ m ∧ i = .int .i64 k ∧ Hid (cmpL (xs.drop k) (ys.drop k) = cmpL xs ys) ∧ ∃ t, wr = w.drewN t) (fun i _ => n - (intOf i).toNat)
  case atStart => exact ⟨0, Nat.zero_le _, Nat.zero_le _, rfl, H0, 0, rfl⟩
  case round =>
    obtain ⟨k, hk, hkm, rfl, HC, t, rfl⟩ := hrel
    clear H0
    by_cases hlt : k < n
    · have i1 : (k : Int) < n := by omega
      by_cases hmt : k < m
      · have i2 : (k : Int) < m := by omega
        obtain ⟨b1, o1, rfl, c1⟩ := rdI_at HA.out (show k < xs.length by rw [HN.out]; exact hlt)
        obtain ⟨b2, o2, rfl, c2⟩ := rdI_at HB.out (show k < ys.length by rw [HM.out]; exact hmt)
        have HX : Hid (cmpL (el xs k :: xs.drop (k + 1)) (el ys k :: ys.drop (k + 1)) = cmpL xs ys) := Lib.hid (by rw [← HC.out, drop_el (xs := xs) (k := k) (by rw [HN.out]; exact hlt), drop_el (xs := ys) (k := k) (by rw [HM.out]; exact hmt)])
        obtain ⟨x, hx⟩ : ∃ x, x = el xs k := ⟨_, rfl⟩
        obtain ⟨y, hy⟩ : ∃ y, y = el ys k := ⟨_, rfl⟩
        rw [← hx, ← hy] at HX
        rw [← hx] at c1
        rw [← hy] at c2
        clear hx hy HC
        by_cases he : x = y
        · subst he
          have b1' : (x != x) = false := by simp
          have HN1 : Hid (cmpL (xs.drop (k + 1)) (ys.drop (k + 1)) = cmpL xs ys) := Lib.hid (by rw [← HX.out, cmpL_eq])
          go_wp2
          go_quiet (fail)
          go_wp2
          go_roundw
          case rel => exact ⟨k + 1, by omega, by omega, by go_num, HN1, t + nq, by simp⟩
          case measure => simp [intOf]; omega
        · have b1' : (x != y) = true := by simp [he]
          have HD : Hid (decide (cmpL xs ys < 0) = decide (x < y)) := Lib.hid (by
            rw [← HX.out]
            rcases Int.lt_or_gt_of_ne he with h | h
            · rw [cmpL_lt _ _ h, decide_eq_true h]; rfl
            · rw [cmpL_gt _ _ h, decide_eq_false (show ¬ x < y by omega)]; rfl)
          clear he
          go_wp2
          go_quiet (fail)
          obtain ⟨n1, rfl⟩ : ∃ x, x = nq := ⟨nq, rfl⟩
          go_wp2
          go_quiet (fail)
          go_wp2
          go_ret
          exact ⟨by rw [HD.out]; rfl, t + n1 + nq, by simp⟩
      · have i2 : ¬ (k : Int) < m := by omega
        have i3 : ¬ (n : Int) < m := by omega
        have HD : Hid (decide (cmpL xs ys < 0) = false) := Lib.hid (by
          rw [← HC.out, drop_el (xs := xs) (k := k) (by rw [HN.out]; exact hlt), List.drop_eq_nil_of_le (show ys.length ≤ k by rw [HM.out]; omega)]; rfl)
        go_wp2
        go_ret
        exact ⟨by rw [HD.out]; rfl, t, by simp⟩
    · obtain rfl : k = n := by omega
      have i1 : ¬ (k : Int) < k := by omega
      by_cases h : k < m
      · have i2 : (k : Int) < m := by omega
        have HD : Hid (decide (cmpL xs ys < 0) = true) := Lib.hid (by
          rw [← HC.out, List.drop_eq_nil_of_le (show xs.length ≤ k by rw [HN.out]; omega), drop_el (xs := ys) (k := k) (by rw [HM.out]; omega)]; rfl)
        go_wp2
        go_ret
        exact ⟨by rw [HD.out]; rfl, t, by simp⟩
      · have i2 : ¬ (k : Int) < m := by omega
        have HD : Hid (decide (cmpL xs ys < 0) = false) := Lib.hid (by
          rw [← HC.out, List.drop_eq_nil_of_le (show xs.length ≤ k by rw [HN.out]; omega), List.drop_eq_nil_of_le (show ys.length ≤ k by rw [HM.out]; omega)]; rfl)
        go_wp2
        go_ret
        exact ⟨by rw [HD.out]; rfl, t, by simp⟩
set_option maxHeartbeats 1000000 in
theorem l03Flat_any (a : Option Addr) (n c : Nat) (xss : List (List Int)) (w : World) (ha : RdR w a xss) (hl : xss.length = n) (hn : n ≤ 1048576) (hx : offs xss n ≤ 1048576) :
    Calls Try.prog 96 #[.slice a n c] w fun e w' => ∃ a' c', e = .returned (.slice a' (offs xss n) c') ∧ OwnI 2 w' w.heap.size a' (offs xss n) c' (flat xss n) ∧ Below w.heap.size w w' := by
  have HA := Lib.hid ha
  have HL := Lib.hid hl
  have H0 : Hid (OwnI 2 (w.alloc (.cells #[] 2)) w.heap.size (some ⟨w.heap.size, 0, none⟩) (offs xss 0) 0 (flat xss 0) ∧ Below w.heap.size w (w.alloc (.cells #[] 2))) := Lib.hid ⟨OwnI.empty w _, (Below.refl _ _).alloc (Nat.le_refl _) _⟩
  clear ha hl
  go_enter Try.func96, Try.ntmps96
  go_wp2_with fail
  go_loopw [4, 3] (fun i v wr => ∃ (j : Nat) (a2 : Option Addr) (c2 : Nat), j ≤ n ∧ i = .int .i64 j ∧ v = .slice a2 (offs xss j) c2 ∧ Hid (OwnI 2 wr w.heap.size a2 (offs xss j) c2 (flat xss j) ∧ Below w.heap.size w wr)) (fun i _ _ => n - (intOf i).toNat)
  case atStart => exact ⟨0, _, 0, Nat.zero_le _, rfl, rfl, H0⟩
  case round =>
    obtain ⟨j, a2, c2, hj, rfl, rfl, HJ⟩ := hrel
    clear H0
    by_cases hjt : j < n
    · have J1 : (j : Int) < (n : Int) := by omega
      obtain ⟨b, o, rfl, hc⟩ := (HA.out.keep HJ.out.2 (Nat.le_refl _)) (by rw [HL.out]; omega)
      obtain ⟨ai, ci, d, r, _⟩ := hc j (by rw [HL.out]; exact hjt)
      have hof : offs xss j + (rw_ xss j).length ≤ offs xss n := offs_mono xss (show j + 1 ≤ n by omega)
      have R := Lib.hid r
      have hsz := HJ.out.2.size
      clear hc r
      go_wp2_with (at_builtin; refine wpList_appS rfl (.tmp 12) (.tmp 16) 52 rfl w.heap.size 2 (.int .i64 0) 8 Try.underlying52 Try.info2 rfl (by decide) _ _ _ _ rfl _ _ _ rfl (by exact HJ.out.1) ((rw_ xss j).map (Value.int .i64)) (by simp) (by exact R.out.vals) (map_one _) (by omega) hsz ?_; rintro a4 c4 w4 r4 q4 g4; have R4 := Lib.hid r4; have G4 := Lib.hid g4; clear r4 q4 g4)
      have HN : Hid (OwnI 2 w4 w.heap.size a4 (offs xss (j + 1)) c4 (flat xss (j + 1)) ∧ Below w.heap.size w w4) := Lib.hid ⟨OwnI.app R4.out, HJ.out.2.trans (G4.out.below hsz (fun m hm hx => by obtain ⟨x, hx, e⟩ := hx; have := (HJ.out.1.block x hx).1; omega))⟩
      go_roundw
      case rel => exact ⟨j + 1, a4, c4, by omega, by go_num, rfl, HN⟩
      case measure => simp [intOf]; omega
    · obtain rfl : j = n := by omega
      have J1 : ¬ (j : Int) < (j : Int) := by omega
      go_wp2
      go_ret
      exact ⟨a2, c2, rfl, HJ.out⟩
theorem freeI_zero {piv : List Int} {i n : Nat} (h : (n : Int) ≤ el piv i + 1) : freeI piv i n = [] := by
  unfold freeI
  rw [List.map_eq_nil_iff, List.filter_eq_nil_iff]
  intro j hj
  have : j < n := by simpa using hj
  rw [decide_eq_false (show ¬ el piv i < (j : Int) by omega)]
  simp
theorem freeI_succ {piv : List Int} {i j : Nat} (h : el piv i < (j : Int)) : freeI piv i (j + 1) = freeI piv i j ++ if piv.contains (j : Int) then [] else [(j : Int)] := by
  unfold freeI
  rw [List.range_succ, List.filter_append, List.map_append]
  congr 1
  cases hc : piv.contains (j : Int)
  · have e : (decide (el piv i < (j : Int)) && !piv.contains (j : Int)) = true := by rw [hc, decide_eq_true h]; rfl
    rw [List.filter_cons_of_pos (p := fun (j : Nat) => decide (el piv i < (j : Int)) && !piv.contains (j : Int)) e]
    rfl
  · have e : ¬ (decide (el piv i < (j : Int)) && !piv.contains (j : Int)) = true := by rw [hc, decide_eq_true h]; decide
    rw [List.filter_cons_of_neg (p := fun (j : Nat) => decide (el piv i < (j : Int)) && !piv.contains (j : Int)) e]
    rfl
theorem contains_snoc {piv : List Int} {t : Nat} {x : Int} (h : t < piv.length) : (piv.take (t + 1)).contains x = ((piv.take t).contains x || (x == el piv t)) := by
  rw [List.take_add_one, el_get h]
  rw [Option.toList_some, List.contains_eq_any_beq, List.any_append, List.contains_eq_any_beq]
  simp
set_option maxHeartbeats 1000000 in
theorem l03Free_any (a : Option Addr) (m c : Nat) (piv : List Int) (i n : Nat) (w : World) (ha : RdI w a piv) (hl : piv.length = m) (hi : i < m) (hm : m ≤ 1000) (hn : n ≤ 1000) (h0 : 0 ≤ el piv i) (h1 : el piv i < n) :
    Calls Try.prog 69 #[.slice a m c, .int .i64 i, .int .i64 n] w fun e w' => ∃ a' c', e = .returned (.slice a' (freeI piv i n).length c') ∧ OwnI 2 w' w.heap.size a' (freeI piv i n).length c' (freeI piv i n) ∧ Below w.heap.size w w' := by
  obtain ⟨b, o, rfl, hc⟩ := ha (by omega)
  have HC := Lib.hid hc
  have HL := Lib.hid hl
  have bl : b < w.heap.size := block_lt (p := ⟨b, o + i, none⟩) (hc i (by omega))
  obtain ⟨s, hs⟩ : ∃ s : Nat, (s : Int) = el piv i + 1 := ⟨(el piv i + 1).toNat, by omega⟩
  have W1 : IntKind.i64.wrap (el piv i + 1) = (s : Int) := by rw [hs]; exact IntWalk.i64_in _ (by omega)
  have ci : (w.alloc (.cells #[] 2)).cell? ⟨b, o + i, none⟩ = some (.int .i64 (el piv i)) := cell_below (hc i (by omega)) ((Below.refl w.heap.size w).alloc (Nat.le_refl _) _)
  have e0 := hc i (by omega)
  have J0 : (i : Int) < (m : Int) := by omega
  have hsn : s ≤ n := by omega
  have HP : Hid (el piv i < (s : Int)) := Lib.hid (by omega)
  have H0 : Hid (OwnI 2 (w.alloc (.cells #[] 2)) w.heap.size (some ⟨w.heap.size, 0, none⟩) (freeI piv i s).length 0 (freeI piv i s) ∧ Below w.heap.size w (w.alloc (.cells #[] 2))) := Lib.hid ⟨by rw [freeI_zero (by omega)]; exact OwnI.empty w _, (Below.refl _ _).alloc (Nat.le_refl _) _⟩
  have HE0 : Hid ((freeI piv i s).length = 0) := Lib.hid (by rw [freeI_zero (by omega)]; rfl)
  clear ha hc hl hs h0 h1
  go_enter Try.func69, Try.ntmps69
  go_wp2_with fail
  go_loopw [8, 7] (fun x v wr => ∃ (j : Nat) (a2 : Option Addr) (c2 : Nat), s ≤ j ∧ j ≤ n ∧ x = .int .i64 j ∧ v = .slice a2 (freeI piv i j).length c2 ∧ Hid (OwnI 2 wr w.heap.size a2 (freeI piv i j).length c2 (freeI piv i j) ∧ Below w.heap.size w wr)) (fun x _ _ => n - (intOf x).toNat)
  case atStart => exact ⟨s, _, 0, Nat.le_refl _, hsn, rfl, by rw [HE0.out], H0⟩
  case round =>
    obtain ⟨j, a2, c2, hsj, hj, rfl, rfl, HJ⟩ := hrel
    obtain ⟨wo, rfl⟩ : ∃ x, x = wr := ⟨wr, rfl⟩
    clear H0 ci e0 W1
    by_cases hjt : j < n
    · have J1 : (j : Int) < (n : Int) := by omega
      have b1 : decide ((j : Int) < (n : Int)) = true := decide_eq_true J1
      have HSU := Lib.hid (freeI_succ (piv := piv) (i := i) (j := j) (by have := HP.out; omega))
      go_wp2_with fail
      go_loopw [10, 9] (fun x v wr => ∃ (t : Nat) (q : Bool), t ≤ m ∧ x = .int .i64 t ∧ v = .bool q ∧ Hid (q = (piv.take t).contains (j : Int)) ∧ wr = wo) (fun x _ _ => m - (intOf x).toNat)
      case atStart => exact ⟨0, false, Nat.zero_le _, rfl, rfl, Lib.hid (by simp), rfl⟩
      case round =>
        obtain ⟨t, q, ht, rfl, rfl, HQ, hw⟩ := hrel
        subst hw
        by_cases htm : t < m
        · have J2 : (t : Int) < (m : Int) := by omega
          have ct := cell_below (HC.out t (by rw [HL.out]; exact htm)) HJ.out.2
          have HS := Lib.hid (contains_snoc (piv := piv) (t := t) (x := (j : Int)) (by rw [HL.out]; exact htm))
          cases q
          · by_cases he : el piv t = (j : Int)
            · have b2 : (el piv t == (j : Int)) = true := by simp [he]
              have HN1 : Hid (true = (piv.take (t + 1)).contains (j : Int)) := Lib.hid (by rw [HS.out, he]; simp)
              clear he
              go_wp2_with fail
              go_roundw
              case rel => exact ⟨t + 1, true, by omega, by go_num, rfl, HN1, (by first | rfl | trivial)⟩
              case measure => simp [intOf]; omega
            · have b2 : (el piv t == (j : Int)) = false := by simp [he]
              have HN1 : Hid (false = (piv.take (t + 1)).contains (j : Int)) := Lib.hid (by
                rw [HS.out, ← HQ.out]
                have : ((j : Int) == el piv t) = false := beq_eq_false_iff_ne.2 (fun e => he e.symm)
                rw [this]; rfl)
              clear he
              go_wp2_with fail
              go_roundw
              case rel => exact ⟨t + 1, false, by omega, by go_num, rfl, HN1, (by first | rfl | trivial)⟩
              case measure => simp [intOf]; omega
          · have HN1 : Hid (true = (piv.take (t + 1)).contains (j : Int)) := Lib.hid (by rw [HS.out, ← HQ.out]; rfl)
            go_wp2_with fail
            go_roundw
            case rel => exact ⟨t + 1, true, by omega, by go_num, rfl, HN1, (by first | rfl | trivial)⟩
            case measure => simp [intOf]; omega
        · obtain rfl : t = m := by omega
          have J2 : ¬ (t : Int) < (t : Int) := by omega
          have HQ2 : Hid (q = piv.contains (j : Int)) := Lib.hid (by rw [HQ.out, List.take_of_length_le (by rw [HL.out]; omega)])
          clear HQ
          cases q
          · have hsz := HJ.out.2.size
            have hfl : (freeI piv i j).length ≤ 1000 := by
              have : (freeI piv i j).length ≤ j := by
                unfold freeI; rw [List.length_map]; exact Nat.le_trans (List.length_filter_le _ _) (by simp)
              omega
            have HX : Hid (freeI piv i (j + 1) = freeI piv i j ++ [(j : Int)]) := Lib.hid (by rw [HSU.out, ← HQ2.out]; rfl)
            go_wp2_with (at_builtin; refine wpList_push rfl (.tmp 39) (.tmp 41) 52 rfl w.heap.size 2 (.int .i64 0) 8 Try.underlying52 Try.info2 rfl (by decide) (.int .i64 j) rfl _ _ _ _ rfl rfl (by exact HJ.out.1) (by omega) (by exact hsz) ?_; rintro a4 c4 w4 r4 q4 g4; have HNB : Hid (Below w.heap.size w w4) := Lib.hid (HJ.out.2.trans (g4.below hsz (fun k hk hx => by obtain ⟨p, hp, e⟩ := hx; have := (HJ.out.1.block p hp).1; omega))); have HN := Lib.hid (OwnI.pushed r4); clear r4 q4 g4)
            have HLEN : Hid ((freeI piv i (j + 1)).length = (freeI piv i j).length + 1) := Lib.hid (by rw [HX.out]; simp)
            go_wp2_with fail
            go_roundw
            case rel => exact ⟨j + 1, a4, c4, by omega, by omega, by go_num, by rw [HLEN.out], Lib.hid ⟨by rw [HLEN.out, HX.out]; exact HN.out, HNB.out⟩⟩
            case measure => simp [intOf]; omega
          · have HX : Hid (freeI piv i (j + 1) = freeI piv i j) := Lib.hid (by rw [HSU.out, ← HQ2.out]; simp)
            go_wp2_with fail
            go_roundw
            case rel => exact ⟨j + 1, a2, c2, by omega, by omega, by go_num, by rw [HX.out], Lib.hid (by rw [HX.out]; exact HJ.out)⟩
            case measure => simp [intOf]; omega
    · obtain rfl : j = n := by omega
      have J1 : ¬ (j : Int) < (j : Int) := by omega
      go_wp2_with fail
      go_ret
      exact ⟨a2, c2, rfl, HJ.out⟩
end Go.Proofs.Ytpkdgemnddcefaa
