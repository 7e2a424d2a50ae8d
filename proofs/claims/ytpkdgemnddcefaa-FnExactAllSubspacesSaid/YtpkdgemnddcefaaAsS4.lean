/- The reference's AllSubspaces. -/
import Derived.Test.YtpkdgemnddcefaaAsS3
import Derived.Test.YtpkdgemnddcefaaGauss
import Derived.Laws.Shifts
set_option linter.unusedVariables false
set_option linter.unusedSimpArgs false
namespace Go.Proofs.Ytpkdgemnddcefaa
open Go.RowKit
theorem foldl_cnt (p n : Nat) : ∀ (l : List (List Int)) (acc : Nat), (l.map fun c => p ^ freeN c n c.length).foldl (· + ·) acc = acc + (l.flatMap (matsD p n)).length
  | [], acc => by simp
  | c :: l, acc => by
    rw [List.map_cons, List.foldl_cons, foldl_cnt p n l, List.flatMap_cons, List.length_append]
    unfold matsD
    rw [List.length_map, List.length_range]; omega
theorem implQ_len (p n k : Nat) : (implQ p n k).length = cntS p n k := by
  unfold cntS implQ
  rw [foldl_cnt]; omega
theorem specQ_succ (p n k s : Nat) : specQ p n k (s + 1) = specQ p n k s ++ if (bitsL n s).length = k then matsD p n (bitsL n s) else [] := by
  unfold specQ
  rw [setsL, List.flatMap_append]
  by_cases h : (bitsL n s).length = k
  · rw [if_pos h, if_pos h]; simp
  · rw [if_neg h, if_neg h]; simp
theorem specQ_mono (p n k : Nat) {s t : Nat} (h : s ≤ t) : (specQ p n k s).length ≤ (specQ p n k t).length := by
  induction h with
  | refl => exact Nat.le_refl _
  | step _ ih => rw [specQ_succ, List.length_append]; omega
theorem specL_succ (p n k s : Nat) : specL p n k (s + 1) = if (bitsL n s).length = k then insF p n (bitsL n s) (specL p n k s) (p ^ freeN (bitsL n s) n k) else specL p n k s := by
  unfold specL
  rw [specQ_succ, List.foldl_append]
  by_cases h : (bitsL n s).length = k
  · rw [if_pos h, if_pos h, ← insF_all, h]
  · rw [if_neg h, if_neg h]; rfl
theorem specL_len (p n k s : Nat) : (specL p n k s).length = (specQ p n k s).length := (specL_perm p n k s).length_eq
theorem specQ_small {p n k s : Nat} (hp : GP (p : Int)) (hn : n ≤ 8) (hk : k ≤ n) (hg : gauss p n k ≤ 200) (hs : s ≤ 2 ^ n) : (specQ p n k s).length ≤ 200 := by
  have h1 := specQ_mono p n k hs
  have h2 : (specQ p n k (2 ^ n)).length = (implQ p n k).length := ((sets_perm hn hk).flatMap_right (matsD p n)).length_eq
  rw [implQ_len] at h2
  have := cnt_small hp hn hk hg
  omega
theorem pow_small {p n k s : Nat} (hp : GP (p : Int)) (hn : n ≤ 8) (hk : k ≤ n) (hg : gauss p n k ≤ 200) (hs : s < 2 ^ n) (hl : (bitsL n s).length = k) : p ^ freeN (bitsL n s) n k ≤ 200 := by
  have h1 := specQ_small (s := s + 1) hp hn hk hg (by omega)
  rw [specQ_succ, if_pos hl, List.length_append] at h1
  unfold matsD at h1
  rw [List.length_map, List.length_range, hl] at h1
  omega
theorem bitsL_succ (n s : Nat) : bitsL (n + 1) s = bitsL n s ++ if s / 2 ^ n % 2 = 1 then [(n : Int)] else [] := by
  unfold bitsL
  rw [List.range_succ, List.filter_append, List.map_append]
  congr 1
  by_cases h : s / 2 ^ n % 2 = 1
  · rw [List.filter_cons_of_pos (by simpa using h), if_pos h]; rfl
  · rw [List.filter_cons_of_neg (by simpa using h), if_neg h]; rfl
theorem bitsL_mem {n s : Nat} {c : Int} (h : c ∈ bitsL n s) : 0 ≤ c ∧ c < n := by
  obtain ⟨j, hj, rfl⟩ := List.mem_map.1 h
  have : j < n := by simpa using (List.mem_filter.1 hj).1
  omega
theorem bitsL_le (n s : Nat) : (bitsL n s).length ≤ n := by
  unfold bitsL; rw [List.length_map]; exact Nat.le_trans (List.length_filter_le _ _) (by simp)
theorem bitsL_pv {n s k : Nat} (hl : (bitsL n s).length = k) (hk : k ≤ n) (hn : n ≤ 8) : PvS (bitsL n s) n k :=
  ⟨hl, fun i hi => (bitsL_mem (el_mem (by omega))).1, fun i hi => (bitsL_mem (el_mem (by omega))).2, by omega, hn⟩
theorem bit_t (s j : Nat) : (((s : Int) / (2 : Int) ^ j).tmod 2 == 1) = decide (s / 2 ^ j % 2 = 1) := by
  have e : ((s : Int) / (2 : Int) ^ j) = ((s / 2 ^ j : Nat) : Int) := by rw [Int.natCast_ediv, Int.natCast_pow]; rfl
  rw [e]
  generalize s / 2 ^ j = x
  rw [Int.tmod_eq_emod_of_nonneg (by omega)]
  by_cases h : x % 2 = 1
  · rw [decide_eq_true h]; exact beq_iff_eq.2 (by omega)
  · rw [decide_eq_false h]; exact beq_eq_false_iff_ne.2 (by omega)
set_option maxRecDepth 20000 in
set_option maxHeartbeats 4000000 in
theorem spec_AllSubspaces_ok (p n k : Nat) (w : World) (hp : GP (p : Int)) (hn : n ≤ 8) (hk : k ≤ n) (hg : gauss p n k ≤ 200) :
    Calls Try.prog 14 #[.int .i64 (p : Int), .int .i64 n, .int .i64 k] w fun e w' => ∃ a c, e = .returned (.tuple #[.slice a (specL p n k (2 ^ n)).length c, .int .i64 0]) ∧ RdM w' a (specL p n k (2 ^ n)).length (fun _ => (p : Int)) (fun _ => (n : Int)) (specL p n k (2 ^ n)) ∧ Below w.heap.size w w' := by
  have HP := Lib.hid hp
  have hpb := hp.bd
  have HG := Lib.hid hg
  obtain ⟨N2, hN2⟩ : ∃ x, x = 2 ^ n := ⟨_, rfl⟩
  have h2n : N2 ≤ 256 := by rw [hN2]; exact Nat.le_trans (Nat.pow_le_pow_right (by omega) hn) (by decide)
  have SH : IntKind.i64.wrap ((2 : Int) ^ n) = (N2 : Int) := by
    have e : ((2 : Int) ^ n) = (N2 : Int) := by rw [hN2]; exact (Int.natCast_pow 2 n).symm
    rw [e]; exact IntWalk.i64_in _ (by omega)
  have HN2 := Lib.hid hN2
  rw [← hN2]
  clear hp hN2
  go_enter Try.func14, Try.ntmps14
  go_wp2_with fail
  refine (spec_CountSubspaces_ok (p : Int) n k w HP.out hn hk).mono ?_
  rintro e w1 ⟨rfl, hb⟩
  have HB1 := Lib.hid hb
  obtain ⟨gq, hgq⟩ : ∃ x, x = gauss p n k := ⟨_, rfl⟩
  rw [← hgq] at hg ⊢
  have hg2 : ¬ gq > 200 := by omega
  have hg3 : ¬ 200 < gq := by omega
  clear hgq hb
  have H0 : Hid (RdM (w1.alloc (.cells #[] 26)) (some ⟨w1.heap.size, 0, none⟩) (specL p n k 0).length (fun _ => (p : Int)) (fun _ => (n : Int)) (specL p n k 0) ∧ Below w.heap.size w (w1.alloc (.cells #[] 26))) := Lib.hid ⟨fun h => absurd h (by simp [specL, specQ, setsL]), HB1.out.alloc HB1.out.size _⟩
  have H00 : Hid ((specL p n k 0).length = 0) := Lib.hid (by simp [specL, specQ, setsL])
  go_wp2_with fail
  go_loopw [11, 10] (fun x v wr => ∃ (s : Nat) (a : Option Addr) (c : Nat), s ≤ N2 ∧ x = .int .i64 s ∧ v = .slice a (specL p n k s).length c ∧ Hid (RdM wr a (specL p n k s).length (fun _ => (p : Int)) (fun _ => (n : Int)) (specL p n k s) ∧ Below w.heap.size w wr)) (fun x _ _ => N2 - (intOf x).toNat)
  case atStart => exact ⟨0, _, _, Nat.zero_le _, rfl, by rw [H00.out], H0⟩
  case round =>
    obtain ⟨s, a, c, hs, rfl, rfl, HX⟩ := hrel
    obtain ⟨wo, rfl⟩ : ∃ x, x = wr := ⟨wr, rfl⟩
    clear H0 H00
    by_cases hst : s < N2
    · have J1 : (s : Int) < (N2 : Int) := by omega
      have HO0 : Hid (OwnI 2 (wo.alloc (.cells #[] 2)) wo.heap.size (some ⟨wo.heap.size, 0, none⟩) (bitsL 0 s).length 0 (bitsL 0 s) ∧ Below wo.heap.size wo (wo.alloc (.cells #[] 2))) := Lib.hid ⟨OwnI.empty wo _, (Below.refl _ _).alloc (Nat.le_refl _) _⟩
      go_wp2_with fail
      go_loopw [13, 12] (fun i v wr => ∃ (j : Nat) (aj : Option Addr) (cj : Nat), j ≤ n ∧ i = .int .i64 j ∧ v = .slice aj (bitsL j s).length cj ∧ Hid (OwnI 2 wr wo.heap.size aj (bitsL j s).length cj (bitsL j s) ∧ Below wo.heap.size wo wr)) (fun i _ _ => n - (intOf i).toNat)
      case atStart => exact ⟨0, _, 0, Nat.zero_le _, rfl, rfl, HO0⟩
      case round =>
        obtain ⟨j, aj, cj, hj, rfl, rfl, HJ⟩ := hrel
        obtain ⟨wj, rfl⟩ : ∃ x, x = wr := ⟨wr, rfl⟩
        clear HO0
        by_cases hjn : j < n
        · have J2 : (j : Int) < (n : Int) := by omega
          have HBS := Lib.hid (bitsL_succ j s)
          have hbl := bitsL_le j s
          by_cases hbit : s / 2 ^ j % 2 = 1
          · have TB : (((s : Int) / (2 : Int) ^ j).tmod 2 == 1) = true := by rw [bit_t, decide_eq_true hbit]
            have HBE : Hid (bitsL (j + 1) s = bitsL j s ++ [(j : Int)]) := Lib.hid (by rw [HBS.out, if_pos hbit])
            have HLE : Hid ((bitsL (j + 1) s).length = (bitsL j s).length + 1) := Lib.hid (by rw [HBE.out]; simp)
            have hsz := HJ.out.2.size
            clear hbit
            go_wp2_with (at_builtin; refine wpList_push rfl (.tmp 46) (.tmp 48) 52 rfl wo.heap.size 2 (.int .i64 0) 8 Try.underlying52 Try.info2 rfl (by decide) (.int .i64 j) rfl _ _ _ _ rfl rfl (by exact HJ.out.1) (by omega) (by exact hsz) ?_; rintro a4 c4 w4 r4 q4 g4; have HNB : Hid (Below wo.heap.size wo w4) := Lib.hid (HJ.out.2.trans (g4.below hsz (fun k hk hx => by obtain ⟨p, hp, e⟩ := hx; have := (HJ.out.1.block p hp).1; omega))); have HN := Lib.hid (OwnI.pushed r4); clear r4 q4 g4)
            go_wp2_with fail
            go_roundw
            case rel => exact ⟨j + 1, a4, c4, by omega, by go_num, by rw [HLE.out], Lib.hid ⟨by rw [HLE.out, HBE.out]; exact HN.out, HNB.out⟩⟩
            case measure => simp [intOf]; omega
          · have TB : (((s : Int) / (2 : Int) ^ j).tmod 2 == 1) = false := by rw [bit_t, decide_eq_false hbit]
            have HBE : Hid (bitsL (j + 1) s = bitsL j s) := Lib.hid (by rw [HBS.out, if_neg hbit]; simp)
            clear hbit
            go_wp2_with fail
            go_roundw
            case rel => exact ⟨j + 1, aj, cj, by omega, by go_num, by rw [HBE.out], Lib.hid (by rw [HBE.out]; exact HJ.out)⟩
            case measure => simp [intOf]; omega
        · obtain rfl : j = n := by omega
          have J2 : ¬ (j : Int) < (j : Int) := by omega
          have HSU := Lib.hid (specL_succ p j k s)
          have HBX : Hid (Below w.heap.size w wj) := Lib.hid (HX.out.2.trans (HJ.out.2.mono HX.out.2.size))
          have HRX := Lib.hid (HX.out.1.keep HJ.out.2 (Nat.le_refl _))
          have hll : (specL p j k s).length ≤ 200 := by rw [specL_len]; exact specQ_small HP.out hn hk HG.out (by rw [← HN2.out]; omega)
          by_cases hlk : (bitsL j s).length = k
          · have HPV := Lib.hid (bitsL_pv hlk hk hn)
            have HPS := Lib.hid (pow_small HP.out hn hk HG.out (by rw [← HN2.out]; omega) hlk)
            have HSE : Hid (specL p j k (s + 1) = insF p j (bitsL j s) (specL p j k s) (p ^ freeN (bitsL j s) j k)) := Lib.hid (by rw [HSU.out, if_pos hlk])
            have HLN : Hid ((specL p j k (s + 1)).length = (specL p j k s).length + p ^ freeN (bitsL j s) j k) := Lib.hid (by rw [HSE.out, insF_len])
            have HRB := Lib.hid HJ.out.1.rd
            rw [hlk] at HJ ⊢
            have b1 : ((k : Int) == (k : Int)) = true := by simp
            clear HJ HX hlk
            go_wp2_with fail
            refine (l03Fill_any a aj (specL p j k s).length c k cj j p (specL p j k s) (bitsL j s) wj (by exact HRX.out) (by exact HRB.out) rfl HPV.out (fun m hm => specQ_sh ((specL_perm p j k s).mem_iff.1 hm)) (by omega) (by omega) HPS.out (by omega)).mono ?_
            rintro e w7 ⟨a7, c7, rfl, hr7, hb7⟩
            have HN : Hid (RdM w7 a7 (specL p j k (s + 1)).length (fun _ => (p : Int)) (fun _ => (j : Int)) (specL p j k (s + 1)) ∧ Below w.heap.size w w7) := Lib.hid ⟨by rw [HLN.out, HSE.out]; exact hr7, HBX.out.trans (hb7.mono HBX.out.size)⟩
            rw [← HLN.out]
            clear hr7 hb7
            go_wp2_with fail
            go_roundw
            case rel => exact ⟨s + 1, a7, c7, by omega, by go_num, rfl, HN⟩
            case measure => simp [intOf]; omega
          · have b1 : (((bitsL j s).length : Int) == (k : Int)) = false := beq_eq_false_iff_ne.2 (by omega)
            have HSE : Hid (specL p j k (s + 1) = specL p j k s) := Lib.hid (by rw [HSU.out, if_neg hlk])
            clear hlk
            go_wp2_with fail
            go_roundw
            case rel => exact ⟨s + 1, a, c, by omega, by go_num, by rw [HSE.out], Lib.hid (by rw [HSE.out]; exact ⟨HRX.out, HBX.out⟩)⟩
            case measure => simp [intOf]; omega
    · obtain rfl : s = N2 := by omega
      have J1 : ¬ (s : Int) < (s : Int) := by omega
      go_wp2_with fail
      go_ret2
      exact ⟨a, ⟨c, rfl⟩, HX.out.1, HX.out.2⟩
end Go.Proofs.Ytpkdgemnddcefaa
