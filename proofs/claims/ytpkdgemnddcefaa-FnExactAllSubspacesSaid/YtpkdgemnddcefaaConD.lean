/- The library's slices.Concat at []int64: it draws only forwards. -/
import Derived.Test.YtpkdgemnddcefaaConcat
import Derived.Test.YtpkdgemnddcefaaPushD
set_option linter.unusedVariables false
set_option linter.unusedSimpArgs false
namespace Go.Proofs.Ytpkdgemnddcefaa
open Go.RowKit
theorem rd_add {w : World} {b o : Nat} {xs : List Int} (h : RdI w (some ⟨b, o, none⟩) xs) : ∀ j u, (xs.map (Value.int .i64))[j]? = some u → w.cell? ((⟨b, o, none⟩ : Addr).add j) = some u := fun j u hj => by
  have hj' : j < xs.length := by
    refine Nat.lt_of_not_le fun hle => ?_
    rw [List.getElem?_eq_none (by simpa using hle)] at hj
    cases hj
  obtain ⟨b', o', e, hc⟩ := h (by omega)
  injection e with e; injection e with e1 e2; subst e1; subst e2
  rw [add_at', hc j hj']
  rw [List.getElem?_map, el_get hj'] at hj
  exact hj
set_option maxHeartbeats 1000000 in
theorem grow_nilD (n : Nat) (w : World) (hn : n ≤ 1000000000) :
    Calls Try.prog 100 #[.slice none 0 0, .int .i64 n] w fun e w' => ∃ a c, e = .returned (.slice a 0 c) ∧ OwnI 2 w' w.heap.size a 0 c [] ∧ Below w.heap.size w w' ∧ w.drawn ≤ w'.drawn := by
  by_cases h0 : n = 0
  · subst h0
    go_enter Try.func100, Try.ntmps100
    go_wp2
    go_ret
    exact ⟨none, 0, rfl, OwnI.none, Below.refl _ _, Nat.le_refl _⟩
  · obtain ⟨i0, hi, hz0, hz1, hz2⟩ := info_parts Try.info2
    have hr := fun ty => Lib.run_append_nil_zeros (P := Try.prog) w 52 3 ty 2 i0 (.int .i64 0) .i64 .i64 Try.underlying52 Try.underlying3 hi hz0 n (by omega) (by omega) (by omega) (by rw [hz2]; omega)
    have hg := grownCap_ge w n 0 2
    have hG := grownCap_le_maxLen w n 0 2 (by unfold maxLen; omega)
    unfold maxLen at hG
    generalize grownCap w n 0 2 = G at hr hg hG
    have hn0 : 0 < n := by omega
    have hO : Hid (OwnI 2 (w.drew.alloc (.cells (Builtin.zeroCells (Value.int .i64 0).cells n ++ Builtin.zeroCells (Value.int .i64 0).cells (G - n)) 2)) w.heap.size (some ⟨w.heap.size, 0, none⟩) 0 G []) := Lib.hid (World.ownsRow_made w.drew _ G (Nat.le_refl _) hG (by simp [Builtin.zeroCells, show (Value.int .i64 0).cells.size = 1 from rfl]; omega))
    have HR := Lib.hid hr
    clear hi hz0 hz1 hz2 h0 hr
    go_enter Try.func100, Try.ntmps100
    go_wp2_with (at_builtin; refine wpList_appZ rfl (.tmp 20) (.tmp 21) 52 3 rfl n _ _ rfl rfl HR.out ?_)
    go_ret
    exact ⟨_, _, rfl, hO.out, ((Below.refl _ _).drew).alloc (Nat.le_refl _) _, drawn_al _ _⟩
set_option maxHeartbeats 1000000 in
theorem concat_anyD (a : Option Addr) (n c : Nat) (xss : List (List Int)) (w : World) (ha : RdR w a xss) (hl : xss.length = n) (hn : n ≤ 1048576) (hx : offs xss n ≤ 1048576) (h1 : ∀ i, i < n → 1 ≤ (rw_ xss i).length) :
    Calls Try.prog 77 #[.slice a n c] w fun e w' => ∃ a' c', e = .returned (.slice a' (offs xss n) c') ∧ OwnI 2 w' w.heap.size a' (offs xss n) c' (flat xss n) ∧ Below w.heap.size w w' ∧ w.drawn ≤ w'.drawn := by
  have HA := Lib.hid ha
  have HL := Lib.hid hl
  have H1 := Lib.hid h1
  clear ha hl h1
  go_enter Try.func77, Try.ntmps77
  go_wp2
  go_loop [11, 3] (fun i s => ∃ k : Nat, k ≤ n ∧ i = .int .i64 k ∧ s = .int .i64 (offs xss k)) (fun i _ => n - (intOf i).toNat)
  case atStart => exact ⟨0, Nat.zero_le _, rfl, rfl⟩
  case round =>
    obtain ⟨k, hk, rfl, rfl⟩ := hrel
    by_cases hlt : k < n
    · obtain ⟨b, o, rfl, hc⟩ := HA.out (by rw [HL.out]; omega)
      obtain ⟨ai, ci, d, r, _⟩ := hc k (by rw [HL.out]; exact hlt)
      have hof : offs xss k + (rw_ xss k).length ≤ offs xss n := offs_mono xss (show k + 1 ≤ n by omega)
      clear hc r
      go_wp2
      go_round
      case rel => exact ⟨k + 1, by omega, by go_num, by simp [offs]⟩
      case measure => simp [intOf]; omega
    · obtain rfl : k = n := by omega
      go_wp2_with fail
      refine (grow_nilD _ _ (by omega)).mono ?_
      rintro e w1 ⟨a1, c1, rfl, ho, hb, hd⟩
      have H0 : Hid (OwnI 2 w1 w.heap.size a1 (offs xss 0) c1 (flat xss 0) ∧ Below w.heap.size w w1 ∧ w.drawn ≤ w1.drawn) := Lib.hid ⟨ho, hb, hd⟩
      clear ho hb hd
      go_wp2_with fail
      go_loopw [27, 6] (fun i v wr => ∃ (j : Nat) (a2 : Option Addr) (c2 : Nat), j ≤ k ∧ i = .int .i64 j ∧ v = .slice a2 (offs xss j) c2 ∧ Hid (OwnI 2 wr w.heap.size a2 (offs xss j) c2 (flat xss j) ∧ Below w.heap.size w wr ∧ w.drawn ≤ wr.drawn)) (fun i _ _ => k - (intOf i).toNat)
      case atStart => exact ⟨0, a1, c1, Nat.zero_le _, rfl, rfl, H0⟩
      case round =>
        obtain ⟨j, a2, c2, hj, rfl, rfl, HJ⟩ := hrel
        clear H0
        by_cases hjt : j < k
        · obtain ⟨b, o, rfl, hc⟩ := (HA.out.keep HJ.out.2.1 (Nat.le_refl _)) (by rw [HL.out]; omega)
          obtain ⟨ai, ci, d, r, _⟩ := hc j (by rw [HL.out]; exact hjt)
          have hof : offs xss j + (rw_ xss j).length ≤ offs xss k := offs_mono xss (show j + 1 ≤ k by omega)
          have R := Lib.hid r
          have hr1 := H1.out j hjt
          obtain ⟨bi, oi, rfl, _⟩ := id r (by omega)
          have hsz := HJ.out.2.1.size
          clear hc r
          go_wp2_with (at_builtin; refine wpList_appD rfl (.tmp 31) (.tmp 32) 52 rfl w.heap.size 2 (.int .i64 0) 8 Try.underlying52 Try.info2 rfl (by decide) _ _ _ _ rfl ⟨bi, oi, none⟩ _ _ rfl (by exact HJ.out.1) ((rw_ xss j).map (Value.int .i64)) (by simp) (by exact rd_add R.out) (map_one _) (by omega) hr1 hsz ?_; rintro a4 c4 w4 r4 q4 g4 d4; have R4 := Lib.hid r4; have G4 := Lib.hid g4; have D4 : Hid (w.drawn ≤ w4.drawn) := Lib.hid (Nat.le_trans HJ.out.2.2 (by simpa using d4)); clear r4 q4 g4 d4)
          have HN : Hid (OwnI 2 w4 w.heap.size a4 (offs xss (j + 1)) c4 (flat xss (j + 1)) ∧ Below w.heap.size w w4 ∧ w.drawn ≤ w4.drawn) := Lib.hid ⟨OwnI.app R4.out, HJ.out.2.1.trans (G4.out.below hsz (fun m hm hx => by obtain ⟨x, hx, e⟩ := hx; have := (HJ.out.1.block x hx).1; omega)), D4.out⟩
          go_roundw
          case rel => exact ⟨j + 1, a4, c4, by omega, by go_num, rfl, HN⟩
          case measure => simp [intOf]; omega
        · obtain rfl : j = k := by omega
          go_wp2
          go_ret
          exact ⟨a2, c2, rfl, HJ.out⟩
theorem flat_flatten (xss : List (List Int)) : ∀ k, k ≤ xss.length → flat xss k = (xss.take k).flatten
  | 0, _ => by simp [flat]
  | k + 1, h => by
    rw [flat, flat_flatten xss k (by omega), List.take_add_one, rw_get (by omega), List.flatten_append]; simp
theorem flat_all {xss : List (List Int)} {n : Nat} (h : xss.length = n) : flat xss n = xss.flatten := by
  rw [flat_flatten xss n (by omega), List.take_of_length_le (by omega)]
end Go.Proofs.Ytpkdgemnddcefaa
