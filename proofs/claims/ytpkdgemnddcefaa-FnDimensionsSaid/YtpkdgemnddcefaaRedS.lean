/- The reference's rows modulo p: the leading entry, sums, multiples, and what the rows of a reduced form clear. -/
import Derived.Test.YtpkdgemnddcefaaRowOps
import Derived.Test.YtpkdgemnddcefaaIns
set_option linter.unusedVariables false
set_option linter.unusedSimpArgs false
namespace Go.Proofs.Ytpkdgemnddcefaa
open Go.RowKit

set_option maxHeartbeats 1000000 in
theorem l02Lead_any (a : Option Addr) (n c : Nat) (xs : List Int) (w : World) (ha : RdI w a xs) (hl : xs.length = n) (hn : n ≤ 1048576) :
    Calls Try.prog 84 #[.slice a n c] w fun e w' => ∃ k : Nat, e = .returned (.int .i64 k) ∧ IsLead xs k ∧ w = w' := by
  have HA := Lib.hid ha
  have HL := Lib.hid hl
  clear ha hl
  have H0 : Hid (∀ j, j < 0 → el xs j = 0) := Lib.hid fun j h => absurd h (by omega)
  go_enter Try.func84, Try.ntmps84
  go_wp2
  go_loop [3] (fun i => ∃ k : Nat, k ≤ n ∧ i = .int .i64 k ∧ Hid (∀ j, j < k → el xs j = 0)) (fun i => n - (intOf i).toNat)
  case atStart => exact ⟨0, Nat.zero_le _, rfl, H0⟩
  case round =>
    obtain ⟨k, hk, rfl, HK⟩ := hrel
    clear H0
    by_cases hlt : k < n
    · obtain ⟨b, o, rfl, hc⟩ := HA.out (by rw [HL.out]; omega)
      have d := hc k (by rw [HL.out]; exact hlt)
      clear hc
      by_cases hz : el xs k = 0
      · have HK1 : Hid (∀ j, j < k + 1 → el xs j = 0) := Lib.hid fun j hj => by
          by_cases he : j = k
          · subst he; exact hz
          · exact HK.out j (by omega)
        have b1 : (el xs k != 0) = false := by rw [hz]; rfl
        clear hz
        go_wp2
        go_round
        case rel => exact ⟨k + 1, by omega, by go_num, HK1⟩
        case measure => simp [intOf]; omega
      · have b1 : (el xs k != 0) = true := bne_iff_ne.2 hz
        have HZ := Lib.hid hz
        clear hz
        go_wp2
        go_ret
        exact ⟨k, rfl, ⟨by rw [HL.out]; omega, HK.out, fun _ => HZ.out⟩, rfl⟩
    · obtain rfl : n = k := by omega
      go_wp2
      go_ret
      exact ⟨n, rfl, ⟨by rw [HL.out]; exact Nat.le_refl _, HK.out, fun h => absurd h (by rw [HL.out]; omega)⟩, rfl⟩

set_option maxRecDepth 20000 in
set_option maxHeartbeats 2000000 in
theorem l02Add_any (a b : Option Addr) (n ca cb : Nat) (xs ys : List Int) (k p : Int) (w : World) (ha : RdI w a xs) (hb : RdI w b ys) (hl : xs.length = n) (hl2 : ys.length = n) (hn : n ≤ 1048576)
    (hp : 2 ≤ p) (hp7 : p ≤ 7) (hk1 : -1000 ≤ k) (hk2 : k ≤ 1000) (hx : ∀ j, j < n → 0 ≤ el xs j ∧ el xs j < p) (hy : ∀ j, j < n → 0 ≤ el ys j ∧ el ys j < p) :
    Calls Try.prog 87 #[.int .i64 p, .slice a n ca, .int .i64 k, .slice b n cb] w fun e w' => ∃ a' c', e = .returned (.slice a' n c') ∧ OwnI 2 w' w.heap.size a' n c' (addm p k xs ys) ∧ Below w.heap.size w w' := by
  have HA := Lib.hid ha
  have HL := Lib.hid hl
  have HL2 := Lib.hid hl2
  have HB := Lib.hid hb
  have HX := Lib.hid hx
  have HY := Lib.hid hy
  clear ha hb hl hl2 hx hy
  go_enter Try.func87, Try.ntmps87
  go_wp2_with fail
  refine (l01Own_any _ _ _ xs _ (by exact HA.out) HL.out hn).mono ?_
  rintro e w1 ⟨a1, c1, rfl, ho, hb1⟩
  have H0 : Hid (OwnI 2 w1 w.heap.size a1 n c1 (mixm p k xs ys 0) ∧ Below w.heap.size w w1) := Lib.hid ⟨by rw [mixm_zero]; exact ho, hb1⟩
  clear ho hb1
  go_wp2_with fail
  go_loopw [10] (fun i wr => ∃ j : Nat, j ≤ n ∧ i = .int .i64 j ∧ Hid (OwnI 2 wr w.heap.size a1 n c1 (mixm p k xs ys j) ∧ Below w.heap.size w wr)) (fun i _ => n - (intOf i).toNat)
  case atStart => exact ⟨0, Nat.zero_le _, rfl, H0⟩
  case round =>
    obtain ⟨i, hi, rfl, HC⟩ := hrel
    clear H0
    by_cases hlt : i < n
    · obtain ⟨g, rfl⟩ := HC.out.1.addr (by omega)
      have hg := (HC.out.1.block _ rfl).1
      have e1 := HC.out.1.cellAt hlt
      rw [mixm_el (by rw [HL.out]; exact hlt) (Nat.le_refl _)] at e1
      have e2 := HC.out.1.frozen i
      obtain ⟨b', o', rfl, hc⟩ := (HB.out.keep HC.out.2 (Nat.le_refl _)) (by rw [HL2.out]; omega)
      have e3 := hc i (by rw [HL2.out]; exact hlt)
      obtain ⟨x1, x2⟩ := HX.out i hlt
      obtain ⟨y1, y2⟩ := HY.out i hlt
      obtain ⟨z1, z2⟩ := prod_bd (k := k) (x := el ys i) hk1 hk2 (by omega) (by omega)
      have W1 : IntKind.i64.wrap (k * el ys i) = k * el ys i := IntWalk.i64_in _ (by omega)
      have W2 : IntKind.i64.wrap (el xs i + k * el ys i) = el xs i + k * el ys i := IntWalk.i64_in _ (by omega)
      have J1 : (i : Int) < (n : Int) := by omega
      have b1 : decide ((i : Int) < (n : Int)) = true := decide_eq_true J1
      have HN2 : Hid (OwnI 2 (wr.setCell ⟨g, i, none⟩ (.int .i64 ((el xs i + k * el ys i) % p))).drew w.heap.size (some ⟨g, 0, none⟩) n c1 (mixm p k xs ys (i + 1)) ∧ Below w.heap.size w (wr.setCell ⟨g, i, none⟩ (.int .i64 ((el xs i + k * el ys i) % p))).drew) := Lib.hid ⟨by have := HC.out.1.set hlt ((el xs i + k * el ys i) % p); rw [mixm_set (by rw [HL.out]; exact hlt)] at this; exact this, (HC.out.2.setCell (p := ⟨g, i, none⟩) hg _).drew⟩
      clear hc
      go_wp2
      go_still_tail 16, (by kernel_rfl)
      still_call ((l01Mod_any _ _ _ (by omega) (by omega) (by omega) (by omega)).mono fun _ _ h => ⟨h.1, h.2.symm⟩)
      repeat still_step
      refine wpStill_nil ?_
      change wpList _ _ _ _ _ wr.drew
      go_wp2
      go_roundw
      case rel => exact ⟨i + 1, by omega, by go_num, HN2⟩
      case measure => simp [intOf]; omega
    · obtain rfl : n = i := by omega
      have HM : Hid (OwnI 2 wr w.heap.size a1 n c1 (addm p k xs ys) ∧ Below w.heap.size w wr) := Lib.hid (by have := HC.out; rw [← mixm_full, HL.out]; exact this)
      go_wp2
      go_ret
      exact ⟨a1, c1, rfl, HM.out⟩

theorem addm_zeros {p k : Int} {v : List Int} : addm p k (tab v.length (fun _ => 0)) v = scalem p k v := by
  unfold addm scalem
  rw [tab_len]
  refine tab_congr fun j hj => ?_
  rw [el_tab hj, Int.zero_add, Int.mul_comm]
set_option maxHeartbeats 1000000 in
theorem l02Scale_any (b : Option Addr) (n cb : Nat) (ys : List Int) (k p : Int) (w : World) (hb : RdI w b ys) (hl2 : ys.length = n) (hn : n ≤ 1048576)
    (hp : 2 ≤ p) (hp7 : p ≤ 7) (hk1 : -1000 ≤ k) (hk2 : k ≤ 1000) (hy : ∀ j, j < n → 0 ≤ el ys j ∧ el ys j < p) :
    Calls Try.prog 85 #[.int .i64 p, .int .i64 k, .slice b n cb] w fun e w' => ∃ a' c', e = .returned (.slice a' n c') ∧ OwnI 2 w' w.heap.size a' n c' (scalem p k ys) ∧ Below w.heap.size w w' := by
  have hmk := run_make_row' (P := Try.prog) 52 2 (.int .i64 0) 8 Try.underlying52 Try.info2 rfl .i64 .i64 n (by omega) (by omega)
  have HL2 := Lib.hid hl2
  have HB := Lib.hid hb
  have HY := Lib.hid hy
  have HM := Lib.hid (OwnI.made w 2 n (by unfold maxLen; omega))
  clear hb hl2 hy
  go_enter Try.func85, Try.ntmps85
  go_wp2_with fail
  refine (l02Add_any _ _ n _ _ (tab n (fun _ => 0)) ys _ _ _ (by exact HM.out.rd) (by exact HB.out.alloc _) (tab_len _ _) HL2.out hn hp hp7 hk1 hk2 (fun j hj => by rw [el_tab hj]; omega) HY.out).mono ?_
  rintro e w1 ⟨a1, c1, rfl, ho, hb1⟩
  have HO : Hid (OwnI 2 w1 w.heap.size a1 n c1 (scalem p k ys)) := Lib.hid (by have h := ho.mono (B' := w.heap.size) (by simp); rw [show n = ys.length from HL2.out.symm, addm_zeros] at h; rw [HL2.out] at h; exact h)
  have HB1 : Hid (Below w.heap.size w w1) := Lib.hid (below_al1 hb1)
  clear ho hb1 hmk
  go_wp2_with fail
  go_ret
  exact ⟨a1, c1, rfl, HO.out, HB1.out⟩
end Go.Proofs.Ytpkdgemnddcefaa
