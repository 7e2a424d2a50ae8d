/- The reference's insertion sort of prime powers. -/
import Derived.Test.YtgdialknnjnehaaPpP
import Derived.Test.YtgdialknnjnehaaRowW
import Derived.BigQuiet
set_option linter.unusedVariables false
set_option linter.unusedSimpArgs false
namespace Go.Proofs.Ytgdialknnjnehaa
open Go.RowKit

/-- two neighbours exchanged -/
def swapN (L : List Int) (j : Nat) : List Int := (L.set j (el L (j - 1))).set (j - 1) (el L j)
theorem swapN_len (L : List Int) (j : Nat) : (swapN L j).length = L.length := by simp [swapN]
theorem swapN_el {L : List Int} {j : Nat} (h1 : 1 ≤ j) (h2 : j < L.length) (i : Nat) : el (swapN L j) i = if i = j - 1 then el L j else if i = j then el L (j - 1) else el L i := by
  unfold swapN
  rw [el_set (by simp; omega), el_set h2]
theorem swapN_perm {L : List Int} {j : Nat} (h1 : 1 ≤ j) (h2 : j < L.length) : (swapN L j).Perm L := by
  obtain ⟨k, rfl⟩ : ∃ k, j = k + 1 := ⟨j - 1, by omega⟩
  have e1 : L = L.take k ++ (el L k :: el L (k + 1) :: L.drop (k + 2)) := by
    conv => lhs; rw [← List.take_append_drop k L]
    congr 1
    rw [List.drop_eq_getElem_cons (show k < L.length by omega), List.drop_eq_getElem_cons h2, el_eq (by omega), el_eq h2]
  have e2 : swapN L (k + 1) = L.take k ++ (el L (k + 1) :: el L k :: L.drop (k + 2)) := by
    refine list_ext ?_ fun i hi => ?_
    · rw [swapN_len]
      conv => lhs; rw [e1]
      simp
    · rw [swapN_len] at hi
      rw [swapN_el h1 h2]
      have hk : (L.take k).length = k := by simp; omega
      have g : el L i = el (L.take k ++ (el L k :: el L (k + 1) :: L.drop (k + 2))) i := by rw [← e1]
      unfold el at g ⊢
      by_cases c1 : i < k
      · rw [if_neg (by omega), if_neg (by omega), g, List.getElem?_append_left (by omega), List.getElem?_append_left (by omega)]
      · rw [List.getElem?_append_right (by omega), hk]
        rw [List.getElem?_append_right (by omega), hk] at g
        by_cases c2 : i = k
        · subst c2; simp
        · by_cases c3 : i = k + 1
          · subst c3; simp
          · rw [if_neg (by omega), if_neg (by omega), g]
            obtain ⟨d, rfl⟩ : ∃ d, i = k + 2 + d := ⟨i - k - 2, by omega⟩
            rw [show k + 2 + d - k = d + 2 by omega]
            simp
  rw [e2]
  conv => rhs; rw [e1]
  exact List.Perm.append_left _ (List.Perm.swap _ _ _)
/-- the first i + 1 are in order, but the one at j may still have to go down -/
structure Ins (xs L : List Int) (i j : Nat) : Prop where
  perm : L.Perm xs
  le : ∀ a b, a < b → b ≤ i → b ≠ j → leP (el L a) (el L b) = true
theorem Ins.step {xs L : List Int} {i j : Nat} (h : Ins xs L i j) (h1 : 1 ≤ j) (hj : j ≤ i) (hi : i < L.length) (hb : ¬ leP (el L (j - 1)) (el L j) = true) : Ins xs (swapN L j) i (j - 1) := by
  refine ⟨(swapN_perm h1 (by omega)).trans h.perm, fun a b hab hbi hne => ?_⟩
  have hle : leP (el L j) (el L (j - 1)) = true := by
    have := leP_tot (el L (j - 1)) (el L j)
    rw [Bool.or_eq_true] at this
    rcases this with h | h
    · exact absurd h hb
    · exact h
  rw [swapN_el h1 (by omega), swapN_el h1 (by omega)]
  rw [if_neg (show ¬ b = j - 1 from hne)]
  by_cases c1 : b = j
  · rw [if_pos c1]
    by_cases c2 : a = j - 1
    · rw [if_pos c2]; exact hle
    · rw [if_neg c2, if_neg (by omega)]; exact h.le a (j - 1) (by omega) (by omega) (by omega)
  · rw [if_neg c1]
    by_cases c2 : a = j - 1
    · rw [if_pos c2]; exact h.le j b (by omega) hbi (by omega)
    · rw [if_neg c2]
      by_cases c3 : a = j
      · rw [if_pos c3]; exact h.le (j - 1) b (by omega) hbi (by omega)
      · rw [if_neg c3]; exact h.le a b hab hbi (by omega)
theorem Ins.done {xs L : List Int} {i j : Nat} (h : Ins xs L i j) (hj : j ≤ i) (hb : j = 0 ∨ leP (el L (j - 1)) (el L j) = true) : ∀ a b, a < b → b ≤ i → leP (el L a) (el L b) = true := by
  intro a b hab hbi
  by_cases c : b = j
  · subst c
    rcases hb with hb | hb
    · omega
    · by_cases c2 : a = b - 1
      · subst c2; exact hb
      · exact leP_trans _ _ _ (h.le a (b - 1) (by omega) (by omega) (by omega)) hb
  · exact h.le a b hab hbi c
theorem sorted_of {xs L : List Int} (h : L.Perm xs) (hle : ∀ a b, a < b → b + 1 ≤ L.length → leP (el L a) (el L b) = true) : L = sortP xs := by
  refine sortP_eq h ?_
  rw [List.pairwise_iff_getElem]
  intro a b ha hb hab
  have := hle a b hab hb
  rwa [el_eq ha, el_eq hb] at this
set_option maxRecDepth 20000 in
set_option maxHeartbeats 2000000 in
theorem l05Sorted_any (a : Option Addr) (n c : Nat) (xs : List Int) (w : World) (ha : RdI w a xs) (hl : xs.length = n) (hn : n ≤ 1048576) (hx : ∀ x ∈ xs, isPP x) :
    Calls Try.prog 73 #[.slice a n c] w fun e w' => ∃ a' c', e = .returned (.slice a' n c') ∧ OwnI 2 w' w.heap.size a' n c' (sortP xs) ∧ Below w.heap.size w w' := by
  have HA := Lib.hid ha
  have HL := Lib.hid hl
  have HX := Lib.hid hx
  clear ha hl hx
  go_enter Try.func73, Try.ntmps73
  go_wp2_with fail
  refine (l01Own_any a n c xs w HA.out HL.out hn).mono ?_
  rintro e w1 ⟨a1, c1, rfl, ho, hb⟩
  have HO1 := Lib.hid ho
  have HB1 := Lib.hid hb
  clear ho hb
  by_cases h2 : n < 2
  · have HS : Hid (xs = sortP xs) := Lib.hid (sorted_of (List.Perm.refl _) (fun a b hab hb => by have := HL.out; omega))
    have HF : Hid (OwnI 2 w1 w.heap.size a1 n c1 (sortP xs)) := Lib.hid (by rw [← HS.out]; exact HO1.out)
    have d1 : ¬ (1 : Int) < n := by omega
    have d2 : decide ((1 : Int) < n) = false := decide_eq_false d1
    have d3 : decide (1 < n) = false := decide_eq_false (by omega)
    go_wp2_with fail
    refine wp_loop_rounds 1 ?_
    rw [rounds_succ]
    go_wp2_with fail
    go_ret
    exact ⟨a1, c1, rfl, HF.out, HB1.out⟩
  obtain ⟨g, rfl⟩ := HO1.out.addr (by omega)
  go_wp2_with fail
  go_loopw [4] (fun i wr => ∃ (k : Nat) (L : List Int), i = .int .i64 k ∧ 1 ≤ k ∧ k ≤ n ∧ Hid (OwnI 2 wr w.heap.size (some ⟨g, 0, none⟩) n c1 L ∧ Below w.heap.size w wr ∧ L.Perm xs ∧ ∀ a b, a < b → b + 1 ≤ k → leP (el L a) (el L b) = true)) (fun i _ => n - (intOf i).toNat)
  case atStart => exact ⟨1, xs, rfl, by omega, by omega, Lib.hid ⟨HO1.out, HB1.out, List.Perm.refl _, fun a b h1 h2 => by omega⟩⟩
  case round =>
    obtain ⟨k, L, rfl, hk1, hkn, HR⟩ := hrel
    clear HO1 HB1
    by_cases hlt : k < n
    · have d1 : (k : Int) < n := by omega
      have d2 : decide ((k : Int) < n) = true := decide_eq_true d1
      have d3 : decide (k < n) = true := decide_eq_true hlt
      have HI : Hid (Ins xs L k k) := Lib.hid ⟨HR.out.2.2.1, fun a b h1 h2 h3 => HR.out.2.2.2 a b h1 (by omega)⟩
      obtain ⟨wo, rfl⟩ : ∃ x, x = wr := ⟨wr, rfl⟩
      go_wp2_with fail
      go_loopw [5, 6] (fun i u wr => ∃ (j : Nat) (M : List Int), i = .int .i64 j ∧ j ≤ k ∧ Hid (OwnI 2 wr w.heap.size (some ⟨g, 0, none⟩) n c1 M ∧ Below w.heap.size w wr ∧ Ins xs M k j)) (fun i _ _ => (intOf i).toNat)
      case atStart => exact ⟨k, L, rfl, Nat.le_refl _, Lib.hid ⟨HR.out.1, HR.out.2.1, HI.out⟩⟩
      case round =>
        obtain ⟨j, M, rfl, hjk, HM⟩ := hrel
        clear HI
        obtain ⟨wi, rfl⟩ : ∃ x, x = wr := ⟨wr, rfl⟩
        have hml := HM.out.1.len
        have HPP : Hid (∀ i, i < n → isPP (el M i)) := Lib.hid (fun i hi => HX.out _ (HM.out.2.2.perm.subset (el_mem (by omega))))
        by_cases hj0 : 0 < j
        · obtain ⟨j', rfl⟩ : ∃ j', j = j' + 1 := ⟨j - 1, by omega⟩
          have hj1 : j' + 1 < n := by omega
          have g1 : decide ((0 : Int) < (j' : Int) + 1) = true := decide_eq_true (by omega)
          have g2 : (0 : Int) < (j' : Int) + 1 := by omega
          have ca := HM.out.1.cellAt (i := j' + 1) hj1
          have cb := HM.out.1.cellAt (i := j') (by omega)
          have HA1 := Lib.hid (HPP.out (j' + 1) hj1)
          have HA2 := Lib.hid (HPP.out j' (by omega))
          have fa := HM.out.1.frozen (j' + 1)
          have fb := HM.out.1.frozen j'
          have i1 : (j' : Int) + 1 - 1 = j' := by omega
          have i2 : (j' : Int) + 1 < n := by omega
          have i3 : (j' : Int) < n := by omega
          obtain ⟨A, hA⟩ : ∃ A, A = el M (j' + 1) := ⟨_, rfl⟩
          obtain ⟨B, hB⟩ : ∃ B, B = el M j' := ⟨_, rfl⟩
          rw [← hA] at ca HA1
          rw [← hB] at cb HA2
          by_cases hle : leP B A = true
          · have hq : (!leP B A) = false := by rw [hle]; rfl
            have HD : Hid (∀ a b, a < b → b + 1 ≤ k + 1 → leP (el M a) (el M b) = true) := Lib.hid (fun a b h1 h2 => HM.out.2.2.done hjk (.inr (by rw [hA, hB] at hle; exact hle)) a b h1 (by omega))
            have HQ := Lib.hid hq
            clear hle hq hA hB
            go_wp2_with fail
            go_quiet ((go_at_call 83; exact quiet_eq (l05Before_any _ _ _ HA1.out HA2.out)))
            rw [HQ.out]
            go_wp2_with fail
            go_roundw
            case rel => exact ⟨k + 1, M, by go_num, by omega, by omega, Lib.hid ⟨HM.out.1, below_drewN' HM.out.2.1 _, HM.out.2.2.perm, HD.out⟩⟩
            case measure => simp [intOf]; omega
          · have hq : (!leP B A) = true := by simpa using hle
            have HS1 : Hid (∀ q, OwnI 2 (((wi.drewN q).setCell ⟨g, j' + 1, none⟩ (.int .i64 B)).setCell ⟨g, j', none⟩ (.int .i64 A)) w.heap.size (some ⟨g, 0, none⟩) n c1 (swapN M (j' + 1)) ∧ Below w.heap.size w (((wi.drewN q).setCell ⟨g, j' + 1, none⟩ (.int .i64 B)).setCell ⟨g, j', none⟩ (.int .i64 A))) := Lib.hid (fun q => by
              have h1 : OwnI 2 (wi.drewN q) w.heap.size (some ⟨g, 0, none⟩) n c1 M := HM.out.1.drewN q
              have hg := (HM.out.1.block _ rfl).1
              refine ⟨?_, ((below_drewN' HM.out.2.1 q).setCell (p := ⟨g, j' + 1, none⟩) hg _).setCell (p := ⟨g, j', none⟩) hg _⟩
              unfold swapN
              rw [show j' + 1 - 1 = j' by omega, ← hA, ← hB]
              exact (h1.set (k := j' + 1) hj1 B).set (k := j') (by omega) A)
            have HN : Hid (Ins xs (swapN M (j' + 1)) k j') := Lib.hid (by
              have := HM.out.2.2.step (by omega) hjk (by omega) (by rw [show j' + 1 - 1 = j' by omega, ← hA, ← hB]; exact hle)
              rwa [show j' + 1 - 1 = j' by omega] at this)
            have HQ := Lib.hid hq
            clear hle hq hA hB
            go_wp2_with fail
            go_quiet ((go_at_call 83; exact quiet_eq (l05Before_any _ _ _ HA1.out HA2.out)))
            rw [HQ.out]
            go_wp2_with fail
            go_roundw
            case rel => exact ⟨j', swapN M (j' + 1), by go_num, by omega, Lib.hid ⟨(HS1.out _).1, (HS1.out _).2, HN.out⟩⟩
            case measure => simp [intOf]
        · obtain rfl : j = 0 := by omega
          have HD : Hid (∀ a b, a < b → b + 1 ≤ k + 1 → leP (el M a) (el M b) = true) := Lib.hid (fun a b h1 h2 => HM.out.2.2.done hjk (.inl rfl) a b h1 (by omega))
          go_wp2_with fail
          go_quiet (fail)
          go_wp2_with fail
          go_roundw
          case rel => exact ⟨k + 1, M, by go_num, by omega, by omega, Lib.hid ⟨HM.out.1, below_drewN' HM.out.2.1 _, HM.out.2.2.perm, HD.out⟩⟩
          case measure => simp [intOf]; omega
    · have HS : Hid (OwnI 2 wr w.heap.size (some ⟨g, 0, none⟩) n c1 (sortP xs)) := Lib.hid (by
        have e : L = sortP xs := sorted_of HR.out.2.2.1 (fun a b h1 h2 => HR.out.2.2.2 a b h1 (by have := HR.out.1.len; omega))
        rw [← e]; exact HR.out.1)
      have d1 : ¬ (k : Int) < n := by omega
      have d2 : decide ((k : Int) < n) = false := decide_eq_false d1
      have d3 : decide (k < n) = false := decide_eq_false hlt
      go_wp2_with fail
      go_ret
      exact ⟨_, c1, rfl, HS.out, HR.out.2.1⟩
end Go.Proofs.Ytgdialknnjnehaa
