/- The text of an abelian group: what it says, and the reference's function. -/
import Derived.Test.YtfinngmohhnnoaaDoorDec
set_option linter.unusedVariables false
set_option linter.unusedSimpArgs false
namespace Go.Proofs.YtfinngmohhnnoaaDoor
open Go.RowKit
theorem el_of {xs : List Int} {i : Nat} (h : i < xs.length) : el xs i = xs[i] := by simp [el, h]
def sepX : List UInt8 := [32, 120, 32]
def wordF (x : Int) : List UInt8 := 67 :: Lib.decDigits x.toNat
def wordsL (xs : List Int) (r : Nat) : List (List UInt8) := xs.map wordF ++ List.replicate r [90]
def txt (xs : List Int) (r : Nat) : List UInt8 := if xs.length + r = 0 then [49] else Lib.join (wordsL xs r) sepX
theorem wordsL_len (xs : List Int) (r : Nat) : (wordsL xs r).length = xs.length + r := by simp [wordsL]
theorem wordsL_lt {xs : List Int} {r k : Nat} (h : k < xs.length) : (wordsL xs r)[k]? = some (wordF (el xs k)) := by
  unfold wordsL
  rw [List.getElem?_append_left (by simpa using h), List.getElem?_map, List.getElem?_eq_getElem h, el_of h]
  rfl
theorem wordsL_ge {xs : List Int} {r k : Nat} (h : k < r) : (wordsL xs r)[xs.length + k]? = some [90] := by
  unfold wordsL
  rw [List.getElem?_append_right (by simp)]
  simp [List.getElem?_replicate, h]
theorem wordsL_take {xs : List Int} {r : Nat} : (wordsL xs r).take (xs.length + r) = wordsL xs r := by rw [List.take_of_length_le (by rw [wordsL_len]; exact Nat.le_refl _)]
/-- the words up to k, each with the separator ahead -/
def upto (xs : List Int) (r k : Nat) : List UInt8 := Lib.joinTail sepX ((wordsL xs r).take k)
theorem upto_zero (xs : List Int) (r : Nat) : upto xs r 0 = [] := rfl
theorem upto_lt {xs : List Int} {r k : Nat} (h : k < xs.length) : upto xs r (k + 1) = upto xs r k ++ [32, 120, 32, 67] ++ Lib.decDigits (el xs k).toNat := by
  unfold upto
  rw [Lib.joinTail_take_succ _ _ _ _ (wordsL_lt h)]
  simp [sepX, wordF, List.append_assoc]
theorem upto_ge {xs : List Int} {r k : Nat} (h : k < r) : upto xs r (xs.length + k + 1) = upto xs r (xs.length + k) ++ [32, 120, 32, 90] := by
  unfold upto
  rw [Lib.joinTail_take_succ _ _ _ _ (wordsL_ge h)]
  simp [sepX, List.append_assoc]
theorem txt_upto {xs : List Int} {r : Nat} (h : xs.length + r ≠ 0) : 3 ≤ (upto xs r (xs.length + r)).length ∧ (upto xs r (xs.length + r)).drop 3 = txt xs r := by
  unfold upto txt
  rw [wordsL_take, if_neg h]
  obtain ⟨y, l, hl⟩ : ∃ y l, wordsL xs r = y :: l := by
    cases hw : wordsL xs r with
    | nil => have := wordsL_len xs r; rw [hw] at this; simp at this; omega
    | cons y l => exact ⟨y, l, rfl⟩
  rw [hl, Lib.join_cons]
  simp [Lib.joinTail, sepX]
/-- groups that have a text -/
structure Txt (xs : List Int) (r : Nat) : Prop where
  len : xs.length + r ≤ 10
  pos : ∀ i, i < xs.length → 0 ≤ el xs i ∧ el xs i ≤ 1000000
theorem Txt.of {xs : List Int} {r : Int} (h : abOk xs r) : ∃ k : Nat, r = k ∧ Txt xs k := by
  obtain ⟨k, hk⟩ : ∃ k : Nat, r = k := ⟨r.toNat, by have := h.1; omega⟩
  refine ⟨k, hk, ⟨by have := h.2.2.1; omega, fun i hi => ?_⟩⟩
  have := h.2.2.2 i hi
  exact ⟨by have := this.1; omega, this.2.1⟩
theorem upto_size {xs : List Int} {r : Nat} (h : Txt xs r) : ∀ k, k ≤ xs.length + r → (upto xs r k).length ≤ k * 1000100
  | 0, _ => by simp [upto_zero]
  | k + 1, hk => by
    have ih := upto_size h k (by omega)
    rcases Nat.lt_or_ge k xs.length with h1 | h1
    · rw [upto_lt h1]
      simp only [List.length_append, List.length_cons, List.length_nil]
      have h2 := decDigits_len (el xs k).toNat
      have h3 := h.pos k h1
      omega
    · obtain ⟨j, rfl⟩ : ∃ j, k = xs.length + j := ⟨k - xs.length, by omega⟩
      rw [upto_ge (by omega)]
      simp only [List.length_append, List.length_cons, List.length_nil]
      omega
set_option maxHeartbeats 800000 in
theorem spec_text_any (a : Option Addr) (n c : Nat) (xs : List Int) (r : Nat) (w : World) (ha : RdI w a xs) (hl : xs.length = n) (ht : Txt xs r) :
    Calls Tryd.prog 16 #[.agg #[.slice a n c, .int .i64 r]] w fun e w' => e = .returned (.string (bs (txt xs r))) ∧ Below w.heap.size w w' := by
  have HA := Lib.hid ha
  have HL := Lib.hid hl
  have HT := Lib.hid ht
  have hn10 : n ≤ 10 := by have := ht.len; omega
  have hr10 : r ≤ 10 := by have := ht.len; omega
  clear ha hl ht
  go_enter Tryd.func16, Tryd.ntmps16
  go_wp2_with fail
  have HW0 : Hid (AbW w (w.alloc (.cells #[.slice a n c, .int .i64 r] 28)) a n c r) := Lib.hid ⟨(Below.refl _ _).alloc (Nat.le_refl _) _, by simp, by simp⟩
  go_loopw [4, 3] (fun i o wr => ∃ (k : Nat) (s : ByteArray), k ≤ n ∧ i = .int .i64 k ∧ o = .string s ∧ Hid (s = bs (upto xs r k)) ∧ Hid (AbW w wr a n c r)) (fun i _ _ => n - (intOf i).toNat)
  case atStart => exact ⟨0, _, Nat.zero_le _, rfl, rfl, Lib.hid rfl, HW0⟩
  case round =>
    obtain ⟨k, s, hk, rfl, rfl, HS, HW⟩ := hrel
    clear HW0
    have p0 := HW.out.2.1
    have p1 := HW.out.2.2
    by_cases hlt : k < n
    · obtain ⟨b1, o1, hb1, hc⟩ := HA.out (by rw [HL.out]; omega)
      have c1 := (HA.out.keep HW.out.1 (Nat.le_refl _)) (by rw [HL.out]; omega)
      obtain ⟨b2, o2, hb2, hc2⟩ := c1
      subst hb1
      injection hb2 with hb2
      injection hb2 with q1 q2
      subst q1; subst q2
      have d1 := hc2 k (by rw [HL.out]; omega)
      have hk1 : (k : Int) < (n : Int) := by omega
      have hk2 : decide ((k : Int) < (n : Int)) = true := decide_eq_true hk1
      obtain ⟨x, hx⟩ : ∃ x : Nat, el xs k = x := ⟨(el xs k).toNat, by have := HT.out.pos k (by rw [HL.out]; omega); omega⟩
      have hx6 : x ≤ 1000000 := by have := HT.out.pos k (by rw [HL.out]; omega); omega
      rw [hx] at d1
      obtain ⟨d, hd⟩ : ∃ d, d = bs (Lib.decDigits x) := ⟨_, rfl⟩
      have hs1 : s.size ≤ k * 1000100 := by rw [HS.out, bs_size]; exact upto_size HT.out k (by rw [HL.out]; omega)
      have hd1 : d.size ≤ 1000001 := by rw [hd, bs_size]; have := decDigits_len x; omega
      have z1 : ¬ 9223372036854775807 < s.size + 4 := by omega
      have z2 : ¬ 9223372036854775807 < s.size + 4 + d.size := by omega
      have HN : Hid (s ++ ⟨#[32, 120, 32, 67]⟩ ++ d = bs (upto xs r (k + 1))) := Lib.hid (by
        rw [upto_lt (by rw [HL.out]; exact hlt), HS.out, hd, hx]
        rw [← bs_app, ← bs_app]
        rfl)
      have HD := Lib.hid hd
      clear hc hc2 hx hd hs1 hd1
      go_wp2_with (go_at_call 28; refine (l01Dec_any x hx6 _).mono ?_; rw [← HD.out]; rintro e w6 ⟨rfl, hb⟩; have HW6 : Hid (AbW w w6 _ n c r) := Lib.hid ⟨HW.out.1.trans (hb.mono HW.out.1.size), cell_below p0 hb, cell_below p1 hb⟩; clear hb)
      go_roundw
      case rel => exact ⟨k + 1, _, by omega, by go_num, rfl, HN, HW6⟩
      case measure => simp [intOf]; omega
    · obtain rfl : k = n := by omega
      have hk1 : ¬ (k : Int) < (k : Int) := by omega
      have hk2 : decide ((k : Int) < (k : Int)) = false := decide_eq_false hk1
      have HSN : Hid (s = bs (upto xs r (xs.length + 0))) := Lib.hid (by rw [HS.out, Nat.add_zero, HL.out])
      clear HS
      obtain ⟨w1, hw1⟩ : ∃ w1, w1 = wr := ⟨wr, rfl⟩
      subst hw1
      go_wp2_with fail
      go_loopw [5, 3] (fun i o wr => ∃ (j : Nat) (s : ByteArray), j ≤ r ∧ i = .int .i64 j ∧ o = .string s ∧ Hid (s = bs (upto xs r (xs.length + j))) ∧ Hid (AbW w wr a k c r)) (fun i _ _ => r - (intOf i).toNat)
      case atStart => exact ⟨0, _, Nat.zero_le _, rfl, rfl, HSN, HW⟩
      case round =>
        obtain ⟨j, s, hj, rfl, rfl, HS, HW⟩ := hrel
        have p0 := HW.out.2.1
        have p1 := HW.out.2.2
        by_cases hlt : j < r
        · have hj1 : (j : Int) < (r : Int) := by omega
          have hj2 : decide ((j : Int) < (r : Int)) = true := decide_eq_true hj1
          have hs1 : s.size ≤ 20002000 := by rw [HS.out, bs_size]; have := upto_size HT.out (xs.length + j) (by omega); have := HL.out; omega
          have z1 : ¬ 9223372036854775807 < s.size + 4 := by omega
          have HN : Hid (s ++ ⟨#[32, 120, 32, 90]⟩ = bs (upto xs r (xs.length + (j + 1)))) := Lib.hid (by
            rw [← Nat.add_assoc, upto_ge hlt, HS.out, ← bs_app]
            rfl)
          clear hs1
          go_wp2_with fail
          go_roundw
          case rel => exact ⟨j + 1, _, by omega, by go_num, rfl, HN, HW⟩
          case measure => simp [intOf]; omega
        · obtain rfl : j = r := by omega
          have hj1 : ¬ (j : Int) < (j : Int) := by omega
          have hj2 : decide ((j : Int) < (j : Int)) = false := decide_eq_false hj1
          by_cases hz : k + j = 0
          · have HE : Hid (bs (txt xs j) = ⟨#[49]⟩) := Lib.hid (by unfold txt; rw [if_pos (by rw [HL.out]; exact hz)]; rfl)
            have e1 : s.toList.isEmpty = true := by rw [HS.out, show xs.length + j = 0 by rw [HL.out]; exact hz, upto_zero, Lib.toList_data]; rfl
            clear hz
            go_wp2_with fail
            go_ret
            exact ⟨by rw [HE.out]; rfl, HW.out.1⟩
          · have hu := txt_upto (xs := xs) (r := j) (by rw [HL.out]; exact hz)
            have e2 : (3 : Int) ≤ (s.size : Int) := by rw [HS.out, bs_size]; omega
            have e1 : s.toList.isEmpty = false := by
              rw [Lib.toList_data]
              cases h : s.data.toList with
              | nil => have : s.size = 0 := by show s.data.size = 0; rw [← Array.length_toList, h]; rfl
                       omega
              | cons _ _ => rfl
            have HE : Hid (s.extract 3 s.size = bs (txt xs j)) := Lib.hid (by
              rw [← hu.2]
              apply ByteArray.ext
              apply Array.toList_inj.1
              rw [Lib.extract_data]
              rw [show s.size - 3 = s.data.toList.length - 3 by rw [Array.length_toList]; rfl]
              rw [List.take_of_length_le (by rw [List.length_drop]; exact Nat.le_refl _)]
              rw [HS.out]
              simp [bs])
            clear hz hu
            go_wp2_with fail
            go_ret
            exact ⟨by rw [← HE.out]; rfl, HW.out.1⟩
end Go.Proofs.YtfinngmohhnnoaaDoor
