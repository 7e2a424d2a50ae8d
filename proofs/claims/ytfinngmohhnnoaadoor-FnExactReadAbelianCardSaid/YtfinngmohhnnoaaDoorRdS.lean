/- ReadAbelian, the reference's. -/
import Derived.Test.YtfinngmohhnnoaaDoorRdL
import Derived.Test.YtfinngmohhnnoaaDoorBox
set_option linter.unusedVariables false
set_option linter.unusedSimpArgs false
namespace Go.Proofs.YtfinngmohhnnoaaDoor
open Go.RowKit
theorem bs_get {d : List UInt8} {S : ByteArray} {k : Nat} (h : S = bs d) (hk : k < d.length) (hs : k < S.size) : S[k] = d[k] := by
  subst h
  rw [ByteArray.getElem_eq_getElem_data]
  simp [bs]
theorem digF_yes {d : List UInt8} {k N : Nat} (hk : k < d.length) (h : digF (d.take k) 0 = some N) (h1 : 48 ≤ d[k].toNat) (h2 : d[k].toNat ≤ 57) : digF (d.take (k + 1)) 0 = some (10 * N + (d[k].toNat - 48)) := by
  rw [List.take_add_one, List.getElem?_eq_getElem hk, digF_app _ _ _ _ h]
  show digF [d[k]] N = _
  rw [digF, if_pos ⟨h1, h2⟩, digF]
theorem digF_no {d : List UInt8} {k N : Nat} (hk : k < d.length) (h : digF (d.take k) 0 = some N) (h1 : ¬ (48 ≤ d[k].toNat ∧ d[k].toNat ≤ 57)) : digF d 0 = none := by
  conv => lhs; rw [← List.take_append_drop k d]
  rw [digF_app _ _ _ _ h, List.drop_eq_getElem_cons hk, digF, if_neg h1]
theorem l05Digits_any (d : List UInt8) (w : World) (hd : d.length ≤ 1048576) :
    Calls Tryd.prog 21 #[.string (bs d)] w fun e w' => e = .returned (.int .i64 (digS d)) ∧ w' = w := by
  obtain ⟨S, hS⟩ : ∃ S, S = bs d := ⟨_, rfl⟩
  rw [← hS]
  have sz : S.size = d.length := by rw [hS, bs_size]
  obtain ⟨n, hn⟩ : ∃ n, n = S.size := ⟨_, rfl⟩
  by_cases h7 : 7 < d.length
  · have HV : Hid (digS d = -1) := Lib.hid (by unfold digS; rw [if_pos h7])
    have g1 : (7 : Int) < (S.size : Int) := by omega
    clear hS sz hn
    go_enter Tryd.func21, Tryd.ntmps21
    go_wp2_with fail
    go_ret
    exact ⟨by rw [HV.out]; rfl, rfl⟩
  · have g1 : ¬ (7 : Int) < (S.size : Int) := by omega
    have HSE := Lib.hid hS
    have HSZ := Lib.hid sz
    clear hS sz hn
    go_enter Tryd.func21, Tryd.ntmps21
    go_wp2_with fail
    go_loopw [4, 3] (fun i m wr => ∃ (k N : Nat), k ≤ d.length ∧ i = .int .i64 k ∧ m = .int .i64 N ∧ N < 10 ^ k ∧ Hid (digF (d.take k) 0 = some N) ∧ Hid (wr = w)) (fun i _ _ => d.length - (intOf i).toNat)
    case atStart => exact ⟨0, 0, Nat.zero_le _, rfl, rfl, by simp, Lib.hid rfl, Lib.hid rfl⟩
    case round =>
      obtain ⟨k, N, hk, rfl, rfl, hN, HD, HW⟩ := hrel
      by_cases hkn : k < d.length
      · have k1 : (k : Int) < (S.size : Int) := by rw [HSZ.out]; omega
        have hkS : k < S.size := by rw [HSZ.out]; exact hkn
        have hSk := bs_get HSE.out hkn hkS
        by_cases hdg : 48 ≤ d[k].toNat ∧ d[k].toNat ≤ 57
        · have f1 : ¬ (S[k].toNat : Int) < 48 := by rw [hSk]; omega
          have f2 : ¬ (57 : Int) < (S[k].toNat : Int) := by rw [hSk]; omega
          have HN := Lib.hid (digF_yes hkn HD.out hdg.1 hdg.2)
          have hp : 10 ^ (k + 1) = 10 * 10 ^ k := by rw [Nat.pow_succ, Nat.mul_comm]
          have hp7 : 10 ^ k ≤ 10 ^ 7 := Nat.pow_le_pow_right (by decide) (by omega)
          have HP := Lib.hid hp
          have HP7 := Lib.hid hp7
          have HDG := Lib.hid hdg
          have HSK := Lib.hid (show S[k].toNat = d[k].toNat by rw [hSk])
          clear hp hp7 hdg hSk
          go_wp2_with fail
          have hv : wrap64 (wrap64 (10 * (N : Int)) + ((S[k].toNat : Int) - 48)) = ((10 * N + (d[k].toNat - 48) : Nat) : Int) := by
            have h1 := HP7.out
            have h2 := HDG.out
            rw [HSK.out]
            unfold wrap64
            omega
          refine ⟨⟨k + 1, 10 * N + (d[k].toNat - 48), by omega, by go_num, by rw [hv], by rw [HP.out]; have := HDG.out; omega, HN, HW⟩, ?_⟩
          simp [intOf]; omega
        · have HV : Hid (digS d = -1) := Lib.hid (by unfold digS; rw [if_neg h7, digF_no hkn HD.out hdg])
          have hdg2 : (S[k].toNat : Int) < 48 ∨ (57 : Int) < (S[k].toNat : Int) := by rw [hSk]; omega
          clear hdg hSk
          go_wp2_with fail
          all_goals first
            | (go_ret; exact ⟨by rw [HV.out]; rfl, HW.out⟩)
            | omega
      · have HV : Hid (digS d = N) := Lib.hid (by unfold digS; rw [if_neg h7]; have h := HD.out; rw [List.take_of_length_le (by omega)] at h; rw [h])
        have k1 : ¬ (k : Int) < (S.size : Int) := by rw [HSZ.out]; omega
        go_wp2_with fail
        go_ret
        exact ⟨by rw [HV.out]; rfl, HW.out⟩
--SPECREAD
/-- the state of the reference's loop -/
structure RsS (w wr : World) (ad : Option Addr) (cap : Nat) (xs : List Int) (r : Nat) : Prop where
  bel : Below w.heap.size w wr
  bR : BX 28 wr w.heap.size #[.slice none 0 0, .int .i64 0]
  bA : BX 28 wr (w.heap.size + 1 + 1) #[.slice ad xs.length cap, .int .i64 r]
  own : OwnI 2 wr (w.heap.size + 1) ad xs.length cap xs
  ap : ∀ p, ad = some p → p.block ≠ w.heap.size + 1 + 1
theorem scan_pos {b : UInt8} {l : List UInt8} (h : b ≠ 32) : scanE (b :: l) = scanE l + 1 := by
  have hb : (b != 32) = true := bne_iff_ne.2 h
  unfold scanE
  rw [List.takeWhile, hb]
  rfl
theorem scan_neg {b : UInt8} {l : List UInt8} (h : b = 32) : scanE (b :: l) = 0 := by
  subst h
  rfl
theorem scan_le : ∀ l : List UInt8, scanE l ≤ l.length
  | [] => Nat.le_refl _
  | b :: l => by
    have ih := scan_le l
    by_cases h : b = 32
    · rw [scan_neg h]; omega
    · rw [scan_pos h]; simp only [List.length_cons]; omega
theorem scan_lt : ∀ (l : List UInt8) (i : Nat) (hi : i < l.length), i < scanE l → l[i] ≠ 32
  | b :: l, i, hi, h => by
    by_cases hb : b = 32
    · rw [scan_neg hb] at h; omega
    · rw [scan_pos hb] at h
      cases i with
      | zero => exact hb
      | succ i =>
        simp only [List.length_cons] at hi
        exact scan_lt l i (by omega) (by omega)
theorem scan_at : ∀ (l : List UInt8) (e : Nat) (h : e < l.length), e = scanE l → l[e] = 32
  | b :: l, e, h, he => by
    by_cases hb : b = 32
    · rw [scan_neg hb] at he
      subst he
      exact hb
    · rw [scan_pos hb] at he
      subst he
      simp only [List.length_cons] at h
      exact scan_at l (scanE l) (by omega) rfl
theorem start_or (s : List UInt8) : s = [49] ∧ ([] : List Int) = [] ∧ 0 = 0 ∨ s ≠ [49] ∧ parS (10 - 0) s [] 0 = readS s := by
  by_cases h : s = [49]
  · exact .inl ⟨h, rfl, rfl⟩
  · exact .inr ⟨h, by unfold readS; rw [if_neg h]⟩
theorem bs_ext {R : ByteArray} {l : List UInt8} (h : R = bs l) (a b : Nat) : R.extract a b = bs ((l.take b).drop a) := by
  subst h
  apply ByteArray.ext
  rw [ByteArray.data_extract]
  unfold bs
  apply Array.ext'
  simp [Array.toList_extract, List.extract_eq_take_drop, List.drop_take]
theorem bs_to {R : ByteArray} {l : List UInt8} (h : R = bs l) (b : Nat) : R.extract 0 b = bs (l.take b) := by
  rw [bs_ext h, List.drop_zero]
theorem bs_from {R : ByteArray} {l : List UInt8} (h : R = bs l) (a : Nat) : R.extract a R.size = bs (l.drop a) := by
  have hs : R.size = l.length := by rw [h, bs_size]
  rw [bs_ext h, List.take_of_length_le (by omega)]
/-- what the reference does behind a word -/
def aftS (f : Nat) (tl : List UInt8) (xs : List Int) (r : Nat) : Option (List Int × Nat) :=
  if 3 < tl.length ∧ tl.take 3 = sepX then parS f (tl.drop 3) xs r
  else if 0 < tl.length then none
  else parS f tl xs r
theorem parS_word {f : Nat} {rest : List UInt8} {xs xs' : List Int} {r r' : Nat} (h : rest ≠ []) (hw : wordS (rest.take (scanE rest)) xs r = some (xs', r')) : parS (f + 1) rest xs r = aftS f (rest.drop (scanE rest)) xs' r' := by
  rw [parS, if_neg h, hw]
  rfl
theorem parS_bad {f : Nat} {rest : List UInt8} {xs : List Int} {r : Nat} (h : rest ≠ []) (hw : wordS (rest.take (scanE rest)) xs r = none) : parS (f + 1) rest xs r = none := by
  rw [parS, if_neg h, hw]
theorem aft_x {f : Nat} {tl : List UInt8} {xs : List Int} {r : Nat} (h1 : 3 < tl.length) (h2 : tl.take 3 = sepX) : aftS f tl xs r = parS f (tl.drop 3) xs r := by
  unfold aftS; rw [if_pos ⟨h1, h2⟩]
theorem aft_e {f : Nat} {tl : List UInt8} {xs : List Int} {r : Nat} (h1 : ¬ (3 < tl.length ∧ tl.take 3 = sepX)) (h2 : 0 < tl.length) : aftS f tl xs r = none := by
  unfold aftS; rw [if_neg h1, if_pos h2]
theorem aft_n {f : Nat} {tl : List UInt8} {xs : List Int} {r : Nat} (h : tl.length = 0) : aftS f tl xs r = parS f tl xs r := by
  unfold aftS; rw [if_neg (by omega), if_neg (by omega)]
theorem word_z {w : List UInt8} {xs : List Int} {r : Nat} (h : w = [90]) : wordS w xs r = some (xs, r + 1) := by unfold wordS; rw [if_pos h]
theorem word_c {w : List UInt8} {xs : List Int} {r : Nat} (h : w ≠ [90]) (h1 : 1 < w.length) (h2 : w[0] = 67) : wordS w xs r = some (xs ++ [digS (w.drop 1)], r) := by
  unfold wordS; rw [if_neg h, if_pos ⟨h1, by rw [List.getElem?_eq_getElem (by omega), h2]⟩]
theorem word_b {w : List UInt8} {xs : List Int} {r : Nat} (h : w ≠ [90]) (h1 : ¬ (1 < w.length)) : wordS w xs r = none := by
  unfold wordS; rw [if_neg h, if_neg (fun e => h1 e.1)]
theorem word_d {w : List UInt8} {xs : List Int} {r : Nat} (h : w ≠ [90]) (h1 : 1 < w.length) (h2 : w[0] ≠ 67) : wordS w xs r = none := by
  unfold wordS; rw [if_neg h, if_neg (fun e => h2 (by have := e.2; rw [List.getElem?_eq_getElem (by omega)] at this; injection this))]
section
variable {w wr w2 : World} {ad a4 : Option Addr} {cap c4 : Nat} {xs : List Int} {r : Nat}
theorem RsS.rank (h : RsS w wr ad cap xs r) (v : Int) (hv : v = ((r + 1 : Nat) : Int)) : RsS w (wr.setCell ⟨w.heap.size + 1 + 1, 1, none⟩ (.int .i64 v)) ad cap xs (r + 1) := by
  subst hv
  exact ⟨h.bel.setCell (by simp; omega) _, h.bR.other (by simp; omega) _, h.bA.set 1 _, h.own.same (fun p hp => Below.heap_setCell _ _ _ _ (h.ap p hp)), h.ap⟩
theorem RsS.like (h : RsS w wr ad cap xs r) (h1 : w2.heap = wr.heap) (h2 : w2.os = wr.os) (h3 : w2.tape = wr.tape) (h4 : w2.output = wr.output) : RsS w w2 ad cap xs r :=
  ⟨⟨h2.trans h.bel.os, h3.trans h.bel.tape, h4.trans h.bel.output, by rw [h1]; exact h.bel.size, fun k hk => by rw [h1]; exact h.bel.block k hk⟩, by unfold BX; rw [h1]; exact h.bR, by unfold BX; rw [h1]; exact h.bA, h.own.same (fun p hp => by rw [h1]), h.ap⟩
theorem RsS.alloc (h : RsS w wr ad cap xs r) (o : Obj) : RsS w (wr.alloc o) ad cap xs r :=
  ⟨h.bel.alloc h.bel.size o, h.bR.alloc o, h.bA.alloc o, h.own.alloc o, h.ap⟩
/-- one more factor, appended and stored -/
theorem RsS.pushR {W : World} {u : Int} (h0 : RsS w wr ad cap xs r) (r4 : w2.ownsRow (w.heap.size + 1) 2 1 (.slice a4 (xs.length + 1) c4) (xs.length + 1) (xs.map (Value.int .i64) ++ [.int .i64 u])) (q4 : a4 = ad ∨ ∃ p, a4 = some p ∧ W.heap.size ≤ p.block) (g4 : Chg (fun k => ∃ p, ad = some p ∧ p.block = k) W w2)
    (h1 : W.heap = wr.heap) (h2 : W.os = wr.os) (h3 : W.tape = wr.tape) (h4 : W.output = wr.output) : RsS w (w2.setCell ⟨w.heap.size + 1 + 1, 0, none⟩ (.slice a4 (xs.length + 1) c4)) a4 c4 (xs ++ [u]) r ∧ BX 28 w2 (w.heap.size + 1 + 1) #[.slice ad xs.length cap, .int .i64 r] := by
  have h := h0.like h1 h2 h3 h4
  have lA := h.bA.lt
  have hA : BX 28 w2 (w.heap.size + 1 + 1) #[.slice ad xs.length cap, .int .i64 r] := h.bA.chg g4 (fun hx => by obtain ⟨p, hp, e⟩ := hx; exact h.ap p hp e)
  have ap4 : ∀ p, a4 = some p → p.block ≠ w.heap.size + 1 + 1 := fun p hp => by
    rcases q4 with q4 | ⟨p', q4, q5⟩
    · rw [q4] at hp; exact h.ap p hp
    · rw [q4] at hp; injection hp with hp; subst hp; omega
  refine ⟨⟨?_, ?_, ?_, ?_, ap4⟩, hA⟩
  · refine (h.bel.trans (g4.below h.bel.size (fun k hk hx => ?_))).setCell (by simp; omega) _
    obtain ⟨p, hp, e⟩ := hx
    have := (h.own.block p hp).1
    omega
  · refine (h.bR.chg g4 (fun hx => ?_)).other (by simp; omega) _
    obtain ⟨p, hp, e⟩ := hx
    have := (h.own.block p hp).1
    omega
  · rw [List.length_append]; exact hA.set 0 _
  · rw [List.length_append]; exact (OwnI.pushed r4).same (fun p hp => Below.heap_setCell _ _ _ _ (ap4 p hp))
end
set_option maxRecDepth 20000 in
set_option maxHeartbeats 2000000 in
theorem spec_ReadAbelian_any (s : List UInt8) (w : World) (hs : s.length ≤ 1048576) :
    Calls Tryd.prog 10 #[.string (bs s)] w fun e w' => ∃ (R : List Int) (K : Nat) (d : Int) (a' : Option Addr) (c' : Nat), e = .returned (.tuple #[.agg #[.slice a' R.length c', .int .i64 K], .int .i64 d]) ∧ ((R, K), d) = fin (readS s) s ∧ OwnI 2 w' w.heap.size a' R.length c' R ∧ Below w.heap.size w w' := by
  have HS := Lib.hid hs
  clear hs
  obtain ⟨S, hS⟩ : ∃ S, S = bs s := ⟨_, rfl⟩
  rw [← hS]
  have HSE := Lib.hid hS
  clear hS
  go_enter Tryd.func10, Tryd.ntmps10
  go_wp2_with fail
  have S0 : Hid (RsS w (((w.alloc (.cells #[.slice none 0 0, .int .i64 0] 28)).alloc (.cells #[] 2)).alloc (.cells #[.slice (some ⟨w.heap.size + 1, 0, none⟩) 0 0, .int .i64 0] 28)) (some ⟨w.heap.size + 1, 0, none⟩) 0 [] 0) := Lib.hid (by
    refine ⟨((((Below.refl _ _).alloc (Nat.le_refl _) _).alloc (by simp) _).alloc (by simp; omega) _), ((BX.new w _ _).alloc _).alloc _, ?_, ?_, ?_⟩
    · rw [show w.heap.size + 1 + 1 = ((w.alloc (.cells #[.slice none 0 0, .int .i64 0] 28)).alloc (.cells #[] 2)).heap.size by simp]
      exact BX.new _ _ _
    · have h := OwnI.empty (w.alloc (.cells #[.slice none 0 0, .int .i64 0] 28)) 2
      rw [show (w.alloc (.cells #[.slice none 0 0, .int .i64 0] 28)).heap.size = w.heap.size + 1 by simp] at h
      exact h.alloc _
    · intro p hp
      injection hp with hp
      subst hp
      simp)
  go_loopw [6, 5] (fun i u wr => ∃ (k r cap : Nat) (ad : Option Addr) (xs : List Int) (R : ByteArray) (rest : List UInt8), k ≤ 10 ∧ xs.length + r ≤ k ∧ i = .int .i64 k ∧ u = .string R ∧ R.size ≤ 1048576 ∧ Hid (R = bs rest) ∧ Hid (s = [49] ∧ xs = [] ∧ r = 0 ∨ s ≠ [49] ∧ parS (10 - k) rest xs r = readS s) ∧ Hid (RsS w wr ad cap xs r)) (fun i _ _ => 10 - (intOf i).toNat)
  case atStart => exact ⟨0, 0, 0, _, [], S, s, by omega, by simp, rfl, rfl, by rw [HSE.out, bs_size]; exact HS.out, HSE, Lib.hid (start_or s), S0⟩
  case round =>
    obtain ⟨k, r, cap, ad, xs, R, rest, hk, hkr, rfl, rfl, hR, HRE, HP, HI⟩ := hrel
    obtain ⟨wi, rfl⟩ : ∃ x, x = wr := ⟨wr, rfl⟩
    clear S0
    have x0 := HI.out.bA.cell 0
    have x1 := HI.out.bA.cell 1
    have lA := HI.out.bA.lt
    have f0 := HI.out.bA.frz 0
    have f1 := HI.out.bA.frz 1
    simp at x0 x1
    by_cases hgo : s ≠ [49] ∧ k < 10 ∧ rest ≠ []
    · obtain ⟨h1, hk9, hne⟩ := hgo
      have e49 : (S.toList == [49]) = false := by rw [HSE.out, Lib.toList_data]; exact beq_eq_false_iff_ne.2 h1
      have HPS : Hid (parS (9 - k + 1) rest xs r = readS s) := Lib.hid (by
        rcases HP.out with h | h
        · exact absurd h.1 h1
        · rw [show 9 - k + 1 = 10 - k by omega]; exact h.2)
      have hR0 : 0 < R.size := by rw [HRE.out, bs_size]; exact List.length_pos_iff.2 hne
      have k1 : (k : Int) < 10 := by omega
      have r1 : (0 : Int) < (R.size : Int) := by omega
      have HNE := Lib.hid hne
      have HS1 := Lib.hid h1
      clear hne h1
      obtain ⟨E, hE⟩ : ∃ E, E = scanE rest := ⟨_, rfl⟩
      have HE := Lib.hid hE
      have hEl : E ≤ R.size := by rw [HRE.out, bs_size, hE]; exact scan_le rest
      have HRS : Hid (R.size = rest.length) := Lib.hid (by rw [HRE.out, bs_size])
      clear hE
      go_wp2_with fail
      go_loopw [7] (fun e wr => ∃ j : Nat, j ≤ E ∧ e = .int .i64 j ∧ Hid (wr = wi)) (fun e _ => E - (intOf e).toNat)
      case atStart => exact ⟨0, Nat.zero_le _, rfl, Lib.hid rfl⟩
      case round =>
        obtain ⟨j, hj, rfl, hwr⟩ := hrel
        obtain rfl := hwr.out
        by_cases hjE : j < E
        · have hjR : j < R.size := by omega
          have hc := bs_get HRE.out (by rw [← HRS.out]; exact hjR) hjR
          have hne : (R[j].toNat : Int) ≠ 32 := by
            rw [hc]
            intro e
            exact scan_lt rest j (by rw [← HRS.out]; exact hjR) (by rw [← HE.out]; exact hjE) (UInt8.toNat_inj.1 (by rw [show (32 : UInt8).toNat = 32 by rfl]; omega))
          have hnb : ((R[j].toNat : Int) != 32) = true := bne_iff_ne.2 hne
          have j1 : (j : Int) < (R.size : Int) := by omega
          clear hc
          go_wp2_with fail
          go_roundw
          case rel => exact ⟨j + 1, by omega, by go_num, by first | exact hwr | exact Lib.hid trivial⟩
          case measure => simp [intOf]; omega
        · obtain rfl : j = E := by omega
          obtain ⟨T, hT⟩ : ∃ T, T = R.extract 0 j := ⟨_, rfl⟩
          obtain ⟨V, hV⟩ : ∃ V, V = R.extract j R.size := ⟨_, rfl⟩
          obtain ⟨wd, hwd⟩ : ∃ x, x = rest.take j := ⟨_, rfl⟩
          obtain ⟨tl, htl⟩ : ∃ x, x = rest.drop j := ⟨_, rfl⟩
          have HT : Hid (T = bs wd) := Lib.hid (by rw [hT, hwd]; exact bs_to HRE.out j)
          have HVB : Hid (V = bs tl) := Lib.hid (by rw [hV, htl]; exact bs_from HRE.out j)
          have HWD : Hid (wd = rest.take (scanE rest)) := Lib.hid (by rw [hwd, HE.out])
          have HTL : Hid (tl = rest.drop (scanE rest)) := Lib.hid (by rw [htl, HE.out])
          have sT : T.size = wd.length := by rw [HT.out, bs_size]
          have sV : V.size = tl.length := by rw [HVB.out, bs_size]
          have sTR : T.size ≤ 1048576 := by rw [sT, hwd, List.length_take]; have := HRS.out; omega
          have HVR : Hid (V.size = R.size - j) := Lib.hid (by rw [sV, htl, List.length_drop, HRS.out])
          have sVm : V.size ≤ 1048576 := by rw [HVR.out]; omega
          have j2 : (j : Int) ≤ (R.size : Int) := by omega
          have j3 : (0 : Int) ≤ (j : Int) := by omega
          have hat : ∀ h : j < R.size, (R[j].toNat : Int) = 32 := fun h => by
            rw [bs_get HRE.out (by rw [← HRS.out]; exact h) h, scan_at rest j (by rw [← HRS.out]; exact h) HE.out]; rfl
          have HST := Lib.hid sT
          have HSV := Lib.hid sV
          have HAT := Lib.hid hat
          have hT' := hT.symm
          have hV' := hV.symm
          clear hT hV hwd htl sT sV hat HE
          by_cases hz : wd = [90]
          · have e1 : (T.toList == [90]) = true := by rw [HT.out, hz, Lib.toList_data]; rfl
            have HA : Hid (aftS (9 - k) tl xs (r + 1) = readS s) := Lib.hid (by rw [← HPS.out, parS_word HNE.out (by rw [← HWD.out]; exact word_z hz), HTL.out])
            have w1 : IntKind.i64.wrap ((r : Int) + 1) = (r : Int) + 1 := IntWalk.i64_in _ (by omega)
            have HNS := Lib.hid (HI.out.rank ((r : Int) + 1) (by omega))
            clear hz
            by_cases hjR : j < R.size
            · have j1 : (j : Int) < (R.size : Int) := by omega
              have q1 : ((R[j].toNat : Int) != 32) = false := by rw [HAT.out hjR]; rfl
              have v0 : 0 < V.size := by rw [HVR.out]; omega
              have v2 : (0 : Int) < (V.size : Int) := by omega
              by_cases hx : 3 < tl.length ∧ tl.take 3 = sepX
              · have v1 : (3 : Int) < (V.size : Int) := by rw [HSV.out]; omega
                have v3 : (3 : Int) ≤ (V.size : Int) := by omega
                have v4 : 3 ≤ V.size := by omega
                obtain ⟨P, hP⟩ : ∃ P, V.extract 0 3 = P := ⟨_, rfl⟩
                obtain ⟨Q, hQ⟩ : ∃ Q, V.extract 3 V.size = Q := ⟨_, rfl⟩
                have e2 : (P.toList == [32, 120, 32]) = true := by rw [← hP, bs_to HVB.out, Lib.toList_data, show (bs (tl.take 3)).data.toList = tl.take 3 from rfl, hx.2]; rfl
                have HQ : Hid (Q = bs (tl.drop 3)) := Lib.hid (by rw [← hQ, bs_from HVB.out])
                have sQ : Q.size ≤ 1048576 := by rw [HQ.out, bs_size, List.length_drop, ← HSV.out]; omega
                have HN : Hid (parS (9 - k) (tl.drop 3) xs (r + 1) = readS s) := Lib.hid (by rw [← aft_x hx.1 hx.2]; exact HA.out)
                clear hx
                have Y1 := HNS.out.bR
                have g0 := Y1.frz 0
                have g1 := Y1.frz 1
                have y0 := Y1.cell 0
                have y1 := Y1.cell 1
                have l1 := Y1.lt
                simp at y0 y1 l1
                go_wp2_with fail

                all_goals
                  go_roundw
                  case rel => exact ⟨k + 1, r + 1, cap, ad, xs, Q, tl.drop 3, by omega, by omega, by go_num, rfl, by first | exact sQ | omega, by first | exact HQ | exact HVB, Lib.hid (.inr ⟨HS1.out, by rw [show 10 - (k + 1) = 9 - k by omega]; exact HN.out⟩), HNS⟩
                  case measure => simp [intOf]; omega
              · by_cases hl : 3 < tl.length
                · have v1 : (3 : Int) < (V.size : Int) := by rw [HSV.out]; omega
                  have v3 : (3 : Int) ≤ (V.size : Int) := by omega
                  have v4 : 3 ≤ V.size := by omega
                  obtain ⟨P, hP⟩ : ∃ P, V.extract 0 3 = P := ⟨_, rfl⟩
                  have e2 : (P.toList == [32, 120, 32]) = false := by rw [← hP, bs_to HVB.out, Lib.toList_data]; exact beq_eq_false_iff_ne.2 (fun e => hx ⟨hl, e⟩)
                  have HNO : Hid (none = readS s) := Lib.hid (by rw [← HA.out, aft_e hx (by rw [← HSV.out]; omega)])
                  have HV : Hid ((([], 0), 6) = fin (readS s) s) := Lib.hid (by rw [← HNO.out]; rfl)
                  clear hx hl
                  have Y1 := HNS.out.bR
                  have g0 := Y1.frz 0
                  have g1 := Y1.frz 1
                  have y0 := Y1.cell 0
                  have y1 := Y1.cell 1
                  have l1 := Y1.lt
                  simp at y0 y1 l1
                  go_wp2_with fail
                  all_goals
                    have X0 := HNS.out.bR
                    have X := (X0.set 0 (.slice none 0 0)).set 1 (.int .i64 0)
                    have q0 := X.cell 0
                    have q1' := X.cell 1
                    simp at q0 q1'
                    refine bodyPost_ret (v := .tuple #[.agg #[.slice none 0 0, .int .i64 0], .int .i64 6]) (by simp [results, Tryd.results10, go_sem, q0, q1']) rfl ⟨[], 0, 6, none, 0, rfl, HV.out, OwnI.none, ?_⟩
                    exact ((HNS.out.bel.setCell (by first | (simp; done) | (simp; omega)) _).setCell (by first | (simp; done) | (simp; omega)) _)
                · have v1 : ¬ (3 : Int) < (V.size : Int) := by rw [HSV.out]; omega
                  have HNO : Hid (none = readS s) := Lib.hid (by rw [← HA.out, aft_e hx (by rw [← HSV.out]; omega)])
                  have HV : Hid ((([], 0), 6) = fin (readS s) s) := Lib.hid (by rw [← HNO.out]; rfl)
                  clear hx hl
                  have Y1 := HNS.out.bR
                  have g0 := Y1.frz 0
                  have g1 := Y1.frz 1
                  have y0 := Y1.cell 0
                  have y1 := Y1.cell 1
                  have l1 := Y1.lt
                  simp at y0 y1 l1
                  go_wp2_with fail
                  all_goals
                    have X0 := HNS.out.bR
                    have X := (X0.set 0 (.slice none 0 0)).set 1 (.int .i64 0)
                    have q0 := X.cell 0
                    have q1' := X.cell 1
                    simp at q0 q1'
                    refine bodyPost_ret (v := .tuple #[.agg #[.slice none 0 0, .int .i64 0], .int .i64 6]) (by simp [results, Tryd.results10, go_sem, q0, q1']) rfl ⟨[], 0, 6, none, 0, rfl, HV.out, OwnI.none, ?_⟩
                    exact ((HNS.out.bel.setCell (by first | (simp; done) | (simp; omega)) _).setCell (by first | (simp; done) | (simp; omega)) _)
            · have j1 : ¬ (j : Int) < (R.size : Int) := by omega
              have v0 : V.size = 0 := by rw [HVR.out]; omega
              have v1 : ¬ (3 : Int) < (V.size : Int) := by omega
              have v2 : ¬ (0 : Int) < (V.size : Int) := by omega
              have HN : Hid (parS (9 - k) tl xs (r + 1) = readS s) := Lib.hid (by rw [← aft_n (by rw [← HSV.out]; exact v0)]; exact HA.out)
              have Y1 := HNS.out.bR
              have g0 := Y1.frz 0
              have g1 := Y1.frz 1
              have y0 := Y1.cell 0
              have y1 := Y1.cell 1
              have l1 := Y1.lt
              simp at y0 y1 l1
              go_wp2_with fail

              all_goals
                go_roundw
                case rel => exact ⟨k + 1, r + 1, cap, ad, xs, V, tl, by omega, by omega, by go_num, rfl, by first | exact sQ | omega, by first | exact HQ | exact HVB, Lib.hid (.inr ⟨HS1.out, by rw [show 10 - (k + 1) = 9 - k by omega]; exact HN.out⟩), HNS⟩
                case measure => simp [intOf]; omega
          · have e1 : (T.toList == [90]) = false := by rw [HT.out, Lib.toList_data]; exact beq_eq_false_iff_ne.2 hz
            by_cases hl : 1 < wd.length
            · have t1 : (1 : Int) < (T.size : Int) := by rw [HST.out]; omega
              have t0 : 0 < T.size := by rw [HST.out]; omega
              have t2 : (1 : Int) ≤ (T.size : Int) := by rw [HST.out]; omega
              have hg : T[0] = wd[0] := bs_get HT.out (by omega) t0
              by_cases hc : wd[0] = 67
              · have e3 : ((T[0].toNat : Int) == 67) = true := by rw [hg, hc]; rfl
                obtain ⟨T1, hT1⟩ : ∃ T1, T.extract 1 T.size = T1 := ⟨_, rfl⟩
                obtain ⟨D, hD⟩ : ∃ D, D = digS (wd.drop 1) := ⟨_, rfl⟩
                have HDG : Hid (∀ u, Calls Tryd.prog 21 #[.string T1] u fun e w' => e = .returned (.int .i64 D) ∧ w' = u) := Lib.hid (fun u => by rw [← hT1, bs_from HT.out, hD]; exact l05Digits_any _ _ (by rw [List.length_drop, ← HST.out]; omega))
                have HCA : Hid ((wr.alloc (.cells #[.int .i64 D] 2)).cell? ⟨wr.heap.size, 0, none⟩ = some (.int .i64 D)) := Lib.hid ((BX.new _ _ _).cell 0)
                have HA2 : Hid (RsS w (wr.alloc (.cells #[.int .i64 D] 2)) ad cap xs r) := Lib.hid (HI.out.alloc _)
                have HSA : Hid (w.heap.size + 1 ≤ (wr.alloc (.cells #[.int .i64 D] 2)).heap.size) := Lib.hid (by simp; omega)
                have HLX : Hid (xs.length ≤ 100) := Lib.hid (by omega)
                have HA : Hid (aftS (9 - k) tl (xs ++ [D]) r = readS s) := Lib.hid (by rw [← HPS.out, parS_word HNE.out (by rw [← HWD.out]; exact word_c hz hl hc), HTL.out, hD])
                clear hz hl hg hc hD
                by_cases hjR : j < R.size
                · have j1 : (j : Int) < (R.size : Int) := by omega
                  have q1 : ((R[j].toNat : Int) != 32) = false := by rw [HAT.out hjR]; rfl
                  have v0 : 0 < V.size := by rw [HVR.out]; omega
                  have v2 : (0 : Int) < (V.size : Int) := by omega
                  by_cases hx : 3 < tl.length ∧ tl.take 3 = sepX
                  · have v1 : (3 : Int) < (V.size : Int) := by rw [HSV.out]; omega
                    have v3 : (3 : Int) ≤ (V.size : Int) := by omega
                    have v4 : 3 ≤ V.size := by omega
                    obtain ⟨P, hP⟩ : ∃ P, V.extract 0 3 = P := ⟨_, rfl⟩
                    obtain ⟨Q, hQ⟩ : ∃ Q, V.extract 3 V.size = Q := ⟨_, rfl⟩
                    have e2 : (P.toList == [32, 120, 32]) = true := by rw [← hP, bs_to HVB.out, Lib.toList_data, show (bs (tl.take 3)).data.toList = tl.take 3 from rfl, hx.2]; rfl
                    have HQ : Hid (Q = bs (tl.drop 3)) := Lib.hid (by rw [← hQ, bs_from HVB.out])
                    have sQ : Q.size ≤ 1048576 := by rw [HQ.out, bs_size, List.length_drop, ← HSV.out]; omega
                    have HN : Hid (parS (9 - k) (tl.drop 3) (xs ++ [D]) (r) = readS s) := Lib.hid (by rw [← aft_x hx.1 hx.2]; exact HA.out)
                    clear hx
                    go_wp2_with fail
                    go_region_law (first
                      | (go_simp; go_at_call 21; refine (HDG.out _).mono ?_; rintro e _ ⟨rfl, rfl⟩)
                      | (refine step_pushW rfl (.tmp 55) (.tmp 59) 22 rfl (w.heap.size + 1) 2 (.int .i64 0) 8 Tryd.underlying22 Tryd.info2 rfl (by decide) (.int .i64 D) rfl ad xs.length cap (xs.map (Value.int .i64)) wr.heap.size rfl rfl ?_ ?_ ?_ ?_ ?_; (exact HCA.out); (exact HA2.out.own); (have := HLX.out; omega); (exact HSA.out); rintro a4 c4 w7 r4 q4 g4; have HNX := HA2.out.pushR r4 q4 g4 rfl rfl rfl rfl; have HNS := Lib.hid HNX.1; have X4 := Lib.hid HNX.2; clear HNX; have f4 := X4.out.frz 0; have y4 := X4.out.cell 0; have l4 := X4.out.lt; clear r4 q4 g4))
                    all_goals
                      have Y1 := HNS.out.bR
                      have g0 := Y1.frz 0
                      have g1 := Y1.frz 1
                      have y0 := Y1.cell 0
                      have y1 := Y1.cell 1
                      have l1 := Y1.lt
                      simp at y0 y1 l1 y4
                      go_wp2_with fail

                    all_goals
                      go_roundw
                      case rel => exact ⟨k + 1, r, c4, a4, xs ++ [D], Q, tl.drop 3, by omega, by rw [List.length_append]; simp only [List.length_cons, List.length_nil]; omega, by go_num, rfl, by first | exact sQ | omega, by first | exact HQ | exact HVB, Lib.hid (.inr ⟨HS1.out, by rw [show 10 - (k + 1) = 9 - k by omega]; exact HN.out⟩), HNS⟩
                      case measure => simp [intOf]; omega
                  · by_cases hl : 3 < tl.length
                    · have v1 : (3 : Int) < (V.size : Int) := by rw [HSV.out]; omega
                      have v3 : (3 : Int) ≤ (V.size : Int) := by omega
                      have v4 : 3 ≤ V.size := by omega
                      obtain ⟨P, hP⟩ : ∃ P, V.extract 0 3 = P := ⟨_, rfl⟩
                      have e2 : (P.toList == [32, 120, 32]) = false := by rw [← hP, bs_to HVB.out, Lib.toList_data]; exact beq_eq_false_iff_ne.2 (fun e => hx ⟨hl, e⟩)
                      have HNO : Hid (none = readS s) := Lib.hid (by rw [← HA.out, aft_e hx (by rw [← HSV.out]; omega)])
                      have HV : Hid ((([], 0), 6) = fin (readS s) s) := Lib.hid (by rw [← HNO.out]; rfl)
                      clear hx hl
                      go_wp2_with fail
                      go_region_law (first
                        | (go_simp; go_at_call 21; refine (HDG.out _).mono ?_; rintro e _ ⟨rfl, rfl⟩)
                        | (refine step_pushW rfl (.tmp 55) (.tmp 59) 22 rfl (w.heap.size + 1) 2 (.int .i64 0) 8 Tryd.underlying22 Tryd.info2 rfl (by decide) (.int .i64 D) rfl ad xs.length cap (xs.map (Value.int .i64)) wr.heap.size rfl rfl ?_ ?_ ?_ ?_ ?_; (exact HCA.out); (exact HA2.out.own); (have := HLX.out; omega); (exact HSA.out); rintro a4 c4 w7 r4 q4 g4; have HNX := HA2.out.pushR r4 q4 g4 rfl rfl rfl rfl; have HNS := Lib.hid HNX.1; have X4 := Lib.hid HNX.2; clear HNX; have f4 := X4.out.frz 0; have y4 := X4.out.cell 0; have l4 := X4.out.lt; clear r4 q4 g4))
                      all_goals
                        have Y1 := HNS.out.bR
                        have g0 := Y1.frz 0
                        have g1 := Y1.frz 1
                        have y0 := Y1.cell 0
                        have y1 := Y1.cell 1
                        have l1 := Y1.lt
                        simp at y0 y1 l1 y4
                        go_wp2_with fail
                      all_goals
                        have X0 := HNS.out.bR
                        have X := (X0.set 0 (.slice none 0 0)).set 1 (.int .i64 0)
                        have q0 := X.cell 0
                        have q1' := X.cell 1
                        simp at q0 q1'
                        refine bodyPost_ret (v := .tuple #[.agg #[.slice none 0 0, .int .i64 0], .int .i64 6]) (by simp [results, Tryd.results10, go_sem, q0, q1']) rfl ⟨[], 0, 6, none, 0, rfl, HV.out, OwnI.none, ?_⟩
                        exact ((HNS.out.bel.setCell (by first | (simp; done) | (simp; omega)) _).setCell (by first | (simp; done) | (simp; omega)) _)
                    · have v1 : ¬ (3 : Int) < (V.size : Int) := by rw [HSV.out]; omega
                      have HNO : Hid (none = readS s) := Lib.hid (by rw [← HA.out, aft_e hx (by rw [← HSV.out]; omega)])
                      have HV : Hid ((([], 0), 6) = fin (readS s) s) := Lib.hid (by rw [← HNO.out]; rfl)
                      clear hx hl
                      go_wp2_with fail
                      go_region_law (first
                        | (go_simp; go_at_call 21; refine (HDG.out _).mono ?_; rintro e _ ⟨rfl, rfl⟩)
                        | (refine step_pushW rfl (.tmp 55) (.tmp 59) 22 rfl (w.heap.size + 1) 2 (.int .i64 0) 8 Tryd.underlying22 Tryd.info2 rfl (by decide) (.int .i64 D) rfl ad xs.length cap (xs.map (Value.int .i64)) wr.heap.size rfl rfl ?_ ?_ ?_ ?_ ?_; (exact HCA.out); (exact HA2.out.own); (have := HLX.out; omega); (exact HSA.out); rintro a4 c4 w7 r4 q4 g4; have HNX := HA2.out.pushR r4 q4 g4 rfl rfl rfl rfl; have HNS := Lib.hid HNX.1; have X4 := Lib.hid HNX.2; clear HNX; have f4 := X4.out.frz 0; have y4 := X4.out.cell 0; have l4 := X4.out.lt; clear r4 q4 g4))
                      all_goals
                        have Y1 := HNS.out.bR
                        have g0 := Y1.frz 0
                        have g1 := Y1.frz 1
                        have y0 := Y1.cell 0
                        have y1 := Y1.cell 1
                        have l1 := Y1.lt
                        simp at y0 y1 l1 y4
                        go_wp2_with fail
                      all_goals
                        have X0 := HNS.out.bR
                        have X := (X0.set 0 (.slice none 0 0)).set 1 (.int .i64 0)
                        have q0 := X.cell 0
                        have q1' := X.cell 1
                        simp at q0 q1'
                        refine bodyPost_ret (v := .tuple #[.agg #[.slice none 0 0, .int .i64 0], .int .i64 6]) (by simp [results, Tryd.results10, go_sem, q0, q1']) rfl ⟨[], 0, 6, none, 0, rfl, HV.out, OwnI.none, ?_⟩
                        exact ((HNS.out.bel.setCell (by first | (simp; done) | (simp; omega)) _).setCell (by first | (simp; done) | (simp; omega)) _)
                · have j1 : ¬ (j : Int) < (R.size : Int) := by omega
                  have v0 : V.size = 0 := by rw [HVR.out]; omega
                  have v1 : ¬ (3 : Int) < (V.size : Int) := by omega
                  have v2 : ¬ (0 : Int) < (V.size : Int) := by omega
                  have HN : Hid (parS (9 - k) tl (xs ++ [D]) (r) = readS s) := Lib.hid (by rw [← aft_n (by rw [← HSV.out]; exact v0)]; exact HA.out)
                  go_wp2_with fail
                  go_region_law (first
                    | (go_simp; go_at_call 21; refine (HDG.out _).mono ?_; rintro e _ ⟨rfl, rfl⟩)
                    | (refine step_pushW rfl (.tmp 55) (.tmp 59) 22 rfl (w.heap.size + 1) 2 (.int .i64 0) 8 Tryd.underlying22 Tryd.info2 rfl (by decide) (.int .i64 D) rfl ad xs.length cap (xs.map (Value.int .i64)) wr.heap.size rfl rfl ?_ ?_ ?_ ?_ ?_; (exact HCA.out); (exact HA2.out.own); (have := HLX.out; omega); (exact HSA.out); rintro a4 c4 w7 r4 q4 g4; have HNX := HA2.out.pushR r4 q4 g4 rfl rfl rfl rfl; have HNS := Lib.hid HNX.1; have X4 := Lib.hid HNX.2; clear HNX; have f4 := X4.out.frz 0; have y4 := X4.out.cell 0; have l4 := X4.out.lt; clear r4 q4 g4))
                  all_goals
                    have Y1 := HNS.out.bR
                    have g0 := Y1.frz 0
                    have g1 := Y1.frz 1
                    have y0 := Y1.cell 0
                    have y1 := Y1.cell 1
                    have l1 := Y1.lt
                    simp at y0 y1 l1 y4
                    go_wp2_with fail

                  all_goals
                    go_roundw
                    case rel => exact ⟨k + 1, r, c4, a4, xs ++ [D], V, tl, by omega, by rw [List.length_append]; simp only [List.length_cons, List.length_nil]; omega, by go_num, rfl, by first | exact sQ | omega, by first | exact HQ | exact HVB, Lib.hid (.inr ⟨HS1.out, by rw [show 10 - (k + 1) = 9 - k by omega]; exact HN.out⟩), HNS⟩
                    case measure => simp [intOf]; omega
              · have e3 : ((T[0].toNat : Int) == 67) = false := by rw [hg]; exact beq_eq_false_iff_ne.2 (fun e => hc (UInt8.toNat_inj.1 (by rw [show (67 : UInt8).toNat = 67 by rfl]; omega)))
                have HNO : Hid (none = readS s) := Lib.hid (by rw [← HPS.out, parS_bad HNE.out (by rw [← HWD.out]; exact word_d hz hl hc)])
                clear hz hl hg hc
                have HV : Hid ((([], 0), 6) = fin (readS s) s) := Lib.hid (by rw [← HNO.out]; rfl)
                have HNS := HI
                have Y1 := HNS.out.bR
                have g0 := Y1.frz 0
                have g1 := Y1.frz 1
                have y0 := Y1.cell 0
                have y1 := Y1.cell 1
                have l1 := Y1.lt
                simp at y0 y1 l1

                by_cases hjR : j < R.size
                · have j1 : (j : Int) < (R.size : Int) := by omega
                  have q1 : ((R[j].toNat : Int) != 32) = false := by rw [HAT.out hjR]; rfl
                  go_wp2_with fail

                  have X0 := HNS.out.bR
                  have X := (X0.set 0 (.slice none 0 0)).set 1 (.int .i64 0)
                  have q0 := X.cell 0
                  have q1' := X.cell 1
                  simp at q0 q1'
                  refine bodyPost_ret (v := .tuple #[.agg #[.slice none 0 0, .int .i64 0], .int .i64 6]) (by simp [results, Tryd.results10, go_sem, q0, q1']) rfl ⟨[], 0, 6, none, 0, rfl, HV.out, OwnI.none, ?_⟩
                  exact ((HNS.out.bel.setCell (by first | (simp; done) | (simp; omega)) _).setCell (by first | (simp; done) | (simp; omega)) _)
                · have j1 : ¬ (j : Int) < (R.size : Int) := by omega
                  go_wp2_with fail

                  have X0 := HNS.out.bR
                  have X := (X0.set 0 (.slice none 0 0)).set 1 (.int .i64 0)
                  have q0 := X.cell 0
                  have q1' := X.cell 1
                  simp at q0 q1'
                  refine bodyPost_ret (v := .tuple #[.agg #[.slice none 0 0, .int .i64 0], .int .i64 6]) (by simp [results, Tryd.results10, go_sem, q0, q1']) rfl ⟨[], 0, 6, none, 0, rfl, HV.out, OwnI.none, ?_⟩
                  exact ((HNS.out.bel.setCell (by first | (simp; done) | (simp; omega)) _).setCell (by first | (simp; done) | (simp; omega)) _)
            · have t1 : ¬ (1 : Int) < (T.size : Int) := by rw [HST.out]; omega
              have HNO : Hid (none = readS s) := Lib.hid (by rw [← HPS.out, parS_bad HNE.out (by rw [← HWD.out]; exact word_b hz hl)])
              clear hz hl
              have HV : Hid ((([], 0), 6) = fin (readS s) s) := Lib.hid (by rw [← HNO.out]; rfl)
              have HNS := HI
              have Y1 := HNS.out.bR
              have g0 := Y1.frz 0
              have g1 := Y1.frz 1
              have y0 := Y1.cell 0
              have y1 := Y1.cell 1
              have l1 := Y1.lt
              simp at y0 y1 l1

              by_cases hjR : j < R.size
              · have j1 : (j : Int) < (R.size : Int) := by omega
                have q1 : ((R[j].toNat : Int) != 32) = false := by rw [HAT.out hjR]; rfl
                go_wp2_with fail

                have X0 := HNS.out.bR
                have X := (X0.set 0 (.slice none 0 0)).set 1 (.int .i64 0)
                have q0 := X.cell 0
                have q1' := X.cell 1
                simp at q0 q1'
                refine bodyPost_ret (v := .tuple #[.agg #[.slice none 0 0, .int .i64 0], .int .i64 6]) (by simp [results, Tryd.results10, go_sem, q0, q1']) rfl ⟨[], 0, 6, none, 0, rfl, HV.out, OwnI.none, ?_⟩
                exact ((HNS.out.bel.setCell (by first | (simp; done) | (simp; omega)) _).setCell (by first | (simp; done) | (simp; omega)) _)
              · have j1 : ¬ (j : Int) < (R.size : Int) := by omega
                go_wp2_with fail

                have X0 := HNS.out.bR
                have X := (X0.set 0 (.slice none 0 0)).set 1 (.int .i64 0)
                have q0 := X.cell 0
                have q1' := X.cell 1
                simp at q0 q1'
                refine bodyPost_ret (v := .tuple #[.agg #[.slice none 0 0, .int .i64 0], .int .i64 6]) (by simp [results, Tryd.results10, go_sem, q0, q1']) rfl ⟨[], 0, 6, none, 0, rfl, HV.out, OwnI.none, ?_⟩
                exact ((HNS.out.bel.setCell (by first | (simp; done) | (simp; omega)) _).setCell (by first | (simp; done) | (simp; omega)) _)
    · have HF : Hid (fin (readS s) s = if isAb xs r = true ∧ txt xs r = s then ((xs, r), 0) else (([], 0), 6)) := Lib.hid (by
        rcases HP.out with ⟨h1, h2, h3⟩ | ⟨h1, h2⟩
        · subst h2 h3
          unfold readS
          rw [if_pos h1]
          rfl
        · rw [← h2]
          by_cases hk9 : k < 10
          · have hr : rest = [] := Classical.byContradiction fun hc => hgo ⟨h1, hk9, hc⟩
            rw [hr]
            rw [show 10 - k = (9 - k) + 1 by omega]
            rfl
          · rw [show 10 - k = 0 by omega]
            rfl)
      have X1 := Lib.hid HI.out.bR
      have X2 := Lib.hid HI.out.bA
      have HO := Lib.hid HI.out.own
      have HB := Lib.hid HI.out.bel
      have hrl : xs.length + r ≤ 10 := by omega
      clear f0 f1
      by_cases hk9 : k < 10
      · have k1 : (k : Int) < 10 := by omega
        by_cases hr : rest = []
        · have r1 : ¬ (0 : Int) < (R.size : Int) := by rw [HRE.out, bs_size, hr]; simp
          clear hgo hr
          cases hab : isAb xs r
          · have HV : Hid ((([], 0), 6) = fin (readS s) s) := Lib.hid (by rw [HF.out, if_neg (fun h => by rw [hab] at h; cases h.1)])
            go_wp2_with (go_at_call 15; refine (spec_IsAbelian_any _ _ _ xs _ _ (by exact HO.out.rd) rfl (by omega)).mono ?_; rw [hab]; rintro e w5 ⟨rfl, hb⟩; have HB5 := Lib.hid hb; clear hb; have Y1 := Lib.hid (X1.out.keep HB5.out); have f0 := Y1.out.frz 0; have f1 := Y1.out.frz 1; have y0 := Y1.out.cell 0; have y1 := Y1.out.cell 1; have l1 := Y1.out.lt; simp at y0 y1)
            have X := (Y1.out.set 0 (.slice none 0 0)).set 1 (.int .i64 0)
            have x0 := X.cell 0
            have x1 := X.cell 1
            simp at x0 x1
            refine bodyPost_ret (v := .tuple #[.agg #[.slice none 0 0, .int .i64 0], .int .i64 6]) (by simp [results, Tryd.results10, go_sem, x0, x1]) rfl ⟨[], 0, 6, none, 0, rfl, HV.out, OwnI.none, ?_⟩
            exact (((HB.out.trans (HB5.out.mono HB.out.size)).setCell (by first | (simp; done) | (simp; omega)) _).setCell (by first | (simp; done) | (simp; omega)) _)
          · obtain ⟨r0, hr0, ht⟩ := Txt.of (isAb_ok hab)
            obtain rfl : r0 = r := by omega
            have HT := Lib.hid ht
            clear ht hr0
            obtain ⟨T, hT⟩ : ∃ T, T = bs (txt xs r0) := ⟨_, rfl⟩
            have HTE := Lib.hid hT
            clear hT
            by_cases heq : txt xs r0 = s
            · have e1 : (T.toList == S.toList) = true := by rw [HTE.out, HSE.out, heq]; exact beq_self_eq_true _
              have HV : Hid (((xs, r0), 0) = fin (readS s) s) := Lib.hid (by rw [HF.out, if_pos ⟨hab, heq⟩])
              clear heq
              go_wp2_with (first
                | (go_at_call 15; refine (spec_IsAbelian_any _ _ _ xs _ _ (by exact HO.out.rd) rfl (by omega)).mono ?_; rw [hab]; rintro e w5 ⟨rfl, hb⟩; have HB5 := Lib.hid hb; clear hb; have Z2 := Lib.hid (X2.out.keep HB5.out); have z0 := Z2.out.cell 0; have z1 := Z2.out.cell 1; have l2 := Z2.out.lt; simp at z0 z1)
                | (go_at_call 16; refine (spec_text_any _ _ _ xs r0 _ (by exact HO.out.rd.keep HB5.out (Nat.le_refl _)) rfl HT.out).mono ?_; rw [← HTE.out]; rintro e w6 ⟨rfl, hb⟩; have HB6 := Lib.hid (HB5.out.trans (hb.mono HB5.out.size)); clear hb; have Y1 := Lib.hid (X1.out.keep HB6.out); have Y2 := Lib.hid (X2.out.keep HB6.out); have f0 := Y1.out.frz 0; have f1 := Y1.out.frz 1; have y0 := Y1.out.cell 0; have y1 := Y1.out.cell 1; have l1 := Y1.out.lt; have v0 := Y2.out.cell 0; have v1 := Y2.out.cell 1; have l3 := Y2.out.lt; simp at y0 y1 v0 v1))
              have X := (Y1.out.set 0 (.slice ad xs.length cap)).set 1 (.int .i64 r0)
              have q0 := X.cell 0
              have q1 := X.cell 1
              simp at q0 q1
              refine bodyPost_ret (v := .tuple #[.agg #[.slice ad xs.length cap, .int .i64 r0], .int .i64 0]) (by simp [results, Tryd.results10, go_sem, q0, q1]) rfl ⟨xs, r0, 0, ad, cap, rfl, HV.out, ?_, ?_⟩
              · exact ((((HO.out.keep HB6.out (Nat.le_refl _)).setCell (by simp) _).setCell (by simp) _).mono (by omega))
              · exact (((HB.out.trans (HB6.out.mono HB.out.size)).setCell (by first | (simp; done) | (simp; omega)) _).setCell (by first | (simp; done) | (simp; omega)) _)
            · have e1 : (T.toList == S.toList) = false := by rw [HTE.out, HSE.out, Lib.toList_data, Lib.toList_data]; exact beq_eq_false_iff_ne.2 heq
              have HV : Hid ((([], 0), 6) = fin (readS s) s) := Lib.hid (by rw [HF.out, if_neg (fun h => heq h.2)])
              clear heq
              go_wp2_with (first
                | (go_at_call 15; refine (spec_IsAbelian_any _ _ _ xs _ _ (by exact HO.out.rd) rfl (by omega)).mono ?_; rw [hab]; rintro e w5 ⟨rfl, hb⟩; have HB5 := Lib.hid hb; clear hb; have Z2 := Lib.hid (X2.out.keep HB5.out); have z0 := Z2.out.cell 0; have z1 := Z2.out.cell 1; have l2 := Z2.out.lt; simp at z0 z1)
                | (go_at_call 16; refine (spec_text_any _ _ _ xs r0 _ (by exact HO.out.rd.keep HB5.out (Nat.le_refl _)) rfl HT.out).mono ?_; rw [← HTE.out]; rintro e w6 ⟨rfl, hb⟩; have HB6 := Lib.hid (HB5.out.trans (hb.mono HB5.out.size)); clear hb; have Y1 := Lib.hid (X1.out.keep HB6.out); have f0 := Y1.out.frz 0; have f1 := Y1.out.frz 1; have y0 := Y1.out.cell 0; have y1 := Y1.out.cell 1; have l1 := Y1.out.lt; simp at y0 y1))
              have X := (Y1.out.set 0 (.slice none 0 0)).set 1 (.int .i64 0)
              have q0 := X.cell 0
              have q1 := X.cell 1
              simp at q0 q1
              refine bodyPost_ret (v := .tuple #[.agg #[.slice none 0 0, .int .i64 0], .int .i64 6]) (by simp [results, Tryd.results10, go_sem, q0, q1]) rfl ⟨[], 0, 6, none, 0, rfl, HV.out, OwnI.none, ?_⟩
              exact (((HB.out.trans (HB6.out.mono HB.out.size)).setCell (by first | (simp; done) | (simp; omega)) _).setCell (by first | (simp; done) | (simp; omega)) _)
        · have hs1 : s = [49] := Classical.byContradiction fun hc => hgo ⟨hc, hk9, hr⟩
          have r1 : (0 : Int) < (R.size : Int) := by rw [HRE.out, bs_size]; have := List.length_pos_iff.2 hr; omega
          have e49 : (S.toList == [49]) = true := by rw [HSE.out, Lib.toList_data, hs1]; rfl
          clear hgo hr hs1
          cases hab : isAb xs r
          · have HV : Hid ((([], 0), 6) = fin (readS s) s) := Lib.hid (by rw [HF.out, if_neg (fun h => by rw [hab] at h; cases h.1)])
            go_wp2_with (go_at_call 15; refine (spec_IsAbelian_any _ _ _ xs _ _ (by exact HO.out.rd) rfl (by omega)).mono ?_; rw [hab]; rintro e w5 ⟨rfl, hb⟩; have HB5 := Lib.hid hb; clear hb; have Y1 := Lib.hid (X1.out.keep HB5.out); have f0 := Y1.out.frz 0; have f1 := Y1.out.frz 1; have y0 := Y1.out.cell 0; have y1 := Y1.out.cell 1; have l1 := Y1.out.lt; simp at y0 y1)
            have X := (Y1.out.set 0 (.slice none 0 0)).set 1 (.int .i64 0)
            have x0 := X.cell 0
            have x1 := X.cell 1
            simp at x0 x1
            refine bodyPost_ret (v := .tuple #[.agg #[.slice none 0 0, .int .i64 0], .int .i64 6]) (by simp [results, Tryd.results10, go_sem, x0, x1]) rfl ⟨[], 0, 6, none, 0, rfl, HV.out, OwnI.none, ?_⟩
            exact (((HB.out.trans (HB5.out.mono HB.out.size)).setCell (by first | (simp; done) | (simp; omega)) _).setCell (by first | (simp; done) | (simp; omega)) _)
          · obtain ⟨r0, hr0, ht⟩ := Txt.of (isAb_ok hab)
            obtain rfl : r0 = r := by omega
            have HT := Lib.hid ht
            clear ht hr0
            obtain ⟨T, hT⟩ : ∃ T, T = bs (txt xs r0) := ⟨_, rfl⟩
            have HTE := Lib.hid hT
            clear hT
            by_cases heq : txt xs r0 = s
            · have e1 : (T.toList == S.toList) = true := by rw [HTE.out, HSE.out, heq]; exact beq_self_eq_true _
              have HV : Hid (((xs, r0), 0) = fin (readS s) s) := Lib.hid (by rw [HF.out, if_pos ⟨hab, heq⟩])
              clear heq
              go_wp2_with (first
                | (go_at_call 15; refine (spec_IsAbelian_any _ _ _ xs _ _ (by exact HO.out.rd) rfl (by omega)).mono ?_; rw [hab]; rintro e w5 ⟨rfl, hb⟩; have HB5 := Lib.hid hb; clear hb; have Z2 := Lib.hid (X2.out.keep HB5.out); have z0 := Z2.out.cell 0; have z1 := Z2.out.cell 1; have l2 := Z2.out.lt; simp at z0 z1)
                | (go_at_call 16; refine (spec_text_any _ _ _ xs r0 _ (by exact HO.out.rd.keep HB5.out (Nat.le_refl _)) rfl HT.out).mono ?_; rw [← HTE.out]; rintro e w6 ⟨rfl, hb⟩; have HB6 := Lib.hid (HB5.out.trans (hb.mono HB5.out.size)); clear hb; have Y1 := Lib.hid (X1.out.keep HB6.out); have Y2 := Lib.hid (X2.out.keep HB6.out); have f0 := Y1.out.frz 0; have f1 := Y1.out.frz 1; have y0 := Y1.out.cell 0; have y1 := Y1.out.cell 1; have l1 := Y1.out.lt; have v0 := Y2.out.cell 0; have v1 := Y2.out.cell 1; have l3 := Y2.out.lt; simp at y0 y1 v0 v1))
              have X := (Y1.out.set 0 (.slice ad xs.length cap)).set 1 (.int .i64 r0)
              have q0 := X.cell 0
              have q1 := X.cell 1
              simp at q0 q1
              refine bodyPost_ret (v := .tuple #[.agg #[.slice ad xs.length cap, .int .i64 r0], .int .i64 0]) (by simp [results, Tryd.results10, go_sem, q0, q1]) rfl ⟨xs, r0, 0, ad, cap, rfl, HV.out, ?_, ?_⟩
              · exact ((((HO.out.keep HB6.out (Nat.le_refl _)).setCell (by simp) _).setCell (by simp) _).mono (by omega))
              · exact (((HB.out.trans (HB6.out.mono HB.out.size)).setCell (by first | (simp; done) | (simp; omega)) _).setCell (by first | (simp; done) | (simp; omega)) _)
            · have e1 : (T.toList == S.toList) = false := by rw [HTE.out, HSE.out, Lib.toList_data, Lib.toList_data]; exact beq_eq_false_iff_ne.2 heq
              have HV : Hid ((([], 0), 6) = fin (readS s) s) := Lib.hid (by rw [HF.out, if_neg (fun h => heq h.2)])
              clear heq
              go_wp2_with (first
                | (go_at_call 15; refine (spec_IsAbelian_any _ _ _ xs _ _ (by exact HO.out.rd) rfl (by omega)).mono ?_; rw [hab]; rintro e w5 ⟨rfl, hb⟩; have HB5 := Lib.hid hb; clear hb; have Z2 := Lib.hid (X2.out.keep HB5.out); have z0 := Z2.out.cell 0; have z1 := Z2.out.cell 1; have l2 := Z2.out.lt; simp at z0 z1)
                | (go_at_call 16; refine (spec_text_any _ _ _ xs r0 _ (by exact HO.out.rd.keep HB5.out (Nat.le_refl _)) rfl HT.out).mono ?_; rw [← HTE.out]; rintro e w6 ⟨rfl, hb⟩; have HB6 := Lib.hid (HB5.out.trans (hb.mono HB5.out.size)); clear hb; have Y1 := Lib.hid (X1.out.keep HB6.out); have f0 := Y1.out.frz 0; have f1 := Y1.out.frz 1; have y0 := Y1.out.cell 0; have y1 := Y1.out.cell 1; have l1 := Y1.out.lt; simp at y0 y1))
              have X := (Y1.out.set 0 (.slice none 0 0)).set 1 (.int .i64 0)
              have q0 := X.cell 0
              have q1 := X.cell 1
              simp at q0 q1
              refine bodyPost_ret (v := .tuple #[.agg #[.slice none 0 0, .int .i64 0], .int .i64 6]) (by simp [results, Tryd.results10, go_sem, q0, q1]) rfl ⟨[], 0, 6, none, 0, rfl, HV.out, OwnI.none, ?_⟩
              exact (((HB.out.trans (HB6.out.mono HB.out.size)).setCell (by first | (simp; done) | (simp; omega)) _).setCell (by first | (simp; done) | (simp; omega)) _)
      · have k1 : ¬ (k : Int) < 10 := by omega
        clear hgo
        cases hab : isAb xs r
        · have HV : Hid ((([], 0), 6) = fin (readS s) s) := Lib.hid (by rw [HF.out, if_neg (fun h => by rw [hab] at h; cases h.1)])
          go_wp2_with (go_at_call 15; refine (spec_IsAbelian_any _ _ _ xs _ _ (by exact HO.out.rd) rfl (by omega)).mono ?_; rw [hab]; rintro e w5 ⟨rfl, hb⟩; have HB5 := Lib.hid hb; clear hb; have Y1 := Lib.hid (X1.out.keep HB5.out); have f0 := Y1.out.frz 0; have f1 := Y1.out.frz 1; have y0 := Y1.out.cell 0; have y1 := Y1.out.cell 1; have l1 := Y1.out.lt; simp at y0 y1)
          have X := (Y1.out.set 0 (.slice none 0 0)).set 1 (.int .i64 0)
          have x0 := X.cell 0
          have x1 := X.cell 1
          simp at x0 x1
          refine bodyPost_ret (v := .tuple #[.agg #[.slice none 0 0, .int .i64 0], .int .i64 6]) (by simp [results, Tryd.results10, go_sem, x0, x1]) rfl ⟨[], 0, 6, none, 0, rfl, HV.out, OwnI.none, ?_⟩
          exact (((HB.out.trans (HB5.out.mono HB.out.size)).setCell (by first | (simp; done) | (simp; omega)) _).setCell (by first | (simp; done) | (simp; omega)) _)
        · obtain ⟨r0, hr0, ht⟩ := Txt.of (isAb_ok hab)
          obtain rfl : r0 = r := by omega
          have HT := Lib.hid ht
          clear ht hr0
          obtain ⟨T, hT⟩ : ∃ T, T = bs (txt xs r0) := ⟨_, rfl⟩
          have HTE := Lib.hid hT
          clear hT
          by_cases heq : txt xs r0 = s
          · have e1 : (T.toList == S.toList) = true := by rw [HTE.out, HSE.out, heq]; exact beq_self_eq_true _
            have HV : Hid (((xs, r0), 0) = fin (readS s) s) := Lib.hid (by rw [HF.out, if_pos ⟨hab, heq⟩])
            clear heq
            go_wp2_with (first
              | (go_at_call 15; refine (spec_IsAbelian_any _ _ _ xs _ _ (by exact HO.out.rd) rfl (by omega)).mono ?_; rw [hab]; rintro e w5 ⟨rfl, hb⟩; have HB5 := Lib.hid hb; clear hb; have Z2 := Lib.hid (X2.out.keep HB5.out); have z0 := Z2.out.cell 0; have z1 := Z2.out.cell 1; have l2 := Z2.out.lt; simp at z0 z1)
              | (go_at_call 16; refine (spec_text_any _ _ _ xs r0 _ (by exact HO.out.rd.keep HB5.out (Nat.le_refl _)) rfl HT.out).mono ?_; rw [← HTE.out]; rintro e w6 ⟨rfl, hb⟩; have HB6 := Lib.hid (HB5.out.trans (hb.mono HB5.out.size)); clear hb; have Y1 := Lib.hid (X1.out.keep HB6.out); have Y2 := Lib.hid (X2.out.keep HB6.out); have f0 := Y1.out.frz 0; have f1 := Y1.out.frz 1; have y0 := Y1.out.cell 0; have y1 := Y1.out.cell 1; have l1 := Y1.out.lt; have v0 := Y2.out.cell 0; have v1 := Y2.out.cell 1; have l3 := Y2.out.lt; simp at y0 y1 v0 v1))
            have X := (Y1.out.set 0 (.slice ad xs.length cap)).set 1 (.int .i64 r0)
            have q0 := X.cell 0
            have q1 := X.cell 1
            simp at q0 q1
            refine bodyPost_ret (v := .tuple #[.agg #[.slice ad xs.length cap, .int .i64 r0], .int .i64 0]) (by simp [results, Tryd.results10, go_sem, q0, q1]) rfl ⟨xs, r0, 0, ad, cap, rfl, HV.out, ?_, ?_⟩
            · exact ((((HO.out.keep HB6.out (Nat.le_refl _)).setCell (by simp) _).setCell (by simp) _).mono (by omega))
            · exact (((HB.out.trans (HB6.out.mono HB.out.size)).setCell (by first | (simp; done) | (simp; omega)) _).setCell (by first | (simp; done) | (simp; omega)) _)
          · have e1 : (T.toList == S.toList) = false := by rw [HTE.out, HSE.out, Lib.toList_data, Lib.toList_data]; exact beq_eq_false_iff_ne.2 heq
            have HV : Hid ((([], 0), 6) = fin (readS s) s) := Lib.hid (by rw [HF.out, if_neg (fun h => heq h.2)])
            clear heq
            go_wp2_with (first
              | (go_at_call 15; refine (spec_IsAbelian_any _ _ _ xs _ _ (by exact HO.out.rd) rfl (by omega)).mono ?_; rw [hab]; rintro e w5 ⟨rfl, hb⟩; have HB5 := Lib.hid hb; clear hb; have Z2 := Lib.hid (X2.out.keep HB5.out); have z0 := Z2.out.cell 0; have z1 := Z2.out.cell 1; have l2 := Z2.out.lt; simp at z0 z1)
              | (go_at_call 16; refine (spec_text_any _ _ _ xs r0 _ (by exact HO.out.rd.keep HB5.out (Nat.le_refl _)) rfl HT.out).mono ?_; rw [← HTE.out]; rintro e w6 ⟨rfl, hb⟩; have HB6 := Lib.hid (HB5.out.trans (hb.mono HB5.out.size)); clear hb; have Y1 := Lib.hid (X1.out.keep HB6.out); have f0 := Y1.out.frz 0; have f1 := Y1.out.frz 1; have y0 := Y1.out.cell 0; have y1 := Y1.out.cell 1; have l1 := Y1.out.lt; simp at y0 y1))
            have X := (Y1.out.set 0 (.slice none 0 0)).set 1 (.int .i64 0)
            have q0 := X.cell 0
            have q1 := X.cell 1
            simp at q0 q1
            refine bodyPost_ret (v := .tuple #[.agg #[.slice none 0 0, .int .i64 0], .int .i64 6]) (by simp [results, Tryd.results10, go_sem, q0, q1]) rfl ⟨[], 0, 6, none, 0, rfl, HV.out, OwnI.none, ?_⟩
            exact (((HB.out.trans (HB6.out.mono HB.out.size)).setCell (by first | (simp; done) | (simp; omega)) _).setCell (by first | (simp; done) | (simp; omega)) _)
--ENDSPEC
end Go.Proofs.YtfinngmohhnnoaaDoor
