/- The reference's AllAbelian. -/
import Derived.Test.YtkidohohiihbaaaAllR
set_option linter.unusedVariables false
set_option linter.unusedSimpArgs false
namespace Go.Proofs.Ytkidohohiihbaaa
open Go.RowKit
theorem okE_ok {l : List Nat} (h : okE l = true) : 1 ≤ l.length ∧ l.length ≤ 12 ∧ ∀ i, i < l.length → 1 ≤ nel l i ∧ nel l i ≤ 1000 := by
  unfold okE at h
  simp only [Bool.and_eq_true, decide_eq_true_eq, List.all_eq_true] at h
  refine ⟨h.1.1, h.1.2, fun i hi => ?_⟩
  have e : nel l i = l[i] := by simp [nel, hi]
  rw [e]
  exact h.2 _ (List.getElem_mem hi)
theorem toI_take (l : List Nat) (k : Nat) : toI (l.take k) = (toI l).take k := by simp [toI]
theorem toI_app (l r : List Nat) : toI (l ++ r) = toI l ++ toI r := by simp [toI]
theorem kidsN_no {pre : List Nat} {rest d : Nat} {st : List (List Nat)} (h : ¬ (1 < d + 1 ∧ okN pre rest (d + 1) = true)) : kidsN pre rest (d + 1) st = kidsN pre rest d st := by rw [kidsN, if_neg h]
theorem kidsN_yes {pre : List Nat} {rest d : Nat} {st : List (List Nat)} (h : 1 < d + 1 ∧ okN pre rest (d + 1) = true) : kidsN pre rest (d + 1) st = kidsN pre rest d ((pre ++ [d + 1, rest / (d + 1)]) :: st) := by rw [kidsN, if_pos h]
theorem kidsN_end {pre : List Nat} {rest d : Nat} {st : List (List Nat)} (h : d ≤ 1) : kidsN pre rest d st = st := by
  rcases (show d = 0 ∨ d = 1 by omega) with rfl | rfl
  · rfl
  · rw [kidsN_no (fun h => by omega)]; rfl
theorem rdV2 {T : TypeId} {w : World} {b : Nat} {x y : Value} (h : BX T w b #[x, y]) : RdV w (some ⟨b, 0, none⟩) [x, y] := fun _ => ⟨b, 0, rfl, fun i hi => by
  rw [Nat.zero_add, h.cell i, ← Array.getElem?_toList]⟩
theorem tmod_nat (a b : Nat) : (a : Int).tmod (b : Int) = ((a % b : Nat) : Int) := by rw [Int.tmod_eq_emod_of_nonneg (by omega)]; exact (Int.natCast_emod a b).symm
theorem tdiv_nat (a b : Nat) : (a : Int).tdiv (b : Int) = ((a / b : Nat) : Int) := by rw [Int.tdiv_eq_ediv_of_nonneg (by omega)]; exact (Int.natCast_ediv a b).symm
theorem Try.infoAb2 : (Try.prog.info? 37).map (fun i => (i.zero, i.size, i.bytes)) = some (some (.agg #[.slice none 0 0, .int .i64 0]), 2, 32) := by kernel_rfl
/-- the stack at the start -/
theorem start_Sr (n : Nat) (w : World) {W : World} (hW : W = ((w.alloc (.cells #[] 37)).alloc (.cells #[.int .i64 n] 2)).alloc (.cells #[.slice (some ⟨w.heap.size + 1, 0, none⟩) 1 1] 25)) :
    Sr 37 25 2 w W w.heap.size (some ⟨w.heap.size + 1 + 1, 0, none⟩) 1 1 (([[n]] : List (List Nat)).reverse.map toI) (fun _ => some ⟨w.heap.size + 1, 0, none⟩) (fun _ => 1) (some ⟨w.heap.size, 0, none⟩) 0 0 [] (fun _ => none) (fun _ => 0) none [] := by
  subst hW
  have s1 : (w.alloc (.cells #[] 37)).heap.size = w.heap.size + 1 := by simp
  have s2 : ((w.alloc (.cells #[] 37)).alloc (.cells #[.int .i64 n] 2)).heap.size = w.heap.size + 1 + 1 := by simp
  have hr : OwnI 2 (((w.alloc (.cells #[] 37)).alloc (.cells #[.int .i64 n] 2)).alloc (.cells #[.slice (some ⟨w.heap.size + 1, 0, none⟩) 1 1] 25)) w.heap.size (some ⟨w.heap.size + 1, 0, none⟩) 1 1 [(n : Int)] := by
    have h := OwnI.lit (w.alloc (.cells #[] 37)) 2 [(n : Int)] #[.int .i64 n] rfl (by simp [maxLen])
    rw [s1] at h
    exact (h.mono (by omega)).alloc _
  have ho : OwnA 37 2 (((w.alloc (.cells #[] 37)).alloc (.cells #[.int .i64 n] 2)).alloc (.cells #[.slice (some ⟨w.heap.size + 1, 0, none⟩) 1 1] 25)) w.heap.size (some ⟨w.heap.size, 0, none⟩) 0 0 [] (fun _ => none) (fun _ => 0) (fun _ => 0) :=
    ((OwnA.empty w _ _ _).keep ((Below.refl _ _).alloc (Nat.le_refl _) _) (Nat.le_refl _)).keep ((Below.refl _ _).alloc (Nat.le_refl _) _) (Nat.le_refl _)
  refine ⟨⟨rfl, ⟨rfl, .inr ⟨w.heap.size + 1 + 1, 1, #[.slice (some ⟨w.heap.size + 1, 0, none⟩) 1 1], rfl, by omega, ?_, Nat.le_refl _, by unfold maxLen; omega, rfl, rfl⟩⟩, fun i hi => ?_, fun i j hi hj hne => by omega, fun i hi p q hp hq => ?_⟩, ho, fun p q hp hq => ?_, fun i hi => absurd hi (by omega), fun i hi p q hp hq => ?_, RdI.nil _ _, fun p hp => (by cases hp), Apart.none_r _, Apart.none_r _, ?_, by simp; omega⟩
  · rw [← s2]; exact heap_alloc_new _ _
  · obtain rfl : i = 0 := by omega
    exact hr
  · injection hp with e1; injection hq with e2; subst e1; subst e2; simp
  · injection hp with e1; injection hq with e2; subst e1; subst e2; simp; omega
  · injection hp with e1; injection hq with e2; subst e1; subst e2; simp
  · exact (((Below.refl _ _).alloc (Nat.le_refl _) _).alloc (by omega) _).alloc (by omega) _
set_option maxRecDepth 20000 in
set_option maxHeartbeats 4000000 in
theorem spec_AllAbelian_any (n : Nat) (w : World) (h1 : 1 ≤ n) (h2 : n ≤ 1000) :
    Calls Try.prog 75 #[.int .i64 n] w fun e w' => ∃ (a : Option Addr) (c : Nat) (A : Nat → Option Addr) (C : Nat → Nat), e = .returned (.tuple #[.slice a (refN n).length c, .int .i64 0]) ∧
      OwnA 37 2 w' w.heap.size a (refN n).length c ((refN n).map toI) A C (fun _ => 0) ∧ Below w.heap.size w w' := by
  have HOK := Lib.hid (allOk h1 h2)
  have z1 : (1 : Int) ≤ (n : Int) := by omega
  have z2 : (n : Int) ≤ 1000 := by omega
  go_enter Try.func75, Try.ntmps75
  go_wp2_with (go_at_call 81; refine (l01In_t _ _ _ _ z1 z2).mono ?_; rintro e w' ⟨rfl, rfl⟩)
  obtain ⟨W, hW⟩ : ∃ W, W = ((w.alloc (.cells #[] 37)).alloc (.cells #[.int .i64 n] 2)).alloc (.cells #[.slice (some ⟨w.heap.size + 1, 0, none⟩) 1 1] 25) := ⟨_, rfl⟩
  have HS0 : Hid (Sr 37 25 2 w W w.heap.size (some ⟨w.heap.size + 1 + 1, 0, none⟩) 1 1 (([[n]] : List (List Nat)).reverse.map toI) (fun _ => some ⟨w.heap.size + 1, 0, none⟩) (fun _ => 1) (some ⟨w.heap.size, 0, none⟩) 0 0 [] (fun _ => none) (fun _ => 0) none []) := Lib.hid (start_Sr n w hW)
  rw [← hW]
  clear hW
  go_loopw [5, 4] (fun v u wr => ∃ (f m k : Nat) (st out : List (List Nat)) (a1 : Option Addr) (c1 : Nat) (A1 : Nat → Option Addr) (C1 : Nat → Nat) (a2 : Option Addr) (c2 : Nat) (A2 : Nat → Option Addr) (C2 : Nat → Nat), v = .slice a1 m c1 ∧ u = .slice a2 k c2 ∧ Hid (f ≤ 400 ∧ st.length = m ∧ out.length = k ∧ chkS f st = true ∧ resS f st out = refN n ∧ k + f ≤ 400 ∧
      Sr 37 25 2 w wr w.heap.size a1 m c1 (st.reverse.map toI) A1 C1 a2 k c2 (out.map toI) A2 C2 none [])) (fun v _ wr => fuelS (stAt wr v).reverse)
  case atStart => exact ⟨400, 1, 0, [[n]], [], _, _, _, _, _, _, _, _, rfl, rfl, Lib.hid ⟨Nat.le_refl _, rfl, rfl, HOK.out.s, rfl, Nat.le_refl _, HS0.out⟩⟩
  case round =>
    clear HS0
    obtain ⟨f, m, k, st, out, a1, c1, A1, C1, a2, c2, A2, C2, rfl, rfl, HR⟩ := hrel
    obtain ⟨wo, rfl⟩ : ∃ x, x = wr := ⟨wr, rfl⟩
    cases m with
    | zero =>
      have HF : Hid (out = refN n) := Lib.hid (by
        have h := HR.out.2.2.2.2.1
        rw [List.eq_nil_of_length_eq_zero HR.out.2.1] at h
        rw [← h]; cases f <;> rfl)
      have HLK : Hid (out.length = k) := Lib.hid HR.out.2.2.1
      have HO9 := Lib.hid HR.out.2.2.2.2.2.2
      go_wp2_with fail
      go_ret2
      have h := HO9.out.ou
      have e : (refN n).length = k := by rw [← HF.out]; exact HLK.out
      rw [HF.out] at h
      exact ⟨a2, c2, A2, C2, by rw [e]; rfl, by rw [e]; exact h, HO9.out.bel⟩
    | succ m =>
      obtain ⟨l, st', hst⟩ : ∃ l st', st = l :: st' := by
        cases hst : st with
        | nil => have h := HR.out.2.1; rw [hst] at h; simp at h
        | cons l st' => exact ⟨l, st', rfl⟩
      subst hst
      obtain ⟨f', hf'⟩ : ∃ f', f = f' + 1 := by
        cases f with
        | zero => have h := HR.out.2.2.2.1; simp [chkS] at h
        | succ f' => exact ⟨f', rfl⟩
      subst hf'
      have HCK : Hid (okE l = true ∧ st'.length ≤ 500 ∧ chkS f' (nextN l st') = true) := Lib.hid (by
        have h := HR.out.2.2.2.1
        simp only [chkS, Bool.and_eq_true, decide_eq_true_eq] at h
        exact ⟨h.1.1, h.1.2, h.2⟩)
      have HRS : Hid (resS f' (nextN l st') (outN l out) = refN n) := Lib.hid HR.out.2.2.2.2.1
      have HML : Hid (st'.length = m) := Lib.hid (by have := HR.out.2.1; simpa using this)
      have HKL : Hid (out.length = k) := Lib.hid HR.out.2.2.1
      have hkf : k + (f' + 1) ≤ 400 := HR.out.2.2.2.2.2.1
      have HFU : Hid (fuelS (nextN l st') < fuelS (l :: st')) := Lib.hid (fuelS_step HR.out.2.2.2.1 HR.out.1)
      have HM0 : Hid ((stAt wo (.slice a1 (m + 1) c1)).reverse = l :: st') := Lib.hid (by
        have h := stAt_eq (L := (l :: st').reverse) (c := c1) HR.out.2.2.2.2.2.2.op.rd
        rw [List.length_reverse, List.length_cons, HML.out] at h
        rw [h, List.reverse_reverse])
      have hS : (l :: st').reverse.map toI = st'.reverse.map toI ++ [toI l] := by simp
      have hm5 : m ≤ 500 := by rw [← HML.out]; exact HCK.out.2.1
      obtain ⟨hl1, hl2, hl3⟩ := okE_ok HCK.out.1
      have hsr := HR.out.2.2.2.2.2.2
      rw [hS] at hsr
      have hcap : m + 1 ≤ c1 := hsr.op.capl
      obtain ⟨g1, hg1, hcell⟩ := ownsRow_cell hsr.op.own (by omega)
      subst hg1
      have c5 := hcell m (by omega)
      rw [rowVals_get (show m < m + 1 by omega), show m = (st'.reverse.map toI).length by simp [HML.out], rw_append_eq] at c5
      rw [show (st'.reverse.map toI).length = m by simp [HML.out], toI_len] at c5
      have HP : Hid (Sr 37 25 2 w wo w.heap.size (some ⟨g1, 0, none⟩) m c1 (st'.reverse.map toI) A1 C1 a2 k c2 (out.map toI) A2 C2 (A1 m) (toI l)) := Lib.hid (hsr.pop (by simp [HML.out]))
      obtain ⟨K, hK⟩ : ∃ K, l.length = K + 1 := ⟨l.length - 1, by omega⟩
      have hK11 : K ≤ 11 := by omega
      rw [hK] at c5
      have hclr : K + 1 ≤ C1 m := by
        have h := (hsr.op.row m (by omega)).capl
        rw [show m = (st'.reverse.map toI).length by simp [HML.out], rw_append_eq, toI_len, hK] at h
        rwa [show (st'.reverse.map toI).length = m by simp [HML.out]] at h
      obtain ⟨br, orr, hal, cK⟩ := rdI_at HP.out.rd (show K < (toI l).length by rw [toI_len]; omega)
      rw [toI_el (by omega)] at cK
      obtain ⟨R, hRR⟩ : ∃ R, R = nel l K := ⟨_, rfl⟩
      have HRE : Hid (R = restN l) := Lib.hid (by rw [hRR]; unfold restN; rw [hK]; rfl)
      have hR1 : 1 ≤ R ∧ R ≤ 1000 := by rw [hRR]; exact hl3 K (by omega)
      rw [← hRR] at cK
      have HKE := Lib.hid hK
      have HL3 := Lib.hid hl3
      have HPRE : Hid (preN l = l.take K) := Lib.hid (by unfold preN; rw [hK]; rfl)
      rw [hal] at c5
      have HAL := Lib.hid hal
      clear hS hsr hcell hl1 hl2 hl3 hK hRR hal HR
      by_cases hR11 : R = 1
      · have r1 : ((R : Int) == 1) = true := beq_iff_eq.2 (by omega)
        have r2 : (R == 1) = true := beq_iff_eq.2 hR11
        have HOUT : Hid (outN l out = out ++ [preN l]) := Lib.hid (by unfold outN; rw [← HRE.out, if_pos hR11])
        have HOL : Hid ((outN l out).length = k + 1) := Lib.hid (by rw [HOUT.out, List.length_append, HKL.out]; rfl)
        have HRD : Hid (RdI wo (some ⟨br, orr, none⟩) (toI l)) := Lib.hid (by rw [← HAL.out]; exact HP.out.rd)
        clear hR11
        go_wp2_with fail
        refine (l01Own_any (some ⟨br, orr, none⟩) K (C1 m) ((toI l).take K) _ (by exact HRD.out.take K (by rw [toI_len, HKE.out]; omega)) (by rw [List.length_take, toI_len, HKE.out]; omega) (by omega)).mono ?_
        rintro e w3 ⟨a5, c5', rfl, ho, hb⟩
        have HO5 := Lib.hid ho
        have HB5 := Lib.hid hb
        have sz3 : wo.heap.size ≤ w3.heap.size := hb.size
        clear ho hb
        have HSZ : Hid (w.heap.size ≤ (w3.alloc (.cells #[.slice a5 K c5', .int .i64 0] 37)).heap.size) := Lib.hid (by have := HP.out.hB; simp; omega)
        have HOX : Hid (OwnA 37 2 (w3.alloc (.cells #[.slice a5 K c5', .int .i64 0] 37)) w.heap.size a2 k c2 (out.map toI) A2 C2 (fun _ => 0)) := Lib.hid ((HP.out.ou.keep HB5.out (Nat.le_refl _)).keep ((Below.refl _ _).alloc (Nat.le_refl _) _) (Nat.le_refl _))
        have HBY : Hid (Below wo.heap.size wo (w3.alloc (.cells #[.slice a5 K c5', .int .i64 0] 37))) := Lib.hid (HB5.out.alloc sz3 _)
        have HCL : Hid (∀ t u, [(.slice a5 K c5' : Value), .int .i64 0][t]? = some u → (w3.alloc (.cells #[.slice a5 K c5', .int .i64 0] 37)).cell? ⟨w3.heap.size, t, none⟩ = some u) := Lib.hid (fun t u ht => by
          have h : (w3.alloc (.cells #[.slice a5 K c5', .int .i64 0] 37)).cell? ⟨w3.heap.size, t, none⟩ = (#[.slice a5 K c5', .int .i64 0] : Array Value)[t]? := (BX.new _ _ _).cell t
          rw [h, ← ht, ← Array.getElem?_toList])
        go_wp2_with (at_builtin; refine wpList_pushK rfl (.tmp 40) (.tmp 46) 81 rfl w.heap.size 37 (.agg #[.slice none 0 0, .int .i64 0]) 2 32 Try.underlying81 Try.infoAb2 rfl (by decide) (by decide) [.slice a5 K c5', .int .i64 0] rfl (by intro u hu; simp at hu; rcases hu with rfl | rfl <;> rfl) _ _ _ _ rfl w3.heap.size rfl HCL.out (by exact HOX.out.own) (by omega) HSZ.out ?_; rintro a6 c6 w6 r4 q4 g4; have HN := Lib.hid (HP.out.out HBY.out (HO5.out.alloc _) (Nat.le_refl _) r4 q4 g4); clear r4 q4 g4)
        have HQ : Hid (Sr 37 25 2 w w6 w.heap.size (some ⟨g1, 0, none⟩) m c1 (st'.reverse.map toI) A1 C1 a6 (k + 1) c6 ((outN l out).map toI) (upd A2 k a5) (upd C2 k c5') (some ⟨br, orr, none⟩) (toI l)) := Lib.hid (by
          have h := HN.out
          rw [HAL.out, ← toI_take, ← HPRE.out] at h
          rw [HOUT.out, List.map_append]
          exact h)
        clear HP HN HOX HBY HCL HSZ HRD
        go_loopw [9, 5] (fun d v wr => ∃ (D q : Nat) (cur : List (List Nat)) (a3 : Option Addr) (c3 : Nat) (A3 : Nat → Option Addr) (C3 : Nat → Nat), d = .int .i64 D ∧ v = .slice a3 q c3 ∧ D ≤ R ∧ q + D ≤ m + R ∧ Hid (cur.length = q ∧ kidsN (preN l) R D cur = nextN l st' ∧ Sr 37 25 2 w wr w.heap.size a3 q c3 (cur.reverse.map toI) A3 C3 a6 (k + 1) c6 ((outN l out).map toI) (upd A2 k a5) (upd C2 k c5') (some ⟨br, orr, none⟩) (toI l))) (fun d _ _ => (intOf d).toNat)
        case atStart => exact ⟨R, m, st', _, _, _, _, rfl, rfl, Nat.le_refl _, Nat.le_refl _, Lib.hid ⟨HML.out, by unfold nextN; rw [HRE.out], HQ.out⟩⟩
        case round =>
          clear HQ
          obtain ⟨D, q, cur, a3, c3, A3, C3, rfl, rfl, hD, hqD, HJ⟩ := hrel
          obtain ⟨wj, rfl⟩ : ∃ x, x = wr := ⟨wr, rfl⟩
          by_cases hD1 : 1 < D
          · have gg1 : (1 : Int) < (D : Int) := by omega
            have g2 : decide ((1 : Int) < (D : Int)) = true := decide_eq_true gg1
            have g3 : decide (1 < D) = true := decide_eq_true hD1
            have g4 : ¬ (D : Int) = 0 := by omega
            have g5 : ((D : Int) == 0) = false := beq_eq_false_iff_ne.2 (by omega)
            have g6 : ¬ D = 0 := by omega
            have g7 : (D == 0) = false := beq_eq_false_iff_ne.2 g6
            obtain ⟨z, hz⟩ : ∃ z, z = R % D := ⟨_, rfl⟩
            have em1 : (R : Int).tmod (D : Int) = (z : Int) := by rw [tmod_nat, hz]
            obtain ⟨t, ht⟩ : ∃ t, t = R / D := ⟨_, rfl⟩
            obtain ⟨tI, htI⟩ : ∃ tI : Int, tI = (t : Int) := ⟨_, rfl⟩
            have ed1 : (R : Int).tdiv (D : Int) = tI := by rw [tdiv_nat, htI, ht]
            have ht9 : t ≤ 1000 := Nat.le_trans (by rw [ht]; exact Nat.div_le_self _ _) hR1.2
            have hZ0 : 0 ≤ tI := by omega
            have hZ1 : tI ≤ 1000 := by omega
            have HTI := Lib.hid htI
            clear htI
            have HZ := Lib.hid hz
            have HT := Lib.hid ht
            clear hz ht
            obtain ⟨d, hd⟩ : ∃ d, D = d + 1 := ⟨D - 1, by omega⟩
            have HDD := Lib.hid hd
            have hdd : (D : Int) - 1 = (d : Int) := by omega
            have HNO : Hid (okN (preN l) R D = false → kidsN (preN l) R d cur = nextN l st') := Lib.hid (fun h => by
              rw [← HJ.out.2.1, HDD.out, kidsN_no (fun h2 => by rw [← HDD.out, h] at h2; exact absurd h2.2 (by decide))])
            have HYES : Hid (okN (preN l) R D = true → kidsN (preN l) R d ((preN l ++ [D, t]) :: cur) = nextN l st') := Lib.hid (fun h => by
              rw [← HJ.out.2.1, HDD.out, kidsN_yes ⟨by omega, by rw [← HDD.out]; exact h⟩, HT.out, HDD.out])
            have HOKN : Hid (okN (preN l) R D = (z == 0 && (K == 0 || D % nel l (K - 1) == 0))) := Lib.hid (by
              unfold okN
              rw [HPRE.out, ← HZ.out]
              have e1 : (l.take K).length = K := by rw [List.length_take, HKE.out]; omega
              rw [e1]
              by_cases h0 : K = 0
              · simp [h0]
              · have e2 : nel (l.take K) (K - 1) = nel l (K - 1) := by unfold nel; rw [List.getElem?_take, if_pos (by omega)]
                rw [e2])
            clear hd
            have NEXT : True := trivial
            by_cases hz0 : z = 0
            · have f1 : ((z : Int) == 0) = true := beq_iff_eq.2 (by omega)
              have f2 : (z == 0) = true := beq_iff_eq.2 hz0
              have HZ0 := Lib.hid hz0
              clear hz0
              by_cases hK0 : K = 0
              · have f3 : ((K : Int) == 0) = true := beq_iff_eq.2 (by omega)
                have f4 : (K == 0) = true := beq_iff_eq.2 hK0
                have HY : Hid (kidsN (preN l) R d ((preN l ++ [D, t]) :: cur) = nextN l st') := Lib.hid (HYES.out (by rw [HOKN.out, f2, f4]; rfl))
                clear hK0
                go_wp2_with fail
                have HRD : Hid (RdI wj (some ⟨br, orr, none⟩) ((toI l).take K)) := Lib.hid (HJ.out.2.2.rd.take K (by rw [toI_len, HKE.out]; omega))
                have HPL : Hid (((toI l).take K).length = K) := Lib.hid (by rw [List.length_take, toI_len, HKE.out]; omega)
                have s0 : (wj.alloc (.cells #[.int .i64 D, .int .i64 (IntKind.i64.wrap tI)] 2)).heap.size = wj.heap.size + 1 := by simp
                have s0' : (wj.alloc (.cells #[] 2)).heap.size = wj.heap.size + 1 := by simp
                have HEc : Hid (OwnI 2 (wj.alloc (.cells #[] 2)) wj.heap.size (some ⟨wj.heap.size, 0, none⟩) 0 0 []) := Lib.hid (OwnI.empty wj _)
                have HEb : Hid (OwnI 2 ((wj.alloc (.cells #[] 2)).alloc (.cells #[.int .i64 D, .int .i64 (IntKind.i64.wrap tI)] 2)) wj.heap.size (some ⟨wj.heap.size, 0, none⟩) 0 0 []) := Lib.hid (HEc.out.alloc _)
                have HEa : Hid (OwnI 2 ((wj.alloc (.cells #[.int .i64 D, .int .i64 (IntKind.i64.wrap tI)] 2)).alloc (.cells #[] 2)) wj.heap.size (some ⟨wj.heap.size + 1, 0, none⟩) 0 0 []) := Lib.hid (by
                  have h := OwnI.empty (wj.alloc (.cells #[.int .i64 D, .int .i64 (IntKind.i64.wrap tI)] 2)) 2
                  rw [s0] at h
                  exact h.mono (by omega))
                have HBa : Hid (Below wj.heap.size wj ((wj.alloc (.cells #[.int .i64 D, .int .i64 (IntKind.i64.wrap tI)] 2)).alloc (.cells #[] 2))) := Lib.hid (((Below.refl _ _).alloc (Nat.le_refl _) _).alloc (by omega) _)
                have HBb : Hid (Below wj.heap.size wj ((wj.alloc (.cells #[] 2)).alloc (.cells #[.int .i64 D, .int .i64 (IntKind.i64.wrap tI)] 2))) := Lib.hid (((Below.refl _ _).alloc (Nat.le_refl _) _).alloc (by omega) _)
                have HBc : Hid (Below wj.heap.size wj (wj.alloc (.cells #[] 2))) := Lib.hid ((Below.refl _ _).alloc (Nat.le_refl _) _)
                have HVa : Hid (BX 2 ((wj.alloc (.cells #[.int .i64 D, .int .i64 (IntKind.i64.wrap tI)] 2)).alloc (.cells #[] 2)) wj.heap.size #[.int .i64 D, .int .i64 (IntKind.i64.wrap tI)]) := Lib.hid ((BX.new wj _ _).alloc _)
                have HVb : Hid (BX 2 ((wj.alloc (.cells #[] 2)).alloc (.cells #[.int .i64 D, .int .i64 (IntKind.i64.wrap tI)] 2)) (wj.heap.size + 1) #[.int .i64 D, .int .i64 (IntKind.i64.wrap tI)]) := Lib.hid (by rw [← s0']; exact BX.new _ _ _)
                have HRa : Hid (RdV ((wj.alloc (.cells #[.int .i64 D, .int .i64 (IntKind.i64.wrap tI)] 2)).alloc (.cells #[] 2)) (some ⟨br, orr, none⟩) (((toI l).take K).map (Value.int .i64))) := Lib.hid ((HRD.out.alloc _).alloc _).vals
                have HRb : Hid (RdV ((wj.alloc (.cells #[] 2)).alloc (.cells #[.int .i64 D, .int .i64 (IntKind.i64.wrap tI)] 2)) (some ⟨br, orr, none⟩) (((toI l).take K).map (Value.int .i64))) := Lib.hid ((HRD.out.alloc _).alloc _).vals
                have HRc : Hid (RdV (wj.alloc (.cells #[] 2)) (some ⟨br, orr, none⟩) (((toI l).take K).map (Value.int .i64))) := Lib.hid (HRD.out.alloc _).vals
                have HWR : Hid (IntKind.i64.wrap tI = tI) := Lib.hid (by rw [IntKind.wrap_i64]; omega)
                have hq9 : q ≤ 2000 := by omega
                have hszj : w.heap.size ≤ wj.heap.size := HJ.out.2.2.hB
                have hKc : K ≤ C1 m := by omega
                clear s0 s0'
                go_region_held3 (fun _ => True) (trivial)
                  (first
                    | (refine step_appT rfl (.tmp 72) (.tmp 75) 25 rfl wj.heap.size 2 (.int .i64 0) 8 Try.underlying25 Try.info2f rfl (by decide) _ _ _ _ rfl _ _ _ rfl (by first | exact HEc.out | exact HEb.out | exact HEa.out) (((toI l).take K).map (Value.int .i64)) (by rw [List.length_map]; exact HPL.out) (by first | exact HRc.out | exact HRb.out | exact HRa.out) (map_one _) (by omega) (by first | exact HBc.out.size | exact HBb.out.size | exact HBa.out.size) ?_; rintro ar cr u2 r4 q4 g4; rw [Nat.zero_add] at r4; rw [Nat.zero_add]; have HA1 : Hid (OwnI 2 u2 wj.heap.size ar K cr ((toI l).take K)) := Lib.hid r4; (first | (have HB1 : Hid (Below wj.heap.size wj u2) := Lib.hid (HBc.out.trans (show Below wj.heap.size (wj.alloc (.cells #[] 2)) u2 from Chg.below ⟨g4.os, g4.tape, g4.output, g4.size, g4.block⟩ HBc.out.size (fun b hb hx => by obtain ⟨x, hx, e⟩ := hx; injection hx with hx; subst hx; simp at e; omega))); clear HBb HBa) | (have HB1 : Hid (Below wj.heap.size wj u2) := Lib.hid (HBb.out.trans (show Below wj.heap.size ((wj.alloc (.cells #[] 2)).alloc (.cells #[.int .i64 D, .int .i64 (IntKind.i64.wrap tI)] 2)) u2 from Chg.below ⟨g4.os, g4.tape, g4.output, g4.size, g4.block⟩ HBb.out.size (fun b hb hx => by obtain ⟨x, hx, e⟩ := hx; injection hx with hx; subst hx; simp at e; omega))); have HV1 : Hid (RdV u2 (some ⟨wj.heap.size + 1, 0, none⟩) [.int .i64 D, .int .i64 (IntKind.i64.wrap tI)]) := Lib.hid (rdV2 (HVb.out.chg (show Chg _ ((wj.alloc (.cells #[] 2)).alloc (.cells #[.int .i64 D, .int .i64 (IntKind.i64.wrap tI)] 2)) u2 from ⟨g4.os, g4.tape, g4.output, g4.size, g4.block⟩) (fun hx => by obtain ⟨x, hx, e⟩ := hx; injection hx with hx; subst hx; simp at e))); clear HBa HBc) | (have HB1 : Hid (Below wj.heap.size wj u2) := Lib.hid (HBa.out.trans (show Below wj.heap.size ((wj.alloc (.cells #[.int .i64 D, .int .i64 (IntKind.i64.wrap tI)] 2)).alloc (.cells #[] 2)) u2 from Chg.below ⟨g4.os, g4.tape, g4.output, g4.size, g4.block⟩ HBa.out.size (fun b hb hx => by obtain ⟨x, hx, e⟩ := hx; injection hx with hx; subst hx; simp at e; omega))); have HV1 : Hid (RdV u2 (some ⟨wj.heap.size, 0, none⟩) [.int .i64 D, .int .i64 (IntKind.i64.wrap tI)]) := Lib.hid (rdV2 (HVa.out.chg (show Chg _ ((wj.alloc (.cells #[.int .i64 D, .int .i64 (IntKind.i64.wrap tI)] 2)).alloc (.cells #[] 2)) u2 from ⟨g4.os, g4.tape, g4.output, g4.size, g4.block⟩) (fun hx => by obtain ⟨x, hx, e⟩ := hx; injection hx with hx; subst hx; simp at e))); clear HBb HBc)); have su2 := HB1.out.size; have HV2 : Hid (RdV (u2.alloc (.cells #[.int .i64 D, .int .i64 (IntKind.i64.wrap tI)] 2)) (some ⟨u2.heap.size, 0, none⟩) [.int .i64 D, .int .i64 (IntKind.i64.wrap tI)]) := Lib.hid (rdV2 (BX.new u2 2 #[.int .i64 D, .int .i64 (IntKind.i64.wrap tI)])); have HA1y : Hid (u2.ownsRow wj.heap.size 2 1 (.slice ar K cr) K (((toI l).take K).map (Value.int .i64))) := Lib.hid r4; have HA1x : Hid ((u2.alloc (.cells #[.int .i64 D, .int .i64 (IntKind.i64.wrap tI)] 2)).ownsRow wj.heap.size 2 1 (.slice ar K cr) K (((toI l).take K).map (Value.int .i64))) := Lib.hid (HA1.out.alloc _); clear r4 q4 g4)
                    | (refine step_appT rfl (.tmp 76) (.tmp 81) 25 rfl wj.heap.size 2 (.int .i64 0) 8 Try.underlying25 Try.info2f rfl (by decide) _ _ _ _ rfl _ _ _ rfl (by first | with_reducible exact HA1x.out | with_reducible exact HA1y.out) [.int .i64 D, .int .i64 (IntKind.i64.wrap tI)] (by rfl) (by first | with_reducible exact HV2.out | with_reducible exact HV1.out) (by intro u hu; simp at hu; rcases hu with rfl | rfl <;> rfl) (by first | omega | (simp; omega)) (by first | exact su2 | (simp; omega)) ?_; rintro aw cs u3 r4 q4 g4; have HA2 : Hid (OwnI 2 u3 wj.heap.size aw (K + 2) cs (toI (preN l ++ [D, t]))) := Lib.hid (by rw [toI_app, HPRE.out, toI_take]; unfold OwnI; rw [List.map_append]; rw [HWR.out, HTI.out] at r4; exact r4); have HB2 : Hid (Below wj.heap.size wj u3) := Lib.hid (HB1.out.trans (by first | with_reducible exact (((Below.refl u2.heap.size u2).alloc (Nat.le_refl _) _).mono su2).trans (Chg.below (w := u2.alloc (.cells #[.int .i64 D, .int .i64 (IntKind.i64.wrap tI)] 2)) g4 (by simp; omega) (fun b hb hx => by obtain ⟨x, hx, e⟩ := hx; have := (HA1.out.block x hx).1; omega)) | exact Chg.below (w := u2) g4 su2 (fun b hb hx => by obtain ⟨x, hx, e⟩ := hx; have := (HA1.out.block x hx).1; omega))); have su3 := HB2.out.size; have HC3 : Hid ((u3.alloc (.cells #[.slice aw (K + 2) cs] 25)).cell? ⟨u3.heap.size, 0, none⟩ = some (.slice aw (K + 2) cs)) := Lib.hid ((BX.new u3 _ _).cell 0); have HO3 : Hid (OwnR 25 2 (u3.alloc (.cells #[.slice aw (K + 2) cs] 25)) w.heap.size a3 q c3 (cur.reverse.map toI) A3 C3) := Lib.hid ((HJ.out.2.2.op.keep HB2.out (Nat.le_refl _)).keep ((Below.refl _ _).alloc (Nat.le_refl _) _) (Nat.le_refl _)); clear r4 q4 g4)
                    | (refine step_pushW rfl (.tmp 71) (.tmp 83) 46 rfl w.heap.size 25 (.slice none 0 0) 24 Try.underlying46 Try.infoR rfl (by decide) (.slice aw (K + 2) cs) rfl a3 q c3 (rowVals (cur.reverse.map toI) A3 C3 q) u3.heap.size rfl rfl (by with_reducible exact HC3.out) (by with_reducible exact HO3.out.own) (by omega) (by simp; omega) ?_; rintro a4 c4 w4 r4 q4 g4; have HN := Lib.hid (HJ.out.2.2.push (wc := u3.alloc (.cells #[.slice aw (K + 2) cs] 25)) (HB2.out.alloc su3 _) (HA2.out.alloc _) (Nat.le_refl _) r4 q4 ⟨g4.os, g4.tape, g4.output, g4.size, g4.block⟩); clear r4 q4 g4))
                all_goals
                  have HN2 : Hid ((((preN l ++ [D, t]) :: cur).length = q + 1) ∧ Sr 37 25 2 w w4 w.heap.size a4 (q + 1) c4 (((preN l ++ [D, t]) :: cur).reverse.map toI) (upd A3 q aw) (upd C3 q cs) a6 (k + 1) c6 ((outN l out).map toI) (upd A2 k a5) (upd C2 k c5') (some ⟨br, orr, none⟩) (toI l)) := Lib.hid ⟨by rw [List.length_cons, HJ.out.1], by
                    have h := HN.out
                    rw [List.reverse_cons, List.map_append]
                    exact h⟩
                  clear HA1 HA1x HA1y HV2 HB1 HA2 HB2 HC3 HO3 HEa HEb HEc HVa HVb HRa HRb HRc
                  go_wp2_with fail
                  go_roundw
                  case rel => exact ⟨d, q + 1, (preN l ++ [D, t]) :: cur, a4, c4, _, _, rfl, rfl, by omega, by omega, Lib.hid ⟨HN2.out.1, HY.out, HN2.out.2⟩⟩
                  case measure => simp [intOf]; omega
              · have f3 : ((K : Int) == 0) = false := beq_eq_false_iff_ne.2 (by omega)
                have f4 : (K == 0) = false := beq_eq_false_iff_ne.2 hK0
                obtain ⟨J, hJ⟩ : ∃ J, J = K - 1 := ⟨_, rfl⟩
                have hJ1 : (K : Int) - 1 = (J : Int) := by omega
                obtain ⟨P, hP⟩ : ∃ P, P = nel l J := ⟨_, rfl⟩
                have hP1 : 1 ≤ P := by rw [hP]; exact (HL3.out J (by rw [HKE.out]; omega)).1
                have hP9 : P ≤ 1000 := by rw [hP]; exact (HL3.out J (by rw [HKE.out]; omega)).2
                have cJ : wj.cell? ⟨br, orr + J, none⟩ = some (.int .i64 P) := by
                  obtain ⟨b', o', e1, e2⟩ := rdI_at HJ.out.2.2.rd (show J < (toI l).length by rw [toI_len, HKE.out]; omega)
                  injection e1 with e1; injection e1 with e3 e4; subst e3; subst e4
                  rw [toI_el (by rw [HKE.out]; omega), ← hP] at e2
                  exact e2
                obtain ⟨y, hy⟩ : ∃ y, y = D % P := ⟨_, rfl⟩
                have em2 : (D : Int).tmod (P : Int) = (y : Int) := by rw [tmod_nat, hy]
                have p1 : ¬ (P : Int) = 0 := by omega
                have p2 : ((P : Int) == 0) = false := beq_eq_false_iff_ne.2 (by omega)
                have p3 : ¬ P = 0 := by omega
                have p4 : (P == 0) = false := beq_eq_false_iff_ne.2 p3
                have HOK2 : Hid (okN (preN l) R D = (y == 0)) := Lib.hid (by rw [HOKN.out, f2, f4, hy, hP, hJ]; simp)
                have hJK : J < K + 1 := by omega
                clear hy hP hJ hK0
                by_cases hy0 : y = 0
                · have f5 : ((y : Int) == 0) = true := beq_iff_eq.2 (by omega)
                  have f6 : (y == 0) = true := beq_iff_eq.2 hy0
                  have HY : Hid (kidsN (preN l) R d ((preN l ++ [D, t]) :: cur) = nextN l st') := Lib.hid (HYES.out (by rw [HOK2.out, f6]))
                  clear hy0
                  go_wp2_with fail
                  have HRD : Hid (RdI wj (some ⟨br, orr, none⟩) ((toI l).take K)) := Lib.hid (HJ.out.2.2.rd.take K (by rw [toI_len, HKE.out]; omega))
                  have HPL : Hid (((toI l).take K).length = K) := Lib.hid (by rw [List.length_take, toI_len, HKE.out]; omega)
                  have s0 : (wj.alloc (.cells #[.int .i64 D, .int .i64 (IntKind.i64.wrap tI)] 2)).heap.size = wj.heap.size + 1 := by simp
                  have s0' : (wj.alloc (.cells #[] 2)).heap.size = wj.heap.size + 1 := by simp
                  have HEc : Hid (OwnI 2 (wj.alloc (.cells #[] 2)) wj.heap.size (some ⟨wj.heap.size, 0, none⟩) 0 0 []) := Lib.hid (OwnI.empty wj _)
                  have HEb : Hid (OwnI 2 ((wj.alloc (.cells #[] 2)).alloc (.cells #[.int .i64 D, .int .i64 (IntKind.i64.wrap tI)] 2)) wj.heap.size (some ⟨wj.heap.size, 0, none⟩) 0 0 []) := Lib.hid (HEc.out.alloc _)
                  have HEa : Hid (OwnI 2 ((wj.alloc (.cells #[.int .i64 D, .int .i64 (IntKind.i64.wrap tI)] 2)).alloc (.cells #[] 2)) wj.heap.size (some ⟨wj.heap.size + 1, 0, none⟩) 0 0 []) := Lib.hid (by
                    have h := OwnI.empty (wj.alloc (.cells #[.int .i64 D, .int .i64 (IntKind.i64.wrap tI)] 2)) 2
                    rw [s0] at h
                    exact h.mono (by omega))
                  have HBa : Hid (Below wj.heap.size wj ((wj.alloc (.cells #[.int .i64 D, .int .i64 (IntKind.i64.wrap tI)] 2)).alloc (.cells #[] 2))) := Lib.hid (((Below.refl _ _).alloc (Nat.le_refl _) _).alloc (by omega) _)
                  have HBb : Hid (Below wj.heap.size wj ((wj.alloc (.cells #[] 2)).alloc (.cells #[.int .i64 D, .int .i64 (IntKind.i64.wrap tI)] 2))) := Lib.hid (((Below.refl _ _).alloc (Nat.le_refl _) _).alloc (by omega) _)
                  have HBc : Hid (Below wj.heap.size wj (wj.alloc (.cells #[] 2))) := Lib.hid ((Below.refl _ _).alloc (Nat.le_refl _) _)
                  have HVa : Hid (BX 2 ((wj.alloc (.cells #[.int .i64 D, .int .i64 (IntKind.i64.wrap tI)] 2)).alloc (.cells #[] 2)) wj.heap.size #[.int .i64 D, .int .i64 (IntKind.i64.wrap tI)]) := Lib.hid ((BX.new wj _ _).alloc _)
                  have HVb : Hid (BX 2 ((wj.alloc (.cells #[] 2)).alloc (.cells #[.int .i64 D, .int .i64 (IntKind.i64.wrap tI)] 2)) (wj.heap.size + 1) #[.int .i64 D, .int .i64 (IntKind.i64.wrap tI)]) := Lib.hid (by rw [← s0']; exact BX.new _ _ _)
                  have HRa : Hid (RdV ((wj.alloc (.cells #[.int .i64 D, .int .i64 (IntKind.i64.wrap tI)] 2)).alloc (.cells #[] 2)) (some ⟨br, orr, none⟩) (((toI l).take K).map (Value.int .i64))) := Lib.hid ((HRD.out.alloc _).alloc _).vals
                  have HRb : Hid (RdV ((wj.alloc (.cells #[] 2)).alloc (.cells #[.int .i64 D, .int .i64 (IntKind.i64.wrap tI)] 2)) (some ⟨br, orr, none⟩) (((toI l).take K).map (Value.int .i64))) := Lib.hid ((HRD.out.alloc _).alloc _).vals
                  have HRc : Hid (RdV (wj.alloc (.cells #[] 2)) (some ⟨br, orr, none⟩) (((toI l).take K).map (Value.int .i64))) := Lib.hid (HRD.out.alloc _).vals
                  have HWR : Hid (IntKind.i64.wrap tI = tI) := Lib.hid (by rw [IntKind.wrap_i64]; omega)
                  have hq9 : q ≤ 2000 := by omega
                  have hszj : w.heap.size ≤ wj.heap.size := HJ.out.2.2.hB
                  have hKc : K ≤ C1 m := by omega
                  clear s0 s0'
                  go_region_held3 (fun _ => True) (trivial)
                    (first
                      | (refine step_appT rfl (.tmp 72) (.tmp 75) 25 rfl wj.heap.size 2 (.int .i64 0) 8 Try.underlying25 Try.info2f rfl (by decide) _ _ _ _ rfl _ _ _ rfl (by first | exact HEc.out | exact HEb.out | exact HEa.out) (((toI l).take K).map (Value.int .i64)) (by rw [List.length_map]; exact HPL.out) (by first | exact HRc.out | exact HRb.out | exact HRa.out) (map_one _) (by omega) (by first | exact HBc.out.size | exact HBb.out.size | exact HBa.out.size) ?_; rintro ar cr u2 r4 q4 g4; rw [Nat.zero_add] at r4; rw [Nat.zero_add]; have HA1 : Hid (OwnI 2 u2 wj.heap.size ar K cr ((toI l).take K)) := Lib.hid r4; (first | (have HB1 : Hid (Below wj.heap.size wj u2) := Lib.hid (HBc.out.trans (show Below wj.heap.size (wj.alloc (.cells #[] 2)) u2 from Chg.below ⟨g4.os, g4.tape, g4.output, g4.size, g4.block⟩ HBc.out.size (fun b hb hx => by obtain ⟨x, hx, e⟩ := hx; injection hx with hx; subst hx; simp at e; omega))); clear HBb HBa) | (have HB1 : Hid (Below wj.heap.size wj u2) := Lib.hid (HBb.out.trans (show Below wj.heap.size ((wj.alloc (.cells #[] 2)).alloc (.cells #[.int .i64 D, .int .i64 (IntKind.i64.wrap tI)] 2)) u2 from Chg.below ⟨g4.os, g4.tape, g4.output, g4.size, g4.block⟩ HBb.out.size (fun b hb hx => by obtain ⟨x, hx, e⟩ := hx; injection hx with hx; subst hx; simp at e; omega))); have HV1 : Hid (RdV u2 (some ⟨wj.heap.size + 1, 0, none⟩) [.int .i64 D, .int .i64 (IntKind.i64.wrap tI)]) := Lib.hid (rdV2 (HVb.out.chg (show Chg _ ((wj.alloc (.cells #[] 2)).alloc (.cells #[.int .i64 D, .int .i64 (IntKind.i64.wrap tI)] 2)) u2 from ⟨g4.os, g4.tape, g4.output, g4.size, g4.block⟩) (fun hx => by obtain ⟨x, hx, e⟩ := hx; injection hx with hx; subst hx; simp at e))); clear HBa HBc) | (have HB1 : Hid (Below wj.heap.size wj u2) := Lib.hid (HBa.out.trans (show Below wj.heap.size ((wj.alloc (.cells #[.int .i64 D, .int .i64 (IntKind.i64.wrap tI)] 2)).alloc (.cells #[] 2)) u2 from Chg.below ⟨g4.os, g4.tape, g4.output, g4.size, g4.block⟩ HBa.out.size (fun b hb hx => by obtain ⟨x, hx, e⟩ := hx; injection hx with hx; subst hx; simp at e; omega))); have HV1 : Hid (RdV u2 (some ⟨wj.heap.size, 0, none⟩) [.int .i64 D, .int .i64 (IntKind.i64.wrap tI)]) := Lib.hid (rdV2 (HVa.out.chg (show Chg _ ((wj.alloc (.cells #[.int .i64 D, .int .i64 (IntKind.i64.wrap tI)] 2)).alloc (.cells #[] 2)) u2 from ⟨g4.os, g4.tape, g4.output, g4.size, g4.block⟩) (fun hx => by obtain ⟨x, hx, e⟩ := hx; injection hx with hx; subst hx; simp at e))); clear HBb HBc)); have su2 := HB1.out.size; have HV2 : Hid (RdV (u2.alloc (.cells #[.int .i64 D, .int .i64 (IntKind.i64.wrap tI)] 2)) (some ⟨u2.heap.size, 0, none⟩) [.int .i64 D, .int .i64 (IntKind.i64.wrap tI)]) := Lib.hid (rdV2 (BX.new u2 2 #[.int .i64 D, .int .i64 (IntKind.i64.wrap tI)])); have HA1y : Hid (u2.ownsRow wj.heap.size 2 1 (.slice ar K cr) K (((toI l).take K).map (Value.int .i64))) := Lib.hid r4; have HA1x : Hid ((u2.alloc (.cells #[.int .i64 D, .int .i64 (IntKind.i64.wrap tI)] 2)).ownsRow wj.heap.size 2 1 (.slice ar K cr) K (((toI l).take K).map (Value.int .i64))) := Lib.hid (HA1.out.alloc _); clear r4 q4 g4)
                      | (refine step_appT rfl (.tmp 76) (.tmp 81) 25 rfl wj.heap.size 2 (.int .i64 0) 8 Try.underlying25 Try.info2f rfl (by decide) _ _ _ _ rfl _ _ _ rfl (by first | with_reducible exact HA1x.out | with_reducible exact HA1y.out) [.int .i64 D, .int .i64 (IntKind.i64.wrap tI)] (by rfl) (by first | with_reducible exact HV2.out | with_reducible exact HV1.out) (by intro u hu; simp at hu; rcases hu with rfl | rfl <;> rfl) (by first | omega | (simp; omega)) (by first | exact su2 | (simp; omega)) ?_; rintro aw cs u3 r4 q4 g4; have HA2 : Hid (OwnI 2 u3 wj.heap.size aw (K + 2) cs (toI (preN l ++ [D, t]))) := Lib.hid (by rw [toI_app, HPRE.out, toI_take]; unfold OwnI; rw [List.map_append]; rw [HWR.out, HTI.out] at r4; exact r4); have HB2 : Hid (Below wj.heap.size wj u3) := Lib.hid (HB1.out.trans (by first | with_reducible exact (((Below.refl u2.heap.size u2).alloc (Nat.le_refl _) _).mono su2).trans (Chg.below (w := u2.alloc (.cells #[.int .i64 D, .int .i64 (IntKind.i64.wrap tI)] 2)) g4 (by simp; omega) (fun b hb hx => by obtain ⟨x, hx, e⟩ := hx; have := (HA1.out.block x hx).1; omega)) | exact Chg.below (w := u2) g4 su2 (fun b hb hx => by obtain ⟨x, hx, e⟩ := hx; have := (HA1.out.block x hx).1; omega))); have su3 := HB2.out.size; have HC3 : Hid ((u3.alloc (.cells #[.slice aw (K + 2) cs] 25)).cell? ⟨u3.heap.size, 0, none⟩ = some (.slice aw (K + 2) cs)) := Lib.hid ((BX.new u3 _ _).cell 0); have HO3 : Hid (OwnR 25 2 (u3.alloc (.cells #[.slice aw (K + 2) cs] 25)) w.heap.size a3 q c3 (cur.reverse.map toI) A3 C3) := Lib.hid ((HJ.out.2.2.op.keep HB2.out (Nat.le_refl _)).keep ((Below.refl _ _).alloc (Nat.le_refl _) _) (Nat.le_refl _)); clear r4 q4 g4)
                      | (refine step_pushW rfl (.tmp 71) (.tmp 83) 46 rfl w.heap.size 25 (.slice none 0 0) 24 Try.underlying46 Try.infoR rfl (by decide) (.slice aw (K + 2) cs) rfl a3 q c3 (rowVals (cur.reverse.map toI) A3 C3 q) u3.heap.size rfl rfl (by with_reducible exact HC3.out) (by with_reducible exact HO3.out.own) (by omega) (by simp; omega) ?_; rintro a4 c4 w4 r4 q4 g4; have HN := Lib.hid (HJ.out.2.2.push (wc := u3.alloc (.cells #[.slice aw (K + 2) cs] 25)) (HB2.out.alloc su3 _) (HA2.out.alloc _) (Nat.le_refl _) r4 q4 ⟨g4.os, g4.tape, g4.output, g4.size, g4.block⟩); clear r4 q4 g4))
                  all_goals
                    have HN2 : Hid ((((preN l ++ [D, t]) :: cur).length = q + 1) ∧ Sr 37 25 2 w w4 w.heap.size a4 (q + 1) c4 (((preN l ++ [D, t]) :: cur).reverse.map toI) (upd A3 q aw) (upd C3 q cs) a6 (k + 1) c6 ((outN l out).map toI) (upd A2 k a5) (upd C2 k c5') (some ⟨br, orr, none⟩) (toI l)) := Lib.hid ⟨by rw [List.length_cons, HJ.out.1], by
                      have h := HN.out
                      rw [List.reverse_cons, List.map_append]
                      exact h⟩
                    clear HA1 HA1x HA1y HV2 HB1 HA2 HB2 HC3 HO3 HEa HEb HEc HVa HVb HRa HRb HRc
                    go_wp2_with fail
                    go_roundw
                    case rel => exact ⟨d, q + 1, (preN l ++ [D, t]) :: cur, a4, c4, _, _, rfl, rfl, by omega, by omega, Lib.hid ⟨HN2.out.1, HY.out, HN2.out.2⟩⟩
                    case measure => simp [intOf]; omega
                · have f5 : ((y : Int) == 0) = false := beq_eq_false_iff_ne.2 (by omega)
                  have f6 : (y == 0) = false := beq_eq_false_iff_ne.2 hy0
                  have HN : Hid (kidsN (preN l) R d cur = nextN l st') := Lib.hid (HNO.out (by rw [HOK2.out, f6]))
                  go_wp2_with fail
                  go_roundw
                  case rel => exact ⟨d, q, cur, a3, c3, A3, C3, rfl, rfl, by omega, by omega, Lib.hid ⟨HJ.out.1, HN.out, HJ.out.2.2⟩⟩
                  case measure => simp [intOf]; omega
            · have f1 : ((z : Int) == 0) = false := beq_eq_false_iff_ne.2 (by omega)
              have f2 : (z == 0) = false := beq_eq_false_iff_ne.2 hz0
              have HN : Hid (kidsN (preN l) R d cur = nextN l st') := Lib.hid (HNO.out (by rw [HOKN.out, f2]; rfl))
              go_wp2_with fail
              go_roundw
              case rel => exact ⟨d, q, cur, a3, c3, A3, C3, rfl, rfl, by omega, by omega, Lib.hid ⟨HJ.out.1, HN.out, HJ.out.2.2⟩⟩
              case measure => simp [intOf]; omega
          · have gg1 : ¬ (1 : Int) < (D : Int) := by omega
            have g2 : decide ((1 : Int) < (D : Int)) = false := decide_eq_false gg1
            have g3 : decide (1 < D) = false := decide_eq_false hD1
            have HEND : Hid (cur = nextN l st') := Lib.hid (by rw [← HJ.out.2.1, kidsN_end (by omega)])
            have HZZ : Hid (Sr 37 25 2 w wj w.heap.size a3 q c3 (cur.reverse.map toI) A3 C3 a6 (k + 1) c6 ((outN l out).map toI) (upd A2 k a5) (upd C2 k c5') none []) := Lib.hid (by
              have h := HJ.out.2.2
              exact ⟨h.op, h.ou, h.x1, h.x2, h.x3, RdI.nil _ _, fun p hp => (by cases hp), Apart.none_r _, Apart.none_r _, h.bel, h.hB⟩)
            have HMS : Hid (fuelS (stAt wj (.slice a3 q c3)).reverse < fuelS (stAt wo (.slice (some ⟨g1, 0, none⟩) (m + 1) c1)).reverse) := Lib.hid (by
              have h := stAt_eq (L := cur.reverse) (c := c3) HZZ.out.op.rd
              rw [List.length_reverse, HJ.out.1] at h
              rw [h, List.reverse_reverse, HM0.out, HEND.out]
              exact HFU.out)
            go_wp2_with fail
            go_roundw
            case rel => exact ⟨f', q, (k + 1), cur, outN l out, a3, c3, A3, C3, a6, c6, (upd A2 k a5), (upd C2 k c5'), rfl, rfl, Lib.hid ⟨by omega, HJ.out.1, HOL.out, by rw [HEND.out]; exact HCK.out.2.2, by rw [HEND.out]; exact HRS.out, by omega, HZZ.out⟩⟩
            case measure => exact HMS.out
      · have r1 : ((R : Int) == 1) = false := beq_eq_false_iff_ne.2 (by omega)
        have r2 : (R == 1) = false := beq_eq_false_iff_ne.2 hR11
        have HOUT : Hid (outN l out = out) := Lib.hid (by unfold outN; rw [← HRE.out, if_neg hR11])
        have HOL : Hid ((outN l out).length = k) := Lib.hid (by rw [HOUT.out]; exact HKL.out)
        have HQ : Hid (Sr 37 25 2 w wo w.heap.size (some ⟨g1, 0, none⟩) m c1 (st'.reverse.map toI) A1 C1 a2 k c2 ((outN l out).map toI) A2 C2 (some ⟨br, orr, none⟩) (toI l)) := Lib.hid (by
          rw [HOUT.out, ← HAL.out]; exact HP.out)
        clear HP
        go_wp2_with fail
        go_loopw [9, 5] (fun d v wr => ∃ (D q : Nat) (cur : List (List Nat)) (a3 : Option Addr) (c3 : Nat) (A3 : Nat → Option Addr) (C3 : Nat → Nat), d = .int .i64 D ∧ v = .slice a3 q c3 ∧ D ≤ R ∧ q + D ≤ m + R ∧ Hid (cur.length = q ∧ kidsN (preN l) R D cur = nextN l st' ∧ Sr 37 25 2 w wr w.heap.size a3 q c3 (cur.reverse.map toI) A3 C3 a2 k c2 ((outN l out).map toI) A2 C2 (some ⟨br, orr, none⟩) (toI l))) (fun d _ _ => (intOf d).toNat)
        case atStart => exact ⟨R, m, st', _, _, _, _, rfl, rfl, Nat.le_refl _, Nat.le_refl _, Lib.hid ⟨HML.out, by unfold nextN; rw [HRE.out], HQ.out⟩⟩
        case round =>
          clear HQ
          obtain ⟨D, q, cur, a3, c3, A3, C3, rfl, rfl, hD, hqD, HJ⟩ := hrel
          obtain ⟨wj, rfl⟩ : ∃ x, x = wr := ⟨wr, rfl⟩
          by_cases hD1 : 1 < D
          · have gg1 : (1 : Int) < (D : Int) := by omega
            have g2 : decide ((1 : Int) < (D : Int)) = true := decide_eq_true gg1
            have g3 : decide (1 < D) = true := decide_eq_true hD1
            have g4 : ¬ (D : Int) = 0 := by omega
            have g5 : ((D : Int) == 0) = false := beq_eq_false_iff_ne.2 (by omega)
            have g6 : ¬ D = 0 := by omega
            have g7 : (D == 0) = false := beq_eq_false_iff_ne.2 g6
            obtain ⟨z, hz⟩ : ∃ z, z = R % D := ⟨_, rfl⟩
            have em1 : (R : Int).tmod (D : Int) = (z : Int) := by rw [tmod_nat, hz]
            obtain ⟨t, ht⟩ : ∃ t, t = R / D := ⟨_, rfl⟩
            obtain ⟨tI, htI⟩ : ∃ tI : Int, tI = (t : Int) := ⟨_, rfl⟩
            have ed1 : (R : Int).tdiv (D : Int) = tI := by rw [tdiv_nat, htI, ht]
            have ht9 : t ≤ 1000 := Nat.le_trans (by rw [ht]; exact Nat.div_le_self _ _) hR1.2
            have hZ0 : 0 ≤ tI := by omega
            have hZ1 : tI ≤ 1000 := by omega
            have HTI := Lib.hid htI
            clear htI
            have HZ := Lib.hid hz
            have HT := Lib.hid ht
            clear hz ht
            obtain ⟨d, hd⟩ : ∃ d, D = d + 1 := ⟨D - 1, by omega⟩
            have HDD := Lib.hid hd
            have hdd : (D : Int) - 1 = (d : Int) := by omega
            have HNO : Hid (okN (preN l) R D = false → kidsN (preN l) R d cur = nextN l st') := Lib.hid (fun h => by
              rw [← HJ.out.2.1, HDD.out, kidsN_no (fun h2 => by rw [← HDD.out, h] at h2; exact absurd h2.2 (by decide))])
            have HYES : Hid (okN (preN l) R D = true → kidsN (preN l) R d ((preN l ++ [D, t]) :: cur) = nextN l st') := Lib.hid (fun h => by
              rw [← HJ.out.2.1, HDD.out, kidsN_yes ⟨by omega, by rw [← HDD.out]; exact h⟩, HT.out, HDD.out])
            have HOKN : Hid (okN (preN l) R D = (z == 0 && (K == 0 || D % nel l (K - 1) == 0))) := Lib.hid (by
              unfold okN
              rw [HPRE.out, ← HZ.out]
              have e1 : (l.take K).length = K := by rw [List.length_take, HKE.out]; omega
              rw [e1]
              by_cases h0 : K = 0
              · simp [h0]
              · have e2 : nel (l.take K) (K - 1) = nel l (K - 1) := by unfold nel; rw [List.getElem?_take, if_pos (by omega)]
                rw [e2])
            clear hd
            have NEXT : True := trivial
            by_cases hz0 : z = 0
            · have f1 : ((z : Int) == 0) = true := beq_iff_eq.2 (by omega)
              have f2 : (z == 0) = true := beq_iff_eq.2 hz0
              have HZ0 := Lib.hid hz0
              clear hz0
              by_cases hK0 : K = 0
              · have f3 : ((K : Int) == 0) = true := beq_iff_eq.2 (by omega)
                have f4 : (K == 0) = true := beq_iff_eq.2 hK0
                have HY : Hid (kidsN (preN l) R d ((preN l ++ [D, t]) :: cur) = nextN l st') := Lib.hid (HYES.out (by rw [HOKN.out, f2, f4]; rfl))
                clear hK0
                go_wp2_with fail
                have HRD : Hid (RdI wj (some ⟨br, orr, none⟩) ((toI l).take K)) := Lib.hid (HJ.out.2.2.rd.take K (by rw [toI_len, HKE.out]; omega))
                have HPL : Hid (((toI l).take K).length = K) := Lib.hid (by rw [List.length_take, toI_len, HKE.out]; omega)
                have s0 : (wj.alloc (.cells #[.int .i64 D, .int .i64 (IntKind.i64.wrap tI)] 2)).heap.size = wj.heap.size + 1 := by simp
                have s0' : (wj.alloc (.cells #[] 2)).heap.size = wj.heap.size + 1 := by simp
                have HEc : Hid (OwnI 2 (wj.alloc (.cells #[] 2)) wj.heap.size (some ⟨wj.heap.size, 0, none⟩) 0 0 []) := Lib.hid (OwnI.empty wj _)
                have HEb : Hid (OwnI 2 ((wj.alloc (.cells #[] 2)).alloc (.cells #[.int .i64 D, .int .i64 (IntKind.i64.wrap tI)] 2)) wj.heap.size (some ⟨wj.heap.size, 0, none⟩) 0 0 []) := Lib.hid (HEc.out.alloc _)
                have HEa : Hid (OwnI 2 ((wj.alloc (.cells #[.int .i64 D, .int .i64 (IntKind.i64.wrap tI)] 2)).alloc (.cells #[] 2)) wj.heap.size (some ⟨wj.heap.size + 1, 0, none⟩) 0 0 []) := Lib.hid (by
                  have h := OwnI.empty (wj.alloc (.cells #[.int .i64 D, .int .i64 (IntKind.i64.wrap tI)] 2)) 2
                  rw [s0] at h
                  exact h.mono (by omega))
                have HBa : Hid (Below wj.heap.size wj ((wj.alloc (.cells #[.int .i64 D, .int .i64 (IntKind.i64.wrap tI)] 2)).alloc (.cells #[] 2))) := Lib.hid (((Below.refl _ _).alloc (Nat.le_refl _) _).alloc (by omega) _)
                have HBb : Hid (Below wj.heap.size wj ((wj.alloc (.cells #[] 2)).alloc (.cells #[.int .i64 D, .int .i64 (IntKind.i64.wrap tI)] 2))) := Lib.hid (((Below.refl _ _).alloc (Nat.le_refl _) _).alloc (by omega) _)
                have HBc : Hid (Below wj.heap.size wj (wj.alloc (.cells #[] 2))) := Lib.hid ((Below.refl _ _).alloc (Nat.le_refl _) _)
                have HVa : Hid (BX 2 ((wj.alloc (.cells #[.int .i64 D, .int .i64 (IntKind.i64.wrap tI)] 2)).alloc (.cells #[] 2)) wj.heap.size #[.int .i64 D, .int .i64 (IntKind.i64.wrap tI)]) := Lib.hid ((BX.new wj _ _).alloc _)
                have HVb : Hid (BX 2 ((wj.alloc (.cells #[] 2)).alloc (.cells #[.int .i64 D, .int .i64 (IntKind.i64.wrap tI)] 2)) (wj.heap.size + 1) #[.int .i64 D, .int .i64 (IntKind.i64.wrap tI)]) := Lib.hid (by rw [← s0']; exact BX.new _ _ _)
                have HRa : Hid (RdV ((wj.alloc (.cells #[.int .i64 D, .int .i64 (IntKind.i64.wrap tI)] 2)).alloc (.cells #[] 2)) (some ⟨br, orr, none⟩) (((toI l).take K).map (Value.int .i64))) := Lib.hid ((HRD.out.alloc _).alloc _).vals
                have HRb : Hid (RdV ((wj.alloc (.cells #[] 2)).alloc (.cells #[.int .i64 D, .int .i64 (IntKind.i64.wrap tI)] 2)) (some ⟨br, orr, none⟩) (((toI l).take K).map (Value.int .i64))) := Lib.hid ((HRD.out.alloc _).alloc _).vals
                have HRc : Hid (RdV (wj.alloc (.cells #[] 2)) (some ⟨br, orr, none⟩) (((toI l).take K).map (Value.int .i64))) := Lib.hid (HRD.out.alloc _).vals
                have HWR : Hid (IntKind.i64.wrap tI = tI) := Lib.hid (by rw [IntKind.wrap_i64]; omega)
                have hq9 : q ≤ 2000 := by omega
                have hszj : w.heap.size ≤ wj.heap.size := HJ.out.2.2.hB
                have hKc : K ≤ C1 m := by omega
                clear s0 s0'
                go_region_held3 (fun _ => True) (trivial)
                  (first
                    | (refine step_appT rfl (.tmp 72) (.tmp 75) 25 rfl wj.heap.size 2 (.int .i64 0) 8 Try.underlying25 Try.info2f rfl (by decide) _ _ _ _ rfl _ _ _ rfl (by first | exact HEc.out | exact HEb.out | exact HEa.out) (((toI l).take K).map (Value.int .i64)) (by rw [List.length_map]; exact HPL.out) (by first | exact HRc.out | exact HRb.out | exact HRa.out) (map_one _) (by omega) (by first | exact HBc.out.size | exact HBb.out.size | exact HBa.out.size) ?_; rintro ar cr u2 r4 q4 g4; rw [Nat.zero_add] at r4; rw [Nat.zero_add]; have HA1 : Hid (OwnI 2 u2 wj.heap.size ar K cr ((toI l).take K)) := Lib.hid r4; (first | (have HB1 : Hid (Below wj.heap.size wj u2) := Lib.hid (HBc.out.trans (show Below wj.heap.size (wj.alloc (.cells #[] 2)) u2 from Chg.below ⟨g4.os, g4.tape, g4.output, g4.size, g4.block⟩ HBc.out.size (fun b hb hx => by obtain ⟨x, hx, e⟩ := hx; injection hx with hx; subst hx; simp at e; omega))); clear HBb HBa) | (have HB1 : Hid (Below wj.heap.size wj u2) := Lib.hid (HBb.out.trans (show Below wj.heap.size ((wj.alloc (.cells #[] 2)).alloc (.cells #[.int .i64 D, .int .i64 (IntKind.i64.wrap tI)] 2)) u2 from Chg.below ⟨g4.os, g4.tape, g4.output, g4.size, g4.block⟩ HBb.out.size (fun b hb hx => by obtain ⟨x, hx, e⟩ := hx; injection hx with hx; subst hx; simp at e; omega))); have HV1 : Hid (RdV u2 (some ⟨wj.heap.size + 1, 0, none⟩) [.int .i64 D, .int .i64 (IntKind.i64.wrap tI)]) := Lib.hid (rdV2 (HVb.out.chg (show Chg _ ((wj.alloc (.cells #[] 2)).alloc (.cells #[.int .i64 D, .int .i64 (IntKind.i64.wrap tI)] 2)) u2 from ⟨g4.os, g4.tape, g4.output, g4.size, g4.block⟩) (fun hx => by obtain ⟨x, hx, e⟩ := hx; injection hx with hx; subst hx; simp at e))); clear HBa HBc) | (have HB1 : Hid (Below wj.heap.size wj u2) := Lib.hid (HBa.out.trans (show Below wj.heap.size ((wj.alloc (.cells #[.int .i64 D, .int .i64 (IntKind.i64.wrap tI)] 2)).alloc (.cells #[] 2)) u2 from Chg.below ⟨g4.os, g4.tape, g4.output, g4.size, g4.block⟩ HBa.out.size (fun b hb hx => by obtain ⟨x, hx, e⟩ := hx; injection hx with hx; subst hx; simp at e; omega))); have HV1 : Hid (RdV u2 (some ⟨wj.heap.size, 0, none⟩) [.int .i64 D, .int .i64 (IntKind.i64.wrap tI)]) := Lib.hid (rdV2 (HVa.out.chg (show Chg _ ((wj.alloc (.cells #[.int .i64 D, .int .i64 (IntKind.i64.wrap tI)] 2)).alloc (.cells #[] 2)) u2 from ⟨g4.os, g4.tape, g4.output, g4.size, g4.block⟩) (fun hx => by obtain ⟨x, hx, e⟩ := hx; injection hx with hx; subst hx; simp at e))); clear HBb HBc)); have su2 := HB1.out.size; have HV2 : Hid (RdV (u2.alloc (.cells #[.int .i64 D, .int .i64 (IntKind.i64.wrap tI)] 2)) (some ⟨u2.heap.size, 0, none⟩) [.int .i64 D, .int .i64 (IntKind.i64.wrap tI)]) := Lib.hid (rdV2 (BX.new u2 2 #[.int .i64 D, .int .i64 (IntKind.i64.wrap tI)])); have HA1y : Hid (u2.ownsRow wj.heap.size 2 1 (.slice ar K cr) K (((toI l).take K).map (Value.int .i64))) := Lib.hid r4; have HA1x : Hid ((u2.alloc (.cells #[.int .i64 D, .int .i64 (IntKind.i64.wrap tI)] 2)).ownsRow wj.heap.size 2 1 (.slice ar K cr) K (((toI l).take K).map (Value.int .i64))) := Lib.hid (HA1.out.alloc _); clear r4 q4 g4)
                    | (refine step_appT rfl (.tmp 76) (.tmp 81) 25 rfl wj.heap.size 2 (.int .i64 0) 8 Try.underlying25 Try.info2f rfl (by decide) _ _ _ _ rfl _ _ _ rfl (by first | with_reducible exact HA1x.out | with_reducible exact HA1y.out) [.int .i64 D, .int .i64 (IntKind.i64.wrap tI)] (by rfl) (by first | with_reducible exact HV2.out | with_reducible exact HV1.out) (by intro u hu; simp at hu; rcases hu with rfl | rfl <;> rfl) (by first | omega | (simp; omega)) (by first | exact su2 | (simp; omega)) ?_; rintro aw cs u3 r4 q4 g4; have HA2 : Hid (OwnI 2 u3 wj.heap.size aw (K + 2) cs (toI (preN l ++ [D, t]))) := Lib.hid (by rw [toI_app, HPRE.out, toI_take]; unfold OwnI; rw [List.map_append]; rw [HWR.out, HTI.out] at r4; exact r4); have HB2 : Hid (Below wj.heap.size wj u3) := Lib.hid (HB1.out.trans (by first | with_reducible exact (((Below.refl u2.heap.size u2).alloc (Nat.le_refl _) _).mono su2).trans (Chg.below (w := u2.alloc (.cells #[.int .i64 D, .int .i64 (IntKind.i64.wrap tI)] 2)) g4 (by simp; omega) (fun b hb hx => by obtain ⟨x, hx, e⟩ := hx; have := (HA1.out.block x hx).1; omega)) | exact Chg.below (w := u2) g4 su2 (fun b hb hx => by obtain ⟨x, hx, e⟩ := hx; have := (HA1.out.block x hx).1; omega))); have su3 := HB2.out.size; have HC3 : Hid ((u3.alloc (.cells #[.slice aw (K + 2) cs] 25)).cell? ⟨u3.heap.size, 0, none⟩ = some (.slice aw (K + 2) cs)) := Lib.hid ((BX.new u3 _ _).cell 0); have HO3 : Hid (OwnR 25 2 (u3.alloc (.cells #[.slice aw (K + 2) cs] 25)) w.heap.size a3 q c3 (cur.reverse.map toI) A3 C3) := Lib.hid ((HJ.out.2.2.op.keep HB2.out (Nat.le_refl _)).keep ((Below.refl _ _).alloc (Nat.le_refl _) _) (Nat.le_refl _)); clear r4 q4 g4)
                    | (refine step_pushW rfl (.tmp 71) (.tmp 83) 46 rfl w.heap.size 25 (.slice none 0 0) 24 Try.underlying46 Try.infoR rfl (by decide) (.slice aw (K + 2) cs) rfl a3 q c3 (rowVals (cur.reverse.map toI) A3 C3 q) u3.heap.size rfl rfl (by with_reducible exact HC3.out) (by with_reducible exact HO3.out.own) (by omega) (by simp; omega) ?_; rintro a4 c4 w4 r4 q4 g4; have HN := Lib.hid (HJ.out.2.2.push (wc := u3.alloc (.cells #[.slice aw (K + 2) cs] 25)) (HB2.out.alloc su3 _) (HA2.out.alloc _) (Nat.le_refl _) r4 q4 ⟨g4.os, g4.tape, g4.output, g4.size, g4.block⟩); clear r4 q4 g4))
                all_goals
                  have HN2 : Hid ((((preN l ++ [D, t]) :: cur).length = q + 1) ∧ Sr 37 25 2 w w4 w.heap.size a4 (q + 1) c4 (((preN l ++ [D, t]) :: cur).reverse.map toI) (upd A3 q aw) (upd C3 q cs) a2 k c2 ((outN l out).map toI) A2 C2 (some ⟨br, orr, none⟩) (toI l)) := Lib.hid ⟨by rw [List.length_cons, HJ.out.1], by
                    have h := HN.out
                    rw [List.reverse_cons, List.map_append]
                    exact h⟩
                  clear HA1 HA1x HA1y HV2 HB1 HA2 HB2 HC3 HO3 HEa HEb HEc HVa HVb HRa HRb HRc
                  go_wp2_with fail
                  go_roundw
                  case rel => exact ⟨d, q + 1, (preN l ++ [D, t]) :: cur, a4, c4, _, _, rfl, rfl, by omega, by omega, Lib.hid ⟨HN2.out.1, HY.out, HN2.out.2⟩⟩
                  case measure => simp [intOf]; omega
              · have f3 : ((K : Int) == 0) = false := beq_eq_false_iff_ne.2 (by omega)
                have f4 : (K == 0) = false := beq_eq_false_iff_ne.2 hK0
                obtain ⟨J, hJ⟩ : ∃ J, J = K - 1 := ⟨_, rfl⟩
                have hJ1 : (K : Int) - 1 = (J : Int) := by omega
                obtain ⟨P, hP⟩ : ∃ P, P = nel l J := ⟨_, rfl⟩
                have hP1 : 1 ≤ P := by rw [hP]; exact (HL3.out J (by rw [HKE.out]; omega)).1
                have hP9 : P ≤ 1000 := by rw [hP]; exact (HL3.out J (by rw [HKE.out]; omega)).2
                have cJ : wj.cell? ⟨br, orr + J, none⟩ = some (.int .i64 P) := by
                  obtain ⟨b', o', e1, e2⟩ := rdI_at HJ.out.2.2.rd (show J < (toI l).length by rw [toI_len, HKE.out]; omega)
                  injection e1 with e1; injection e1 with e3 e4; subst e3; subst e4
                  rw [toI_el (by rw [HKE.out]; omega), ← hP] at e2
                  exact e2
                obtain ⟨y, hy⟩ : ∃ y, y = D % P := ⟨_, rfl⟩
                have em2 : (D : Int).tmod (P : Int) = (y : Int) := by rw [tmod_nat, hy]
                have p1 : ¬ (P : Int) = 0 := by omega
                have p2 : ((P : Int) == 0) = false := beq_eq_false_iff_ne.2 (by omega)
                have p3 : ¬ P = 0 := by omega
                have p4 : (P == 0) = false := beq_eq_false_iff_ne.2 p3
                have HOK2 : Hid (okN (preN l) R D = (y == 0)) := Lib.hid (by rw [HOKN.out, f2, f4, hy, hP, hJ]; simp)
                have hJK : J < K + 1 := by omega
                clear hy hP hJ hK0
                by_cases hy0 : y = 0
                · have f5 : ((y : Int) == 0) = true := beq_iff_eq.2 (by omega)
                  have f6 : (y == 0) = true := beq_iff_eq.2 hy0
                  have HY : Hid (kidsN (preN l) R d ((preN l ++ [D, t]) :: cur) = nextN l st') := Lib.hid (HYES.out (by rw [HOK2.out, f6]))
                  clear hy0
                  go_wp2_with fail
                  have HRD : Hid (RdI wj (some ⟨br, orr, none⟩) ((toI l).take K)) := Lib.hid (HJ.out.2.2.rd.take K (by rw [toI_len, HKE.out]; omega))
                  have HPL : Hid (((toI l).take K).length = K) := Lib.hid (by rw [List.length_take, toI_len, HKE.out]; omega)
                  have s0 : (wj.alloc (.cells #[.int .i64 D, .int .i64 (IntKind.i64.wrap tI)] 2)).heap.size = wj.heap.size + 1 := by simp
                  have s0' : (wj.alloc (.cells #[] 2)).heap.size = wj.heap.size + 1 := by simp
                  have HEc : Hid (OwnI 2 (wj.alloc (.cells #[] 2)) wj.heap.size (some ⟨wj.heap.size, 0, none⟩) 0 0 []) := Lib.hid (OwnI.empty wj _)
                  have HEb : Hid (OwnI 2 ((wj.alloc (.cells #[] 2)).alloc (.cells #[.int .i64 D, .int .i64 (IntKind.i64.wrap tI)] 2)) wj.heap.size (some ⟨wj.heap.size, 0, none⟩) 0 0 []) := Lib.hid (HEc.out.alloc _)
                  have HEa : Hid (OwnI 2 ((wj.alloc (.cells #[.int .i64 D, .int .i64 (IntKind.i64.wrap tI)] 2)).alloc (.cells #[] 2)) wj.heap.size (some ⟨wj.heap.size + 1, 0, none⟩) 0 0 []) := Lib.hid (by
                    have h := OwnI.empty (wj.alloc (.cells #[.int .i64 D, .int .i64 (IntKind.i64.wrap tI)] 2)) 2
                    rw [s0] at h
                    exact h.mono (by omega))
                  have HBa : Hid (Below wj.heap.size wj ((wj.alloc (.cells #[.int .i64 D, .int .i64 (IntKind.i64.wrap tI)] 2)).alloc (.cells #[] 2))) := Lib.hid (((Below.refl _ _).alloc (Nat.le_refl _) _).alloc (by omega) _)
                  have HBb : Hid (Below wj.heap.size wj ((wj.alloc (.cells #[] 2)).alloc (.cells #[.int .i64 D, .int .i64 (IntKind.i64.wrap tI)] 2))) := Lib.hid (((Below.refl _ _).alloc (Nat.le_refl _) _).alloc (by omega) _)
                  have HBc : Hid (Below wj.heap.size wj (wj.alloc (.cells #[] 2))) := Lib.hid ((Below.refl _ _).alloc (Nat.le_refl _) _)
                  have HVa : Hid (BX 2 ((wj.alloc (.cells #[.int .i64 D, .int .i64 (IntKind.i64.wrap tI)] 2)).alloc (.cells #[] 2)) wj.heap.size #[.int .i64 D, .int .i64 (IntKind.i64.wrap tI)]) := Lib.hid ((BX.new wj _ _).alloc _)
                  have HVb : Hid (BX 2 ((wj.alloc (.cells #[] 2)).alloc (.cells #[.int .i64 D, .int .i64 (IntKind.i64.wrap tI)] 2)) (wj.heap.size + 1) #[.int .i64 D, .int .i64 (IntKind.i64.wrap tI)]) := Lib.hid (by rw [← s0']; exact BX.new _ _ _)
                  have HRa : Hid (RdV ((wj.alloc (.cells #[.int .i64 D, .int .i64 (IntKind.i64.wrap tI)] 2)).alloc (.cells #[] 2)) (some ⟨br, orr, none⟩) (((toI l).take K).map (Value.int .i64))) := Lib.hid ((HRD.out.alloc _).alloc _).vals
                  have HRb : Hid (RdV ((wj.alloc (.cells #[] 2)).alloc (.cells #[.int .i64 D, .int .i64 (IntKind.i64.wrap tI)] 2)) (some ⟨br, orr, none⟩) (((toI l).take K).map (Value.int .i64))) := Lib.hid ((HRD.out.alloc _).alloc _).vals
                  have HRc : Hid (RdV (wj.alloc (.cells #[] 2)) (some ⟨br, orr, none⟩) (((toI l).take K).map (Value.int .i64))) := Lib.hid (HRD.out.alloc _).vals
                  have HWR : Hid (IntKind.i64.wrap tI = tI) := Lib.hid (by rw [IntKind.wrap_i64]; omega)
                  have hq9 : q ≤ 2000 := by omega
                  have hszj : w.heap.size ≤ wj.heap.size := HJ.out.2.2.hB
                  have hKc : K ≤ C1 m := by omega
                  clear s0 s0'
                  go_region_held3 (fun _ => True) (trivial)
                    (first
                      | (refine step_appT rfl (.tmp 72) (.tmp 75) 25 rfl wj.heap.size 2 (.int .i64 0) 8 Try.underlying25 Try.info2f rfl (by decide) _ _ _ _ rfl _ _ _ rfl (by first | exact HEc.out | exact HEb.out | exact HEa.out) (((toI l).take K).map (Value.int .i64)) (by rw [List.length_map]; exact HPL.out) (by first | exact HRc.out | exact HRb.out | exact HRa.out) (map_one _) (by omega) (by first | exact HBc.out.size | exact HBb.out.size | exact HBa.out.size) ?_; rintro ar cr u2 r4 q4 g4; rw [Nat.zero_add] at r4; rw [Nat.zero_add]; have HA1 : Hid (OwnI 2 u2 wj.heap.size ar K cr ((toI l).take K)) := Lib.hid r4; (first | (have HB1 : Hid (Below wj.heap.size wj u2) := Lib.hid (HBc.out.trans (show Below wj.heap.size (wj.alloc (.cells #[] 2)) u2 from Chg.below ⟨g4.os, g4.tape, g4.output, g4.size, g4.block⟩ HBc.out.size (fun b hb hx => by obtain ⟨x, hx, e⟩ := hx; injection hx with hx; subst hx; simp at e; omega))); clear HBb HBa) | (have HB1 : Hid (Below wj.heap.size wj u2) := Lib.hid (HBb.out.trans (show Below wj.heap.size ((wj.alloc (.cells #[] 2)).alloc (.cells #[.int .i64 D, .int .i64 (IntKind.i64.wrap tI)] 2)) u2 from Chg.below ⟨g4.os, g4.tape, g4.output, g4.size, g4.block⟩ HBb.out.size (fun b hb hx => by obtain ⟨x, hx, e⟩ := hx; injection hx with hx; subst hx; simp at e; omega))); have HV1 : Hid (RdV u2 (some ⟨wj.heap.size + 1, 0, none⟩) [.int .i64 D, .int .i64 (IntKind.i64.wrap tI)]) := Lib.hid (rdV2 (HVb.out.chg (show Chg _ ((wj.alloc (.cells #[] 2)).alloc (.cells #[.int .i64 D, .int .i64 (IntKind.i64.wrap tI)] 2)) u2 from ⟨g4.os, g4.tape, g4.output, g4.size, g4.block⟩) (fun hx => by obtain ⟨x, hx, e⟩ := hx; injection hx with hx; subst hx; simp at e))); clear HBa HBc) | (have HB1 : Hid (Below wj.heap.size wj u2) := Lib.hid (HBa.out.trans (show Below wj.heap.size ((wj.alloc (.cells #[.int .i64 D, .int .i64 (IntKind.i64.wrap tI)] 2)).alloc (.cells #[] 2)) u2 from Chg.below ⟨g4.os, g4.tape, g4.output, g4.size, g4.block⟩ HBa.out.size (fun b hb hx => by obtain ⟨x, hx, e⟩ := hx; injection hx with hx; subst hx; simp at e; omega))); have HV1 : Hid (RdV u2 (some ⟨wj.heap.size, 0, none⟩) [.int .i64 D, .int .i64 (IntKind.i64.wrap tI)]) := Lib.hid (rdV2 (HVa.out.chg (show Chg _ ((wj.alloc (.cells #[.int .i64 D, .int .i64 (IntKind.i64.wrap tI)] 2)).alloc (.cells #[] 2)) u2 from ⟨g4.os, g4.tape, g4.output, g4.size, g4.block⟩) (fun hx => by obtain ⟨x, hx, e⟩ := hx; injection hx with hx; subst hx; simp at e))); clear HBb HBc)); have su2 := HB1.out.size; have HV2 : Hid (RdV (u2.alloc (.cells #[.int .i64 D, .int .i64 (IntKind.i64.wrap tI)] 2)) (some ⟨u2.heap.size, 0, none⟩) [.int .i64 D, .int .i64 (IntKind.i64.wrap tI)]) := Lib.hid (rdV2 (BX.new u2 2 #[.int .i64 D, .int .i64 (IntKind.i64.wrap tI)])); have HA1y : Hid (u2.ownsRow wj.heap.size 2 1 (.slice ar K cr) K (((toI l).take K).map (Value.int .i64))) := Lib.hid r4; have HA1x : Hid ((u2.alloc (.cells #[.int .i64 D, .int .i64 (IntKind.i64.wrap tI)] 2)).ownsRow wj.heap.size 2 1 (.slice ar K cr) K (((toI l).take K).map (Value.int .i64))) := Lib.hid (HA1.out.alloc _); clear r4 q4 g4)
                      | (refine step_appT rfl (.tmp 76) (.tmp 81) 25 rfl wj.heap.size 2 (.int .i64 0) 8 Try.underlying25 Try.info2f rfl (by decide) _ _ _ _ rfl _ _ _ rfl (by first | with_reducible exact HA1x.out | with_reducible exact HA1y.out) [.int .i64 D, .int .i64 (IntKind.i64.wrap tI)] (by rfl) (by first | with_reducible exact HV2.out | with_reducible exact HV1.out) (by intro u hu; simp at hu; rcases hu with rfl | rfl <;> rfl) (by first | omega | (simp; omega)) (by first | exact su2 | (simp; omega)) ?_; rintro aw cs u3 r4 q4 g4; have HA2 : Hid (OwnI 2 u3 wj.heap.size aw (K + 2) cs (toI (preN l ++ [D, t]))) := Lib.hid (by rw [toI_app, HPRE.out, toI_take]; unfold OwnI; rw [List.map_append]; rw [HWR.out, HTI.out] at r4; exact r4); have HB2 : Hid (Below wj.heap.size wj u3) := Lib.hid (HB1.out.trans (by first | with_reducible exact (((Below.refl u2.heap.size u2).alloc (Nat.le_refl _) _).mono su2).trans (Chg.below (w := u2.alloc (.cells #[.int .i64 D, .int .i64 (IntKind.i64.wrap tI)] 2)) g4 (by simp; omega) (fun b hb hx => by obtain ⟨x, hx, e⟩ := hx; have := (HA1.out.block x hx).1; omega)) | exact Chg.below (w := u2) g4 su2 (fun b hb hx => by obtain ⟨x, hx, e⟩ := hx; have := (HA1.out.block x hx).1; omega))); have su3 := HB2.out.size; have HC3 : Hid ((u3.alloc (.cells #[.slice aw (K + 2) cs] 25)).cell? ⟨u3.heap.size, 0, none⟩ = some (.slice aw (K + 2) cs)) := Lib.hid ((BX.new u3 _ _).cell 0); have HO3 : Hid (OwnR 25 2 (u3.alloc (.cells #[.slice aw (K + 2) cs] 25)) w.heap.size a3 q c3 (cur.reverse.map toI) A3 C3) := Lib.hid ((HJ.out.2.2.op.keep HB2.out (Nat.le_refl _)).keep ((Below.refl _ _).alloc (Nat.le_refl _) _) (Nat.le_refl _)); clear r4 q4 g4)
                      | (refine step_pushW rfl (.tmp 71) (.tmp 83) 46 rfl w.heap.size 25 (.slice none 0 0) 24 Try.underlying46 Try.infoR rfl (by decide) (.slice aw (K + 2) cs) rfl a3 q c3 (rowVals (cur.reverse.map toI) A3 C3 q) u3.heap.size rfl rfl (by with_reducible exact HC3.out) (by with_reducible exact HO3.out.own) (by omega) (by simp; omega) ?_; rintro a4 c4 w4 r4 q4 g4; have HN := Lib.hid (HJ.out.2.2.push (wc := u3.alloc (.cells #[.slice aw (K + 2) cs] 25)) (HB2.out.alloc su3 _) (HA2.out.alloc _) (Nat.le_refl _) r4 q4 ⟨g4.os, g4.tape, g4.output, g4.size, g4.block⟩); clear r4 q4 g4))
                  all_goals
                    have HN2 : Hid ((((preN l ++ [D, t]) :: cur).length = q + 1) ∧ Sr 37 25 2 w w4 w.heap.size a4 (q + 1) c4 (((preN l ++ [D, t]) :: cur).reverse.map toI) (upd A3 q aw) (upd C3 q cs) a2 k c2 ((outN l out).map toI) A2 C2 (some ⟨br, orr, none⟩) (toI l)) := Lib.hid ⟨by rw [List.length_cons, HJ.out.1], by
                      have h := HN.out
                      rw [List.reverse_cons, List.map_append]
                      exact h⟩
                    clear HA1 HA1x HA1y HV2 HB1 HA2 HB2 HC3 HO3 HEa HEb HEc HVa HVb HRa HRb HRc
                    go_wp2_with fail
                    go_roundw
                    case rel => exact ⟨d, q + 1, (preN l ++ [D, t]) :: cur, a4, c4, _, _, rfl, rfl, by omega, by omega, Lib.hid ⟨HN2.out.1, HY.out, HN2.out.2⟩⟩
                    case measure => simp [intOf]; omega
                · have f5 : ((y : Int) == 0) = false := beq_eq_false_iff_ne.2 (by omega)
                  have f6 : (y == 0) = false := beq_eq_false_iff_ne.2 hy0
                  have HN : Hid (kidsN (preN l) R d cur = nextN l st') := Lib.hid (HNO.out (by rw [HOK2.out, f6]))
                  go_wp2_with fail
                  go_roundw
                  case rel => exact ⟨d, q, cur, a3, c3, A3, C3, rfl, rfl, by omega, by omega, Lib.hid ⟨HJ.out.1, HN.out, HJ.out.2.2⟩⟩
                  case measure => simp [intOf]; omega
            · have f1 : ((z : Int) == 0) = false := beq_eq_false_iff_ne.2 (by omega)
              have f2 : (z == 0) = false := beq_eq_false_iff_ne.2 hz0
              have HN : Hid (kidsN (preN l) R d cur = nextN l st') := Lib.hid (HNO.out (by rw [HOKN.out, f2]; rfl))
              go_wp2_with fail
              go_roundw
              case rel => exact ⟨d, q, cur, a3, c3, A3, C3, rfl, rfl, by omega, by omega, Lib.hid ⟨HJ.out.1, HN.out, HJ.out.2.2⟩⟩
              case measure => simp [intOf]; omega
          · have gg1 : ¬ (1 : Int) < (D : Int) := by omega
            have g2 : decide ((1 : Int) < (D : Int)) = false := decide_eq_false gg1
            have g3 : decide (1 < D) = false := decide_eq_false hD1
            have HEND : Hid (cur = nextN l st') := Lib.hid (by rw [← HJ.out.2.1, kidsN_end (by omega)])
            have HZZ : Hid (Sr 37 25 2 w wj w.heap.size a3 q c3 (cur.reverse.map toI) A3 C3 a2 k c2 ((outN l out).map toI) A2 C2 none []) := Lib.hid (by
              have h := HJ.out.2.2
              exact ⟨h.op, h.ou, h.x1, h.x2, h.x3, RdI.nil _ _, fun p hp => (by cases hp), Apart.none_r _, Apart.none_r _, h.bel, h.hB⟩)
            have HMS : Hid (fuelS (stAt wj (.slice a3 q c3)).reverse < fuelS (stAt wo (.slice (some ⟨g1, 0, none⟩) (m + 1) c1)).reverse) := Lib.hid (by
              have h := stAt_eq (L := cur.reverse) (c := c3) HZZ.out.op.rd
              rw [List.length_reverse, HJ.out.1] at h
              rw [h, List.reverse_reverse, HM0.out, HEND.out]
              exact HFU.out)
            go_wp2_with fail
            go_roundw
            case rel => exact ⟨f', q, k, cur, outN l out, a3, c3, A3, C3, a2, c2, A2, C2, rfl, rfl, Lib.hid ⟨by omega, HJ.out.1, HOL.out, by rw [HEND.out]; exact HCK.out.2.2, by rw [HEND.out]; exact HRS.out, by omega, HZZ.out⟩⟩
            case measure => exact HMS.out
theorem spec_AllAbelian_bad (n : Int) (w : World) (h : n < 1 ∨ 1000 < n) :
    Calls Try.prog 75 #[.int .i64 n] w fun e w' => e = .returned (.tuple #[.slice none 0 0, .int .i64 2]) ∧ w = w' := by
  go_enter Try.func75, Try.ntmps75
  go_wp2_with (go_at_call 81; refine (l01In_f _ _ _ _ h).mono ?_; rintro e w' ⟨rfl, rfl⟩)
  go_ret2
  exact ⟨rfl, rfl⟩
end Go.Proofs.Ytkidohohiihbaaa
