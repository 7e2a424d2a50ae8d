/- The program's primary parts: the walk; both functions with errors. -/
import Derived.Test.YtgdialknnjnehaaPpI
import Derived.Test.YtgdialknnjnehaaPpR
import Derived.Test.YtgdialknnjnehaaAbOrd
set_option linter.unusedVariables false
set_option linter.unusedSimpArgs false
namespace Go.Proofs.Ytgdialknnjnehaa
open Go.RowKit

theorem exps_eq (n : Int) : expsOf n = (facL n).map Prod.snd := rfl
theorem partsOf_take {x : Int} {i : Nat} (h : i < (facL x).length) : (partsOf x).take (i + 1) = (partsOf x).take i ++ [el (primesOf x) i ^ (el (expsOf x) i).toNat] := by
  rw [take_el (by unfold partsOf; rw [List.length_map]; exact h)]
  congr 2
  unfold partsOf
  rw [primes_eq, exps_eq]
  simp [el, h]
theorem ent_facts {x : Int} (h1 : 1 ≤ x) (h2 : x ≤ 1000000) {i : Nat} (h : i < (facL x).length) :
    2 ≤ el (primesOf x) i ∧ el (primesOf x) i ≤ 1000000 ∧ 1 ≤ el (expsOf x) i ∧ el (expsOf x) i ≤ 20 ∧ el (primesOf x) i ^ (el (expsOf x) i).toNat ≤ 1000000 := by
  obtain ⟨s1, s2⟩ := facL_spec h1 h2
  have e1 : el (primesOf x) i = ((facL x)[i]).1 := by rw [primes_eq]; simp [el, h]
  have e2 : el (expsOf x) i = ((facL x)[i]).2 := by rw [exps_eq]; simp [el, h]
  rw [e1, e2]
  have hm := List.getElem_mem h
  obtain ⟨t1, t2, t3⟩ := s2.ent _ hm
  obtain ⟨⟨u1, u2, u3⟩, u4⟩ := ent_isPP h1 h2 hm
  have hex := exp_bd t2.1 u2
  refine ⟨t2.1, ?_, t3, by omega, u2⟩
  obtain ⟨k, hk⟩ : ∃ k, ((facL x)[i]).2.toNat = k + 1 := ⟨((facL x)[i]).2.toNat - 1, by omega⟩
  rw [hk, Int.pow_succ] at u2
  have h6 := pow_pos' (show 1 ≤ ((facL x)[i]).1 by have := t2.1; omega) k
  have := Int.mul_le_mul_of_nonneg_right h6 (show 0 ≤ ((facL x)[i]).1 by have := t2.1; omega)
  omega
theorem or_old {b b' a4 : Option Addr} {s s' : Nat} (h : b' = b ∨ ∃ p, b' = some p ∧ s ≤ p.block) (hs : s ≤ s') (q : a4 = b' ∨ ∃ p, a4 = some p ∧ s' ≤ p.block) : a4 = b ∨ ∃ p, a4 = some p ∧ s ≤ p.block := by
  rcases q with q | ⟨p, q, hp⟩
  · rw [q]; exact h
  · exact .inr ⟨p, q, Nat.le_trans hs hp⟩
set_option maxRecDepth 20000 in
set_option maxHeartbeats 4000000 in
theorem primaryParts_any (a : Option Addr) (n c : Nat) (xs : List Int) (r : Int) (w : World) (ha : RdI w a xs) (hl : xs.length = n) (hn : n ≤ 10) (hx : ∀ x ∈ xs, 1 ≤ x ∧ x ≤ 1000000) :
    Calls Try.prog 58 #[.agg #[.slice a n c, .int .i64 r]] w fun e w' => ∃ a' m c', e = .returned (.slice a' m c') ∧ OwnI 2 w' w.heap.size a' m c' (sortP (partsL xs)) ∧ Below w.heap.size w w' := by
  have HA := Lib.hid ha
  have HL := Lib.hid hl
  have HX := Lib.hid hx
  clear ha hl hx
  go_enter Try.func58, Try.ntmps58
  go_wp2_with fail
  go_loopw [3, 13] (fun u i wr => ∃ (k : Nat) (b : Option Addr) (m d : Nat), u = .slice b m d ∧ i = .int .i64 k ∧ k ≤ n ∧ Hid (OwnI 2 wr w.heap.size b m d (partsL (xs.take k)) ∧ Below w.heap.size w wr)) (fun _ i _ => n - (intOf i).toNat)
  case atStart => exact ⟨0, _, 0, 0, rfl, rfl, Nat.zero_le _, Lib.hid ⟨by simpa [partsL] using OwnI.none, (Below.refl _ _).alloc (Nat.le_refl _) _⟩⟩
  case round =>
    obtain ⟨k, b, m, d, rfl, rfl, hk, HR⟩ := hrel
    have hml : m = (partsL (xs.take k)).length := HR.out.1.len.symm
    have hmb : m ≤ 1002 * k := by
      have := partsL_len (xs.take k)
      rw [List.length_take] at this
      have : (partsL (xs.take k)).length ≤ 1002 * k := Nat.le_trans this (Nat.mul_le_mul_left _ (Nat.min_le_left _ _))
      omega
    clear hml
    by_cases hlt : k < n
    · have d1 : (k : Int) < n := by omega
      have d2 : decide ((k : Int) < n) = true := decide_eq_true d1
      have d3 : decide (k < n) = true := decide_eq_true hlt
      obtain ⟨b0, o0, rfl, hc⟩ := HA.out.keep HR.out.2 (Nat.le_refl _) (by have := HL.out; omega)
      have cx := hc k (by rw [HL.out]; exact hlt)
      have HXk := Lib.hid (HX.out (el xs k) (el_mem (by rw [HL.out]; exact hlt)))
      have HT : Hid (partsL (xs.take (k + 1)) = partsL (xs.take k) ++ partsOf (el xs k)) := Lib.hid (partsL_take (by rw [HL.out]; exact hlt))
      generalize el xs k = x at *
      obtain ⟨wo, rfl⟩ : ∃ x, x = wr := ⟨wr, rfl⟩
      clear hc
      go_wp2_with fail
      refine (factors_any x wo HXk.out.1 HXk.out.2).mono ?_
      rintro e w1 ⟨a1, n1, c1, a2, n2, c2, rfl, ho1, ho2, _, hb⟩
      have hn1 : n1 = (facL x).length := by have := ho1.len; rw [primes_eq, List.length_map] at this; omega
      have hn2 : n2 = n1 := by have := ho2.len; rw [exps_eq, List.length_map] at this; omega
      have hn1b : n1 ≤ 1002 := by rw [hn1]; exact facs_len _ _ _
      subst hn2
      have HE : Hid (∀ i, i < n2 → 2 ≤ el (primesOf x) i ∧ el (primesOf x) i ≤ 1000000 ∧ 1 ≤ el (expsOf x) i ∧ el (expsOf x) i ≤ 20 ∧ el (primesOf x) i ^ (el (expsOf x) i).toNat ≤ 1000000 ∧ (partsOf x).take (i + 1) = (partsOf x).take i ++ [el (primesOf x) i ^ (el (expsOf x) i).toNat]) := Lib.hid (fun i hi => by
        obtain ⟨t1, t2, t3, t4, t5⟩ := ent_facts HXk.out.1 HXk.out.2 (i := i) (by omega)
        exact ⟨t1, t2, t3, t4, t5, partsOf_take (by omega)⟩)
      have HPL : Hid ((partsOf x).length = n2) := Lib.hid (by unfold partsOf; rw [List.length_map]; exact hn1.symm)
      have HR1 : Hid (RdI w1 a1 (primesOf x) ∧ RdI w1 a2 (expsOf x)) := Lib.hid ⟨ho1.rd, ho2.rd⟩
      have HL1 : Hid ((primesOf x).length = n2 ∧ (expsOf x).length = n2) := Lib.hid ⟨ho1.len, ho2.len⟩
      have HO1 : Hid (OwnI 2 w1 w.heap.size b m d (partsL (xs.take k))) := Lib.hid (HR.out.1.keep hb (Nat.le_refl _))
      have HBO : Hid (wo.heap.size ≤ w1.heap.size ∧ Below w.heap.size w w1) := Lib.hid ⟨hb.size, HR.out.2.trans (hb.mono HR.out.2.size)⟩
      have HAP : Hid (∀ p q, b = some p → (a1 = some q ∨ a2 = some q) → p.block ≠ q.block) := Lib.hid (fun p q hp hq => by
        have h1 := (HR.out.1.block p hp).2
        rcases hq with hq | hq
        · have := (ho1.block q hq).1; omega
        · have := (ho2.block q hq).1; omega)
      have HLT : Hid (∀ q, (a1 = some q ∨ a2 = some q) → q.block < w1.heap.size) := Lib.hid (fun q hq => by
        rcases hq with hq | hq
        · exact (ho1.block q hq).2
        · exact (ho2.block q hq).2)
      clear ho1 ho2 hb hn1 HR
      go_wp2_with fail
      go_loopw [3, 24] (fun u i wr => ∃ (t : Nat) (b' : Option Addr) (m' d' : Nat), u = .slice b' m' d' ∧ i = .int .i64 t ∧ t ≤ n2 ∧ Hid (OwnI 2 wr w.heap.size b' m' d' (partsL (xs.take k) ++ (partsOf x).take t) ∧ Below w.heap.size w wr ∧ w1.heap.size ≤ wr.heap.size ∧ (b' = b ∨ ∃ p, b' = some p ∧ w1.heap.size ≤ p.block) ∧ RdI wr a1 (primesOf x) ∧ RdI wr a2 (expsOf x))) (fun _ i _ => n2 - (intOf i).toNat)
      case atStart => exact ⟨0, b, m, d, rfl, rfl, Nat.zero_le _, Lib.hid ⟨by simpa using HO1.out, HBO.out.2, Nat.le_refl _, .inl rfl, HR1.out.1, HR1.out.2⟩⟩
      case round =>
        obtain ⟨t, b', m', d', rfl, rfl, ht, HS⟩ := hrel
        have hml := HS.out.1.len
        have hm9 : m' ≤ 1000000 := by
          rw [List.length_append, List.length_take, HPL.out] at hml
          have h9 := HO1.out.len
          omega
        clear hml
        by_cases htl : t < n2
        · have d1 : (t : Int) < n2 := by omega
          have d2 : decide ((t : Int) < n2) = true := decide_eq_true d1
          have d3 : decide (t < n2) = true := decide_eq_true htl
          have hap : ∀ p q, b' = some p → (a1 = some q ∨ a2 = some q) → p.block ≠ q.block := fun p q hp hq => by
            rcases HS.out.2.2.2.1 with h | ⟨p', h, hp'⟩
            · exact HAP.out p q (h ▸ hp) hq
            · rw [hp] at h; injection h with h; subst h
              have := HLT.out q hq; omega
          have HAQ := Lib.hid hap
          obtain ⟨g1, o1, rfl, hc1⟩ := HS.out.2.2.2.2.1 (by rw [HL1.out.1]; omega)
          obtain ⟨g2, o2, rfl, hc2⟩ := HS.out.2.2.2.2.2 (by rw [HL1.out.2]; omega)
          have cp := hc1 t (by rw [HL1.out.1]; exact htl)
          have ce := hc2 t (by rw [HL1.out.2]; exact htl)
          obtain ⟨t1, t2, t3, t4, t5, t6⟩ := HE.out t htl
          have HTT := Lib.hid t6
          clear hc1 hc2 t6 hap
          have HSZ : Hid (w.heap.size ≤ wr.heap.size) := Lib.hid HS.out.2.1.size
          have hsz : w.heap.size ≤ wr.heap.size := HSZ.out
          obtain ⟨E, hE⟩ : ∃ E : Nat, el (expsOf x) t = E := ⟨(el (expsOf x) t).toNat, by omega⟩
          rw [hE] at ce t3 t4 t5 HTT
          generalize el (primesOf x) t = q at *
          have hEE : (E : Int).toNat = E := by simp
          rw [hEE] at t5 HTT
          obtain ⟨z, hz⟩ : ∃ z, z = q ^ E := ⟨_, rfl⟩
          have HP : Hid (∀ W : World, Calls Try.prog 67 #[.int .i64 q, .int .i64 E] W fun r w' => r = .returned (.int .i64 z) ∧ W = w') := Lib.hid (fun W => by rw [hz]; exact integerPower_any q E W (by omega) (by omega) (by omega))
          rw [← hz] at HTT
          clear hz hE hEE t5
          obtain ⟨wi, rfl⟩ : ∃ x, x = wr := ⟨wr, rfl⟩
          go_wp2_with (first
            | (go_at_call 67; refine (HP.out _).mono ?_; rintro e w' ⟨rfl, rfl⟩)
            | (at_builtin; refine wpList_push rfl (.tmp 29) (.tmp 36) 22 rfl w.heap.size 2 (.int .i64 0) 8 Try.underlying22 Try.info2f rfl (by decide) (.int .i64 z) rfl _ _ _ _ rfl rfl HS.out.1 (by omega) hsz ?_; rintro a4 c4 w4 r4 q4 g4; have HO4 : Hid (OwnI 2 w4 w.heap.size a4 (m' + 1) c4 (partsL (xs.take k) ++ (partsOf x).take (t + 1))) := Lib.hid (by rw [HTT.out, ← List.append_assoc]; exact OwnI.pushed r4); have HB4 : Hid (Below w.heap.size w w4) := Lib.hid (HS.out.2.1.trans (g4.below hsz (fun t ht hx => by obtain ⟨p, hp, e⟩ := hx; have := (HS.out.1.block p hp).1; omega))); have HZ4 : Hid (w1.heap.size ≤ w4.heap.size) := Lib.hid (Nat.le_trans HS.out.2.2.1 g4.size); have HQ4 : Hid (a4 = b ∨ ∃ p, a4 = some p ∧ w1.heap.size ≤ p.block) := Lib.hid (or_old HS.out.2.2.2.1 HS.out.2.2.1 q4); have HR4 : Hid (RdI w4 (some ⟨g1, o1, none⟩) (primesOf x) ∧ RdI w4 (some ⟨g2, o2, none⟩) (expsOf x)) := Lib.hid ⟨HS.out.2.2.2.2.1.same (fun p hp => g4.block _ (by injection hp with hp; subst hp; have := block_lt cp; simpa using this) (fun hx => by obtain ⟨p', hp', e⟩ := hx; exact HAQ.out p' p hp' (.inl hp) e)), HS.out.2.2.2.2.2.same (fun p hp => g4.block _ (by injection hp with hp; subst hp; have := block_lt ce; simpa using this) (fun hx => by obtain ⟨p', hp', e⟩ := hx; exact HAQ.out p' p hp' (.inr hp) e))⟩; clear r4 q4 g4))
          go_roundw
          case rel => exact ⟨t + 1, a4, m' + 1, c4, rfl, by go_num, by omega, Lib.hid ⟨HO4.out, HB4.out, HZ4.out, HQ4.out, HR4.out.1, HR4.out.2⟩⟩
          case measure => simp [intOf]; omega
        · have HF : Hid (OwnI 2 wr w.heap.size b' m' d' (partsL (xs.take (k + 1))) ∧ Below w.heap.size w wr) := Lib.hid ⟨by
            rw [HT.out]
            have h := HS.out.1
            rwa [show (partsOf x).take t = partsOf x from List.take_of_length_le (by rw [HPL.out]; omega)] at h, HS.out.2.1⟩
          have d1 : ¬ (t : Int) < n2 := by omega
          have d2 : decide ((t : Int) < n2) = false := decide_eq_false d1
          have d3 : decide (t < n2) = false := decide_eq_false htl
          go_wp2_with fail
          go_roundw
          case rel => exact ⟨k + 1, b', m', d', rfl, by go_num, by omega, HF⟩
          case measure => simp [intOf]; omega
    · have hkn : k = n := by omega
      have HO : Hid (OwnI 2 wr w.heap.size b m d (partsL xs) ∧ Below w.heap.size w wr) := Lib.hid (by
        have := HR.out
        rwa [List.take_of_length_le (by rw [HL.out]; omega)] at this)
      have d1 : ¬ (k : Int) < n := by omega
      have d2 : decide ((k : Int) < n) = false := decide_eq_false d1
      have d3 : decide (k < n) = false := decide_eq_false hlt
      have HPP : Hid (∀ x ∈ partsL xs, 2 ≤ x ∧ x ≤ 1000000) := Lib.hid (fun x hx => ⟨(partsL_PP HX.out x hx).1, (partsL_PP HX.out x hx).2.1⟩)
      clear HR hkn
      by_cases hm0 : m = 0
      · subst hm0
        have HN : Hid (sortP (partsL xs) = partsL xs) := Lib.hid (by
          have := HO.out.1.len
          rw [List.eq_nil_of_length_eq_zero this]; simp [sortP])
        go_wp2_with fail
        refine (sortFuncP_none b d wr).mono ?_
        rintro e w2 ⟨rfl, rfl⟩
        go_wp2_with fail
        go_ret
        exact ⟨b, 0, d, rfl, by rw [HN.out]; exact HO.out.1, HO.out.2⟩
      · obtain ⟨g, rfl⟩ := HO.out.1.addr (by omega)
        go_wp2_with fail
        refine (sortFuncP_any w.heap.size g m d (partsL xs) wr HO.out.1 (by omega) HPP.out).mono ?_
        rintro e w2 ⟨rfl, ho, hc⟩
        have HO2 := Lib.hid ho
        have HB2 : Hid (Below w.heap.size w w2) := Lib.hid (HO.out.2.trans (hc.below HO.out.2.size (fun t ht hx => by have h : w.heap.size ≤ g := (HO.out.1.block ⟨g, 0, none⟩ rfl).1; omega)))
        clear ho hc
        go_wp2_with fail
        go_ret
        exact ⟨_, m, d, rfl, HO2.out, HB2.out⟩
end Go.Proofs.Ytgdialknnjnehaa
