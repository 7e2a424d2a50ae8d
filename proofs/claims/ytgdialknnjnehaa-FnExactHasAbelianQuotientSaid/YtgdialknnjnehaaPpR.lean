/- The reference's primary parts. -/
import Derived.Test.YtgdialknnjnehaaPpS
set_option linter.unusedVariables false
set_option linter.unusedSimpArgs false
namespace Go.Proofs.Ytgdialknnjnehaa
open Go.RowKit

def pwr (x : Int × Int) : Int := x.1 ^ x.2.toNat
theorem partsOf_eq (n : Int) : partsOf n = (facL n).map pwr := rfl
/-- a number that is taken apart: n is left, p comes next, D is found -/
structure PS (x n p : Int) (f : Nat) (D : List Int) : Prop where
  nn : 1 ≤ n ∧ n ≤ 1000000
  p2 : 2 ≤ p
  fp : n = 1 ∨ (f : Int) + p = 1003
  pe : p ≤ 1000001
  eq : D ++ (facs f n p).map pwr = partsOf x
theorem PS.start {x : Int} (h1 : 1 ≤ x) (h2 : x ≤ 1000000) : PS x x 2 1001 [] := ⟨⟨h1, h2⟩, by omega, .inr (by omega), by omega, rfl⟩
theorem PS.done {x n p : Int} {f : Nat} {D : List Int} (h : PS x n p f D) (hn : ¬ 1 < n) : D = partsOf x := by
  have hn1 : n = 1 := by have := h.nn; omega
  have hp := h.p2
  have hf : facs f n p = [] := by
    have : n < p * p := by have := (mul_bd (x := 2) (y := 2) (A := p) (B := p) (by omega) hp (by omega) hp).2; omega
    rw [facs_end this, if_neg hn]
  have e := h.eq
  rw [hf] at e
  simpa using e
theorem PS.len {x n p : Int} {f : Nat} {D : List Int} (h : PS x n p f D) : D.length ≤ 1002 := by
  have := congrArg List.length h.eq
  rw [List.length_append] at this
  have := partsOf_len x
  omega
theorem PS.fpos {x n p : Int} {f : Nat} {D : List Int} (h : PS x n p f D) (hn : 1 < n) (hpp : p * p ≤ n) : ∃ g, f = g + 1 := by
  refine ⟨f - 1, ?_⟩
  rcases Nat.eq_zero_or_pos f with h0 | h0
  · exfalso
    subst h0
    have hf := h.fp
    have hp : p = 1003 := by omega
    rw [hp] at hpp
    have := h.nn
    omega
  · omega
theorem PS.hit {x n p : Int} {f : Nat} {D : List Int} (h : PS x n p f D) (hn : 1 < n) (hpp : p * p ≤ n) (hs : 0 < (strip p 20 n).2) : ∃ g, PS x (strip p 20 n).1 (p + 1) g (D ++ [p ^ (strip p 20 n).2.toNat]) := by
  obtain ⟨g, rfl⟩ := h.fpos hn hpp
  have hb := strip_bd h.p2 20 n (by omega)
  have hf := h.fp
  have hnn := h.nn
  refine ⟨g, ⟨by omega, ?_⟩, by have := h.p2; omega, .inr (by push_cast at hf; omega), ?_, ?_⟩
  · omega
  · have := h.pe; push_cast at hf; omega
  · have e := h.eq
    rw [facs_go hpp, if_pos hs] at e
    rw [← e]
    simp [pwr]
theorem PS.skip {x n p : Int} {f : Nat} {D : List Int} (h : PS x n p f D) (hn : 1 < n) (hpp : p * p ≤ n) (hs : ¬ 0 < (strip p 20 n).2) : ∃ g, PS x (strip p 20 n).1 (p + 1) g D := by
  obtain ⟨g, rfl⟩ := h.fpos hn hpp
  have hb := strip_bd h.p2 20 n (by omega)
  have hf := h.fp
  have hnn := h.nn
  refine ⟨g, ⟨by omega, ?_⟩, by have := h.p2; omega, .inr (by push_cast at hf; omega), ?_, ?_⟩
  · omega
  · have := h.pe; push_cast at hf; omega
  · have e := h.eq
    rw [facs_go hpp, if_neg hs] at e
    rw [← e]
    simp
theorem PS.last {x n p : Int} {f : Nat} {D : List Int} (h : PS x n p f D) (hn : 1 < n) (hpp : n < p * p) : PS x 1 (n + 1) 0 (D ++ [n]) := by
  have hnn := h.nn
  refine ⟨by omega, by omega, .inl rfl, by omega, ?_⟩
  have e := h.eq
  rw [facs_end hpp, if_pos hn] at e
  rw [← e]
  simp [facs, pwr, Int.pow_succ]
/-- taking p out of n0: n is left, q is taken -/
theorem strip_q {p n0 n k : Int} {g : Nat} (hS : Strip p n0 n k g) (hp : 2 ≤ p) (hq : n * p ^ k.toNat = n0) (hn0 : n0 ≤ 1000000) : 1 ≤ p ^ k.toNat ∧ p ^ k.toNat ≤ 1000000 := by
  have h1 := pow_pos' (show 1 ≤ p by omega) k.toNat
  have h2 := hS.n1
  have := Int.mul_le_mul_of_nonneg_right h2 (show 0 ≤ p ^ k.toNat by omega)
  omega
theorem strip_q_step {p n0 n k : Int} {g : Nat} (hS : Strip p n0 n k g) (hp : 2 ≤ p) (hq : n * p ^ k.toNat = n0) (hd : n % p = 0) : n / p * p ^ (k + 1).toNat = n0 ∧ p ^ k.toNat * p = p ^ (k + 1).toNat := by
  have h0 := hS.e0
  have e : (k + 1).toNat = k.toNat + 1 := by omega
  obtain ⟨q1, q2, q3, q4⟩ := div_facts hS.n1 hp hd
  rw [e, Int.pow_succ]
  refine ⟨?_, rfl⟩
  rw [← hq]
  conv => rhs; rw [← q4]
  grind
theorem OwnI.emptyP (T : TypeId) (w : World) : OwnI T (w.alloc (.cells #[] T)) w.heap.size (some ⟨w.heap.size, 0, Option.none⟩) 0 0 [] := OwnI.lit w T [] #[] rfl (by simp)
set_option maxRecDepth 20000 in
set_option maxHeartbeats 4000000 in
theorem l05Parts_any (a : Option Addr) (n c : Nat) (xs : List Int) (w : World) (ha : RdI w a xs) (hl : xs.length = n) (hn : n ≤ 10) (hx : ∀ x ∈ xs, 1 ≤ x ∧ x ≤ 1000000) :
    Calls Try.prog 57 #[.slice a n c] w fun e w' => ∃ a' m c', e = .returned (.slice a' m c') ∧ OwnI 2 w' w.heap.size a' m c' (sortP (partsL xs)) ∧ Below w.heap.size w w' := by
  have HA := Lib.hid ha
  have HL := Lib.hid hl
  have HX := Lib.hid hx
  clear ha hl hx
  go_enter Try.func57, Try.ntmps57
  go_wp2_with fail
  go_loopw [3, 4] (fun u i wr => ∃ (k : Nat) (b : Option Addr) (m d : Nat), u = .slice b m d ∧ i = .int .i64 k ∧ k ≤ n ∧ Hid (OwnI 2 wr w.heap.size b m d (partsL (xs.take k)) ∧ Below w.heap.size w wr)) (fun _ i _ => n - (intOf i).toNat)
  case atStart => exact ⟨0, _, 0, 0, rfl, rfl, Nat.zero_le _, Lib.hid ⟨by simpa [partsL] using OwnI.emptyP 2 w, (Below.refl _ _).alloc (Nat.le_refl _) _⟩⟩
  case round =>
    obtain ⟨k, b, m, d, rfl, rfl, hk, HR⟩ := hrel
    have hml : m = (partsL (xs.take k)).length := HR.out.1.len.symm
    have hmb : m ≤ 1002 * k := by
      have := partsL_len (xs.take k)
      rw [List.length_take] at this
      have h9 := HL.out
      have : (partsL (xs.take k)).length ≤ 1002 * k := Nat.le_trans this (Nat.mul_le_mul_left _ (Nat.min_le_left _ _))
      omega
    by_cases hlt : k < n
    · have d1 : (k : Int) < n := by omega
      have d2 : decide ((k : Int) < n) = true := decide_eq_true d1
      have d3 : decide (k < n) = true := decide_eq_true hlt
      obtain ⟨b0, o0, rfl, hc⟩ := HA.out.keep HR.out.2 (Nat.le_refl _) (by have := HL.out; omega)
      have cx := hc k (by rw [HL.out]; exact hlt)
      have HXk := Lib.hid (HX.out (el xs k) (el_mem (by rw [HL.out]; exact hlt)))
      have HT : Hid (partsL (xs.take (k + 1)) = partsL (xs.take k) ++ partsOf (el xs k)) := Lib.hid (partsL_take (by rw [HL.out]; exact hlt))
      generalize el xs k = x at *
      obtain ⟨wo, rfl⟩ : ∃ x, x = wr := ⟨wr, rfl⟩
      clear hc hml
      go_wp2_with fail
      go_loopw [3, 5, 6] (fun u v p wr => ∃ (b : Option Addr) (m d : Nat) (r q : Int) (f : Nat) (D : List Int), u = .slice b m d ∧ v = .int .i64 r ∧ p = .int .i64 q ∧ Hid (OwnI 2 wr w.heap.size b m d (partsL (xs.take k) ++ D) ∧ Below w.heap.size w wr ∧ PS x r q f D)) (fun _ v p _ => (intOf v - 1).toNat * 10000000 + (2000000 - intOf p).toNat)
      case atStart => exact ⟨b, m, d, x, 2, 1001, [], rfl, rfl, rfl, Lib.hid ⟨by simpa using HR.out.1, HR.out.2, PS.start HXk.out.1 HXk.out.2⟩⟩
      case round =>
        obtain ⟨b, m, d, r, q, f, D, rfl, rfl, rfl, HP⟩ := hrel
        clear HR
        have hml := HP.out.1.len
        have hD := HP.out.2.2.len
        have hpl : (partsL (xs.take k)).length ≤ 1002 * k := by
          have h9 := partsL_len (xs.take k)
          rw [List.length_take] at h9
          exact Nat.le_trans h9 (Nat.mul_le_mul_left _ (Nat.min_le_left _ _))
        have hm9 : m ≤ 100000 := by rw [List.length_append] at hml; omega
        have hsz : w.heap.size ≤ wr.heap.size := HP.out.2.1.size
        obtain ⟨b1, b2⟩ := HP.out.2.2.nn
        have b3 := HP.out.2.2.p2
        have b4 := HP.out.2.2.pe
        clear hml hD hpl cx
        by_cases hr : 1 < r
        · obtain ⟨m1, m2⟩ := mul_bd (x := q) (y := q) (by omega) b4 (by omega) b4
          obtain ⟨wm, rfl⟩ : ∃ x, x = wr := ⟨wr, rfl⟩
          by_cases hpp : q * q ≤ r
          · have hng : ¬ r < q * q := by omega
            go_wp2_with fail
            go_loop [5, 7] (fun u v => ∃ (s z kk : Int) (g : Nat), u = .int .i64 s ∧ v = .int .i64 z ∧ Hid (Strip q r s kk g ∧ z = q ^ kk.toNat ∧ s * q ^ kk.toNat = r)) (fun u _ => (intOf u).toNat)
            case atStart => exact ⟨r, 1, 0, 20, rfl, rfl, Lib.hid ⟨Strip.start (by omega) b2, by simp, by simp⟩⟩
            case round =>
              obtain ⟨s, z, kk, g, rfl, rfl, HS⟩ := hrel
              have s1 := HS.out.1.n1
              have sl := HS.out.1.le
              have hz := strip_q HS.out.1 b3 HS.out.2.2 b2
              rw [← HS.out.2.1] at hz
              obtain ⟨z1, z2⟩ := hz
              by_cases hd : s % q = 0
              · obtain ⟨q1, q2, q3, q4⟩ := div_facts s1 b3 hd
                obtain ⟨g', hg⟩ := HS.out.1.step b3 hd
                have hq := strip_q_step HS.out.1 b3 HS.out.2.2 hd
                have hzq := mul_bd (x := z) (y := q) (A := 1000000) (B := 1000001) (by omega) z2 (by omega) b4
                obtain ⟨zq1, zq2⟩ := hzq
                have HG : Hid (Strip q r (s / q) (kk + 1) g' ∧ z * q = q ^ (kk + 1).toNat ∧ s / q * q ^ (kk + 1).toNat = r) := Lib.hid ⟨hg, by rw [HS.out.2.1]; exact hq.2, hq.1⟩
                have hd' : (s % q == 0) = true := beq_iff_eq.2 hd
                clear hd hg hq q4
                go_wp2_with fail
                go_round
                case rel => exact ⟨s / q, z * q, kk + 1, g', rfl, rfl, HG⟩
                case measure => simp [intOf]; omega
              · obtain ⟨f1, f2⟩ := HS.out.1.fin hd
                have hd' : (s % q == 0) = false := beq_eq_false_iff_ne.2 hd
                have hk0 := HS.out.1.e0
                by_cases hz1 : 1 < z
                · have hpos : 0 < (strip q 20 r).2 := by
                    rw [← f2]
                    rcases Int.lt_or_le 0 kk with h | h
                    · exact h
                    · exfalso
                      have : kk = 0 := by omega
                      have h9 := HS.out.2.1
                      rw [this] at h9
                      simp at h9
                      omega
                  obtain ⟨g2, hh⟩ := HP.out.2.2.hit hr hpp hpos
                  rw [← f1, ← f2, ← HS.out.2.1] at hh
                  have HN := Lib.hid hh
                  have dz : decide (1 < z) = true := decide_eq_true hz1
                  clear hd f1 f2 hh hpos
                  go_wp2_with (at_builtin; refine wpList_push rfl (.tmp 41) (.tmp 43) 22 rfl w.heap.size 2 (.int .i64 0) 8 Try.underlying22 Try.info2f rfl (by decide) (.int .i64 z) rfl _ _ _ _ rfl rfl HP.out.1 (by omega) hsz ?_; rintro a4 c4 w4 r4 q4 g4; have HO4 : Hid (OwnI 2 w4 w.heap.size a4 (m + 1) c4 (partsL (xs.take k) ++ (D ++ [z]))) := Lib.hid (by rw [← List.append_assoc]; exact OwnI.pushed r4); have HB4 : Hid (Below w.heap.size w w4) := Lib.hid (HP.out.2.1.trans (g4.below hsz (fun t ht hx => by obtain ⟨p, hp, e⟩ := hx; have := (HP.out.1.block p hp).1; omega))); clear r4 q4 g4)
                  go_roundw
                  case rel => exact ⟨a4, m + 1, c4, s, q + 1, g2, D ++ [z], rfl, rfl, by go_num, Lib.hid ⟨HO4.out, HB4.out, HN.out⟩⟩
                  case measure => simp [intOf]; omega
                · have hpos : ¬ 0 < (strip q 20 r).2 := by
                    rw [← f2]
                    intro h
                    obtain ⟨t, ht⟩ : ∃ t, kk.toNat = t + 1 := ⟨kk.toNat - 1, by omega⟩
                    have h9 := HS.out.2.1
                    rw [ht, Int.pow_succ] at h9
                    have h8 := pow_pos' (show 1 ≤ q by omega) t
                    have := Int.mul_le_mul h8 b3 (by omega) (by omega)
                    omega
                  obtain ⟨g2, hh⟩ := HP.out.2.2.skip hr hpp hpos
                  rw [← f1] at hh
                  have HN := Lib.hid hh
                  have dz : decide (1 < z) = false := decide_eq_false hz1
                  clear hd f1 f2 hh hpos
                  go_wp2_with fail
                  go_roundw
                  case rel => exact ⟨b, m, d, s, q + 1, g2, D, rfl, rfl, by go_num, Lib.hid ⟨HP.out.1, HP.out.2.1, HN.out⟩⟩
                  case measure => simp [intOf]; omega
          · have hgt : r < q * q := by omega
            have HN := Lib.hid (HP.out.2.2.last hr hgt)
            have hr2 : 2 ≤ r := by omega
            go_wp2_with fail
            go_loop [5, 7] (fun u v => ∃ (s z kk : Int) (g : Nat), u = .int .i64 s ∧ v = .int .i64 z ∧ Hid (Strip r r s kk g ∧ z = r ^ kk.toNat ∧ s * r ^ kk.toNat = r)) (fun u _ => (intOf u).toNat)
            case atStart => exact ⟨r, 1, 0, 20, rfl, rfl, Lib.hid ⟨Strip.start (by omega) b2, by simp, by simp⟩⟩
            case round =>
              obtain ⟨s, z, kk, g, rfl, rfl, HS⟩ := hrel
              have s1 := HS.out.1.n1
              have sl := HS.out.1.le
              have hz := strip_q HS.out.1 hr2 HS.out.2.2 b2
              rw [← HS.out.2.1] at hz
              obtain ⟨z1, z2⟩ := hz
              by_cases hd : s % r = 0
              · obtain ⟨q1, q2, q3, q4⟩ := div_facts s1 hr2 hd
                obtain ⟨g', hg⟩ := HS.out.1.step hr2 hd
                have hq := strip_q_step HS.out.1 hr2 HS.out.2.2 hd
                have hzq := mul_bd (x := z) (y := r) (A := 1000000) (B := 1000001) (by omega) z2 (by omega) (by omega)
                obtain ⟨zq1, zq2⟩ := hzq
                have HG : Hid (Strip r r (s / r) (kk + 1) g' ∧ z * r = r ^ (kk + 1).toNat ∧ s / r * r ^ (kk + 1).toNat = r) := Lib.hid ⟨hg, by rw [HS.out.2.1]; exact hq.2, hq.1⟩
                have hd' : (s % r == 0) = true := beq_iff_eq.2 hd
                clear hd hg hq q4
                go_wp2_with fail
                go_round
                case rel => exact ⟨s / r, z * r, kk + 1, g', rfl, rfl, HG⟩
                case measure => simp [intOf]; omega
              · obtain ⟨f1, f2⟩ := HS.out.1.fin hd
                have hd' : (s % r == 0) = false := beq_eq_false_iff_ne.2 hd
                have hSS := strip_self hr
                rw [hSS] at f1 f2
                have hzr : z = r := by
                  have h9 := HS.out.2.1
                  rw [f2] at h9
                  simpa [Int.pow_succ] using h9
                have HZ := Lib.hid hzr
                have HS1 := Lib.hid f1
                have hz1 : 1 < z := by omega
                clear hd f1 f2 hSS hzr
                go_wp2_with (at_builtin; refine wpList_push rfl (.tmp 41) (.tmp 43) 22 rfl w.heap.size 2 (.int .i64 0) 8 Try.underlying22 Try.info2f rfl (by decide) (.int .i64 z) rfl _ _ _ _ rfl rfl HP.out.1 (by omega) hsz ?_; rintro a4 c4 w4 r4 q4 g4; have HO4 : Hid (OwnI 2 w4 w.heap.size a4 (m + 1) c4 (partsL (xs.take k) ++ (D ++ [z]))) := Lib.hid (by rw [← List.append_assoc]; exact OwnI.pushed r4); have HB4 : Hid (Below w.heap.size w w4) := Lib.hid (HP.out.2.1.trans (g4.below hsz (fun t ht hx => by obtain ⟨p, hp, e⟩ := hx; have := (HP.out.1.block p hp).1; omega))); clear r4 q4 g4)
                go_roundw
                case rel => exact ⟨a4, m + 1, c4, s, r + 1, 0, D ++ [z], rfl, rfl, by go_num, Lib.hid ⟨HO4.out, HB4.out, by rw [HS1.out, HZ.out]; exact HN.out⟩⟩
                case measure => have := HS1.out; simp [intOf]; omega
        · have HDn : Hid (OwnI 2 wr w.heap.size b m d (partsL (xs.take (k + 1))) ∧ Below w.heap.size w wr) := Lib.hid ⟨by rw [HT.out, ← HP.out.2.2.done hr]; exact HP.out.1, HP.out.2.1⟩
          go_wp2_with fail
          go_roundw
          case rel => exact ⟨k + 1, b, m, d, rfl, by go_num, by omega, HDn⟩
          case measure => simp [intOf]; omega
    · have hkn : k = n := by omega
      have HO : Hid (OwnI 2 wr w.heap.size b m d (partsL xs) ∧ Below w.heap.size w wr) := Lib.hid (by
        have := HR.out
        rwa [List.take_of_length_le (by rw [HL.out]; omega)] at this)
      have d1 : ¬ (k : Int) < n := by omega
      have d2 : decide ((k : Int) < n) = false := decide_eq_false d1
      have d3 : decide (k < n) = false := decide_eq_false hlt
      have HPP := Lib.hid (partsL_PP HX.out)
      clear HR hkn hml
      go_wp2_with fail
      refine (l05Sorted_any b m d (partsL xs) wr HO.out.1.rd HO.out.1.len (by omega) HPP.out).mono ?_
      rintro e w2 ⟨a', c', rfl, ho, hb⟩
      have HO2 := Lib.hid (ho.mono HO.out.2.size)
      have HB2 := Lib.hid (HO.out.2.trans (hb.mono HO.out.2.size))
      clear ho hb
      go_wp2_with fail
      go_ret
      exact ⟨a', m, c', rfl, HO2.out, HB2.out⟩
end Go.Proofs.Ytgdialknnjnehaa
