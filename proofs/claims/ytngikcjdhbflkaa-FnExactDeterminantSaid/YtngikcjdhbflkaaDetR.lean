/- The determinant modulo p by elimination: the reference. -/
import Derived.Test.YtngikcjdhbflkaaDetP
import Derived.Test.YtngikcjdhbflkaaMatRed
import Derived.Test.YtngikcjdhbflkaaRedS
import Derived.Deep.RegionLaw
import Derived.Deep.RegionHeld3
set_option linter.unusedVariables false
set_option linter.unusedSimpArgs false
namespace Go.Proofs.Ytngikcjdhbflkaa
open Go.RowKit

theorem swi_comm (d e i : Nat) : swi d e i = swi e d i := by
  unfold swi
  by_cases h1 : i = d
  · rw [if_pos h1]
    by_cases h2 : i = e
    · rw [if_pos h2]; omega
    · rw [if_neg h2, if_pos h1]
  · rw [if_neg h1]
    by_cases h2 : i = e
    · rw [if_pos h2, if_pos h2]
    · rw [if_neg h2, if_neg h2, if_neg h1]
theorem swR_comm (T : List (List Int)) (d e : Nat) : swR T d e = swR T e d := by
  unfold swR
  refine tab_congr fun i _ => by rw [swi_comm]
/-- a row replaced by a new one -/
theorem OwnR.putRow {T1 T2 : TypeId} {w : World} {B B1 n cap g k m' cr : Nat} {xss : List (List Int)} {A : Nat → Option Addr} {C : Nat → Nat} {ar : Option Addr} {r : List Int} (h : OwnR T1 T2 w B (some ⟨g, 0, Option.none⟩) n cap xss A C) (hk : k < n)
    (hr : OwnI T2 w B1 ar m' cr r) (hB : B ≤ B1) (hg : g < B1) (hA : ∀ i, i < n → ∀ p, A i = some p → p.block < B1) :
    OwnR T1 T2 (w.setCell ⟨g, k, Option.none⟩ (.slice ar m' cr)) B (some ⟨g, 0, Option.none⟩) n cap (rowSet xss k r) (fun i => if i = k then ar else A i) (fun i => if i = k then cr else C i) := by
  have hl := h.len
  have hrl := hr.len
  subst hrl
  have hne : ∀ i, i < n → ∀ p, A i = some p → p.block ≠ g := fun i hi p hp hx => h.apo i hi _ p rfl hp hx.symm
  have hnr : ∀ p, ar = some p → p.block ≠ g := fun p hp hx => by have := (hr.block p hp).1; omega
  refine ⟨by rw [rowSet_len, hl], ?_, fun i hi => ?_, fun i j hi hj hij => ?_, fun i hi => ?_⟩
  · have h1 := ownsRow_setCell h.own hk (.slice ar r.length cr)
    have e1 : (rowVals xss A C n).set k (.slice ar r.length cr) = rowVals (rowSet xss k r) (fun i => if i = k then ar else A i) (fun i => if i = k then cr else C i) n := by
      refine List.ext_getElem? fun i => ?_
      rw [List.getElem?_set]
      by_cases hi : i < n
      · rw [rowVals_get hi, rowVals_get hi]
        simp only [rowVals_len]
        by_cases h1 : k = i
        · subst h1
          rw [if_pos rfl, if_pos hi, if_pos rfl, if_pos rfl, rowSet_eq (by omega)]
        · rw [if_neg h1, if_neg (fun e => h1 e.symm), if_neg (fun e => h1 e.symm), rowSet_ne (by omega) (fun e => h1 e.symm)]
      · rw [if_neg (by omega), List.getElem?_eq_none (by rw [rowVals_len]; omega), List.getElem?_eq_none (by rw [rowVals_len]; omega)]
    rw [← e1]; exact h1
  · by_cases h1 : i = k
    · subst h1
      rw [rowSet_eq (by omega), if_pos rfl, if_pos rfl]
      exact (hr.mono hB).same (fun p hp => Below.heap_setCell _ _ _ _ (hnr p hp))
    · rw [rowSet_ne (by omega) h1, if_neg h1, if_neg h1]
      exact (h.row i hi).same (fun p hp => Below.heap_setCell _ _ _ _ (hne i hi p hp))
  · by_cases h1 : i = k
    · rw [if_pos h1, if_neg (by omega)]
      intro p q hp hq
      have := (hr.block p hp).1
      have := hA j hj q hq
      omega
    · rw [if_neg h1]
      by_cases h2 : j = k
      · rw [if_pos h2]
        intro p q hp hq
        have := (hr.block q hq).1
        have := hA i hi p hp
        omega
      · rw [if_neg h2]; exact h.ap i j hi hj hij
  · by_cases h1 : i = k
    · rw [if_pos h1]
      intro p q hp hq
      injection hp with hp; subst hp
      exact fun e => hnr q hq e.symm
    · rw [if_neg h1]; exact h.apo i hi
set_option maxRecDepth 100000 in
set_option maxHeartbeats 16000000 in
theorem l02Det_any (p : Int) (hp : GP p) (a : Option Addr) (n cA : Nat) (xss : List (List Int)) (w : World) (ha : RdR w a xss) (hl : xss.length = n) (hr : Rws p n xss) (hn : n ≤ 50) :
    Calls Try.prog 64 #[.int .i64 p, .slice a n cA] w fun e w' => ∃ r : Int, e = .returned (.int .i64 r) ∧ DetR p n xss 1 0 r ∧ Below w.heap.size w w' := by
  have HP := Lib.hid hp
  obtain ⟨p2, p7⟩ := hp.bd
  have HA := Lib.hid ha
  have HL := Lib.hid hl
  have HR := Lib.hid hr
  clear hp ha hl hr
  by_cases hn0 : n = 0
  · subst hn0
    go_enter Try.func64, Try.ntmps64
    go_wp2_with fail
    go_ret
    exact ⟨1, rfl, .done, Below.refl _ _⟩
  have B0 : ((n : Int) == 0) = false := beq_eq_false_iff_ne.2 (by omega)
  go_enter Try.func64, Try.ntmps64
  go_wp2_with fail
  refine (l01Own2_any _ _ _ xss _ (by exact HA.out) HL.out (fun i hi => by rw [HR.out.row i (by rw [HL.out]; exact hi)]; omega) (by omega)).mono ?_
  rintro e w1 ⟨a2, c2, rfl, ho, hb⟩
  obtain ⟨A0, C0, ho⟩ := ho
  have H0 : Hid (OwnR 38 2 w1 w.heap.size a2 n c2 xss A0 C0 ∧ Rws p n xss ∧ (∀ r, DetR p n xss 1 0 r → DetR p n xss 1 0 r) ∧ Below w.heap.size w w1) := Lib.hid ⟨ho, HR.out, fun _ h => h, hb⟩
  clear ho hb
  go_wp2_with fail
  go_loopw [7, 6] (fun cc oo wr => ∃ (c : Nat) (o : Int) (T : List (List Int)) (A : Nat → Option Addr) (C : Nat → Nat), cc = .int .i64 c ∧ oo = .int .i64 o ∧ c ≤ n ∧ 0 ≤ o ∧ o ≤ 7 ∧ Hid (OwnR 38 2 wr w.heap.size a2 n c2 T A C ∧ Rws p n T ∧ (∀ r, DetR p n T o c r → DetR p n xss 1 0 r) ∧ Below w.heap.size w wr)) (fun cc _ _ => n - (intOf cc).toNat)
  case atStart => exact ⟨0, 1, xss, A0, C0, rfl, rfl, Nat.zero_le _, by omega, by omega, H0⟩
  case round =>
    obtain ⟨c, o, T, A, C, rfl, rfl, hcn, o0, o7, HJ⟩ := hrel
    obtain ⟨wo, rfl⟩ : ∃ x, x = wr := ⟨wr, rfl⟩
    clear H0
    have HTl : Hid (T.length = n) := Lib.hid HJ.out.1.len
    by_cases hc : c < n
    · obtain ⟨g, rfl, hcell, hfrz, hBg, hgs⟩ := HJ.out.1.addr (by omega)
      have HC : Hid (∀ i, i < n → wo.cell? ⟨g, i, none⟩ = some (.slice (A i) n (C i))) := Lib.hid fun i hi => by rw [hcell i hi, HJ.out.2.1.row i (by rw [HTl.out]; exact hi)]
      have HFZ := Lib.hid hfrz
      clear hcell hfrz
      have HZ0 : Hid (∀ i, c ≤ i → i < c → el (rw_ T i) c = 0) := Lib.hid fun i h1 h2 => absurd h2 (by omega)
      have J0 : (c : Int) < (n : Int) := by omega
      go_wp2_with fail
      go_loop [8] (fun t => ∃ m : Nat, c ≤ m ∧ m ≤ n ∧ t = .int .i64 m ∧ Hid (∀ i, c ≤ i → i < m → el (rw_ T i) c = 0)) (fun t => n - (intOf t).toNat)
      case atStart => exact ⟨c, Nat.le_refl _, by omega, rfl, HZ0⟩
      case round =>
        obtain ⟨m, hcm, hm, rfl, HZ⟩ := hrel
        clear HZ0
        by_cases hmt : m < n
        · have cm := HC.out m hmt
          obtain ⟨bm, om, hA, hcm2⟩ := (HJ.out.1.row m hmt).rd (by rw [HJ.out.2.1.row m (by rw [HTl.out]; exact hmt)]; omega)
          have em := hcm2 c (by rw [HJ.out.2.1.row m (by rw [HTl.out]; exact hmt)]; exact hc)
          clear hcm2
          rw [hA] at cm
          have b3 : decide ((m : Int) < (n : Int)) = true := decide_eq_true (by omega)
          have HAm := Lib.hid hA
          clear hA
          by_cases hz : el (rw_ T m) c = 0
          · have HZ1 : Hid (∀ i, c ≤ i → i < m + 1 → el (rw_ T i) c = 0) := Lib.hid fun i h1 h2 => by
              by_cases he : i = m
              · subst he; exact hz
              · exact HZ.out i h1 (by omega)
            have b4 : (el (rw_ T m) c == 0) = true := beq_iff_eq.2 hz
            clear hz
            go_wp2_with fail
            go_round
            case rel => exact ⟨m + 1, by omega, by omega, by go_num, HZ1⟩
            case measure => simp [intOf]; omega
          · --NZ
            have b4 : (el (rw_ T m) c == 0) = false := beq_eq_false_iff_ne.2 hz
            have b5 : ((m : Int) == (n : Int)) = false := beq_eq_false_iff_ne.2 (by omega)
            by_cases hmc : m = c
            · subst hmc
              have b6 : ((m : Int) != (m : Int)) = false := by simp
              have HS : Hid (OwnR 38 2 wo w.heap.size (some ⟨g, 0, none⟩) n c2 T A C ∧ Below w.heap.size w wo) := Lib.hid ⟨HJ.out.1, HJ.out.2.2.2⟩
              have HRS : Hid (Rws p n T) := Lib.hid HJ.out.2.1
              have HNE : Hid (el (rw_ T m) m ≠ 0) := Lib.hid hz
              have HDR : Hid (∀ x r, IsInv (el (rw_ T m) m) p x → DetR p n (elimD p x T m n) (o * el (rw_ T m) m % p) (m + 1) r → DetR p n xss 1 0 r) := Lib.hid fun x r h1 h2 => HJ.out.2.2.1 r (.step hc hcm hmt HZ.out hz h1 (by rw [swR_same]; unfold sgnS; rw [if_pos rfl]; exact h2))
              clear cm em HC HFZ hz HAm
              have HSl : Hid (T.length = n) := Lib.hid HS.out.1.len
              have HLc : Hid ((rw_ T m).length = n) := Lib.hid (HRS.out.row m (by rw [HSl.out]; exact hc))
              obtain ⟨gc, hgc⟩ := (HS.out.1.row m hc).addr (by rw [HLc.out]; omega)
              have HGC := Lib.hid hgc
              have cc5 := (HS.out.1.at_ hc).1
              rw [hgc, HLc.out] at cc5
              have ee5 := (HS.out.1.rowAt hc hgc).cellAt (i := m) (by rw [HLc.out]; exact hc)
              obtain ⟨r1, r2⟩ := HRS.out.rng m m (by rw [HSl.out]; exact hc) hc
              have hgb0 : Int.gcd (el (rw_ T m) m) p = 1 := gp_gcd HP.out (by have := HNE.out; omega) r2
              obtain ⟨x, hinv⟩ := inv_exists hgb0 (by omega)
              have HIV := Lib.hid hinv
              obtain ⟨x0, x1, _⟩ := id hinv
              obtain ⟨z1, z2⟩ := prod_bd (k := o) (x := el (rw_ T m) m) (by omega) (by omega) (by omega) (by omega)
              have z0 : 0 ≤ o * el (rw_ T m) m := Int.mul_nonneg (by omega) r1
              have W1 : IntKind.i64.wrap (o * el (rw_ T m) m) = o * el (rw_ T m) m := IntWalk.i64_in _ (by omega)
              have W2 : (o * el (rw_ T m) m).tmod p = o * el (rw_ T m) m % p := Int.tmod_eq_emod_of_nonneg z0
              have J3 : ¬ p = 0 := by omega
              obtain ⟨oo1, oo2⟩ := emod_bd (o * el (rw_ T m) m) p (by omega)
              have HS6 : Hid (OwnR 38 2 wo w.heap.size (some ⟨g, 0, none⟩) n c2 (elimD p x T m (m + 1)) A C ∧ Below w.heap.size w wo) := Lib.hid (by rw [elimD_start]; exact HS.out)
              clear hgc hgb0 hinv
              go_wp2_with (first
                | (go_at_call 87; refine (l01Mod_any _ _ _ (by omega) (by omega) (by omega) (by omega)).mono ?_; rintro e w' ⟨rfl, rfl⟩)
                | (go_at_call 88; refine (l01Inv_yes _ _ _ (by omega) (by omega) (by omega) (by omega) x HIV.out).mono ?_; rintro e w' ⟨rfl, rfl⟩))
              clear cc5 ee5
              go_loopw [11] (fun i wr => ∃ (k : Nat) (A2 : Nat → Option Addr) (C2 : Nat → Nat), m + 1 ≤ k ∧ k ≤ n ∧ i = .int .i64 k ∧ (∀ i, k ≤ i → A2 i = A i) ∧ A2 m = A m ∧ Hid (OwnR 38 2 wr w.heap.size (some ⟨g, 0, none⟩) n c2 (elimD p x T m k) A2 C2 ∧ Below w.heap.size w wr)) (fun i _ => n - (intOf i).toNat)
              case atStart => exact ⟨m + 1, A, C, Nat.le_refl _, by omega, by go_num, fun _ _ => rfl, rfl, HS6⟩
              case round =>
                obtain ⟨k, A2, C2, hck, hkn, rfl, hA2, hA2c, HK⟩ := hrel
                obtain ⟨wk, rfl⟩ : ∃ x, x = wr := ⟨wr, rfl⟩
                clear HS6
                by_cases hkt : k < n
                · have hiS : k < T.length := by rw [HSl.out]; exact hkt
                  have hcS : m < T.length := by rw [HSl.out]; exact hc
                  have rk : rw_ (elimD p x T m k) k = rw_ T k := elimD_no hiS (.inr (Nat.le_refl _))
                  have rc : rw_ (elimD p x T m k) m = rw_ T m := elimD_no hcS (.inl (Nat.le_refl _))
                  have lk : (rw_ T k).length = n := HRS.out.row _ hiS
                  obtain ⟨gk, hgk⟩ := (HK.out.1.row _ hkt).addr (by rw [rk, lk]; omega)
                  have ck := (HK.out.1.at_ hkt).1
                  have fk := (HK.out.1.at_ hkt).2.1
                  have cd := (HK.out.1.at_ hc).1
                  rw [hgk, rk, lk] at ck
                  rw [hA2c, HGC.out, rc, HLc.out] at cd
                  have hk7 := HK.out.1.rowAt hkt hgk
                  have hd7 := HK.out.1.row m hc
                  rw [rk, lk] at hk7
                  rw [hA2c, HGC.out, rc, HLc.out] at hd7
                  have ek := hk7.cellAt hc
                  have HK7 := Lib.hid hk7.rd
                  have HD7 := Lib.hid hd7.rd
                  have LK := Lib.hid lk
                  obtain ⟨v1, v2⟩ := HRS.out.rng k m hiS hc
                  have hq36 : 0 ≤ el (rw_ T k) m * x ∧ el (rw_ T k) m * x ≤ 49 := by
                    have h1 : 0 ≤ el (rw_ T k) m * x := Int.mul_nonneg v1 x0
                    have h2 : el (rw_ T k) m * x ≤ 7 * 7 := Int.mul_le_mul (by omega) (by omega) x0 (by omega)
                    omega
                  obtain ⟨hq1, hq2⟩ := hq36
                  have W4 : IntKind.i64.wrap (el (rw_ T k) m * x) = el (rw_ T k) m * x := IntWalk.i64_in _ (by omega)
                  have W5 : (el (rw_ T k) m * x).tmod p = el (rw_ T k) m * x % p := Int.tmod_eq_emod_of_nonneg hq1
                  obtain ⟨hm1, hm2⟩ := emod_bd (el (rw_ T k) m * x) p (by omega)
                  have W6 : IntKind.i64.wrap (p - el (rw_ T k) m * x % p) = p - el (rw_ T k) m * x % p := IntWalk.i64_in _ (by omega)
                  have HMK : Hid (addm p (p - el (rw_ T k) m * x % p) (rw_ T k) (rw_ T m) = addm p (-(el (rw_ T k) m) * x) (rw_ T k) (rw_ T m)) := Lib.hid (addm_modk (by
                    obtain ⟨y, hy⟩ := dvd_sub_emod (el (rw_ T k) m * x) p
                    exact ⟨1 + y, by rw [Int.mul_add, ← hy, Int.neg_mul]; omega⟩))
                  have J5 : (k : Int) < (n : Int) := by omega
                  have J7 : (m : Int) < (n : Int) := by omega
                  have gw : g < wk.heap.size := (HK.out.1.at_ hkt).2.2.1
                  have gB : w.heap.size ≤ g := (HK.out.1.at_ hkt).2.2.2
                  clear hk7 hd7 hgk lk rk rc
                  go_wp2_with fail
                  go_region_law (go_simp; go_at_call 89; refine (l02Add_any _ _ n _ _ (rw_ T k) (rw_ T m) _ p _ (by exact HK7.out.same (fun _ _ => rfl)) (by exact HD7.out.same (fun _ _ => rfl)) LK.out HLc.out (by omega) p2 p7 (by omega) (by omega) (fun j hj => HRS.out.rng _ j hiS hj) (fun j hj => HRS.out.rng m j hcS hj)).mono ?_; rintro e w8 ⟨a8, c8, rfl, ho, hb⟩; have HB8 : Hid (Below wk.heap.size wk w8) := Lib.hid ⟨hb.os, hb.tape, hb.output, hb.size, hb.block⟩; have HO8 : Hid (OwnI 2 w8 wk.heap.size a8 n c8 (addm p (p - el (rw_ T k) m * x % p) (rw_ T k) (rw_ T m))) := Lib.hid ho; have ck8 := cell_below (p := ⟨g, k, none⟩) ck HB8.out; have fk8 : w8.frozen? ⟨g, k, none⟩ = false := ((HK.out.1.keep HB8.out (Nat.le_refl _)).at_ hkt).2.1; have gw8 : g < w8.heap.size := Nat.lt_of_lt_of_le gw HB8.out.size; clear ho hb)
                  all_goals
                    have HN : Hid (OwnR 38 2 (w8.setCell ⟨g, k, none⟩ (.slice a8 n c8)) w.heap.size (some ⟨g, 0, none⟩) n c2 (elimD p x T m (k + 1)) (fun i => if i = k then a8 else A2 i) (fun i => if i = k then c8 else C2 i) ∧ Below w.heap.size w (w8.setCell ⟨g, k, none⟩ (.slice a8 n c8))) := by
                      have h := (HK.out.1.keep HB8.out (Nat.le_refl _)).putRow hkt HO8.out (by omega) gw (fun i hi q hq => ((HK.out.1.row i hi).block q hq).2)
                      rw [HMK.out, elimD_succ hiS (by omega)] at h
                      exact Lib.hid ⟨h, (HK.out.2.trans (HB8.out.mono HK.out.2.size)).setCell (p := ⟨g, k, none⟩) gB _⟩
                    go_wp2_with fail
                    go_roundw
                    case rel => exact ⟨k + 1, _, _, by omega, by omega, by go_num, fun i hi => by rw [if_neg (by omega)]; exact hA2 i (by omega), by rw [if_neg (by omega)]; exact hA2c, HN⟩
                    case measure => simp [intOf]; omega
                · obtain rfl : k = n := by omega
                  have HN : Hid (OwnR 38 2 wk w.heap.size (some ⟨g, 0, none⟩) k c2 (elimD p x T m k) A2 C2 ∧ Rws p k (elimD p x T m k) ∧ (∀ r, DetR p k (elimD p x T m k) (o * el (rw_ T m) m % p) (m + 1) r → DetR p k xss 1 0 r) ∧ Below w.heap.size w wk) := Lib.hid ⟨HK.out.1, elimD_rws HRS.out p2, fun r hr => HDR.out x r HIV.out hr, HK.out.2⟩
                  go_wp2_with fail
                  go_roundw
                  case rel => exact ⟨m + 1, _, _, A2, C2, by go_num, rfl, by omega, oo1, by omega, HN⟩
                  case measure => simp [intOf]; omega
            · have b6 : ((m : Int) != (c : Int)) = true := bne_iff_ne.2 (by omega)
              have cd := HC.out c (by omega)
              have fd := HFZ.out c
              have fm := HFZ.out m
              have J2 : (m : Int) < (n : Int) := by omega
              have HS : Hid (OwnR 38 2 ((wo.setCell ⟨g, m, none⟩ (.slice (A c) n (C c))).setCell ⟨g, c, none⟩ (.slice (some ⟨bm, om, none⟩) n (C m))) w.heap.size (some ⟨g, 0, none⟩) n c2 (swR T c m) (fun i => A (swi m c i)) (fun i => C (swi m c i)) ∧ Below w.heap.size w ((wo.setCell ⟨g, m, none⟩ (.slice (A c) n (C c))).setCell ⟨g, c, none⟩ (.slice (some ⟨bm, om, none⟩) n (C m)))) := by
                have hg := (ownsRow_block HJ.out.1.own _ rfl).1
                refine Lib.hid ⟨?_, ?_⟩
                · have h := HJ.out.1.swap hmt hc
                  rw [HJ.out.2.1.row m (by rw [HTl.out]; exact hmt), HJ.out.2.1.row c (by rw [HTl.out]; exact hc), HAm.out, swR_comm] at h
                  exact h
                · exact (HJ.out.2.2.2.setCell (p := ⟨g, m, none⟩) hg _).setCell (p := ⟨g, c, none⟩) hg _
              have W9 : IntKind.i64.wrap (-o) = -o := IntWalk.i64_in _ (by omega)
              obtain ⟨om1, om2⟩ := emod_bd (-o) p (by omega)
              go_wp2_with fail
              generalize ((wo.setCell ⟨g, m, none⟩ (.slice (A c) n (C c))).setCell ⟨g, c, none⟩ (.slice (some ⟨bm, om, none⟩) n (C m))) = w5 at HS ⊢
              have HRS : Hid (Rws p n (swR T c m)) := Lib.hid (HJ.out.2.1.sw (by rw [HTl.out]; exact hc) (by rw [HTl.out]; exact hmt))
              have hel : el (rw_ (swR T c m) c) c = el (rw_ T m) c := by rw [swR_row (by rw [HTl.out]; exact hc), swi_d]
              have HNE : Hid (el (rw_ (swR T c m) c) c ≠ 0) := Lib.hid (by rw [hel]; exact hz)
              have HDR : Hid (∀ x r, IsInv (el (rw_ (swR T c m) c) c) p x → DetR p n (elimD p x (swR T c m) c n) ((-o) % p * el (rw_ (swR T c m) c) c % p) (c + 1) r → DetR p n xss 1 0 r) := Lib.hid fun x r h1 h2 => HJ.out.2.2.1 r (.step hc hcm hmt HZ.out hz (by rw [← hel]; exact h1) (by rw [← hel]; unfold sgnS; rw [if_neg (by omega), ← sgn_mod]; exact h2))
              generalize swR T c m = S at *
              generalize (fun i => A (swi m c i)) = A1 at HS
              generalize (fun i => C (swi m c i)) = C1 at HS
              clear hel cm em cd fd fm HC HFZ hz
              have HSl : Hid (S.length = n) := Lib.hid HS.out.1.len
              have HLc : Hid ((rw_ S c).length = n) := Lib.hid (HRS.out.row c (by rw [HSl.out]; exact hc))
              obtain ⟨gc, hgc⟩ := (HS.out.1.row c hc).addr (by rw [HLc.out]; omega)
              have HGC := Lib.hid hgc
              have cc5 := (HS.out.1.at_ hc).1
              rw [hgc, HLc.out] at cc5
              have ee5 := (HS.out.1.rowAt hc hgc).cellAt (i := c) (by rw [HLc.out]; exact hc)
              obtain ⟨r1, r2⟩ := HRS.out.rng c c (by rw [HSl.out]; exact hc) hc
              have hgb0 : Int.gcd (el (rw_ S c) c) p = 1 := gp_gcd HP.out (by have := HNE.out; omega) r2
              obtain ⟨x, hinv⟩ := inv_exists hgb0 (by omega)
              have HIV := Lib.hid hinv
              obtain ⟨x0, x1, _⟩ := id hinv
              obtain ⟨z1, z2⟩ := prod_bd (k := ((-o) % p)) (x := el (rw_ S c) c) (by omega) (by omega) (by omega) (by omega)
              have z0 : 0 ≤ ((-o) % p) * el (rw_ S c) c := Int.mul_nonneg (by omega) r1
              have W1 : IntKind.i64.wrap (((-o) % p) * el (rw_ S c) c) = ((-o) % p) * el (rw_ S c) c := IntWalk.i64_in _ (by omega)
              have W2 : (((-o) % p) * el (rw_ S c) c).tmod p = ((-o) % p) * el (rw_ S c) c % p := Int.tmod_eq_emod_of_nonneg z0
              have J3 : ¬ p = 0 := by omega
              obtain ⟨oo1, oo2⟩ := emod_bd (((-o) % p) * el (rw_ S c) c) p (by omega)
              have HS6 : Hid (OwnR 38 2 w5 w.heap.size (some ⟨g, 0, none⟩) n c2 (elimD p x S c (c + 1)) A1 C1 ∧ Below w.heap.size w w5) := Lib.hid (by rw [elimD_start]; exact HS.out)
              clear hgc hgb0 hinv
              go_wp2_with (first
                | (go_at_call 87; refine (l01Mod_any _ _ _ (by omega) (by omega) (by omega) (by omega)).mono ?_; rintro e w' ⟨rfl, rfl⟩)
                | (go_at_call 88; refine (l01Inv_yes _ _ _ (by omega) (by omega) (by omega) (by omega) x HIV.out).mono ?_; rintro e w' ⟨rfl, rfl⟩))
              clear cc5 ee5
              go_loopw [11] (fun i wr => ∃ (k : Nat) (A2 : Nat → Option Addr) (C2 : Nat → Nat), c + 1 ≤ k ∧ k ≤ n ∧ i = .int .i64 k ∧ (∀ i, k ≤ i → A2 i = A1 i) ∧ A2 c = A1 c ∧ Hid (OwnR 38 2 wr w.heap.size (some ⟨g, 0, none⟩) n c2 (elimD p x S c k) A2 C2 ∧ Below w.heap.size w wr)) (fun i _ => n - (intOf i).toNat)
              case atStart => exact ⟨c + 1, A1, C1, Nat.le_refl _, by omega, by go_num, fun _ _ => rfl, rfl, HS6⟩
              case round =>
                obtain ⟨k, A2, C2, hck, hkn, rfl, hA2, hA2c, HK⟩ := hrel
                obtain ⟨wk, rfl⟩ : ∃ x, x = wr := ⟨wr, rfl⟩
                clear HS6
                by_cases hkt : k < n
                · have hiS : k < S.length := by rw [HSl.out]; exact hkt
                  have hcS : c < S.length := by rw [HSl.out]; exact hc
                  have rk : rw_ (elimD p x S c k) k = rw_ S k := elimD_no hiS (.inr (Nat.le_refl _))
                  have rc : rw_ (elimD p x S c k) c = rw_ S c := elimD_no hcS (.inl (Nat.le_refl _))
                  have lk : (rw_ S k).length = n := HRS.out.row _ hiS
                  obtain ⟨gk, hgk⟩ := (HK.out.1.row _ hkt).addr (by rw [rk, lk]; omega)
                  have ck := (HK.out.1.at_ hkt).1
                  have fk := (HK.out.1.at_ hkt).2.1
                  have cd := (HK.out.1.at_ hc).1
                  rw [hgk, rk, lk] at ck
                  rw [hA2c, HGC.out, rc, HLc.out] at cd
                  have hk7 := HK.out.1.rowAt hkt hgk
                  have hd7 := HK.out.1.row c hc
                  rw [rk, lk] at hk7
                  rw [hA2c, HGC.out, rc, HLc.out] at hd7
                  have ek := hk7.cellAt hc
                  have HK7 := Lib.hid hk7.rd
                  have HD7 := Lib.hid hd7.rd
                  have LK := Lib.hid lk
                  obtain ⟨v1, v2⟩ := HRS.out.rng k c hiS hc
                  have hq36 : 0 ≤ el (rw_ S k) c * x ∧ el (rw_ S k) c * x ≤ 49 := by
                    have h1 : 0 ≤ el (rw_ S k) c * x := Int.mul_nonneg v1 x0
                    have h2 : el (rw_ S k) c * x ≤ 7 * 7 := Int.mul_le_mul (by omega) (by omega) x0 (by omega)
                    omega
                  obtain ⟨hq1, hq2⟩ := hq36
                  have W4 : IntKind.i64.wrap (el (rw_ S k) c * x) = el (rw_ S k) c * x := IntWalk.i64_in _ (by omega)
                  have W5 : (el (rw_ S k) c * x).tmod p = el (rw_ S k) c * x % p := Int.tmod_eq_emod_of_nonneg hq1
                  obtain ⟨hm1, hm2⟩ := emod_bd (el (rw_ S k) c * x) p (by omega)
                  have W6 : IntKind.i64.wrap (p - el (rw_ S k) c * x % p) = p - el (rw_ S k) c * x % p := IntWalk.i64_in _ (by omega)
                  have HMK : Hid (addm p (p - el (rw_ S k) c * x % p) (rw_ S k) (rw_ S c) = addm p (-(el (rw_ S k) c) * x) (rw_ S k) (rw_ S c)) := Lib.hid (addm_modk (by
                    obtain ⟨y, hy⟩ := dvd_sub_emod (el (rw_ S k) c * x) p
                    exact ⟨1 + y, by rw [Int.mul_add, ← hy, Int.neg_mul]; omega⟩))
                  have J5 : (k : Int) < (n : Int) := by omega
                  have J7 : (c : Int) < (n : Int) := by omega
                  have gw : g < wk.heap.size := (HK.out.1.at_ hkt).2.2.1
                  have gB : w.heap.size ≤ g := (HK.out.1.at_ hkt).2.2.2
                  clear hk7 hd7 hgk lk rk rc
                  go_wp2_with fail
                  go_region_law (go_simp; go_at_call 89; refine (l02Add_any _ _ n _ _ (rw_ S k) (rw_ S c) _ p _ (by exact HK7.out.same (fun _ _ => rfl)) (by exact HD7.out.same (fun _ _ => rfl)) LK.out HLc.out (by omega) p2 p7 (by omega) (by omega) (fun j hj => HRS.out.rng _ j hiS hj) (fun j hj => HRS.out.rng c j hcS hj)).mono ?_; rintro e w8 ⟨a8, c8, rfl, ho, hb⟩; have HB8 : Hid (Below wk.heap.size wk w8) := Lib.hid ⟨hb.os, hb.tape, hb.output, hb.size, hb.block⟩; have HO8 : Hid (OwnI 2 w8 wk.heap.size a8 n c8 (addm p (p - el (rw_ S k) c * x % p) (rw_ S k) (rw_ S c))) := Lib.hid ho; have ck8 := cell_below (p := ⟨g, k, none⟩) ck HB8.out; have fk8 : w8.frozen? ⟨g, k, none⟩ = false := ((HK.out.1.keep HB8.out (Nat.le_refl _)).at_ hkt).2.1; have gw8 : g < w8.heap.size := Nat.lt_of_lt_of_le gw HB8.out.size; clear ho hb)
                  all_goals
                    have HN : Hid (OwnR 38 2 (w8.setCell ⟨g, k, none⟩ (.slice a8 n c8)) w.heap.size (some ⟨g, 0, none⟩) n c2 (elimD p x S c (k + 1)) (fun i => if i = k then a8 else A2 i) (fun i => if i = k then c8 else C2 i) ∧ Below w.heap.size w (w8.setCell ⟨g, k, none⟩ (.slice a8 n c8))) := by
                      have h := (HK.out.1.keep HB8.out (Nat.le_refl _)).putRow hkt HO8.out (by omega) gw (fun i hi q hq => ((HK.out.1.row i hi).block q hq).2)
                      rw [HMK.out, elimD_succ hiS (by omega)] at h
                      exact Lib.hid ⟨h, (HK.out.2.trans (HB8.out.mono HK.out.2.size)).setCell (p := ⟨g, k, none⟩) gB _⟩
                    go_wp2_with fail
                    go_roundw
                    case rel => exact ⟨k + 1, _, _, by omega, by omega, by go_num, fun i hi => by rw [if_neg (by omega)]; exact hA2 i (by omega), by rw [if_neg (by omega)]; exact hA2c, HN⟩
                    case measure => simp [intOf]; omega
                · obtain rfl : k = n := by omega
                  have HN : Hid (OwnR 38 2 wk w.heap.size (some ⟨g, 0, none⟩) k c2 (elimD p x S c k) A2 C2 ∧ Rws p k (elimD p x S c k) ∧ (∀ r, DetR p k (elimD p x S c k) (((-o) % p) * el (rw_ S c) c % p) (c + 1) r → DetR p k xss 1 0 r) ∧ Below w.heap.size w wk) := Lib.hid ⟨HK.out.1, elimD_rws HRS.out p2, fun r hr => HDR.out x r HIV.out hr, HK.out.2⟩
                  go_wp2_with fail
                  go_roundw
                  case rel => exact ⟨c + 1, _, _, A2, C2, by go_num, rfl, by omega, oo1, by omega, HN⟩
                  case measure => simp [intOf]; omega
        · obtain rfl : n = m := by omega
          have b3 : decide ((n : Int) < (n : Int)) = false := by simp
          have b5 : ((n : Int) == (n : Int)) = true := by simp
          have HD := Lib.hid (HJ.out.2.2.1 0 (.zero hc HZ.out))
          go_wp2_with fail
          go_ret
          exact ⟨0, rfl, HD.out, HJ.out.2.2.2⟩
    · obtain rfl : n = c := by omega
      have HD := Lib.hid (HJ.out.2.2.1 o .done)
      go_wp2_with fail
      go_ret
      exact ⟨o, rfl, HD.out, HJ.out.2.2.2⟩
end Go.Proofs.Ytngikcjdhbflkaa
