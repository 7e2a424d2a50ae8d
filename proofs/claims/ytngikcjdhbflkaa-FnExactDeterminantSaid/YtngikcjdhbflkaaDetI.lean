/- The determinant modulo p by elimination: the program. -/
import Derived.Test.YtngikcjdhbflkaaDetP
import Derived.Test.YtngikcjdhbflkaaMatRed
import Derived.Test.YtngikcjdhbflkaaCellN
import Derived.Deep.RegionHeld3
set_option linter.unusedVariables false
set_option linter.unusedSimpArgs false
namespace Go.Proofs.Ytngikcjdhbflkaa
open Go.RowKit

set_option maxRecDepth 100000 in
set_option maxHeartbeats 16000000 in
theorem determinantMod_any (p : Int) (hp : GP p) (a : Option Addr) (n cA : Nat) (xss : List (List Int)) (w : World) (ha : RdR w a xss) (hl : xss.length = n) (hr : Rws p n xss) (hn : n ≤ 50) :
    Calls Try.prog 65 #[.agg #[.int .i64 p, .int .i64 n, .slice a n cA]] w fun e w' => ∃ r : Int, e = .returned (.int .i64 r) ∧ DetR p n xss 1 0 r ∧ Below w.heap.size w w' := by
  have HP := Lib.hid hp
  obtain ⟨p2, p7⟩ := hp.bd
  have HA := Lib.hid ha
  have HL := Lib.hid hl
  have HR := Lib.hid hr
  clear hp ha hl hr
  go_enter Try.func65, Try.ntmps65
  go_wp2_with fail
  refine (copyRows_any _ _ _ xss _ (by exact HA.out.alloc _) HL.out (fun i hi => by rw [HR.out.row i (by rw [HL.out]; exact hi)]; omega) (by omega)).mono ?_
  rintro e w1 ⟨a2, c2, rfl, ho, hb⟩
  obtain ⟨A0, C0, ho⟩ := ho
  have X0 : Hid (BX 24 w1 w.heap.size #[.int .i64 p, .int .i64 n, .slice a n cA]) := Lib.hid ((BX.new w _ _).keep hb)
  have H0 : Hid (OwnR 38 2 w1 (w.heap.size + 1) a2 n c2 xss A0 C0 ∧ Rws p n xss ∧ (∀ r, DetR p n xss 1 0 r → DetR p n xss 1 0 r) ∧ BX 24 w1 w.heap.size #[.int .i64 p, .int .i64 n, .slice a n cA] ∧ Below w.heap.size w w1) := Lib.hid ⟨ho.mono (by simp), HR.out, fun _ h => h, X0.out, below_al1 hb⟩
  clear ho hb X0
  go_wp2_with fail
  go_loopw [16, 4] (fun cc oo wr => ∃ (c : Nat) (o : Int) (T : List (List Int)) (A : Nat → Option Addr) (C : Nat → Nat), cc = .int .i64 c ∧ oo = .int .i64 o ∧ c ≤ n ∧ 0 ≤ o ∧ o ≤ 7 ∧ o ≤ p ∧ Hid (OwnR 38 2 wr (w.heap.size + 1) a2 n c2 T A C ∧ Rws p n T ∧ (∀ r, DetR p n T o c r → DetR p n xss 1 0 r) ∧ BX 24 wr w.heap.size #[.int .i64 p, .int .i64 n, .slice a n cA] ∧ Below w.heap.size w wr)) (fun cc _ _ => n - (intOf cc).toNat)
  case atStart => exact ⟨0, 1, xss, A0, C0, rfl, rfl, Nat.zero_le _, by omega, by omega, by omega, H0⟩
  case round =>
    obtain ⟨c, o, T, A, C, rfl, rfl, hcn, o0, o7, op, HJ⟩ := hrel
    obtain ⟨wo, rfl⟩ : ∃ x, x = wr := ⟨wr, rfl⟩
    clear H0
    have HTl : Hid (T.length = n) := Lib.hid HJ.out.1.len
    by_cases hc : c < n
    · obtain ⟨g, rfl, hcell, hfrz, hBg, hgs⟩ := HJ.out.1.addr (by omega)
      have HC : Hid (∀ i, i < n → wo.cell? ⟨g, i, none⟩ = some (.slice (A i) n (C i))) := Lib.hid fun i hi => by rw [hcell i hi, HJ.out.2.1.row i (by rw [HTl.out]; exact hi)]
      have HFZ := Lib.hid hfrz
      clear hcell hfrz
      have HZ0 : Hid (∀ i, c ≤ i → i < c → el (rw_ T i) c = 0) := Lib.hid fun i h1 h2 => absurd h2 (by omega)
      have J0 : (c : Int) < (n : Int) := by omega
      go_wp2_with fail
      go_loop [6] (fun t => ∃ m : Nat, c ≤ m ∧ m ≤ n ∧ t = .int .i64 m ∧ Hid (∀ i, c ≤ i → i < m → el (rw_ T i) c = 0)) (fun t => n - (intOf t).toNat)
      case atStart => exact ⟨c, Nat.le_refl _, by omega, rfl, HZ0⟩
      case round =>
        obtain ⟨m, hcm, hm, rfl, HZ⟩ := hrel
        clear HZ0
        by_cases hmt : m < n
        · have cm := HC.out m hmt
          obtain ⟨bm, om, hA, hcm2⟩ := (HJ.out.1.row m hmt).rd (by rw [HJ.out.2.1.row m (by rw [HTl.out]; exact hmt)]; omega)
          have em := hcm2 c (by rw [HJ.out.2.1.row m (by rw [HTl.out]; exact hmt)]; exact hc)
          clear hcm2
          rw [hA] at cm
          have b3 : decide ((m : Int) < (n : Int)) = true := decide_eq_true (by omega)
          have HAm := Lib.hid hA
          clear hA
          by_cases hz : el (rw_ T m) c = 0
          · have HZ1 : Hid (∀ i, c ≤ i → i < m + 1 → el (rw_ T i) c = 0) := Lib.hid fun i h1 h2 => by
              by_cases he : i = m
              · subst he; exact hz
              · exact HZ.out i h1 (by omega)
            have b4 : (el (rw_ T m) c == 0) = true := beq_iff_eq.2 hz
            clear hz
            go_wp2_with fail
            go_round
            case rel => exact ⟨m + 1, by omega, by omega, by go_num, HZ1⟩
            case measure => simp [intOf]; omega
          · --NZ
            have b4 : (el (rw_ T m) c == 0) = false := beq_eq_false_iff_ne.2 hz
            have b5 : ((m : Int) == (n : Int)) = false := beq_eq_false_iff_ne.2 (by omega)
            by_cases hmc : m = c
            · subst hmc
              have b6 : ((m : Int) != (m : Int)) = false := by simp
              have HS : Hid (OwnR 38 2 wo (w.heap.size + 1) (some ⟨g, 0, none⟩) n c2 T A C ∧ BX 24 wo w.heap.size #[.int .i64 p, .int .i64 n, .slice a n cA] ∧ Below w.heap.size w wo) := Lib.hid ⟨HJ.out.1, HJ.out.2.2.2.1, HJ.out.2.2.2.2⟩
              have HRS : Hid (Rws p n T) := Lib.hid HJ.out.2.1
              have HNE : Hid (el (rw_ T m) m ≠ 0) := Lib.hid hz
              have HDR : Hid (∀ x r, IsInv (el (rw_ T m) m) p x → DetR p n (elimD p x T m n) (o * el (rw_ T m) m % p) (m + 1) r → DetR p n xss 1 0 r) := Lib.hid fun x r h1 h2 => HJ.out.2.2.1 r (.step hc hcm hmt HZ.out hz h1 (by rw [swR_same]; unfold sgnS; rw [if_pos rfl]; exact h2))
              clear cm em HC HFZ hz HAm
              have HSl : Hid (T.length = n) := Lib.hid HS.out.1.len
              have HLc : Hid ((rw_ T m).length = n) := Lib.hid (HRS.out.row m (by rw [HSl.out]; exact hc))
              obtain ⟨gc, hgc⟩ := (HS.out.1.row m hc).addr (by rw [HLc.out]; omega)
              have HGC := Lib.hid hgc
              have cc5 := (HS.out.1.at_ hc).1
              rw [hgc, HLc.out] at cc5
              have ee5 := (HS.out.1.rowAt hc hgc).cellAt (i := m) (by rw [HLc.out]; exact hc)
              have p5 : wo.cell? ⟨w.heap.size, 0, none⟩ = some (.int .i64 p) := HS.out.2.1.cell 0
              obtain ⟨r1, r2⟩ := HRS.out.rng m m (by rw [HSl.out]; exact hc) hc
              have hgb0 : Int.gcd (el (rw_ T m) m) p = 1 := gp_gcd HP.out (by have := HNE.out; omega) r2
              have hgb : ((el (rw_ T m) m).gcd p == 1) = true := beq_iff_eq.2 hgb0
              have HGB := Lib.hid hgb0
              obtain ⟨z1, z2⟩ := prod_bd (k := o) (x := el (rw_ T m) m) (by omega) (by omega) (by omega) (by omega)
              have z0 : 0 ≤ o * el (rw_ T m) m := Int.mul_nonneg (by omega) r1
              have W1 : IntKind.i64.wrap (o * el (rw_ T m) m) = o * el (rw_ T m) m := IntWalk.i64_in _ (by omega)
              have W2 : (o * el (rw_ T m) m).tmod p = o * el (rw_ T m) m % p := Int.tmod_eq_emod_of_nonneg z0
              have J3 : ¬ p = 0 := by omega
              obtain ⟨oo1, oo2⟩ := emod_bd (o * el (rw_ T m) m) p (by omega)
              clear hgc hgb0
              go_wp2_with fail
              go_still_tail 12, (by kernel_rfl)
              change wpList _ _ _ _ _ wo.drew
              have cc6 : wo.drew.cell? ⟨g, m, none⟩ = some (.slice (some ⟨gc, 0, none⟩) n (C m)) := cc5
              have ee6 : wo.drew.cell? ⟨gc, m, none⟩ = some (.int .i64 (el (rw_ T m) m)) := ee5
              have p6 : wo.drew.cell? ⟨w.heap.size, 0, none⟩ = some (.int .i64 p) := p5
              go_wp2_with fail
              have HSz : Hid (OwnR 38 2 wo.drew (w.heap.size + 1) (some ⟨g, 0, none⟩) n c2 T A C ∧ BX 24 wo.drew w.heap.size #[.int .i64 p, .int .i64 n, .slice a n cA] ∧ Below w.heap.size w wo.drew) := Lib.hid ⟨HS.out.1.drew, HS.out.2.1, HS.out.2.2.drew⟩
              generalize wo.drew = wz at HSz cc6 ee6 p6 ⊢
              go_region_held3 (fun w' => w'.cell? ⟨g, m, none⟩ = some (.slice (some ⟨gc, 0, none⟩) n (C m)) ∧ w'.cell? ⟨gc, m, none⟩ = some (.int .i64 (el (rw_ T m) m)) ∧ w'.cell? ⟨w.heap.size, 0, none⟩ = some (.int .i64 p)) (go_keep)
                (first
                  | (go_at_call 91; (with_reducible refine (inverseMod_any _ _ _ r1 r2 ?_).mono ?_); omega; rintro e w6 ⟨x, rfl, hinv, hw6⟩; have hb : Below wz.heap.size wz w6 := (by obtain ⟨t, rfl⟩ := hw6; exact ⟨rfl, rfl, rfl, Nat.le_refl _, fun _ _ => rfl⟩); have cc7 := cell_below (p := ⟨g, m, none⟩) cc6 hb; have ee7 := cell_below (p := ⟨gc, m, none⟩) ee6 hb; have p7' := cell_below (p := ⟨w.heap.size, 0, none⟩) p6 hb; have HIV := Lib.hid (hinv HGB.out); have HBz := Lib.hid hb; clear hinv hw6 hb))
              obtain ⟨x0, x1, _⟩ := id HIV.out
              have HS6 : Hid (OwnR 38 2 w6 (w.heap.size + 1) (some ⟨g, 0, none⟩) n c2 (elimD p x T m (m + 1)) A C ∧ BX 24 w6 w.heap.size #[.int .i64 p, .int .i64 n, .slice a n cA] ∧ Below w.heap.size w w6) := Lib.hid (by rw [elimD_start]; exact ⟨HSz.out.1.keep HBz.out (Nat.le_refl _), HSz.out.2.1.keep HBz.out, HSz.out.2.2.trans (HBz.out.mono HSz.out.2.2.size)⟩)
              clear cc7 ee7 p7'
              have V9 : n ≤ c2 := HS.out.1.capl
              have V7 : (m : Int) + 1 ≤ (n : Int) := by omega
              have V6 : m + 1 ≤ c2 := by omega
              clear cc5 ee5 p5 cc6 ee6 p6
              by_cases hk1 : c2 = m + 1
              · have HN9 : Hid (n = m + 1) := Lib.hid (by omega)
                go_wp2_with fail
                go_loopw [91] (fun i wr => ∃ k : Nat, k ≤ n - (m + 1) ∧ i = .int .i64 k ∧ Hid (OwnR 38 2 wr (w.heap.size + 1) (some ⟨g, 0, none⟩) n c2 (elimD p x T m (m + 1 + k)) A C ∧ BX 24 wr w.heap.size #[.int .i64 p, .int .i64 n, .slice a n cA] ∧ Below w.heap.size w wr)) (fun i _ => n - (m + 1) - (intOf i).toNat)
                case atStart => exact ⟨0, Nat.zero_le _, rfl, HS6⟩
                case round =>
                  obtain ⟨k, hk, rfl, HK⟩ := hrel
                  obtain ⟨wk, rfl⟩ : ∃ x, x = wr := ⟨wr, rfl⟩
                  clear HS6
                  by_cases hkt : k < n - (m + 1)
                  · exact absurd hkt (by have := HN9.out; omega)
                  · obtain rfl : k = n - (m + 1) := by omega
                    have HN : Hid (OwnR 38 2 wk (w.heap.size + 1) (some ⟨g, 0, none⟩) n c2 (elimD p x T m n) A C ∧ Rws p n (elimD p x T m n) ∧ (∀ r, DetR p n (elimD p x T m n) (o * el (rw_ T m) m % p) (m + 1) r → DetR p n xss 1 0 r) ∧ BX 24 wk w.heap.size #[.int .i64 p, .int .i64 n, .slice a n cA] ∧ Below w.heap.size w wk) := Lib.hid (by have h := HK.out; rw [show m + 1 + (n - (m + 1)) = n by omega] at h; exact ⟨h.1, elimD_rws HRS.out p2, fun r hr => HDR.out x r HIV.out hr, h.2.1, h.2.2⟩)
                    go_wp2_with fail
                    go_roundw
                    case rel => exact ⟨m + 1, _, _, A, C, by go_num, rfl, by omega, oo1, by omega, by omega, HN⟩
                    case measure => simp [intOf]; omega
              · have V8 : ¬ c2 = m + 1 := hk1
                go_wp2_with fail
                go_loopw [91] (fun i wr => ∃ k : Nat, k ≤ n - (m + 1) ∧ i = .int .i64 k ∧ Hid (OwnR 38 2 wr (w.heap.size + 1) (some ⟨g, 0, none⟩) n c2 (elimD p x T m (m + 1 + k)) A C ∧ BX 24 wr w.heap.size #[.int .i64 p, .int .i64 n, .slice a n cA] ∧ Below w.heap.size w wr)) (fun i _ => n - (m + 1) - (intOf i).toNat)
                case atStart => exact ⟨0, Nat.zero_le _, rfl, HS6⟩
                case round =>
                  obtain ⟨k, hk, rfl, HK⟩ := hrel
                  obtain ⟨wk, rfl⟩ : ∃ x, x = wr := ⟨wr, rfl⟩
                  clear HS6
                  by_cases hkt : k < n - (m + 1)
                  · have hil : m + 1 + k < n := by omega
                    have hiS : m + 1 + k < T.length := by rw [HSl.out]; exact hil
                    have hcS : m < T.length := by rw [HSl.out]; exact hc
                    have rk : rw_ (elimD p x T m (m + 1 + k)) (m + 1 + k) = rw_ T (m + 1 + k) := elimD_no hiS (.inr (Nat.le_refl _))
                    have rc : rw_ (elimD p x T m (m + 1 + k)) m = rw_ T m := elimD_no hcS (.inl (Nat.le_refl _))
                    have lk : (rw_ T (m + 1 + k)).length = n := HRS.out.row _ hiS
                    obtain ⟨gk, hgk⟩ := (HK.out.1.row _ hil).addr (by rw [rk, lk]; omega)
                    have ck := (HK.out.1.at_ hil).1
                    have cd := (HK.out.1.at_ hc).1
                    rw [hgk, rk, lk] at ck
                    rw [HGC.out, rc, HLc.out] at cd
                    have hk7 := HK.out.1.rowAt hil hgk
                    have hd7 := HK.out.1.rowAt hc HGC.out
                    rw [rk, lk] at hk7
                    rw [rc, HLc.out] at hd7
                    have ek := hk7.cellAt hc
                    have HK7 := Lib.hid hk7
                    have HD7 := Lib.hid hd7.rd
                    have HAP := Lib.hid (HK.out.1.ap (m + 1 + k) m hil hc (by omega))
                    rw [hgk, HGC.out] at HAP
                    have HGK := Lib.hid hgk
                    have LK := Lib.hid lk
                    have RK := Lib.hid rk
                    obtain ⟨v1, v2⟩ := HRS.out.rng (m + 1 + k) m hiS hc
                    have p9 : wk.cell? ⟨w.heap.size, 0, none⟩ = some (.int .i64 p) := HK.out.2.1.cell 0
                    have W3 : IntKind.i64.wrap (-(el (rw_ T (m + 1 + k)) m)) = -(el (rw_ T (m + 1 + k)) m) := IntWalk.i64_in _ (by omega)
                    obtain ⟨y1, y2⟩ := prod_bd (k := -(el (rw_ T (m + 1 + k)) m)) (x := x) (by omega) (by omega) (by omega) (by omega)
                    have hq36 : -1000 ≤ -(el (rw_ T (m + 1 + k)) m) * x ∧ -(el (rw_ T (m + 1 + k)) m) * x ≤ 1000 := by
                      have h1 : 0 ≤ el (rw_ T (m + 1 + k)) m * x := Int.mul_nonneg v1 x0
                      have h2 : el (rw_ T (m + 1 + k)) m * x ≤ 7 * 7 := Int.mul_le_mul (by omega) (by omega) x0 (by omega)
                      rw [Int.neg_mul]
                      omega
                    obtain ⟨hq1, hq2⟩ := hq36
                    have W4 : IntKind.i64.wrap (-(el (rw_ T (m + 1 + k)) m) * x) = -(el (rw_ T (m + 1 + k)) m) * x := IntWalk.i64_in _ (by omega)
                    have J5 : (k : Int) < (n : Int) - ((m : Int) + 1) := by omega
                    have J6 : (k : Int) < ((n - (m + 1) : Nat) : Int) := by omega
                    clear hk7 hd7 hgk lk rk rc
                    go_wp2_with fail
                    go_still_tail 14, (by kernel_rfl)
                    change wpList _ _ _ _ _ wk.drew
                    go_wp2_with (go_at_call 92; refine (addMultiple_any 2 (w.heap.size + 1) _ _ n n _ _ (rw_ T (m + 1 + k)) (rw_ T m) _ p _ (by exact HK7.out.same (fun _ _ => rfl)) (by exact HD7.out.same (fun _ _ => rfl)) HLc.out (Nat.le_refl _) (by omega) HAP.out p2 p7 hq1 hq2 (fun j hj => HRS.out.rng _ j hiS hj) (fun j hj => HRS.out.rng m j hcS hj)).mono ?_; rintro e w8 ⟨rfl, ho, hch⟩; have HO8 := Lib.hid ho; have HC8 : Hid (Chg (fun j => ∃ q, (some (⟨gk, 0, none⟩ : Addr)) = some q ∧ q.block = j) wk w8) := Lib.hid ⟨hch.os, hch.tape, hch.output, hch.size, hch.block⟩; clear ho hch)
                    have hgB := (HK7.out.block _ rfl).1
                    have HN : Hid (OwnR 38 2 w8 (w.heap.size + 1) (some ⟨g, 0, none⟩) n c2 (elimD p x T m (m + 1 + (k + 1))) A C ∧ BX 24 w8 w.heap.size #[.int .i64 p, .int .i64 n, .slice a n cA] ∧ Below w.heap.size w w8) := by
                      refine Lib.hid ⟨?_, HK.out.2.1.chg HC8.out (fun hx => by obtain ⟨y, hy, e⟩ := hx; injection hy with hy; subst hy; simp at e; simp at hgB; omega), HK.out.2.2.trans (HC8.out.below HK.out.2.2.size (fun b hb hx => by obtain ⟨y, hy, e⟩ := hx; injection hy with hy; subst hy; simp at e; simp at hgB; omega))⟩
                      have h2 := HK.out.1.setRow (i := m + 1 + k) (r := addm p (-(el (rw_ T (m + 1 + k)) m) * x) (rw_ T (m + 1 + k)) (rw_ T m)) hil (by rw [RK.out, HGK.out, LK.out]; exact HO8.out) (by rw [HGK.out]; exact HC8.out)
                      rw [elimD_succ hiS (by omega)] at h2
                      exact h2
                    go_roundw
                    case rel => exact ⟨k + 1, by omega, by go_num, HN⟩
                    case measure => simp [intOf]; omega
                  · obtain rfl : k = n - (m + 1) := by omega
                    have HN : Hid (OwnR 38 2 wk (w.heap.size + 1) (some ⟨g, 0, none⟩) n c2 (elimD p x T m n) A C ∧ Rws p n (elimD p x T m n) ∧ (∀ r, DetR p n (elimD p x T m n) (o * el (rw_ T m) m % p) (m + 1) r → DetR p n xss 1 0 r) ∧ BX 24 wk w.heap.size #[.int .i64 p, .int .i64 n, .slice a n cA] ∧ Below w.heap.size w wk) := Lib.hid (by have h := HK.out; rw [show m + 1 + (n - (m + 1)) = n by omega] at h; exact ⟨h.1, elimD_rws HRS.out p2, fun r hr => HDR.out x r HIV.out hr, h.2.1, h.2.2⟩)
                    go_wp2_with fail
                    go_roundw
                    case rel => exact ⟨m + 1, _, _, A, C, by go_num, rfl, by omega, oo1, by omega, by omega, HN⟩
                    case measure => simp [intOf]; omega
            · have b6 : ((m : Int) != (c : Int)) = true := bne_iff_ne.2 (by omega)
              have cd := HC.out c (by omega)
              have fd := HFZ.out c
              have fm := HFZ.out m
              have J2 : (m : Int) < (n : Int) := by omega
              go_wp2_with fail
              obtain ⟨v9, hy9⟩ := cell?_setCell_some (w := wo) (p := ⟨g, c, none⟩) (x := .slice (some ⟨bm, om, none⟩) n (C m)) (q := ⟨g, m, none⟩) (v := .slice (some ⟨bm, om, none⟩) n (C m)) cm
              go_region
              have HS : Hid (OwnR 38 2 ((wo.setCell ⟨g, c, none⟩ (.slice (some ⟨bm, om, none⟩) n (C m))).setCell ⟨g, m, none⟩ (.slice (A c) n (C c))).drew (w.heap.size + 1) (some ⟨g, 0, none⟩) n c2 (swR T c m) (fun i => A (swi c m i)) (fun i => C (swi c m i)) ∧ BX 24 ((wo.setCell ⟨g, c, none⟩ (.slice (some ⟨bm, om, none⟩) n (C m))).setCell ⟨g, m, none⟩ (.slice (A c) n (C c))).drew w.heap.size #[.int .i64 p, .int .i64 n, .slice a n cA] ∧ Below w.heap.size w ((wo.setCell ⟨g, c, none⟩ (.slice (some ⟨bm, om, none⟩) n (C m))).setCell ⟨g, m, none⟩ (.slice (A c) n (C c))).drew) := by
                have hg := (ownsRow_block HJ.out.1.own _ rfl).1
                refine Lib.hid ⟨?_, ?_, ?_⟩
                · have h := HJ.out.1.swap hc hmt
                  rw [HJ.out.2.1.row m (by rw [HTl.out]; exact hmt), HJ.out.2.1.row c (by rw [HTl.out]; exact hc), HAm.out] at h
                  exact h.drew
                · exact (HJ.out.2.2.2.1.other (p := ⟨g, c, none⟩) (by simp at hg ⊢; omega) _).other (p := ⟨g, m, none⟩) (by simp at hg ⊢; omega) _
                · exact ((HJ.out.2.2.2.2.setCell (p := ⟨g, c, none⟩) (by simp at hg ⊢; omega) _).setCell (p := ⟨g, m, none⟩) (by simp at hg ⊢; omega) _).drew
              generalize ((wo.setCell ⟨g, c, none⟩ (.slice (some ⟨bm, om, none⟩) n (C m))).setCell ⟨g, m, none⟩ (.slice (A c) n (C c))).drew = w5 at HS ⊢
              have HRS : Hid (Rws p n (swR T c m)) := Lib.hid (HJ.out.2.1.sw (by rw [HTl.out]; exact hc) (by rw [HTl.out]; exact hmt))
              have hel : el (rw_ (swR T c m) c) c = el (rw_ T m) c := by rw [swR_row (by rw [HTl.out]; exact hc), swi_d]
              have HNE : Hid (el (rw_ (swR T c m) c) c ≠ 0) := Lib.hid (by rw [hel]; exact hz)
              have HDR : Hid (∀ x r, IsInv (el (rw_ (swR T c m) c) c) p x → DetR p n (elimD p x (swR T c m) c n) ((p - o) * el (rw_ (swR T c m) c) c % p) (c + 1) r → DetR p n xss 1 0 r) := Lib.hid fun x r h1 h2 => HJ.out.2.2.1 r (.step hc hcm hmt HZ.out hz (by rw [← hel]; exact h1) (by rw [← hel]; unfold sgnS; rw [if_neg (by omega)]; exact h2))
              generalize swR T c m = S at *
              generalize (fun i => A (swi c m i)) = A1 at HS
              generalize (fun i => C (swi c m i)) = C1 at HS
              have W9 : IntKind.i64.wrap (p - o) = p - o := IntWalk.i64_in _ (by omega)
              have hp9 : w5.cell? ⟨w.heap.size, 0, none⟩ = some (.int .i64 p) := HS.out.2.1.cell 0
              clear hel cm em cd fd fm hy9 HC HFZ hz
              have HSl : Hid (S.length = n) := Lib.hid HS.out.1.len
              have HLc : Hid ((rw_ S c).length = n) := Lib.hid (HRS.out.row c (by rw [HSl.out]; exact hc))
              obtain ⟨gc, hgc⟩ := (HS.out.1.row c hc).addr (by rw [HLc.out]; omega)
              have HGC := Lib.hid hgc
              have cc5 := (HS.out.1.at_ hc).1
              rw [hgc, HLc.out] at cc5
              have ee5 := (HS.out.1.rowAt hc hgc).cellAt (i := c) (by rw [HLc.out]; exact hc)
              have p5 : w5.cell? ⟨w.heap.size, 0, none⟩ = some (.int .i64 p) := HS.out.2.1.cell 0
              obtain ⟨r1, r2⟩ := HRS.out.rng c c (by rw [HSl.out]; exact hc) hc
              have hgb0 : Int.gcd (el (rw_ S c) c) p = 1 := gp_gcd HP.out (by have := HNE.out; omega) r2
              have hgb : ((el (rw_ S c) c).gcd p == 1) = true := beq_iff_eq.2 hgb0
              have HGB := Lib.hid hgb0
              obtain ⟨z1, z2⟩ := prod_bd (k := (p - o)) (x := el (rw_ S c) c) (by omega) (by omega) (by omega) (by omega)
              have z0 : 0 ≤ (p - o) * el (rw_ S c) c := Int.mul_nonneg (by omega) r1
              have W1 : IntKind.i64.wrap ((p - o) * el (rw_ S c) c) = (p - o) * el (rw_ S c) c := IntWalk.i64_in _ (by omega)
              have W2 : ((p - o) * el (rw_ S c) c).tmod p = (p - o) * el (rw_ S c) c % p := Int.tmod_eq_emod_of_nonneg z0
              have J3 : ¬ p = 0 := by omega
              obtain ⟨oo1, oo2⟩ := emod_bd ((p - o) * el (rw_ S c) c) p (by omega)
              clear hgc hgb0
              go_wp2_with fail
              go_still_tail 12, (by kernel_rfl)
              change wpList _ _ _ _ _ w5.drew
              have cc6 : w5.drew.cell? ⟨g, c, none⟩ = some (.slice (some ⟨gc, 0, none⟩) n (C1 c)) := cc5
              have ee6 : w5.drew.cell? ⟨gc, c, none⟩ = some (.int .i64 (el (rw_ S c) c)) := ee5
              have p6 : w5.drew.cell? ⟨w.heap.size, 0, none⟩ = some (.int .i64 p) := p5
              go_wp2_with fail
              have HSz : Hid (OwnR 38 2 w5.drew (w.heap.size + 1) (some ⟨g, 0, none⟩) n c2 S A1 C1 ∧ BX 24 w5.drew w.heap.size #[.int .i64 p, .int .i64 n, .slice a n cA] ∧ Below w.heap.size w w5.drew) := Lib.hid ⟨HS.out.1.drew, HS.out.2.1, HS.out.2.2.drew⟩
              generalize w5.drew = wz at HSz cc6 ee6 p6 ⊢
              go_region_held3 (fun w' => w'.cell? ⟨g, c, none⟩ = some (.slice (some ⟨gc, 0, none⟩) n (C1 c)) ∧ w'.cell? ⟨gc, c, none⟩ = some (.int .i64 (el (rw_ S c) c)) ∧ w'.cell? ⟨w.heap.size, 0, none⟩ = some (.int .i64 p)) (go_keep)
                (first
                  | (go_at_call 91; (with_reducible refine (inverseMod_any _ _ _ r1 r2 ?_).mono ?_); omega; rintro e w6 ⟨x, rfl, hinv, hw6⟩; have hb : Below wz.heap.size wz w6 := (by obtain ⟨t, rfl⟩ := hw6; exact ⟨rfl, rfl, rfl, Nat.le_refl _, fun _ _ => rfl⟩); have cc7 := cell_below (p := ⟨g, c, none⟩) cc6 hb; have ee7 := cell_below (p := ⟨gc, c, none⟩) ee6 hb; have p7' := cell_below (p := ⟨w.heap.size, 0, none⟩) p6 hb; have HIV := Lib.hid (hinv HGB.out); have HBz := Lib.hid hb; clear hinv hw6 hb))
              obtain ⟨x0, x1, _⟩ := id HIV.out
              have HS6 : Hid (OwnR 38 2 w6 (w.heap.size + 1) (some ⟨g, 0, none⟩) n c2 (elimD p x S c (c + 1)) A1 C1 ∧ BX 24 w6 w.heap.size #[.int .i64 p, .int .i64 n, .slice a n cA] ∧ Below w.heap.size w w6) := Lib.hid (by rw [elimD_start]; exact ⟨HSz.out.1.keep HBz.out (Nat.le_refl _), HSz.out.2.1.keep HBz.out, HSz.out.2.2.trans (HBz.out.mono HSz.out.2.2.size)⟩)
              clear cc7 ee7 p7'
              have V9 : n ≤ c2 := HS.out.1.capl
              have V7 : (c : Int) + 1 ≤ (n : Int) := by omega
              have V6 : c + 1 ≤ c2 := by omega
              clear cc5 ee5 p5 cc6 ee6 p6
              by_cases hk1 : c2 = c + 1
              · have HN9 : Hid (n = c + 1) := Lib.hid (by omega)
                go_wp2_with fail
                go_loopw [91] (fun i wr => ∃ k : Nat, k ≤ n - (c + 1) ∧ i = .int .i64 k ∧ Hid (OwnR 38 2 wr (w.heap.size + 1) (some ⟨g, 0, none⟩) n c2 (elimD p x S c (c + 1 + k)) A1 C1 ∧ BX 24 wr w.heap.size #[.int .i64 p, .int .i64 n, .slice a n cA] ∧ Below w.heap.size w wr)) (fun i _ => n - (c + 1) - (intOf i).toNat)
                case atStart => exact ⟨0, Nat.zero_le _, rfl, HS6⟩
                case round =>
                  obtain ⟨k, hk, rfl, HK⟩ := hrel
                  obtain ⟨wk, rfl⟩ : ∃ x, x = wr := ⟨wr, rfl⟩
                  clear HS6
                  by_cases hkt : k < n - (c + 1)
                  · exact absurd hkt (by have := HN9.out; omega)
                  · obtain rfl : k = n - (c + 1) := by omega
                    have HN : Hid (OwnR 38 2 wk (w.heap.size + 1) (some ⟨g, 0, none⟩) n c2 (elimD p x S c n) A1 C1 ∧ Rws p n (elimD p x S c n) ∧ (∀ r, DetR p n (elimD p x S c n) ((p - o) * el (rw_ S c) c % p) (c + 1) r → DetR p n xss 1 0 r) ∧ BX 24 wk w.heap.size #[.int .i64 p, .int .i64 n, .slice a n cA] ∧ Below w.heap.size w wk) := Lib.hid (by have h := HK.out; rw [show c + 1 + (n - (c + 1)) = n by omega] at h; exact ⟨h.1, elimD_rws HRS.out p2, fun r hr => HDR.out x r HIV.out hr, h.2.1, h.2.2⟩)
                    go_wp2_with fail
                    go_roundw
                    case rel => exact ⟨c + 1, _, _, A1, C1, by go_num, rfl, by omega, oo1, by omega, by omega, HN⟩
                    case measure => simp [intOf]; omega
              · have V8 : ¬ c2 = c + 1 := hk1
                go_wp2_with fail
                go_loopw [91] (fun i wr => ∃ k : Nat, k ≤ n - (c + 1) ∧ i = .int .i64 k ∧ Hid (OwnR 38 2 wr (w.heap.size + 1) (some ⟨g, 0, none⟩) n c2 (elimD p x S c (c + 1 + k)) A1 C1 ∧ BX 24 wr w.heap.size #[.int .i64 p, .int .i64 n, .slice a n cA] ∧ Below w.heap.size w wr)) (fun i _ => n - (c + 1) - (intOf i).toNat)
                case atStart => exact ⟨0, Nat.zero_le _, rfl, HS6⟩
                case round =>
                  obtain ⟨k, hk, rfl, HK⟩ := hrel
                  obtain ⟨wk, rfl⟩ : ∃ x, x = wr := ⟨wr, rfl⟩
                  clear HS6
                  by_cases hkt : k < n - (c + 1)
                  · have hil : c + 1 + k < n := by omega
                    have hiS : c + 1 + k < S.length := by rw [HSl.out]; exact hil
                    have hcS : c < S.length := by rw [HSl.out]; exact hc
                    have rk : rw_ (elimD p x S c (c + 1 + k)) (c + 1 + k) = rw_ S (c + 1 + k) := elimD_no hiS (.inr (Nat.le_refl _))
                    have rc : rw_ (elimD p x S c (c + 1 + k)) c = rw_ S c := elimD_no hcS (.inl (Nat.le_refl _))
                    have lk : (rw_ S (c + 1 + k)).length = n := HRS.out.row _ hiS
                    obtain ⟨gk, hgk⟩ := (HK.out.1.row _ hil).addr (by rw [rk, lk]; omega)
                    have ck := (HK.out.1.at_ hil).1
                    have cd := (HK.out.1.at_ hc).1
                    rw [hgk, rk, lk] at ck
                    rw [HGC.out, rc, HLc.out] at cd
                    have hk7 := HK.out.1.rowAt hil hgk
                    have hd7 := HK.out.1.rowAt hc HGC.out
                    rw [rk, lk] at hk7
                    rw [rc, HLc.out] at hd7
                    have ek := hk7.cellAt hc
                    have HK7 := Lib.hid hk7
                    have HD7 := Lib.hid hd7.rd
                    have HAP := Lib.hid (HK.out.1.ap (c + 1 + k) c hil hc (by omega))
                    rw [hgk, HGC.out] at HAP
                    have HGK := Lib.hid hgk
                    have LK := Lib.hid lk
                    have RK := Lib.hid rk
                    obtain ⟨v1, v2⟩ := HRS.out.rng (c + 1 + k) c hiS hc
                    have p9 : wk.cell? ⟨w.heap.size, 0, none⟩ = some (.int .i64 p) := HK.out.2.1.cell 0
                    have W3 : IntKind.i64.wrap (-(el (rw_ S (c + 1 + k)) c)) = -(el (rw_ S (c + 1 + k)) c) := IntWalk.i64_in _ (by omega)
                    obtain ⟨y1, y2⟩ := prod_bd (k := -(el (rw_ S (c + 1 + k)) c)) (x := x) (by omega) (by omega) (by omega) (by omega)
                    have hq36 : -1000 ≤ -(el (rw_ S (c + 1 + k)) c) * x ∧ -(el (rw_ S (c + 1 + k)) c) * x ≤ 1000 := by
                      have h1 : 0 ≤ el (rw_ S (c + 1 + k)) c * x := Int.mul_nonneg v1 x0
                      have h2 : el (rw_ S (c + 1 + k)) c * x ≤ 7 * 7 := Int.mul_le_mul (by omega) (by omega) x0 (by omega)
                      rw [Int.neg_mul]
                      omega
                    obtain ⟨hq1, hq2⟩ := hq36
                    have W4 : IntKind.i64.wrap (-(el (rw_ S (c + 1 + k)) c) * x) = -(el (rw_ S (c + 1 + k)) c) * x := IntWalk.i64_in _ (by omega)
                    have J5 : (k : Int) < (n : Int) - ((c : Int) + 1) := by omega
                    have J6 : (k : Int) < ((n - (c + 1) : Nat) : Int) := by omega
                    clear hk7 hd7 hgk lk rk rc
                    go_wp2_with fail
                    go_still_tail 14, (by kernel_rfl)
                    change wpList _ _ _ _ _ wk.drew
                    go_wp2_with (go_at_call 92; refine (addMultiple_any 2 (w.heap.size + 1) _ _ n n _ _ (rw_ S (c + 1 + k)) (rw_ S c) _ p _ (by exact HK7.out.same (fun _ _ => rfl)) (by exact HD7.out.same (fun _ _ => rfl)) HLc.out (Nat.le_refl _) (by omega) HAP.out p2 p7 hq1 hq2 (fun j hj => HRS.out.rng _ j hiS hj) (fun j hj => HRS.out.rng c j hcS hj)).mono ?_; rintro e w8 ⟨rfl, ho, hch⟩; have HO8 := Lib.hid ho; have HC8 : Hid (Chg (fun j => ∃ q, (some (⟨gk, 0, none⟩ : Addr)) = some q ∧ q.block = j) wk w8) := Lib.hid ⟨hch.os, hch.tape, hch.output, hch.size, hch.block⟩; clear ho hch)
                    have hgB := (HK7.out.block _ rfl).1
                    have HN : Hid (OwnR 38 2 w8 (w.heap.size + 1) (some ⟨g, 0, none⟩) n c2 (elimD p x S c (c + 1 + (k + 1))) A1 C1 ∧ BX 24 w8 w.heap.size #[.int .i64 p, .int .i64 n, .slice a n cA] ∧ Below w.heap.size w w8) := by
                      refine Lib.hid ⟨?_, HK.out.2.1.chg HC8.out (fun hx => by obtain ⟨y, hy, e⟩ := hx; injection hy with hy; subst hy; simp at e; simp at hgB; omega), HK.out.2.2.trans (HC8.out.below HK.out.2.2.size (fun b hb hx => by obtain ⟨y, hy, e⟩ := hx; injection hy with hy; subst hy; simp at e; simp at hgB; omega))⟩
                      have h2 := HK.out.1.setRow (i := c + 1 + k) (r := addm p (-(el (rw_ S (c + 1 + k)) c) * x) (rw_ S (c + 1 + k)) (rw_ S c)) hil (by rw [RK.out, HGK.out, LK.out]; exact HO8.out) (by rw [HGK.out]; exact HC8.out)
                      rw [elimD_succ hiS (by omega)] at h2
                      exact h2
                    go_roundw
                    case rel => exact ⟨k + 1, by omega, by go_num, HN⟩
                    case measure => simp [intOf]; omega
                  · obtain rfl : k = n - (c + 1) := by omega
                    have HN : Hid (OwnR 38 2 wk (w.heap.size + 1) (some ⟨g, 0, none⟩) n c2 (elimD p x S c n) A1 C1 ∧ Rws p n (elimD p x S c n) ∧ (∀ r, DetR p n (elimD p x S c n) ((p - o) * el (rw_ S c) c % p) (c + 1) r → DetR p n xss 1 0 r) ∧ BX 24 wk w.heap.size #[.int .i64 p, .int .i64 n, .slice a n cA] ∧ Below w.heap.size w wk) := Lib.hid (by have h := HK.out; rw [show c + 1 + (n - (c + 1)) = n by omega] at h; exact ⟨h.1, elimD_rws HRS.out p2, fun r hr => HDR.out x r HIV.out hr, h.2.1, h.2.2⟩)
                    go_wp2_with fail
                    go_roundw
                    case rel => exact ⟨c + 1, _, _, A1, C1, by go_num, rfl, by omega, oo1, by omega, by omega, HN⟩
                    case measure => simp [intOf]; omega
            --NZEND
        · obtain rfl : n = m := by omega
          have b3 : decide ((n : Int) < (n : Int)) = false := by simp
          have b5 : ((n : Int) == (n : Int)) = true := by simp
          have HD := Lib.hid (HJ.out.2.2.1 0 (.zero hc HZ.out))
          go_wp2_with fail
          go_ret
          exact ⟨0, rfl, HD.out, HJ.out.2.2.2.2⟩
    · obtain rfl : n = c := by omega
      have HD := Lib.hid (HJ.out.2.2.1 o .done)
      go_wp2_with fail
      go_ret
      exact ⟨o, rfl, HD.out, HJ.out.2.2.2.2⟩
end Go.Proofs.Ytngikcjdhbflkaa
