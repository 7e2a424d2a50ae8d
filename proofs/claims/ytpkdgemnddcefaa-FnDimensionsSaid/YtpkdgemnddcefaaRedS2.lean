/- The reference's reduction of rows modulo p: what it hands back is the reduced form. -/
import Derived.Test.YtpkdgemnddcefaaRedS
import Derived.Test.YtpkdgemnddcefaaReduce
import Derived.Deep.RegionLaw
set_option linter.unusedVariables false
set_option linter.unusedSimpArgs false
namespace Go.Proofs.Ytpkdgemnddcefaa
open Go.RowKit

set_option maxRecDepth 20000 in
set_option maxHeartbeats 2000000 in
theorem l02Clear_any (p : Int) (hp : 2 ≤ p) (hp7 : p ≤ 7) (a b : Option Addr) (r n ca cb : Nat) (R : List (List Int)) (piv : Nat → Nat) (v : List Int) (w : World) (ha : RdR w a R) (hl : R.length = r) (hR : Rref p n R piv) (hb : RdI w b v) (hl2 : v.length = n) (hn : n ≤ 100) (hr : r ≤ 100)
    (hv : ∀ j, j < n → 0 ≤ el v j ∧ el v j < p) :
    Calls Try.prog 83 #[.int .i64 p, .slice a r ca, .slice b n cb] w fun e w' => ∃ (u : List Int) (a' : Option Addr) (c' : Nat), e = .returned (.slice a' n c') ∧ Clr p n R piv v u r ∧ OwnI 2 w' w.heap.size a' n c' u ∧ Below w.heap.size w w' := by
  have HA := Lib.hid ha
  have HL := Lib.hid hl
  have HR := Lib.hid hR
  have HB := Lib.hid hb
  have HL2 := Lib.hid hl2
  have HV := Lib.hid hv
  clear ha hl hR hb hl2 hv
  go_enter Try.func83, Try.ntmps83
  go_wp2_with fail
  refine (l01Own_any _ _ _ v _ (by exact HB.out) HL2.out (by omega)).mono ?_
  rintro e w1 ⟨a1, c1, rfl, ho, hb1⟩
  have H0 : Hid (Clr p n R piv v v 0 ∧ OwnI 2 w1 w.heap.size a1 n c1 v ∧ Below w.heap.size w w1) := Lib.hid ⟨Clr.start HL2.out HV.out, ho, hb1⟩
  clear ho hb1
  go_wp2_with fail
  go_loopw [8, 7] (fun i o wr => ∃ (j : Nat) (a1 : Option Addr) (c1 : Nat) (u : List Int), j ≤ r ∧ i = .int .i64 j ∧ o = .slice a1 n c1 ∧ Hid (Clr p n R piv v u j ∧ OwnI 2 wr w.heap.size a1 n c1 u ∧ Below w.heap.size w wr)) (fun i _ _ => r - (intOf i).toNat)
  case atStart => exact ⟨0, a1, c1, v, Nat.zero_le _, rfl, rfl, H0⟩
  case round =>
    obtain ⟨j, a1, c1, u, hj, rfl, rfl, HC⟩ := hrel
    obtain ⟨wi, rfl⟩ : ∃ x, x = wr := ⟨wr, rfl⟩
    clear H0
    by_cases hjt : j < r
    · have hjR : j < R.length := by rw [HL.out]; exact hjt
      obtain ⟨b1, o1, rfl, hc⟩ := (HA.out.keep HC.out.2.2 (Nat.le_refl _)) (by omega)
      obtain ⟨aj, cj, dj, rj, _⟩ := hc j hjR
      have RJ := Lib.hid rj
      have hlj : (rw_ R j).length = n := HR.out.len j hjR
      have hpn := HR.out.pn j hjR
      have HLJ := Lib.hid hlj
      rw [hlj] at dj
      have HKL := Lib.hid (HR.out.isLead hjR)
      have HJR := Lib.hid hjR
      obtain ⟨g, rfl⟩ := HC.out.2.1.addr (by omega)
      clear hc rj hlj hjR
      have b1 : decide ((j : Int) < (r : Int)) = true := decide_eq_true (by omega)
      go_wp2_with fail
      refine (l02Lead_any _ _ _ (rw_ R j) _ (by exact RJ.out) HLJ.out (by omega)).mono ?_
      rintro e w' ⟨k, rfl, hk, rfl⟩
      have hkp : piv j = k := (HKL.out).unique hk
      have HKP := Lib.hid hkp
      rw [hkp] at hpn
      clear hk hkp
      have e1 := HC.out.2.1.cellAt hpn
      obtain ⟨u1, u2⟩ := HC.out.1.rng k hpn
      have b2 : decide ((k : Int) < (n : Int)) = true := decide_eq_true (by omega)
      by_cases hz : el u k = 0
      · have b3 : (el u k != 0) = false := by rw [hz]; rfl
        have HN : Hid (Clr p n R piv v u (j + 1)) := Lib.hid (HC.out.1.skip (by rw [HKP.out]; exact hz))
        clear hz
        go_wp2_with fail
        go_roundw
        case rel => exact ⟨j + 1, _, c1, u, by omega, by go_num, rfl, Lib.hid ⟨HN.out, HC.out.2⟩⟩
        case measure => simp [intOf]; omega
      · have b3 : (el u k != 0) = true := bne_iff_ne.2 hz
        have HN : Hid (Clr p n R piv v (addm p (p - el u k) u (rw_ R j)) (j + 1)) := Lib.hid (by have := HC.out.1.step HR.out HJR.out hp; rwa [HKP.out] at this)
        have W1 : IntKind.i64.wrap (p - el u k) = p - el u k := IntWalk.i64_in _ (by omega)
        have J1 : (k : Int) < (n : Int) := by omega
        have J2 : (j : Int) < (r : Int) := by omega
        clear hz
        go_wp2_with fail
        go_still_tail 12, (by kernel_rfl)
        change wpList _ _ _ _ _ wi.drew
        go_wp2_with (go_at_call 87; refine (l02Add_any _ _ n _ _ u (rw_ R j) _ _ _ (by exact HC.out.2.1.rd.same (fun _ _ => rfl)) (by exact RJ.out.same (fun _ _ => rfl)) HC.out.1.len HLJ.out (by omega) hp hp7 (by omega) (by omega) HC.out.1.rng (fun q hq => HR.out.rng j q HJR.out hq)).mono ?_; rintro e w8 ⟨a8, c8, rfl, ho, hb8⟩; have HO8 := Lib.hid ho; have HB8 : Hid (Below wi.heap.size wi w8) := Lib.hid (below_drw hb8); clear ho hb8)
        go_roundw
        case rel => exact ⟨j + 1, a8, c8, _, by omega, by go_num, rfl, Lib.hid ⟨HN.out, HO8.out.mono HC.out.2.2.size, HC.out.2.2.trans (HB8.out.mono HC.out.2.2.size)⟩⟩
        case measure => simp [intOf]; omega
    · obtain rfl : r = j := by omega
      go_wp2
      go_ret
      exact ⟨u, a1, c1, rfl, HC.out⟩
end Go.Proofs.Ytpkdgemnddcefaa
