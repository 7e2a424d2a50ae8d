/- A multiple of a row added to another one in place, modulo p. -/
import Derived.Test.YtpkdgemnddcefaaMat
import Derived.StillTailTactics
set_option linter.unusedVariables false
set_option linter.unusedSimpArgs false
namespace Go.Proofs.Ytpkdgemnddcefaa
open Go.RowKit

/-- the first i entries are those of the sum -/
def mixm (p k : Int) (xs ys : List Int) (i : Nat) : List Int := tab xs.length fun j => if j < i then (el xs j + k * el ys j) % p else el xs j
theorem mixm_len (p k : Int) (xs ys : List Int) (i : Nat) : (mixm p k xs ys i).length = xs.length := tab_len _ _
theorem mixm_zero (p k : Int) (xs ys : List Int) : mixm p k xs ys 0 = xs := by
  unfold mixm
  rw [tab_congr (g := el xs) (fun i _ => if_neg (by omega)), tab_el]
theorem mixm_full (p k : Int) (xs ys : List Int) : mixm p k xs ys xs.length = addm p k xs ys := by
  unfold mixm addm
  exact tab_congr (fun i hi => if_pos hi)
theorem mixm_el {p k : Int} {xs ys : List Int} {i j : Nat} (hj : j < xs.length) (h : i ≤ j) : el (mixm p k xs ys i) j = el xs j := by
  unfold mixm
  rw [el_tab hj, if_neg (by omega)]
theorem mixm_set {p k : Int} {xs ys : List Int} {i : Nat} (hi : i < xs.length) : (mixm p k xs ys i).set i ((el xs i + k * el ys i) % p) = mixm p k xs ys (i + 1) := by
  refine list_ext (by simp [mixm_len]) fun j hj => ?_
  have hj' : j < xs.length := by simpa [mixm_len] using hj
  rw [el_set (by rw [mixm_len]; exact hi)]
  unfold mixm
  rw [el_tab hj', el_tab hj']
  by_cases h : j = i
  · subst h; rw [if_pos rfl, if_pos (by omega)]
  · rw [if_neg h]
    by_cases h2 : j < i
    · rw [if_pos h2, if_pos (by omega)]
    · rw [if_neg h2, if_neg (by omega)]
theorem prod_bd {k x : Int} (h1 : -1000 ≤ k) (h2 : k ≤ 1000) (h3 : -1000 ≤ x) (h4 : x ≤ 1000) : -1000000 ≤ k * x ∧ k * x ≤ 1000000 := by
  have k1 : 0 ≤ (1000 - k) * (1000 + x) := Int.mul_nonneg (by omega) (by omega)
  have k2 : 0 ≤ (1000 + k) * (1000 - x) := Int.mul_nonneg (by omega) (by omega)
  have k3 : 0 ≤ (1000 - k) * (1000 - x) := Int.mul_nonneg (by omega) (by omega)
  have k4 : 0 ≤ (1000 + k) * (1000 + x) := Int.mul_nonneg (by omega) (by omega)
  rw [Int.sub_mul, Int.mul_add, Int.mul_add] at k1
  rw [Int.add_mul, Int.mul_sub, Int.mul_sub] at k2
  rw [Int.sub_mul, Int.mul_sub, Int.mul_sub] at k3
  rw [Int.add_mul, Int.mul_add, Int.mul_add] at k4
  omega
set_option maxRecDepth 20000 in
set_option maxHeartbeats 2000000 in
theorem addMultiple_any (T : TypeId) (B : Nat) (a b : Option Addr) (n m ca cb : Nat) (xs ys : List Int) (k p : Int) (w : World) (ha : OwnI T w B a n ca xs) (hb : RdI w b ys) (hl : ys.length = m) (hnm : n ≤ m) (hm : m ≤ 1048576) (hap : Apart a b)
    (hp : 2 ≤ p) (hp7 : p ≤ 7) (hk1 : -1000 ≤ k) (hk2 : k ≤ 1000) (hx : ∀ j, j < n → 0 ≤ el xs j ∧ el xs j < p) (hy : ∀ j, j < n → 0 ≤ el ys j ∧ el ys j < p) :
    Calls Try.prog 105 #[.slice a n ca, .slice b m cb, .int .i64 k, .int .i64 p] w fun e w' => e = .returned (.tuple #[]) ∧ OwnI T w' B a n ca (addm p k xs ys) ∧ Chg (fun j => ∃ q, a = some q ∧ q.block = j) w w' := by
  have HL := Lib.hid hl
  have HB := Lib.hid hb
  have HX := Lib.hid hx
  have HY := Lib.hid hy
  have HP := Lib.hid hap
  have HN : Hid (xs.length = n) := Lib.hid ha.len
  have H0 : Hid (OwnI T w B a n ca (mixm p k xs ys 0) ∧ Chg (fun j => ∃ q, a = some q ∧ q.block = j) w w) := Lib.hid ⟨by rw [mixm_zero]; exact ha, Chg.refl _ _⟩
  clear ha hb hl hx hy hap
  go_enter Try.func105, Try.ntmps105
  go_wp2
  go_loopw [11] (fun i wr => ∃ j : Nat, j ≤ n ∧ i = .int .i64 j ∧ Hid (OwnI T wr B a n ca (mixm p k xs ys j) ∧ Chg (fun j => ∃ q, a = some q ∧ q.block = j) w wr)) (fun i _ => n - (intOf i).toNat)
  case atStart => exact ⟨0, Nat.zero_le _, rfl, H0⟩
  case round =>
    obtain ⟨i, hi, rfl, HC⟩ := hrel
    clear H0
    by_cases hlt : i < n
    · obtain ⟨g, rfl⟩ := HC.out.1.addr (by omega)
      have e1 := HC.out.1.cellAt hlt
      rw [mixm_el (by rw [HN.out]; exact hlt) (Nat.le_refl _)] at e1
      have e2 := HC.out.1.frozen i
      have hbw : RdI wr b ys := HB.out.same (fun q hq => HC.out.2.block _ (by obtain ⟨b', o', hb', hc'⟩ := HB.out (by rw [HL.out]; omega); rw [hb'] at hq; injection hq with hq; subst hq; exact (block_lt (hc' i (by rw [HL.out]; omega)) : b' < w.heap.size)) (fun hx => by obtain ⟨x, hx, e⟩ := hx; exact HP.out x q hx hq e))
      obtain ⟨b', o', rfl, hc⟩ := hbw (by rw [HL.out]; omega)
      have e3 := hc i (by rw [HL.out]; omega)
      have hxi := HX.out i hlt
      have hyi := HY.out i hlt
      obtain ⟨x1, x2⟩ := hxi
      obtain ⟨y1, y2⟩ := hyi
      obtain ⟨z1, z2⟩ := prod_bd (k := k) (x := el ys i) hk1 hk2 (by omega) (by omega)
      have W1 : IntKind.i64.wrap (k * el ys i) = k * el ys i := IntWalk.i64_in _ (by omega)
      have W2 : IntKind.i64.wrap (el xs i + k * el ys i) = el xs i + k * el ys i := IntWalk.i64_in _ (by omega)
      have J1 : (i : Int) < (n : Int) := by omega
      have J2 : (i : Int) < (m : Int) := by omega
      clear hc hbw
      go_wp2
      go_still_tail 16, (by kernel_rfl)
      still_call ((residue_any _ _ _ (by omega) (by omega) (by omega) (by omega)).mono fun _ _ h => ⟨h.1, h.2.symm⟩)
      repeat still_step
      refine wpStill_nil ?_
      change wpList _ _ _ _ _ wr.drew
      have HN2 : Hid (OwnI T (wr.setCell ⟨g, i, none⟩ (.int .i64 ((el xs i + k * el ys i) % p))).drew B (some ⟨g, 0, none⟩) n ca (mixm p k xs ys (i + 1)) ∧ Chg (fun j => ∃ q, some (⟨g, 0, none⟩ : Addr) = some q ∧ q.block = j) w (wr.setCell ⟨g, i, none⟩ (.int .i64 ((el xs i + k * el ys i) % p))).drew) := Lib.hid ⟨by have := HC.out.1.set hlt ((el xs i + k * el ys i) % p); rw [mixm_set (by rw [HN.out]; exact hlt)] at this; exact this, (HC.out.2.setCell ⟨g, i, none⟩ ⟨_, rfl, rfl⟩ _).drew⟩
      go_wp2
      go_roundw
      case rel => exact ⟨i + 1, by omega, by go_num, HN2⟩
      case measure => simp [intOf]; omega
    · obtain rfl : n = i := by omega
      have HM : Hid (OwnI T wr B a n ca (addm p k xs ys) ∧ Chg (fun j => ∃ q, a = some q ∧ q.block = j) w wr) := Lib.hid (by have := HC.out; rw [← mixm_full, HN.out]; exact this)
      go_wp2
      go_end0
      exact ⟨rfl, HM.out.1, HM.out.2⟩
end Go.Proofs.Ytpkdgemnddcefaa
