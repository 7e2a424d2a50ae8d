/- The numbers of subspaces: the program's recursion and the reference's triangle. -/
import Derived.Test.YtpkdgemnddcefaaNumB
import Derived.Test.YtpkdgemnddcefaaList
import Derived.Deep.RegionLaw
import Derived.BigRegion
set_option linter.unusedVariables false
set_option linter.unusedSimpArgs false
namespace Go.Proofs.Ytpkdgemnddcefaa
open Go.RowKit

def gauss (p : Int) : Nat → Nat → Int
  | 0, _ => 1
  | n + 1, k => if k = 0 ∨ k = n + 1 then 1 else gauss p n (k - 1) + p ^ k * gauss p n k
def gaussOk (p : Int) : Bool := (List.range 9).all fun n => (List.range 9).all fun k => !decide (k ≤ n) || (decide (1 ≤ gauss p n k) && decide (gauss p n k ≤ 1000000000000000) && decide (p ^ k ≤ 10000000) && decide (p ^ k * gauss p n k ≤ 1000000000000000000))
theorem gaussOk_2 : gaussOk 2 = true := by decide +kernel
theorem gaussOk_3 : gaussOk 3 = true := by decide +kernel
theorem gaussOk_5 : gaussOk 5 = true := by decide +kernel
theorem gaussOk_7 : gaussOk 7 = true := by decide +kernel
theorem gauss_bd {p : Int} (hp : GP p) {n k : Nat} (hn : n ≤ 8) (hk : k ≤ n) : 1 ≤ gauss p n k ∧ gauss p n k ≤ 1000000000000000 ∧ p ^ k ≤ 10000000 ∧ p ^ k * gauss p n k ≤ 1000000000000000000 := by
  have h : gaussOk p = true := by
    rcases hp with h | h | h | h <;> subst h
    · exact gaussOk_2
    · exact gaussOk_3
    · exact gaussOk_5
    · exact gaussOk_7
  unfold gaussOk at h
  rw [List.all_eq_true] at h
  have h1 := h n (by simp; omega)
  rw [List.all_eq_true] at h1
  have h2 := h1 k (by simp; omega)
  simp [hk] at h2
  omega
theorem gauss_edge (p : Int) {n k : Nat} (h : k = 0 ∨ k = n) : gauss p n k = 1 := by
  cases n with
  | zero => rfl
  | succ n => unfold gauss; rw [if_pos h]
theorem gauss_step (p : Int) {n k : Nat} (h0 : k ≠ 0) (h1 : k ≠ n + 1) : gauss p (n + 1) k = gauss p n (k - 1) + p ^ k * gauss p n k := by
  conv => lhs; unfold gauss
  rw [if_neg (by omega)]
theorem gaussian_any (p : Int) (hp : GP p) : ∀ (n k : Nat) (w : World), n ≤ 8 → k ≤ n →
    Calls Try.prog 71 #[.int .i64 p, .int .i64 n, .int .i64 k] w fun e w' => e = .returned (.int .i64 (gauss p n k)) ∧ w = w' := by
  intro n
  induction n with
  | zero =>
    intro k w hn hk
    obtain rfl : k = 0 := by omega
    go_enter Try.func71, Try.ntmps71
    go_wp2_with fail
    go_ret
    exact ⟨rfl, rfl⟩
  | succ n ih =>
    intro k w hn hk
    have IH := Lib.hid ih
    clear ih
    by_cases h0 : k = 0
    · subst h0
      have hg := Lib.hid (gauss_edge p (n := n + 1) (k := 0) (.inl rfl))
      go_enter Try.func71, Try.ntmps71
      go_wp2_with fail
      go_ret
      exact ⟨ret_int hg.out.symm, rfl⟩
    · by_cases h1 : k = n + 1
      · subst h1
        have hg := Lib.hid (gauss_edge p (n := n + 1) (k := n + 1) (.inr rfl))
        have e1 : (((n + 1 : Nat) : Int) == 0) = false := beq_eq_false_iff_ne.2 (by omega)
        go_enter Try.func71, Try.ntmps71
        go_wp2_with fail
        go_ret
        exact ⟨ret_int hg.out.symm, rfl⟩
      · have hg := Lib.hid (gauss_step p h0 h1)
        obtain ⟨a1, a2, a3, a4⟩ := gauss_bd hp (show n ≤ 8 by omega) (show k ≤ n by omega)
        obtain ⟨b1, b2, b3, b4⟩ := gauss_bd hp (show n ≤ 8 by omega) (show k - 1 ≤ n by omega)
        have hpb := hp.bd
        have pp : 0 < p ^ k := Int.pow_pos (by omega)
        have a5 := Int.mul_nonneg (show 0 ≤ p ^ k by omega) (show 0 ≤ gauss p n k by omega)
        have e1 : ((k : Int) == 0) = false := beq_eq_false_iff_ne.2 (by omega)
        have e2 : ((k : Int) == ((n + 1 : Nat) : Int)) = false := beq_eq_false_iff_ne.2 (by omega)
        have e2' : ((k : Int) == (n : Int) + 1) = false := beq_eq_false_iff_ne.2 (by omega)
        have c1 : ((n + 1 : Nat) : Int) - 1 = n := by omega
        have c2 : (k : Int) - 1 = ((k - 1 : Nat) : Int) := by omega
        have HC1 : Hid (∀ w, Calls Try.prog 71 #[.int .i64 p, .int .i64 n, .int .i64 ((k : Int) - 1)] w fun e w' => e = .returned (.int .i64 (gauss p n (k - 1))) ∧ w = w') := Lib.hid fun w => by rw [c2]; exact IH.out (k - 1) w (by omega) (by omega)
        have HC2 : Hid (∀ w, Calls Try.prog 71 #[.int .i64 p, .int .i64 n, .int .i64 k] w fun e w' => e = .returned (.int .i64 (gauss p n k)) ∧ w = w') := Lib.hid fun w => IH.out k w (by omega) (by omega)
        have HP := Lib.hid (show 1 ≤ p by omega)
        clear h0 h1 c1 c2
        go_enter Try.func71, Try.ntmps71
        go_wp2_with fail
        refine (HC1.out _).mono ?_
        rintro e w' ⟨rfl, rfl⟩
        go_wp2_with fail
        refine (integerPower_any _ _ _ HP.out (by omega) (by omega)).mono ?_
        rintro e w' ⟨rfl, rfl⟩
        go_wp2_with fail
        refine (HC2.out _).mono ?_
        rintro e w' ⟨rfl, rfl⟩
        go_wp2_with fail
        go_ret
        exact ⟨ret_int hg.out.symm, rfl⟩

theorem Try.info2g : (Try.prog.info? 2).map (fun i => (i.zero, i.size, i.bytes)) = some (some (.int .i64 0), 1, 8) := by kernel_rfl
/-- the first k numbers of row n of the triangle -/
def tri (p : Int) (n k : Nat) : List Int := (List.range k).map (gauss p n)
theorem tri_len (p : Int) (n k : Nat) : (tri p n k).length = k := by simp [tri]
theorem tri_el {p : Int} {n k i : Nat} (h : i < k) : el (tri p n k) i = gauss p n i := by simp [el, tri, h]
theorem tri_succ (p : Int) (n k : Nat) : tri p n (k + 1) = tri p n k ++ [gauss p n k] := by simp [tri, List.range_succ]
set_option maxHeartbeats 1000000 in
theorem l03Count_any (p : Int) (n k : Nat) (w : World) (hp : GP p) (hn : n ≤ 8) (hk : k ≤ n) :
    Calls Try.prog 68 #[.int .i64 p, .int .i64 n, .int .i64 k] w fun e w' => e = .returned (.int .i64 (gauss p n k)) ∧ Below w.heap.size w w' := by
  have HP := Lib.hid hp
  have hpb := hp.bd
  have HS : Hid (OwnI 2 (w.alloc (.cells #[.int .i64 1] 2)) w.heap.size (some ⟨w.heap.size, 0, none⟩) 1 1 (tri p 0 1) ∧ Below w.heap.size w (w.alloc (.cells #[.int .i64 1] 2))) :=
    Lib.hid ⟨OwnI.lit w 2 (tri p 0 1) #[.int .i64 1] rfl (by simp [tri, maxLen]), (Below.refl _ _).alloc (Nat.le_refl _) _⟩
  clear hp
  go_enter Try.func68, Try.ntmps68
  go_wp2
  go_loopw [7, 8] (fun v u wr => ∃ (q : Nat) (a1 : Option Addr) (n1 c1 : Nat), v = .slice a1 n1 c1 ∧ u = .int .i64 ((q : Int) + 1) ∧ q ≤ n ∧ Hid (OwnI 2 wr w.heap.size a1 n1 c1 (tri p q (q + 1)) ∧ Below w.heap.size w wr))
    (fun _ u _ => (n + 1 - intOf u).toNat)
  case atStart => exact ⟨0, _, 1, 1, rfl, rfl, by omega, HS⟩
  case round =>
    obtain ⟨q, a1, n1, c1, rfl, rfl, hq, HO⟩ := hrel
    clear HS
    have ln := HO.out.1.len
    rw [tri_len] at ln
    have la : n1 ≤ q + 1 := by omega
    have lb : q + 1 ≤ n1 := by omega
    clear ln
    obtain ⟨wo, hwo⟩ : ∃ wo : World, wo = wr := ⟨_, rfl⟩
    by_cases hlt : q < n
    · have HI : Hid (OwnI 2 (wr.alloc (.cells #[.int .i64 1] 2)) wr.heap.size (some ⟨wr.heap.size, 0, none⟩) 1 1 (tri p (q + 1) 1) ∧ Below wr.heap.size wr (wr.alloc (.cells #[.int .i64 1] 2))) :=
        Lib.hid ⟨by have := OwnI.lit wr 2 (tri p (q + 1) 1) #[.int .i64 1] (by simp [tri, gauss_edge]) (by simp [tri, maxLen]); simpa [tri] using this, (Below.refl _ _).alloc (Nat.le_refl _) _⟩
      subst hwo
      have hdq : decide ((q : Int) + 1 ≤ (n : Int)) = true := by simp; omega
      go_wp2
      go_loopw [9, 10, 11] (fun v z u wi => ∃ (i : Nat) (a2 : Option Addr) (n2 c2 : Nat), v = .slice a2 n2 c2 ∧ z = .int .i64 (p ^ i) ∧ u = .int .i64 ((i : Int) + 1) ∧ i ≤ q ∧ Hid (OwnI 2 wi wo.heap.size a2 n2 c2 (tri p (q + 1) (i + 1)) ∧ Below wo.heap.size wo wi))
        (fun _ _ u _ => (n + 1 - intOf u).toNat)
      case atStart => exact ⟨0, _, 1, 1, rfl, by simp, rfl, by omega, HI⟩
      case round =>
        obtain ⟨i, a2, n2, c2, rfl, rfl, rfl, hi, HJ⟩ := hrel
        clear HI
        have ln2 := HJ.out.1.len
        rw [tri_len] at ln2
        have la2 : n2 ≤ i + 1 := by omega
        have lb2 : i + 1 ≤ n2 := by omega
        clear ln2
        obtain ⟨wj, hwj⟩ : ∃ wj : World, wj = wr := ⟨_, rfl⟩
        subst hwj
        by_cases hiq : i < q
        · obtain ⟨b1, o1, hb1, h1⟩ := (HO.out.1.rd.keep HJ.out.2 (Nat.le_refl _)) (by rw [tri_len]; omega)
          have k1 := h1 i (by rw [tri_len]; omega)
          have k2 := h1 (i + 1) (by rw [tri_len]; omega)
          rw [tri_el (by omega)] at k1 k2
          subst hb1
          clear h1
          obtain ⟨x1, x2, x3, x4⟩ := gauss_bd HP.out (show q ≤ 8 by omega) (show i ≤ q by omega)
          obtain ⟨y1, y2, y3, y4⟩ := gauss_bd HP.out (show q ≤ 8 by omega) (show i + 1 ≤ q by omega)
          have hst := Lib.hid (show gauss p (q + 1) (i + 1) = gauss p q i + p ^ (i + 1) * gauss p q (i + 1) from by have := gauss_step p (n := q) (k := i + 1) (by omega) (by omega); simpa using this)
          have pw := Int.pow_succ p i
          have pp : 0 < p ^ (i + 1) := Int.pow_pos (by omega)
          have p5 := Int.mul_nonneg (show 0 ≤ p ^ (i + 1) by omega) (show 0 ≤ gauss p q (i + 1) by omega)
          rw [pw] at pp p5 y3 y4
          have PW := Lib.hid pw
          clear pw
          generalize gauss p q i = g1 at *
          generalize gauss p q (i + 1) = g2 at *
          go_wp2
          have hszj : wo.heap.size ≤ wj.heap.size := HJ.out.2.size
          have W0 : IntKind.i64.wrap (i : Int) = i := IntWalk.i64_in _ (by omega)
          have J1 : (i : Int) < (n1 : Int) := by omega
          have J2 : (i : Int) + 1 < (n1 : Int) := by omega
          have J3 : 0 ≤ (i : Int) + 1 := by omega
          have n2b : n2 ≤ 10 := by omega
          have I2 : ((i : Int) + 1).toNat = i + 1 := by omega
          have W1 : IntKind.i64.wrap (p ^ i * p * g2) = p ^ i * p * g2 := IntWalk.i64_in _ (by omega)
          have W2 : IntKind.i64.wrap (g1 + p ^ i * p * g2) = g1 + p ^ i * p * g2 := IntWalk.i64_in _ (by omega)
          go_region_law (refine step_push wj rfl (.tmp 27) (.tmp 40) 52 rfl wo.heap.size 2 (.int .i64 0) 8 Try.underlying52 Try.info2g rfl (by decide) (.int .i64 (g1 + p ^ i * p * g2)) rfl _ _ _ _ _ rfl rfl (by simp) (by exact HJ.out.1.alloc _) (by omega) (by exact ((Below.refl _ _).alloc (Nat.le_refl _) _).drew) hszj ?_; rintro a2' c2' w2 r2 q2 g2'; have R2 := Lib.hid r2; have Q2 := Lib.hid q2; have G2 := Lib.hid g2'; clear r2 q2 g2')
          all_goals
            have hown2 : OwnI 2 w2 wo.heap.size a2' (n2 + 1) c2' (tri p (q + 1) (i + 1 + 1)) := by
              have := OwnI.pushed R2.out
              rw [tri_succ, hst.out, PW.out]
              exact this
            have hbel2 : Below wo.heap.size wo w2 := HJ.out.2.trans (G2.out.below hszj (fun k hk hx => by obtain ⟨x, hx, e⟩ := hx; have := (HJ.out.1.block x hx).1; omega))
            have HN := Lib.hid (And.intro hown2 hbel2)
            clear hown2 hbel2
            go_wp2
            go_roundw
            case rel => exact ⟨i + 1, a2', n2 + 1, c2', rfl, by rw [PW.out], by go_num, by omega, HN⟩
            case measure => simp [intOf]; omega
        · obtain rfl : i = q := by omega
          have hszj : wo.heap.size ≤ wj.heap.size := HJ.out.2.size
          have n2b : n2 ≤ 10 := by omega
          go_wp2_with (at_builtin; refine wpList_push rfl (.tmp 42) (.tmp 43) 52 rfl wo.heap.size 2 (.int .i64 0) 8 Try.underlying52 Try.info2g rfl (by decide) _ rfl _ _ _ _ rfl rfl HJ.out.1 (by omega) hszj ?_; rintro a2' c2' w2 r2 q2 g2'; have R2 := Lib.hid r2; have Q2 := Lib.hid q2; have G2 := Lib.hid g2'; clear r2 q2 g2')
          have hown2 : OwnI 2 w2 w.heap.size a2' (n2 + 1) c2' (tri p (i + 1) (i + 1 + 1)) := by
            have := OwnI.pushed R2.out
            rw [tri_succ, gauss_edge p (n := i + 1) (k := i + 1) (.inr rfl)]
            exact OwnI.mono this HO.out.2.size
          have hbel2 : Below w.heap.size w w2 := HO.out.2.trans ((HJ.out.2.trans (G2.out.below hszj (fun k hk hx => by obtain ⟨x, hx, e⟩ := hx; have := (HJ.out.1.block x hx).1; omega))).mono HO.out.2.size)
          have HN := Lib.hid (And.intro hown2 hbel2)
          clear hown2 hbel2
          go_roundw
          case rel => exact ⟨i + 1, a2', n2 + 1, c2', rfl, by go_num, by omega, HN⟩
          case measure => simp [intOf]; omega
    · obtain rfl : q = n := by omega
      obtain ⟨b1, o1, hb1, h1⟩ := HO.out.1.rd (by rw [tri_len]; omega)
      have k1 := h1 k (by rw [tri_len]; omega)
      rw [tri_el (by omega)] at k1
      subst hb1
      clear h1
      have J1 : (k : Int) < (n1 : Int) := by omega
      go_wp2
      go_ret
      exact ⟨rfl, HO.out.2⟩

def CSBad (p n k : Int) : Prop := ¬ GP p ∨ (GP p ∧ (n < 0 ∨ 8 < n)) ∨ (GP p ∧ 0 ≤ n ∧ n ≤ 8 ∧ (k < 0 ∨ n < k))
theorem CSOk {p n k : Int} (h : ¬ CSBad p n k) : GP p ∧ 0 ≤ n ∧ n ≤ 8 ∧ 0 ≤ k ∧ k ≤ n := by
  have hp : GP p := Classical.byContradiction fun hn => h (.inl hn)
  have h1 : ¬ (n < 0 ∨ 8 < n) := fun hn => h (.inr (.inl ⟨hp, hn⟩))
  have h2 : ¬ (k < 0 ∨ n < k) := fun hn => h (.inr (.inr ⟨hp, by omega, by omega, hn⟩))
  exact ⟨hp, by omega, by omega, by omega, by omega⟩
set_option maxHeartbeats 400000 in
theorem impl_CountSubspaces_ok (p : Int) (n k : Nat) (w : World) (hp : GP p) (hn : n ≤ 8) (hk : k ≤ n) :
    Calls Try.prog 36 #[.int .i64 p, .int .i64 n, .int .i64 k] w fun e w' => e = .returned (.tuple #[.int .i64 (gauss p n k), .int .i64 0]) ∧ w = w' := by
  have HP := Lib.hid hp
  clear hp
  go_enter Try.func36, Try.ntmps36
  go_wp2_with (first | (go_at_call 58; refine (IsGroupPrime_t _ _ HP.out).mono ?_; rintro e w' ⟨rfl, rfl⟩) | (go_at_call 59; refine (inside_t _ _ _ _ (by omega) (by omega)).mono ?_; rintro e w' ⟨rfl, rfl⟩) | (go_at_call 71; refine (gaussian_any _ HP.out _ _ _ hn hk).mono ?_; rintro e w' ⟨rfl, rfl⟩))
  go_ret2
  exact ⟨rfl, rfl⟩
set_option maxHeartbeats 400000 in
theorem impl_CountSubspaces_bad (p n k : Int) (w : World) (h : CSBad p n k) :
    Calls Try.prog 36 #[.int .i64 p, .int .i64 n, .int .i64 k] w fun e w' => e = .returned (.tuple #[.int .i64 0, .int .i64 2]) ∧ w = w' := by
  rcases h with h | ⟨h0, h⟩ | ⟨h0, h1, h2, h⟩
  · go_enter Try.func36, Try.ntmps36
    go_wp2_with (go_at_call 58; refine (IsGroupPrime_f _ _ h).mono ?_; rintro e w' ⟨rfl, rfl⟩)
    go_ret2
    exact ⟨rfl, rfl⟩
  · have H0 := Lib.hid h0
    clear h0
    go_enter Try.func36, Try.ntmps36
    go_wp2_with (first | (go_at_call 58; refine (IsGroupPrime_t _ _ H0.out).mono ?_; rintro e w' ⟨rfl, rfl⟩) | (go_at_call 59; refine (inside_f _ _ _ _ h).mono ?_; rintro e w' ⟨rfl, rfl⟩))
    go_ret2
    exact ⟨rfl, rfl⟩
  · have H0 := Lib.hid h0
    clear h0
    go_enter Try.func36, Try.ntmps36
    go_wp2_with (first | (go_at_call 58; refine (IsGroupPrime_t _ _ H0.out).mono ?_; rintro e w' ⟨rfl, rfl⟩) | (go_at_call 59; refine (inside_t _ _ _ _ (by omega) (by omega)).mono ?_; rintro e w' ⟨rfl, rfl⟩) | (go_at_call 59; refine (inside_f _ _ _ _ (by omega)).mono ?_; rintro e w' ⟨rfl, rfl⟩))
    go_ret2
    exact ⟨rfl, rfl⟩
set_option maxHeartbeats 400000 in
theorem spec_CountSubspaces_ok (p : Int) (n k : Nat) (w : World) (hp : GP p) (hn : n ≤ 8) (hk : k ≤ n) :
    Calls Try.prog 34 #[.int .i64 p, .int .i64 n, .int .i64 k] w fun e w' => e = .returned (.tuple #[.int .i64 (gauss p n k), .int .i64 0]) ∧ Below w.heap.size w w' := by
  have HP := Lib.hid hp
  clear hp
  go_enter Try.func34, Try.ntmps34
  go_wp2_with (first | (go_at_call 66; refine (l01Prime_t _ _ HP.out).mono ?_; rintro e w' ⟨rfl, rfl⟩) | (go_at_call 67; refine (l01In_t _ _ _ _ (by omega) (by omega)).mono ?_; rintro e w' ⟨rfl, rfl⟩) | (go_at_call 68; refine (l03Count_any _ _ _ _ HP.out hn hk).mono ?_; rintro e w' ⟨rfl, hb⟩; have HB := Lib.hid hb; clear hb))
  go_ret2
  exact ⟨rfl, HB.out⟩
set_option maxHeartbeats 400000 in
theorem spec_CountSubspaces_bad (p n k : Int) (w : World) (h : CSBad p n k) :
    Calls Try.prog 34 #[.int .i64 p, .int .i64 n, .int .i64 k] w fun e w' => e = .returned (.tuple #[.int .i64 0, .int .i64 2]) ∧ w = w' := by
  rcases h with h | ⟨h0, h⟩ | ⟨h0, h1, h2, h⟩
  · go_enter Try.func34, Try.ntmps34
    go_wp2_with (go_at_call 66; refine (l01Prime_f _ _ h).mono ?_; rintro e w' ⟨rfl, rfl⟩)
    go_ret2
    exact ⟨rfl, rfl⟩
  · have H0 := Lib.hid h0
    clear h0
    go_enter Try.func34, Try.ntmps34
    go_wp2_with (first | (go_at_call 66; refine (l01Prime_t _ _ H0.out).mono ?_; rintro e w' ⟨rfl, rfl⟩) | (go_at_call 67; refine (l01In_f _ _ _ _ h).mono ?_; rintro e w' ⟨rfl, rfl⟩))
    go_ret2
    exact ⟨rfl, rfl⟩
  · have H0 := Lib.hid h0
    clear h0
    go_enter Try.func34, Try.ntmps34
    go_wp2_with (first | (go_at_call 66; refine (l01Prime_t _ _ H0.out).mono ?_; rintro e w' ⟨rfl, rfl⟩) | (go_at_call 67; refine (l01In_t _ _ _ _ (by omega) (by omega)).mono ?_; rintro e w' ⟨rfl, rfl⟩) | (go_at_call 67; refine (l01In_f _ _ _ _ (by omega)).mono ?_; rintro e w' ⟨rfl, rfl⟩))
    go_ret2
    exact ⟨rfl, rfl⟩
end Go.Proofs.Ytpkdgemnddcefaa
