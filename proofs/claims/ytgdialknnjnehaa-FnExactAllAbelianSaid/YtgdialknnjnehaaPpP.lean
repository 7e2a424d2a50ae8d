/- Primary parts, in plain words; the reference's test of prime powers. -/
import Derived.Test.YtgdialknnjnehaaPpCmp
set_option linter.unusedVariables false
set_option linter.unusedSimpArgs false
namespace Go.Proofs.Ytgdialknnjnehaa
open Go.RowKit

/-- the prime of a prime power, 0 for other numbers -/
def baseV (n : Int) : Int := if n < 2 then 0 else if (primesOf n).length = 1 then lpf n else 0
theorem primes_eq (n : Int) : primesOf n = (facL n).map Prod.fst := rfl
theorem facs_ne : ∀ (f : Nat) (n p : Int), 1 < n → facs f n p ≠ []
  | 0, n, p, h => by unfold facs; rw [if_pos h]; simp
  | f + 1, n, p, h => by
    unfold facs
    by_cases hp : p * p ≤ n
    · rw [if_pos hp]
      by_cases hs : 0 < (strip p 20 n).2
      · rw [if_pos hs]; simp
      · rw [if_neg hs]
        have : (strip p 20 n).1 = n := by
          have h2 := strip_no (p := p) (n := n)
          by_cases hd : n % p = 0
          · exfalso
            have h3 := strip_yes (p := p) hd 19
            rw [h3] at hs
            simp only at hs
            have : ∀ (g : Nat) (m : Int), 0 ≤ (strip p g m).2 := by
              intro g
              induction g with
              | zero => intro m; simp [strip]
              | succ g ih => intro m; unfold strip; split; have := ih (m / p); simp only; omega; simp
            have := this 19 (n / p)
            omega
          · rw [h2 hd]
        rw [this]
        simpa using facs_ne f n (p + 1) h
    · rw [if_neg hp, if_pos h]; simp
/-- when no candidate below p divides and p * p is beyond n -/
theorem base_prime {f : Nat} {n p : Int} (h1 : 1 < n) (he : facs f n p = facL n) (hp : n < p * p) : baseV n = n := by
  rw [facs_end hp, if_pos h1] at he
  unfold baseV lpf
  rw [if_neg (by omega), primes_eq, ← he]
  simp [el]
theorem base_pow {f : Nat} {n p : Int} (h1 : 1 < n) (he : facs (f + 1) n p = facL n) (hp : p * p ≤ n) (h2 : 2 ≤ p) (hs : 0 < (strip p 20 n).2) : baseV n = if 1 < (strip p 20 n).1 then 0 else p := by
  rw [facs_go hp, if_pos hs] at he
  have hb := strip_bd h2 20 n (by omega)
  unfold baseV lpf
  rw [if_neg (by omega), primes_eq, ← he]
  by_cases h3 : 1 < (strip p 20 n).1
  · rw [if_pos h3]
    have := facs_ne f _ (p + 1) h3
    have h4 : (facs f (strip p 20 n).1 (p + 1)).length ≠ 0 := fun e => this (List.eq_nil_of_length_eq_zero e)
    rw [if_neg (by simp; exact this)]
  · rw [if_neg h3]
    have h5 : (strip p 20 n).1 < (p + 1) * (p + 1) := by
      have := (mul_bd (x := 2) (y := 2) (A := p + 1) (B := p + 1) (by omega) (by omega) (by omega) (by omega)).2
      omega
    rw [facs_end h5, if_neg h3]
    simp [el]
theorem skip_same {f : Nat} {n p : Int} (hp : p * p ≤ n) (hd : n % p ≠ 0) : facs (f + 1) n p = facs f n (p + 1) := by
  rw [facs_go hp, strip_no hd]
  simp
/-- the prime powers of one number -/
def partsOf (f : Int) : List Int := (facL f).map fun x => x.1 ^ x.2.toNat
/-- the prime powers of all numbers of a list -/
def partsL (xs : List Int) : List Int := xs.flatMap partsOf
theorem partsL_snoc (xs : List Int) (f : Int) : partsL (xs ++ [f]) = partsL xs ++ partsOf f := by simp [partsL]
theorem partsL_take {xs : List Int} {j : Nat} (h : j < xs.length) : partsL (xs.take (j + 1)) = partsL (xs.take j) ++ partsOf (el xs j) := by rw [take_el h, partsL_snoc]
/-- a prime power, within the limits -/
def isPP (q : Int) : Prop := 2 ≤ q ∧ q ≤ 1000000 ∧ (primesOf q).length = 1
theorem base_isPP {q : Int} (h : isPP q) : baseV q = lpf q := by
  unfold baseV; rw [if_neg (by have := h.1; omega), if_pos h.2.2]
/-- a power of a prime has this prime alone -/
theorem primes_pow {p : Int} (hp : Prm p) {e : Nat} (he : 1 ≤ e) (hq : p ^ e ≤ 1000000) : primesOf (p ^ e) = [p] := by
  have h2 : 2 ≤ p ^ e := by
    obtain ⟨k, rfl⟩ : ∃ k, e = k + 1 := ⟨e - 1, by omega⟩
    have h1 := pow_pos' (show 1 ≤ p by have := hp.1; omega) k
    rw [Int.pow_succ]
    have := Int.mul_le_mul h1 hp.1 (by omega) (by omega)
    omega
  obtain ⟨s1, s2⟩ := facL_spec (show 1 ≤ p ^ e by omega) hq
  have hall : ∀ x ∈ facL (p ^ e), x.1 = p := by
    intro x hx
    obtain ⟨hx1, hx2, hx3⟩ := s2.ent x hx
    have hd : x.1 ∣ p ^ e := by
      rw [← s1]
      obtain ⟨A, B, hAB⟩ := List.append_of_mem hx
      rw [hAB, prodL_app]
      refine Int.dvd_trans ?_ (Int.dvd_mul_left _ _)
      show x.1 ∣ x.1 ^ x.2.toNat * prodL B
      obtain ⟨k, hk⟩ : ∃ k, x.2.toNat = k + 1 := ⟨x.2.toNat - 1, by omega⟩
      rw [hk, Int.pow_succ]
      exact Int.dvd_trans (Int.dvd_mul_left _ _) (Int.dvd_mul_right _ _)
    exact hx2.eq hp (hx2.pow e hd)
  rw [primes_eq]
  rcases hL : facL (p ^ e) with _ | ⟨a, L⟩
  · rw [hL] at s1; simp [prodL] at s1; omega
  · rcases L with _ | ⟨b, M⟩
    · rw [hL] at hall; simp; exact hall a (by simp)
    · exfalso
      have h3 := s2.inc
      rw [hL] at h3 hall
      have h4 := (List.pairwise_cons.1 h3).1 b (by simp)
      have h5 := hall a (by simp)
      have h6 := hall b (by simp)
      omega
theorem pow_le_prod {A B : List (Int × Int)} {x : Int × Int} {p : Int} (h : ∀ y ∈ A ++ x :: B, p ≤ y.1 ∧ Prm y.1 ∧ 1 ≤ y.2) : x.1 ^ x.2.toNat ≤ prodL (A ++ x :: B) := by
  have h1 := prodL_pos (p := p) A (fun y hy => h y (List.mem_append_left _ hy))
  have h2 := prodL_pos (p := p) B (fun y hy => h y (List.mem_append_right _ (List.mem_cons_of_mem _ hy)))
  have h3 := pow_pos' (show 1 ≤ x.1 by have := (h x (by simp)).2.1.1; omega) x.2.toNat
  rw [prodL_app]
  show _ ≤ prodL A * (x.1 ^ x.2.toNat * prodL B)
  have h4 := Int.mul_le_mul_of_nonneg_left h2 (show 0 ≤ x.1 ^ x.2.toNat by omega)
  have h5 := Int.mul_le_mul_of_nonneg_right h1 (show 0 ≤ x.1 ^ x.2.toNat * prodL B by omega)
  omega
theorem ent_isPP {n : Int} (h1 : 1 ≤ n) (h2 : n ≤ 1000000) {x : Int × Int} (hx : x ∈ facL n) : isPP (x.1 ^ x.2.toNat) ∧ lpf (x.1 ^ x.2.toNat) = x.1 := by
  obtain ⟨s1, s2⟩ := facL_spec h1 h2
  obtain ⟨e1, e2, e3⟩ := s2.ent x hx
  have hle : x.1 ^ x.2.toNat ≤ 1000000 := by
    obtain ⟨A, B, hAB⟩ := List.append_of_mem hx
    have := pow_le_prod (A := A) (B := B) (x := x) (p := 2) (by rw [← hAB]; exact s2.ent)
    rw [← hAB, s1] at this
    omega
  have hp := primes_pow e2 (show 1 ≤ x.2.toNat by omega) hle
  have h3 : 2 ≤ x.1 ^ x.2.toNat := by
    obtain ⟨k, hk⟩ : ∃ k, x.2.toNat = k + 1 := ⟨x.2.toNat - 1, by omega⟩
    have h6 := pow_pos' (show 1 ≤ x.1 by have := e2.1; omega) k
    rw [hk, Int.pow_succ]
    have := Int.mul_le_mul h6 e2.1 (by omega) (by omega)
    omega
  exact ⟨⟨h3, hle, by rw [hp]; rfl⟩, by unfold lpf; rw [hp]; rfl⟩
theorem partsOf_PP {n : Int} (h1 : 1 ≤ n) (h2 : n ≤ 1000000) : ∀ q ∈ partsOf n, isPP q := by
  intro q hq
  obtain ⟨x, hx, rfl⟩ := List.mem_map.1 hq
  exact (ent_isPP h1 h2 hx).1
theorem partsL_PP {xs : List Int} (h : ∀ x ∈ xs, 1 ≤ x ∧ x ≤ 1000000) : ∀ q ∈ partsL xs, isPP q := by
  intro q hq
  obtain ⟨x, hx, hq⟩ := List.mem_flatMap.1 hq
  exact partsOf_PP (h x hx).1 (h x hx).2 q hq
theorem partsOf_len (n : Int) : (partsOf n).length ≤ 1002 := by unfold partsOf; rw [List.length_map]; exact facs_len _ _ _
theorem partsL_len : ∀ xs : List Int, (partsL xs).length ≤ 1002 * xs.length
  | [] => by simp [partsL]
  | x :: xs => by
    have h1 := partsL_len xs
    have h2 := partsOf_len x
    have : partsL (x :: xs) = partsOf x ++ partsL xs := by simp [partsL]
    rw [this, List.length_append, List.length_cons]
    omega
/-- ordered by primes, then by size -/
def leP (x y : Int) : Bool := decide (lpf x < lpf y ∨ (lpf x = lpf y ∧ x ≤ y))
theorem leP_iff {x y : Int} : leP x y = true ↔ (lpf x < lpf y ∨ (lpf x = lpf y ∧ x ≤ y)) := by unfold leP; simp
theorem leP_tot (x y : Int) : (leP x y || leP y x) = true := by
  rw [Bool.or_eq_true, leP_iff, leP_iff]; omega
theorem leP_trans (x y z : Int) (h1 : leP x y = true) (h2 : leP y z = true) : leP x z = true := by
  rw [leP_iff] at *; omega
theorem leP_anti {x y : Int} (h1 : leP x y = true) (h2 : leP y x = true) : x = y := by
  rw [leP_iff] at *; omega
theorem ordP_lt {x y : Int} : ordP x y < 0 ↔ ¬ leP y x = true := by
  rw [leP_iff]
  unfold ordP cmpI
  by_cases h1 : lpf x < lpf y
  · rw [if_pos h1]; simp; omega
  · rw [if_neg h1]
    by_cases h2 : lpf y < lpf x
    · rw [if_pos h2]; simp; omega
    · rw [if_neg h2]
      by_cases h3 : x < y
      · simp [h3]; omega
      · by_cases h4 : y < x
        · simp [h3, h4]; omega
        · simp [h3, h4]; omega
/-- the list in order -/
def sortP (xs : List Int) : List Int := xs.mergeSort leP
theorem sortP_perm (xs : List Int) : (sortP xs).Perm xs := List.mergeSort_perm _ _
theorem sortP_sorted (xs : List Int) : (sortP xs).Pairwise (fun x y => leP x y = true) := by
  exact List.pairwise_mergeSort (fun a b c => leP_trans a b c) (fun a b => leP_tot a b) xs
theorem sorted_uniq : ∀ {xs ys : List Int}, xs.Perm ys → xs.Pairwise (fun x y => leP x y = true) → ys.Pairwise (fun x y => leP x y = true) → xs = ys
  | [], ys, h, _, _ => by rw [h.nil_eq]
  | x :: xs, [], h, _, _ => by have := h.length_eq; simp at this
  | x :: xs, y :: ys, h, h1, h2 => by
    have e : x = y := by
      have hx : x ∈ y :: ys := h.subset (by simp)
      have hy : y ∈ x :: xs := h.symm.subset (by simp)
      rcases List.mem_cons.1 hx with e | hx
      · exact e
      · rcases List.mem_cons.1 hy with e | hy
        · exact e.symm
        · exact leP_anti ((List.pairwise_cons.1 h1).1 y hy) ((List.pairwise_cons.1 h2).1 x hx)
    subst e
    rw [sorted_uniq (List.Perm.cons_inv h) (List.pairwise_cons.1 h1).2 (List.pairwise_cons.1 h2).2]
theorem sortP_eq {xs ys : List Int} (h : ys.Perm xs) (hs : ys.Pairwise (fun x y => leP x y = true)) : ys = sortP xs :=
  sorted_uniq (h.trans (sortP_perm xs).symm) hs (sortP_sorted xs)
theorem sortP_len (xs : List Int) : (sortP xs).length = xs.length := (sortP_perm xs).length_eq
theorem sortP_mem {xs : List Int} {x : Int} : x ∈ sortP xs ↔ x ∈ xs := (sortP_perm xs).mem_iff

set_option maxHeartbeats 1000000 in
theorem l05Base_small (n : Int) (w : World) (h : n < 2) :
    Calls Try.prog 55 #[.int .i64 n] w fun e w' => e = .returned (.int .i64 (baseV n)) ∧ w = w' := by
  have e : baseV n = 0 := by unfold baseV; rw [if_pos h]
  rw [e]
  clear e
  go_enter Try.func55, Try.ntmps55
  go_wp2
  go_ret
  exact ⟨rfl, rfl⟩
set_option maxHeartbeats 1000000 in
theorem l05Base_any (n : Int) (w : World) (h1 : 2 ≤ n) (h2 : n ≤ 1000000) :
    Calls Try.prog 55 #[.int .i64 n] w fun e w' => e = .returned (.int .i64 (baseV n)) ∧ w = w' := by
  have H0 : Hid (facs 1001 n 2 = facL n) := Lib.hid rfl
  go_enter Try.func55, Try.ntmps55
  go_wp2
  go_loop [3] (fun v => ∃ (p : Int) (f : Nat), v = .int .i64 p ∧ 2 ≤ p ∧ (f : Int) + p = 1003 ∧ Hid (facs f n p = facL n)) (fun v => (2000 - intOf v).toNat)
  case atStart => exact ⟨2, 1001, rfl, by omega, by omega, H0⟩
  case round =>
    obtain ⟨p, f, rfl, b3, hf, HF⟩ := hrel
    clear H0
    have b4 : p ≤ 1003 := by omega
    obtain ⟨m1, m2⟩ := mul_bd (x := p) (y := p) (by omega) b4 (by omega) b4
    by_cases hpp : p * p ≤ n
    · have hd1 : decide (p * p ≤ n) = true := decide_eq_true hpp
      obtain ⟨f, rfl⟩ : ∃ g, f = g + 1 := by
        refine ⟨f - 1, ?_⟩
        rcases Nat.eq_zero_or_pos f with h | h
        · subst h
          exfalso
          have : p = 1003 := by omega
          subst this
          omega
        · omega
      by_cases hd : n % p = 0
      · have hdb : (n % p != 0) = false := by simp [hd]
        obtain ⟨q1, q2, q3, q4⟩ := div_facts (show 1 ≤ n by omega) b3 hd
        have hs0 : 0 < (strip p 20 n).2 := by
          have h3 := strip_yes (p := p) hd 19
          rw [h3]
          have := strip_bd b3 19 (n / p) q2
          simp only
          omega
        have HB := Lib.hid (base_pow (by omega) HF.out hpp b3 hs0)
        have hng : ¬ p * p > n := by omega
        clear hd q1 q2 q3 q4 hs0
        go_wp2
        go_loop [0] (fun u => ∃ (m k : Int) (g : Nat), u = .int .i64 m ∧ Hid (Strip p n m k g)) (fun u => (intOf u).toNat)
        case atStart => exact ⟨n, 0, 20, rfl, Lib.hid (Strip.start (by omega) h2)⟩
        case round =>
          obtain ⟨m, k, g, rfl, HS⟩ := hrel
          have s1 := HS.out.n1
          have sl := HS.out.le
          by_cases hd : m % p = 0
          · obtain ⟨q1, q2, q3, q4⟩ := div_facts s1 (show 2 ≤ p by omega) hd
            obtain ⟨g', hg⟩ := HS.out.step (show 2 ≤ p by omega) hd
            have HG := Lib.hid hg
            have hd' : (m % p == 0) = true := beq_iff_eq.2 hd
            clear hd hg q4
            go_wp2
            go_round
            case rel => exact ⟨m / p, k + 1, g', rfl, HG⟩
            case measure => simp [intOf]; omega
          · obtain ⟨f1, f2⟩ := HS.out.fin hd
            have hd' : (m % p == 0) = false := beq_eq_false_iff_ne.2 hd
            have HB2 : Hid (baseV n = if 1 < m then 0 else p) := Lib.hid (by rw [HB.out, ← f1])
            clear hd f1 f2
            by_cases hm : 1 < m
            · have e : baseV n = 0 := by rw [HB2.out, if_pos hm]
              have E := Lib.hid e
              clear e
              go_wp2
              go_ret
              exact ⟨by rw [E.out]; rfl, rfl⟩
            · have e : baseV n = p := by rw [HB2.out, if_neg hm]
              have E := Lib.hid e
              clear e
              go_wp2
              go_ret
              exact ⟨by rw [E.out]; rfl, rfl⟩
      · have hdb : (n % p != 0) = true := by simp [hd]
        have HR : Hid (facs f n (p + 1) = facL n) := Lib.hid (by rw [← HF.out, skip_same hpp hd])
        clear hd
        go_wp2
        go_round
        case rel => exact ⟨p + 1, f, rfl, by omega, by omega, HR⟩
        case measure => simp [intOf]; omega
    · have hd1 : decide (p * p ≤ n) = false := decide_eq_false hpp
      have E := Lib.hid (base_prime (by omega) HF.out (by omega))
      go_wp2
      go_ret
      exact ⟨by rw [E.out]; rfl, rfl⟩
set_option maxHeartbeats 400000 in
theorem l05Before_any (x y : Int) (w : World) (hx : isPP x) (hy : isPP y) :
    Calls Try.prog 83 #[.int .i64 x, .int .i64 y] w fun e w' => e = .returned (.bool (!leP y x)) ∧ w = w' := by
  have bx := base_isPP hx
  have by_ := base_isPP hy
  have h1 := l05Base_any x
  have h2 := l05Base_any y
  rw [bx] at h1
  rw [by_] at h2
  obtain ⟨hx1, hx2, _⟩ := hx
  obtain ⟨hy1, hy2, _⟩ := hy
  have HL : Hid ((!leP y x) = (decide (lpf x < lpf y) || ((lpf x == lpf y) && decide (x < y)))) := Lib.hid (by
    rw [Bool.eq_iff_iff]
    simp only [Bool.not_eq_true', Bool.or_eq_true, Bool.and_eq_true, decide_eq_true_eq, beq_iff_eq]
    rw [← Bool.not_eq_true, leP_iff]
    omega)
  rw [HL.out]
  have H1 := Lib.hid (h1 w hx1 hx2)
  have H2 := Lib.hid (h2 w hy1 hy2)
  clear bx by_ HL h1 h2
  generalize lpf x = p at *
  generalize lpf y = q at *
  go_enter Try.func83, Try.ntmps83
  go_wp2_with fail
  refine H1.out.mono ?_
  rintro e w' ⟨rfl, rfl⟩
  go_wp2_with fail
  refine H2.out.mono ?_
  rintro e w' ⟨rfl, rfl⟩
  clear H1 H2
  go_wp2_with fail
  · rename_i h1 h2
    go_ret
    exact ⟨ret_bool (by simp [h2]), rfl⟩
  · rename_i h1 h2
    go_ret
    exact ⟨ret_bool (by simp [h2]), rfl⟩
  · go_ret
    exact ⟨rfl, rfl⟩
end Go.Proofs.Ytgdialknnjnehaa
