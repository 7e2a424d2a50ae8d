/- Primary parts, in plain words; the reference's test of prime powers. -/
import Derived.Test.YtkidohohiihbaaaPpCmp
set_option linter.unusedVariables false
set_option linter.unusedSimpArgs false
namespace Go.Proofs.Ytkidohohiihbaaa
open Go.RowKit

/-- the prime of a prime power, 0 for other numbers -/
def baseV (n : Int) : Int := if n < 2 then 0 else if (primesOf n).length = 1 then lpf n else 0
theorem primes_eq (n : Int) : primesOf n = (facL n).map Prod.fst := rfl
theorem facs_ne : ∀ (f : Nat) (n p : Int), 1 < n → facs f n p ≠ []
  | 0, n, p, h => by unfold facs; rw [if_pos h]; simp
  | f + 1, n, p, h => by
    unfold facs
    by_cases hp : p * p ≤ n
    · rw [if_pos hp]
      by_cases hs : 0 < (strip p 20 n).2
      · rw [if_pos hs]; simp
      · rw [if_neg hs]
        have : (strip p 20 n).1 = n := by
          have h2 := strip_no (p := p) (n := n)
          by_cases hd : n % p = 0
          · exfalso
            have h3 := strip_yes (p := p) hd 19
            rw [h3] at hs
            simp only at hs
            have : ∀ (g : Nat) (m : Int), 0 ≤ (strip p g m).2 := by
              intro g
              induction g with
              | zero => intro m; simp [strip]
              | succ g ih => intro m; unfold strip; split; have := ih (m / p); simp only; omega; simp
            have := this 19 (n / p)
            omega
          · rw [h2 hd]
        rw [this]
        simpa using facs_ne f n (p + 1) h
    · rw [if_neg hp, if_pos h]; simp
/-- when no candidate below p divides and p * p is beyond n -/
theorem base_prime {f : Nat} {n p : Int} (h1 : 1 < n) (he : facs f n p = facL n) (hp : n < p * p) : baseV n = n := by
  rw [facs_end hp, if_pos h1] at he
  unfold baseV lpf
  rw [if_neg (by omega), primes_eq, ← he]
  simp [el]
theorem base_pow {f : Nat} {n p : Int} (h1 : 1 < n) (he : facs (f + 1) n p = facL n) (hp : p * p ≤ n) (h2 : 2 ≤ p) (hs : 0 < (strip p 20 n).2) : baseV n = if 1 < (strip p 20 n).1 then 0 else p := by
  rw [facs_go hp, if_pos hs] at he
  have hb := strip_bd h2 20 n (by omega)
  unfold baseV lpf
  rw [if_neg (by omega), primes_eq, ← he]
  by_cases h3 : 1 < (strip p 20 n).1
  · rw [if_pos h3]
    have := facs_ne f _ (p + 1) h3
    have h4 : (facs f (strip p 20 n).1 (p + 1)).length ≠ 0 := fun e => this (List.eq_nil_of_length_eq_zero e)
    rw [if_neg (by simp; exact this)]
  · rw [if_neg h3]
    have h5 : (strip p 20 n).1 < (p + 1) * (p + 1) := by
      have := (mul_bd (x := 2) (y := 2) (A := p + 1) (B := p + 1) (by omega) (by omega) (by omega) (by omega)).2
      omega
    rw [facs_end h5, if_neg h3]
    simp [el]
theorem skip_same {f : Nat} {n p : Int} (hp : p * p ≤ n) (hd : n % p ≠ 0) : facs (f + 1) n p = facs f n (p + 1) := by
  rw [facs_go hp, strip_no hd]
  simp
/-- the prime powers of one number -/
def partsOf (f : Int) : List Int := (facL f).map fun x => x.1 ^ x.2.toNat
/-- the prime powers of all numbers of a list -/
def partsL (xs : List Int) : List Int := xs.flatMap partsOf
theorem partsL_snoc (xs : List Int) (f : Int) : partsL (xs ++ [f]) = partsL xs ++ partsOf f := by simp [partsL]
theorem partsL_take {xs : List Int} {j : Nat} (h : j < xs.length) : partsL (xs.take (j + 1)) = partsL (xs.take j) ++ partsOf (el xs j) := by rw [take_el h, partsL_snoc]
/-- a prime power, within the limits -/
def isPP (q : Int) : Prop := 2 ≤ q ∧ q ≤ 1000000 ∧ (primesOf q).length = 1
theorem base_isPP {q : Int} (h : isPP q) : baseV q = lpf q := by
  unfold baseV; rw [if_neg (by have := h.1; omega), if_pos h.2.2]
/-- a power of a prime has this prime alone -/
theorem primes_pow {p : Int} (hp : Prm p) {e : Nat} (he : 1 ≤ e) (hq : p ^ e ≤ 1000000) : primesOf (p ^ e) = [p] := by
  have h2 : 2 ≤ p ^ e := by
    obtain ⟨k, rfl⟩ : ∃ k, e = k + 1 := ⟨e - 1, by omega⟩
    have h1 := pow_pos' (show 1 ≤ p by have := hp.1; omega) k
    rw [Int.pow_succ]
    have := Int.mul_le_mul h1 hp.1 (by omega) (by omega)
    omega
  obtain ⟨s1, s2⟩ := facL_spec (show 1 ≤ p ^ e by omega) hq
  have hall : ∀ x ∈ facL (p ^ e), x.1 = p := by
    intro x hx
    obtain ⟨hx1, hx2, hx3⟩ := s2.ent x hx
    have hd : x.1 ∣ p ^ e := by
      rw [← s1]
      obtain ⟨A, B, hAB⟩ := List.append_of_mem hx
      rw [hAB, prodL_app]
      refine Int.dvd_trans ?_ (Int.dvd_mul_left _ _)
      show x.1 ∣ x.1 ^ x.2.toNat * prodL B
      obtain ⟨k, hk⟩ : ∃ k, x.2.toNat = k + 1 := ⟨x.2.toNat - 1, by omega⟩
      rw [hk, Int.pow_succ]
      exact Int.dvd_trans (Int.dvd_mul_left _ _) (Int.dvd_mul_right _ _)
    exact hx2.eq hp (hx2.pow e hd)
  rw [primes_eq]
  rcases hL : facL (p ^ e) with _ | ⟨a, L⟩
  · rw [hL] at s1; simp [prodL] at s1; omega
  · rcases L with _ | ⟨b, M⟩
    · rw [hL] at hall; simp; exact hall a (by simp)
    · exfalso
      have h3 := s2.inc
      rw [hL] at h3 hall
      have h4 := (List.pairwise_cons.1 h3).1 b (by simp)
      have h5 := hall a (by simp)
      have h6 := hall b (by simp)
      omega
theorem pow_le_prod {A B : List (Int × Int)} {x : Int × Int} {p : Int} (h : ∀ y ∈ A ++ x :: B, p ≤ y.1 ∧ Prm y.1 ∧ 1 ≤ y.2) : x.1 ^ x.2.toNat ≤ prodL (A ++ x :: B) := by
  have h1 := prodL_pos (p := p) A (fun y hy => h y (List.mem_append_left _ hy))
  have h2 := prodL_pos (p := p) B (fun y hy => h y (List.mem_append_right _ (List.mem_cons_of_mem _ hy)))
  have h3 := pow_pos' (show 1 ≤ x.1 by have := (h x (by simp)).2.1.1; omega) x.2.toNat
  rw [prodL_app]
  show _ ≤ prodL A * (x.1 ^ x.2.toNat * prodL B)
  have h4 := Int.mul_le_mul_of_nonneg_left h2 (show 0 ≤ x.1 ^ x.2.toNat by omega)
  have h5 := Int.mul_le_mul_of_nonneg_right h1 (show 0 ≤ x.1 ^ x.2.toNat * prodL B by omega)
  omega
theorem ent_isPP {n : Int} (h1 : 1 ≤ n) (h2 : n ≤ 1000000) {x : Int × Int} (hx : x ∈ facL n) : isPP (x.1 ^ x.2.toNat) ∧ lpf (x.1 ^ x.2.toNat) = x.1 := by
  obtain ⟨s1, s2⟩ := facL_spec h1 h2
  obtain ⟨e1, e2, e3⟩ := s2.ent x hx
  have hle : x.1 ^ x.2.toNat ≤ 1000000 := by
    obtain ⟨A, B, hAB⟩ := List.append_of_mem hx
    have := pow_le_prod (A := A) (B := B) (x := x) (p := 2) (by rw [← hAB]; exact s2.ent)
    rw [← hAB, s1] at this
    omega
  have hp := primes_pow e2 (show 1 ≤ x.2.toNat by omega) hle
  have h3 : 2 ≤ x.1 ^ x.2.toNat := by
    obtain ⟨k, hk⟩ : ∃ k, x.2.toNat = k + 1 := ⟨x.2.toNat - 1, by omega⟩
    have h6 := pow_pos' (show 1 ≤ x.1 by have := e2.1; omega) k
    rw [hk, Int.pow_succ]
    have := Int.mul_le_mul h6 e2.1 (by omega) (by omega)
    omega
  exact ⟨⟨h3, hle, by rw [hp]; rfl⟩, by unfold lpf; rw [hp]; rfl⟩
theorem partsOf_PP {n : Int} (h1 : 1 ≤ n) (h2 : n ≤ 1000000) : ∀ q ∈ partsOf n, isPP q := by
  intro q hq
  obtain ⟨x, hx, rfl⟩ := List.mem_map.1 hq
  exact (ent_isPP h1 h2 hx).1
theorem partsL_PP {xs : List Int} (h : ∀ x ∈ xs, 1 ≤ x ∧ x ≤ 1000000) : ∀ q ∈ partsL xs, isPP q := by
  intro q hq
  obtain ⟨x, hx, hq⟩ := List.mem_flatMap.1 hq
  exact partsOf_PP (h x hx).1 (h x hx).2 q hq
theorem partsOf_len (n : Int) : (partsOf n).length ≤ 1002 := by unfold partsOf; rw [List.length_map]; exact facs_len _ _ _
theorem partsL_len : ∀ xs : List Int, (partsL xs).length ≤ 1002 * xs.length
  | [] => by simp [partsL]
  | x :: xs => by
    have h1 := partsL_len xs
    have h2 := partsOf_len x
    have : partsL (x :: xs) = partsOf x ++ partsL xs := by simp [partsL]
    rw [this, List.length_append, List.length_cons]
    omega
/-- ordered by primes, then by size -/
def leP (x y : Int) : Bool := decide (lpf x < lpf y ∨ (lpf x = lpf y ∧ x ≤ y))
theorem leP_iff {x y : Int} : leP x y = true ↔ (lpf x < lpf y ∨ (lpf x = lpf y ∧ x ≤ y)) := by unfold leP; simp
theorem leP_tot (x y : Int) : (leP x y || leP y x) = true := by
  rw [Bool.or_eq_true, leP_iff, leP_iff]; omega
theorem leP_trans (x y z : Int) (h1 : leP x y = true) (h2 : leP y z = true) : leP x z = true := by
  rw [leP_iff] at *; omega
theorem leP_anti {x y : Int} (h1 : leP x y = true) (h2 : leP y x = true) : x = y := by
  rw [leP_iff] at *; omega
theorem ordP_lt {x y : Int} : ordP x y < 0 ↔ ¬ leP y x = true := by
  rw [leP_iff]
  unfold ordP cmpI
  by_cases h1 : lpf x < lpf y
  · rw [if_pos h1]; simp; omega
  · rw [if_neg h1]
    by_cases h2 : lpf y < lpf x
    · rw [if_pos h2]; simp; omega
    · rw [if_neg h2]
      by_cases h3 : x < y
      · simp [h3]; omega
      · by_cases h4 : y < x
        · simp [h3, h4]; omega
        · simp [h3, h4]; omega
/-- the list in order -/
def sortP (xs : List Int) : List Int := xs.mergeSort leP
theorem sortP_perm (xs : List Int) : (sortP xs).Perm xs := List.mergeSort_perm _ _
theorem sortP_sorted (xs : List Int) : (sortP xs).Pairwise (fun x y => leP x y = true) := by
  exact List.pairwise_mergeSort (fun a b c => leP_trans a b c) (fun a b => leP_tot a b) xs
theorem sorted_uniq : ∀ {xs ys : List Int}, xs.Perm ys → xs.Pairwise (fun x y => leP x y = true) → ys.Pairwise (fun x y => leP x y = true) → xs = ys
  | [], ys, h, _, _ => by rw [h.nil_eq]
  | x :: xs, [], h, _, _ => by have := h.length_eq; simp at this
  | x :: xs, y :: ys, h, h1, h2 => by
    have e : x = y := by
      have hx : x ∈ y :: ys := h.subset (by simp)
      have hy : y ∈ x :: xs := h.symm.subset (by simp)
      rcases List.mem_cons.1 hx with e | hx
      · exact e
      · rcases List.mem_cons.1 hy with e | hy
        · exact e.symm
        · exact leP_anti ((List.pairwise_cons.1 h1).1 y hy) ((List.pairwise_cons.1 h2).1 x hx)
    subst e
    rw [sorted_uniq (List.Perm.cons_inv h) (List.pairwise_cons.1 h1).2 (List.pairwise_cons.1 h2).2]
theorem sortP_eq {xs ys : List Int} (h : ys.Perm xs) (hs : ys.Pairwise (fun x y => leP x y = true)) : ys = sortP xs :=
  sorted_uniq (h.trans (sortP_perm xs).symm) hs (sortP_sorted xs)
theorem sortP_len (xs : List Int) : (sortP xs).length = xs.length := (sortP_perm xs).length_eq
theorem sortP_mem {xs : List Int} {x : Int} : x ∈ sortP xs ↔ x ∈ xs := (sortP_perm xs).mem_iff

end Go.Proofs.Ytkidohohiihbaaa
