/- What the list of prime powers is: the primes ascend, they are prime, and the powers multiply to the number. No program in sight. -/
import Derived.Test.YtkidohohiihbaaaFac
import Derived.Test.YtkidohohiihbaaaNumB
set_option linter.unusedVariables false
set_option linter.unusedSimpArgs false
namespace Go.Proofs.Ytkidohohiihbaaa

def Prm (q : Int) : Prop := 2 ≤ q ∧ ∀ d : Int, 2 ≤ d → d < q → ¬ d ∣ q
theorem Prm.gcd {q a : Int} (h : Prm q) (ha : ¬ q ∣ a) : Int.gcd q a = 1 := by
  have h1 : (Int.gcd q a : Int) ∣ q := Int.gcd_dvd_left _ _
  have h2 : (Int.gcd q a : Int) ∣ a := Int.gcd_dvd_right _ _
  have h3 := Int.le_of_dvd (show 0 < q by have := h.1; omega) h1
  have h5 : (Int.gcd q a : Int) ≠ 0 := fun e => by rw [e] at h1; have := Int.zero_dvd.1 h1; have := h.1; omega
  rcases Nat.lt_or_ge (Int.gcd q a) 2 with h4 | h4
  · omega
  · by_cases he : (Int.gcd q a : Int) = q
    · rw [he] at h2; exact absurd h2 ha
    · exact absurd h1 (h.2 _ (by omega) (by omega))
theorem Prm.mul {q a b : Int} (h : Prm q) (hd : q ∣ a * b) : q ∣ a ∨ q ∣ b := by
  by_cases ha : q ∣ a
  · exact .inl ha
  · refine .inr ?_
    have hg := h.gcd ha
    have h1 : q.natAbs ∣ a.natAbs * b.natAbs := by rw [← Int.natAbs_mul]; exact Int.natAbs_dvd_natAbs.2 hd
    have h2 : Nat.Coprime q.natAbs a.natAbs := hg
    exact Int.natAbs_dvd_natAbs.1 (h2.dvd_of_dvd_mul_left h1)
theorem Prm.pow {q a : Int} (h : Prm q) : ∀ k : Nat, q ∣ a ^ k → q ∣ a
  | 0, hd => by
    rw [Int.pow_zero] at hd
    have := Int.le_of_dvd (by omega) hd
    have := h.1
    omega
  | k + 1, hd => by
    rw [Int.pow_succ] at hd
    rcases h.mul hd with h1 | h1
    · exact h.pow k h1
    · exact h1
/-- one prime divides another only if it is the same -/
theorem Prm.eq {q r : Int} (h : Prm q) (k : Prm r) (hd : q ∣ r) : q = r := by
  have h1 := Int.le_of_dvd (by have := k.1; omega) hd
  rcases Int.lt_or_le q r with h2 | h2
  · exact absurd hd (k.2 q h.1 h2)
  · omega
theorem pow_pos' {p : Int} (h : 1 ≤ p) : ∀ k : Nat, 1 ≤ p ^ k
  | 0 => by simp
  | k + 1 => by
    rw [Int.pow_succ]
    have := Int.mul_le_mul (pow_pos' h k) h (by omega) (by have := pow_pos' h k; omega)
    omega
/-- taking p out -/
theorem strip_spec {p : Int} (hp : 2 ≤ p) : ∀ (f : Nat) (n : Int), 1 ≤ n → n < 2 ^ f → n = (strip p f n).1 * p ^ (strip p f n).2.toNat ∧ (strip p f n).1 % p ≠ 0
  | 0, n, h1, h2 => by simp at h2; omega
  | f + 1, n, h1, h2 => by
    by_cases hd : n % p = 0
    · obtain ⟨d1, d2, d3, d4⟩ := div_facts h1 hp hd
      rw [strip_yes hd]
      have hlt : n / p < 2 ^ f := by
        have h3 : 2 * (n / p) ≤ p * (n / p) := Int.mul_le_mul_of_nonneg_right hp (by omega)
        have h4 : (2 : Int) ^ (f + 1) = 2 ^ f * 2 := Int.pow_succ _ _
        omega
      obtain ⟨k1, k2⟩ := strip_spec hp f (n / p) d2 hlt
      obtain ⟨_, _, k3, _⟩ := strip_bd hp f (n / p) d2
      refine ⟨?_, k2⟩
      simp only
      rw [show ((strip p f (n / p)).2 + 1).toNat = (strip p f (n / p)).2.toNat + 1 by omega, Int.pow_succ, ← Int.mul_assoc, ← k1, Int.mul_comm]
      exact d4.symm
    · rw [strip_no hd]
      exact ⟨by simp, hd⟩
def prodL : List (Int × Int) → Int
  | [] => 1
  | x :: L => x.1 ^ x.2.toNat * prodL L
theorem prodL_app : ∀ (A B : List (Int × Int)), prodL (A ++ B) = prodL A * prodL B
  | [], B => by simp [prodL]
  | x :: A, B => by simp only [List.cons_append, prodL, prodL_app A B, Int.mul_assoc]
/-- a list of prime powers -/
structure FL (p : Int) (L : List (Int × Int)) : Prop where
  ent : ∀ x ∈ L, p ≤ x.1 ∧ Prm x.1 ∧ 1 ≤ x.2
  inc : L.Pairwise fun x y => x.1 < y.1
theorem FL.nil (p : Int) : FL p [] := ⟨by simp, List.Pairwise.nil⟩
theorem prm_end {n p : Int} (h1 : 1 < n) (hlt : n < p * p) (hp : 2 ≤ p) (hno : ∀ d : Int, 2 ≤ d → d < p → ¬ d ∣ n) : p ≤ n ∧ Prm n := by
  have hpn : p ≤ n := by
    rcases Int.lt_or_le n p with h | h
    · exact absurd (Int.dvd_refl n) (hno n (by omega) h)
    · exact h
  refine ⟨hpn, by omega, fun d hd hdn hdv => ?_⟩
  obtain ⟨k, hk⟩ := hdv
  have hdp : p ≤ d := by
    rcases Int.lt_or_le d p with h | h
    · exact absurd ⟨k, hk⟩ (hno d hd h)
    · exact h
  have hk0 : 0 < k := by
    rcases Int.lt_or_le 0 k with h | h
    · exact h
    · have := Int.mul_le_mul_of_nonneg_left h (show 0 ≤ d by omega)
      rw [Int.mul_zero] at this
      omega
  have hk1 : k ≠ 1 := fun e => by rw [e, Int.mul_one] at hk; omega
  have hkp : k < p := by
    rcases Int.lt_or_le k p with h | h
    · exact h
    · have := Int.mul_le_mul hdp h (by omega) (by omega)
      omega
  exact hno k (by omega) hkp ⟨d, by rw [hk, Int.mul_comm]⟩
theorem facs_spec : ∀ (f : Nat) (n p : Int), 1 ≤ n → n ≤ 1000000 → 2 ≤ p → 1003 ≤ p + f → (∀ d : Int, 2 ≤ d → d < p → ¬ d ∣ n) → prodL (facs f n p) = n ∧ FL p (facs f n p)
  | f, n, p, h1, h2, hp, hf, hno => by
    by_cases hlt : n < p * p
    · rw [facs_end hlt]
      by_cases hn : 1 < n
      · rw [if_pos hn]
        obtain ⟨k1, k2⟩ := prm_end hn hlt hp hno
        refine ⟨by simp [prodL, Int.pow_succ], ⟨fun x hx => ?_, List.pairwise_singleton _ _⟩⟩
        simp at hx
        subst hx
        exact ⟨k1, k2, by simp⟩
      · rw [if_neg hn]
        exact ⟨by simp [prodL]; omega, FL.nil _⟩
    · have hge : p * p ≤ n := by omega
      match f, hf with
      | 0, hf =>
        have : 1003 * 1003 ≤ p * p := Int.mul_le_mul (by omega) (by omega) (by omega) (by omega)
        omega
      | f + 1, hf =>
        rw [facs_go hge]
        obtain ⟨s1, s2⟩ := strip_spec hp 20 n h1 (by omega)
        obtain ⟨b1, b2, b3, b4⟩ := strip_bd hp 20 n h1
        have hdv : (strip p 20 n).1 ∣ n := ⟨_, s1⟩
        have hno2 : ∀ d : Int, 2 ≤ d → d < p + 1 → ¬ d ∣ (strip p 20 n).1 := fun d hd hdp hdd => by
          by_cases he : d = p
          · subst he
            exact s2 (Int.emod_eq_zero_of_dvd hdd)
          · exact hno d hd (by omega) (Int.dvd_trans hdd hdv)
        obtain ⟨k1, k2⟩ := facs_spec f (strip p 20 n).1 (p + 1) b1 (by omega) (by omega) (by omega) hno2
        by_cases he : 0 < (strip p 20 n).2
        · rw [if_pos he]
          have hpn : p ∣ n := by
            rcases strip_zero (p := p) (n := n) (f := 19) with h | h
            · rw [h] at he; omega
            · exact Int.dvd_of_emod_eq_zero h
          have hpp : Prm p := ⟨hp, fun d hd hdp hdd => hno d hd hdp (Int.dvd_trans hdd hpn)⟩
          refine ⟨?_, ⟨fun x hx => ?_, ?_⟩⟩
          · rw [List.singleton_append]
            simp only [prodL]
            rw [k1, Int.mul_comm]
            exact s1.symm
          · rw [List.singleton_append, List.mem_cons] at hx
            rcases hx with rfl | hx
            · exact ⟨Int.le_refl _, hpp, he⟩
            · have := k2.ent x hx
              exact ⟨by omega, this.2⟩
          · rw [List.singleton_append, List.pairwise_cons]
            exact ⟨fun y hy => by have := (k2.ent y hy).1; simp only; omega, k2.inc⟩
        · rw [if_neg he, List.nil_append]
          have e0 : (strip p 20 n).2.toNat = 0 := by omega
          refine ⟨?_, ⟨fun x hx => ?_, k2.inc⟩⟩
          · rw [k1]
            rw [e0, Int.pow_zero, Int.mul_one] at s1
            exact s1.symm
          · have := k2.ent x hx
            exact ⟨by omega, this.2⟩
termination_by f => f
def facL (n : Int) : List (Int × Int) := facs 1001 n 2
theorem facL_spec {n : Int} (h1 : 1 ≤ n) (h2 : n ≤ 1000000) : prodL (facL n) = n ∧ FL 2 (facL n) := facs_spec 1001 n 2 h1 h2 (by omega) (by omega) (fun d h3 h4 => by omega)
/-- the part of g: the last power of g in the list -/
def partOf (L : List (Int × Int)) (g : Int) : Int := L.foldl (fun v x => if g = x.1 then x.1 ^ x.2.toNat else v) 1
theorem partOf_snoc (L : List (Int × Int)) (x : Int × Int) (g : Int) : partOf (L ++ [x]) g = if g = x.1 then x.1 ^ x.2.toNat else partOf L g := by simp [partOf]
theorem fold_no {g : Int} : ∀ (L : List (Int × Int)) (v : Int), (∀ x ∈ L, x.1 ≠ g) → L.foldl (fun v x => if g = x.1 then x.1 ^ x.2.toNat else v) v = v
  | [], v, _ => rfl
  | x :: L, v, h => by
    simp only [List.foldl_cons]
    rw [if_neg (fun e => h x List.mem_cons_self e.symm)]
    exact fold_no L v (fun y hy => h y (List.mem_cons_of_mem _ hy))
theorem ppart_of {g : Int} (hg : 2 ≤ g) : ∀ (k f : Nat) (r : Int), k ≤ f → r % g ≠ 0 → ppart g f (g ^ k * r) = g ^ k
  | 0, f, r, _, hr => by rw [Int.pow_zero, Int.one_mul]; exact ppart_no hr f
  | k + 1, 0, r, h, _ => by omega
  | k + 1, f + 1, r, h, hr => by
    have e : g ^ (k + 1) * r = g * (g ^ k * r) := by rw [Int.pow_succ, Int.mul_comm (g ^ k) g, Int.mul_assoc]
    rw [e, ppart_yes (Int.mul_emod_right _ _), Int.mul_ediv_cancel_left _ (by omega), ppart_of hg k f r (by omega) hr, Int.pow_succ, Int.mul_comm]
theorem prm_prod {g : Int} (hg : Prm g) : ∀ (L : List (Int × Int)), (∀ x ∈ L, Prm x.1 ∧ x.1 ≠ g) → ¬ g ∣ prodL L
  | [], _ => fun hd => by
    have := Int.le_of_dvd (show (0 : Int) < 1 by omega) hd
    have := hg.1
    omega
  | x :: L, h => fun hd => by
    simp only [prodL] at hd
    rcases hg.mul hd with h1 | h1
    · have := hg.eq (h x List.mem_cons_self).1 (hg.pow _ h1)
      exact (h x List.mem_cons_self).2 this.symm
    · exact prm_prod hg L (fun y hy => h y (List.mem_cons_of_mem _ hy)) h1
theorem prodL_pos {p : Int} : ∀ (L : List (Int × Int)), (∀ x ∈ L, p ≤ x.1 ∧ Prm x.1 ∧ 1 ≤ x.2) → 1 ≤ prodL L
  | [], _ => by simp [prodL]
  | x :: L, h => by
    have h1 := pow_pos' (show 1 ≤ x.1 by have := (h x List.mem_cons_self).2.1.1; omega) x.2.toNat
    have h2 := prodL_pos L (fun y hy => h y (List.mem_cons_of_mem _ hy))
    simp only [prodL]
    have := Int.mul_le_mul h1 h2 (by omega) (by omega)
    omega
theorem pow_lt_two {g : Int} (hg : 2 ≤ g) : ∀ k : Nat, (2 : Int) ^ k ≤ g ^ k
  | 0 => by simp
  | k + 1 => by
    rw [Int.pow_succ, Int.pow_succ]
    exact Int.mul_le_mul (pow_lt_two hg k) hg (by omega) (by have := pow_pos' (show 1 ≤ g by omega) k; omega)
theorem exp_bd {g : Int} {k : Nat} (hg : 2 ≤ g) (h : g ^ k ≤ 1000000) : k ≤ 20 := by
  rcases Nat.lt_or_ge 20 k with h1 | h1
  · have h2 := pow_lt_two hg k
    have h3 : (2 : Nat) ^ 20 ≤ 2 ^ k := Nat.pow_le_pow_right (by omega) (by omega)
    have h4 : ((2 ^ k : Nat) : Int) = (2 : Int) ^ k := by simp
    omega
  · exact h1
theorem part_ppart {n g : Int} (h1 : 1 ≤ n) (h2 : n ≤ 1000000) (hg : Prm g) : partOf (facL n) g = ppart g 20 n := by
  obtain ⟨s1, s2⟩ := facL_spec h1 h2
  by_cases hm : ∃ e, (g, e) ∈ facL n
  · obtain ⟨e, he⟩ := hm
    obtain ⟨A, B, hAB⟩ := List.append_of_mem he
    have hinc := s2.inc
    have hent := s2.ent
    rw [hAB] at s1 hinc hent
    rw [List.pairwise_append] at hinc
    obtain ⟨i1, i2, i3⟩ := hinc
    rw [List.pairwise_cons] at i2
    have hA : ∀ x ∈ A, Prm x.1 ∧ x.1 ≠ g := fun x hx => ⟨(hent x (List.mem_append_left _ hx)).2.1, by have := i3 x hx (g, e) List.mem_cons_self; simp only at this; omega⟩
    have hB : ∀ x ∈ B, Prm x.1 ∧ x.1 ≠ g := fun x hx => ⟨(hent x (List.mem_append_right _ (List.mem_cons_of_mem _ hx))).2.1, by have := i2.1 x hx; simp only at this; omega⟩
    have h3 : partOf (facL n) g = g ^ e.toNat := by
      unfold partOf
      rw [hAB, List.foldl_append, List.foldl_cons, fold_no B _ (fun x hx => (hB x hx).2)]
      simp
    have h4 : n = g ^ e.toNat * (prodL A * prodL B) := by
      rw [← s1, prodL_app]
      simp only [prodL]
      rw [← Int.mul_assoc, ← Int.mul_assoc, Int.mul_comm (prodL A)]
    have hr : ¬ g ∣ prodL A * prodL B := fun hd => by
      rcases hg.mul hd with h | h
      · exact prm_prod hg A hA h
      · exact prm_prod hg B hB h
    have hA1 := prodL_pos A (p := 2) (fun x hx => hent x (List.mem_append_left _ hx))
    have hB1 := prodL_pos B (p := 2) (fun x hx => hent x (List.mem_append_right _ (List.mem_cons_of_mem _ hx)))
    have hAB1 : 1 ≤ prodL A * prodL B := by have := Int.mul_le_mul hA1 hB1 (by omega) (by omega); omega
    have hg1 := pow_pos' (show 1 ≤ g by have := hg.1; omega) e.toNat
    have hle : g ^ e.toNat ≤ 1000000 := by
      have := Int.mul_le_mul_of_nonneg_left hAB1 (show 0 ≤ g ^ e.toNat by omega)
      omega
    rw [h3]
    rw [h4, ppart_of hg.1 e.toNat 20 _ (exp_bd hg.1 hle) (fun h => hr (Int.dvd_of_emod_eq_zero h))]
  · have hno : ∀ x ∈ facL n, Prm x.1 ∧ x.1 ≠ g := fun x hx => ⟨(s2.ent x hx).2.1, fun e => hm ⟨x.2, by rw [← e]; exact hx⟩⟩
    have h3 : partOf (facL n) g = 1 := fold_no _ _ (fun x hx => (hno x hx).2)
    have h4 : ¬ g ∣ n := by rw [← s1]; exact prm_prod hg _ hno
    rw [h3, ppart_no (fun h => h4 (Int.dvd_of_emod_eq_zero h))]
theorem GP.prm {g : Int} (h : GP g) : Prm g := by
  have hb := h.bd
  refine ⟨hb.1, fun d hd hdg hdv => ?_⟩
  have := Int.emod_eq_zero_of_dvd hdv
  unfold GP at h
  rcases h with h | h | h | h
  · subst h; omega
  · subst h
    obtain rfl : d = 2 := by omega
    omega
  · subst h
    rcases (show d = 2 ∨ d = 3 ∨ d = 4 by omega) with h | h | h <;> subst h <;> omega
  · subst h
    rcases (show d = 2 ∨ d = 3 ∨ d = 4 ∨ d = 5 ∨ d = 6 by omega) with h | h | h | h | h <;> subst h <;> omega
end Go.Proofs.Ytkidohohiihbaaa
