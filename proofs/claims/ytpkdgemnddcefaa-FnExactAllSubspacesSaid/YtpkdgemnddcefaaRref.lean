/- Reduced echelon forms modulo p: two of them that span the same are equal. No program in sight. -/
import Derived.Test.YtpkdgemnddcefaaHeap
import Derived.Test.YtpkdgemnddcefaaArith
set_option linter.unusedVariables false
set_option linter.unusedSimpArgs false
namespace Go.Proofs.Ytpkdgemnddcefaa

/-! ### sums -/
def sm (f : Nat → Int) : Nat → Int
  | 0 => 0
  | n + 1 => sm f n + f n
theorem sm_congr {f g : Nat → Int} : ∀ {n : Nat}, (∀ i, i < n → f i = g i) → sm f n = sm g n
  | 0, _ => rfl
  | n + 1, h => by simp only [sm]; rw [sm_congr (fun i hi => h i (by omega)), h n (by omega)]
theorem sm_zero {f : Nat → Int} {n : Nat} (h : ∀ i, i < n → f i = 0) : sm f n = 0 := by
  induction n with
  | zero => rfl
  | succ n ih => simp only [sm]; rw [ih (fun i hi => h i (by omega)), h n (by omega)]; rfl
theorem sm_add (f g : Nat → Int) : ∀ n : Nat, sm (fun i => f i + g i) n = sm f n + sm g n
  | 0 => rfl
  | n + 1 => by simp only [sm]; rw [sm_add f g n]; omega
theorem sm_mul (c : Int) (f : Nat → Int) : ∀ n : Nat, sm (fun i => c * f i) n = c * sm f n
  | 0 => by simp [sm]
  | n + 1 => by simp only [sm]; rw [sm_mul c f n, Int.mul_add]
theorem sm_single {f : Nat → Int} {k : Nat} : ∀ {n : Nat}, k < n → (∀ i, i < n → i ≠ k → f i = 0) → sm f n = f k
  | 0, h, _ => absurd h (by omega)
  | n + 1, h, hz => by
    simp only [sm]
    by_cases hk : k = n
    · subst hk
      rw [sm_zero (fun i hi => hz i (by omega) (by omega))]; omega
    · rw [sm_single (by omega) (fun i hi hne => hz i (by omega) hne), hz n (by omega) (fun e => hk e.symm)]; omega
theorem sm_dvd {p : Int} {f : Nat → Int} : ∀ {n : Nat}, (∀ i, i < n → p ∣ f i) → p ∣ sm f n
  | 0, _ => ⟨0, by simp [sm]⟩
  | n + 1, h => Int.dvd_add (sm_dvd (fun i hi => h i (by omega))) (h n (by omega))

/-! ### spans modulo p -/
inductive Sp (p : Int) (rows : List (List Int)) : (Nat → Int) → Prop
  | zero : Sp p rows (fun _ => 0)
  | add {f : Nat → Int} {r : List Int} (c : Int) : Sp p rows f → r ∈ rows → Sp p rows (fun j => f j + c * el r j)
  | cong {f g : Nat → Int} : Sp p rows f → (∀ j, p ∣ f j - g j) → Sp p rows g
section
variable {p : Int} {rows rows' : List (List Int)} {f g : Nat → Int}
theorem Sp.eq (h : Sp p rows f) (e : ∀ j, f j = g j) : Sp p rows g := .cong h (fun j => ⟨0, by rw [e j]; omega⟩)
theorem Sp.row {r : List Int} (h : r ∈ rows) : Sp p rows (el r) := (Sp.add 1 .zero h).eq (fun j => by simp)
theorem Sp.addmul (hf : Sp p rows f) (c : Int) (hg : Sp p rows g) : Sp p rows (fun j => f j + c * g j) := by
  induction hg with
  | zero => exact hf.eq (fun j => by simp)
  | add c' _ hr ih => exact (Sp.add (c * c') ih hr).eq (fun j => by grind)
  | cong _ hd ih => exact .cong ih (fun j => by obtain ⟨k, hk⟩ := hd j; exact ⟨c * k, by grind⟩)
theorem Sp.sub (h : ∀ r, r ∈ rows' → Sp p rows (el r)) (hf : Sp p rows' f) : Sp p rows f := by
  induction hf with
  | zero => exact .zero
  | add c _ hr ih => exact ih.addmul c (h _ hr)
  | cong _ hd ih => exact .cong ih hd
theorem Sp.mono (h : ∀ r, r ∈ rows' → r ∈ rows) (hf : Sp p rows' f) : Sp p rows f := hf.sub (fun r hr => .row (h r hr))
/-- a multiple -/
theorem Sp.smul (c : Int) (hg : Sp p rows g) : Sp p rows (fun j => c * g j) := (Sp.addmul .zero c hg).eq (fun j => by simp)
end
/-- two lists of rows span the same -/
def SpEq (p : Int) (A B : List (List Int)) : Prop := (∀ r, r ∈ A → Sp p B (el r)) ∧ ∀ r, r ∈ B → Sp p A (el r)
theorem SpEq.refl (p : Int) (A : List (List Int)) : SpEq p A A := ⟨fun _ h => .row h, fun _ h => .row h⟩
theorem SpEq.symm {p : Int} {A B : List (List Int)} (h : SpEq p A B) : SpEq p B A := ⟨h.2, h.1⟩
theorem SpEq.trans {p : Int} {A B C : List (List Int)} (h : SpEq p A B) (k : SpEq p B C) : SpEq p A C :=
  ⟨fun r hr => (h.1 r hr).sub k.1, fun r hr => (k.2 r hr).sub h.2⟩

/-! ### reduced echelon form -/
structure Rref (p : Int) (n : Nat) (R : List (List Int)) (piv : Nat → Nat) : Prop where
  len : ∀ i, i < R.length → (rw_ R i).length = n
  rng : ∀ i j, i < R.length → j < n → 0 ≤ el (rw_ R i) j ∧ el (rw_ R i) j < p
  pn : ∀ i, i < R.length → piv i < n
  mono : ∀ i k, i < k → k < R.length → piv i < piv k
  lead : ∀ i j, i < R.length → j < piv i → el (rw_ R i) j = 0
  one : ∀ i, i < R.length → el (rw_ R i) (piv i) = 1
  clr : ∀ i k, i < R.length → k < R.length → i ≠ k → el (rw_ R i) (piv k) = 0
section
variable {p : Int} {n : Nat} {R S : List (List Int)} {π σ : Nat → Nat}
theorem Rref.coord (h : Rref p n R π) {f : Nat → Int} (hf : Sp p R f) : ∀ j, p ∣ f j - sm (fun i => f (π i) * el (rw_ R i) j) R.length := by
  induction hf with
  | zero => intro j; rw [sm_zero (fun i _ => by simp)]; exact ⟨0, by simp⟩
  | @add f r c _ hr ih =>
    intro j
    obtain ⟨k, hk, rfl⟩ : ∃ k, k < R.length ∧ rw_ R k = r := by
      obtain ⟨k, hk, e⟩ := List.getElem_of_mem hr
      exact ⟨k, hk, by simp [rw_, hk, e]⟩
    have e1 : sm (fun i => (f (π i) + c * el (rw_ R k) (π i)) * el (rw_ R i) j) R.length = sm (fun i => f (π i) * el (rw_ R i) j) R.length + c * el (rw_ R k) j := by
      rw [sm_congr (g := fun i => f (π i) * el (rw_ R i) j + c * (el (rw_ R k) (π i) * el (rw_ R i) j)) (fun i _ => by grind), sm_add, sm_mul]
      rw [sm_single (f := fun i => el (rw_ R k) (π i) * el (rw_ R i) j) (k := k) hk (fun i hi hne => by rw [h.clr k i hk hi (fun e => hne e.symm)]; simp), h.one k hk]
      simp
    rw [e1]
    have := ih j
    have e2 : f j + c * el (rw_ R k) j - (sm (fun i => f (π i) * el (rw_ R i) j) R.length + c * el (rw_ R k) j) = f j - sm (fun i => f (π i) * el (rw_ R i) j) R.length := by omega
    rw [e2]; exact this
  | @cong f g _ hd ih =>
    intro j
    have h1 : p ∣ sm (fun i => (f (π i) - g (π i)) * el (rw_ R i) j) R.length := sm_dvd (fun i _ => dvdL (hd (π i)) _)
    have e1 : sm (fun i => (f (π i) - g (π i)) * el (rw_ R i) j) R.length = sm (fun i => f (π i) * el (rw_ R i) j) R.length + -1 * sm (fun i => g (π i) * el (rw_ R i) j) R.length := by
      rw [← sm_mul, ← sm_add]
      exact sm_congr (fun i _ => by grind)
    rw [e1] at h1
    have h2 := Int.dvd_add (Int.dvd_sub (ih j) (hd j)) h1
    have e2 : f j - sm (fun i => f (π i) * el (rw_ R i) j) R.length - (f j - g j) + (sm (fun i => f (π i) * el (rw_ R i) j) R.length + -1 * sm (fun i => g (π i) * el (rw_ R i) j) R.length) = g j - sm (fun i => g (π i) * el (rw_ R i) j) R.length := by omega
    rwa [e2] at h2
theorem exists_not_dvd {p : Int} {f : Nat → Int} {n : Nat} (h : ¬ p ∣ sm f n) : ∃ i, i < n ∧ ¬ p ∣ f i :=
  Classical.byContradiction fun hn => h (sm_dvd fun i hi => Classical.byContradiction fun hd => hn ⟨i, hi, hd⟩)
theorem Rref.lead_is (h : Rref p n R π) {f : Nat → Int} (hf : Sp p R f) {l : Nat} (h0 : ∀ j, j < l → p ∣ f j) (h1 : ¬ p ∣ f l) : ∃ k, k < R.length ∧ π k = l := by
  have hc := h.coord hf l
  obtain ⟨i, hi, hd⟩ := exists_not_dvd (f := fun i => f (π i) * el (rw_ R i) l) (fun hs => h1 (by have := Int.dvd_add hc hs; rwa [Int.sub_add_cancel] at this))
  refine ⟨i, hi, Nat.le_antisymm ?_ ?_⟩
  · refine Nat.le_of_not_lt fun hlt => hd ?_
    rw [h.lead i l hi hlt]; exact ⟨0, by simp⟩
  · exact Nat.le_of_not_lt fun hlt => hd (dvdL (h0 _ hlt) _)
theorem not_dvd_one (hp : 2 ≤ p) : ¬ p ∣ 1 := fun h => by have := Int.le_of_dvd (show (0:Int) < 1 by omega) h; omega
theorem mem_rw {R : List (List Int)} {k : Nat} (hk : k < R.length) : rw_ R k ∈ R := rw_mem hk
theorem Rref.piv_in (h : Rref p n R π) (k : Rref p n S σ) (hp : 2 ≤ p) (hs : ∀ r, r ∈ S → Sp p R (el r)) : ∀ i, i < S.length → ∃ m, m < R.length ∧ π m = σ i := fun i hi =>
  h.lead_is (hs _ (mem_rw hi)) (fun j hj => by rw [k.lead i j hi hj]; exact ⟨0, by simp⟩) (by rw [k.one i hi]; exact not_dvd_one hp)
theorem Rref.piv_eq (h : Rref p n R π) (k : Rref p n S σ) (hp : 2 ≤ p) (hs : ∀ r, r ∈ S → Sp p R (el r)) (hr : ∀ r, r ∈ R → Sp p S (el r)) : ∀ i, i < R.length → i < S.length ∧ σ i = π i := by
  intro i
  induction i using Nat.strongRecOn with
  | ind i ih =>
    intro hi
    obtain ⟨m, hm, e⟩ := k.piv_in h hp hr i hi
    have hmi : i ≤ m := by
      refine Nat.le_of_not_lt fun hlt => ?_
      have h1 := (ih m hlt (by omega)).2
      have h2 := h.mono m i hlt hi
      omega
    have hiS : i < S.length := by omega
    refine ⟨hiS, ?_⟩
    obtain ⟨q, hq, e'⟩ := h.piv_in k hp hs i hiS
    have hqi : i ≤ q := by
      refine Nat.le_of_not_lt fun hlt => ?_
      have h1 := (ih q hlt (by omega)).2
      have h2 := k.mono q i hlt hiS
      omega
    have l1 : σ i ≤ σ m := by
      rcases Nat.eq_or_lt_of_le hmi with e1 | e1
      · rw [e1]; exact Nat.le_refl _
      · exact Nat.le_of_lt (k.mono i m e1 hm)
    have l2 : π i ≤ π q := by
      rcases Nat.eq_or_lt_of_le hqi with e1 | e1
      · rw [e1]; exact Nat.le_refl _
      · exact Nat.le_of_lt (h.mono i q e1 hq)
    omega
/-- two reduced echelon forms that span the same are equal -/
theorem Rref.unique (h : Rref p n R π) (k : Rref p n S σ) (hp : 2 ≤ p) (he : SpEq p R S) : R = S := by
  have e1 := h.piv_eq k hp he.2 he.1
  have e2 := k.piv_eq h hp he.1 he.2
  have hl : R.length = S.length := by
    refine Nat.le_antisymm (Nat.le_of_not_lt fun hlt => ?_) (Nat.le_of_not_lt fun hlt => ?_)
    · have := (e1 S.length hlt).1; omega
    · have := (e2 R.length hlt).1; omega
  refine List.ext_getElem hl fun i h1 h2 => ?_
  have r1 : rw_ R i = R[i] := by simp [rw_, h1]
  have r2 : rw_ S i = S[i] := by simp [rw_, h2]
  rw [← r1, ← r2]
  refine list_ext ((h.len i h1).trans (k.len i h2).symm) fun j hj => ?_
  rw [h.len i h1] at hj
  have hc := h.coord (he.2 _ (mem_rw h2)) j
  rw [sm_single (k := i) h1 (fun m hm hne => by rw [← (e1 m hm).2, k.clr i m h2 (by omega) (fun e => hne e.symm)]; simp), ← (e1 i h1).2, k.one i h2] at hc
  have b1 := h.rng i j h1 hj
  have b2 := k.rng i j h2 hj
  rw [Int.one_mul] at hc
  exact (eq_of_dvd_sub b2.1 b2.2 b1.1 b1.2 hc).symm
end
end Go.Proofs.Ytpkdgemnddcefaa
