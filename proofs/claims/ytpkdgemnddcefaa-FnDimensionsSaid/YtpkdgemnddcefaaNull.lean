/- The rows of a reduced form whose first entries are 0, cut. No program in sight. -/
import Derived.Test.YtpkdgemnddcefaaWide
import Derived.Test.YtpkdgemnddcefaaZero
set_option linter.unusedVariables false
set_option linter.unusedSimpArgs false
namespace Go.Proofs.Ytpkdgemnddcefaa
open Go.RowKit

/-- the rows whose first m entries are 0, without these -/
def cutL (m : Nat) (W : List (List Int)) : List (List Int) := (W.filter fun r => zeroB (r.take m)).map (List.drop m)
theorem cutL_nil (m : Nat) : cutL m [] = [] := rfl
theorem cutL_yes {m j : Nat} {W : List (List Int)} (hj : j < W.length) (h : zeroB ((rw_ W j).take m) = true) : cutL m (W.take (j + 1)) = cutL m (W.take j) ++ [(rw_ W j).drop m] := by
  rw [take_row2 hj]
  unfold cutL
  rw [List.filter_append, List.map_append]
  congr 1
  simp [h]
theorem cutL_no {m j : Nat} {W : List (List Int)} (hj : j < W.length) (h : zeroB ((rw_ W j).take m) = false) : cutL m (W.take (j + 1)) = cutL m (W.take j) := by
  rw [take_row2 hj]
  unfold cutL
  rw [List.filter_append, List.map_append]
  simp [h]
theorem cutL_le (m : Nat) (W : List (List Int)) : (cutL m W).length ≤ W.length := by
  unfold cutL
  rw [List.length_map]; exact List.length_filter_le _ _
theorem el_take {xs : List Int} {m j : Nat} (h : j < m) : el (xs.take m) j = el xs j := by simp [el, List.getElem?_take, h]
theorem el_drop (xs : List Int) (m j : Nat) : el (xs.drop m) j = el xs (m + j) := by simp [el]
theorem zero_of {p : Int} {n m i : Nat} {W : List (List Int)} {piv : Nat → Nat} (h : Rref p n W piv) (hi : i < W.length) (hm : m ≤ n) : zeroB ((rw_ W i).take m) = decide (m ≤ piv i) := by
  have hl := h.len i hi
  by_cases hp : m ≤ piv i
  · rw [decide_eq_true hp]
    refine zeroB_t fun j hj => ?_
    rw [List.length_take] at hj
    rw [el_take (by omega)]
    exact h.lead i j hi (by omega)
  · rw [decide_eq_false hp]
    refine zeroB_f fun hz => ?_
    have h1 := h.one i hi
    have := hz (piv i) (by rw [List.length_take]; omega)
    rw [el_take (by omega), h1] at this
    omega
/-- where the pivots reach m -/
theorem Rref.reach {p : Int} {n : Nat} {R : List (List Int)} {piv : Nat → Nat} (h : Rref p n R piv) (m : Nat) : ∃ s, s ≤ R.length ∧ (∀ i, i < s → piv i < m) ∧ ∀ i, s ≤ i → i < R.length → m ≤ piv i := by
  have key : ∀ k, k ≤ R.length → ∃ s, s ≤ k ∧ (∀ i, i < s → piv i < m) ∧ ∀ i, s ≤ i → i < k → m ≤ piv i := by
    intro k
    induction k with
    | zero => intro _; exact ⟨0, Nat.le_refl _, fun i hi => absurd hi (by omega), fun i _ hi => absurd hi (by omega)⟩
    | succ k ih =>
      intro hk
      obtain ⟨s, h1, h2, h3⟩ := ih (by omega)
      by_cases hlt : piv k < m
      · have hsm : s = k := by
          refine Nat.le_antisymm h1 (Nat.le_of_not_lt fun hlt2 => ?_)
          have h4 := h3 s (Nat.le_refl _) hlt2
          have h5 := h.mono s k hlt2 (by omega)
          omega
        subst hsm
        exact ⟨s + 1, Nat.le_refl _, fun i hi => by
          by_cases he : i = s
          · subst he; exact hlt
          · exact h2 i (by omega), fun i hi1 hi2 => absurd hi2 (by omega)⟩
      · refine ⟨s, by omega, h2, fun i hi1 hi2 => ?_⟩
        by_cases he : i = k
        · subst he; omega
        · exact h3 i hi1 (by omega)
  exact key R.length (Nat.le_refl _)
theorem cutL_is {p : Int} {n m s : Nat} {W : List (List Int)} {piv : Nat → Nat} (h : Rref p n W piv) (hm : m ≤ n) (hs : s ≤ W.length) (hlo : ∀ i, i < s → piv i < m) (hhi : ∀ i, s ≤ i → i < W.length → m ≤ piv i) :
    cutL m W = tab (W.length - s) fun i => (rw_ W (s + i)).drop m := by
  have key : ∀ k, k ≤ W.length → cutL m (W.take k) = tab (k - s) fun i => (rw_ W (s + i)).drop m := by
    intro k
    induction k with
    | zero => intro _; rw [Nat.zero_sub]; rfl
    | succ k ih =>
      intro hk
      have hz := zero_of h (show k < W.length by omega) hm
      by_cases hks : k < s
      · have := hlo k hks
        rw [cutL_no (by omega) (by rw [hz]; exact decide_eq_false (by omega)), ih (by omega)]
        rw [show k + 1 - s = 0 by omega, show k - s = 0 by omega]
      · have := hhi k (by omega) (by omega)
        rw [cutL_yes (by omega) (by rw [hz]; exact decide_eq_true this), ih (by omega)]
        rw [show k + 1 - s = (k - s) + 1 by omega, tab_succ, show s + (k - s) = k by omega]
  have := key W.length (Nat.le_refl _)
  rwa [List.take_length] at this
theorem cutL_rref {p : Int} {n m : Nat} {W : List (List Int)} {piv : Nat → Nat} (h : Rref p (m + n) W piv) : ∃ piv', Rref p n (cutL m W) piv' := by
  obtain ⟨s, hs, hlo, hhi⟩ := h.reach m
  have he := cutL_is h (Nat.le_add_right _ _) hs hlo hhi
  rw [he]
  have hlen : (tab (W.length - s) fun i => (rw_ W (s + i)).drop m).length = W.length - s := tab_len _ _
  have hrow : ∀ i, i < W.length - s → rw_ (tab (W.length - s) fun i => (rw_ W (s + i)).drop m) i = (rw_ W (s + i)).drop m := fun i hi => rw_tab hi
  refine ⟨fun i => piv (s + i) - m, fun i hi => ?_, fun i j hi hj => ?_, fun i hi => ?_, fun i j hij hj => ?_, fun i j hi hj => ?_, fun i hi => ?_, fun i j hi hj hne => ?_⟩
  · rw [hlen] at hi; rw [hrow i hi, List.length_drop, h.len _ (by omega)]; omega
  · rw [hlen] at hi; rw [hrow i hi, el_drop]; exact h.rng _ _ (by omega) (by omega)
  · rw [hlen] at hi; have h1 := h.pn (s + i) (by omega); have h2 := hhi (s + i) (by omega) (by omega); show piv (s + i) - m < n; omega
  · rw [hlen] at hj; have h1 := h.mono (s + i) (s + j) (by omega) (by omega); have h2 := hhi (s + i) (by omega) (by omega); show piv (s + i) - m < piv (s + j) - m; omega
  · rw [hlen] at hi; rw [hrow i hi, el_drop]; have h2 := hhi (s + i) (by omega) (by omega); replace hj : j < piv (s + i) - m := hj; exact h.lead _ _ (by omega) (by omega)
  · rw [hlen] at hi; rw [hrow i hi, el_drop]; have h2 := hhi (s + i) (by omega) (by omega); show el (rw_ W (s + i)) (m + (piv (s + i) - m)) = 1; rw [show m + (piv (s + i) - m) = piv (s + i) by omega]; exact h.one _ (by omega)
  · rw [hlen] at hi hj; rw [hrow i hi, el_drop]; have h2 := hhi (s + j) (by omega) (by omega); show el (rw_ W (s + i)) (m + (piv (s + j) - m)) = 0; rw [show m + (piv (s + j) - m) = piv (s + j) by omega]; exact h.clr _ _ (by omega) (by omega) (by omega)
/-- the reduced basis of the vectors that the rows take to zero -/
def NullR (p : Int) (m : Nat) (xss N : List (List Int)) : Prop := ∃ W, IsRref p (m + xss.length) (wideR xss) W ∧ N = cutL m W
theorem NullR.unique {p : Int} {m : Nat} {xss N N' : List (List Int)} (h : NullR p m xss N) (h' : NullR p m xss N') (hp : 2 ≤ p) : N = N' := by
  obtain ⟨W, h1, rfl⟩ := h
  obtain ⟨W', h2, rfl⟩ := h'
  rw [h1.unique h2 hp]
theorem NullR.rref {p : Int} {m : Nat} {xss N : List (List Int)} (h : NullR p m xss N) : IsRref p xss.length N N := by
  obtain ⟨W, ⟨piv, h1, _⟩, rfl⟩ := h
  obtain ⟨piv', h2⟩ := cutL_rref h1
  exact ⟨piv', h2, SpEq.refl _ _⟩
end Go.Proofs.Ytpkdgemnddcefaa
