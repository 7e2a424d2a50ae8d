/- The reference's insertion sort of prime powers. -/
import Derived.Test.YtkidohohiihbaaaPpP
import Derived.Test.YtkidohohiihbaaaRowW
import Derived.BigQuiet
set_option linter.unusedVariables false
set_option linter.unusedSimpArgs false
namespace Go.Proofs.Ytkidohohiihbaaa
open Go.RowKit

/-- two neighbours exchanged -/
def swapN (L : List Int) (j : Nat) : List Int := (L.set j (el L (j - 1))).set (j - 1) (el L j)
theorem swapN_len (L : List Int) (j : Nat) : (swapN L j).length = L.length := by simp [swapN]
theorem swapN_el {L : List Int} {j : Nat} (h1 : 1 ≤ j) (h2 : j < L.length) (i : Nat) : el (swapN L j) i = if i = j - 1 then el L j else if i = j then el L (j - 1) else el L i := by
  unfold swapN
  rw [el_set (by simp; omega), el_set h2]
theorem swapN_perm {L : List Int} {j : Nat} (h1 : 1 ≤ j) (h2 : j < L.length) : (swapN L j).Perm L := by
  obtain ⟨k, rfl⟩ : ∃ k, j = k + 1 := ⟨j - 1, by omega⟩
  have e1 : L = L.take k ++ (el L k :: el L (k + 1) :: L.drop (k + 2)) := by
    conv => lhs; rw [← List.take_append_drop k L]
    congr 1
    rw [List.drop_eq_getElem_cons (show k < L.length by omega), List.drop_eq_getElem_cons h2, el_eq (by omega), el_eq h2]
  have e2 : swapN L (k + 1) = L.take k ++ (el L (k + 1) :: el L k :: L.drop (k + 2)) := by
    refine list_ext ?_ fun i hi => ?_
    · rw [swapN_len]
      conv => lhs; rw [e1]
      simp
    · rw [swapN_len] at hi
      rw [swapN_el h1 h2]
      have hk : (L.take k).length = k := by simp; omega
      have g : el L i = el (L.take k ++ (el L k :: el L (k + 1) :: L.drop (k + 2))) i := by rw [← e1]
      unfold el at g ⊢
      by_cases c1 : i < k
      · rw [if_neg (by omega), if_neg (by omega), g, List.getElem?_append_left (by omega), List.getElem?_append_left (by omega)]
      · rw [List.getElem?_append_right (by omega), hk]
        rw [List.getElem?_append_right (by omega), hk] at g
        by_cases c2 : i = k
        · subst c2; simp
        · by_cases c3 : i = k + 1
          · subst c3; simp
          · rw [if_neg (by omega), if_neg (by omega), g]
            obtain ⟨d, rfl⟩ : ∃ d, i = k + 2 + d := ⟨i - k - 2, by omega⟩
            rw [show k + 2 + d - k = d + 2 by omega]
            simp
  rw [e2]
  conv => rhs; rw [e1]
  exact List.Perm.append_left _ (List.Perm.swap _ _ _)
/-- the first i + 1 are in order, but the one at j may still have to go down -/
structure Ins (xs L : List Int) (i j : Nat) : Prop where
  perm : L.Perm xs
  le : ∀ a b, a < b → b ≤ i → b ≠ j → leP (el L a) (el L b) = true
theorem Ins.step {xs L : List Int} {i j : Nat} (h : Ins xs L i j) (h1 : 1 ≤ j) (hj : j ≤ i) (hi : i < L.length) (hb : ¬ leP (el L (j - 1)) (el L j) = true) : Ins xs (swapN L j) i (j - 1) := by
  refine ⟨(swapN_perm h1 (by omega)).trans h.perm, fun a b hab hbi hne => ?_⟩
  have hle : leP (el L j) (el L (j - 1)) = true := by
    have := leP_tot (el L (j - 1)) (el L j)
    rw [Bool.or_eq_true] at this
    rcases this with h | h
    · exact absurd h hb
    · exact h
  rw [swapN_el h1 (by omega), swapN_el h1 (by omega)]
  rw [if_neg (show ¬ b = j - 1 from hne)]
  by_cases c1 : b = j
  · rw [if_pos c1]
    by_cases c2 : a = j - 1
    · rw [if_pos c2]; exact hle
    · rw [if_neg c2, if_neg (by omega)]; exact h.le a (j - 1) (by omega) (by omega) (by omega)
  · rw [if_neg c1]
    by_cases c2 : a = j - 1
    · rw [if_pos c2]; exact h.le j b (by omega) hbi (by omega)
    · rw [if_neg c2]
      by_cases c3 : a = j
      · rw [if_pos c3]; exact h.le (j - 1) b (by omega) hbi (by omega)
      · rw [if_neg c3]; exact h.le a b hab hbi (by omega)
theorem Ins.done {xs L : List Int} {i j : Nat} (h : Ins xs L i j) (hj : j ≤ i) (hb : j = 0 ∨ leP (el L (j - 1)) (el L j) = true) : ∀ a b, a < b → b ≤ i → leP (el L a) (el L b) = true := by
  intro a b hab hbi
  by_cases c : b = j
  · subst c
    rcases hb with hb | hb
    · omega
    · by_cases c2 : a = b - 1
      · subst c2; exact hb
      · exact leP_trans _ _ _ (h.le a (b - 1) (by omega) (by omega) (by omega)) hb
  · exact h.le a b hab hbi c
theorem sorted_of {xs L : List Int} (h : L.Perm xs) (hle : ∀ a b, a < b → b + 1 ≤ L.length → leP (el L a) (el L b) = true) : L = sortP xs := by
  refine sortP_eq h ?_
  rw [List.pairwise_iff_getElem]
  intro a b ha hb hab
  have := hle a b hab hb
  rwa [el_eq ha, el_eq hb] at this
end Go.Proofs.Ytkidohohiihbaaa
