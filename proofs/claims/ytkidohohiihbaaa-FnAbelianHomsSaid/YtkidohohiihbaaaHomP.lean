/- Plain facts on counts of homomorphisms: the count is the same in both directions. -/
import Derived.Test.YtkidohohiihbaaaAbHom
set_option linter.unusedVariables false
set_option linter.unusedSimpArgs false
namespace Go.Proofs.Ytkidohohiihbaaa
open Go.RowKit

/-- the product of a list -/
def prd (xs : List Int) : Int := xs.foldr (· * ·) 1
theorem prd_nil : prd [] = 1 := rfl
theorem prd_cons (x : Int) (xs : List Int) : prd (x :: xs) = x * prd xs := rfl
theorem prd_app (xs ys : List Int) : prd (xs ++ ys) = prd xs * prd ys := by
  induction xs with
  | nil => simp [prd_nil]
  | cons x xs ih => rw [List.cons_append, prd_cons, prd_cons, ih, Int.mul_assoc]
theorem prd_pos : ∀ {xs : List Int}, (∀ x ∈ xs, 1 ≤ x) → 1 ≤ prd xs
  | [], _ => by simp [prd_nil]
  | x :: xs, h => by
    rw [prd_cons]
    have h1 := h x (List.mem_cons_self ..)
    have h2 := prd_pos (xs := xs) (fun y hy => h y (List.mem_cons_of_mem _ hy))
    have := Int.mul_le_mul h1 h2 (by omega) (by omega)
    omega
theorem hp_take {xs : List Int} {k : Nat} (h : k < xs.length) : xs.take (k + 1) = xs.take k ++ [el xs k] := by
  rw [List.take_add_one]; simp [el, h]
theorem cntTo_prd {xs : List Int} (h : ∀ x ∈ xs, 1 ≤ x) : ∀ k, k ≤ xs.length → cntTo xs k = if prd (xs.take k) ≤ 1000000000000000 then some (prd (xs.take k)) else none
  | 0, _ => by simp [cntTo, prd_nil]
  | k + 1, hk => by
    have ih := cntTo_prd h k (by omega)
    have hx : 1 ≤ el xs k := h _ (by
      have : el xs k = xs[k] := by simp [el, show k < xs.length by omega]
      rw [this]; exact List.getElem_mem _)
    have ho : 1 ≤ prd (xs.take k) := prd_pos (fun x hx => h x (List.mem_of_mem_take hx))
    have he : prd (xs.take (k + 1)) = prd (xs.take k) * el xs k := by rw [hp_take (by omega), prd_app, prd_cons, prd_nil, Int.mul_one]
    simp only [cntTo]
    rw [ih, he]
    generalize prd (xs.take k) = o at *
    by_cases h1 : o ≤ 1000000000000000
    · rw [if_pos h1]
      by_cases h2 : 1000000000000000 / o < el xs k
      · have h3 : ¬ o * el xs k ≤ 1000000000000000 := by
          intro h4
          have := Int.le_ediv_of_mul_le (a := el xs k) (b := 1000000000000000) (c := o) (by omega) (by rw [Int.mul_comm]; exact h4)
          omega
        simp only [if_pos h2, if_neg h3]
      · have h3 := (cnt_fits ho hx (by omega)).2
        simp only [if_neg h2, if_pos h3]
    · rw [if_neg h1]
      have h3 : ¬ o * el xs k ≤ 1000000000000000 := by
        have := Int.mul_le_mul_of_nonneg_left hx (show 0 ≤ o by omega)
        omega
      rw [if_neg h3]
theorem cntV_prd {xs : List Int} (h : ∀ x ∈ xs, 1 ≤ x) : cntV xs = if prd xs ≤ 1000000000000000 then (prd xs, 0) else (0, 3) := by
  unfold cntV
  rw [cntTo_prd h xs.length (Nat.le_refl _), List.take_length]
  by_cases h1 : prd xs ≤ 1000000000000000
  · simp only [if_pos h1]
  · simp only [if_neg h1]
theorem homL_nil0 (xs : List Int) : homL xs 0 [] = [] := rfl
theorem homL_cons0 (xs : List Int) (y : Int) (ys : List Int) : homL xs 0 (y :: ys) = gl y xs ++ homL xs 0 ys := by simp [homL]
theorem homL_empty (ys : List Int) : homL [] 0 ys = [] := by simp [homL, gl]
theorem gl_cons (k x : Int) (xs : List Int) : gl k (x :: xs) = (Int.gcd x k : Int) :: gl k xs := rfl
theorem gl_comm (x : Int) (ys : List Int) : gl x ys = ys.map (fun y => (Int.gcd x y : Int)) := by
  unfold gl
  exact List.map_congr_left (fun y _ => by rw [Int.gcd_comm])
theorem prd_homL_cons (x : Int) (xs : List Int) : ∀ ys, prd (homL (x :: xs) 0 ys) = prd (gl x ys) * prd (homL xs 0 ys)
  | [] => by simp [homL, gl, prd_nil]
  | y :: ys => by
    rw [homL_cons0, homL_cons0, prd_app, prd_app, prd_homL_cons x xs ys, gl_cons, gl_cons, prd_cons, prd_cons, Int.gcd_comm y x]
    grind
theorem prd_homL_comm (xs : List Int) : ∀ ys, prd (homL xs 0 ys) = prd (homL ys 0 xs) := by
  induction xs with
  | nil => intro ys; rw [homL_empty]; rfl
  | cons x xs ih => intro ys; rw [prd_homL_cons, ih ys, homL_cons0, prd_app]
theorem homL_pos1 {xs ys : List Int} {r : Int} (hy : ∀ y ∈ ys, 1 ≤ y ∧ y ≤ 1000000) : ∀ x ∈ homL xs r ys, 1 ≤ x := fun x hx => (homL_pos hy x hx).1
theorem isAb_rng {xs : List Int} {r : Int} (h : isAb xs r = true) : ∀ x ∈ xs, 1 ≤ x ∧ x ≤ 1000000 := by
  intro x hx
  obtain ⟨i, hi, rfl⟩ := List.getElem_of_mem hx
  have e : el xs i = xs[i] := by simp [el, hi]
  have := (isAb_ok h).2.2.2 i hi
  unfold okF at this
  omega
/-- as many homomorphisms in both directions -/
theorem homV_comm {xs ys : List Int} (h1 : isAb xs 0 = true) (h2 : isAb ys 0 = true) : homV xs 0 ys 0 = homV ys 0 xs 0 := by
  rw [homV_ok h1 h2 rfl, homV_ok h2 h1 rfl, cntV_prd (homL_pos1 (isAb_rng h2)), cntV_prd (homL_pos1 (isAb_rng h1)), prd_homL_comm]
/-- the homomorphisms from a cyclic group are the solutions -/
theorem homV_cyclic {k s : Int} {ys : List Int} (h1 : 2 ≤ k) (h2 : k ≤ 1000000) (hy : isAb ys 0 = true) (hk : isAb [k] 0 = true) : homV [k] 0 ys 0 = solV ys 0 k := by
  have : homL [k] 0 ys = gl k ys := by
    rw [gl_comm]
    clear hy
    induction ys with
    | nil => rfl
    | cons y ys ih => rw [homL_cons0, ih]; rfl
  rw [homV_ok hk hy rfl, solV_ok hy (by omega) h2, this]
end Go.Proofs.Ytkidohohiihbaaa
