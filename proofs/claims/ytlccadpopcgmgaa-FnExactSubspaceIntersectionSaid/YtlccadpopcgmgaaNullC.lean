/- What the reduced basis of a null space spans, and the annihilator's annihilator. No program in sight. -/
import Derived.Test.YtlccadpopcgmgaaNull
set_option linter.unusedVariables false
set_option linter.unusedSimpArgs false
namespace Go.Proofs.Ytlccadpopcgmgaa
open Go.RowKit

theorem sm_swap (f : Nat → Nat → Int) (a : Nat) : ∀ b : Nat, sm (fun i => sm (fun j => f i j) b) a = sm (fun j => sm (fun i => f i j) a) b
  | 0 => by simp only [sm]; exact sm_zero fun _ _ => rfl
  | b + 1 => by
    simp only [sm]
    rw [sm_add (fun i => sm (fun j => f i j) b) (fun i => f i b) a, sm_swap f a b]
theorem sm_mulr (c : Int) (f : Nat → Int) (n : Nat) : sm (fun i => f i * c) n = sm f n * c := by
  rw [sm_congr (g := fun i => c * f i) (fun i _ => Int.mul_comm _ _), sm_mul, Int.mul_comm]
theorem sm_sub (f g : Nat → Int) (n : Nat) : sm (fun i => f i - g i) n = sm f n - sm g n := by
  rw [sm_congr (g := fun i => f i + (-1) * g i) (fun i _ => by omega), sm_add, sm_mul]; omega
theorem sm_dcongr {p : Int} {f g : Nat → Int} {n : Nat} (h : ∀ i, i < n → p ∣ f i - g i) : p ∣ sm f n - sm g n := by
  rw [← sm_sub]; exact sm_dvd h
/-- a combination of rows -/
theorem Sp.comb {p : Int} {rows : List (List Int)} (c : Nat → Int) : ∀ {k : Nat}, k ≤ rows.length → Sp p rows (fun j => sm (fun i => c i * el (rw_ rows i) j) k)
  | 0, _ => Sp.zero
  | k + 1, h => (Sp.comb c (k := k) (by omega)).addmul (c k) (Sp.at (by omega))
/-- a linear relation that holds of the rows holds of the span -/
theorem Sp.lin {p : Int} {rows : List (List Int)} {f : Nat → Int} (n : Nat) (a : Nat → Int) (h : Sp p rows f) (hr : ∀ r, r ∈ rows → p ∣ sm (fun i => el r i * a i) n) : p ∣ sm (fun i => f i * a i) n := by
  induction h with
  | zero => rw [sm_zero fun i _ => by simp]; exact ⟨0, by simp⟩
  | add c _ hm ih =>
    rename_i f r hs
    rw [sm_congr (g := fun i => f i * a i + c * (el r i * a i)) (fun i _ => by grind), sm_add, sm_mul]
    exact Int.dvd_add ih (Int.dvd_mul_of_dvd_right (hr _ hm))
  | cong _ hd ih =>
    rename_i f g hs
    have h2 := sm_dcongr (p := p) (n := n) (f := fun i => f i * a i) (g := fun i => g i * a i) fun i _ => by
      obtain ⟨x, hx⟩ := hd i
      exact ⟨x * a i, by rw [← Int.sub_mul, hx, Int.mul_assoc]⟩
    have := Int.dvd_sub ih h2
    rwa [Int.sub_sub_self] at this
theorem el_unit {n k i : Nat} (hi : i < n) : el (unitR n k) i = if i = k then 1 else 0 := by unfold unitR; rw [el_tab hi]
/-- what holds of the rows with the identity behind them -/
theorem wide_rel {p : Int} {m n : Nat} {xss : List (List Int)} {g : Nat → Int} (hr : Rws p m xss) (hl : xss.length = n) (h : Sp p (wideR xss) g) (j : Nat) (hj : j < m) : p ∣ g j - sm (fun i => g (m + i) * el (rw_ xss i) j) n := by
  subst hl
  induction h with
  | zero => rw [sm_zero fun i _ => by simp]; exact ⟨0, by simp⟩
  | add c _ hm ih =>
    rename_i f r hs
    obtain ⟨k, hk, e⟩ := mem_rows hm
    rw [wideR_len] at hk
    rw [wideR_row hk] at e
    have hlk := hr.row k hk
    have e1 : el r j = el (rw_ xss k) j := by rw [← e, el_app_l (by omega)]
    have e2 : sm (fun i => el r (m + i) * el (rw_ xss i) j) xss.length = el (rw_ xss k) j := by
      rw [sm_single hk (fun i hi hne => by rw [← e, el_app_r (by omega), hlk, Nat.add_sub_cancel_left, el_unit hi, if_neg hne]; simp)]
      rw [← e, el_app_r (by omega), hlk, Nat.add_sub_cancel_left, el_unit hk, if_pos rfl]; simp
    have e3 : sm (fun i => (f (m + i) + c * el r (m + i)) * el (rw_ xss i) j) xss.length = sm (fun i => f (m + i) * el (rw_ xss i) j) xss.length + c * el (rw_ xss k) j := by
      rw [sm_congr (g := fun i => f (m + i) * el (rw_ xss i) j + c * (el r (m + i) * el (rw_ xss i) j)) (fun i _ => by grind), sm_add, sm_mul, e2]
    rw [e3]
    show p ∣ f j + c * el r j - (sm (fun i => f (m + i) * el (rw_ xss i) j) xss.length + c * el (rw_ xss k) j)
    rw [e1]
    have e4 : f j + c * el (rw_ xss k) j - (sm (fun i => f (m + i) * el (rw_ xss i) j) xss.length + c * el (rw_ xss k) j) = f j - sm (fun i => f (m + i) * el (rw_ xss i) j) xss.length := by omega
    rw [e4]; exact ih
  | cong _ hd ih =>
    rename_i f g hs
    have h2 := sm_dcongr (p := p) (n := xss.length) (f := fun i => f (m + i) * el (rw_ xss i) j) (g := fun i => g (m + i) * el (rw_ xss i) j) fun i _ => by
      obtain ⟨x, hx⟩ := hd (m + i)
      exact ⟨x * el (rw_ xss i) j, by rw [← Int.sub_mul, hx, Int.mul_assoc]⟩
    have h3 := Int.dvd_sub (Int.dvd_add ih h2) (hd j)
    have e : f j - sm (fun i => f (m + i) * el (rw_ xss i) j) xss.length + (sm (fun i => f (m + i) * el (rw_ xss i) j) xss.length - sm (fun i => g (m + i) * el (rw_ xss i) j) xss.length) - (f j - g j) = g j - sm (fun i => g (m + i) * el (rw_ xss i) j) xss.length := by omega
    rwa [e] at h3
theorem cutL_mem {m i : Nat} {W : List (List Int)} (hi : i < W.length) (h : zeroB ((rw_ W i).take m) = true) : (rw_ W i).drop m ∈ cutL m W := by
  unfold cutL
  exact List.mem_map.2 ⟨rw_ W i, List.mem_filter.2 ⟨rw_mem hi, h⟩, rfl⟩
theorem cutL_of {m : Nat} {W : List (List Int)} {r : List Int} (h : r ∈ cutL m W) : ∃ i, i < W.length ∧ zeroB ((rw_ W i).take m) = true ∧ r = (rw_ W i).drop m := by
  unfold cutL at h
  obtain ⟨r0, h1, rfl⟩ := List.mem_map.1 h
  obtain ⟨h2, h3⟩ := List.mem_filter.1 h1
  obtain ⟨i, hi, rfl⟩ := mem_rows h2
  exact ⟨i, hi, h3, rfl⟩
theorem zeroB_el {xs : List Int} {m j : Nat} (h : zeroB (xs.take m) = true) (hj : j < m) : el xs j = 0 := by
  unfold zeroB at h
  have h2 : AllZ (xs.take m) := by simpa using h
  by_cases hl : j < xs.length
  · have := h2 j (by rw [List.length_take]; omega)
    rwa [el_take hj] at this
  · exact el_ge (by omega)
/-- the rows of a null space's basis, and what they span, are taken to zero -/
theorem NullR.sound {p : Int} {m n : Nat} {xss N : List (List Int)} {f : Nat → Int} (h : NullR p m xss N) (hr : Rws p m xss) (hl : xss.length = n) (hf : Sp p N f) (j : Nat) (hj : j < m) : p ∣ sm (fun i => f i * el (rw_ xss i) j) n := by
  subst hl
  obtain ⟨W, ⟨piv, hW, hS⟩, rfl⟩ := h
  refine hf.lin _ _ fun r hr2 => ?_
  obtain ⟨i, hi, hz, rfl⟩ := cutL_of hr2
  have h1 := wide_rel hr rfl (hS.2 _ (rw_mem hi)) j hj
  rw [zeroB_el hz hj] at h1
  rw [sm_congr (g := fun t => el (rw_ W i) (m + t) * el (rw_ xss t) j) (fun t _ => by rw [el_drop])]
  obtain ⟨x, hx⟩ := h1
  exact ⟨-x, by rw [Int.mul_neg, ← hx]; omega⟩
/-- and whatever is taken to zero lies in the span -/
theorem NullR.compl {p : Int} {m n : Nat} {xss N : List (List Int)} {x : Nat → Int} (h : NullR p m xss N) (hr : Rws p m xss) (hl : xss.length = n) (hx : ∀ i, n ≤ i → p ∣ x i) (h0 : ∀ j, j < m → p ∣ sm (fun i => x i * el (rw_ xss i) j) n) : Sp p N x := by
  subst hl
  obtain ⟨W, ⟨piv, hW, hS⟩, rfl⟩ := h
  have hg : Sp p (wideR xss) (fun j => if j < m then 0 else x (j - m)) := by
    refine (Sp.comb (rows := wideR xss) x (k := xss.length) (by rw [wideR_len]; exact Nat.le_refl _)).cong fun j => ?_
    by_cases hj : j < m
    · rw [if_pos hj, Int.sub_zero, sm_congr (g := fun i => x i * el (rw_ xss i) j) (fun i hi => by rw [wideR_row hi, el_app_l (by rw [hr.row i hi]; exact hj)])]
      exact h0 j hj
    · rw [if_neg hj]
      have e : ∀ i, i < xss.length → el (rw_ (wideR xss) i) j = el (unitR xss.length i) (j - m) := fun i hi => by rw [wideR_row hi, el_app_r (by rw [hr.row i hi]; omega), hr.row i hi]
      by_cases hj2 : j - m < xss.length
      · rw [sm_single hj2 (fun i hi hne => by rw [e i hi, el_unit hj2, if_neg (fun h => hne h.symm)]; simp), e _ hj2, el_unit hj2, if_pos rfl]
        exact ⟨0, by omega⟩
      · rw [sm_zero fun i hi => by rw [e i hi, el_ge (by rw [unitR_len]; omega)]; simp]
        obtain ⟨y, hy⟩ := hx (j - m) (by omega)
        exact ⟨-y, by rw [hy]; grind⟩
  have hc := hW.coord (hg.sub hS.1)
  have hk : ∀ k, k ≤ W.length → Sp p (cutL m W) (fun t => sm (fun i => (if piv i < m then 0 else x (piv i - m)) * el (rw_ W i) (m + t)) k) := by
    intro k
    induction k with
    | zero => intro _; exact Sp.zero
    | succ k ih =>
      intro hk
      simp only [sm]
      by_cases hp : piv k < m
      · rw [if_pos hp]
        exact (ih (by omega)).eq fun t => by simp
      · rw [if_neg hp]
        refine ((ih (by omega)).addmul (x (piv k - m)) (Sp.row (cutL_mem (show k < W.length by omega) (by rw [zero_of hW (by omega) (Nat.le_add_right _ _)]; exact decide_eq_true (by omega))))).eq fun t => ?_
        rw [el_drop]
  refine (hk W.length (Nat.le_refl _)).cong fun t => ?_
  have h1 := hc (m + t)
  rw [if_neg (by omega), Nat.add_sub_cancel_left] at h1
  obtain ⟨y, hy⟩ := h1
  exact ⟨-y, by rw [Int.mul_neg, ← hy]; omega⟩
/-- a vector to which all that is perpendicular to a reduced form's rows is perpendicular lies in their span -/
theorem Rref.perp {p : Int} {q : Nat} {R : List (List Int)} {piv : Nat → Nat} {x : Nat → Int} (h : Rref p q R piv) (hx : ∀ i, q ≤ i → p ∣ x i)
    (hp : ∀ y : Nat → Int, (∀ i, q ≤ i → y i = 0) → (∀ i, i < R.length → p ∣ sm (fun j => y j * el (rw_ R i) j) q) → p ∣ sm (fun j => x j * y j) q) : Sp p R x := by
  refine (Sp.comb (rows := R) (fun i => x (piv i)) (k := R.length) (Nat.le_refl _)).cong fun t => ?_
  by_cases ht : t < q
  · have key := hp (fun j => if j < q then (if j = t then 1 else 0) - sm (fun i => (if piv i = j then 1 else 0) * el (rw_ R i) t) R.length else 0) (fun i hi => if_neg (by omega)) fun k hk => ?_
    · have e : sm (fun j => x j * (if j < q then (if j = t then 1 else 0) - sm (fun i => (if piv i = j then 1 else 0) * el (rw_ R i) t) R.length else 0)) q = x t - sm (fun i => x (piv i) * el (rw_ R i) t) R.length := by
        rw [sm_congr (g := fun j => x j * (if j = t then 1 else 0) - sm (fun i => x j * ((if piv i = j then 1 else 0) * el (rw_ R i) t)) R.length) (fun j hj => by rw [if_pos hj, Int.mul_sub, sm_mul]), sm_sub]
        rw [sm_single ht (fun j _ hne => by rw [if_neg hne]; simp), if_pos rfl, Int.mul_one, sm_swap]
        congr 1
        refine sm_congr fun i hi => ?_
        rw [sm_single (h.pn i hi) (fun j _ hne => by rw [if_neg (fun e => hne e.symm)]; simp), if_pos rfl, Int.one_mul]
      rw [e] at key
      obtain ⟨y, hy⟩ := key
      exact ⟨-y, by rw [Int.mul_neg, ← hy]; omega⟩
    · have e : sm (fun j => (if j < q then (if j = t then 1 else 0) - sm (fun i => (if piv i = j then 1 else 0) * el (rw_ R i) t) R.length else 0) * el (rw_ R k) j) q = el (rw_ R k) t - sm (fun i => el (rw_ R k) (piv i) * el (rw_ R i) t) R.length := by
        rw [sm_congr (g := fun j => (if j = t then 1 else 0) * el (rw_ R k) j - sm (fun i => ((if piv i = j then 1 else 0) * el (rw_ R i) t) * el (rw_ R k) j) R.length) (fun j hj => by rw [if_pos hj, Int.sub_mul, sm_mulr]), sm_sub]
        rw [sm_single ht (fun j _ hne => by rw [if_neg hne]; simp), if_pos rfl, Int.one_mul, sm_swap]
        congr 1
        refine sm_congr fun i hi => ?_
        rw [sm_single (h.pn i hi) (fun j _ hne => by rw [if_neg (fun e => hne e.symm)]; simp), if_pos rfl, Int.one_mul, Int.mul_comm]
      rw [e, sm_single hk (fun i hi hne => by rw [h.clr k i hk hi (fun e => hne e.symm)]; simp), h.one k hk, Int.one_mul]
      exact ⟨0, by omega⟩
  · rw [sm_zero fun i hi => by rw [el_ge (by rw [h.len i hi]; omega)]; simp]
    obtain ⟨y, hy⟩ := hx t (by omega)
    exact ⟨-y, by rw [hy]; grind⟩
end Go.Proofs.Ytlccadpopcgmgaa
