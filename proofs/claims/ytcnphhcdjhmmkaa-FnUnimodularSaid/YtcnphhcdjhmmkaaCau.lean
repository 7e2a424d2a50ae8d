/- Minors of products of small matrices: what divides all minors of a matrix, divides all minors of its products. No program in sight. -/
import Derived.Test.YtcnphhcdjhmmkaaChs
set_option linter.unusedVariables false
set_option linter.unusedSimpArgs false
namespace Go.Proofs.Ytcnphhcdjhmmkaa
open Go.RowKit
/-- the determinant of a square of entries -/
def dN : Nat → (Nat → Nat → Int) → Int
  | 0, _ => 1
  | k + 1, m => sm (fun c => sgn c * m 0 c * dN k (fun i j => m (i + 1) (if j < c then j else j + 1))) (k + 1)
theorem dN_succ (k : Nat) (m : Nat → Nat → Int) : dN (k + 1) m = sm (fun c => sgn c * m 0 c * dN k (fun i j => m (i + 1) (if j < c then j else j + 1))) (k + 1) := rfl
theorem dN_congr : ∀ {k : Nat} {m m' : Nat → Nat → Int}, (∀ i j, i < k → j < k → m i j = m' i j) → dN k m = dN k m'
  | 0, _, _, _ => rfl
  | k + 1, m, m', h => by
    rw [dN_succ, dN_succ]
    refine sm_congr fun c hc => ?_
    rw [h 0 c (by omega) hc, dN_congr (m' := fun i j => m' (i + 1) (if j < c then j else j + 1)) fun i j hi hj => ?_]
    exact h _ _ (by omega) (by split <;> omega)
theorem dN_det : ∀ {k : Nat} {xss : List (List Int)}, xss.length = k → (∀ i, i < k → (rw_ xss i).length = k) → detN k xss = dN k (fun i j => el (rw_ xss i) j)
  | 0, _, _, _ => rfl
  | k + 1, xss, hl, hr => by
    rw [dN_succ, detN_succ]
    refine sm_congr fun c hc => ?_
    congr 1
    rw [dN_det (by rw [minorR_len]; omega) (fun i hi => by rw [minorR_row (by omega), dropAt_len (by rw [hr (i + 1) (by omega)]; exact hc), hr (i + 1) (by omega)]; omega)]
    refine dN_congr fun i j hi hj => ?_
    rw [minorR_row (by omega), dropAt_el (by rw [hr (i + 1) (by omega)]; exact hc)]
    split <;> rfl
theorem sm_comm (f : Nat → Nat → Int) (a : Nat) : ∀ b : Nat, sm (fun i => sm (fun j => f i j) b) a = sm (fun j => sm (fun i => f i j) a) b
  | 0 => sm_zero (fun i _ => rfl)
  | b + 1 => by
    show sm (fun i => sm (fun j => f i j) b + f i b) a = sm (fun j => sm (fun i => f i j) a) b + sm (fun i => f i b) a
    rw [sm_add, sm_comm f a b]
/-- linear in each row -/
theorem dN_lin {n : Nat} (x : Nat → Int) (b : Nat → Nat → Int) : ∀ (k q : Nat) (m : Nat → Nat → Int), q < k → dN k (fun i j => if i = q then sm (fun s => x s * b s j) n else m i j) = sm (fun s => x s * dN k (fun i j => if i = q then b s j else m i j)) n
  | 0, q, m, h => by omega
  | k + 1, 0, m, _ => by
    simp only [dN_succ, if_true]
    have e : ∀ c, (fun i j => if i + 1 = 0 then sm (fun s => x s * b s (if j < c then j else j + 1)) n else m (i + 1) (if j < c then j else j + 1)) = fun i j => m (i + 1) (if j < c then j else j + 1) := fun c => by funext i j; rw [if_neg (by omega)]
    have e2 : ∀ s c, (fun i j => if i + 1 = 0 then b s (if j < c then j else j + 1) else m (i + 1) (if j < c then j else j + 1)) = fun i j => m (i + 1) (if j < c then j else j + 1) := fun s c => by funext i j; rw [if_neg (by omega)]
    simp only [e, e2]
    rw [show (fun s => x s * sm (fun c => sgn c * b s c * dN k (fun i j => m (i + 1) (if j < c then j else j + 1))) (k + 1)) = fun s => sm (fun c => x s * (sgn c * b s c * dN k (fun i j => m (i + 1) (if j < c then j else j + 1)))) (k + 1) from by funext s; rw [sm_mul], sm_comm]
    refine sm_congr fun c _ => ?_
    rw [show (fun s => x s * (sgn c * b s c * dN k (fun i j => m (i + 1) (if j < c then j else j + 1)))) = fun s => (sgn c * dN k (fun i j => m (i + 1) (if j < c then j else j + 1))) * (x s * b s c) from by funext s; grind, sm_mul]
    grind
  | k + 1, q + 1, m, h => by
    simp only [dN_succ]
    rw [show (fun s => x s * sm (fun c => sgn c * (if 0 = q + 1 then b s c else m 0 c) * dN k (fun i j => if i + 1 = q + 1 then b s (if j < c then j else j + 1) else m (i + 1) (if j < c then j else j + 1))) (k + 1)) = fun s => sm (fun c => x s * (sgn c * m 0 c * dN k (fun i j => if i = q then b s (if j < c then j else j + 1) else m (i + 1) (if j < c then j else j + 1)))) (k + 1) from by
      funext s
      rw [← sm_mul]
      refine sm_congr fun c _ => ?_
      rw [if_neg (by omega)]
      simp only [Nat.add_right_cancel_iff], sm_comm]
    refine sm_congr fun c _ => ?_
    rw [if_neg (by omega)]
    have h1 := dN_lin (n := n) x (fun s j => b s (if j < c then j else j + 1)) k q (fun i j => m (i + 1) (if j < c then j else j + 1)) (by omega)
    simp only [Nat.add_right_cancel_iff]
    rw [h1, ← sm_mul]
    exact sm_congr fun s _ => by grind
/-- two rows change places -/
def swI (i : Nat) (t : Nat) : Nat := if t = i then i + 1 else if t = i + 1 then i else t
theorem dN_one (m : Nat → Nat → Int) : dN 1 m = m 0 0 := by simp [dN, sm, sgn]
theorem dN_two (m : Nat → Nat → Int) : dN 2 m = m 0 0 * m 1 1 - m 0 1 * m 1 0 := by
  rw [dN_succ]; simp only [sm, dN_one, sgn]; simp; grind
theorem dN_three (m : Nat → Nat → Int) : dN 3 m = m 0 0 * (m 1 1 * m 2 2 - m 1 2 * m 2 1) - m 0 1 * (m 1 0 * m 2 2 - m 1 2 * m 2 0) + m 0 2 * (m 1 0 * m 2 1 - m 1 1 * m 2 0) := by
  rw [dN_succ]; simp only [sm, dN_two, sgn]; simp; grind
theorem dN_four (m : Nat → Nat → Int) : dN 4 m = m 0 0 * (m 1 1 * (m 2 2 * m 3 3 - m 2 3 * m 3 2) - m 1 2 * (m 2 1 * m 3 3 - m 2 3 * m 3 1) + m 1 3 * (m 2 1 * m 3 2 - m 2 2 * m 3 1)) - m 0 1 * (m 1 0 * (m 2 2 * m 3 3 - m 2 3 * m 3 2) - m 1 2 * (m 2 0 * m 3 3 - m 2 3 * m 3 0) + m 1 3 * (m 2 0 * m 3 2 - m 2 2 * m 3 0)) + m 0 2 * (m 1 0 * (m 2 1 * m 3 3 - m 2 3 * m 3 1) - m 1 1 * (m 2 0 * m 3 3 - m 2 3 * m 3 0) + m 1 3 * (m 2 0 * m 3 1 - m 2 1 * m 3 0)) - m 0 3 * (m 1 0 * (m 2 1 * m 3 2 - m 2 2 * m 3 1) - m 1 1 * (m 2 0 * m 3 2 - m 2 2 * m 3 0) + m 1 2 * (m 2 0 * m 3 1 - m 2 1 * m 3 0)) := by
  rw [dN_succ]; simp only [sm, dN_three, sgn]; simp; grind
theorem dN_swap0 {k : Nat} (h2 : 2 ≤ k) (h4 : k ≤ 4) (m : Nat → Nat → Int) : dN k (fun i j => m (swI 0 i) j) = -dN k m := by
  rcases (show k = 2 ∨ k = 3 ∨ k = 4 by omega) with rfl | rfl | rfl
  · simp only [dN_two, swI]; simp; grind
  · simp only [dN_three, swI]; simp; grind
  · simp only [dN_four, swI]; simp; grind
theorem dN_swap : ∀ {k i : Nat} (m : Nat → Nat → Int), i + 1 < k → k ≤ 4 → dN k (fun t j => m (swI i t) j) = -dN k m
  | 0, i, m, h, _ => by omega
  | k + 1, 0, m, h, h4 => dN_swap0 (by omega) h4 m
  | k + 1, i + 1, m, h, h4 => by
    rw [dN_succ, dN_succ]
    have e : ∀ c, dN k (fun t j => m (swI (i + 1) (t + 1)) (if j < c then j else j + 1)) = -dN k (fun t j => m (t + 1) (if j < c then j else j + 1)) := fun c => by
      rw [← dN_swap (i := i) (fun t j => m (t + 1) (if j < c then j else j + 1)) (by omega) (by omega)]
      refine dN_congr fun t j _ _ => ?_
      have : swI (i + 1) (t + 1) = swI i t + 1 := by
        unfold swI
        by_cases h1 : t = i
        · rw [if_pos (by omega), if_pos h1]
        · rw [if_neg (by omega), if_neg h1]
          by_cases h2 : t = i + 1
          · rw [if_pos (by omega), if_pos h2]
          · rw [if_neg (by omega), if_neg h2]
      rw [this]
    have e0 : swI (i + 1) 0 = 0 := by unfold swI; rw [if_neg (by omega), if_neg (by omega)]
    rw [e0]
    simp only [e]
    rw [show (fun c => sgn c * m 0 c * -dN k (fun t j => m (t + 1) (if j < c then j else j + 1))) = fun c => (-1) * (sgn c * m 0 c * dN k (fun t j => m (t + 1) (if j < c then j else j + 1))) from by funext c; grind, sm_mul]
    omega
theorem dN_tr {k : Nat} (h4 : k ≤ 4) (m : Nat → Nat → Int) : dN k (fun i j => m j i) = dN k m := by
  rcases (show k = 0 ∨ k = 1 ∨ k = 2 ∨ k = 3 ∨ k = 4 by omega) with rfl | rfl | rfl | rfl | rfl
  · rfl
  · simp only [dN_one]
  · simp only [dN_two]; grind
  · simp only [dN_three]; grind
  · simp only [dN_four]; grind
/-! ### the rows that a list of numbers names -/
/-- the determinant of the rows of a that a list names -/
def dL (a : Nat → Nat → Int) (l : List Nat) : Int := dN l.length (fun i j => a (l[i]?.getD 0) j)
theorem dL_swap (a : Nat → Nat → Int) (p l : List Nat) (x y : Nat) (h4 : (p ++ x :: y :: l).length ≤ 4) : dL a (p ++ x :: y :: l) = -dL a (p ++ y :: x :: l) := by
  have hl : (p ++ x :: y :: l).length = (p ++ y :: x :: l).length := by simp
  unfold dL
  rw [← dN_swap (i := p.length) (fun i j => a ((p ++ y :: x :: l)[i]?.getD 0) j) (by simp) (by omega), hl]
  refine dN_congr fun i j hi hj => ?_
  have e : (p ++ x :: y :: l)[i]? = (p ++ y :: x :: l)[swI p.length i]? := by
    unfold swI
    by_cases h1 : i < p.length
    · rw [if_neg (by omega), if_neg (by omega), List.getElem?_append_left h1, List.getElem?_append_left h1]
    · obtain ⟨d, rfl⟩ : ∃ d, i = p.length + d := ⟨i - p.length, by omega⟩
      rw [List.getElem?_append_right (by omega), Nat.add_sub_cancel_left]
      match d with
      | 0 => rw [if_pos (by omega), List.getElem?_append_right (by omega)]; simp
      | 1 => rw [if_neg (by omega), if_pos (by omega), List.getElem?_append_right (by omega)]; simp
      | d + 2 => rw [if_neg (by omega), if_neg (by omega), List.getElem?_append_right (by omega), Nat.add_sub_cancel_left]; simp
  rw [e]
theorem dL_perm (a : Nat → Nat → Int) (g : Int) {l l' : List Nat} (h : l.Perm l') : ∀ p : List Nat, (p ++ l).length ≤ 4 → (g ∣ dL a (p ++ l) ↔ g ∣ dL a (p ++ l')) := by
  induction h with
  | nil => intro p _; exact Iff.rfl
  | cons x _ ih =>
    intro p hp
    have := ih (p ++ [x]) (by simpa using hp)
    simpa using this
  | swap x y l =>
    intro p hp
    rw [dL_swap a p l y x hp, Int.dvd_neg]
  | trans h1 h2 ih1 ih2 =>
    intro p hp
    exact (ih1 p hp).trans (ih2 p (by simp at hp ⊢; have := h1.length_eq; omega))
theorem insert_sorted (x : Nat) : ∀ l : List Nat, l.Pairwise (· ≤ ·) → ∃ l', (x :: l).Perm l' ∧ l'.Pairwise (· ≤ ·)
  | [], _ => ⟨[x], List.Perm.refl _, by simp⟩
  | y :: l, h => by
    have hy := List.pairwise_cons.1 h
    by_cases hxy : x ≤ y
    · refine ⟨x :: y :: l, List.Perm.refl _, List.pairwise_cons.2 ⟨fun z hz => ?_, h⟩⟩
      rcases List.mem_cons.1 hz with rfl | hz
      · exact hxy
      · exact Nat.le_trans hxy (hy.1 z hz)
    · obtain ⟨l', h1, h2⟩ := insert_sorted x l hy.2
      refine ⟨y :: l', (List.Perm.swap y x l).trans (List.Perm.cons y h1), List.pairwise_cons.2 ⟨fun z hz => ?_, h2⟩⟩
      rcases List.mem_cons.1 (h1.mem_iff.2 hz) with rfl | hz
      · omega
      · exact hy.1 z hz
theorem sorted_ex : ∀ l : List Nat, ∃ l', l.Perm l' ∧ l'.Pairwise (· ≤ ·)
  | [] => ⟨[], List.Perm.refl _, List.Pairwise.nil⟩
  | x :: l => by
    obtain ⟨l1, h1, h2⟩ := sorted_ex l
    obtain ⟨l2, h3, h4⟩ := insert_sorted x l1 h2
    exact ⟨l2, (List.Perm.cons x h1).trans h3, h4⟩
/-- a sorted list ascends, or names one row twice -/
theorem sorted_cases : ∀ l : List Nat, l.Pairwise (· ≤ ·) → l.Pairwise (· < ·) ∨ ∃ p x r, l = p ++ x :: x :: r
  | [], _ => .inl List.Pairwise.nil
  | [x], _ => .inl (by simp)
  | x :: y :: l, h => by
    have hx := List.pairwise_cons.1 h
    by_cases hxy : x = y
    · subst hxy; exact .inr ⟨[], x, l, rfl⟩
    · rcases sorted_cases (y :: l) hx.2 with h1 | ⟨p, z, r, e⟩
      · refine .inl (List.pairwise_cons.2 ⟨fun z hz => ?_, h1⟩)
        have h2 := List.pairwise_cons.1 hx.2
        have h3 := hx.1 y (by simp)
        rcases List.mem_cons.1 hz with rfl | hz
        · omega
        · have := h2.1 z hz; omega
      · exact .inr ⟨x :: p, z, r, by rw [e]; rfl⟩
theorem dL_twice (a : Nat → Nat → Int) (p r : List Nat) (x : Nat) (h4 : (p ++ x :: x :: r).length ≤ 4) : dL a (p ++ x :: x :: r) = 0 := by
  have := dL_swap a p r x x h4
  omega
/-- what divides the determinants of all ascending choices of rows, divides those of all choices -/
theorem dL_all {a : Nat → Nat → Int} {g : Int} {n k : Nat} (hk : k ≤ 4) (h : ∀ l : List Nat, l.length = k → l.Pairwise (· < ·) → (∀ x ∈ l, x < n) → g ∣ dL a l) (l : List Nat) (hl : l.length = k) (hn : ∀ x ∈ l, x < n) : g ∣ dL a l := by
  obtain ⟨l', h1, h2⟩ := sorted_ex l
  have hl' : l'.length = k := by rw [← h1.length_eq]; exact hl
  have hp := dL_perm a g h1 [] (by simpa [hl] using hk)
  simp only [List.nil_append] at hp
  rw [hp]
  rcases sorted_cases l' h2 with h3 | ⟨p, x, r, e⟩
  · exact h l' hl' h3 (fun x hx => hn x (h1.mem_iff.2 hx))
  · rw [e, dL_twice a p r x (by rw [← e]; omega)]; exact Int.dvd_zero g
/-- .. and those of all combinations of rows -/
theorem dvd_comb {a u : Nat → Nat → Int} {g : Int} {n k : Nat} (h : ∀ t : Nat → Nat, (∀ i, i < k → t i < n) → g ∣ dN k (fun i j => a (t i) j)) : g ∣ dN k (fun i j => sm (fun s => u i s * a s j) n) := by
  have step : ∀ q, q ≤ k → ∀ t : Nat → Nat, (∀ i, i < k → t i < n) → g ∣ dN k (fun i j => if i < q then sm (fun s => u i s * a s j) n else a (t i) j) := by
    intro q
    induction q with
    | zero =>
      intro _ t ht
      have := h t ht
      simpa using this
    | succ q ih =>
      intro hq t ht
      have e : (fun i j => if i < q + 1 then sm (fun s => u i s * a s j) n else a (t i) j) = fun i j => if i = q then sm (fun s => u q s * a s j) n else (if i < q then sm (fun s => u i s * a s j) n else a (t i) j) := by
        funext i j
        by_cases h1 : i = q
        · subst h1; rw [if_pos (by omega), if_pos rfl]
        · rw [if_neg h1]
          by_cases h2 : i < q
          · rw [if_pos (by omega), if_pos h2]
          · rw [if_neg (by omega), if_neg h2]
      rw [e, dN_lin (n := n) (u q) a k q _ (by omega)]
      refine sm_dvd fun s hs => Int.dvd_mul_of_dvd_right ?_
      have h1 := ih (by omega) (fun i => if i = q then s else t i) (fun i hi => by split <;> first | exact hs | exact ht i hi)
      have e2 : (fun i j => if i = q then a s j else (if i < q then sm (fun s => u i s * a s j) n else a (t i) j)) = fun i j => if i < q then sm (fun s => u i s * a s j) n else a (if i = q then s else t i) j := by
        funext i j
        by_cases h2 : i = q
        · subst h2; rw [if_pos rfl, if_neg (by omega), if_pos rfl]
        · rw [if_neg h2, if_neg h2]
      rw [e2]
      exact h1
  by_cases hn : 0 < n
  · have := step k (Nat.le_refl _) (fun _ => 0) (fun _ _ => hn)
    rwa [dN_congr (m' := fun i j => sm (fun s => u i s * a s j) n) fun i j hi hj => if_pos hi] at this
  · by_cases hk : 0 < k
    · have hn0 : n = 0 := by omega
      subst hn0
      obtain ⟨k', rfl⟩ : ∃ k', k = k' + 1 := ⟨k - 1, by omega⟩
      rw [dN_succ, sm_zero (fun c _ => by simp [sm])]
      exact Int.dvd_zero g
    · obtain rfl : k = 0 := by omega
      exact h (fun _ => 0) (fun i hi => by omega)
end Go.Proofs.Ytcnphhcdjhmmkaa
