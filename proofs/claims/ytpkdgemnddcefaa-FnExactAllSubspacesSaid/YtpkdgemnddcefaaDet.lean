/- The determinant by expansion along the first row, and its size. No program in sight. -/
import Derived.Test.YtpkdgemnddcefaaRref
set_option linter.unusedVariables false
set_option linter.unusedSimpArgs false
namespace Go.Proofs.Ytpkdgemnddcefaa

/-- a row without an entry -/
def dropAt (c : Nat) (r : List Int) : List Int := r.take c ++ r.drop (c + 1)
theorem dropAt_len {c : Nat} {r : List Int} (h : c < r.length) : (dropAt c r).length = r.length - 1 := by simp [dropAt]; omega
theorem el_append_lt {xs ys : List Int} {j : Nat} (h : j < xs.length) : el (xs ++ ys) j = el xs j := by simp [el, List.getElem?_append, h]
theorem el_append_ge {xs ys : List Int} {j : Nat} (h : xs.length ≤ j) : el (xs ++ ys) j = el ys (j - xs.length) := by
  simp [el, List.getElem?_append_right h]
theorem el_take {xs : List Int} {k j : Nat} (h : j < k) : el (xs.take k) j = el xs j := by simp [el, List.getElem?_take, h]
theorem el_drop {xs : List Int} {k j : Nat} : el (xs.drop k) j = el xs (k + j) := by simp [el]
theorem dropAt_el {c j : Nat} {r : List Int} (h : c < r.length) : el (dropAt c r) j = if j < c then el r j else el r (j + 1) := by
  unfold dropAt
  have ht : (r.take c).length = c := by simp; omega
  by_cases hj : j < c
  · rw [if_pos hj, el_append_lt (by omega), el_take hj]
  · rw [if_neg hj, el_append_ge (by omega), el_drop, ht]
    congr 1; omega
/-- the rows but the first, without an entry -/
def minorR (xss : List (List Int)) (c : Nat) : List (List Int) := xss.tail.map (dropAt c)
theorem minorR_len (xss : List (List Int)) (c : Nat) : (minorR xss c).length = xss.length - 1 := by simp [minorR]
theorem rw_tail (xss : List (List Int)) (i : Nat) : rw_ xss.tail i = rw_ xss (i + 1) := by simp [rw_]
theorem minorR_row {xss : List (List Int)} {c i : Nat} (h : i + 1 < xss.length) : rw_ (minorR xss c) i = dropAt c (rw_ xss (i + 1)) := by
  rw [← rw_tail]
  have h' : i < xss.tail.length := by simp; omega
  simp [minorR, rw_, h]
def sgn (c : Nat) : Int := if c % 2 = 0 then 1 else -1
theorem sgn_zero : sgn 0 = 1 := rfl
theorem sgn_succ (c : Nat) : sgn (c + 1) = -sgn c := by
  unfold sgn
  by_cases h : c % 2 = 0
  · rw [if_pos h, if_neg (by omega)]
  · rw [if_neg h, if_pos (by omega)]; rfl
theorem sgn_cases (c : Nat) : sgn c = 1 ∨ sgn c = -1 := by
  unfold sgn
  by_cases h : c % 2 = 0
  · exact .inl (if_pos h)
  · exact .inr (if_neg h)
def detN : Nat → List (List Int) → Int
  | 0, _ => 1
  | n + 1, xss => sm (fun c => sgn c * el (rw_ xss 0) c * detN n (minorR xss c)) (n + 1)
theorem detN_succ (n : Nat) (xss : List (List Int)) : detN (n + 1) xss = sm (fun c => sgn c * el (rw_ xss 0) c * detN n (minorR xss c)) (n + 1) := rfl
/-- a square list of rows with small entries -/
structure SqB (n : Nat) (xss : List (List Int)) : Prop where
  len : xss.length = n
  row : ∀ i, i < n → (rw_ xss i).length = n
  ent : ∀ i j, i < n → j < n → -64 ≤ el (rw_ xss i) j ∧ el (rw_ xss i) j ≤ 64
theorem SqB.minor {n c : Nat} {xss : List (List Int)} (h : SqB (n + 1) xss) (hc : c < n + 1) : SqB n (minorR xss c) := by
  have hl := h.len
  refine ⟨by rw [minorR_len]; omega, fun i hi => ?_, fun i j hi hj => ?_⟩
  · rw [minorR_row (by omega), dropAt_len (by rw [h.row (i + 1) (by omega)]; exact hc), h.row (i + 1) (by omega)]; omega
  · rw [minorR_row (by omega), dropAt_el (by rw [h.row (i + 1) (by omega)]; exact hc)]
    by_cases hj' : j < c
    · rw [if_pos hj']; exact h.ent _ _ (by omega) (by omega)
    · rw [if_neg hj']; exact h.ent _ _ (by omega) (by omega)
def dB : Nat → Int
  | 0 => 1
  | n + 1 => ((n : Int) + 1) * (64 * dB n)
theorem mulB {a b A B : Int} (h1 : -A ≤ a) (h2 : a ≤ A) (h3 : -B ≤ b) (h4 : b ≤ B) : -(A * B) ≤ a * b ∧ a * b ≤ A * B := by
  have hA : 0 ≤ A := by omega
  have hB : 0 ≤ B := by omega
  have k1 : 0 ≤ (A - a) * (B + b) := Int.mul_nonneg (by omega) (by omega)
  have k2 : 0 ≤ (A + a) * (B - b) := Int.mul_nonneg (by omega) (by omega)
  have k3 : 0 ≤ (A - a) * (B - b) := Int.mul_nonneg (by omega) (by omega)
  have k4 : 0 ≤ (A + a) * (B + b) := Int.mul_nonneg (by omega) (by omega)
  rw [Int.sub_mul, Int.mul_add, Int.mul_add] at k1
  rw [Int.add_mul, Int.mul_sub, Int.mul_sub] at k2
  rw [Int.sub_mul, Int.mul_sub, Int.mul_sub] at k3
  rw [Int.add_mul, Int.mul_add, Int.mul_add] at k4
  omega
theorem sm_bd {f : Nat → Int} {B : Int} : ∀ {n : Nat}, (∀ i, i < n → -B ≤ f i ∧ f i ≤ B) → -((n : Int) * B) ≤ sm f n ∧ sm f n ≤ (n : Int) * B
  | 0, _ => by simp [sm]
  | n + 1, h => by
    have h1 := sm_bd (n := n) (fun i hi => h i (by omega))
    have h2 := h n (by omega)
    simp only [sm]
    have e : ((n + 1 : Nat) : Int) * B = (n : Int) * B + B := by rw [Int.natCast_add, Int.add_mul]; simp
    omega
theorem sgn_mulB {c : Nat} {x B : Int} (h1 : -B ≤ x) (h2 : x ≤ B) : -B ≤ sgn c * x ∧ sgn c * x ≤ B := by
  rcases sgn_cases c with h | h <;> rw [h] <;> omega
theorem dB_nonneg : ∀ n, 0 ≤ dB n
  | 0 => by simp [dB]
  | n + 1 => Int.mul_nonneg (by omega) (Int.mul_nonneg (by omega) (dB_nonneg n))
theorem term_bd {n c : Nat} {xss : List (List Int)} {d : Int} (h : SqB (n + 1) xss) (hc : c < n + 1) (h1 : -(dB n) ≤ d) (h2 : d ≤ dB n) :
    -(64 * dB n) ≤ sgn c * el (rw_ xss 0) c * d ∧ sgn c * el (rw_ xss 0) c * d ≤ 64 * dB n := by
  have he := h.ent 0 c (by omega) hc
  have hs := sgn_mulB (c := c) he.1 he.2
  exact mulB hs.1 hs.2 h1 h2
theorem det_bd : ∀ (n : Nat) (xss : List (List Int)), SqB n xss → -(dB n) ≤ detN n xss ∧ detN n xss ≤ dB n
  | 0, xss, _ => by simp [detN, dB]
  | n + 1, xss, h => by
    rw [detN_succ]
    have hb := sm_bd (f := fun c => sgn c * el (rw_ xss 0) c * detN n (minorR xss c)) (B := 64 * dB n) (n := n + 1) (fun c hc => by
      have hd := det_bd n _ (h.minor hc)
      exact term_bd h hc hd.1 hd.2)
    have e : ((n + 1 : Nat) : Int) * (64 * dB n) = dB (n + 1) := by simp [dB]
    rw [e] at hb
    exact hb
theorem dB_le {n : Nat} (h : n ≤ 4) : dB n ≤ 402653184 := by
  match n, h with
  | 0, _ => decide
  | 1, _ => decide
  | 2, _ => decide
  | 3, _ => decide
  | 4, _ => decide
/-- the sums of the expansion so far -/
def dPart (n : Nat) (xss : List (List Int)) (k : Nat) : Int := sm (fun c => sgn c * el (rw_ xss 0) c * detN n (minorR xss c)) k
theorem dPart_bd {n k : Nat} {xss : List (List Int)} (h : SqB (n + 1) xss) (hk : k ≤ n + 1) (hn : n + 1 ≤ 4) : -402653184 ≤ dPart n xss k ∧ dPart n xss k ≤ 402653184 := by
  have hb := sm_bd (f := fun c => sgn c * el (rw_ xss 0) c * detN n (minorR xss c)) (B := 64 * dB n) (n := k) (fun c hc => by
    have hd := det_bd n _ (h.minor (show c < n + 1 by omega))
    exact term_bd h (by omega) hd.1 hd.2)
  have h0 := dB_nonneg n
  have h1 : (k : Int) * (64 * dB n) ≤ ((n : Int) + 1) * (64 * dB n) := Int.mul_le_mul_of_nonneg_right (by omega) (by omega)
  have h2 : ((n : Int) + 1) * (64 * dB n) = dB (n + 1) := rfl
  have h3 := dB_le hn
  unfold dPart
  omega
theorem dPart_succ (n : Nat) (xss : List (List Int)) (k : Nat) : dPart n xss (k + 1) = dPart n xss k + sgn k * el (rw_ xss 0) k * detN n (minorR xss k) := rfl
theorem dPart_skip {n k : Nat} {xss : List (List Int)} (h : el (rw_ xss 0) k = 0) : dPart n xss (k + 1) = dPart n xss k := by rw [dPart_succ, h]; simp
theorem dPart_end (n : Nat) (xss : List (List Int)) : dPart n xss (n + 1) = detN (n + 1) xss := rfl
end Go.Proofs.Ytpkdgemnddcefaa
