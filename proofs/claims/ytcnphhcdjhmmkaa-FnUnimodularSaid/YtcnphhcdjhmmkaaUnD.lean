/- The index of the lattice of a square table, as the program computes it, is the determinant's absolute value. No program in sight. -/
import Derived.Test.YtcnphhcdjhmmkaaUnC
set_option linter.unusedVariables false
set_option linter.unusedSimpArgs false
namespace Go.Proofs.Ytcnphhcdjhmmkaa
open Go.RowKit
/-- how many rows there are -/
def filN (bs : List (List Int)) : Nat → Nat
  | 0 => 0
  | m + 1 => filN bs m + if rw_ bs m = [] then 0 else 1
theorem filN_le {bs bs' : List (List Int)} : ∀ m, (∀ j, j < m → rw_ bs' j ≠ [] → rw_ bs j ≠ []) → filN bs' m ≤ filN bs m
  | 0, _ => Nat.le_refl _
  | m + 1, h => by
    have ih := filN_le m (fun j hj => h j (by omega))
    have hm := h m (by omega)
    unfold filN
    by_cases e : rw_ bs' m = []
    · rw [if_pos e]; omega
    · rw [if_neg e, if_neg (hm e)]; omega
theorem filN_le1 {bs bs' : List (List Int)} {k : Nat} : ∀ m, (∀ j, j < m → rw_ bs' j ≠ [] → rw_ bs j ≠ [] ∨ j = k) → filN bs' m ≤ filN bs m + if k < m then 1 else 0
  | 0, _ => by simp [filN]
  | m + 1, h => by
    have ih := filN_le1 m (fun j hj => h j (by omega))
    have hm := h m (by omega)
    unfold filN
    by_cases e : rw_ bs' m = []
    · rw [if_pos e]
      by_cases k1 : k < m
      · rw [if_pos k1] at ih; rw [if_pos (show k < m + 1 by omega)]; omega
      · rw [if_neg k1] at ih; omega
    · rw [if_neg e]
      rcases hm e with h1 | h1
      · rw [if_neg h1]
        by_cases k1 : k < m
        · rw [if_pos k1] at ih; rw [if_pos (show k < m + 1 by omega)]; omega
        · rw [if_neg k1] at ih; omega
      · subst h1
        rw [if_neg (Nat.lt_irrefl _)] at ih
        rw [if_pos (show m < m + 1 by omega)]; omega
theorem filN_list {bs : List (List Int)} : ∀ (m : Nat) (l : List Nat), (∀ j, j < m → rw_ bs j ≠ [] → j ∈ l) → filN bs m ≤ l.length
  | 0, _, _ => Nat.zero_le _
  | m + 1, l, h => by
    unfold filN
    by_cases e : rw_ bs m = []
    · rw [if_pos e]
      have := filN_list m l (fun j hj => h j (by omega))
      omega
    · rw [if_neg e]
      have hm := h m (by omega) e
      have := filN_list m (l.erase m) (fun j hj h1 => (List.mem_erase_of_ne (by omega)).2 (h j (by omega) h1))
      rw [List.length_erase_of_mem hm] at this
      have := List.length_pos_of_mem hm
      omega
theorem filN_lt {bs : List (List Int)} {k : Nat} : ∀ m, k < m → rw_ bs k = [] → filN bs m < m
  | 0, h, _ => by omega
  | m + 1, h, h2 => by
    have hle : ∀ m, filN bs m ≤ m := fun m => by
      induction m with
      | zero => exact Nat.le_refl _
      | succ m ih => unfold filN; split <;> omega
    unfold filN
    by_cases e : k = m
    · subst e; rw [if_pos h2]; have := hle k; omega
    · have := filN_lt m (by omega) h2
      split <;> omega
theorem filN_all {bs : List (List Int)} : ∀ m, (∀ j, j < m → rw_ bs j ≠ []) → filN bs m = m
  | 0, _ => rfl
  | m + 1, h => by
    unfold filN
    rw [if_neg (h m (by omega)), filN_all m (fun j hj => h j (by omega))]
/-- the product of the pivots -/
def pdR (bs : List (List Int)) : Nat → Int
  | 0 => 1
  | k + 1 => pdR bs k * Rw bs k k
def pdW (bs : List (List Int)) : Nat → Int
  | 0 => 1
  | k + 1 => wr64 (pdW bs k * Rw bs k k)
theorem pdR_pos {bs : List (List Int)} : ∀ k, (∀ j, j < k → 1 ≤ Rw bs j j) → 1 ≤ pdR bs k
  | 0, _ => Int.le_refl _
  | k + 1, h => by
    have h1 := pdR_pos k (fun j hj => h j (by omega))
    have h2 := h k (by omega)
    show 1 ≤ pdR bs k * Rw bs k k
    have := Int.mul_pos (a := pdR bs k) (b := Rw bs k k) (by omega) (by omega)
    omega
theorem pdR_up {bs : List (List Int)} {n : Nat} (h : ∀ j, j < n → 1 ≤ Rw bs j j) : ∀ k m, k + m ≤ n → pdR bs k ≤ pdR bs (k + m)
  | k, 0, _ => Int.le_refl _
  | k, m + 1, hm => by
    have h1 := pdR_up h k m (by omega)
    have h2 := pdR_pos (bs := bs) (k + m) (fun j hj => h j (by omega))
    have h3 := h (k + m) (by omega)
    show pdR bs k ≤ pdR bs (k + m) * Rw bs (k + m) (k + m)
    have : pdR bs (k + m) * 1 ≤ pdR bs (k + m) * Rw bs (k + m) (k + m) := Int.mul_le_mul_of_nonneg_left h3 (by omega)
    omega
theorem pdW_eq {bs : List (List Int)} {n : Nat} (h : ∀ j, j < n → 1 ≤ Rw bs j j) (hb : pdR bs n ≤ 9223372036854775807) : ∀ k, k ≤ n → pdW bs k = pdR bs k
  | 0, _ => rfl
  | k + 1, hk => by
    show wr64 (pdW bs k * Rw bs k k) = pdR bs k * Rw bs k k
    rw [pdW_eq h hb k (by omega)]
    have h1 := pdR_pos (bs := bs) (k + 1) (fun j hj => h j (by omega))
    have h2 := pdR_up h (k + 1) (n - (k + 1)) (by omega)
    rw [show k + 1 + (n - (k + 1)) = n by omega] at h2
    exact wr64_in (by show I64 (pdR bs (k + 1)); unfold I64; omega)
/-! ### the determinant -/
section
variable {n : Nat} {xs : List (List Int)}
theorem det1 (hl : xs.length = 1) (hr : ∀ i, i < 1 → (rw_ xs i).length = 1) : detN 1 xs = Rw xs 0 0 := by
  rw [dN_det hl hr, dN_one]; rfl
theorem det2 (hl : xs.length = 2) (hr : ∀ i, i < 2 → (rw_ xs i).length = 2) : detN 2 xs = D2 (Rw xs 0) (Rw xs 1) 0 1 := by
  rw [dN_det hl hr, dN_two]; rfl
theorem det3 (hl : xs.length = 3) (hr : ∀ i, i < 3 → (rw_ xs i).length = 3) : detN 3 xs = D3 (Rw xs 0) (Rw xs 1) (Rw xs 2) 0 1 2 := by
  rw [dN_det hl hr, dN_three]
  unfold D3 D2 Rw; grind
theorem det4 (hl : xs.length = 4) (hr : ∀ i, i < 4 → (rw_ xs i).length = 4) : detN 4 xs = D4 (Rw xs 0) (Rw xs 1) (Rw xs 2) (Rw xs 3) := by
  rw [dN_det hl hr, dN_four]
  unfold D4 D3 D2 Rw; grind
theorem det_of1 (h1 : 1 ≤ n) (h4 : n ≤ 4) (hl : xs.length = n) (hr : ∀ i, i < n → (rw_ xs i).length = n) (h : ∀ j, Rw xs 0 j = 0) : detN n xs = 0 := by
  rcases (show n = 1 ∨ n = 2 ∨ n = 3 ∨ n = 4 by omega) with rfl | rfl | rfl | rfl
  · rw [det1 hl hr]; exact h 0
  · rw [det2 hl hr]; unfold D2; simp [h]
  · rw [det3 hl hr]; unfold D3 D2; simp [h]
  · rw [det4 hl hr]; unfold D4 D3 D2; simp [h]
theorem det_of2 (h1 : 2 ≤ n) (h4 : n ≤ 4) (hl : xs.length = n) (hr : ∀ i, i < n → (rw_ xs i).length = n) (h : ∀ i j, D2 (Rw xs 0) (Rw xs 1) i j = 0) : detN n xs = 0 := by
  rcases (show n = 2 ∨ n = 3 ∨ n = 4 by omega) with rfl | rfl | rfl
  · rw [det2 hl hr]; exact h 0 1
  · rw [det3 hl hr]; unfold D3; simp [h]
  · rw [det4 hl hr]; unfold D4 D3; simp [h]
theorem det_of3 (h1 : 3 ≤ n) (h4 : n ≤ 4) (hl : xs.length = n) (hr : ∀ i, i < n → (rw_ xs i).length = n) (h : ∀ i j k, D3 (Rw xs 0) (Rw xs 1) (Rw xs 2) i j k = 0) : detN n xs = 0 := by
  rcases (show n = 3 ∨ n = 4 by omega) with rfl | rfl
  · rw [det3 hl hr]; exact h 0 1 2
  · rw [det4 hl hr]; unfold D4; simp [h]
end
theorem D2_e {a b c d : Nat → Int} {e : Int} (h : ∀ j, a j = e * c j) (i j : Nat) : D2 a b i j = e * D2 c b i j := by
  unfold D2; rw [h, h]; grind
theorem D3_e {a b c d v : Nat → Int} {e : Int} (h : ∀ i j, D2 a b i j = e * D2 c d i j) (i j k : Nat) : D3 a b v i j k = e * D3 c d v i j k := by
  unfold D3; rw [h, h, h]; grind
theorem D4_e {a b c d f g v : Nat → Int} {e : Int} (h : ∀ i j k, D3 a b c i j k = e * D3 d f g i j k) : D4 a b c v = e * D4 d f g v := by
  unfold D4; rw [h, h, h, h]; grind
/-- after i rows -/
def UnI (n : Nat) (xs : List (List Int)) (i : Nat) (bs : List (List Int)) : Prop :=
  Ech n bs ∧ ((filN bs n + 1 ≤ i ∧ detN n xs = 0) ∨ (i = 0 ∧ ∀ j, j < n → rw_ bs j = []) ∨
    (i = 1 ∧ ∃ x e, x < n ∧ (∀ j, j < n → (rw_ bs j ≠ [] ↔ j = x)) ∧ 1 ≤ Rw bs x x ∧ Sg1 e ∧ ∀ j, Rw bs x j = e * Rw xs 0 j) ∨
    (i = 2 ∧ ∃ x y e, Ti2 n bs x y ∧ Sg1 e ∧ ∀ i j, D2 (Rw bs x) (Rw bs y) i j = e * D2 (Rw xs 0) (Rw xs 1) i j) ∨
    (i = 3 ∧ ∃ x y z e, Ti3 n bs x y z ∧ Sg1 e ∧ ∀ i j k, D3 (Rw bs x) (Rw bs y) (Rw bs z) i j k = e * D3 (Rw xs 0) (Rw xs 1) (Rw xs 2) i j k) ∨
    (i = 4 ∧ (∀ j, j < n → rw_ bs j ≠ []) ∧ (∀ j, j < n → 1 ≤ Rw bs j j) ∧ pdR bs 4 = (detN 4 xs).natAbs))
theorem det_small {n : Nat} {xs : List (List Int)} (h1 : 1 ≤ n) (h4 : n ≤ 4) (hl : xs.length = n) (hr : ∀ i, i < n → (rw_ xs i).length = n) (hb : ∀ i, i < n → ∀ j, (Rw xs i j).natAbs ≤ 64) : (detN n xs).natAbs ≤ 402653184 := by
  rcases (show n = 1 ∨ n = 2 ∨ n = 3 ∨ n = 4 by omega) with rfl | rfl | rfl | rfl
  · rw [det1 hl hr]; exact Nat.le_trans (hb 0 (by omega) 0) (by decide)
  · rw [det2 hl hr]; exact Nat.le_trans (D2_new (hb 0 (by omega)) (hb 1 (by omega)) 0 1) (by decide)
  · rw [det3 hl hr]; exact Nat.le_trans (D3_new (D2_new (hb 0 (by omega)) (hb 1 (by omega))) (hb 2 (by omega)) 0 1 2) (by decide)
  · rw [det4 hl hr]; exact D4_new (D3_new (D2_new (hb 0 (by omega)) (hb 1 (by omega))) (hb 2 (by omega))) (hb 3 (by omega))
theorem UnI.step {n i : Nat} {xs bs bs' : List (List Int)} {v' : List Int} (h1 : 1 ≤ n) (h4 : n ≤ 4) (hl : xs.length = n) (hr : ∀ i, i < n → (rw_ xs i).length = n) (hb : ∀ i, i < n → ∀ j, (Rw xs i j).natAbs ≤ 64) (hi : i < n) (h : UnI n xs i bs) (hp : PassR n (bs, rw_ xs i) n (bs', v')) : UnI n xs (i + 1) (tidyN n bs') := by
  obtain ⟨he, h⟩ := h
  have hv : Hnd n 0 (rw_ xs i) := ⟨hr i hi, fun j hj => by omega, fun j hj => by have := hb i hi j; unfold Rw at this; unfold I64; omega⟩
  have hk := hp.keep (Nat.le_refl _) he hv
  have he' : Ech n bs' := hk.1
  have hx := hp.toX
  have hany := pass_any hx he.len (Nat.le_refl _)
  have hl' := he'.len
  refine ⟨he'.tidyN n (Nat.le_refl _), ?_⟩
  have htn : filN (tidyN n bs') n ≤ filN bs' n := filN_le n (fun j hj h2 => (tidyN_fil hl' hj).1 h2)
  have zero : (∀ j, j < n → rw_ bs' j ≠ [] → rw_ bs j ≠ []) → filN bs n ≤ i → detN n xs = 0 → (filN (tidyN n bs') n + 1 ≤ i + 1 ∧ detN n xs = 0) := fun h2 h3 h4 => by
    have := filN_le n h2
    exact ⟨by omega, h4⟩
  have hw : ∀ j, (el (rw_ xs i) j).natAbs ≤ 64 := hb i hi
  rcases h with ⟨k1, k2⟩ | ⟨rfl, k1⟩ | ⟨rfl, x, e, k1, k2, k3, k4, k5⟩ | ⟨rfl, x, y, e, k1, k2, k3⟩ | ⟨rfl, x, y, z, e, k1, k2, k3⟩ | ⟨rfl, _⟩
  · left
    refine ⟨?_, k2⟩
    rcases hany.2 with h2 | ⟨_, k, h2⟩
    · have : filN bs' n ≤ filN bs n := filN_le n h2
      omega
    · have : filN bs' n ≤ filN bs n + if k < n then 1 else 0 := filN_le1 n h2
      split at this <;> omega
  · rcases pass0 hx he hv h1 k1 with ⟨x, x1, x2, x3⟩ | ⟨x1, x2⟩
    · obtain ⟨e, e1, e2, e3⟩ := tidyE1 he' x1 x2 (fun j => by rw [x3]; exact hw j)
      exact .inr (.inr (.inl ⟨rfl, x, e, x1, fun j hj => by rw [tidyN_fil hl' hj]; exact x2 j hj, e3, e1, fun j => by rw [e2]; congr 1; exact x3 j⟩))
    · exact .inl (zero x1 (filN_list n [] (fun j hj h2 => absurd (k1 j hj) h2)) (det_of1 h1 h4 hl hr x2))
  · have ha : ∀ j, (Rw bs x j).natAbs ≤ 64 := fun j => by rw [k5, natAbs_sg k4]; exact hb 0 (by omega) j
    have hd : ∀ i j, D2 (Rw bs x) (el (rw_ xs 1)) i j = e * D2 (Rw xs 0) (Rw xs 1) i j := fun i j => D2_e (d := Rw xs 1) k5 i j
    rcases pass1 hx he hv k1 k2 ha hw with ⟨x1, x2, f, g1, g2, g3, g4, g5, g6, g7⟩ | ⟨g1, g2⟩
    · have hd2 : ∀ i j, D2 (Rw bs' x1) (Rw bs' x2) i j = f * e * D2 (Rw xs 0) (Rw xs 1) i j := fun i j => by rw [g7, hd]; grind
      obtain ⟨t1, t, t2, t3⟩ := tidyE2 he' g1 g2 g3 g4 g5 (fun i j => by rw [hd2, natAbs_sg (g6.mul k4)]; exact D2_new (hb 0 (by omega)) (hb 1 hi) i j)
      exact .inr (.inr (.inr (.inl ⟨rfl, x1, x2, t * (f * e), t1, t2.mul (g6.mul k4), fun i j => by rw [t3, hd2]; grind⟩)))
    · refine .inl (zero g1 (filN_list n [x] (fun j hj h2 => by rw [(k2 j hj).1 h2]; simp)) (det_of2 (by omega) h4 hl hr fun i j => k4.zero ?_))
      rw [← hd i j]; exact g2 i j
  · have hd : ∀ i j k, D3 (Rw bs x) (Rw bs y) (el (rw_ xs 2)) i j k = e * D3 (Rw xs 0) (Rw xs 1) (Rw xs 2) i j k := fun i j k => D3_e k3 i j k
    rcases pass2 hx he hv k1.xy k1.yn k1.fil k1.ba k1.bb hw with ⟨x1, x2, x3, f, g1, g2, g3, g4, g5, g6, g7, g8, g9⟩ | ⟨g1, g2⟩
    · have hd2 : ∀ i j k, D3 (Rw bs' x1) (Rw bs' x2) (Rw bs' x3) i j k = f * e * D3 (Rw xs 0) (Rw xs 1) (Rw xs 2) i j k := fun i j k => by rw [g9, hd]; grind
      obtain ⟨t1, t, t2, t3⟩ := tidyE3 he' g1 g2 g3 g4 g5 g6 g7 (fun i j k => by rw [hd2, natAbs_sg (g8.mul k2)]; exact D3_new (D2_new (hb 0 (by omega)) (hb 1 (by omega))) (hb 2 hi) i j k)
      exact .inr (.inr (.inr (.inr (.inl ⟨rfl, x1, x2, x3, t * (f * e), t1, t2.mul (g8.mul k2), fun i j k => by rw [t3, hd2]; grind⟩))))
    · refine .inl (zero g1 (filN_list n [x, y] (fun j hj h2 => by have := (k1.fil j hj).1 h2; simp [this])) (det_of3 (by omega) h4 hl hr fun i j k => k2.zero ?_))
      rw [← hd i j k]; exact g2 i j k
  · obtain rfl : n = 4 := by omega
    have hd : D4 (Rw bs x) (Rw bs y) (Rw bs z) (el (rw_ xs 3)) = e * D4 (Rw xs 0) (Rw xs 1) (Rw xs 2) (Rw xs 3) := D4_e k3
    rcases pass3 hx he hv k1.xy k1.yz k1.zn k1.fil (fun j => (k1.small j).1) (fun j => (k1.small j).2.1) (fun j => (k1.small j).2.2) hw (k1.old hw) with ⟨f, g1, g2, g3⟩ | ⟨g1, g2⟩
    · have hd2 : D4 (Rw bs' 0) (Rw bs' 1) (Rw bs' 2) (Rw bs' 3) = f * e * detN 4 xs := by rw [g3, hd, det4 hl hr]; grind
      obtain ⟨_, p0, q0, _⟩ := he'.full (x := 0) (by omega) (g1 0 (by omega))
      obtain ⟨_, p1, q1, _⟩ := he'.full (x := 1) (by omega) (g1 1 (by omega))
      obtain ⟨_, p2, q2, _⟩ := he'.full (x := 2) (by omega) (g1 2 (by omega))
      obtain ⟨_, p3, q3, _⟩ := he'.full (x := 3) (by omega) (g1 3 (by omega))
      have tri : D4 (Rw bs' 0) (Rw bs' 1) (Rw bs' 2) (Rw bs' 3) = Rw bs' 0 0 * Rw bs' 1 1 * Rw bs' 2 2 * Rw bs' 3 3 := by
        unfold D4 D3 D2
        rw [q1 0 (by omega), q2 0 (by omega), q2 1 (by omega), q3 0 (by omega), q3 1 (by omega), q3 2 (by omega)]
        grind
      have hs := det_small h1 h4 hl hr hb
      have hp4 : (Rw bs' 0 0).natAbs * (Rw bs' 1 1).natAbs * (Rw bs' 2 2).natAbs * (Rw bs' 3 3).natAbs = (detN 4 xs).natAbs := by
        rw [← na_mul, ← na_mul, ← na_mul, ← tri, hd2, natAbs_sg (g2.mul k2)]
      have n0 : 0 < (Rw bs' 0 0).natAbs := by omega
      have n1 : 0 < (Rw bs' 1 1).natAbs := by omega
      have n2 : 0 < (Rw bs' 2 2).natAbs := by omega
      have n3 : 0 < (Rw bs' 3 3).natAbs := by omega
      have b3 : (Rw bs' 3 3).natAbs ≤ 402653184 := Nat.le_trans (Nat.le_mul_of_pos_left _ (Nat.mul_pos (Nat.mul_pos n0 n1) n2)) (by rw [hp4]; exact hs)
      have b2' : (Rw bs' 0 0).natAbs * (Rw bs' 1 1).natAbs * (Rw bs' 2 2).natAbs ≤ 402653184 := Nat.le_trans (Nat.le_mul_of_pos_right _ n3) (by rw [hp4]; exact hs)
      have b2 : (Rw bs' 2 2).natAbs ≤ 402653184 := Nat.le_trans (Nat.le_mul_of_pos_left _ (Nat.mul_pos n0 n1)) b2'
      have b1' : (Rw bs' 0 0).natAbs * (Rw bs' 1 1).natAbs ≤ 402653184 := Nat.le_trans (Nat.le_mul_of_pos_right _ n2) b2'
      have b1 : (Rw bs' 1 1).natAbs ≤ 402653184 := Nat.le_trans (Nat.le_mul_of_pos_left _ n0) b1'
      have b0 : (Rw bs' 0 0).natAbs ≤ 402653184 := Nat.le_trans (Nat.le_mul_of_pos_right _ n1) b1'
      have dg := tidyN_diag he' (fun c hc => by
        rcases (show c = 0 ∨ c = 1 ∨ c = 2 ∨ c = 3 by omega) with rfl | rfl | rfl | rfl <;> omega) 4 (Nat.le_refl _)
      refine .inr (.inr (.inr (.inr (.inr ⟨rfl, fun j hj => (tidyN_fil hl' hj).2 (g1 j hj), fun j hj => ?_, ?_⟩))))
      · rw [dg j hj, if_pos hj]
        rcases (show j = 0 ∨ j = 1 ∨ j = 2 ∨ j = 3 by omega) with rfl | rfl | rfl | rfl <;> omega
      · show ((((1 : Int) * Rw (tidyN 4 bs') 0 0) * Rw (tidyN 4 bs') 1 1) * Rw (tidyN 4 bs') 2 2) * Rw (tidyN 4 bs') 3 3 = _
        rw [dg 0 (by omega), dg 1 (by omega), dg 2 (by omega), dg 3 (by omega), if_pos (by omega), if_pos (by omega), if_pos (by omega), if_pos (by omega), ← hp4]
        simp
    · refine .inl (zero g1 (filN_list 4 [x, y, z] (fun j hj h2 => by have := (k1.fil j hj).1 h2; simp [this])) ?_)
      rw [det4 hl hr]
      refine k2.zero ?_
      rw [← hd]; exact g2
  · omega
theorem UnI.all {n : Nat} {xs : List (List Int)} (h1 : 1 ≤ n) (h4 : n ≤ 4) (hl : xs.length = n) (hr : ∀ i, i < n → (rw_ xs i).length = n) (hb : ∀ i, i < n → ∀ j, (Rw xs i j).natAbs ≤ 64) {i : Nat} {bs : List (List Int)} (h : RndR n xs i bs) : i ≤ n → UnI n xs i bs := by
  induction h with
  | start => exact fun _ => ⟨Ech.start n, .inr (.inl ⟨rfl, fun j hj => rw_tab hj⟩)⟩
  | step hq hp ih => exact fun hi => UnI.step h1 h4 hl hr hb (by omega) (ih (by omega)) hp
/-- the index that the program computes -/
theorem uni_index {n : Nat} {xs bs : List (List Int)} (h1 : 1 ≤ n) (h4 : n ≤ 4) (hl : xs.length = n) (hr : ∀ i, i < n → (rw_ xs i).length = n) (hb : ∀ i, i < n → ∀ j, (Rw xs i j).natAbs ≤ 64) (h : RndR n xs n bs) :
    (filN bs n < n ∧ detN n xs = 0) ∨ ((∀ j, j < n → rw_ bs j ≠ []) ∧ pdW bs n = ((detN n xs).natAbs : Int)) := by
  obtain ⟨he, h⟩ := UnI.all h1 h4 hl hr hb h (Nat.le_refl _)
  have hs := det_small h1 h4 hl hr hb
  have fin : (∀ j, j < n → 1 ≤ Rw bs j j) → pdR bs n = ((detN n xs).natAbs : Int) → pdW bs n = ((detN n xs).natAbs : Int) := fun k1 k2 => by
    rw [pdW_eq k1 (by rw [k2]; omega) n (Nat.le_refl _)]; exact k2
  rcases h with ⟨k1, k2⟩ | ⟨rfl, k1⟩ | ⟨rfl, x, e, k1, k2, k3, k4, k5⟩ | ⟨rfl, x, y, e, k1, k2, k3⟩ | ⟨rfl, x, y, z, e, k1, k2, k3⟩ | ⟨rfl, k1, k2, k3⟩
  · exact .inl ⟨by omega, k2⟩
  · omega
  · obtain rfl : x = 0 := by omega
    refine .inr ⟨fun j hj => (k2 j hj).2 (by omega), fin (fun j hj => (by obtain rfl : j = 0 := (by omega); exact k3)) ?_⟩
    have hd : Rw bs 0 0 = e * detN 1 xs := by rw [det1 hl hr]; exact k5 0
    have := k4.abs hd
    show (1 : Int) * Rw bs 0 0 = _
    omega
  · obtain ⟨rfl, rfl⟩ : x = 0 ∧ y = 1 := by have := k1.xy; have := k1.yn; omega
    refine .inr ⟨fun j hj => (k1.fil j hj).2 (by omega), fin (fun j hj => ?_) ?_⟩
    · rcases (show j = 0 ∨ j = 1 by omega) with rfl | rfl
      · exact k1.ax
      · exact k1.by1
    · have hd : pdR bs 2 = e * detN 2 xs := by
        rw [det2 hl hr, ← k3 0 1]
        show (1 : Int) * Rw bs 0 0 * Rw bs 1 1 = _
        unfold D2
        rw [k1.bx]; grind
      have := k2.abs hd
      have := pdR_pos (bs := bs) 2 (fun j hj => by rcases (show j = 0 ∨ j = 1 by omega) with rfl | rfl; exact k1.ax; exact k1.by1)
      omega
  · obtain ⟨rfl, rfl, rfl⟩ : x = 0 ∧ y = 1 ∧ z = 2 := by have := k1.xy; have := k1.yz; have := k1.zn; omega
    refine .inr ⟨fun j hj => (k1.fil j hj).2 (by omega), fin (fun j hj => ?_) ?_⟩
    · rcases (show j = 0 ∨ j = 1 ∨ j = 2 by omega) with rfl | rfl | rfl
      · exact k1.ax
      · exact k1.by1
      · exact k1.cz
    · have hd : pdR bs 3 = e * detN 3 xs := by
        rw [det3 hl hr, ← k3 0 1 2]
        show (1 : Int) * Rw bs 0 0 * Rw bs 1 1 * Rw bs 2 2 = _
        unfold D3 D2
        rw [k1.bx, k1.cx, k1.cy]; grind
      have := k2.abs hd
      have := pdR_pos (bs := bs) 3 (fun j hj => by rcases (show j = 0 ∨ j = 1 ∨ j = 2 by omega) with rfl | rfl | rfl; exact k1.ax; exact k1.by1; exact k1.cz)
      omega
  · exact .inr ⟨k1, fin k2 k3⟩
end Go.Proofs.Ytcnphhcdjhmmkaa
