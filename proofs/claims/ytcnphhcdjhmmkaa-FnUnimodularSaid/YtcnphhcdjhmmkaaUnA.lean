/- Determinants of two, three and four rows, and what rows in echelon form may hold if their determinants are small. No program in sight. -/
import Derived.Test.YtcnphhcdjhmmkaaCau2
set_option linter.unusedVariables false
set_option linter.unusedSimpArgs false
namespace Go.Proofs.Ytcnphhcdjhmmkaa
def D2 (a b : Nat → Int) (i j : Nat) : Int := a i * b j - a j * b i
def D3 (a b c : Nat → Int) (i j k : Nat) : Int := c k * D2 a b i j - c j * D2 a b i k + c i * D2 a b j k
def D4 (a b c d : Nat → Int) : Int := d 3 * D3 a b c 0 1 2 - d 2 * D3 a b c 0 1 3 + d 1 * D3 a b c 0 2 3 - d 0 * D3 a b c 1 2 3
theorem na_mul (a b : Int) : (a * b).natAbs = a.natAbs * b.natAbs := Int.natAbs_mul a b
theorem na_unit {a : Int} (h : a = 1 ∨ a = -1) (x : Int) : (a * x).natAbs = x.natAbs := by
  rcases h with rfl | rfl
  · rw [Int.one_mul]
  · rw [na_mul]; simp
theorem D2_new {a v : Nat → Int} (ha : ∀ j, (a j).natAbs ≤ 64) (hv : ∀ j, (v j).natAbs ≤ 64) (i j : Nat) : (D2 a v i j).natAbs ≤ 8192 := by
  have h1 : (a i * v j).natAbs ≤ 64 * 64 := by rw [na_mul]; exact Nat.mul_le_mul (ha i) (hv j)
  have h2 : (a j * v i).natAbs ≤ 64 * 64 := by rw [na_mul]; exact Nat.mul_le_mul (ha j) (hv i)
  unfold D2
  omega
theorem D3_new {a b v : Nat → Int} (h : ∀ i j, (D2 a b i j).natAbs ≤ 8192) (hv : ∀ j, (v j).natAbs ≤ 64) (i j k : Nat) : (D3 a b v i j k).natAbs ≤ 1572864 := by
  have h1 : (v k * D2 a b i j).natAbs ≤ 64 * 8192 := by rw [na_mul]; exact Nat.mul_le_mul (hv k) (h i j)
  have h2 : (v j * D2 a b i k).natAbs ≤ 64 * 8192 := by rw [na_mul]; exact Nat.mul_le_mul (hv j) (h i k)
  have h3 : (v i * D2 a b j k).natAbs ≤ 64 * 8192 := by rw [na_mul]; exact Nat.mul_le_mul (hv i) (h j k)
  unfold D3
  omega
theorem D4_new {a b c v : Nat → Int} (h : ∀ i j k, (D3 a b c i j k).natAbs ≤ 1572864) (hv : ∀ j, (v j).natAbs ≤ 64) : (D4 a b c v).natAbs ≤ 402653184 := by
  have h1 : (v 3 * D3 a b c 0 1 2).natAbs ≤ 64 * 1572864 := by rw [na_mul]; exact Nat.mul_le_mul (hv 3) (h 0 1 2)
  have h2 : (v 2 * D3 a b c 0 1 3).natAbs ≤ 64 * 1572864 := by rw [na_mul]; exact Nat.mul_le_mul (hv 2) (h 0 1 3)
  have h3 : (v 1 * D3 a b c 0 2 3).natAbs ≤ 64 * 1572864 := by rw [na_mul]; exact Nat.mul_le_mul (hv 1) (h 0 2 3)
  have h4 : (v 0 * D3 a b c 1 2 3).natAbs ≤ 64 * 1572864 := by rw [na_mul]; exact Nat.mul_le_mul (hv 0) (h 1 2 3)
  unfold D4
  omega
/-! ### two rows mixed -/
theorem D2_mat {a b a' b' : Nat → Int} {p q r s : Int} (ha : ∀ j, a' j = p * a j + q * b j) (hb : ∀ j, b' j = r * a j + s * b j) (i j : Nat) : D2 a' b' i j = (p * s - q * r) * D2 a b i j := by
  unfold D2
  rw [ha, ha, hb, hb]
  grind
theorem D3_23 {a b c b' c' : Nat → Int} {p q r s : Int} (hb : ∀ j, b' j = p * b j + q * c j) (hc : ∀ j, c' j = r * b j + s * c j) (i j k : Nat) : D3 a b' c' i j k = (p * s - q * r) * D3 a b c i j k := by
  have e : ∀ b c : Nat → Int, D3 a b c i j k = a i * D2 b c j k - a j * D2 b c i k + a k * D2 b c i j := fun b c => by unfold D3 D2; grind
  rw [e, e, D2_mat hb hc, D2_mat hb hc, D2_mat hb hc]
  grind
theorem D3_13 {a b c a' c' : Nat → Int} {p q r s : Int} (ha : ∀ j, a' j = p * a j + q * c j) (hc : ∀ j, c' j = r * a j + s * c j) (i j k : Nat) : D3 a' b c' i j k = (p * s - q * r) * D3 a b c i j k := by
  have e : ∀ a c : Nat → Int, D3 a b c i j k = -(b i * D2 a c j k - b j * D2 a c i k + b k * D2 a c i j) := fun a c => by unfold D3 D2; grind
  rw [e, e, D2_mat ha hc, D2_mat ha hc, D2_mat ha hc]
  grind
theorem D3_swap12 (a b c : Nat → Int) (i j k : Nat) : D3 b a c i j k = -D3 a b c i j k := by unfold D3 D2; grind
theorem D3_swap23 (a b c : Nat → Int) (i j k : Nat) : D3 a c b i j k = -D3 a b c i j k := by unfold D3 D2; grind
theorem D2_swap (a b : Nat → Int) (i j : Nat) : D2 b a i j = -D2 a b i j := by unfold D2; grind
theorem D4_lap34 (a b c d : Nat → Int) : D4 a b c d = D2 a b 0 1 * D2 c d 2 3 - D2 a b 0 2 * D2 c d 1 3 + D2 a b 0 3 * D2 c d 1 2 + D2 a b 1 2 * D2 c d 0 3 - D2 a b 1 3 * D2 c d 0 2 + D2 a b 2 3 * D2 c d 0 1 := by
  unfold D4 D3 D2; grind
theorem D4_swap12 (a b c d : Nat → Int) : D4 b a c d = -D4 a b c d := by unfold D4; simp only [D3_swap12 a b]; grind
theorem D4_swap23 (a b c d : Nat → Int) : D4 a c b d = -D4 a b c d := by unfold D4; simp only [D3_swap23 a b]; grind
theorem D4_swap34 (a b c d : Nat → Int) : D4 a b d c = -D4 a b c d := by rw [D4_lap34, D4_lap34]; simp only [D2_swap c d]; grind
theorem D4_34 {a b c d c' d' : Nat → Int} {p q r s : Int} (hc : ∀ j, c' j = p * c j + q * d j) (hd : ∀ j, d' j = r * c j + s * d j) : D4 a b c' d' = (p * s - q * r) * D4 a b c d := by
  rw [D4_lap34, D4_lap34]
  simp only [D2_mat hc hd]
  grind
theorem D4_24 {a b c d b' d' : Nat → Int} {p q r s : Int} (hb : ∀ j, b' j = p * b j + q * d j) (hd : ∀ j, d' j = r * b j + s * d j) : D4 a b' c d' = (p * s - q * r) * D4 a b c d := by
  rw [← Int.neg_neg (D4 a b' c d'), ← D4_swap23, D4_34 hb hd, D4_swap23]; grind
theorem D4_14 {a b c d a' d' : Nat → Int} {p q r s : Int} (ha : ∀ j, a' j = p * a j + q * d j) (hd : ∀ j, d' j = r * a j + s * d j) : D4 a' b c d' = (p * s - q * r) * D4 a b c d := by
  rw [← Int.neg_neg (D4 a' b c d'), ← D4_swap12, D4_24 ha hd, D4_swap12]; grind
/-! ### small determinants, small rows -/
theorem small2 {a b : Nat → Int} {x y K : Nat} (ax : 1 ≤ a x) (bx : b x = 0) (by1 : 1 ≤ b y) (a0 : 0 ≤ a y) (a1 : a y < b y) (h : ∀ i j, (D2 a b i j).natAbs ≤ K) (j : Nat) : (a j).natAbs ≤ K ∧ (b j).natAbs ≤ K := by
  have h1 := h x j
  have e1 : D2 a b x j = a x * b j := by unfold D2; rw [bx]; grind
  rw [e1, na_mul] at h1
  have hb : (b j).natAbs ≤ K := Nat.le_trans (Nat.le_mul_of_pos_left _ (by omega)) h1
  refine ⟨?_, hb⟩
  have h2 := h y j
  have e2 : a j * b y = a y * b j - D2 a b y j := by unfold D2; grind
  have e3 : (a j).natAbs * (b y).natAbs ≤ (a y).natAbs * (b j).natAbs + K := by rw [← na_mul, ← na_mul]; rw [e2]; omega
  obtain ⟨m, hm⟩ : ∃ m : Nat, (b y).natAbs = m + 1 := ⟨(b y).natAbs - 1, by omega⟩
  have e4 : (a y).natAbs * (b j).natAbs ≤ m * K := Nat.mul_le_mul (by omega) hb
  have e5 : (a j).natAbs * (m + 1) ≤ K * (m + 1) := by rw [hm] at e3; rw [Nat.mul_succ K m, Nat.mul_comm K m]; omega
  exact Nat.le_of_mul_le_mul_right e5 (by omega)
theorem small3 {a b c : Nat → Int} {x y z K : Nat} (ax : 1 ≤ a x) (bx : b x = 0) (cx : c x = 0) (by1 : 1 ≤ b y) (cy : c y = 0) (cz : 1 ≤ c z) (a0 : 0 ≤ a y) (a1 : a y < b y) (a2 : 0 ≤ a z) (a3 : a z < c z) (b0 : 0 ≤ b z) (b1 : b z < c z) (h : ∀ i j k, (D3 a b c i j k).natAbs ≤ K) (j : Nat) : (a j).natAbs ≤ K ∧ (b j).natAbs ≤ K ∧ (c j).natAbs ≤ K := by
  have h1 : (b y * c j).natAbs ≤ K := by
    have := h x y j
    have e1 : D3 a b c x y j = a x * (b y * c j) := by unfold D3 D2; rw [bx, cx, cy]; grind
    rw [e1, na_mul] at this
    exact Nat.le_trans (Nat.le_mul_of_pos_left _ (by omega)) this
  have hc : (c j).natAbs ≤ K := by
    rw [na_mul] at h1
    exact Nat.le_trans (Nat.le_mul_of_pos_left _ (by omega)) h1
  have h2 : (D2 b c z j).natAbs ≤ K := by
    have := h x z j
    have e1 : D3 a b c x z j = a x * D2 b c z j := by unfold D3 D2; rw [bx, cx]; grind
    rw [e1, na_mul] at this
    exact Nat.le_trans (Nat.le_mul_of_pos_left _ (by omega)) this
  obtain ⟨m, hm⟩ : ∃ m : Nat, (c z).natAbs = m + 1 := ⟨(c z).natAbs - 1, by omega⟩
  obtain ⟨l, hl⟩ : ∃ l : Nat, (b y).natAbs = l + 1 := ⟨(b y).natAbs - 1, by omega⟩
  have hb : (b j).natAbs ≤ K := by
    have e2 : b j * c z = b z * c j - D2 b c z j := by unfold D2; grind
    have e3 : (b j).natAbs * (c z).natAbs ≤ (b z).natAbs * (c j).natAbs + K := by rw [← na_mul, ← na_mul, e2]; omega
    have e4 : (b z).natAbs * (c j).natAbs ≤ m * K := Nat.mul_le_mul (by omega) hc
    have e5 : (b j).natAbs * (m + 1) ≤ K * (m + 1) := by rw [hm] at e3; rw [Nat.mul_succ K m, Nat.mul_comm K m]; omega
    exact Nat.le_of_mul_le_mul_right e5 (by omega)
  refine ⟨?_, hb, hc⟩
  have h3 := h y z j
  have e2 : a j * (b y * c z) = D3 a b c y z j - a y * D2 b c z j + a z * (b y * c j) := by unfold D3 D2; rw [cy]; grind
  have e3 : (a j).natAbs * ((l + 1) * (m + 1)) ≤ K + (a y).natAbs * (D2 b c z j).natAbs + (a z).natAbs * (b y * c j).natAbs := by
    rw [← hl, ← hm, ← na_mul, ← na_mul, ← na_mul, ← na_mul, e2]; omega
  have e4 : (a y).natAbs * (D2 b c z j).natAbs ≤ l * K := Nat.mul_le_mul (by omega) h2
  have e5 : (a z).natAbs * (b y * c j).natAbs ≤ m * K := Nat.mul_le_mul (by omega) h1
  have e6 : K + l * K + m * K ≤ K * ((l + 1) * (m + 1)) := by
    have : K * ((l + 1) * (m + 1)) = K + l * K + m * K + K * (l * m) := by grind
    omega
  exact Nat.le_of_mul_le_mul_right (Nat.le_trans (by omega) (Nat.le_trans (Nat.add_le_add (Nat.add_le_add_left e4 K) e5) e6)) (Nat.mul_pos (by omega) (by omega))
theorem small3D {a b c : Nat → Int} {x y z K : Nat} (ax : 1 ≤ a x) (bx : b x = 0) (cx : c x = 0) (by1 : 1 ≤ b y) (cy : c y = 0) (cz : 1 ≤ c z) (a0 : 0 ≤ a y) (a1 : a y < b y) (a2 : 0 ≤ a z) (a3 : a z < c z) (b0 : 0 ≤ b z) (b1 : b z < c z) (h : ∀ i j k, (D3 a b c i j k).natAbs ≤ K) (u : Nat) : (D2 a b x u).natAbs ≤ K ∧ (D2 a b y u).natAbs ≤ K := by
  obtain ⟨m, hm⟩ : ∃ m : Nat, (c z).natAbs = m + 1 := ⟨(c z).natAbs - 1, by omega⟩
  have h1 : (c u * a x).natAbs * (b y).natAbs ≤ K := by
    have := h x y u
    have e1 : D3 a b c x y u = c u * a x * b y := by unfold D3 D2; rw [bx, cx, cy]; grind
    rwa [e1, na_mul] at this
  have h2 : (c u * a x).natAbs ≤ K := Nat.le_trans (Nat.le_mul_of_pos_right _ (by omega)) h1
  have h3 : (c u).natAbs * (b y).natAbs ≤ K := by
    rw [na_mul] at h1
    refine Nat.le_trans (Nat.mul_le_mul_right _ ?_) h1
    exact Nat.le_mul_of_pos_right _ (by omega)
  constructor
  · have e2 : D2 a b x u * c z = c u * a x * b z - D3 a b c x z u := by unfold D3 D2; rw [bx, cx]; grind
    have k1 := h x z u
    have e3 : (D2 a b x u).natAbs * (c z).natAbs ≤ (c u * a x).natAbs * (b z).natAbs + K := by rw [← na_mul, ← na_mul, e2]; omega
    have e4 : (c u * a x).natAbs * (b z).natAbs ≤ K * m := Nat.mul_le_mul h2 (by omega)
    rw [hm] at e3
    have e5 : (D2 a b x u).natAbs * (m + 1) ≤ K * (m + 1) := by rw [Nat.mul_succ K m]; omega
    exact Nat.le_of_mul_le_mul_right e5 (by omega)
  · have e2 : D2 a b y u * c z = c u * D2 a b y z - D3 a b c y z u := by unfold D3 D2; rw [cy]; grind
    have k1 := h y z u
    have k2 : (D2 a b y z).natAbs ≤ (b y).natAbs * m := by
      have g1 : (a y * b z).natAbs ≤ (b y).natAbs * m := by rw [na_mul]; exact Nat.mul_le_mul (by omega) (by omega)
      have g2 : (a z * b y).natAbs ≤ (b y).natAbs * m := by rw [na_mul, Nat.mul_comm]; exact Nat.mul_le_mul (by omega) (by omega)
      have g3 : 0 ≤ a y * b z := Int.mul_nonneg a0 b0
      have g4 : 0 ≤ a z * b y := Int.mul_nonneg a2 (by omega)
      unfold D2
      omega
    have e3 : (D2 a b y u).natAbs * (c z).natAbs ≤ (c u).natAbs * (D2 a b y z).natAbs + K := by rw [← na_mul, ← na_mul, e2]; omega
    have e4 : (c u).natAbs * (D2 a b y z).natAbs ≤ K * m := by
      refine Nat.le_trans (Nat.mul_le_mul_left _ k2) ?_
      rw [← Nat.mul_assoc]
      exact Nat.mul_le_mul_right _ h3
    rw [hm] at e3
    have e5 : (D2 a b y u).natAbs * (m + 1) ≤ K * (m + 1) := by rw [Nat.mul_succ K m]; omega
    exact Nat.le_of_mul_le_mul_right e5 (by omega)
/-- three rows and a new one -/
theorem D3_old {a b v : Nat → Int} {x y K : Nat} (h : ∀ u, (D2 a b x u).natAbs ≤ K ∧ (D2 a b y u).natAbs ≤ K) (hv : ∀ j, (v j).natAbs ≤ 64) (u : Nat) : (D3 a b v x y u).natAbs ≤ 192 * K := by
  have h1 : (v u * D2 a b x y).natAbs ≤ 64 * K := by rw [na_mul]; exact Nat.mul_le_mul (hv u) (h y).1
  have h2 : (v y * D2 a b x u).natAbs ≤ 64 * K := by rw [na_mul]; exact Nat.mul_le_mul (hv y) (h u).1
  have h3 : (v x * D2 a b y u).natAbs ≤ 64 * K := by rw [na_mul]; exact Nat.mul_le_mul (hv x) (h u).2
  unfold D3
  omega
end Go.Proofs.Ytcnphhcdjhmmkaa
