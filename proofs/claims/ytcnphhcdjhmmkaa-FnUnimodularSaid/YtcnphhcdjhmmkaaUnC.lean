/- The program's tidy on one, two and three rows: exact as long as the numbers stay small. No program in sight. -/
import Derived.Test.YtcnphhcdjhmmkaaUnB
import Derived.Test.YtcnphhcdjhmmkaaHerT
set_option linter.unusedVariables false
set_option linter.unusedSimpArgs false
namespace Go.Proofs.Ytcnphhcdjhmmkaa
open Go.RowKit
theorem tidyN_gap {bs : List (List Int)} {c : Nat} : ∀ {k : Nat}, c ≤ k → k ≤ bs.length → (∀ j, c ≤ j → j < k → rw_ bs j = []) → tidyN k bs = tidyN c bs
  | 0, h, _, _ => by obtain rfl : c = 0 := by omega
                     rfl
  | k + 1, h, hl, hg => by
    by_cases e : c = k + 1
    · rw [e]
    · have ih := tidyN_gap (k := k) (by omega) (by omega) (fun j h1 h2 => hg j h1 (by omega))
      show tidy1 k (tidyN k bs) = _
      rw [tidy1_none ((tidyN_nil (by omega) k).2 (hg k (by omega) (by omega))), ih]
theorem fq_exact {a b : Int} (hb : 1 ≤ b) (ha : a.natAbs ≤ 4611686018427387904) : 0 ≤ a - fqW a b * b ∧ a - fqW a b * b < b ∧ (fqW a b).natAbs ≤ a.natAbs + 1 := by
  have h1 : (a.tdiv b).natAbs ≤ a.natAbs := by rw [Int.natAbs_tdiv]; exact Nat.div_le_self _ _
  have h2 := tmod_lt9 (a := a) (b := b) (by omega)
  have h3 : a.tmod b = a - b * a.tdiv b := Int.tmod_def a b
  have hq : quoW a b = a.tdiv b := by unfold quoW; exact wr64_in (by unfold I64; omega)
  unfold fqW
  rw [hq]
  by_cases h : a.tmod b < 0
  · rw [if_pos h, wr64_in (by unfold I64; omega)]
    have e : a - (a.tdiv b - 1) * b = a.tmod b + b := by rw [h3]; grind
    rw [e]
    refine ⟨by omega, by omega, by omega⟩
  · rw [if_neg h]
    have e : a - a.tdiv b * b = a.tmod b := by rw [h3]; grind
    rw [e]
    refine ⟨by omega, by omega, by omega⟩
/-- the pivot's row -/
theorem tidy1_piv {n c : Nat} {bs : List (List Int)} (hl : bs.length = n) (hc : c < n) (hf : rw_ bs c ≠ []) (hb : ∀ j, (Rw bs c j).natAbs ≤ 4611686018427387904) (h0 : Rw bs c c ≠ 0) : ∃ e, Sg1 e ∧ (∀ j, Rw (tidy1 c bs) c j = e * Rw bs c j) ∧ 1 ≤ e * Rw bs c c ∧ ∀ j, el (sgR c (rw_ bs c)) j = e * Rw bs c j := by
  have e0 : rw_ (tidy1 c bs) c = sgR c (rw_ bs c) := by rw [tidy1_row hf (by omega), if_pos rfl]
  by_cases h : Rw bs c c < 0
  · have e1 : ∀ j, el (sgR c (rw_ bs c)) j = -1 * Rw bs c j := fun j => by
      by_cases hj : j < (rw_ bs c).length
      · rw [sgR_el hj (by have := hb j; unfold Rw at this; unfold I64; omega), if_pos (show el (rw_ bs c) c < 0 from h)]
        have := hb j
        unfold Rw at this ⊢
        rw [wr64_in (by unfold I64; omega)]; omega
      · have z1 : el (sgR c (rw_ bs c)) j = 0 := el_ge (by rw [sgR_len]; omega)
        have z2 : Rw bs c j = 0 := el_ge (by omega)
        rw [z1, z2]; rfl
    exact ⟨-1, .inr rfl, fun j => by unfold Rw; rw [e0]; exact e1 j, by omega, e1⟩
  · have e1 : ∀ j, el (sgR c (rw_ bs c)) j = 1 * Rw bs c j := fun j => by
      unfold sgR
      rw [if_neg (show ¬ el (rw_ bs c) c < 0 from h)]; unfold Rw; omega
    exact ⟨1, .inl rfl, fun j => by unfold Rw; rw [e0]; exact e1 j, by omega, e1⟩
theorem tidy1_low {n c i : Nat} {bs : List (List Int)} (hl : bs.length = n) (hi : i < n) (hf : rw_ bs c ≠ []) (h : c < i) : Rw (tidy1 c bs) i = Rw bs i := by
  unfold Rw
  rw [tidy1_row hf (by omega), if_neg (by omega), if_neg (by omega)]
/-- a row above the pivot's, as long as it is small -/
theorem tidy1_up {n c i : Nat} {bs : List (List Int)} {p : Nat → Int} (hl : bs.length = n) (hi : i < n) (hf : rw_ bs c ≠ []) (hfi : rw_ bs i ≠ []) (h : i < c) (hp : ∀ j, el (sgR c (rw_ bs c)) j = p j) (hb : (Rw bs i c).natAbs ≤ 4611686018427387904) (hpc : 1 ≤ p c) (hz : ∀ j, n ≤ j → p j = 0) (hli : (rw_ bs i).length = n) :
    ∃ q : Int, 0 ≤ Rw bs i c - q * p c ∧ Rw bs i c - q * p c < p c ∧ q.natAbs ≤ (Rw bs i c).natAbs + 1 ∧ ∀ j, (Rw bs i j - q * p j).natAbs ≤ 4611686018427387904 → Rw (tidy1 c bs) i j = Rw bs i j - q * p j := by
  obtain ⟨g1, g2, g3⟩ := fq_exact (a := Rw bs i c) hpc hb
  refine ⟨fqW (Rw bs i c) (p c), g1, g2, g3, fun j hj => ?_⟩
  unfold Rw at hj ⊢
  rw [tidy1_row hf (by omega), if_neg (by omega), if_pos h, if_neg hfi, hp c]
  by_cases hjn : j < n
  · rw [subW_el (by omega), hp j]
    exact wr64_in (by unfold I64; omega)
  · have z1 : el (subW (fqW (el (rw_ bs i) c) (p c)) (rw_ bs i) (sgR c (rw_ bs c))) j = 0 := el_ge (by rw [subW_len]; omega)
    have z2 : el (rw_ bs i) j = 0 := el_ge (by omega)
    rw [z1, z2, hz j (by omega)]; simp
theorem tidy1_fil {n c i : Nat} {bs : List (List Int)} (hl : bs.length = n) (hi : i < n) : rw_ (tidy1 c bs) i ≠ [] ↔ rw_ bs i ≠ [] := not_congr (tidy1_nil (by omega))
theorem tidyN_fil {n c i : Nat} {bs : List (List Int)} (hl : bs.length = n) (hi : i < n) : rw_ (tidyN c bs) i ≠ [] ↔ rw_ bs i ≠ [] := not_congr (tidyN_nil (by omega) c)
theorem Ech.full {n x : Nat} {bs : List (List Int)} (he : Ech n bs) (hx : x < n) (hf : rw_ bs x ≠ []) : (rw_ bs x).length = n ∧ Rw bs x x ≠ 0 ∧ (∀ j, j < x → Rw bs x j = 0) ∧ ∀ j, n ≤ j → Rw bs x j = 0 := by
  rcases he.row x hx with h | ⟨h1, h2, h3⟩
  · exact absurd h hf
  · exact ⟨h1, h2, h3, fun j hj => el_ge (by omega)⟩
theorem tidyE1 {n x : Nat} {t : List (List Int)} (he : Ech n t) (hx : x < n) (hf : ∀ j, j < n → (rw_ t j ≠ [] ↔ j = x)) (ha : ∀ j, (Rw t x j).natAbs ≤ 64) :
    ∃ e, Sg1 e ∧ (∀ j, Rw (tidyN n t) x j = e * Rw t x j) ∧ 1 ≤ Rw (tidyN n t) x x := by
  have hl := he.len
  have hn : ∀ j, j < n → j ≠ x → rw_ t j = [] := fun j hj h => Classical.not_not.1 fun hn => h ((hf j hj).1 hn)
  have e1 : tidyN n t = tidy1 x t := by
    rw [tidyN_gap (c := x + 1) (by omega) (by omega) (fun j h1 h2 => hn j h2 (by omega))]
    show tidy1 x (tidyN x t) = _
    rw [tidyN_gap (c := 0) (k := x) (by omega) (by omega) (fun j h1 h2 => hn j (by omega) (by omega))]
    rfl
  obtain ⟨l1, l2, l3, l4⟩ := he.full hx ((hf x hx).2 rfl)
  obtain ⟨e, h1, h2, h3, _⟩ := tidy1_piv hl hx ((hf x hx).2 rfl) (fun j => Nat.le_trans (ha j) (by decide)) l2
  rw [e1]
  exact ⟨e, h1, h2, by rw [h2]; exact h3⟩
/-- two rows that are tidy -/
structure Ti2 (n : Nat) (bs : List (List Int)) (x y : Nat) : Prop where
  xy : x < y
  yn : y < n
  fil : ∀ j, j < n → (rw_ bs j ≠ [] ↔ j = x ∨ j = y)
  ax : 1 ≤ Rw bs x x
  bx : Rw bs y x = 0
  by1 : 1 ≤ Rw bs y y
  ba : ∀ j, (Rw bs x j).natAbs ≤ 8192
  bb : ∀ j, (Rw bs y j).natAbs ≤ 8192
theorem natAbs_sg {e x : Int} (h : Sg1 e) : (e * x).natAbs = x.natAbs := na_unit h x
theorem tidyE2 {n x y : Nat} {t : List (List Int)} (he : Ech n t) (hxy : x < y) (hy : y < n) (hf : ∀ j, j < n → (rw_ t j ≠ [] ↔ j = x ∨ j = y)) (ha : ∀ j, (Rw t x j).natAbs ≤ 8192) (hb : ∀ j, (Rw t y j).natAbs ≤ 8192) (hd : ∀ i j, (D2 (Rw t x) (Rw t y) i j).natAbs ≤ 8192) :
    Ti2 n (tidyN n t) x y ∧ ∃ e, Sg1 e ∧ ∀ i j, D2 (Rw (tidyN n t) x) (Rw (tidyN n t) y) i j = e * D2 (Rw t x) (Rw t y) i j := by
  have hl := he.len
  have hx : x < n := by omega
  have hn : ∀ j, j < n → j ≠ x → j ≠ y → rw_ t j = [] := fun j hj h h2 => Classical.not_not.1 fun hn => by have := (hf j hj).1 hn; omega
  have hfx := (hf x hx).2 (.inl rfl)
  have hfy := (hf y hy).2 (.inr rfl)
  have e1 : tidyN n t = tidy1 y (tidy1 x t) := by
    rw [tidyN_gap (c := y + 1) (by omega) (by omega) (fun j h1 h2 => hn j h2 (by omega) (by omega))]
    show tidy1 y (tidyN y t) = _
    rw [tidyN_gap (c := x + 1) (k := y) (by omega) (by omega) (fun j h1 h2 => hn j (by omega) (by omega) (by omega))]
    show tidy1 y (tidy1 x (tidyN x t)) = _
    rw [tidyN_gap (c := 0) (k := x) (by omega) (by omega) (fun j h1 h2 => hn j (by omega) (by omega) (by omega))]
    rfl
  obtain ⟨l1, l2, l3, l4⟩ := he.full hx hfx
  obtain ⟨m1, m2, m3, m4⟩ := he.full hy hfy
  obtain ⟨e, h1, h2, h3, _⟩ := tidy1_piv hl hx hfx (fun j => Nat.le_trans (ha j) (by decide)) l2
  have he1 := he.tidy1 hx
  have hl1 := he1.len
  have gx := (tidy1_fil (c := x) hl hx).2 hfx
  have gy := (tidy1_fil (c := x) hl hy).2 hfy
  have ey : Rw (tidy1 x t) y = Rw t y := tidy1_low hl hy hfx hxy
  obtain ⟨f, f1, f2, f3, f4⟩ := tidy1_piv hl1 hy gy (fun j => by rw [ey]; exact Nat.le_trans (hb j) (by decide)) (by rw [ey]; exact m2)
  rw [ey] at f2 f3 f4
  obtain ⟨q, q1, q2, q3, q4⟩ := tidy1_up (p := fun j => f * Rw t y j) hl1 hx gy gx hxy f4 (by rw [h2, natAbs_sg h1]; exact Nat.le_trans (ha y) (by decide)) f3 (fun j hj => by show f * Rw t y j = 0; rw [m4 j hj, Int.mul_zero]) (he1.full hx gx).1
  have hD : ∀ i j, D2 (fun j => Rw (tidy1 x t) x j - q * (f * Rw t y j)) (fun j => f * Rw t y j) i j = e * f * D2 (Rw t x) (Rw t y) i j := fun i j => by
    unfold D2
    simp only [h2]; grind
  have hs := small2 (a := fun j => Rw (tidy1 x t) x j - q * (f * Rw t y j)) (b := fun j => f * Rw t y j) (x := x) (y := y) (K := 8192) (by show 1 ≤ Rw (tidy1 x t) x x - q * (f * Rw t y x); rw [m3 x hxy, h2]; simpa using h3) (by show f * Rw t y x = 0; rw [m3 x hxy, Int.mul_zero]) f3 q1 q2 (fun i j => by rw [hD, natAbs_sg (h1.mul f1)]; exact hd i j)
  have ra : ∀ j, Rw (tidyN n t) x j = Rw (tidy1 x t) x j - q * (f * Rw t y j) := fun j => by rw [e1]; exact q4 j (Nat.le_trans (hs j).1 (by decide))
  have rb : ∀ j, Rw (tidyN n t) y j = f * Rw t y j := fun j => by rw [e1]; exact f2 j
  have ra' : Rw (tidyN n t) x = fun j => Rw (tidy1 x t) x j - q * (f * Rw t y j) := funext ra
  have rb' : Rw (tidyN n t) y = fun j => f * Rw t y j := funext rb
  refine ⟨⟨hxy, hy, fun j hj => by rw [tidyN_fil hl hj]; exact hf j hj, ?_, ?_, ?_, fun j => by rw [ra j]; exact (hs j).1, fun j => by rw [rb j]; exact (hs j).2⟩, e * f, h1.mul f1, fun i j => ?_⟩
  · rw [ra x, m3 x hxy, h2]; simpa using h3
  · rw [rb x, m3 x hxy, Int.mul_zero]
  · rw [rb y]; exact f3
  · rw [ra', rb']; exact hD i j
/-- three rows that are tidy -/
structure Ti3 (n : Nat) (bs : List (List Int)) (x y z : Nat) : Prop where
  xy : x < y
  yz : y < z
  zn : z < n
  fil : ∀ j, j < n → (rw_ bs j ≠ [] ↔ j = x ∨ j = y ∨ j = z)
  ax : 1 ≤ Rw bs x x
  bx : Rw bs y x = 0
  cx : Rw bs z x = 0
  by1 : 1 ≤ Rw bs y y
  cy : Rw bs z y = 0
  cz : 1 ≤ Rw bs z z
  a0 : 0 ≤ Rw bs x y
  a1 : Rw bs x y < Rw bs y y
  a2 : 0 ≤ Rw bs x z
  a3 : Rw bs x z < Rw bs z z
  b0 : 0 ≤ Rw bs y z
  b1 : Rw bs y z < Rw bs z z
  d : ∀ i j k, (D3 (Rw bs x) (Rw bs y) (Rw bs z) i j k).natAbs ≤ 1572864
theorem Ti3.small {n x y z : Nat} {bs : List (List Int)} (h : Ti3 n bs x y z) (j : Nat) : (Rw bs x j).natAbs ≤ 1572864 ∧ (Rw bs y j).natAbs ≤ 1572864 ∧ (Rw bs z j).natAbs ≤ 1572864 :=
  small3 h.ax h.bx h.cx h.by1 h.cy h.cz h.a0 h.a1 h.a2 h.a3 h.b0 h.b1 h.d j
theorem Ti3.old {n x y z : Nat} {bs : List (List Int)} {v : Nat → Int} (h : Ti3 n bs x y z) (hv : ∀ j, (v j).natAbs ≤ 64) (u : Nat) : (D3 (Rw bs x) (Rw bs y) v x y u).natAbs ≤ 301989888 :=
  D3_old (K := 1572864) (fun u => small3D h.ax h.bx h.cx h.by1 h.cy h.cz h.a0 h.a1 h.a2 h.a3 h.b0 h.b1 h.d u) hv u
theorem tidyE3 {n x y z : Nat} {t : List (List Int)} (he : Ech n t) (hxy : x < y) (hyz : y < z) (hz : z < n) (hf : ∀ j, j < n → (rw_ t j ≠ [] ↔ j = x ∨ j = y ∨ j = z)) (ha : ∀ j, (Rw t x j).natAbs ≤ 1048576) (hb : ∀ j, (Rw t y j).natAbs ≤ 17179869184) (hc : ∀ j, (Rw t z j).natAbs ≤ 17179869184) (hd : ∀ i j k, (D3 (Rw t x) (Rw t y) (Rw t z) i j k).natAbs ≤ 1572864) :
    Ti3 n (tidyN n t) x y z ∧ ∃ e, Sg1 e ∧ ∀ i j k, D3 (Rw (tidyN n t) x) (Rw (tidyN n t) y) (Rw (tidyN n t) z) i j k = e * D3 (Rw t x) (Rw t y) (Rw t z) i j k := by
  have hl := he.len
  have hx : x < n := by omega
  have hy : y < n := by omega
  have hn : ∀ j, j < n → j ≠ x → j ≠ y → j ≠ z → rw_ t j = [] := fun j hj h h2 h3 => Classical.not_not.1 fun hn => by have := (hf j hj).1 hn; omega
  have hfx := (hf x hx).2 (.inl rfl)
  have hfy := (hf y hy).2 (.inr (.inl rfl))
  have hfz := (hf z hz).2 (.inr (.inr rfl))
  have e1 : tidyN n t = tidy1 z (tidy1 y (tidy1 x t)) := by
    rw [tidyN_gap (c := z + 1) (by omega) (by omega) (fun j h1 h2 => hn j h2 (by omega) (by omega) (by omega))]
    show tidy1 z (tidyN z t) = _
    rw [tidyN_gap (c := y + 1) (k := z) (by omega) (by omega) (fun j h1 h2 => hn j (by omega) (by omega) (by omega) (by omega))]
    show tidy1 z (tidy1 y (tidyN y t)) = _
    rw [tidyN_gap (c := x + 1) (k := y) (by omega) (by omega) (fun j h1 h2 => hn j (by omega) (by omega) (by omega) (by omega))]
    show tidy1 z (tidy1 y (tidy1 x (tidyN x t))) = _
    rw [tidyN_gap (c := 0) (k := x) (by omega) (by omega) (fun j h1 h2 => hn j (by omega) (by omega) (by omega) (by omega))]
    rfl
  obtain ⟨l1, l2, l3, l4⟩ := he.full hx hfx
  obtain ⟨m1, m2, m3, m4⟩ := he.full hy hfy
  obtain ⟨n1, n2, n3, n4⟩ := he.full hz hfz
  -- the first column
  obtain ⟨e, h1, h2, h3, _⟩ := tidy1_piv hl hx hfx (fun j => Nat.le_trans (ha j) (by decide)) l2
  have he1 := he.tidy1 hx
  have hl1 := he1.len
  have gx := (tidy1_fil (c := x) hl hx).2 hfx
  have gy := (tidy1_fil (c := x) hl hy).2 hfy
  have gz := (tidy1_fil (c := x) hl hz).2 hfz
  have ey : Rw (tidy1 x t) y = Rw t y := tidy1_low hl hy hfx hxy
  have ez : Rw (tidy1 x t) z = Rw t z := tidy1_low hl hz hfx (by omega)
  -- the second
  obtain ⟨f, f1, f2, f3, f4⟩ := tidy1_piv hl1 hy gy (fun j => by rw [ey]; exact Nat.le_trans (hb j) (by decide)) (by rw [ey]; exact m2)
  rw [ey] at f2 f3 f4
  obtain ⟨q, q1, q2, q3, q4⟩ := tidy1_up (p := fun j => f * Rw t y j) hl1 hx gy gx hxy f4 (by rw [h2, natAbs_sg h1]; exact Nat.le_trans (ha y) (by decide)) f3 (fun j hj => by show f * Rw t y j = 0; rw [m4 j hj, Int.mul_zero]) (he1.full hx gx).1
  have he2 := he1.tidy1 hy
  have hl2 := he2.len
  have kx := (tidy1_fil (c := y) hl1 hx).2 gx
  have ky := (tidy1_fil (c := y) hl1 hy).2 gy
  have kz := (tidy1_fil (c := y) hl1 hz).2 gz
  have ez2 : Rw (tidy1 y (tidy1 x t)) z = Rw t z := by rw [tidy1_low hl1 hz gy hyz, ez]
  have ab : ∀ j, (Rw (tidy1 x t) x j - q * (f * Rw t y j)).natAbs ≤ 36028797018963968 := fun j => by
    have t1 := na_sub_mul (Rw (tidy1 x t) x j) q (f * Rw t y j)
    rw [h2 j, natAbs_sg h1, natAbs_sg f1] at t1
    rw [h2 y, natAbs_sg h1] at q3
    have t2 := ha j
    have t4 : q.natAbs * (Rw t y j).natAbs ≤ 1048577 * 17179869184 := Nat.mul_le_mul (by have := ha y; omega) (hb j)
    rw [h2 j]
    omega
  have ax2 : ∀ j, Rw (tidy1 y (tidy1 x t)) x j = Rw (tidy1 x t) x j - q * (f * Rw t y j) := fun j => q4 j (Nat.le_trans (ab j) (by decide))
  -- the third
  obtain ⟨g, g1, g2, g3, g4⟩ := tidy1_piv hl2 hz kz (fun j => by rw [ez2]; exact Nat.le_trans (hc j) (by decide)) (by rw [ez2]; exact n2)
  rw [ez2] at g2 g3 g4
  obtain ⟨r, r1, r2, r3, r4⟩ := tidy1_up (p := fun j => g * Rw t z j) hl2 hx kz kx (by omega) g4 (by rw [ax2]; exact Nat.le_trans (ab z) (by decide)) g3 (fun j hj => by show g * Rw t z j = 0; rw [n4 j hj, Int.mul_zero]) (he2.full hx kx).1
  obtain ⟨s, s1, s2, s3, s4⟩ := tidy1_up (p := fun j => g * Rw t z j) hl2 hy kz ky hyz g4 (by rw [f2, natAbs_sg f1]; exact Nat.le_trans (hb z) (by decide)) g3 (fun j hj => by show g * Rw t z j = 0; rw [n4 j hj, Int.mul_zero]) (he2.full hy ky).1
  obtain ⟨A, hA⟩ : ∃ A : Nat → Int, ∀ j, A j = Rw (tidy1 y (tidy1 x t)) x j - r * (g * Rw t z j) := ⟨_, fun _ => rfl⟩
  obtain ⟨B, hB⟩ : ∃ B : Nat → Int, ∀ j, B j = Rw (tidy1 y (tidy1 x t)) y j - s * (g * Rw t z j) := ⟨_, fun _ => rfl⟩
  obtain ⟨C, hC⟩ : ∃ C : Nat → Int, ∀ j, C j = g * Rw t z j := ⟨_, fun _ => rfl⟩
  have hD : ∀ i j k, D3 A B C i j k = e * f * g * D3 (Rw t x) (Rw t y) (Rw t z) i j k := fun i j k => by
    have v1 : ∀ j, A j = 1 * Rw (tidy1 y (tidy1 x t)) x j + -r * C j := fun j => by rw [hA, hC]; grind
    have v2 : ∀ j, C j = 0 * Rw (tidy1 y (tidy1 x t)) x j + 1 * C j := fun j => by omega
    have v3 : ∀ j, B j = 1 * Rw (tidy1 y (tidy1 x t)) y j + -s * C j := fun j => by rw [hB, hC]; grind
    have v4 : ∀ j, C j = 0 * Rw (tidy1 y (tidy1 x t)) y j + 1 * C j := fun j => by omega
    rw [D3_13 v1 v2, D3_23 v3 v4]
    unfold D3 D2
    simp only [ax2, f2, h2, hC]
    grind
  have z1 : C x = 0 := by rw [hC, n3 x (by omega), Int.mul_zero]
  have z2 : C y = 0 := by rw [hC, n3 y hyz, Int.mul_zero]
  have z3 : B x = 0 := by rw [hB, f2, n3 x (by omega), m3 x hxy]; simp
  have w1 : 1 ≤ A x := by rw [hA, ax2, n3 x (by omega), m3 x hxy, h2]; simpa using h3
  have w2 : B y = f * Rw t y y := by rw [hB, f2, n3 y hyz]; simp
  have w3 : A y = Rw (tidy1 x t) x y - q * (f * Rw t y y) := by rw [hA, ax2, n3 y hyz]; simp
  have w4 : C z = g * Rw t z z := hC z
  have w5 : A z = Rw (tidy1 y (tidy1 x t)) x z - r * (g * Rw t z z) := hA z
  have w6 : B z = Rw (tidy1 y (tidy1 x t)) y z - s * (g * Rw t z z) := hB z
  have hdd : ∀ i j k, (D3 A B C i j k).natAbs ≤ 1572864 := fun i j k => by rw [hD, natAbs_sg ((h1.mul f1).mul g1)]; exact hd i j k
  have hs := small3 (a := A) (b := B) (c := C) (x := x) (y := y) (z := z) (K := 1572864) w1 z3 z1 (by rw [w2]; exact f3) z2 (by rw [w4]; exact g3) (by rw [w3]; exact q1) (by rw [w3, w2]; exact q2) (by rw [w5]; exact r1) (by rw [w5, w4]; exact r2) (by rw [w6]; exact s1) (by rw [w6, w4]; exact s2) hdd
  have ra : Rw (tidyN n t) x = A := funext fun j => by rw [e1, hA]; exact r4 j (by rw [← hA]; exact Nat.le_trans (hs j).1 (by decide))
  have rb : Rw (tidyN n t) y = B := funext fun j => by rw [e1, hB]; exact s4 j (by rw [← hB]; exact Nat.le_trans (hs j).2.1 (by decide))
  have rc : Rw (tidyN n t) z = C := funext fun j => by rw [e1, hC]; exact g2 j
  refine ⟨⟨hxy, hyz, hz, fun j hj => by rw [tidyN_fil hl hj]; exact hf j hj, ?_, ?_, ?_, ?_, ?_, ?_, ?_, ?_, ?_, ?_, ?_, ?_, ?_⟩, e * f * g, (h1.mul f1).mul g1, ?_⟩ <;> (try rw [ra]) <;> (try rw [rb]) <;> (try rw [rc])
  · exact w1
  · exact z3
  · exact z1
  · rw [w2]; exact f3
  · exact z2
  · rw [w4]; exact g3
  · rw [w3]; exact q1
  · rw [w3, w2]; exact q2
  · rw [w5]; exact r1
  · rw [w5, w4]; exact r2
  · rw [w6]; exact s1
  · rw [w6, w4]; exact s2
  · exact hdd
  · exact hD
/-! ### the pivots alone -/
theorem tidyN_diag {n : Nat} {bs : List (List Int)} (he : Ech n bs) (hb : ∀ c, c < n → (Rw bs c c).natAbs ≤ 4611686018427387904) : ∀ k, k ≤ n → ∀ c, c < n → Rw (tidyN k bs) c c = if c < k then ((Rw bs c c).natAbs : Int) else Rw bs c c
  | 0, _, c, hc => by rw [if_neg (by omega)]; rfl
  | k + 1, hk, c, hc => by
    have ih := tidyN_diag he hb k (by omega)
    have he1 := he.tidyN k (by omega)
    have hl1 := he1.len
    show Rw (tidy1 k (tidyN k bs)) c c = _
    have ik := ih k (by omega)
    have ic := ih c hc
    have bc := hb c hc
    have bk := hb k (by omega)
    rw [if_neg (by omega)] at ik
    by_cases hf : rw_ (tidyN k bs) k = []
    · rw [tidy1_none hf, ic]
      by_cases h1 : c < k
      · rw [if_pos h1, if_pos (by omega)]
      · by_cases h2 : c = k
        · subst h2
          have : Rw (tidyN c bs) c c = 0 := by unfold Rw; rw [hf]; rfl
          rw [if_neg h1, if_pos (by omega), ← ik, this]; rfl
        · rw [if_neg h1, if_neg (by omega)]
    · obtain ⟨l1, l2, l3, l4⟩ := he1.full (by omega) hf
      obtain ⟨g1, g2, g3, g4⟩ := he1.sg (by omega) hf
      unfold Rw
      rw [tidy1_row hf (by omega)]
      by_cases h1 : c = k
      · subst h1
        rw [if_pos rfl, if_pos (by omega), sgR_el (by omega) (he1.i64 c c hc hc)]
        unfold Rw at ik bc
        rw [ik]
        by_cases h2 : el (rw_ bs c) c < 0
        · rw [if_pos h2, wr64_in (by unfold I64; omega)]; omega
        · rw [if_neg h2]; omega
      · rw [if_neg h1]
        by_cases h2 : c < k
        · rw [if_pos h2, if_pos (show c < k + 1 by omega)]
          rw [if_pos h2] at ic
          unfold Rw at ic bc
          by_cases h3 : rw_ (tidyN k bs) c = []
          · rw [if_pos h3, ← ic, h3]
          · rw [if_neg h3]
            obtain ⟨p1, _⟩ := he1.full hc h3
            rw [subW_el (by omega), g3 c h2, Int.mul_zero, Int.sub_zero, ic, wr64_in (by unfold I64; omega)]
        · rw [if_neg h2, if_neg (show ¬ c < k + 1 by omega)]
          rw [if_neg h2] at ic
          exact ic
end Go.Proofs.Ytcnphhcdjhmmkaa
