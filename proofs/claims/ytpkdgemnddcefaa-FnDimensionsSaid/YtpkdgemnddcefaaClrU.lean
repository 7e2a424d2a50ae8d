/- The remainder modulo a reduced form is one. -/
import Derived.Test.YtpkdgemnddcefaaIns
set_option linter.unusedVariables false
set_option linter.unusedSimpArgs false
namespace Go.Proofs.Ytpkdgemnddcefaa
open Go.RowKit

theorem Clr.unique {p : Int} {n : Nat} {R : List (List Int)} {piv : Nat → Nat} {v u1 u2 : List Int} (hR : Rref p n R piv) (hp : 2 ≤ p) (h1 : Clr p n R piv v u1 R.length) (h2 : Clr p n R piv v u2 R.length) : u1 = u2 := by
  obtain ⟨f1, s1, d1⟩ := h1.sp
  obtain ⟨f2, s2, d2⟩ := h2.sp
  have hS : Sp p R (fun j => el u2 j - el u1 j) := (s1.addmul (-1) s2).cong fun j => by
    obtain ⟨x, hx⟩ := d1 j
    obtain ⟨y, hy⟩ := d2 j
    exact ⟨y - x, by rw [Int.mul_sub, ← hx, ← hy]; omega⟩
  have hc := hR.coord hS
  have hz : ∀ j k, k ≤ R.length → sm (fun i => (el u2 (piv i) - el u1 (piv i)) * el (rw_ R i) j) k = 0 := by
    intro j k
    induction k with
    | zero => intro _; rfl
    | succ k ih =>
      intro hk
      simp only [sm]
      rw [ih (by omega), h1.zero k (by omega), h2.zero k (by omega)]
      simp
  refine list_ext (by rw [h1.len, h2.len]) fun j hj => ?_
  rw [h1.len] at hj
  have hd := hc j
  rw [hz j R.length (Nat.le_refl _)] at hd
  obtain ⟨x, hx⟩ := hd
  have a1 := h1.rng j hj
  have a2 := h2.rng j hj
  have hx' : el u2 j - el u1 j = p * x := by omega
  have : x = 0 := by
    rcases Int.lt_trichotomy x 0 with h | h | h
    · have : p * x ≤ p * (-1) := Int.mul_le_mul_of_nonneg_left (by omega) (by omega)
      omega
    · exact h
    · have : p * 1 ≤ p * x := Int.mul_le_mul_of_nonneg_left (by omega) (by omega)
      omega
  subst this
  omega
end Go.Proofs.Ytpkdgemnddcefaa
