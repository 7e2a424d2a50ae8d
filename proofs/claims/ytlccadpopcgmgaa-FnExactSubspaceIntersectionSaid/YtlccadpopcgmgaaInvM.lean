/- The inverse of a matrix: the program and the reference. -/
import Derived.Test.YtlccadpopcgmgaaInvI
set_option linter.unusedVariables false
set_option linter.unusedSimpArgs false
namespace Go.Proofs.Ytlccadpopcgmgaa
open Go.RowKit

def res_InverseMatrix (xss : List (List Int)) (p q P Q : Int) (R : List (List Int)) (d : Int) : Prop :=
  (isMx xss p q = false ∧ (P, Q, R, d) = mvBad 1) ∨ (isMx xss p q = true ∧ (xss.length : Int) ≠ q ∧ (P, Q, R, d) = mvBad 2) ∨
  (isMx xss p q = true ∧ (xss.length : Int) = q ∧ ∃ ok R0, InvR p q.toNat xss ok R0 ∧ ((ok = true ∧ P = p ∧ Q = q ∧ R = R0 ∧ d = 0) ∨ (ok = false ∧ (P, Q, R, d) = mvBad 4)))
theorem res_InverseMatrix_uniq {xss : List (List Int)} {p q P1 Q1 P2 Q2 d1 d2 : Int} {R1 R2 : List (List Int)} (h : res_InverseMatrix xss p q P1 Q1 R1 d1) (k : res_InverseMatrix xss p q P2 Q2 R2 d2) : P1 = P2 ∧ Q1 = Q2 ∧ R1 = R2 ∧ d1 = d2 := by
  rcases h with ⟨h0, h⟩ | ⟨h0, h1, h⟩ | ⟨h0, h1, ok, R0, h2, h3⟩ <;> rcases k with ⟨k0, k⟩ | ⟨k0, k1, k⟩ | ⟨k0, k1, ok', R0', k2, k3⟩
  · exact mv_uniq h k
  · rw [h0] at k0; cases k0
  · rw [h0] at k0; cases k0
  · rw [h0] at k0; cases k0
  · exact mv_uniq h k
  · exact absurd k1 h1
  · rw [h0] at k0; cases k0
  · exact absurd h1 k1
  · obtain ⟨e1, e2⟩ := h2.unique k2 (isMx_ok h0).gp.bd.1
    rcases h3 with ⟨a1, a2, a3, a4, a5⟩ | ⟨a1, a2⟩ <;> rcases k3 with ⟨b1, b2, b3, b4, b5⟩ | ⟨b1, b2⟩
    · exact ⟨by rw [a2, b2], by rw [a3, b3], by rw [a4, b4, e2], by rw [a5, b5]⟩
    · rw [a1, b1] at e1; cases e1
    · rw [a1, b1] at e1; cases e1
    · exact mv_uniq a2 b2
theorem mvBad_small {P Q d k : Int} {R : List (List Int)} (h : (P, Q, R, d) = mvBad k) : R.length ≤ 1048576 ∧ ∀ i, i < R.length → (rw_ R i).length ≤ 1048576 := by
  simp only [mvBad, Prod.mk.injEq] at h
  rw [h.2.2.1]
  exact ⟨by simp, fun i hi => absurd hi (by simp)⟩
theorem res_InverseMatrix_small {xss : List (List Int)} {p q P Q d : Int} {R : List (List Int)} (h : res_InverseMatrix xss p q P Q R d) : R.length ≤ 1048576 ∧ ∀ i, i < R.length → (rw_ R i).length ≤ 1048576 := by
  rcases h with ⟨h0, h⟩ | ⟨h0, h1, h⟩ | ⟨h0, h1, ok, R0, h2, h3⟩
  · exact mvBad_small h
  · exact mvBad_small h
  · rcases h3 with ⟨a1, a2, a3, a4, a5⟩ | ⟨a1, a2⟩
    · have h8 := (isMx_ok h0).q8
      have hl := (isMx_ok h0).len
      rw [a4]
      exact h2.sm (by omega) (by omega)
    · exact mvBad_small a2
end Go.Proofs.Ytlccadpopcgmgaa
