/- The left kernel of a matrix: the program and the reference. -/
import Derived.Test.YtlccadpopcgmgaaNullW
import Derived.Test.YtlccadpopcgmgaaMatRed
import Derived.Deep.RegionHeld3
set_option linter.unusedVariables false
set_option linter.unusedSimpArgs false
namespace Go.Proofs.Ytlccadpopcgmgaa
open Go.RowKit

def res_LeftKernel (xss : List (List Int)) (p q P Q : Int) (R : List (List Int)) (d : Int) : Prop :=
  (isMx xss p q = true ∧ P = p ∧ Q = xss.length ∧ d = 0 ∧ NullR p q.toNat xss R) ∨ (isMx xss p q = false ∧ (P, Q, R, d) = mvBad 1)
theorem res_LeftKernel_uniq {xss : List (List Int)} {p q P1 Q1 P2 Q2 d1 d2 : Int} {R1 R2 : List (List Int)} (h : res_LeftKernel xss p q P1 Q1 R1 d1) (k : res_LeftKernel xss p q P2 Q2 R2 d2) : P1 = P2 ∧ Q1 = Q2 ∧ R1 = R2 ∧ d1 = d2 := by
  rcases h with ⟨h0, h1, h2, h3, h4⟩ | ⟨h0, h⟩ <;> rcases k with ⟨k0, k1, k2, k3, k4⟩ | ⟨k0, k⟩
  · exact ⟨by rw [h1, k1], by rw [h2, k2], h4.unique k4 (isMx_ok h0).gp.bd.1, by rw [h3, k3]⟩
  · rw [h0] at k0; cases k0
  · rw [h0] at k0; cases k0
  · exact mv_uniq h k
theorem res_LeftKernel_small {xss : List (List Int)} {p q P Q d : Int} {R : List (List Int)} (h : res_LeftKernel xss p q P Q R d) : R.length ≤ 1048576 ∧ ∀ i, i < R.length → (rw_ R i).length ≤ 1048576 := by
  rcases h with ⟨h0, _, _, _, h4⟩ | ⟨_, h⟩
  · have := (isMx_ok h0).len
    exact h4.rref.sm (by omega)
  · simp only [mvBad, Prod.mk.injEq] at h
    rw [h.2.2.1]
    exact ⟨by simp, fun i hi => absurd hi (by simp)⟩
end Go.Proofs.Ytlccadpopcgmgaa
