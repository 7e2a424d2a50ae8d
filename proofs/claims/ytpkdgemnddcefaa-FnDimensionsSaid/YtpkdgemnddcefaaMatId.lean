/- The identity matrix: the program and the reference. -/
import Derived.Test.YtpkdgemnddcefaaMat
set_option linter.unusedVariables false
set_option linter.unusedSimpArgs false
namespace Go.Proofs.Ytpkdgemnddcefaa
open Go.RowKit

/-- what a call hands back: a prime, a number of columns, rows, a code -/
abbrev MV := Int × Int × List (List Int) × Int
def mvBad (d : Int) : MV := (0, 0, [], d)
theorem mv_uniq {V : MV} {P1 Q1 P2 Q2 d1 d2 : Int} {R1 R2 : List (List Int)} (h : (P1, Q1, R1, d1) = V) (k : (P2, Q2, R2, d2) = V) : P1 = P2 ∧ Q1 = Q2 ∧ R1 = R2 ∧ d1 = d2 := by
  have := h.trans k.symm
  simp only [Prod.mk.injEq] at this
  exact this
def idV (k0 k1 : Int) : MV := if GP k0 ∧ 0 ≤ k1 ∧ k1 ≤ 8 then (k0, k1, unitRs k1.toNat, 0) else mvBad 2
def res_IdentityMatrix (k0 k1 P Q : Int) (R : List (List Int)) (d : Int) : Prop := (P, Q, R, d) = idV k0 k1
theorem res_IdentityMatrix_uniq {k0 k1 P1 Q1 P2 Q2 d1 d2 : Int} {R1 R2 : List (List Int)} (h : res_IdentityMatrix k0 k1 P1 Q1 R1 d1) (k : res_IdentityMatrix k0 k1 P2 Q2 R2 d2) : P1 = P2 ∧ Q1 = Q2 ∧ R1 = R2 ∧ d1 = d2 := mv_uniq h k
theorem res_IdentityMatrix_small {k0 k1 P Q d : Int} {R : List (List Int)} (h : res_IdentityMatrix k0 k1 P Q R d) : R.length ≤ 1048576 ∧ ∀ i, i < R.length → (rw_ R i).length ≤ 1048576 := by
  unfold res_IdentityMatrix idV mvBad at h
  split at h
  · rename_i hc
    simp only [Prod.mk.injEq] at h
    rw [h.2.2.1]
    refine ⟨by rw [unitRs_len]; omega, fun i hi => ?_⟩
    rw [unitRs_len] at hi
    rw [unitRs_row hi, unitR_len]; omega
  · simp only [Prod.mk.injEq] at h
    rw [h.2.2.1]
    exact ⟨by simp, fun i hi => absurd hi (by simp)⟩
end Go.Proofs.Ytpkdgemnddcefaa
