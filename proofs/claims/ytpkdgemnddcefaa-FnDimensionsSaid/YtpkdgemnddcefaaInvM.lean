/- The inverse of a matrix: the program and the reference. -/
import Derived.Test.YtpkdgemnddcefaaNullW
import Derived.Test.YtpkdgemnddcefaaMatRed
import Derived.Deep.RegionHeld3
set_option linter.unusedVariables false
set_option linter.unusedSimpArgs false
namespace Go.Proofs.Ytpkdgemnddcefaa
open Go.RowKit

def InvOk (W : List (List Int)) : Prop := ∀ i, i < W.length → el (rw_ W i) i = 1
instance (W : List (List Int)) : Decidable (InvOk W) := by unfold InvOk; exact inferInstance
/-- the right halves of the rows -/
def rightR (n : Nat) (W : List (List Int)) : List (List Int) := tab W.length fun i => (rw_ W i).drop n
theorem rightR_len (n : Nat) (W : List (List Int)) : (rightR n W).length = W.length := tab_len _ _
theorem rightR_row {n i : Nat} {W : List (List Int)} (h : i < W.length) : rw_ (rightR n W) i = (rw_ W i).drop n := rw_tab h
theorem Rref.piv_ge {p : Int} {n : Nat} {R : List (List Int)} {piv : Nat → Nat} (h : Rref p n R piv) : ∀ i, i < R.length → i ≤ piv i := by
  intro i
  induction i with
  | zero => intro _; exact Nat.zero_le _
  | succ i ih =>
    intro hi
    have h1 := ih (by omega)
    have h2 := h.mono i (i + 1) (by omega) hi
    omega
theorem Rref.diag {p : Int} {n : Nat} {R : List (List Int)} {piv : Nat → Nat} (h : Rref p n R piv) {i : Nat} (hi : i < R.length) : piv i = i ↔ el (rw_ R i) i = 1 := by
  constructor
  · intro e
    have := h.one i hi
    rwa [e] at this
  · intro e
    have h1 := h.piv_ge i hi
    refine Nat.le_antisymm (Nat.le_of_not_lt fun hlt => ?_) h1
    have := h.lead i i hi hlt
    omega
def InvR (p : Int) (m : Nat) (xss : List (List Int)) (ok : Bool) (R : List (List Int)) : Prop :=
  ∃ W, IsRref p (m + xss.length) (wideR xss) W ∧ ((InvOk W ∧ ok = true ∧ R = rightR xss.length W) ∨ (¬ InvOk W ∧ ok = false ∧ R = []))
theorem InvR.unique {p : Int} {m : Nat} {xss R R' : List (List Int)} {ok ok' : Bool} (h : InvR p m xss ok R) (h' : InvR p m xss ok' R') (hp : 2 ≤ p) : ok = ok' ∧ R = R' := by
  obtain ⟨W, h1, h2⟩ := h
  obtain ⟨W', k1, k2⟩ := h'
  obtain rfl := h1.unique k1 hp
  rcases h2 with ⟨a, b, c⟩ | ⟨a, b, c⟩ <;> rcases k2 with ⟨a', b', c'⟩ | ⟨a', b', c'⟩
  · exact ⟨by rw [b, b'], by rw [c, c']⟩
  · exact absurd a a'
  · exact absurd a' a
  · exact ⟨by rw [b, b'], by rw [c, c']⟩
theorem InvR.sm {p : Int} {m : Nat} {xss R : List (List Int)} {ok : Bool} (h : InvR p m xss ok R) (hm : m ≤ 50) (hl : xss.length ≤ 50) : R.length ≤ 1048576 ∧ ∀ i, i < R.length → (rw_ R i).length ≤ 1048576 := by
  obtain ⟨W, h1, ⟨_, _, rfl⟩ | ⟨_, _, rfl⟩⟩ := h
  · have := h1.len
    refine ⟨by rw [rightR_len]; omega, fun i hi => ?_⟩
    rw [rightR_len] at hi
    rw [rightR_row hi, List.length_drop, h1.row i hi]; omega
  · exact ⟨by simp, fun i hi => absurd hi (by simp)⟩
theorem wide_pos {p : Int} {m n : Nat} {xss W : List (List Int)} (h : IsRref p (m + n) (wideR xss) W) (hl : xss.length = n) (hp : 2 ≤ p) {j : Nat} (hj : j < W.length) : 0 < n := by
  refine Nat.pos_of_ne_zero fun h0 => ?_
  have e : wideR xss = [] := List.eq_nil_of_length_eq_zero (by rw [wideR_len, hl, h0])
  rw [e] at h
  have h2 : W = [] := h.unique ⟨fun _ => 0, Rref.nil _ _ _, SpEq.refl _ _⟩ hp
  rw [h2] at hj
  exact absurd hj (by simp)
end Go.Proofs.Ytpkdgemnddcefaa
set_option linter.unusedVariables false
set_option linter.unusedSimpArgs false
namespace Go.Proofs.Ytpkdgemnddcefaa
open Go.RowKit

theorem MadeH.rdSame {T2 : TypeId} {w w' : World} {B n cap : Nat} {a : Option Addr} {xss : List (List Int)} (h : MadeH T2 w B a n cap xss) (hs : ∀ k, B ≤ k → k < w.heap.size → w'.heap[k]? = w.heap[k]?) : RdR w' a xss := by
  obtain ⟨A, C, h⟩ := h
  refine (h.same (fun h0 p hp => ?_) (fun i hi p hp => ?_)).rd
  · have := h.blk h0 p hp
    exact hs _ this.1 this.2
  · have := (h.row i hi).block p hp
    exact hs _ this.1 this.2
end Go.Proofs.Ytpkdgemnddcefaa
set_option linter.unusedVariables false
set_option linter.unusedSimpArgs false
namespace Go.Proofs.Ytpkdgemnddcefaa
open Go.RowKit

def res_InverseMatrix (xss : List (List Int)) (p q P Q : Int) (R : List (List Int)) (d : Int) : Prop :=
  (isMx xss p q = false ∧ (P, Q, R, d) = mvBad 1) ∨ (isMx xss p q = true ∧ (xss.length : Int) ≠ q ∧ (P, Q, R, d) = mvBad 2) ∨
  (isMx xss p q = true ∧ (xss.length : Int) = q ∧ ∃ ok R0, InvR p q.toNat xss ok R0 ∧ ((ok = true ∧ P = p ∧ Q = q ∧ R = R0 ∧ d = 0) ∨ (ok = false ∧ (P, Q, R, d) = mvBad 4)))
theorem res_InverseMatrix_uniq {xss : List (List Int)} {p q P1 Q1 P2 Q2 d1 d2 : Int} {R1 R2 : List (List Int)} (h : res_InverseMatrix xss p q P1 Q1 R1 d1) (k : res_InverseMatrix xss p q P2 Q2 R2 d2) : P1 = P2 ∧ Q1 = Q2 ∧ R1 = R2 ∧ d1 = d2 := by
  rcases h with ⟨h0, h⟩ | ⟨h0, h1, h⟩ | ⟨h0, h1, ok, R0, h2, h3⟩ <;> rcases k with ⟨k0, k⟩ | ⟨k0, k1, k⟩ | ⟨k0, k1, ok', R0', k2, k3⟩
  · exact mv_uniq h k
  · rw [h0] at k0; cases k0
  · rw [h0] at k0; cases k0
  · rw [h0] at k0; cases k0
  · exact mv_uniq h k
  · exact absurd k1 h1
  · rw [h0] at k0; cases k0
  · exact absurd h1 k1
  · obtain ⟨e1, e2⟩ := h2.unique k2 (isMx_ok h0).gp.bd.1
    rcases h3 with ⟨a1, a2, a3, a4, a5⟩ | ⟨a1, a2⟩ <;> rcases k3 with ⟨b1, b2, b3, b4, b5⟩ | ⟨b1, b2⟩
    · exact ⟨by rw [a2, b2], by rw [a3, b3], by rw [a4, b4, e2], by rw [a5, b5]⟩
    · rw [a1, b1] at e1; cases e1
    · rw [a1, b1] at e1; cases e1
    · exact mv_uniq a2 b2
theorem mvBad_small {P Q d k : Int} {R : List (List Int)} (h : (P, Q, R, d) = mvBad k) : R.length ≤ 1048576 ∧ ∀ i, i < R.length → (rw_ R i).length ≤ 1048576 := by
  simp only [mvBad, Prod.mk.injEq] at h
  rw [h.2.2.1]
  exact ⟨by simp, fun i hi => absurd hi (by simp)⟩
theorem res_InverseMatrix_small {xss : List (List Int)} {p q P Q d : Int} {R : List (List Int)} (h : res_InverseMatrix xss p q P Q R d) : R.length ≤ 1048576 ∧ ∀ i, i < R.length → (rw_ R i).length ≤ 1048576 := by
  rcases h with ⟨h0, h⟩ | ⟨h0, h1, h⟩ | ⟨h0, h1, ok, R0, h2, h3⟩
  · exact mvBad_small h
  · exact mvBad_small h
  · rcases h3 with ⟨a1, a2, a3, a4, a5⟩ | ⟨a1, a2⟩
    · have h8 := (isMx_ok h0).q8
      have hl := (isMx_ok h0).len
      rw [a4]
      exact h2.sm (by omega) (by omega)
    · exact mvBad_small a2
end Go.Proofs.Ytpkdgemnddcefaa
