/- The inverse of a square matrix: the program and the reference. -/
import Derived.Test.YtlccadpopcgmgaaNullW
import Derived.Test.YtlccadpopcgmgaaMatRed
import Derived.Deep.RegionHeld3
set_option linter.unusedVariables false
set_option linter.unusedSimpArgs false
namespace Go.Proofs.Ytlccadpopcgmgaa
open Go.RowKit

def InvOk (W : List (List Int)) : Prop := ∀ i, i < W.length → el (rw_ W i) i = 1
instance (W : List (List Int)) : Decidable (InvOk W) := by unfold InvOk; exact inferInstance
/-- the right halves of the rows -/
def rightR (n : Nat) (W : List (List Int)) : List (List Int) := tab W.length fun i => (rw_ W i).drop n
theorem rightR_len (n : Nat) (W : List (List Int)) : (rightR n W).length = W.length := tab_len _ _
theorem rightR_row {n i : Nat} {W : List (List Int)} (h : i < W.length) : rw_ (rightR n W) i = (rw_ W i).drop n := rw_tab h
theorem Rref.piv_ge {p : Int} {n : Nat} {R : List (List Int)} {piv : Nat → Nat} (h : Rref p n R piv) : ∀ i, i < R.length → i ≤ piv i := by
  intro i
  induction i with
  | zero => intro _; exact Nat.zero_le _
  | succ i ih =>
    intro hi
    have h1 := ih (by omega)
    have h2 := h.mono i (i + 1) (by omega) hi
    omega
theorem Rref.diag {p : Int} {n : Nat} {R : List (List Int)} {piv : Nat → Nat} (h : Rref p n R piv) {i : Nat} (hi : i < R.length) : piv i = i ↔ el (rw_ R i) i = 1 := by
  constructor
  · intro e
    have := h.one i hi
    rwa [e] at this
  · intro e
    have h1 := h.piv_ge i hi
    refine Nat.le_antisymm (Nat.le_of_not_lt fun hlt => ?_) h1
    have := h.lead i i hi hlt
    omega
def InvR (p : Int) (m : Nat) (xss : List (List Int)) (ok : Bool) (R : List (List Int)) : Prop :=
  ∃ W, IsRref p (m + xss.length) (wideR xss) W ∧ ((InvOk W ∧ ok = true ∧ R = rightR xss.length W) ∨ (¬ InvOk W ∧ ok = false ∧ R = []))
theorem InvR.unique {p : Int} {m : Nat} {xss R R' : List (List Int)} {ok ok' : Bool} (h : InvR p m xss ok R) (h' : InvR p m xss ok' R') (hp : 2 ≤ p) : ok = ok' ∧ R = R' := by
  obtain ⟨W, h1, h2⟩ := h
  obtain ⟨W', k1, k2⟩ := h'
  obtain rfl := h1.unique k1 hp
  rcases h2 with ⟨a, b, c⟩ | ⟨a, b, c⟩ <;> rcases k2 with ⟨a', b', c'⟩ | ⟨a', b', c'⟩
  · exact ⟨by rw [b, b'], by rw [c, c']⟩
  · exact absurd a a'
  · exact absurd a' a
  · exact ⟨by rw [b, b'], by rw [c, c']⟩
theorem InvR.sm {p : Int} {m : Nat} {xss R : List (List Int)} {ok : Bool} (h : InvR p m xss ok R) (hm : m ≤ 50) (hl : xss.length ≤ 50) : R.length ≤ 1048576 ∧ ∀ i, i < R.length → (rw_ R i).length ≤ 1048576 := by
  obtain ⟨W, h1, ⟨_, _, rfl⟩ | ⟨_, _, rfl⟩⟩ := h
  · have := h1.len
    refine ⟨by rw [rightR_len]; omega, fun i hi => ?_⟩
    rw [rightR_len] at hi
    rw [rightR_row hi, List.length_drop, h1.row i hi]; omega
  · exact ⟨by simp, fun i hi => absurd hi (by simp)⟩
theorem wide_pos {p : Int} {m n : Nat} {xss W : List (List Int)} (h : IsRref p (m + n) (wideR xss) W) (hl : xss.length = n) (hp : 2 ≤ p) {j : Nat} (hj : j < W.length) : 0 < n := by
  refine Nat.pos_of_ne_zero fun h0 => ?_
  have e : wideR xss = [] := List.eq_nil_of_length_eq_zero (by rw [wideR_len, hl, h0])
  rw [e] at h
  have h2 : W = [] := h.unique ⟨fun _ => 0, Rref.nil _ _ _, SpEq.refl _ _⟩ hp
  rw [h2] at hj
  exact absurd hj (by simp)
end Go.Proofs.Ytlccadpopcgmgaa
