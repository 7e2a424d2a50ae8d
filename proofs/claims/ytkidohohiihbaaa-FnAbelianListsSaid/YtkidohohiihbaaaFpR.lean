/- The reference's factors from primary parts. -/
import Derived.Test.YtkidohohiihbaaaFpP
import Derived.Test.YtkidohohiihbaaaPpS
import Derived.Test.YtkidohohiihbaaaApp
import Derived.BigQuiet
set_option linter.unusedVariables false
set_option linter.unusedSimpArgs false
namespace Go.Proofs.Ytkidohohiihbaaa
open Go.RowKit

def sliceLen (v : Value) : Nat := match v with
  | .slice _ n _ => n
  | _ => 0
theorem drop_split {s : List Int} {i : Nat} (h : i < s.length) : s.drop i = el s i :: s.drop (i + 1) := by
  rw [List.drop_eq_getElem_cons h, el_eq h]
/-- a pass, at position i: what is on top, what is left over -/
structure PassI (s : List Int) (i : Nat) (T R : List Int) : Prop where
  top : topsL s = T ++ topsL (s.drop i)
  rest : restL s = R ++ restL (s.drop i)
theorem PassI.start (s : List Int) : PassI s 0 [] [] := ⟨by simp, by simp⟩
theorem PassI.over {s : List Int} {i : Nat} {T R : List Int} (h : PassI s i T R) (h1 : i + 1 < s.length) (he : lpf (el s i) = lpf (el s (i + 1))) : PassI s (i + 1) T (R ++ [el s i]) := by
  have e : s.drop i = el s i :: el s (i + 1) :: s.drop (i + 2) := by rw [drop_split (by omega), drop_split h1]
  have e2 : s.drop (i + 1) = el s (i + 1) :: s.drop (i + 2) := drop_split h1
  refine ⟨?_, ?_⟩
  · rw [h.top, e, e2]; simp [topsL, he]
  · rw [h.rest, e, e2]; simp [restL, he]
theorem PassI.take {s : List Int} {i : Nat} {T R : List Int} (h : PassI s i T R) (hi : i < s.length) (he : i + 1 = s.length ∨ lpf (el s i) ≠ lpf (el s (i + 1))) : PassI s (i + 1) (T ++ [el s i]) R := by
  by_cases h1 : i + 1 < s.length
  · have e : s.drop i = el s i :: el s (i + 1) :: s.drop (i + 2) := by rw [drop_split (by omega), drop_split h1]
    have e2 : s.drop (i + 1) = el s (i + 1) :: s.drop (i + 2) := drop_split h1
    have hne : ¬ lpf (el s i) = lpf (el s (i + 1)) := by
      rcases he with he | he
      · omega
      · exact he
    refine ⟨?_, ?_⟩
    · rw [h.top, e, e2]; simp [topsL, hne]
    · rw [h.rest, e, e2]; simp [restL, hne]
  · have e2 : s.drop (i + 1) = [] := List.drop_eq_nil_of_le (by omega)
    have e : s.drop i = [el s i] := by rw [drop_split hi, e2]
    refine ⟨?_, ?_⟩
    · rw [h.top, e, e2]; simp [topsL]
    · rw [h.rest, e, e2]; simp [restL]
theorem PassI.done {s : List Int} {T R : List Int} (h : PassI s s.length T R) : topsL s = T ∧ restL s = R := by
  have h1 := h.top
  have h2 := h.rest
  rw [List.drop_length] at h1 h2
  simpa [topsL, restL] using And.intro h1 h2
/-- too large a product on the way: too large a factor -/
theorem bad_of {qs s F T R : List Int} {i : Nat} (hs : Srt s) (hx : ∀ x ∈ s, isPP x) (hi : i < s.length) (hF : (facD s).reverse ++ F = facG qs) (h : PassI s (i + 1) (T ++ [el s i]) R) (hb : 1000000 < mulL T * el s i) : facBad qs = true := by
  have hpass := facD_pass hs (fun e => by rw [e] at hi; simp at hi)
  have htop : ∀ x ∈ topsL s, 1 ≤ x := fun x hx' => by have := (hx x (topsL_sub s x hx')).1; omega
  have hle : mulL T * el s i ≤ mulL (topsL s) := by
    have h1 := h.top
    rw [h1] at htop ⊢
    have := mulL_le_app (xs := T ++ [el s i]) (ys := topsL (s.drop (i + 1))) htop
    rw [mulL_snoc] at this
    exact this
  unfold facBad
  rw [List.any_eq_true]
  refine ⟨mulL (topsL s), ?_, by simp; omega⟩
  have : mulL (topsL s) ∈ facG qs := by rw [← hF, hpass]; simp
  unfold facG at this
  simpa using this
theorem good_of {qs F : List Int} (hF : F = facG qs) (hb : ∀ x ∈ F, x ≤ 1000000) : facBad qs = false := by
  unfold facBad
  rw [List.any_eq_false]
  intro x hx
  have := hb x (by rw [hF]; unfold facG; simpa using hx)
  simp
  omega
theorem new_block {b a4 : Option Addr} {s s' : Nat} (h : ∀ p, b = some p → s ≤ p.block) (hs : s ≤ s') (q : a4 = b ∨ ∃ p, a4 = some p ∧ s' ≤ p.block) (p : Addr) (hp : a4 = some p) : s ≤ p.block := by
  rcases q with q | ⟨p', q, h2⟩
  · exact h p (by rw [← q]; exact hp)
  · rw [hp] at q; injection q with q; subst q; omega
/-- what the reference's factors are -/
def okB (qs : List Int) : Bool := !facBad qs
def FromR (qs : List Int) (R : List Int) : Prop := okB qs = true → R = facG qs
end Go.Proofs.Ytkidohohiihbaaa
