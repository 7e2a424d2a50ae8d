/- The determinant modulo p by elimination. No program in sight. -/
import Derived.Test.YtngikcjdhbflkaaReduce
set_option linter.unusedVariables false
set_option linter.unusedSimpArgs false
namespace Go.Proofs.Ytngikcjdhbflkaa
open Go.RowKit

/-- the rows c+1 .. j-1 cleared in column c -/
def elimD (p x : Int) (T : List (List Int)) (c j : Nat) : List (List Int) := tab T.length fun i => if c < i ∧ i < j then addm p (-(el (rw_ T i) c) * x) (rw_ T i) (rw_ T c) else rw_ T i
section
variable {p x : Int} {T : List (List Int)} {c j i n : Nat}
theorem elimD_len (p x : Int) (T : List (List Int)) (c j : Nat) : (elimD p x T c j).length = T.length := tab_len _ _
theorem elimD_yes (h : i < T.length) (h1 : c < i) (h2 : i < j) : rw_ (elimD p x T c j) i = addm p (-(el (rw_ T i) c) * x) (rw_ T i) (rw_ T c) := by
  unfold elimD; rw [rw_tab h, if_pos ⟨h1, h2⟩]
theorem elimD_no (h : i < T.length) (h1 : i ≤ c ∨ j ≤ i) : rw_ (elimD p x T c j) i = rw_ T i := by
  unfold elimD; rw [rw_tab h, if_neg (by omega)]
theorem elimD_start : elimD p x T c (c + 1) = T := by
  refine rows_ext (elimD_len _ _ _ _ _) fun i hi => ?_
  rw [elimD_len] at hi
  exact elimD_no hi (by omega)
theorem elimD_succ (hj : j < T.length) (hc : c < j) : rowSet (elimD p x T c j) j (addm p (-(el (rw_ T j) c) * x) (rw_ T j) (rw_ T c)) = elimD p x T c (j + 1) := by
  refine rows_ext (by rw [rowSet_len, elimD_len, elimD_len]) fun i hi => ?_
  rw [rowSet_len, elimD_len] at hi
  by_cases h : i = j
  · subst h; rw [rowSet_eq (by rw [elimD_len]; exact hi), elimD_yes hi hc (by omega)]
  · rw [rowSet_ne (by rw [elimD_len]; exact hi) h]
    by_cases h2 : c < i ∧ i < j
    · rw [elimD_yes hi h2.1 h2.2, elimD_yes hi h2.1 (by omega)]
    · rw [elimD_no hi (by omega), elimD_no hi (by omega)]
theorem elimD_rws (h : Rws p n T) (hp : 2 ≤ p) : Rws p n (elimD p x T c j) := by
  refine ⟨fun i hi => ?_, fun i t hi ht => ?_⟩
  · rw [elimD_len] at hi
    by_cases h2 : c < i ∧ i < j
    · rw [elimD_yes hi h2.1 h2.2, addm_len]; exact h.row i hi
    · rw [elimD_no hi (by omega)]; exact h.row i hi
  · rw [elimD_len] at hi
    by_cases h2 : c < i ∧ i < j
    · rw [elimD_yes hi h2.1 h2.2, el_addm (by rw [h.row i hi]; exact ht)]; exact emod_bd _ _ (by omega)
    · rw [elimD_no hi (by omega)]; exact h.rng i t hi ht
end
def sgnS (p : Int) (c m : Nat) (o : Int) : Int := if m = c then o else p - o
/-- the elimination from column c on, with the rows T and the product o so far, ends with r -/
inductive DetR (p : Int) (n : Nat) : List (List Int) → Int → Nat → Int → Prop
  | done {T : List (List Int)} {o : Int} : DetR p n T o n o
  | zero {T : List (List Int)} {o : Int} {c : Nat} : c < n → (∀ i, c ≤ i → i < n → el (rw_ T i) c = 0) → DetR p n T o c 0
  | step {T : List (List Int)} {o : Int} {c m : Nat} {x r : Int} : c < n → c ≤ m → m < n → (∀ i, c ≤ i → i < m → el (rw_ T i) c = 0) → el (rw_ T m) c ≠ 0 → IsInv (el (rw_ T m) c) p x →
      DetR p n (elimD p x (swR T c m) c n) (sgnS p c m o * el (rw_ T m) c % p) (c + 1) r → DetR p n T o c r
theorem DetR.unique {p : Int} {n : Nat} {T : List (List Int)} {o r r' : Int} {c : Nat} (h : DetR p n T o c r) (k : DetR p n T o c r') : r = r' := by
  induction h generalizing r' with
  | done =>
    cases k with
    | done => rfl
    | zero h1 _ => omega
    | step h1 _ _ _ _ _ _ => omega
  | zero h1 h2 =>
    cases k with
    | done => omega
    | zero _ _ => rfl
    | step _ h3 h4 h5 h6 _ _ => exact absurd (h2 _ h3 h4) h6
  | step h1 h2 h3 h4 h5 h6 h7 ih =>
    rename_i T0 o0 c0 m0 x0 r0
    cases k with
    | done => omega
    | zero _ k2 => exact absurd (k2 _ h2 h3) h5
    | @step _ _ _ m1 x1 _ k1 k2 k3 k4 k5 k6 k7 =>
      have hm : m0 = m1 := by
        rcases Nat.lt_trichotomy m0 m1 with h | h | h
        · exact absurd (k4 m0 h2 h) h5
        · exact h
        · exact absurd (h4 m1 k2 h) k5
      subst hm
      obtain rfl := h6.unique k6
      exact ih k7
theorem sgn_mod (p e o : Int) : ((-o) % p * e) % p = (p - o) * e % p := by
  have h : (p - o) * e = (-o) * e + p * e := by grind
  rw [h, Int.add_mul_emod_self_left, Int.mul_emod (-o % p) e, Int.emod_emod, ← Int.mul_emod]
theorem addm_modk {p k k' : Int} {r o : List Int} (h : p ∣ k - k') : addm p k r o = addm p k' r o := by
  unfold addm
  refine tab_congr fun j _ => ?_
  obtain ⟨y, hy⟩ := h
  have e : el r j + k * el o j = (el r j + k' * el o j) + p * (y * el o j) := by
    have : k = k' + p * y := by omega
    rw [this]; grind
  rw [e, Int.add_mul_emod_self_left]
theorem swR_same {T : List (List Int)} {c : Nat} : swR T c c = T := by
  refine rows_ext (swR_len _ _ _) fun i hi => ?_
  rw [swR_len] at hi
  rw [swR_row hi]
  congr 1
  unfold swi
  split
  · omega
  · rfl
end Go.Proofs.Ytngikcjdhbflkaa
