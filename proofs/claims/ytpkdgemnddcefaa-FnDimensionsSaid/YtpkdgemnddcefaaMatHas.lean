/- Whether a subspace has a vector: the program and the reference. -/
import Derived.Test.YtpkdgemnddcefaaMatSub
import Derived.Test.YtpkdgemnddcefaaMatSubS
import Derived.Test.YtpkdgemnddcefaaRem
import Derived.Test.YtpkdgemnddcefaaZero
import Derived.Test.YtpkdgemnddcefaaClrU
import Derived.Test.YtpkdgemnddcefaaClrU
set_option linter.unusedVariables false
set_option linter.unusedSimpArgs false
namespace Go.Proofs.Ytpkdgemnddcefaa
open Go.RowKit

theorem subB_yes {xss : List (List Int)} {p q : Int} (h : subB xss p q = true) : isMx xss p q = true ∧ IsRref p q.toNat xss xss := by
  unfold subB at h
  rw [Bool.and_eq_true] at h
  exact ⟨h.1, by simpa using h.2⟩
theorem vecB_ok {p q : Int} {xs : List Int} (h : vecB p q xs = true) : Vec p q xs := by unfold vecB at h; simpa using h
theorem Clr.congr {p : Int} {n k : Nat} {R : List (List Int)} {piv piv' : Nat → Nat} {v u : List Int} (h : Clr p n R piv v u k) (e : ∀ i, i < k → piv i = piv' i) : Clr p n R piv' v u k :=
  ⟨h.len, h.rng, fun i hi => by rw [← e i hi]; exact h.zero i hi, h.sp⟩
theorem Rref.uniqClr {p : Int} {n : Nat} {R : List (List Int)} {piv piv' : Nat → Nat} {v u u' : List Int} (hR : Rref p n R piv) (hp : 2 ≤ p) (hR' : Rref p n R piv') (h' : Clr p n R piv' v u' R.length) (h : Clr p n R piv v u R.length) : u' = u :=
  Clr.unique hR hp (h'.congr fun i hi => (hR'.isLead hi).unique (hR.isLead hi)) h
theorem ret_bi {k : IntKind} {a b : Int} {s t : Bool} (h : s = t) (h2 : a = b) : Ending.returned (.tuple #[.bool s, .int k a]) = .returned (.tuple #[.bool t, .int k b]) := by rw [h, h2]
def HasV (xss : List (List Int)) (p q : Int) (v : List Int) : Prop := subB xss p q = true ∧ vecB p q v = true ∧ ∃ piv u, Rref p q.toNat xss piv ∧ Clr p q.toNat xss piv v u xss.length ∧ AllZ u
noncomputable def hasVB (xss : List (List Int)) (p q : Int) (v : List Int) : Bool := @decide (HasV xss p q v) (Classical.propDecidable _)
noncomputable def hasVC (xss : List (List Int)) (p q : Int) (v : List Int) : Int := if subB xss p q = true ∧ vecB p q v = true then 0 else 1
theorem hasV_no {xss : List (List Int)} {p q : Int} {v : List Int} (h : ¬ (subB xss p q = true ∧ vecB p q v = true)) : hasVB xss p q v = false ∧ hasVC xss p q v = 1 := by
  refine ⟨?_, if_neg h⟩
  unfold hasVB
  simp only [decide_eq_false_iff_not]
  exact fun hh => h ⟨hh.1, hh.2.1⟩
theorem hasV_is {xss : List (List Int)} {p q : Int} {v u : List Int} {piv : Nat → Nat} (h : subB xss p q = true) (hv : vecB p q v = true) (hp : 2 ≤ p) (hR : Rref p q.toNat xss piv) (hc : Clr p q.toNat xss piv v u xss.length) : hasVB xss p q v = zeroB u ∧ hasVC xss p q v = 0 := by
  refine ⟨?_, if_pos ⟨h, hv⟩⟩
  by_cases hz : AllZ u
  · rw [zeroB_t hz]
    unfold hasVB
    simp only [decide_eq_true_eq]
    exact ⟨h, hv, piv, u, hR, hc, hz⟩
  · rw [zeroB_f hz]
    unfold hasVB
    simp only [decide_eq_false_iff_not]
    rintro ⟨_, _, piv', u', hR', hc', hz'⟩
    have e : u' = u := hR.uniqClr hp hR' hc' hc
    exact hz (e ▸ hz')

end Go.Proofs.Ytpkdgemnddcefaa
