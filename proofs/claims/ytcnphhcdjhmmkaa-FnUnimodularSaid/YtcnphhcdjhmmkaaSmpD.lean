/- What the checker of Smith proofs asks. No program in sight. -/
import Derived.Test.YtcnphhcdjhmmkaaProd
import Derived.Test.YtcnphhcdjhmmkaaTabDet
set_option linter.unusedVariables false
set_option linter.unusedSimpArgs false
namespace Go.Proofs.Ytcnphhcdjhmmkaa
open Go.RowKit

/-- all numbers are positive, and each divides the next one -/
def dsOk (ds : List Int) (i : Nat) : Prop := 1 ≤ el ds i ∧ (0 < i → el ds i % el ds (i - 1) = 0)
/-- the entry that is wanted -/
def wantE (ds : List Int) (i j : Nat) : Int := if i = j ∧ i < ds.length then el ds i else 0
structure SpOk (xs : List (List Int)) (q : Int) (us : List (List Int)) (uq : Int) (vs : List (List Int)) (vq : Int) (ds : List Int) : Prop where
  tb : isTb xs q = true
  n4 : 1 ≤ xs.length ∧ xs.length ≤ 4
  uu : uniV us uq = true
  uv : uniV vs vq = true
  uq : uq = xs.length
  vq : vq = q
  dn : ds.length ≤ xs.length
  dq : (ds.length : Int) ≤ q
  dk : ∀ i, i < ds.length → dsOk ds i
  pr : ∀ i j, i < xs.length → j < q.toNat → el (rw_ (timesI q.toNat (timesI q.toNat us xs) vs) i) j = wantE ds i j
noncomputable def spB (xs : List (List Int)) (q : Int) (us : List (List Int)) (uq : Int) (vs : List (List Int)) (vq : Int) (ds : List Int) : Bool := @decide (SpOk xs q us uq vs vq ds) (Classical.propDecidable _)
theorem spB_t {xs : List (List Int)} {q : Int} {us : List (List Int)} {uq : Int} {vs : List (List Int)} {vq : Int} {ds : List Int} (h : SpOk xs q us uq vs vq ds) : spB xs q us uq vs vq ds = true := by unfold spB; exact @decide_eq_true _ (Classical.propDecidable _) h
theorem spB_f {xs : List (List Int)} {q : Int} {us : List (List Int)} {uq : Int} {vs : List (List Int)} {vq : Int} {ds : List Int} (h : ¬ SpOk xs q us uq vs vq ds) : spB xs q us uq vs vq ds = false := by unfold spB; exact @decide_eq_false _ (Classical.propDecidable _) h
theorem uniV_tb {us : List (List Int)} {uq : Int} (h : uniV us uq = true) : TbOk us uq ∧ (us.length : Int) = uq := by
  unfold uniV at h
  simp only [Bool.and_eq_true, decide_eq_true_eq] at h
  exact ⟨isTb_ok h.1.1, h.1.2⟩
theorem pr_first {xs us : List (List Int)} {q uq : Int} {n : Nat} (ht : TbOk xs q) (hn : xs.length = n) (hu : uniV us uq = true) (hq : uq = n) (h4 : n ≤ 4) : us.length = n ∧ PrOk n n q.toNat 64 64 us xs := by
  obtain ⟨hu1, hu2⟩ := uniV_tb hu
  have hl : us.length = n := by omega
  refine ⟨hl, hl, hn, fun i hi => ?_, fun k hk => ?_, fun i k hi hk => ?_, fun k j hk hj => ?_, by omega, by omega, by omega, by omega, by omega⟩
  · have := (hu1.row i (by omega)).1; omega
  · have := (ht.row k (by omega)).1; omega
  · exact (hu1.row i (by omega)).2 k (by have := (hu1.row i (by omega)).1; omega)
  · exact (ht.row k (by omega)).2 j (by have := (ht.row k (by omega)).1; omega)
theorem pr_second {xs us vs : List (List Int)} {q uq vq : Int} {n : Nat} (ht : TbOk xs q) (hn : xs.length = n) (hu : uniV us uq = true) (hq : uq = n) (h4 : n ≤ 4) (hv : uniV vs vq = true) (hvq : vq = q) : vs.length = q.toNat ∧ PrOk n q.toNat q.toNat 16384 64 (timesI q.toNat us xs) vs := by
  obtain ⟨hl, hp⟩ := pr_first ht hn hu hq h4
  obtain ⟨hv1, hv2⟩ := uniV_tb hv
  have h1 := ht.q1
  have h5 := ht.q4
  have hlv : vs.length = q.toNat := by omega
  refine ⟨hlv, by rw [timesI_len, hl], hlv, fun i hi => ?_, fun k hk => ?_, fun i k hi hk => ?_, fun k j hk hj => ?_, by omega, by omega, by omega, by omega, by omega⟩
  · rw [timesI_row (by rw [hl]; exact hi), psum_len]
  · have := (hv1.row k (by omega)).1; omega
  · rw [timesI_row (by rw [hl]; exact hi), psum_el hk]
    have := hp.psum_bd hi hk (show xs.length ≤ n by omega)
    have h6 : (n : Int) * (64 * 64) ≤ 4 * (64 * 64) := Int.mul_le_mul_of_nonneg_right (by omega) (by omega)
    omega
  · exact (hv1.row k (by omega)).2 j (by have := (hv1.row k (by omega)).1; omega)
end Go.Proofs.Ytcnphhcdjhmmkaa
