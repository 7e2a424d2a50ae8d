/-
  The given statement of the law FnExactIsSmithProof: whatever the input, the law answers true, and its arguments read afterwards as before.
  Conditions: none.
-/
import Derived.Test.YtjnkhbaklilkkaaRows
import Derived.Test.YtjnkhbaklilkkaaTabLaw6
import Derived.WalkKit
import Derived.ProofKit
import Derived.OpenShut
import Derived.Test.YtjnkhbaklilkkaaOpen
namespace Go.Proofs.Ytjnkhbaklilkkaa.fnExactIsSmithProof
open Go.ChangeShapes Go.WideShapes Go.ChangeAt Go.RowKit Go.Joins
set_option linter.unusedVariables false

theorem own : ownKnob Try.prog.godebug = none := by kernel_rfl
theorem laidOut : laidOutB Try.prog = true := by kernel_rfl

set_option maxRecDepth 100000 in
theorem lifted (os : Os) (started : os.Started) (H : Type) (enc : TypeId × Value → H) :
    ReturnsInHanded {} Try.checked os 8 .any (Rows.fnExactIsSmithProofSpec.pre6 enc Try.prog Try.f8 Rows.fnExactIsSmithProofRow.domain false) (Rows.fnExactIsSmithProofSpec.post enc Try.prog Try.f8 false true false false) := by
  refine returnsInHanded_of_change (C := Try.checked) own started (by kernel_rfl) Try.func8
    (ChangeSpec.witness6 (enc := enc) (C := Try.checked) false ⟨#[], #[.agg #[.int .i64 0, .slice none 0 0], .agg #[.int .i64 0, .slice none 0 0], .agg #[.int .i64 0, .slice none 0 0], .slice none 0 0], []⟩ 8 (by kernel_rfl) (by kernel_rfl) (by kernel_rfl) (by kernel_rfl)) ?_
  intro W base args ds gs before hval0 hW hcnd _
  have hval : ∀ (j : Nat) t v, Try.f8.params[j]? = some t → args[j]? = some v → Value.okWide Try.prog W .any base t v := hval0
  have hW' := hW
  obtain ⟨p, q, hA0, hV, rfl, hfz, hnd⟩ := hW
  have hA : DataW.TrodAll enc Try.prog W 0 (fun _ => true) true Try.f8.params.toList args.toList ds p := hA0
  rw [Try.params8] at hA hval
  obtain ⟨v0, vs0, d0, ds0, p0, q0, hargs, rfl, rfl, h0, r0⟩ := trodAll_cons hA
  obtain ⟨v1, vs1, d1, ds1, p1, q1, rfl, rfl, rfl, h1, r1⟩ := trodAll_cons r0
  obtain ⟨v2, vs2, d2, ds2, p2, q2, rfl, rfl, rfl, h2, r2⟩ := trodAll_cons r1
  obtain ⟨v3, vs3, d3, ds3, p3, q3, rfl, rfl, rfl, h3, r3⟩ := trodAll_cons r2
  obtain ⟨rfl, rfl, rfl⟩ := trodAll_nil r3
  obtain rfl : args = #[v0, v1, v2, v3] := by cases args; simp_all
  obtain ⟨rfl, rfl⟩ := trodVars_none hV
  have k0 := h0
  have lt0 : ∀ x ∈ p0, x.block < W.heap.size := by obtain ⟨m, hm⟩ := k0; exact DataW.trod_lt m _ _ _ hm
  obtain ⟨e0_0, e1_0, y0_0, y1_0, m0, rfl, rfl, rfl, g0_0, g1_0⟩ := open_agg2 Try.underlying24 (by kernel_rfl) (by kernel_rfl) (hval 0 24 v0 rfl rfl) h0
  obtain ⟨q0, q0_0, _, wq0⟩ := DataW.trod_int Try.underlying2 g0_0
  simp at q0_0
  subst q0_0
  obtain ⟨a0, l0, c0, q1_0⟩ := slice_form Try.underlying22 g1_0
  simp at q1_0
  subst q1_0
  obtain ⟨xss0, hl0, hx0, hw0, hm0⟩ := openR Try.underlying22 Try.underlying35 Try.underlying2 (by kernel_rfl) (by kernel_rfl) g1_0
  have k1 := h1
  have lt1 : ∀ x ∈ p1, x.block < W.heap.size := by obtain ⟨m, hm⟩ := k1; exact DataW.trod_lt m _ _ _ hm
  obtain ⟨e0_1, e1_1, y0_1, y1_1, m1, rfl, rfl, rfl, g0_1, g1_1⟩ := open_agg2 Try.underlying24 (by kernel_rfl) (by kernel_rfl) (hval 1 24 v1 rfl rfl) h1
  obtain ⟨q1, q0_1, _, wq1⟩ := DataW.trod_int Try.underlying2 g0_1
  simp at q0_1
  subst q0_1
  obtain ⟨a1, l1, c1, q1_1⟩ := slice_form Try.underlying22 g1_1
  simp at q1_1
  subst q1_1
  obtain ⟨xss1, hl1, hx1, hw1, hm1⟩ := openR Try.underlying22 Try.underlying35 Try.underlying2 (by kernel_rfl) (by kernel_rfl) g1_1
  have k2 := h2
  have lt2 : ∀ x ∈ p2, x.block < W.heap.size := by obtain ⟨m, hm⟩ := k2; exact DataW.trod_lt m _ _ _ hm
  obtain ⟨e0_2, e1_2, y0_2, y1_2, m2, rfl, rfl, rfl, g0_2, g1_2⟩ := open_agg2 Try.underlying24 (by kernel_rfl) (by kernel_rfl) (hval 2 24 v2 rfl rfl) h2
  obtain ⟨q2, q0_2, _, wq2⟩ := DataW.trod_int Try.underlying2 g0_2
  simp at q0_2
  subst q0_2
  obtain ⟨a2, l2, c2, q1_2⟩ := slice_form Try.underlying22 g1_2
  simp at q1_2
  subst q1_2
  obtain ⟨xss2, hl2, hx2, hw2, hm2⟩ := openR Try.underlying22 Try.underlying35 Try.underlying2 (by kernel_rfl) (by kernel_rfl) g1_2
  have k3 := h3
  have lt3 : ∀ x ∈ p3, x.block < W.heap.size := by obtain ⟨m, hm⟩ := k3; exact DataW.trod_lt m _ _ _ hm
  obtain ⟨a3, l3, c3, rfl⟩ := okWide_slice Try.underlying35 (hval 3 35 v3 rfl rfl)
  obtain ⟨xs3, hl3, hx3, hw3, hm3⟩ : ∃ xs : List Int, xs.length = l3 ∧ RdI W a3 xs ∧ (∀ x ∈ xs, (Lit.int .i64 x).wf = true) ∧ l3 ≤ maxLen := by
    obtain ⟨fuel, hf⟩ := h3
    exact openI Try.underlying35 Try.underlying2 (by kernel_rfl) hf
  clear hA0 hval0
  refine (law_IsSmithProof q0 a0 l0 c0 xss0 q1 a1 l1 c1 xss1 q2 a2 l2 c2 xss2 a3 l3 c3 xs3 W (wf_bd wq0) hl0 hx0 hw0 hm0 (wf_bd wq1) hl1 hx1 hw1 hm1 (wf_bd wq2) hl2 hx2 hw2 hm2 hl3 hx3 hw3 hm3).mono fun e W' ⟨he, bel⟩ => ?_
  subst he
  exact ⟨_, rfl, _, _, _, [], _, [], hW', trodAll_mk1 (shut_bool Try.underlying4 _), (trodAll_cons_mk (Below.trod laidOut (by kernel_rfl) (of_decide_eq_true (by kernel_rfl)) k0 bel lt0) (trodAll_cons_mk (Below.trod laidOut (by kernel_rfl) (of_decide_eq_true (by kernel_rfl)) k1 bel lt1) (trodAll_cons_mk (Below.trod laidOut (by kernel_rfl) (of_decide_eq_true (by kernel_rfl)) k2 bel lt2) (trodAll_cons_mk (Below.trod laidOut (by kernel_rfl) (of_decide_eq_true (by kernel_rfl)) k3 bel lt3) trodAll_mk0)))), rfl, bel.frame _, fun h => by cases h⟩

theorem over : Rows.fnExactIsSmithProofRow.holds Try.pinned (OpenSpec.ofChange Rows.fnExactIsSmithProofSpec) :=
  OpenClaim.holds_of_wide 8 Try.f8 rfl rfl rfl rfl rfl rfl rfl ⟨rfl, rfl, rfl, rfl, rfl⟩ rfl rfl rfl rfl rfl (by kernel_rfl) Try.func8 (by kernel_rfl)
    (of_decide_eq_true (by kernel_rfl)) (by unfold Func.isWrapper; first | (rw [if_pos (by decide +kernel)]; kernel_rfl) | (rw [if_neg (by decide +kernel)]; exact ⟨rfl, rfl⟩))
    (fun os started H enc _ => lifted os started H enc)

/-- the given statement -/
theorem proved : Rows.FnExactIsSmithProofSaid := over
#print axioms proved
end Go.Proofs.Ytjnkhbaklilkkaa.fnExactIsSmithProof
