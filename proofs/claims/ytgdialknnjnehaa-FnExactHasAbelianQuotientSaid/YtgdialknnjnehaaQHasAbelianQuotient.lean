/-
  The given statement of the law FnExactHasAbelianQuotient: whatever the input, the law answers true, and its arguments read afterwards as before.
  Conditions: none.
-/
import Derived.Test.YtgdialknnjnehaaRows
import Derived.Test.YtgdialknnjnehaaAbLaw9
import Derived.WalkKit
import Derived.ProofKit
import Derived.OpenShut
import Derived.Test.YtgdialknnjnehaaOpen
namespace Go.Proofs.Ytgdialknnjnehaa.fnExactHasAbelianQuotient
open Go.ChangeShapes Go.WideShapes Go.ChangeAt Go.RowKit Go.Joins
set_option linter.unusedVariables false

theorem own : ownKnob Try.prog.godebug = none := by kernel_rfl
theorem laidOut : laidOutB Try.prog = true := by kernel_rfl

set_option maxRecDepth 100000 in
theorem lifted (os : Os) (started : os.Started) (H : Type) (enc : TypeId × Value → H) :
    ReturnsInHanded {} Try.checked os 12 .any (Rows.fnExactHasAbelianQuotientSpec.pre6 enc Try.prog Try.f12 Rows.fnExactHasAbelianQuotientRow.domain false) (Rows.fnExactHasAbelianQuotientSpec.post enc Try.prog Try.f12 false true false false) := by
  refine returnsInHanded_of_change (C := Try.checked) own started (by kernel_rfl) Try.func12
    (ChangeSpec.witness6 (enc := enc) (C := Try.checked) false ⟨#[], #[.agg #[.slice none 0 0, .int .i64 0], .agg #[.slice none 0 0, .int .i64 0]], []⟩ 8 (by kernel_rfl) (by kernel_rfl) (by kernel_rfl) (by kernel_rfl)) ?_
  intro W base args ds gs before hval0 hW hcnd _
  have hval : ∀ (j : Nat) t v, Try.f12.params[j]? = some t → args[j]? = some v → Value.okWide Try.prog W .any base t v := hval0
  have hW' := hW
  obtain ⟨p, q, hA0, hV, rfl, hfz, hnd⟩ := hW
  have hA : DataW.TrodAll enc Try.prog W 0 (fun _ => true) true Try.f12.params.toList args.toList ds p := hA0
  rw [Try.params12] at hA hval
  obtain ⟨v0, vs0, d0, ds0, p0, q0, hargs, rfl, rfl, h0, r0⟩ := trodAll_cons hA
  obtain ⟨v1, vs1, d1, ds1, p1, q1, rfl, rfl, rfl, h1, r1⟩ := trodAll_cons r0
  obtain ⟨rfl, rfl, rfl⟩ := trodAll_nil r1
  obtain rfl : args = #[v0, v1] := by cases args; simp_all
  obtain ⟨rfl, rfl⟩ := trodVars_none hV
  have k0 := h0
  have lt0 : ∀ x ∈ p0, x.block < W.heap.size := by obtain ⟨m, hm⟩ := k0; exact DataW.trod_lt m _ _ _ hm
  obtain ⟨e0_0, e1_0, y0_0, y1_0, m0, rfl, rfl, rfl, g0_0, g1_0⟩ := open_agg2 Try.underlying24 (by kernel_rfl) (by kernel_rfl) (hval 0 24 v0 rfl rfl) h0
  obtain ⟨a0, l0, c0, q0_0⟩ := slice_form Try.underlying22 g0_0
  simp at q0_0
  subst q0_0
  obtain ⟨xs0, hl0, hx0, hw0, hm0⟩ := openI Try.underlying22 Try.underlying2 (by kernel_rfl) g0_0
  obtain ⟨rk0, q1_0, _, wr0⟩ := DataW.trod_int Try.underlying2 g1_0
  simp at q1_0
  subst q1_0
  have k1 := h1
  have lt1 : ∀ x ∈ p1, x.block < W.heap.size := by obtain ⟨m, hm⟩ := k1; exact DataW.trod_lt m _ _ _ hm
  obtain ⟨e0_1, e1_1, y0_1, y1_1, m1, rfl, rfl, rfl, g0_1, g1_1⟩ := open_agg2 Try.underlying24 (by kernel_rfl) (by kernel_rfl) (hval 1 24 v1 rfl rfl) h1
  obtain ⟨a1, l1, c1, q0_1⟩ := slice_form Try.underlying22 g0_1
  simp at q0_1
  subst q0_1
  obtain ⟨xs1, hl1, hx1, hw1, hm1⟩ := openI Try.underlying22 Try.underlying2 (by kernel_rfl) g0_1
  obtain ⟨rk1, q1_1, _, wr1⟩ := DataW.trod_int Try.underlying2 g1_1
  simp at q1_1
  subst q1_1
  clear hA0 hval0
  refine (law_HasAbelianQuotient a0 l0 c0 xs0 rk0 a1 l1 c1 xs1 rk1 W hl0 hx0 hw0 hm0 (wf_bd wr0) hl1 hx1 hw1 hm1 (wf_bd wr1)).mono fun e W' ⟨he, bel⟩ => ?_
  subst he
  exact ⟨_, rfl, _, _, _, [], _, [], hW', trodAll_mk1 (shut_bool Try.underlying4 _), (trodAll_cons_mk (Below.trod laidOut (by kernel_rfl) (of_decide_eq_true (by kernel_rfl)) k0 bel lt0) (trodAll_cons_mk (Below.trod laidOut (by kernel_rfl) (of_decide_eq_true (by kernel_rfl)) k1 bel lt1) trodAll_mk0)), rfl, bel.frame _, fun h => by cases h⟩

theorem over : Rows.fnExactHasAbelianQuotientRow.holds Try.pinned (OpenSpec.ofChange Rows.fnExactHasAbelianQuotientSpec) :=
  OpenClaim.holds_of_wide 12 Try.f12 rfl rfl rfl rfl rfl rfl rfl ⟨rfl, rfl, rfl, rfl, rfl⟩ rfl rfl rfl rfl rfl (by kernel_rfl) Try.func12 (by kernel_rfl)
    (of_decide_eq_true (by kernel_rfl)) (by unfold Func.isWrapper; first | (rw [if_pos (by decide +kernel)]; kernel_rfl) | (rw [if_neg (by decide +kernel)]; exact ⟨rfl, rfl⟩))
    (fun os started H enc _ => lifted os started H enc)

/-- the given statement -/
theorem proved : Rows.FnExactHasAbelianQuotientSaid := over
#print axioms proved
end Go.Proofs.Ytgdialknnjnehaa.fnExactHasAbelianQuotient
