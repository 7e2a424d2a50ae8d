/- The given statement of the law on the text of an abelian group: the row, and its card. -/
import Derived.Test.YtfinngmohhnnoaaDoorCards
import Derived.Test.YtfinngmohhnnoaaDoorTie
import Derived.Test.YtfinngmohhnnoaaDoorLawTx
import Derived.Test.YtfinngmohhnnoaaDoorOpen
import Derived.WalkKit
import Derived.ProofKit
import Derived.OpenShut
import Derived.Deep.DeepHandedRow
import Derived.Lib.LaidTab
import Derived.LaidSub
namespace Go.Proofs.YtfinngmohhnnoaaDoor.fnExactAbelianText
open Go.ChangeShapes Go.WideShapes Go.ChangeAt Go.RowKit Go.Joins
set_option linter.unusedVariables false

theorem own : ownKnob Tryd.prog.godebug = none := by kernel_rfl
theorem laidOut : laidOutB Tryd.prog = true := by kernel_rfl
theorem gTab : Tryd.prog.globalNamed "internal/strconv.uint64pow10" = some 2 := by kernel_rfl
theorem gTabType : (Tryd.prog.globals[2]?).map (·.type) = some 93 := by kernel_rfl
theorem cellsT : Tryd.prog.cellsOf 93 = 20 := by kernel_rfl
theorem cellsE : Tryd.prog.cellsOf 68 = 1 := by kernel_rfl
theorem filtered : Rows.fnExactAbelianTextRow.laid.filter (fun x => x.1 == "internal/strconv.uint64pow10") = [("internal/strconv.uint64pow10", Lib.tabData .u64 Lib.pow10Tab)] := by kernel_rfl

/-- what the row's list gives -/
theorem table {W : World} (h : laidMetH Tryd.prog Rows.fnExactAbelianTextRow.laid W) : Pow W := by
  have h2 := h.filter (fun x => x.1 == "internal/strconv.uint64pow10")
  rw [filtered] at h2
  exact Lib.tabIs_of_head (rest := []) gTab gTabType Tryd.underlying93 Tryd.underlying68 cellsE cellsT h2

set_option maxRecDepth 100000 in
theorem contract (H : Type) (enc : TypeId × Value → H) (W : World) (base : Nat) (args : Array Value) (ds gs : List (DataW H)) (before : List MemPlace)
    (hval : ∀ (j : Nat) t v, Tryd.f3.params[j]? = some t → args[j]? = some v → Value.okWide Tryd.prog W .any base t v)
    (hW : DataW.Whole enc Tryd.prog Tryd.f3.params.toList Rows.fnExactAbelianTextSpec.vars false W args.toList ds gs before) (hL : laidMetH Tryd.prog Rows.fnExactAbelianTextRow.laid W) :
    Calls Tryd.prog 3 args W fun e W' => ∃ v, e = .returned v ∧ Rows.fnExactAbelianTextSpec.post enc Tryd.prog Tryd.f3 false true false false W args v W' := by
  have hW' := hW
  obtain ⟨p, q, hA0, hV, rfl, hfz, hnd⟩ := hW
  have hA : DataW.TrodAll enc Tryd.prog W 0 (fun _ => true) true Tryd.f3.params.toList args.toList ds p := hA0
  rw [Tryd.params3] at hA hval
  obtain ⟨v0, vs0, d0, ds0, p0, q0, hargs, rfl, rfl, h0, r0⟩ := trodAll_cons hA
  obtain ⟨rfl, rfl, rfl⟩ := trodAll_nil r0
  obtain rfl : args = #[v0] := by cases args; simp_all
  obtain ⟨rfl, rfl⟩ := trodVars_none hV
  have k0 := h0
  have lt0 : ∀ x ∈ p0, x.block < W.heap.size := by obtain ⟨m, hm⟩ := k0; exact DataW.trod_lt m _ _ _ hm
  obtain ⟨e0_0, e1_0, y0_0, y1_0, m0, rfl, rfl, rfl, g0_0, g1_0⟩ := open_agg2 Tryd.underlying24 (by kernel_rfl) (by kernel_rfl) (hval 0 24 v0 rfl rfl) h0
  obtain ⟨a0, l0, c0, q0_0⟩ := slice_form Tryd.underlying22 g0_0
  simp at q0_0
  subst q0_0
  obtain ⟨xs0, hl0, hx0, hw0, hm0⟩ := openI Tryd.underlying22 Tryd.underlying2 (by kernel_rfl) g0_0
  obtain ⟨rk0, q1_0, _, wr0⟩ := DataW.trod_int Tryd.underlying2 g1_0
  simp at q1_0
  subst q1_0
  clear hA0 hval
  refine (law_AbelianText a0 l0 c0 xs0 rk0 W hl0 hx0 hw0 hm0 (wf_bd wr0) (table hL)).mono fun e W' ⟨he, bel⟩ => ?_
  subst he
  exact ⟨_, rfl, _, _, _, [], _, [], hW', trodAll_mk1 (shut_bool Tryd.underlying4 _), (trodAll_cons_mk (Below.trod laidOut (by kernel_rfl) (of_decide_eq_true (by kernel_rfl)) k0 bel lt0) trodAll_mk0), rfl, bel.frame _, fun h => by cases h⟩

/-- a world for the witness: the settled one, the three tables laid -/
def tabOf (d : DataW Unit) : Array Value := match d with
  | .agg ps => (ps.map fun | .lit (.int k z) => Value.int k z | _ => undef).toArray
  | _ => #[]
noncomputable def laidWorld (os : Os) : World :=
  let w0 := World.holding Tryd.prog os ⟨#[], #[], []⟩
  let put : Nat → DataW Unit → Array Obj → Array Obj := fun g d h => h.modify g fun
      | .cells _ t frozen => .cells (tabOf d) t frozen
      | o => o
  { w0 with heap := put 2 Rows.laid_internal_strconv_uint64pow10 (put 6 Rows.laid_math_bits_deBruijn32tab (put 7 Rows.laid_math_bits_deBruijn64tab w0.heap)) }
def arg0 : Array Value := #[.agg #[.slice none 0 0, .int .i64 0]]
theorem laid_met (os : Os) : laidMet Tryd.prog Rows.fnExactAbelianTextRow.laid ((laidWorld os).forCall (fun _ _ => 0) ⟨#[], arg0, []⟩).memory :=
  laidMet_of_run' 8 (by kernel_rfl) (by kernel_rfl)
theorem reads (os : Os) {H : Type} (enc : TypeId × Value → H) : ∃ places, DataW.whole enc Tryd.prog ((laidWorld os).forCall (fun _ _ => 0) ⟨#[], arg0, []⟩).memory Tryd.f3.params.toList Rows.fnExactAbelianTextSpec.vars false arg0.toList 8 = some ([.agg [.nil, .lit (.int .i64 0)]], [], places) :=
  ⟨[], by kernel_rfl⟩

set_option maxRecDepth 100000 in
theorem lifted (os : Os) (started : os.Started) (H : Type) (enc : TypeId × Value → H) (F : Stop.Interp) :
    ReturnsInHanded {} Tryd.checked os 3 .any ((OpenSpec.ofChange Rows.fnExactAbelianTextSpec).preRow enc Tryd.prog Tryd.f3 Rows.fnExactAbelianTextRow.domain false Rows.fnExactAbelianTextRow.laid) (((OpenSpec.ofChange Rows.fnExactAbelianTextSpec).at F).post enc Tryd.prog Tryd.f3 false true false false) := by
  obtain ⟨places, hx⟩ := reads os enc
  refine returnsInHanded_of_row (C := Tryd.checked) (s := OpenSpec.ofChange Rows.fnExactAbelianTextSpec) own started (by kernel_rfl) Tryd.func3
    (witness_row_at (enc := enc) (C := Tryd.checked) false (laidWorld os) arg0 rfl (by kernel_rfl) (by kernel_rfl) (by kernel_rfl)
      (OpenSpec.preRow_of_cond 8 hx (by kernel_rfl) (fun k hk => by cases hk) (by kernel_rfl) (laid_met os))) ?_
  intro W base args ds gs before hval hW _ _ _ hL _ _
  exact contract H enc W base args ds gs before hval hW hL

theorem said : Rows.FnExactAbelianTextSaid :=
  OpenClaim.holds_of_cond 3 Tryd.f3 rfl rfl rfl rfl rfl rfl rfl ⟨rfl, rfl, rfl, rfl, rfl⟩ rfl rfl rfl rfl rfl (by kernel_rfl) Tryd.func3 (by kernel_rfl)
    (of_decide_eq_true (by kernel_rfl)) (by unfold Func.isWrapper; first | (rw [if_pos (by decide +kernel)]; kernel_rfl) | (rw [if_neg (by decide +kernel)]; exact ⟨rfl, rfl⟩))
    (fun os started H enc _ F => by rw [OpenClaim.pre_eq_preRow]; exact lifted os started H enc F)

theorem plain (f : FuncId) (fn : Func) (hf : Tryd.pinned.checked.prog.funcNamed "loop.example/g01076/laws.FnExactAbelianText" = some f) (hfn : Tryd.pinned.checked.prog.funcs[f]? = some fn) :
    true = Tryd.pinned.checked.prog.looks [] ∧ ∀ (j : Nat) t, fn.params[j]? = some t → Tryd.pinned.checked.prog.wantsStandIn t = false := by
  obtain rfl : f = 3 := Option.some.inj ((show Tryd.prog.funcNamed "loop.example/g01076/laws.FnExactAbelianText" = some 3 by kernel_rfl).symm.trans hf) |>.symm
  obtain rfl : fn = Tryd.f3 := (Option.some.inj (Tryd.func3.symm.trans hfn)).symm
  refine ⟨by kernel_rfl, fun j t ht => ?_⟩
  rw [Tryd.params3] at ht
  obtain rfl : t = 24 := by simpa using Array.mem_of_getElem? ht
  exact (show Tryd.prog.wantsStandIn 24 = false by kernel_rfl)

/-- the given statement -/
theorem proved : Rows.FnExactAbelianTextCardSaid :=
  Claim7.holds_tied_plain_at .later [] _ _ _ _ said (fun _ h => by cases h) (by kernel_rfl) (fun _ h => by cases h) fnExactAbelianText_row_tie rfl ⟨rfl, rfl⟩ (by kernel_rfl) rfl plain (by kernel_rfl)
#print axioms proved
end Go.Proofs.YtfinngmohhnnoaaDoor.fnExactAbelianText
