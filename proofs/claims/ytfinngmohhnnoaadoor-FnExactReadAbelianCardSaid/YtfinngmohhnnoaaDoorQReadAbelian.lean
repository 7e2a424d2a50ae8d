/- The given statement of the law on reading the text of an abelian group: the row, and its card. -/
import Derived.Test.YtfinngmohhnnoaaDoorCards
import Derived.Test.YtfinngmohhnnoaaDoorTie
import Derived.Test.YtfinngmohhnnoaaDoorLawRd
import Derived.Test.YtfinngmohhnnoaaDoorOpen
import Derived.WalkKit
import Derived.ProofKit
import Derived.OpenShut
import Derived.Deep.DeepHandedRow
import Derived.Lib.LaidTab
import Derived.LaidSub
import Derived.MakeChecks
import Derived.ChangeMaps5
import Derived.Stop.LaidErr
namespace Go.Proofs.YtfinngmohhnnoaaDoor.fnExactReadAbelian
open Go.ChangeShapes Go.WideShapes Go.ChangeAt Go.RowKit Go.Joins
set_option linter.unusedVariables false

theorem own : ownKnob Tryd.prog.godebug = none := by kernel_rfl
theorem laidOut : laidOutB Tryd.prog = true := by kernel_rfl
theorem gTab : Tryd.prog.globalNamed "internal/strconv.uint64pow10" = some 2 := by kernel_rfl
theorem gTabType : (Tryd.prog.globals[2]?).map (·.type) = some 93 := by kernel_rfl
theorem cellsT : Tryd.prog.cellsOf 93 = 20 := by kernel_rfl
theorem cellsE : Tryd.prog.cellsOf 68 = 1 := by kernel_rfl
theorem filtered : Rows.fnExactReadAbelianRow.laid.filter (fun x => x.1 == "internal/strconv.uint64pow10") = [("internal/strconv.uint64pow10", Lib.tabData .u64 Lib.pow10Tab)] := by kernel_rfl

theorem gErr : Tryd.prog.globalNamed "strconv.ErrSyntax" = some 0 := by kernel_rfl
theorem gErrType : (Tryd.prog.globals[0]?).map (·.type) = some 47 := by kernel_rfl
theorem gErr2 : Tryd.prog.globalNamed "strconv.ErrRange" = some 1 := by kernel_rfl
theorem gErrType2 : (Tryd.prog.globals[1]?).map (·.type) = some 47 := by kernel_rfl
theorem cellsS : Tryd.prog.cellsOf 103 = 1 := by kernel_rfl
theorem cellsB : Tryd.prog.cellsOf 9 = 1 := by kernel_rfl
theorem star : "*" ++ "errors.errorString" = "*errors.errorString" := by decide
theorem rowE (u : TypeId) (h : Tryd.prog.typeName? 3 u = some "*errors.errorString") : u = 101 :=
  typeName_ptr_named (nm := "errors.errorString") (by rw [star]; kernel_rfl) (by kernel_rfl) (by decide) u (by rw [star]; exact h)
theorem filteredE : Rows.fnExactReadAbelianRow.laid.filter (fun x => x.1 == "strconv.ErrSyntax") = [("strconv.ErrSyntax", Rows.laid_strconv_ErrSyntax)] := by kernel_rfl
theorem filteredR : Rows.fnExactReadAbelianRow.laid.filter (fun x => x.1 == "strconv.ErrRange") = [("strconv.ErrRange", Rows.laid_strconv_ErrRange)] := by kernel_rfl

/-- what the row's list gives, and the world's shape -/
theorem table {W : World} (h : laidMetH Tryd.prog Rows.fnExactReadAbelianRow.laid W) (hsh : W.ShapedOpen Tryd.prog) : LibW W := by
  refine ⟨?_, YtfinngmohhnnoaaDoor.splitS.s1_3 W hsh, ?_, ?_⟩
  · have h2 := h.filter (fun x => x.1 == "internal/strconv.uint64pow10")
    rw [filtered] at h2
    exact Lib.tabIs_of_head (rest := []) gTab gTabType Tryd.underlying93 Tryd.underlying68 cellsE cellsT h2
  · have h2 := h.filter (fun x => x.1 == "strconv.ErrSyntax")
    rw [filteredE, MakeChecks.laidMetH_plain _ _ _ (by kernel_rfl)] at h2
    obtain ⟨a, s, hv, _⟩ := laid_sentinel h2 gErr gErrType Tryd.underlying47 rowE Tryd.underlying101 Tryd.underlying103 rfl rfl Tryd.underlying9 cellsS cellsB
    exact ⟨_, _, hv⟩
  · have h2 := h.filter (fun x => x.1 == "strconv.ErrRange")
    rw [filteredR, MakeChecks.laidMetH_plain _ _ _ (by kernel_rfl)] at h2
    obtain ⟨a, s, hv, _⟩ := laid_sentinel h2 gErr2 gErrType2 Tryd.underlying47 rowE Tryd.underlying101 Tryd.underlying103 rfl rfl Tryd.underlying9 cellsS cellsB
    exact ⟨_, _, hv⟩

set_option maxRecDepth 100000 in
theorem contract (H : Type) (enc : TypeId × Value → H) (W : World) (base : Nat) (args : Array Value) (ds gs : List (DataW H)) (before : List MemPlace)
    (hval : ∀ (j : Nat) t v, Tryd.f4.params[j]? = some t → args[j]? = some v → Value.okWide Tryd.prog W .any base t v)
    (hW : DataW.Whole enc Tryd.prog Tryd.f4.params.toList Rows.fnExactReadAbelianSpec.vars false W args.toList ds gs before) (hL : laidMetH Tryd.prog Rows.fnExactReadAbelianRow.laid W) (hsh : W.ShapedOpen Tryd.prog) :
    Calls Tryd.prog 4 args W fun e W' => ∃ v, e = .returned v ∧ Rows.fnExactReadAbelianSpec.post enc Tryd.prog Tryd.f4 false true false false W args v W' := by
  have hW' := hW
  obtain ⟨p, q, hA0, hV, rfl, hfz, hnd⟩ := hW
  have hA : DataW.TrodAll enc Tryd.prog W 0 (fun _ => true) true Tryd.f4.params.toList args.toList ds p := hA0
  rw [Tryd.params4] at hA hval
  obtain ⟨v0, vs0, d0, ds0, p0, q0, hargs, rfl, rfl, h0, r0⟩ := trodAll_cons hA
  obtain ⟨rfl, rfl, rfl⟩ := trodAll_nil r0
  obtain rfl : args = #[v0] := by cases args; simp_all
  obtain ⟨rfl, rfl⟩ := trodVars_none hV
  have k0 := h0
  have lt0 : ∀ x ∈ p0, x.block < W.heap.size := by obtain ⟨m, hm⟩ := k0; exact DataW.trod_lt m _ _ _ hm
  obtain ⟨S0, rfl, rfl, rfl, hz0⟩ := Go.ChangeMaps.open_string Tryd.underlying9 (hval 0 9 v0 rfl rfl) h0
  clear hA0 hval
  refine (law_ReadAbelian S0 W (table hL hsh)).mono fun e W' ⟨he, bel⟩ => ?_
  subst he
  exact ⟨_, rfl, _, _, _, [], _, [], hW', trodAll_mk1 (shut_bool Tryd.underlying4 _), (trodAll_cons_mk (Below.trod laidOut (by kernel_rfl) (of_decide_eq_true (by kernel_rfl)) k0 bel lt0) trodAll_mk0), rfl, bel.frame _, fun h => by cases h⟩

/-- a world for the witness: the settled one, the seven variables laid -/
def cellOf (d : DataW Unit) : List Value := match d with
  | .lit (.int k z) => [Value.int k z]
  | .agg ps => ps.map fun | .lit (.int k z) => Value.int k z | _ => undef
  | _ => []
def tabOf (d : DataW Unit) : Array Value := match d with
  | .agg ps => (ps.flatMap cellOf).toArray
  | _ => #[]
def rangeText : ByteArray := ⟨#[118, 97, 108, 117, 101, 32, 111, 117, 116, 32, 111, 102, 32, 114, 97, 110, 103, 101]⟩
def wrongText : ByteArray := ⟨#[105, 110, 118, 97, 108, 105, 100, 32, 115, 121, 110, 116, 97, 120]⟩
noncomputable def low : Nat := (World.holding Tryd.prog default ⟨#[], #[], []⟩).heap.size
noncomputable def laidWorld (os : Os) : World :=
  let w0 := World.holding Tryd.prog os ⟨#[.cells #[.string rangeText] 103, .cells #[.string wrongText] 103], #[], []⟩
  let put : Nat → Array Value → Array Obj → Array Obj := fun g d h => h.modify g fun
      | .cells _ t frozen => .cells d t frozen
      | o => o
  { w0 with heap := put 2 (tabOf Rows.laid_internal_strconv_uint64pow10) (put 6 (tabOf Rows.laid_math_bits_deBruijn32tab) (put 7 (tabOf Rows.laid_math_bits_deBruijn64tab) (put 5 (tabOf Rows.laid_unicode_utf8_acceptRanges) (put 4 (tabOf Rows.laid_unicode_utf8_first) (put 1 #[.iface 101 (.pointer (some ⟨low, 0, none⟩))] (put 0 #[.iface 101 (.pointer (some ⟨low + 1, 0, none⟩))] w0.heap)))))) }
def arg0 : Array Value := #[.string ⟨#[]⟩]
theorem laid_met (os : Os) : laidMet Tryd.prog Rows.fnExactReadAbelianRow.laid ((laidWorld os).forCall (fun _ _ => 0) ⟨#[], arg0, []⟩).memory :=
  laidMet_of_run' 8 (by kernel_rfl) (by kernel_rfl)
theorem reads (os : Os) {H : Type} (enc : TypeId × Value → H) : ∃ places, DataW.whole enc Tryd.prog ((laidWorld os).forCall (fun _ _ => 0) ⟨#[], arg0, []⟩).memory Tryd.f4.params.toList Rows.fnExactReadAbelianSpec.vars false arg0.toList 8 = some ([.lit (.string [])], [], places) :=
  ⟨[], by kernel_rfl⟩

set_option maxRecDepth 100000 in
theorem lifted (os : Os) (started : os.Started) (H : Type) (enc : TypeId × Value → H) (F : Stop.Interp) :
    ReturnsInHanded {} Tryd.checked os 4 .any ((OpenSpec.ofChange Rows.fnExactReadAbelianSpec).preRow enc Tryd.prog Tryd.f4 Rows.fnExactReadAbelianRow.domain false Rows.fnExactReadAbelianRow.laid) (((OpenSpec.ofChange Rows.fnExactReadAbelianSpec).at F).post enc Tryd.prog Tryd.f4 false true false false) := by
  obtain ⟨places, hx⟩ := reads os enc
  refine returnsInHanded_of_row (C := Tryd.checked) (s := OpenSpec.ofChange Rows.fnExactReadAbelianSpec) own started (by kernel_rfl) Tryd.func4
    (witness_row_at (enc := enc) (C := Tryd.checked) false (laidWorld os) arg0 rfl (by kernel_rfl) (by kernel_rfl) (by kernel_rfl)
      (OpenSpec.preRow_of_cond 8 hx (by kernel_rfl) (fun k hk => by cases hk) (by kernel_rfl) (laid_met os))) ?_
  intro W base args ds gs before hval hW _ _ _ hL hsh _
  exact contract H enc W base args ds gs before hval hW hL hsh

theorem said : Rows.FnExactReadAbelianSaid :=
  OpenClaim.holds_of_cond 4 Tryd.f4 rfl rfl rfl rfl rfl rfl rfl ⟨rfl, rfl, rfl, rfl, rfl⟩ rfl rfl rfl rfl rfl (by kernel_rfl) Tryd.func4 (by kernel_rfl)
    (of_decide_eq_true (by kernel_rfl)) (by unfold Func.isWrapper; first | (rw [if_pos (by decide +kernel)]; kernel_rfl) | (rw [if_neg (by decide +kernel)]; exact ⟨rfl, rfl⟩))
    (fun os started H enc _ F => by rw [OpenClaim.pre_eq_preRow]; exact lifted os started H enc F)

theorem plain (f : FuncId) (fn : Func) (hf : Tryd.pinned.checked.prog.funcNamed "loop.example/g01076/laws.FnExactReadAbelian" = some f) (hfn : Tryd.pinned.checked.prog.funcs[f]? = some fn) :
    true = Tryd.pinned.checked.prog.looks [] ∧ ∀ (j : Nat) t, fn.params[j]? = some t → Tryd.pinned.checked.prog.wantsStandIn t = false := by
  obtain rfl : f = 4 := Option.some.inj ((show Tryd.prog.funcNamed "loop.example/g01076/laws.FnExactReadAbelian" = some 4 by kernel_rfl).symm.trans hf) |>.symm
  obtain rfl : fn = Tryd.f4 := (Option.some.inj (Tryd.func4.symm.trans hfn)).symm
  refine ⟨by kernel_rfl, fun j t ht => ?_⟩
  rw [Tryd.params4] at ht
  obtain rfl : t = 9 := by simpa using Array.mem_of_getElem? ht
  exact (show Tryd.prog.wantsStandIn 9 = false by kernel_rfl)

/-- the given statement -/
theorem proved : Rows.FnExactReadAbelianCardSaid :=
  Claim7.holds_tied_plain_at .later [] _ _ _ _ said (fun _ h => by cases h) (by kernel_rfl) (fun _ h => by cases h) fnExactReadAbelian_row_tie rfl ⟨rfl, rfl⟩ (by kernel_rfl) rfl plain (by kernel_rfl)
#print axioms proved
end Go.Proofs.YtfinngmohhnnoaaDoor.fnExactReadAbelian
