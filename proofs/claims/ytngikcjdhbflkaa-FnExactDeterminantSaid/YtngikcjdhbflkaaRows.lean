/-
  No cell of these rows narrows 'for every input' (looked for: loops, veiled, ifaces, maps, wideKeys, modest, calm, conditions, laid).
  DERIVED. THE GIVEN ROWS OF THIS SEAT. 12 by the template 'for every input the law returns true; each argument reads behind the call as it read before'; 0 by the template 'total and deterministic' (their statements: YtngikcjdhbflkaaTotals.lean).
  GIVEN WITH THE SEED: the statements are not yours to turn. If you find one false, say at which input.
  Laid BY PROGRAM, IN A SANDBOX (cutbox-rows.mjs): the forced cells as the released guide's own fill.sh prints them over the translation b4266bd0da3edd5a… (all of the seat's roots in one cut). By AI agents, Wed Nov 11 2026. No macro, syntax, notation, axiom, sorry.
-/
import Derived.Test.YtngikcjdhbflkaaChecked
import GoSem.Claim
import GoSem.ClaimJoined
import GoSem.ClaimMapViews
import Derived.JoinedTies
import Derived.KernelRfl
namespace Go.Proofs.Ytngikcjdhbflkaa
/- THE CELL 'sum', in the pinned program and in every row, IS THE sha256 OF THE DUMP (.gsa) THAT YtngikcjdhbflkaaProg.lean LOADS. Nothing in Lean hashes anything: it is a label: what it is worth is what the hold of that sum in a sandbox is worth. -/
noncomputable def Try.pinned : Pinned := { name := "ytngikcjdhbflkaa", sum := "b4266bd0da3edd5ad9bd8315cf451f0603f70c34fe5fdf0d3c71e7b91f3fc2ad", checked := Try.checked }
namespace Rows
def none {H : Type} : Left H := { results := [], args := [] }

/-- 'laws.FnExactIdentityMatrix': WHATEVER THE INPUT: true; the input reads as it did. -/
def fnExactIdentityMatrixSpec : ChangeSpec := { name := "fnExactIdentityMatrix", fn := fun _ => fun
  | [d1, d2] => { results := [.lit (.bool true)], args := [d1, d2] }
  | _ => none }
def fnExactIdentityMatrixRow : OpenClaim := { program := "ytngikcjdhbflkaa", sum := "b4266bd0da3edd5ad9bd8315cf451f0603f70c34fe5fdf0d3c71e7b91f3fc2ad", func := "loop.example/g01076/laws.FnExactIdentityMatrix", spec := "fnExactIdentityMatrix", apart := false }
def FnExactIdentityMatrixSaid : Prop := fnExactIdentityMatrixRow.holds Try.pinned (OpenSpec.ofChange fnExactIdentityMatrixSpec)

/-- ITS FALSE NEIGHBOUR: 'it returns false'. Refute it at one input. -/
def fnExactIdentityMatrixWrong : ChangeSpec := { name := "fnExactIdentityMatrix", fn := fun _ => fun
  | [d1, d2] => { results := [.lit (.bool false)], args := [d1, d2] }
  | _ => none }
def FnExactIdentityMatrixWrongFalsely : Prop := fnExactIdentityMatrixRow.holds Try.pinned (OpenSpec.ofChange fnExactIdentityMatrixWrong)

/-- 'laws.FnExactIsMatrix': WHATEVER THE INPUT: true; the input reads as it did. -/
def fnExactIsMatrixSpec : ChangeSpec := { name := "fnExactIsMatrix", fn := fun _ => fun
  | [d] => { results := [.lit (.bool true)], args := [d] }
  | _ => none }
def fnExactIsMatrixRow : OpenClaim := { program := "ytngikcjdhbflkaa", sum := "b4266bd0da3edd5ad9bd8315cf451f0603f70c34fe5fdf0d3c71e7b91f3fc2ad", func := "loop.example/g01076/laws.FnExactIsMatrix", spec := "fnExactIsMatrix", apart := false }
def FnExactIsMatrixSaid : Prop := fnExactIsMatrixRow.holds Try.pinned (OpenSpec.ofChange fnExactIsMatrixSpec)

/-- ITS FALSE NEIGHBOUR: 'it returns false'. Refute it at one input. -/
def fnExactIsMatrixWrong : ChangeSpec := { name := "fnExactIsMatrix", fn := fun _ => fun
  | [d] => { results := [.lit (.bool false)], args := [d] }
  | _ => none }
def FnExactIsMatrixWrongFalsely : Prop := fnExactIsMatrixRow.holds Try.pinned (OpenSpec.ofChange fnExactIsMatrixWrong)

/-- 'laws.FnExactTransposeMatrix': WHATEVER THE INPUT: true; the input reads as it did. -/
def fnExactTransposeMatrixSpec : ChangeSpec := { name := "fnExactTransposeMatrix", fn := fun _ => fun
  | [d] => { results := [.lit (.bool true)], args := [d] }
  | _ => none }
def fnExactTransposeMatrixRow : OpenClaim := { program := "ytngikcjdhbflkaa", sum := "b4266bd0da3edd5ad9bd8315cf451f0603f70c34fe5fdf0d3c71e7b91f3fc2ad", func := "loop.example/g01076/laws.FnExactTransposeMatrix", spec := "fnExactTransposeMatrix", apart := false }
def FnExactTransposeMatrixSaid : Prop := fnExactTransposeMatrixRow.holds Try.pinned (OpenSpec.ofChange fnExactTransposeMatrixSpec)

/-- ITS FALSE NEIGHBOUR: 'it returns false'. Refute it at one input. -/
def fnExactTransposeMatrixWrong : ChangeSpec := { name := "fnExactTransposeMatrix", fn := fun _ => fun
  | [d] => { results := [.lit (.bool false)], args := [d] }
  | _ => none }
def FnExactTransposeMatrixWrongFalsely : Prop := fnExactTransposeMatrixRow.holds Try.pinned (OpenSpec.ofChange fnExactTransposeMatrixWrong)

/-- 'laws.FnExactDeterminant': WHATEVER THE INPUT: true; the input reads as it did. -/
def fnExactDeterminantSpec : ChangeSpec := { name := "fnExactDeterminant", fn := fun _ => fun
  | [d] => { results := [.lit (.bool true)], args := [d] }
  | _ => none }
def fnExactDeterminantRow : OpenClaim := { program := "ytngikcjdhbflkaa", sum := "b4266bd0da3edd5ad9bd8315cf451f0603f70c34fe5fdf0d3c71e7b91f3fc2ad", func := "loop.example/g01076/laws.FnExactDeterminant", spec := "fnExactDeterminant", apart := false }
def FnExactDeterminantSaid : Prop := fnExactDeterminantRow.holds Try.pinned (OpenSpec.ofChange fnExactDeterminantSpec)

/-- ITS FALSE NEIGHBOUR: 'it returns false'. Refute it at one input. -/
def fnExactDeterminantWrong : ChangeSpec := { name := "fnExactDeterminant", fn := fun _ => fun
  | [d] => { results := [.lit (.bool false)], args := [d] }
  | _ => none }
def FnExactDeterminantWrongFalsely : Prop := fnExactDeterminantRow.holds Try.pinned (OpenSpec.ofChange fnExactDeterminantWrong)

/-- 'laws.FnExactIsSubspace': WHATEVER THE INPUT: true; the input reads as it did. -/
def fnExactIsSubspaceSpec : ChangeSpec := { name := "fnExactIsSubspace", fn := fun _ => fun
  | [d] => { results := [.lit (.bool true)], args := [d] }
  | _ => none }
def fnExactIsSubspaceRow : OpenClaim := { program := "ytngikcjdhbflkaa", sum := "b4266bd0da3edd5ad9bd8315cf451f0603f70c34fe5fdf0d3c71e7b91f3fc2ad", func := "loop.example/g01076/laws.FnExactIsSubspace", spec := "fnExactIsSubspace", unfollowed := true, recurses := true, apart := false }
def FnExactIsSubspaceSaid : Prop := fnExactIsSubspaceRow.holds Try.pinned (OpenSpec.ofChange fnExactIsSubspaceSpec)

/-- ITS FALSE NEIGHBOUR: 'it returns false'. Refute it at one input. -/
def fnExactIsSubspaceWrong : ChangeSpec := { name := "fnExactIsSubspace", fn := fun _ => fun
  | [d] => { results := [.lit (.bool false)], args := [d] }
  | _ => none }
def FnExactIsSubspaceWrongFalsely : Prop := fnExactIsSubspaceRow.holds Try.pinned (OpenSpec.ofChange fnExactIsSubspaceWrong)

/-- 'laws.FnExactReduceRows': WHATEVER THE INPUT: true; the input reads as it did. -/
def fnExactReduceRowsSpec : ChangeSpec := { name := "fnExactReduceRows", fn := fun _ => fun
  | [d] => { results := [.lit (.bool true)], args := [d] }
  | _ => none }
def fnExactReduceRowsRow : OpenClaim := { program := "ytngikcjdhbflkaa", sum := "b4266bd0da3edd5ad9bd8315cf451f0603f70c34fe5fdf0d3c71e7b91f3fc2ad", func := "loop.example/g01076/laws.FnExactReduceRows", spec := "fnExactReduceRows", apart := false }
def FnExactReduceRowsSaid : Prop := fnExactReduceRowsRow.holds Try.pinned (OpenSpec.ofChange fnExactReduceRowsSpec)

/-- ITS FALSE NEIGHBOUR: 'it returns false'. Refute it at one input. -/
def fnExactReduceRowsWrong : ChangeSpec := { name := "fnExactReduceRows", fn := fun _ => fun
  | [d] => { results := [.lit (.bool false)], args := [d] }
  | _ => none }
def FnExactReduceRowsWrongFalsely : Prop := fnExactReduceRowsRow.holds Try.pinned (OpenSpec.ofChange fnExactReduceRowsWrong)

/-- 'laws.FnExactHasVector': WHATEVER THE INPUT: true; the input reads as it did. -/
def fnExactHasVectorSpec : ChangeSpec := { name := "fnExactHasVector", fn := fun _ => fun
  | [d1, d2] => { results := [.lit (.bool true)], args := [d1, d2] }
  | _ => none }
def fnExactHasVectorRow : OpenClaim := { program := "ytngikcjdhbflkaa", sum := "b4266bd0da3edd5ad9bd8315cf451f0603f70c34fe5fdf0d3c71e7b91f3fc2ad", func := "loop.example/g01076/laws.FnExactHasVector", spec := "fnExactHasVector", unfollowed := true, recurses := true, apart := false }
def FnExactHasVectorSaid : Prop := fnExactHasVectorRow.holds Try.pinned (OpenSpec.ofChange fnExactHasVectorSpec)

/-- ITS FALSE NEIGHBOUR: 'it returns false'. Refute it at one input. -/
def fnExactHasVectorWrong : ChangeSpec := { name := "fnExactHasVector", fn := fun _ => fun
  | [d1, d2] => { results := [.lit (.bool false)], args := [d1, d2] }
  | _ => none }
def FnExactHasVectorWrongFalsely : Prop := fnExactHasVectorRow.holds Try.pinned (OpenSpec.ofChange fnExactHasVectorWrong)

/-- 'laws.FnExactLeftKernel': WHATEVER THE INPUT: true; the input reads as it did. -/
def fnExactLeftKernelSpec : ChangeSpec := { name := "fnExactLeftKernel", fn := fun _ => fun
  | [d] => { results := [.lit (.bool true)], args := [d] }
  | _ => none }
def fnExactLeftKernelRow : OpenClaim := { program := "ytngikcjdhbflkaa", sum := "b4266bd0da3edd5ad9bd8315cf451f0603f70c34fe5fdf0d3c71e7b91f3fc2ad", func := "loop.example/g01076/laws.FnExactLeftKernel", spec := "fnExactLeftKernel", apart := false }
def FnExactLeftKernelSaid : Prop := fnExactLeftKernelRow.holds Try.pinned (OpenSpec.ofChange fnExactLeftKernelSpec)

/-- ITS FALSE NEIGHBOUR: 'it returns false'. Refute it at one input. -/
def fnExactLeftKernelWrong : ChangeSpec := { name := "fnExactLeftKernel", fn := fun _ => fun
  | [d] => { results := [.lit (.bool false)], args := [d] }
  | _ => none }
def FnExactLeftKernelWrongFalsely : Prop := fnExactLeftKernelRow.holds Try.pinned (OpenSpec.ofChange fnExactLeftKernelWrong)

/-- 'laws.FnExactInverseMatrix': WHATEVER THE INPUT: true; the input reads as it did. -/
def fnExactInverseMatrixSpec : ChangeSpec := { name := "fnExactInverseMatrix", fn := fun _ => fun
  | [d] => { results := [.lit (.bool true)], args := [d] }
  | _ => none }
def fnExactInverseMatrixRow : OpenClaim := { program := "ytngikcjdhbflkaa", sum := "b4266bd0da3edd5ad9bd8315cf451f0603f70c34fe5fdf0d3c71e7b91f3fc2ad", func := "loop.example/g01076/laws.FnExactInverseMatrix", spec := "fnExactInverseMatrix", apart := false }
def FnExactInverseMatrixSaid : Prop := fnExactInverseMatrixRow.holds Try.pinned (OpenSpec.ofChange fnExactInverseMatrixSpec)

/-- ITS FALSE NEIGHBOUR: 'it returns false'. Refute it at one input. -/
def fnExactInverseMatrixWrong : ChangeSpec := { name := "fnExactInverseMatrix", fn := fun _ => fun
  | [d] => { results := [.lit (.bool false)], args := [d] }
  | _ => none }
def FnExactInverseMatrixWrongFalsely : Prop := fnExactInverseMatrixRow.holds Try.pinned (OpenSpec.ofChange fnExactInverseMatrixWrong)

/-- 'laws.FnExactSubspaceSum': WHATEVER THE INPUT: true; the input reads as it did. -/
def fnExactSubspaceSumSpec : ChangeSpec := { name := "fnExactSubspaceSum", fn := fun _ => fun
  | [d1, d2] => { results := [.lit (.bool true)], args := [d1, d2] }
  | _ => none }
def fnExactSubspaceSumRow : OpenClaim := { program := "ytngikcjdhbflkaa", sum := "b4266bd0da3edd5ad9bd8315cf451f0603f70c34fe5fdf0d3c71e7b91f3fc2ad", func := "loop.example/g01076/laws.FnExactSubspaceSum", spec := "fnExactSubspaceSum", unfollowed := true, recurses := true, apart := false }
def FnExactSubspaceSumSaid : Prop := fnExactSubspaceSumRow.holds Try.pinned (OpenSpec.ofChange fnExactSubspaceSumSpec)

/-- ITS FALSE NEIGHBOUR: 'it returns false'. Refute it at one input. -/
def fnExactSubspaceSumWrong : ChangeSpec := { name := "fnExactSubspaceSum", fn := fun _ => fun
  | [d1, d2] => { results := [.lit (.bool false)], args := [d1, d2] }
  | _ => none }
def FnExactSubspaceSumWrongFalsely : Prop := fnExactSubspaceSumRow.holds Try.pinned (OpenSpec.ofChange fnExactSubspaceSumWrong)

/-- 'laws.FnExactSolveRows': WHATEVER THE INPUT: true; the input reads as it did. -/
def fnExactSolveRowsSpec : ChangeSpec := { name := "fnExactSolveRows", fn := fun _ => fun
  | [d1, d2] => { results := [.lit (.bool true)], args := [d1, d2] }
  | _ => none }
def fnExactSolveRowsRow : OpenClaim := { program := "ytngikcjdhbflkaa", sum := "b4266bd0da3edd5ad9bd8315cf451f0603f70c34fe5fdf0d3c71e7b91f3fc2ad", func := "loop.example/g01076/laws.FnExactSolveRows", spec := "fnExactSolveRows", unfollowed := true, recurses := true, apart := false }
def FnExactSolveRowsSaid : Prop := fnExactSolveRowsRow.holds Try.pinned (OpenSpec.ofChange fnExactSolveRowsSpec)

/-- ITS FALSE NEIGHBOUR: 'it returns false'. Refute it at one input. -/
def fnExactSolveRowsWrong : ChangeSpec := { name := "fnExactSolveRows", fn := fun _ => fun
  | [d1, d2] => { results := [.lit (.bool false)], args := [d1, d2] }
  | _ => none }
def FnExactSolveRowsWrongFalsely : Prop := fnExactSolveRowsRow.holds Try.pinned (OpenSpec.ofChange fnExactSolveRowsWrong)

/-- 'laws.FnExactStandardComplement': WHATEVER THE INPUT: true; the input reads as it did. -/
def fnExactStandardComplementSpec : ChangeSpec := { name := "fnExactStandardComplement", fn := fun _ => fun
  | [d] => { results := [.lit (.bool true)], args := [d] }
  | _ => none }
def fnExactStandardComplementRow : OpenClaim := { program := "ytngikcjdhbflkaa", sum := "b4266bd0da3edd5ad9bd8315cf451f0603f70c34fe5fdf0d3c71e7b91f3fc2ad", func := "loop.example/g01076/laws.FnExactStandardComplement", spec := "fnExactStandardComplement", unfollowed := true, recurses := true, apart := false }
def FnExactStandardComplementSaid : Prop := fnExactStandardComplementRow.holds Try.pinned (OpenSpec.ofChange fnExactStandardComplementSpec)

/-- ITS FALSE NEIGHBOUR: 'it returns false'. Refute it at one input. -/
def fnExactStandardComplementWrong : ChangeSpec := { name := "fnExactStandardComplement", fn := fun _ => fun
  | [d] => { results := [.lit (.bool false)], args := [d] }
  | _ => none }
def FnExactStandardComplementWrongFalsely : Prop := fnExactStandardComplementRow.holds Try.pinned (OpenSpec.ofChange fnExactStandardComplementWrong)

/- THE SECOND FORM. 'bulk': how many values and letters a reading holds, each counted each time it is reached (what is shared counts as often as it is met; a slice's spare places count too). A statement '..UptoSaid' is the law's where the arguments, and the package variables that the reading takes, are together of bulk at most 1048576: NARROWER than '..Said'. Prove '..Said' where nothing that the law and all that it calls make is longer than what came in: it says more and counts as full. Else prove '..UptoSaid'. A law counts once. -/
mutual
def uptoBulk {H : Type} : DataW H → Nat
  | .lit (.string bytes) => bytes.length + 1
  | .lit _ => 1
  | .nil => 1
  | .ptr d => uptoBulk d + 1
  | .slice elems spare => uptoBulkAll elems + uptoBulkAll spare + 1
  | .agg parts => uptoBulkAll parts + 1
  | .iface _ d => uptoBulk d + 1
  | .map entries => uptoBulkEntries entries + 1
  | .held _ => 1
def uptoBulkAll {H : Type} : List (DataW H) → Nat
  | [] => 0
  | d :: r => uptoBulk d + uptoBulkAll r
def uptoBulkEntries {H : Type} : List (Lit × DataW H) → Nat
  | [] => 0
  | x :: r => uptoBulkEntry x + uptoBulkEntries r
def uptoBulkEntry {H : Type} : Lit × DataW H → Nat
  | (.string bytes, d) => bytes.length + uptoBulk d + 1
  | (_, d) => uptoBulk d + 1
 end
def uptoSmall : (H : Type) → List (DataW H) → Bool := fun _ ds => decide (uptoBulkAll ds ≤ 1048576)
def OpenSpec.upto (s : _root_.Go.ChangeSpec) : _root_.Go.OpenSpec := { _root_.Go.OpenSpec.ofChange s with cond := some uptoSmall }

/-- 'laws.FnExactIdentityMatrix', WHERE WHAT IT READS IS OF BULK AT MOST 1048576: true; the input reads as it did. -/
def fnExactIdentityMatrixUptoRow : OpenClaim := { program := "ytngikcjdhbflkaa", sum := "b4266bd0da3edd5ad9bd8315cf451f0603f70c34fe5fdf0d3c71e7b91f3fc2ad", func := "loop.example/g01076/laws.FnExactIdentityMatrix", spec := "fnExactIdentityMatrix", apart := false, narrowed := true }
def FnExactIdentityMatrixUptoSaid : Prop := fnExactIdentityMatrixUptoRow.holds Try.pinned (OpenSpec.upto fnExactIdentityMatrixSpec)

/-- 'laws.FnExactIsMatrix', WHERE WHAT IT READS IS OF BULK AT MOST 1048576: true; the input reads as it did. -/
def fnExactIsMatrixUptoRow : OpenClaim := { program := "ytngikcjdhbflkaa", sum := "b4266bd0da3edd5ad9bd8315cf451f0603f70c34fe5fdf0d3c71e7b91f3fc2ad", func := "loop.example/g01076/laws.FnExactIsMatrix", spec := "fnExactIsMatrix", apart := false, narrowed := true }
def FnExactIsMatrixUptoSaid : Prop := fnExactIsMatrixUptoRow.holds Try.pinned (OpenSpec.upto fnExactIsMatrixSpec)

/-- 'laws.FnExactTransposeMatrix', WHERE WHAT IT READS IS OF BULK AT MOST 1048576: true; the input reads as it did. -/
def fnExactTransposeMatrixUptoRow : OpenClaim := { program := "ytngikcjdhbflkaa", sum := "b4266bd0da3edd5ad9bd8315cf451f0603f70c34fe5fdf0d3c71e7b91f3fc2ad", func := "loop.example/g01076/laws.FnExactTransposeMatrix", spec := "fnExactTransposeMatrix", apart := false, narrowed := true }
def FnExactTransposeMatrixUptoSaid : Prop := fnExactTransposeMatrixUptoRow.holds Try.pinned (OpenSpec.upto fnExactTransposeMatrixSpec)

/-- 'laws.FnExactDeterminant', WHERE WHAT IT READS IS OF BULK AT MOST 1048576: true; the input reads as it did. -/
def fnExactDeterminantUptoRow : OpenClaim := { program := "ytngikcjdhbflkaa", sum := "b4266bd0da3edd5ad9bd8315cf451f0603f70c34fe5fdf0d3c71e7b91f3fc2ad", func := "loop.example/g01076/laws.FnExactDeterminant", spec := "fnExactDeterminant", apart := false, narrowed := true }
def FnExactDeterminantUptoSaid : Prop := fnExactDeterminantUptoRow.holds Try.pinned (OpenSpec.upto fnExactDeterminantSpec)

/-- 'laws.FnExactIsSubspace', WHERE WHAT IT READS IS OF BULK AT MOST 1048576: true; the input reads as it did. -/
def fnExactIsSubspaceUptoRow : OpenClaim := { program := "ytngikcjdhbflkaa", sum := "b4266bd0da3edd5ad9bd8315cf451f0603f70c34fe5fdf0d3c71e7b91f3fc2ad", func := "loop.example/g01076/laws.FnExactIsSubspace", spec := "fnExactIsSubspace", unfollowed := true, recurses := true, apart := false, narrowed := true }
def FnExactIsSubspaceUptoSaid : Prop := fnExactIsSubspaceUptoRow.holds Try.pinned (OpenSpec.upto fnExactIsSubspaceSpec)

/-- 'laws.FnExactReduceRows', WHERE WHAT IT READS IS OF BULK AT MOST 1048576: true; the input reads as it did. -/
def fnExactReduceRowsUptoRow : OpenClaim := { program := "ytngikcjdhbflkaa", sum := "b4266bd0da3edd5ad9bd8315cf451f0603f70c34fe5fdf0d3c71e7b91f3fc2ad", func := "loop.example/g01076/laws.FnExactReduceRows", spec := "fnExactReduceRows", apart := false, narrowed := true }
def FnExactReduceRowsUptoSaid : Prop := fnExactReduceRowsUptoRow.holds Try.pinned (OpenSpec.upto fnExactReduceRowsSpec)

/-- 'laws.FnExactHasVector', WHERE WHAT IT READS IS OF BULK AT MOST 1048576: true; the input reads as it did. -/
def fnExactHasVectorUptoRow : OpenClaim := { program := "ytngikcjdhbflkaa", sum := "b4266bd0da3edd5ad9bd8315cf451f0603f70c34fe5fdf0d3c71e7b91f3fc2ad", func := "loop.example/g01076/laws.FnExactHasVector", spec := "fnExactHasVector", unfollowed := true, recurses := true, apart := false, narrowed := true }
def FnExactHasVectorUptoSaid : Prop := fnExactHasVectorUptoRow.holds Try.pinned (OpenSpec.upto fnExactHasVectorSpec)

/-- 'laws.FnExactLeftKernel', WHERE WHAT IT READS IS OF BULK AT MOST 1048576: true; the input reads as it did. -/
def fnExactLeftKernelUptoRow : OpenClaim := { program := "ytngikcjdhbflkaa", sum := "b4266bd0da3edd5ad9bd8315cf451f0603f70c34fe5fdf0d3c71e7b91f3fc2ad", func := "loop.example/g01076/laws.FnExactLeftKernel", spec := "fnExactLeftKernel", apart := false, narrowed := true }
def FnExactLeftKernelUptoSaid : Prop := fnExactLeftKernelUptoRow.holds Try.pinned (OpenSpec.upto fnExactLeftKernelSpec)

/-- 'laws.FnExactInverseMatrix', WHERE WHAT IT READS IS OF BULK AT MOST 1048576: true; the input reads as it did. -/
def fnExactInverseMatrixUptoRow : OpenClaim := { program := "ytngikcjdhbflkaa", sum := "b4266bd0da3edd5ad9bd8315cf451f0603f70c34fe5fdf0d3c71e7b91f3fc2ad", func := "loop.example/g01076/laws.FnExactInverseMatrix", spec := "fnExactInverseMatrix", apart := false, narrowed := true }
def FnExactInverseMatrixUptoSaid : Prop := fnExactInverseMatrixUptoRow.holds Try.pinned (OpenSpec.upto fnExactInverseMatrixSpec)

/-- 'laws.FnExactSubspaceSum', WHERE WHAT IT READS IS OF BULK AT MOST 1048576: true; the input reads as it did. -/
def fnExactSubspaceSumUptoRow : OpenClaim := { program := "ytngikcjdhbflkaa", sum := "b4266bd0da3edd5ad9bd8315cf451f0603f70c34fe5fdf0d3c71e7b91f3fc2ad", func := "loop.example/g01076/laws.FnExactSubspaceSum", spec := "fnExactSubspaceSum", unfollowed := true, recurses := true, apart := false, narrowed := true }
def FnExactSubspaceSumUptoSaid : Prop := fnExactSubspaceSumUptoRow.holds Try.pinned (OpenSpec.upto fnExactSubspaceSumSpec)

/-- 'laws.FnExactSolveRows', WHERE WHAT IT READS IS OF BULK AT MOST 1048576: true; the input reads as it did. -/
def fnExactSolveRowsUptoRow : OpenClaim := { program := "ytngikcjdhbflkaa", sum := "b4266bd0da3edd5ad9bd8315cf451f0603f70c34fe5fdf0d3c71e7b91f3fc2ad", func := "loop.example/g01076/laws.FnExactSolveRows", spec := "fnExactSolveRows", unfollowed := true, recurses := true, apart := false, narrowed := true }
def FnExactSolveRowsUptoSaid : Prop := fnExactSolveRowsUptoRow.holds Try.pinned (OpenSpec.upto fnExactSolveRowsSpec)

/-- 'laws.FnExactStandardComplement', WHERE WHAT IT READS IS OF BULK AT MOST 1048576: true; the input reads as it did. -/
def fnExactStandardComplementUptoRow : OpenClaim := { program := "ytngikcjdhbflkaa", sum := "b4266bd0da3edd5ad9bd8315cf451f0603f70c34fe5fdf0d3c71e7b91f3fc2ad", func := "loop.example/g01076/laws.FnExactStandardComplement", spec := "fnExactStandardComplement", unfollowed := true, recurses := true, apart := false, narrowed := true }
def FnExactStandardComplementUptoSaid : Prop := fnExactStandardComplementUptoRow.holds Try.pinned (OpenSpec.upto fnExactStandardComplementSpec)

end Rows
end Go.Proofs.Ytngikcjdhbflkaa
