/-
  No cell of these rows narrows 'for every input' (looked for: loops, veiled, ifaces, maps, wideKeys, modest, calm, conditions, laid).
  DERIVED. THE GIVEN ROWS OF THIS SEAT. 11 by the template 'for every input the law returns true; each argument reads behind the call as it read before'; 0 by the template 'total and deterministic' (their statements: YtkidohohiihbaaaTotals.lean).
  GIVEN WITH THE SEED: the statements are not yours to turn. If you find one false, say at which input.
  Laid BY PROGRAM, IN A SANDBOX (cutbox-rows.mjs): the forced cells as the released guide's own fill.sh prints them over the translation 00a48d8bc18cb0d3… (all of the seat's roots in one cut). By AI agents, Wed Nov 11 2026. No macro, syntax, notation, axiom, sorry.
-/
import Derived.Test.YtkidohohiihbaaaChecked
import GoSem.Claim
import GoSem.ClaimJoined
import GoSem.ClaimMapViews
import Derived.JoinedTies
import Derived.KernelRfl
namespace Go.Proofs.Ytkidohohiihbaaa
/- THE CELL 'sum', in the pinned program and in every row, IS THE sha256 OF THE DUMP (.gsa) THAT YtkidohohiihbaaaProg.lean LOADS. Nothing in Lean hashes anything: it is a label: what it is worth is what the hold of that sum in a sandbox is worth. -/
noncomputable def Try.pinned : Pinned := { name := "ytkidohohiihbaaa", sum := "00a48d8bc18cb0d35f0598ec5a419c54a4ede059590d685f25935e792f0c9c11", checked := Try.checked }
namespace Rows
def none {H : Type} : Left H := { results := [], args := [] }

/-- 'laws.FnFactors': WHATEVER THE INPUT: true; the input reads as it did. -/
def fnFactorsSpec : ChangeSpec := { name := "fnFactors", fn := fun _ => fun
  | [d] => { results := [.lit (.bool true)], args := [d] }
  | _ => none }
def fnFactorsRow : OpenClaim := { program := "ytkidohohiihbaaa", sum := "00a48d8bc18cb0d35f0598ec5a419c54a4ede059590d685f25935e792f0c9c11", func := "loop.example/g01076/laws.FnFactors", spec := "fnFactors", apart := false }
def FnFactorsSaid : Prop := fnFactorsRow.holds Try.pinned (OpenSpec.ofChange fnFactorsSpec)

/-- ITS FALSE NEIGHBOUR: 'it returns false'. Refute it at one input. -/
def fnFactorsWrong : ChangeSpec := { name := "fnFactors", fn := fun _ => fun
  | [d] => { results := [.lit (.bool false)], args := [d] }
  | _ => none }
def FnFactorsWrongFalsely : Prop := fnFactorsRow.holds Try.pinned (OpenSpec.ofChange fnFactorsWrong)

/-- 'laws.FnResidues': WHATEVER THE INPUT: true; the input reads as it did. -/
def fnResiduesSpec : ChangeSpec := { name := "fnResidues", fn := fun _ => fun
  | [d] => { results := [.lit (.bool true)], args := [d] }
  | _ => none }
def fnResiduesRow : OpenClaim := { program := "ytkidohohiihbaaa", sum := "00a48d8bc18cb0d35f0598ec5a419c54a4ede059590d685f25935e792f0c9c11", func := "loop.example/g01076/laws.FnResidues", spec := "fnResidues", apart := false }
def FnResiduesSaid : Prop := fnResiduesRow.holds Try.pinned (OpenSpec.ofChange fnResiduesSpec)

/-- ITS FALSE NEIGHBOUR: 'it returns false'. Refute it at one input. -/
def fnResiduesWrong : ChangeSpec := { name := "fnResidues", fn := fun _ => fun
  | [d] => { results := [.lit (.bool false)], args := [d] }
  | _ => none }
def FnResiduesWrongFalsely : Prop := fnResiduesRow.holds Try.pinned (OpenSpec.ofChange fnResiduesWrong)

/-- 'laws.FnAbelianHoms': WHATEVER THE INPUT: true; the input reads as it did. -/
def fnAbelianHomsSpec : ChangeSpec := { name := "fnAbelianHoms", fn := fun _ => fun
  | [d] => { results := [.lit (.bool true)], args := [d] }
  | _ => none }
def fnAbelianHomsRow : OpenClaim := { program := "ytkidohohiihbaaa", sum := "00a48d8bc18cb0d35f0598ec5a419c54a4ede059590d685f25935e792f0c9c11", func := "loop.example/g01076/laws.FnAbelianHoms", spec := "fnAbelianHoms", apart := false }
def FnAbelianHomsSaid : Prop := fnAbelianHomsRow.holds Try.pinned (OpenSpec.ofChange fnAbelianHomsSpec)

/-- ITS FALSE NEIGHBOUR: 'it returns false'. Refute it at one input. -/
def fnAbelianHomsWrong : ChangeSpec := { name := "fnAbelianHoms", fn := fun _ => fun
  | [d] => { results := [.lit (.bool false)], args := [d] }
  | _ => none }
def FnAbelianHomsWrongFalsely : Prop := fnAbelianHomsRow.holds Try.pinned (OpenSpec.ofChange fnAbelianHomsWrong)

/-- 'laws.FnUnimodular': WHATEVER THE INPUT: true; the input reads as it did. -/
def fnUnimodularSpec : ChangeSpec := { name := "fnUnimodular", fn := fun _ => fun
  | [d] => { results := [.lit (.bool true)], args := [d] }
  | _ => none }
def fnUnimodularRow : OpenClaim := { program := "ytkidohohiihbaaa", sum := "00a48d8bc18cb0d35f0598ec5a419c54a4ede059590d685f25935e792f0c9c11", func := "loop.example/g01076/laws.FnUnimodular", spec := "fnUnimodular", recurses := true, apart := false }
def FnUnimodularSaid : Prop := fnUnimodularRow.holds Try.pinned (OpenSpec.ofChange fnUnimodularSpec)

/-- ITS FALSE NEIGHBOUR: 'it returns false'. Refute it at one input. -/
def fnUnimodularWrong : ChangeSpec := { name := "fnUnimodular", fn := fun _ => fun
  | [d] => { results := [.lit (.bool false)], args := [d] }
  | _ => none }
def FnUnimodularWrongFalsely : Prop := fnUnimodularRow.holds Try.pinned (OpenSpec.ofChange fnUnimodularWrong)

/-- 'laws.FnHermite': WHATEVER THE INPUT: true; the input reads as it did. -/
def fnHermiteSpec : ChangeSpec := { name := "fnHermite", fn := fun _ => fun
  | [d] => { results := [.lit (.bool true)], args := [d] }
  | _ => none }
def fnHermiteRow : OpenClaim := { program := "ytkidohohiihbaaa", sum := "00a48d8bc18cb0d35f0598ec5a419c54a4ede059590d685f25935e792f0c9c11", func := "loop.example/g01076/laws.FnHermite", spec := "fnHermite", unfollowed := true, recurses := true, apart := false }
def FnHermiteSaid : Prop := fnHermiteRow.holds Try.pinned (OpenSpec.ofChange fnHermiteSpec)

/-- ITS FALSE NEIGHBOUR: 'it returns false'. Refute it at one input. -/
def fnHermiteWrong : ChangeSpec := { name := "fnHermite", fn := fun _ => fun
  | [d] => { results := [.lit (.bool false)], args := [d] }
  | _ => none }
def FnHermiteWrongFalsely : Prop := fnHermiteRow.holds Try.pinned (OpenSpec.ofChange fnHermiteWrong)

/-- 'laws.FnRemainders': WHATEVER THE INPUT: true; the input reads as it did. -/
def fnRemaindersSpec : ChangeSpec := { name := "fnRemainders", fn := fun _ => fun
  | [d] => { results := [.lit (.bool true)], args := [d] }
  | _ => none }
def fnRemaindersRow : OpenClaim := { program := "ytkidohohiihbaaa", sum := "00a48d8bc18cb0d35f0598ec5a419c54a4ede059590d685f25935e792f0c9c11", func := "loop.example/g01076/laws.FnRemainders", spec := "fnRemainders", unfollowed := true, recurses := true, apart := false }
def FnRemaindersSaid : Prop := fnRemaindersRow.holds Try.pinned (OpenSpec.ofChange fnRemaindersSpec)

/-- ITS FALSE NEIGHBOUR: 'it returns false'. Refute it at one input. -/
def fnRemaindersWrong : ChangeSpec := { name := "fnRemainders", fn := fun _ => fun
  | [d] => { results := [.lit (.bool false)], args := [d] }
  | _ => none }
def FnRemaindersWrongFalsely : Prop := fnRemaindersRow.holds Try.pinned (OpenSpec.ofChange fnRemaindersWrong)

/-- 'laws.FnSmithProof': WHATEVER THE INPUT: true; the input reads as it did. -/
def fnSmithProofSpec : ChangeSpec := { name := "fnSmithProof", fn := fun _ => fun
  | [d] => { results := [.lit (.bool true)], args := [d] }
  | _ => none }
def fnSmithProofRow : OpenClaim := { program := "ytkidohohiihbaaa", sum := "00a48d8bc18cb0d35f0598ec5a419c54a4ede059590d685f25935e792f0c9c11", func := "loop.example/g01076/laws.FnSmithProof", spec := "fnSmithProof", recurses := true, apart := false }
def FnSmithProofSaid : Prop := fnSmithProofRow.holds Try.pinned (OpenSpec.ofChange fnSmithProofSpec)

/-- ITS FALSE NEIGHBOUR: 'it returns false'. Refute it at one input. -/
def fnSmithProofWrong : ChangeSpec := { name := "fnSmithProof", fn := fun _ => fun
  | [d] => { results := [.lit (.bool false)], args := [d] }
  | _ => none }
def FnSmithProofWrongFalsely : Prop := fnSmithProofRow.holds Try.pinned (OpenSpec.ofChange fnSmithProofWrong)

/-- 'laws.FnSmith': WHATEVER THE INPUT: true; the input reads as it did. -/
def fnSmithSpec : ChangeSpec := { name := "fnSmith", fn := fun _ => fun
  | [d] => { results := [.lit (.bool true)], args := [d] }
  | _ => none }
def fnSmithRow : OpenClaim := { program := "ytkidohohiihbaaa", sum := "00a48d8bc18cb0d35f0598ec5a419c54a4ede059590d685f25935e792f0c9c11", func := "loop.example/g01076/laws.FnSmith", spec := "fnSmith", recurses := true, apart := false }
def FnSmithSaid : Prop := fnSmithRow.holds Try.pinned (OpenSpec.ofChange fnSmithSpec)

/-- ITS FALSE NEIGHBOUR: 'it returns false'. Refute it at one input. -/
def fnSmithWrong : ChangeSpec := { name := "fnSmith", fn := fun _ => fun
  | [d] => { results := [.lit (.bool false)], args := [d] }
  | _ => none }
def FnSmithWrongFalsely : Prop := fnSmithRow.holds Try.pinned (OpenSpec.ofChange fnSmithWrong)

/-- 'laws.FnDimensions': WHATEVER THE INPUT: true; the input reads as it did. -/
def fnDimensionsSpec : ChangeSpec := { name := "fnDimensions", fn := fun _ => fun
  | [d] => { results := [.lit (.bool true)], args := [d] }
  | _ => none }
def fnDimensionsRow : OpenClaim := { program := "ytkidohohiihbaaa", sum := "00a48d8bc18cb0d35f0598ec5a419c54a4ede059590d685f25935e792f0c9c11", func := "loop.example/g01076/laws.FnDimensions", spec := "fnDimensions", unfollowed := true, recurses := true, apart := false }
def FnDimensionsSaid : Prop := fnDimensionsRow.holds Try.pinned (OpenSpec.ofChange fnDimensionsSpec)

/-- ITS FALSE NEIGHBOUR: 'it returns false'. Refute it at one input. -/
def fnDimensionsWrong : ChangeSpec := { name := "fnDimensions", fn := fun _ => fun
  | [d] => { results := [.lit (.bool false)], args := [d] }
  | _ => none }
def FnDimensionsWrongFalsely : Prop := fnDimensionsRow.holds Try.pinned (OpenSpec.ofChange fnDimensionsWrong)

/-- 'laws.FnPresented': WHATEVER THE INPUT: true; the input reads as it did. -/
def fnPresentedSpec : ChangeSpec := { name := "fnPresented", fn := fun _ => fun
  | [d] => { results := [.lit (.bool true)], args := [d] }
  | _ => none }
def fnPresentedRow : OpenClaim := { program := "ytkidohohiihbaaa", sum := "00a48d8bc18cb0d35f0598ec5a419c54a4ede059590d685f25935e792f0c9c11", func := "loop.example/g01076/laws.FnPresented", spec := "fnPresented", unfollowed := true, recurses := true, apart := false }
def FnPresentedSaid : Prop := fnPresentedRow.holds Try.pinned (OpenSpec.ofChange fnPresentedSpec)

/-- ITS FALSE NEIGHBOUR: 'it returns false'. Refute it at one input. -/
def fnPresentedWrong : ChangeSpec := { name := "fnPresented", fn := fun _ => fun
  | [d] => { results := [.lit (.bool false)], args := [d] }
  | _ => none }
def FnPresentedWrongFalsely : Prop := fnPresentedRow.holds Try.pinned (OpenSpec.ofChange fnPresentedWrong)

/-- 'laws.FnAbelianLists': WHATEVER THE INPUT: true; the input reads as it did. -/
def fnAbelianListsSpec : ChangeSpec := { name := "fnAbelianLists", fn := fun _ => fun
  | [d] => { results := [.lit (.bool true)], args := [d] }
  | _ => none }
def fnAbelianListsRow : OpenClaim := { program := "ytkidohohiihbaaa", sum := "00a48d8bc18cb0d35f0598ec5a419c54a4ede059590d685f25935e792f0c9c11", func := "loop.example/g01076/laws.FnAbelianLists", spec := "fnAbelianLists", unfollowed := true, recurses := true, apart := false }
def FnAbelianListsSaid : Prop := fnAbelianListsRow.holds Try.pinned (OpenSpec.ofChange fnAbelianListsSpec)

/-- ITS FALSE NEIGHBOUR: 'it returns false'. Refute it at one input. -/
def fnAbelianListsWrong : ChangeSpec := { name := "fnAbelianLists", fn := fun _ => fun
  | [d] => { results := [.lit (.bool false)], args := [d] }
  | _ => none }
def FnAbelianListsWrongFalsely : Prop := fnAbelianListsRow.holds Try.pinned (OpenSpec.ofChange fnAbelianListsWrong)

/- THE SECOND FORM. 'bulk': how many values and letters a reading holds, each counted each time it is reached (what is shared counts as often as it is met; a slice's spare places count too). A statement '..UptoSaid' is the law's where the arguments, and the package variables that the reading takes, are together of bulk at most 1048576: NARROWER than '..Said'. Prove '..Said' where nothing that the law and all that it calls make is longer than what came in: it says more and counts as full. Else prove '..UptoSaid'. A law counts once. -/
mutual
def uptoBulk {H : Type} : DataW H → Nat
  | .lit (.string bytes) => bytes.length + 1
  | .lit _ => 1
  | .nil => 1
  | .ptr d => uptoBulk d + 1
  | .slice elems spare => uptoBulkAll elems + uptoBulkAll spare + 1
  | .agg parts => uptoBulkAll parts + 1
  | .iface _ d => uptoBulk d + 1
  | .map entries => uptoBulkEntries entries + 1
  | .held _ => 1
def uptoBulkAll {H : Type} : List (DataW H) → Nat
  | [] => 0
  | d :: r => uptoBulk d + uptoBulkAll r
def uptoBulkEntries {H : Type} : List (Lit × DataW H) → Nat
  | [] => 0
  | x :: r => uptoBulkEntry x + uptoBulkEntries r
def uptoBulkEntry {H : Type} : Lit × DataW H → Nat
  | (.string bytes, d) => bytes.length + uptoBulk d + 1
  | (_, d) => uptoBulk d + 1
 end
def uptoSmall : (H : Type) → List (DataW H) → Bool := fun _ ds => decide (uptoBulkAll ds ≤ 1048576)
def OpenSpec.upto (s : _root_.Go.ChangeSpec) : _root_.Go.OpenSpec := { _root_.Go.OpenSpec.ofChange s with cond := some uptoSmall }

/-- 'laws.FnFactors', WHERE WHAT IT READS IS OF BULK AT MOST 1048576: true; the input reads as it did. -/
def fnFactorsUptoRow : OpenClaim := { program := "ytkidohohiihbaaa", sum := "00a48d8bc18cb0d35f0598ec5a419c54a4ede059590d685f25935e792f0c9c11", func := "loop.example/g01076/laws.FnFactors", spec := "fnFactors", apart := false, narrowed := true }
def FnFactorsUptoSaid : Prop := fnFactorsUptoRow.holds Try.pinned (OpenSpec.upto fnFactorsSpec)

/-- 'laws.FnResidues', WHERE WHAT IT READS IS OF BULK AT MOST 1048576: true; the input reads as it did. -/
def fnResiduesUptoRow : OpenClaim := { program := "ytkidohohiihbaaa", sum := "00a48d8bc18cb0d35f0598ec5a419c54a4ede059590d685f25935e792f0c9c11", func := "loop.example/g01076/laws.FnResidues", spec := "fnResidues", apart := false, narrowed := true }
def FnResiduesUptoSaid : Prop := fnResiduesUptoRow.holds Try.pinned (OpenSpec.upto fnResiduesSpec)

/-- 'laws.FnAbelianHoms', WHERE WHAT IT READS IS OF BULK AT MOST 1048576: true; the input reads as it did. -/
def fnAbelianHomsUptoRow : OpenClaim := { program := "ytkidohohiihbaaa", sum := "00a48d8bc18cb0d35f0598ec5a419c54a4ede059590d685f25935e792f0c9c11", func := "loop.example/g01076/laws.FnAbelianHoms", spec := "fnAbelianHoms", apart := false, narrowed := true }
def FnAbelianHomsUptoSaid : Prop := fnAbelianHomsUptoRow.holds Try.pinned (OpenSpec.upto fnAbelianHomsSpec)

/-- 'laws.FnUnimodular', WHERE WHAT IT READS IS OF BULK AT MOST 1048576: true; the input reads as it did. -/
def fnUnimodularUptoRow : OpenClaim := { program := "ytkidohohiihbaaa", sum := "00a48d8bc18cb0d35f0598ec5a419c54a4ede059590d685f25935e792f0c9c11", func := "loop.example/g01076/laws.FnUnimodular", spec := "fnUnimodular", recurses := true, apart := false, narrowed := true }
def FnUnimodularUptoSaid : Prop := fnUnimodularUptoRow.holds Try.pinned (OpenSpec.upto fnUnimodularSpec)

/-- 'laws.FnHermite', WHERE WHAT IT READS IS OF BULK AT MOST 1048576: true; the input reads as it did. -/
def fnHermiteUptoRow : OpenClaim := { program := "ytkidohohiihbaaa", sum := "00a48d8bc18cb0d35f0598ec5a419c54a4ede059590d685f25935e792f0c9c11", func := "loop.example/g01076/laws.FnHermite", spec := "fnHermite", unfollowed := true, recurses := true, apart := false, narrowed := true }
def FnHermiteUptoSaid : Prop := fnHermiteUptoRow.holds Try.pinned (OpenSpec.upto fnHermiteSpec)

/-- 'laws.FnRemainders', WHERE WHAT IT READS IS OF BULK AT MOST 1048576: true; the input reads as it did. -/
def fnRemaindersUptoRow : OpenClaim := { program := "ytkidohohiihbaaa", sum := "00a48d8bc18cb0d35f0598ec5a419c54a4ede059590d685f25935e792f0c9c11", func := "loop.example/g01076/laws.FnRemainders", spec := "fnRemainders", unfollowed := true, recurses := true, apart := false, narrowed := true }
def FnRemaindersUptoSaid : Prop := fnRemaindersUptoRow.holds Try.pinned (OpenSpec.upto fnRemaindersSpec)

/-- 'laws.FnSmithProof', WHERE WHAT IT READS IS OF BULK AT MOST 1048576: true; the input reads as it did. -/
def fnSmithProofUptoRow : OpenClaim := { program := "ytkidohohiihbaaa", sum := "00a48d8bc18cb0d35f0598ec5a419c54a4ede059590d685f25935e792f0c9c11", func := "loop.example/g01076/laws.FnSmithProof", spec := "fnSmithProof", recurses := true, apart := false, narrowed := true }
def FnSmithProofUptoSaid : Prop := fnSmithProofUptoRow.holds Try.pinned (OpenSpec.upto fnSmithProofSpec)

/-- 'laws.FnSmith', WHERE WHAT IT READS IS OF BULK AT MOST 1048576: true; the input reads as it did. -/
def fnSmithUptoRow : OpenClaim := { program := "ytkidohohiihbaaa", sum := "00a48d8bc18cb0d35f0598ec5a419c54a4ede059590d685f25935e792f0c9c11", func := "loop.example/g01076/laws.FnSmith", spec := "fnSmith", recurses := true, apart := false, narrowed := true }
def FnSmithUptoSaid : Prop := fnSmithUptoRow.holds Try.pinned (OpenSpec.upto fnSmithSpec)

/-- 'laws.FnDimensions', WHERE WHAT IT READS IS OF BULK AT MOST 1048576: true; the input reads as it did. -/
def fnDimensionsUptoRow : OpenClaim := { program := "ytkidohohiihbaaa", sum := "00a48d8bc18cb0d35f0598ec5a419c54a4ede059590d685f25935e792f0c9c11", func := "loop.example/g01076/laws.FnDimensions", spec := "fnDimensions", unfollowed := true, recurses := true, apart := false, narrowed := true }
def FnDimensionsUptoSaid : Prop := fnDimensionsUptoRow.holds Try.pinned (OpenSpec.upto fnDimensionsSpec)

/-- 'laws.FnPresented', WHERE WHAT IT READS IS OF BULK AT MOST 1048576: true; the input reads as it did. -/
def fnPresentedUptoRow : OpenClaim := { program := "ytkidohohiihbaaa", sum := "00a48d8bc18cb0d35f0598ec5a419c54a4ede059590d685f25935e792f0c9c11", func := "loop.example/g01076/laws.FnPresented", spec := "fnPresented", unfollowed := true, recurses := true, apart := false, narrowed := true }
def FnPresentedUptoSaid : Prop := fnPresentedUptoRow.holds Try.pinned (OpenSpec.upto fnPresentedSpec)

/-- 'laws.FnAbelianLists', WHERE WHAT IT READS IS OF BULK AT MOST 1048576: true; the input reads as it did. -/
def fnAbelianListsUptoRow : OpenClaim := { program := "ytkidohohiihbaaa", sum := "00a48d8bc18cb0d35f0598ec5a419c54a4ede059590d685f25935e792f0c9c11", func := "loop.example/g01076/laws.FnAbelianLists", spec := "fnAbelianLists", unfollowed := true, recurses := true, apart := false, narrowed := true }
def FnAbelianListsUptoSaid : Prop := fnAbelianListsUptoRow.holds Try.pinned (OpenSpec.upto fnAbelianListsSpec)

end Rows
end Go.Proofs.Ytkidohohiihbaaa
