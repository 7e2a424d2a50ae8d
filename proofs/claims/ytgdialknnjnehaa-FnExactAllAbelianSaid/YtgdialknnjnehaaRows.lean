/-
  No cell of these rows narrows 'for every input' (looked for: loops, veiled, ifaces, maps, wideKeys, modest, calm, conditions, laid).
  DERIVED. THE GIVEN ROWS OF THIS SEAT. 11 by the template 'for every input the law returns true; each argument reads behind the call as it read before'; 0 by the template 'total and deterministic' (their statements: YtgdialknnjnehaaTotals.lean).
  GIVEN WITH THE SEED: the statements are not yours to turn. If you find one false, say at which input.
  Laid BY PROGRAM, IN A SANDBOX (cutbox-rows.mjs): the forced cells as the released guide's own fill.sh prints them over the translation 58f1a2adb3718e42… (all of the seat's roots in one cut). By AI agents, Wed Nov 11 2026. No macro, syntax, notation, axiom, sorry.
-/
import Derived.Test.YtgdialknnjnehaaChecked
import GoSem.Claim
import GoSem.ClaimJoined
import GoSem.ClaimMapViews
import Derived.JoinedTies
import Derived.KernelRfl
namespace Go.Proofs.Ytgdialknnjnehaa
/- THE CELL 'sum', in the pinned program and in every row, IS THE sha256 OF THE DUMP (.gsa) THAT YtgdialknnjnehaaProg.lean LOADS. Nothing in Lean hashes anything: it is a label: what it is worth is what the hold of that sum in a sandbox is worth. -/
noncomputable def Try.pinned : Pinned := { name := "ytgdialknnjnehaa", sum := "58f1a2adb3718e4230c91bd25e71e29f2b130b0d0b7bc2b16501b93a13369e91", checked := Try.checked }
namespace Rows
def none {H : Type} : Left H := { results := [], args := [] }

/-- 'laws.FnExactIsAbelian': WHATEVER THE INPUT: true; the input reads as it did. -/
def fnExactIsAbelianSpec : ChangeSpec := { name := "fnExactIsAbelian", fn := fun _ => fun
  | [d] => { results := [.lit (.bool true)], args := [d] }
  | _ => none }
def fnExactIsAbelianRow : OpenClaim := { program := "ytgdialknnjnehaa", sum := "58f1a2adb3718e4230c91bd25e71e29f2b130b0d0b7bc2b16501b93a13369e91", func := "loop.example/g01076/laws.FnExactIsAbelian", spec := "fnExactIsAbelian", apart := false }
def FnExactIsAbelianSaid : Prop := fnExactIsAbelianRow.holds Try.pinned (OpenSpec.ofChange fnExactIsAbelianSpec)

/-- ITS FALSE NEIGHBOUR: 'it returns false'. Refute it at one input. -/
def fnExactIsAbelianWrong : ChangeSpec := { name := "fnExactIsAbelian", fn := fun _ => fun
  | [d] => { results := [.lit (.bool false)], args := [d] }
  | _ => none }
def FnExactIsAbelianWrongFalsely : Prop := fnExactIsAbelianRow.holds Try.pinned (OpenSpec.ofChange fnExactIsAbelianWrong)

/-- 'laws.FnExactExponentOf': WHATEVER THE INPUT: true; the input reads as it did. -/
def fnExactExponentOfSpec : ChangeSpec := { name := "fnExactExponentOf", fn := fun _ => fun
  | [d] => { results := [.lit (.bool true)], args := [d] }
  | _ => none }
def fnExactExponentOfRow : OpenClaim := { program := "ytgdialknnjnehaa", sum := "58f1a2adb3718e4230c91bd25e71e29f2b130b0d0b7bc2b16501b93a13369e91", func := "loop.example/g01076/laws.FnExactExponentOf", spec := "fnExactExponentOf", apart := false }
def FnExactExponentOfSaid : Prop := fnExactExponentOfRow.holds Try.pinned (OpenSpec.ofChange fnExactExponentOfSpec)

/-- ITS FALSE NEIGHBOUR: 'it returns false'. Refute it at one input. -/
def fnExactExponentOfWrong : ChangeSpec := { name := "fnExactExponentOf", fn := fun _ => fun
  | [d] => { results := [.lit (.bool false)], args := [d] }
  | _ => none }
def FnExactExponentOfWrongFalsely : Prop := fnExactExponentOfRow.holds Try.pinned (OpenSpec.ofChange fnExactExponentOfWrong)

/-- 'laws.FnExactAbelianOrder': WHATEVER THE INPUT: true; the input reads as it did. -/
def fnExactAbelianOrderSpec : ChangeSpec := { name := "fnExactAbelianOrder", fn := fun _ => fun
  | [d] => { results := [.lit (.bool true)], args := [d] }
  | _ => none }
def fnExactAbelianOrderRow : OpenClaim := { program := "ytgdialknnjnehaa", sum := "58f1a2adb3718e4230c91bd25e71e29f2b130b0d0b7bc2b16501b93a13369e91", func := "loop.example/g01076/laws.FnExactAbelianOrder", spec := "fnExactAbelianOrder", apart := false }
def FnExactAbelianOrderSaid : Prop := fnExactAbelianOrderRow.holds Try.pinned (OpenSpec.ofChange fnExactAbelianOrderSpec)

/-- ITS FALSE NEIGHBOUR: 'it returns false'. Refute it at one input. -/
def fnExactAbelianOrderWrong : ChangeSpec := { name := "fnExactAbelianOrder", fn := fun _ => fun
  | [d] => { results := [.lit (.bool false)], args := [d] }
  | _ => none }
def FnExactAbelianOrderWrongFalsely : Prop := fnExactAbelianOrderRow.holds Try.pinned (OpenSpec.ofChange fnExactAbelianOrderWrong)

/-- 'laws.FnExactCountSolutions': WHATEVER THE INPUT: true; the input reads as it did. -/
def fnExactCountSolutionsSpec : ChangeSpec := { name := "fnExactCountSolutions", fn := fun _ => fun
  | [d1, d2] => { results := [.lit (.bool true)], args := [d1, d2] }
  | _ => none }
def fnExactCountSolutionsRow : OpenClaim := { program := "ytgdialknnjnehaa", sum := "58f1a2adb3718e4230c91bd25e71e29f2b130b0d0b7bc2b16501b93a13369e91", func := "loop.example/g01076/laws.FnExactCountSolutions", spec := "fnExactCountSolutions", apart := false }
def FnExactCountSolutionsSaid : Prop := fnExactCountSolutionsRow.holds Try.pinned (OpenSpec.ofChange fnExactCountSolutionsSpec)

/-- ITS FALSE NEIGHBOUR: 'it returns false'. Refute it at one input. -/
def fnExactCountSolutionsWrong : ChangeSpec := { name := "fnExactCountSolutions", fn := fun _ => fun
  | [d1, d2] => { results := [.lit (.bool false)], args := [d1, d2] }
  | _ => none }
def FnExactCountSolutionsWrongFalsely : Prop := fnExactCountSolutionsRow.holds Try.pinned (OpenSpec.ofChange fnExactCountSolutionsWrong)

/-- 'laws.FnExactCountPrimeSubgroups': WHATEVER THE INPUT: true; the input reads as it did. -/
def fnExactCountPrimeSubgroupsSpec : ChangeSpec := { name := "fnExactCountPrimeSubgroups", fn := fun _ => fun
  | [d1, d2] => { results := [.lit (.bool true)], args := [d1, d2] }
  | _ => none }
def fnExactCountPrimeSubgroupsRow : OpenClaim := { program := "ytgdialknnjnehaa", sum := "58f1a2adb3718e4230c91bd25e71e29f2b130b0d0b7bc2b16501b93a13369e91", func := "loop.example/g01076/laws.FnExactCountPrimeSubgroups", spec := "fnExactCountPrimeSubgroups", apart := false }
def FnExactCountPrimeSubgroupsSaid : Prop := fnExactCountPrimeSubgroupsRow.holds Try.pinned (OpenSpec.ofChange fnExactCountPrimeSubgroupsSpec)

/-- ITS FALSE NEIGHBOUR: 'it returns false'. Refute it at one input. -/
def fnExactCountPrimeSubgroupsWrong : ChangeSpec := { name := "fnExactCountPrimeSubgroups", fn := fun _ => fun
  | [d1, d2] => { results := [.lit (.bool false)], args := [d1, d2] }
  | _ => none }
def FnExactCountPrimeSubgroupsWrongFalsely : Prop := fnExactCountPrimeSubgroupsRow.holds Try.pinned (OpenSpec.ofChange fnExactCountPrimeSubgroupsWrong)

/-- 'laws.FnExactCountAbelianHoms': WHATEVER THE INPUT: true; the input reads as it did. -/
def fnExactCountAbelianHomsSpec : ChangeSpec := { name := "fnExactCountAbelianHoms", fn := fun _ => fun
  | [d1, d2] => { results := [.lit (.bool true)], args := [d1, d2] }
  | _ => none }
def fnExactCountAbelianHomsRow : OpenClaim := { program := "ytgdialknnjnehaa", sum := "58f1a2adb3718e4230c91bd25e71e29f2b130b0d0b7bc2b16501b93a13369e91", func := "loop.example/g01076/laws.FnExactCountAbelianHoms", spec := "fnExactCountAbelianHoms", apart := false }
def FnExactCountAbelianHomsSaid : Prop := fnExactCountAbelianHomsRow.holds Try.pinned (OpenSpec.ofChange fnExactCountAbelianHomsSpec)

/-- ITS FALSE NEIGHBOUR: 'it returns false'. Refute it at one input. -/
def fnExactCountAbelianHomsWrong : ChangeSpec := { name := "fnExactCountAbelianHoms", fn := fun _ => fun
  | [d1, d2] => { results := [.lit (.bool false)], args := [d1, d2] }
  | _ => none }
def FnExactCountAbelianHomsWrongFalsely : Prop := fnExactCountAbelianHomsRow.holds Try.pinned (OpenSpec.ofChange fnExactCountAbelianHomsWrong)

/-- 'laws.FnExactPrimaryParts': WHATEVER THE INPUT: true; the input reads as it did. -/
def fnExactPrimaryPartsSpec : ChangeSpec := { name := "fnExactPrimaryParts", fn := fun _ => fun
  | [d] => { results := [.lit (.bool true)], args := [d] }
  | _ => none }
def fnExactPrimaryPartsRow : OpenClaim := { program := "ytgdialknnjnehaa", sum := "58f1a2adb3718e4230c91bd25e71e29f2b130b0d0b7bc2b16501b93a13369e91", func := "loop.example/g01076/laws.FnExactPrimaryParts", spec := "fnExactPrimaryParts", unfollowed := true, recurses := true, apart := false }
def FnExactPrimaryPartsSaid : Prop := fnExactPrimaryPartsRow.holds Try.pinned (OpenSpec.ofChange fnExactPrimaryPartsSpec)

/-- ITS FALSE NEIGHBOUR: 'it returns false'. Refute it at one input. -/
def fnExactPrimaryPartsWrong : ChangeSpec := { name := "fnExactPrimaryParts", fn := fun _ => fun
  | [d] => { results := [.lit (.bool false)], args := [d] }
  | _ => none }
def FnExactPrimaryPartsWrongFalsely : Prop := fnExactPrimaryPartsRow.holds Try.pinned (OpenSpec.ofChange fnExactPrimaryPartsWrong)

/-- 'laws.FnExactFromPrimary': WHATEVER THE INPUT: true; the input reads as it did. -/
def fnExactFromPrimarySpec : ChangeSpec := { name := "fnExactFromPrimary", fn := fun _ => fun
  | [d] => { results := [.lit (.bool true)], args := [d] }
  | _ => none }
def fnExactFromPrimaryRow : OpenClaim := { program := "ytgdialknnjnehaa", sum := "58f1a2adb3718e4230c91bd25e71e29f2b130b0d0b7bc2b16501b93a13369e91", func := "loop.example/g01076/laws.FnExactFromPrimary", spec := "fnExactFromPrimary", recurses := true, apart := false }
def FnExactFromPrimarySaid : Prop := fnExactFromPrimaryRow.holds Try.pinned (OpenSpec.ofChange fnExactFromPrimarySpec)

/-- ITS FALSE NEIGHBOUR: 'it returns false'. Refute it at one input. -/
def fnExactFromPrimaryWrong : ChangeSpec := { name := "fnExactFromPrimary", fn := fun _ => fun
  | [d] => { results := [.lit (.bool false)], args := [d] }
  | _ => none }
def FnExactFromPrimaryWrongFalsely : Prop := fnExactFromPrimaryRow.holds Try.pinned (OpenSpec.ofChange fnExactFromPrimaryWrong)

/-- 'laws.FnExactSumAbelian': WHATEVER THE INPUT: true; the input reads as it did. -/
def fnExactSumAbelianSpec : ChangeSpec := { name := "fnExactSumAbelian", fn := fun _ => fun
  | [d1, d2] => { results := [.lit (.bool true)], args := [d1, d2] }
  | _ => none }
def fnExactSumAbelianRow : OpenClaim := { program := "ytgdialknnjnehaa", sum := "58f1a2adb3718e4230c91bd25e71e29f2b130b0d0b7bc2b16501b93a13369e91", func := "loop.example/g01076/laws.FnExactSumAbelian", spec := "fnExactSumAbelian", unfollowed := true, recurses := true, apart := false }
def FnExactSumAbelianSaid : Prop := fnExactSumAbelianRow.holds Try.pinned (OpenSpec.ofChange fnExactSumAbelianSpec)

/-- ITS FALSE NEIGHBOUR: 'it returns false'. Refute it at one input. -/
def fnExactSumAbelianWrong : ChangeSpec := { name := "fnExactSumAbelian", fn := fun _ => fun
  | [d1, d2] => { results := [.lit (.bool false)], args := [d1, d2] }
  | _ => none }
def FnExactSumAbelianWrongFalsely : Prop := fnExactSumAbelianRow.holds Try.pinned (OpenSpec.ofChange fnExactSumAbelianWrong)

/-- 'laws.FnExactHasAbelianQuotient': WHATEVER THE INPUT: true; the input reads as it did. -/
def fnExactHasAbelianQuotientSpec : ChangeSpec := { name := "fnExactHasAbelianQuotient", fn := fun _ => fun
  | [d1, d2] => { results := [.lit (.bool true)], args := [d1, d2] }
  | _ => none }
def fnExactHasAbelianQuotientRow : OpenClaim := { program := "ytgdialknnjnehaa", sum := "58f1a2adb3718e4230c91bd25e71e29f2b130b0d0b7bc2b16501b93a13369e91", func := "loop.example/g01076/laws.FnExactHasAbelianQuotient", spec := "fnExactHasAbelianQuotient", unfollowed := true, recurses := true, apart := false }
def FnExactHasAbelianQuotientSaid : Prop := fnExactHasAbelianQuotientRow.holds Try.pinned (OpenSpec.ofChange fnExactHasAbelianQuotientSpec)

/-- ITS FALSE NEIGHBOUR: 'it returns false'. Refute it at one input. -/
def fnExactHasAbelianQuotientWrong : ChangeSpec := { name := "fnExactHasAbelianQuotient", fn := fun _ => fun
  | [d1, d2] => { results := [.lit (.bool false)], args := [d1, d2] }
  | _ => none }
def FnExactHasAbelianQuotientWrongFalsely : Prop := fnExactHasAbelianQuotientRow.holds Try.pinned (OpenSpec.ofChange fnExactHasAbelianQuotientWrong)

/-- 'laws.FnExactAllAbelian': WHATEVER THE INPUT: true; the input reads as it did. -/
def fnExactAllAbelianSpec : ChangeSpec := { name := "fnExactAllAbelian", fn := fun _ => fun
  | [d] => { results := [.lit (.bool true)], args := [d] }
  | _ => none }
def fnExactAllAbelianRow : OpenClaim := { program := "ytgdialknnjnehaa", sum := "58f1a2adb3718e4230c91bd25e71e29f2b130b0d0b7bc2b16501b93a13369e91", func := "loop.example/g01076/laws.FnExactAllAbelian", spec := "fnExactAllAbelian", unfollowed := true, recurses := true, apart := false }
def FnExactAllAbelianSaid : Prop := fnExactAllAbelianRow.holds Try.pinned (OpenSpec.ofChange fnExactAllAbelianSpec)

/-- ITS FALSE NEIGHBOUR: 'it returns false'. Refute it at one input. -/
def fnExactAllAbelianWrong : ChangeSpec := { name := "fnExactAllAbelian", fn := fun _ => fun
  | [d] => { results := [.lit (.bool false)], args := [d] }
  | _ => none }
def FnExactAllAbelianWrongFalsely : Prop := fnExactAllAbelianRow.holds Try.pinned (OpenSpec.ofChange fnExactAllAbelianWrong)

/- THE SECOND FORM. 'bulk': how many values and letters a reading holds, each counted each time it is reached (what is shared counts as often as it is met; a slice's spare places count too). A statement '..UptoSaid' is the law's where the arguments, and the package variables that the reading takes, are together of bulk at most 1048576: NARROWER than '..Said'. Prove '..Said' where nothing that the law and all that it calls make is longer than what came in: it says more and counts as full. Else prove '..UptoSaid'. A law counts once. -/
mutual
def uptoBulk {H : Type} : DataW H → Nat
  | .lit (.string bytes) => bytes.length + 1
  | .lit _ => 1
  | .nil => 1
  | .ptr d => uptoBulk d + 1
  | .slice elems spare => uptoBulkAll elems + uptoBulkAll spare + 1
  | .agg parts => uptoBulkAll parts + 1
  | .iface _ d => uptoBulk d + 1
  | .map entries => uptoBulkEntries entries + 1
  | .held _ => 1
def uptoBulkAll {H : Type} : List (DataW H) → Nat
  | [] => 0
  | d :: r => uptoBulk d + uptoBulkAll r
def uptoBulkEntries {H : Type} : List (Lit × DataW H) → Nat
  | [] => 0
  | x :: r => uptoBulkEntry x + uptoBulkEntries r
def uptoBulkEntry {H : Type} : Lit × DataW H → Nat
  | (.string bytes, d) => bytes.length + uptoBulk d + 1
  | (_, d) => uptoBulk d + 1
 end
def uptoSmall : (H : Type) → List (DataW H) → Bool := fun _ ds => decide (uptoBulkAll ds ≤ 1048576)
def OpenSpec.upto (s : _root_.Go.ChangeSpec) : _root_.Go.OpenSpec := { _root_.Go.OpenSpec.ofChange s with cond := some uptoSmall }

/-- 'laws.FnExactIsAbelian', WHERE WHAT IT READS IS OF BULK AT MOST 1048576: true; the input reads as it did. -/
def fnExactIsAbelianUptoRow : OpenClaim := { program := "ytgdialknnjnehaa", sum := "58f1a2adb3718e4230c91bd25e71e29f2b130b0d0b7bc2b16501b93a13369e91", func := "loop.example/g01076/laws.FnExactIsAbelian", spec := "fnExactIsAbelian", apart := false, narrowed := true }
def FnExactIsAbelianUptoSaid : Prop := fnExactIsAbelianUptoRow.holds Try.pinned (OpenSpec.upto fnExactIsAbelianSpec)

/-- 'laws.FnExactExponentOf', WHERE WHAT IT READS IS OF BULK AT MOST 1048576: true; the input reads as it did. -/
def fnExactExponentOfUptoRow : OpenClaim := { program := "ytgdialknnjnehaa", sum := "58f1a2adb3718e4230c91bd25e71e29f2b130b0d0b7bc2b16501b93a13369e91", func := "loop.example/g01076/laws.FnExactExponentOf", spec := "fnExactExponentOf", apart := false, narrowed := true }
def FnExactExponentOfUptoSaid : Prop := fnExactExponentOfUptoRow.holds Try.pinned (OpenSpec.upto fnExactExponentOfSpec)

/-- 'laws.FnExactAbelianOrder', WHERE WHAT IT READS IS OF BULK AT MOST 1048576: true; the input reads as it did. -/
def fnExactAbelianOrderUptoRow : OpenClaim := { program := "ytgdialknnjnehaa", sum := "58f1a2adb3718e4230c91bd25e71e29f2b130b0d0b7bc2b16501b93a13369e91", func := "loop.example/g01076/laws.FnExactAbelianOrder", spec := "fnExactAbelianOrder", apart := false, narrowed := true }
def FnExactAbelianOrderUptoSaid : Prop := fnExactAbelianOrderUptoRow.holds Try.pinned (OpenSpec.upto fnExactAbelianOrderSpec)

/-- 'laws.FnExactCountSolutions', WHERE WHAT IT READS IS OF BULK AT MOST 1048576: true; the input reads as it did. -/
def fnExactCountSolutionsUptoRow : OpenClaim := { program := "ytgdialknnjnehaa", sum := "58f1a2adb3718e4230c91bd25e71e29f2b130b0d0b7bc2b16501b93a13369e91", func := "loop.example/g01076/laws.FnExactCountSolutions", spec := "fnExactCountSolutions", apart := false, narrowed := true }
def FnExactCountSolutionsUptoSaid : Prop := fnExactCountSolutionsUptoRow.holds Try.pinned (OpenSpec.upto fnExactCountSolutionsSpec)

/-- 'laws.FnExactCountPrimeSubgroups', WHERE WHAT IT READS IS OF BULK AT MOST 1048576: true; the input reads as it did. -/
def fnExactCountPrimeSubgroupsUptoRow : OpenClaim := { program := "ytgdialknnjnehaa", sum := "58f1a2adb3718e4230c91bd25e71e29f2b130b0d0b7bc2b16501b93a13369e91", func := "loop.example/g01076/laws.FnExactCountPrimeSubgroups", spec := "fnExactCountPrimeSubgroups", apart := false, narrowed := true }
def FnExactCountPrimeSubgroupsUptoSaid : Prop := fnExactCountPrimeSubgroupsUptoRow.holds Try.pinned (OpenSpec.upto fnExactCountPrimeSubgroupsSpec)

/-- 'laws.FnExactCountAbelianHoms', WHERE WHAT IT READS IS OF BULK AT MOST 1048576: true; the input reads as it did. -/
def fnExactCountAbelianHomsUptoRow : OpenClaim := { program := "ytgdialknnjnehaa", sum := "58f1a2adb3718e4230c91bd25e71e29f2b130b0d0b7bc2b16501b93a13369e91", func := "loop.example/g01076/laws.FnExactCountAbelianHoms", spec := "fnExactCountAbelianHoms", apart := false, narrowed := true }
def FnExactCountAbelianHomsUptoSaid : Prop := fnExactCountAbelianHomsUptoRow.holds Try.pinned (OpenSpec.upto fnExactCountAbelianHomsSpec)

/-- 'laws.FnExactPrimaryParts', WHERE WHAT IT READS IS OF BULK AT MOST 1048576: true; the input reads as it did. -/
def fnExactPrimaryPartsUptoRow : OpenClaim := { program := "ytgdialknnjnehaa", sum := "58f1a2adb3718e4230c91bd25e71e29f2b130b0d0b7bc2b16501b93a13369e91", func := "loop.example/g01076/laws.FnExactPrimaryParts", spec := "fnExactPrimaryParts", unfollowed := true, recurses := true, apart := false, narrowed := true }
def FnExactPrimaryPartsUptoSaid : Prop := fnExactPrimaryPartsUptoRow.holds Try.pinned (OpenSpec.upto fnExactPrimaryPartsSpec)

/-- 'laws.FnExactFromPrimary', WHERE WHAT IT READS IS OF BULK AT MOST 1048576: true; the input reads as it did. -/
def fnExactFromPrimaryUptoRow : OpenClaim := { program := "ytgdialknnjnehaa", sum := "58f1a2adb3718e4230c91bd25e71e29f2b130b0d0b7bc2b16501b93a13369e91", func := "loop.example/g01076/laws.FnExactFromPrimary", spec := "fnExactFromPrimary", recurses := true, apart := false, narrowed := true }
def FnExactFromPrimaryUptoSaid : Prop := fnExactFromPrimaryUptoRow.holds Try.pinned (OpenSpec.upto fnExactFromPrimarySpec)

/-- 'laws.FnExactSumAbelian', WHERE WHAT IT READS IS OF BULK AT MOST 1048576: true; the input reads as it did. -/
def fnExactSumAbelianUptoRow : OpenClaim := { program := "ytgdialknnjnehaa", sum := "58f1a2adb3718e4230c91bd25e71e29f2b130b0d0b7bc2b16501b93a13369e91", func := "loop.example/g01076/laws.FnExactSumAbelian", spec := "fnExactSumAbelian", unfollowed := true, recurses := true, apart := false, narrowed := true }
def FnExactSumAbelianUptoSaid : Prop := fnExactSumAbelianUptoRow.holds Try.pinned (OpenSpec.upto fnExactSumAbelianSpec)

/-- 'laws.FnExactHasAbelianQuotient', WHERE WHAT IT READS IS OF BULK AT MOST 1048576: true; the input reads as it did. -/
def fnExactHasAbelianQuotientUptoRow : OpenClaim := { program := "ytgdialknnjnehaa", sum := "58f1a2adb3718e4230c91bd25e71e29f2b130b0d0b7bc2b16501b93a13369e91", func := "loop.example/g01076/laws.FnExactHasAbelianQuotient", spec := "fnExactHasAbelianQuotient", unfollowed := true, recurses := true, apart := false, narrowed := true }
def FnExactHasAbelianQuotientUptoSaid : Prop := fnExactHasAbelianQuotientUptoRow.holds Try.pinned (OpenSpec.upto fnExactHasAbelianQuotientSpec)

/-- 'laws.FnExactAllAbelian', WHERE WHAT IT READS IS OF BULK AT MOST 1048576: true; the input reads as it did. -/
def fnExactAllAbelianUptoRow : OpenClaim := { program := "ytgdialknnjnehaa", sum := "58f1a2adb3718e4230c91bd25e71e29f2b130b0d0b7bc2b16501b93a13369e91", func := "loop.example/g01076/laws.FnExactAllAbelian", spec := "fnExactAllAbelian", unfollowed := true, recurses := true, apart := false, narrowed := true }
def FnExactAllAbelianUptoSaid : Prop := fnExactAllAbelianUptoRow.holds Try.pinned (OpenSpec.upto fnExactAllAbelianSpec)

end Rows
end Go.Proofs.Ytgdialknnjnehaa
