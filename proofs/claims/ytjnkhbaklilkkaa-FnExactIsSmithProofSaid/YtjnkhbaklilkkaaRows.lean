/-
  No cell of these rows narrows 'for every input' (looked for: loops, veiled, ifaces, maps, wideKeys, modest, calm, conditions, laid).
  DERIVED. THE GIVEN ROWS OF THIS SEAT. 12 by the template 'for every input the law returns true; each argument reads behind the call as it read before'; 0 by the template 'total and deterministic' (their statements: YtjnkhbaklilkkaaTotals.lean).
  GIVEN WITH THE SEED: the statements are not yours to turn. If you find one false, say at which input.
  Laid BY PROGRAM, IN A SANDBOX (cutbox-rows.mjs): the forced cells as the released guide's own fill.sh prints them over the translation 1bb2701c6044ef3f… (all of the seat's roots in one cut). By AI agents, Wed Nov 11 2026. No macro, syntax, notation, axiom, sorry.
-/
import Derived.Test.YtjnkhbaklilkkaaChecked
import GoSem.Claim
import GoSem.ClaimJoined
import GoSem.ClaimMapViews
import Derived.JoinedTies
import Derived.KernelRfl
namespace Go.Proofs.Ytjnkhbaklilkkaa
/- THE CELL 'sum', in the pinned program and in every row, IS THE sha256 OF THE DUMP (.gsa) THAT YtjnkhbaklilkkaaProg.lean LOADS. Nothing in Lean hashes anything: it is a label: what it is worth is what the hold of that sum in a sandbox is worth. -/
noncomputable def Try.pinned : Pinned := { name := "ytjnkhbaklilkkaa", sum := "1bb2701c6044ef3ff23cf6cd31a869d183a9981f7b4f14a0513c8a9ebc90d673", checked := Try.checked }
namespace Rows
def none {H : Type} : Left H := { results := [], args := [] }

/-- 'laws.FnExactIsTable': WHATEVER THE INPUT: true; the input reads as it did. -/
def fnExactIsTableSpec : ChangeSpec := { name := "fnExactIsTable", fn := fun _ => fun
  | [d] => { results := [.lit (.bool true)], args := [d] }
  | _ => none }
def fnExactIsTableRow : OpenClaim := { program := "ytjnkhbaklilkkaa", sum := "1bb2701c6044ef3ff23cf6cd31a869d183a9981f7b4f14a0513c8a9ebc90d673", func := "loop.example/g01076/laws.FnExactIsTable", spec := "fnExactIsTable", apart := false }
def FnExactIsTableSaid : Prop := fnExactIsTableRow.holds Try.pinned (OpenSpec.ofChange fnExactIsTableSpec)

/-- ITS FALSE NEIGHBOUR: 'it returns false'. Refute it at one input. -/
def fnExactIsTableWrong : ChangeSpec := { name := "fnExactIsTable", fn := fun _ => fun
  | [d] => { results := [.lit (.bool false)], args := [d] }
  | _ => none }
def FnExactIsTableWrongFalsely : Prop := fnExactIsTableRow.holds Try.pinned (OpenSpec.ofChange fnExactIsTableWrong)

/-- 'laws.FnExactDeterminantOf': WHATEVER THE INPUT: true; the input reads as it did. -/
def fnExactDeterminantOfSpec : ChangeSpec := { name := "fnExactDeterminantOf", fn := fun _ => fun
  | [d] => { results := [.lit (.bool true)], args := [d] }
  | _ => none }
def fnExactDeterminantOfRow : OpenClaim := { program := "ytjnkhbaklilkkaa", sum := "1bb2701c6044ef3ff23cf6cd31a869d183a9981f7b4f14a0513c8a9ebc90d673", func := "loop.example/g01076/laws.FnExactDeterminantOf", spec := "fnExactDeterminantOf", recurses := true, apart := false }
def FnExactDeterminantOfSaid : Prop := fnExactDeterminantOfRow.holds Try.pinned (OpenSpec.ofChange fnExactDeterminantOfSpec)

/-- ITS FALSE NEIGHBOUR: 'it returns false'. Refute it at one input. -/
def fnExactDeterminantOfWrong : ChangeSpec := { name := "fnExactDeterminantOf", fn := fun _ => fun
  | [d] => { results := [.lit (.bool false)], args := [d] }
  | _ => none }
def FnExactDeterminantOfWrongFalsely : Prop := fnExactDeterminantOfRow.holds Try.pinned (OpenSpec.ofChange fnExactDeterminantOfWrong)

/-- 'laws.FnExactIsUnimodular': WHATEVER THE INPUT: true; the input reads as it did. -/
def fnExactIsUnimodularSpec : ChangeSpec := { name := "fnExactIsUnimodular", fn := fun _ => fun
  | [d] => { results := [.lit (.bool true)], args := [d] }
  | _ => none }
def fnExactIsUnimodularRow : OpenClaim := { program := "ytjnkhbaklilkkaa", sum := "1bb2701c6044ef3ff23cf6cd31a869d183a9981f7b4f14a0513c8a9ebc90d673", func := "loop.example/g01076/laws.FnExactIsUnimodular", spec := "fnExactIsUnimodular", recurses := true, apart := false }
def FnExactIsUnimodularSaid : Prop := fnExactIsUnimodularRow.holds Try.pinned (OpenSpec.ofChange fnExactIsUnimodularSpec)

/-- ITS FALSE NEIGHBOUR: 'it returns false'. Refute it at one input. -/
def fnExactIsUnimodularWrong : ChangeSpec := { name := "fnExactIsUnimodular", fn := fun _ => fun
  | [d] => { results := [.lit (.bool false)], args := [d] }
  | _ => none }
def FnExactIsUnimodularWrongFalsely : Prop := fnExactIsUnimodularRow.holds Try.pinned (OpenSpec.ofChange fnExactIsUnimodularWrong)

/-- 'laws.FnExactMinorsDivisor': WHATEVER THE INPUT: true; the input reads as it did. -/
def fnExactMinorsDivisorSpec : ChangeSpec := { name := "fnExactMinorsDivisor", fn := fun _ => fun
  | [d1, d2] => { results := [.lit (.bool true)], args := [d1, d2] }
  | _ => none }
def fnExactMinorsDivisorRow : OpenClaim := { program := "ytjnkhbaklilkkaa", sum := "1bb2701c6044ef3ff23cf6cd31a869d183a9981f7b4f14a0513c8a9ebc90d673", func := "loop.example/g01076/laws.FnExactMinorsDivisor", spec := "fnExactMinorsDivisor", recurses := true, apart := false }
def FnExactMinorsDivisorSaid : Prop := fnExactMinorsDivisorRow.holds Try.pinned (OpenSpec.ofChange fnExactMinorsDivisorSpec)

/-- ITS FALSE NEIGHBOUR: 'it returns false'. Refute it at one input. -/
def fnExactMinorsDivisorWrong : ChangeSpec := { name := "fnExactMinorsDivisor", fn := fun _ => fun
  | [d1, d2] => { results := [.lit (.bool false)], args := [d1, d2] }
  | _ => none }
def FnExactMinorsDivisorWrongFalsely : Prop := fnExactMinorsDivisorRow.holds Try.pinned (OpenSpec.ofChange fnExactMinorsDivisorWrong)

/-- 'laws.FnExactLatticeIndex': WHATEVER THE INPUT: true; the input reads as it did. -/
def fnExactLatticeIndexSpec : ChangeSpec := { name := "fnExactLatticeIndex", fn := fun _ => fun
  | [d] => { results := [.lit (.bool true)], args := [d] }
  | _ => none }
def fnExactLatticeIndexRow : OpenClaim := { program := "ytjnkhbaklilkkaa", sum := "1bb2701c6044ef3ff23cf6cd31a869d183a9981f7b4f14a0513c8a9ebc90d673", func := "loop.example/g01076/laws.FnExactLatticeIndex", spec := "fnExactLatticeIndex", apart := false }
def FnExactLatticeIndexSaid : Prop := fnExactLatticeIndexRow.holds Try.pinned (OpenSpec.ofChange fnExactLatticeIndexSpec)

/-- ITS FALSE NEIGHBOUR: 'it returns false'. Refute it at one input. -/
def fnExactLatticeIndexWrong : ChangeSpec := { name := "fnExactLatticeIndex", fn := fun _ => fun
  | [d] => { results := [.lit (.bool false)], args := [d] }
  | _ => none }
def FnExactLatticeIndexWrongFalsely : Prop := fnExactLatticeIndexRow.holds Try.pinned (OpenSpec.ofChange fnExactLatticeIndexWrong)

/-- 'laws.FnExactIsSmithProof': WHATEVER THE INPUT: true; the input reads as it did. -/
def fnExactIsSmithProofSpec : ChangeSpec := { name := "fnExactIsSmithProof", fn := fun _ => fun
  | [d1, d2, d3, d4] => { results := [.lit (.bool true)], args := [d1, d2, d3, d4] }
  | _ => none }
def fnExactIsSmithProofRow : OpenClaim := { program := "ytjnkhbaklilkkaa", sum := "1bb2701c6044ef3ff23cf6cd31a869d183a9981f7b4f14a0513c8a9ebc90d673", func := "loop.example/g01076/laws.FnExactIsSmithProof", spec := "fnExactIsSmithProof", recurses := true, apart := false }
def FnExactIsSmithProofSaid : Prop := fnExactIsSmithProofRow.holds Try.pinned (OpenSpec.ofChange fnExactIsSmithProofSpec)

/-- ITS FALSE NEIGHBOUR: 'it returns false'. Refute it at one input. -/
def fnExactIsSmithProofWrong : ChangeSpec := { name := "fnExactIsSmithProof", fn := fun _ => fun
  | [d1, d2, d3, d4] => { results := [.lit (.bool false)], args := [d1, d2, d3, d4] }
  | _ => none }
def FnExactIsSmithProofWrongFalsely : Prop := fnExactIsSmithProofRow.holds Try.pinned (OpenSpec.ofChange fnExactIsSmithProofWrong)

/-- 'laws.FnExactHermiteForm': WHATEVER THE INPUT: true; the input reads as it did. -/
def fnExactHermiteFormSpec : ChangeSpec := { name := "fnExactHermiteForm", fn := fun _ => fun
  | [d] => { results := [.lit (.bool true)], args := [d] }
  | _ => none }
def fnExactHermiteFormRow : OpenClaim := { program := "ytjnkhbaklilkkaa", sum := "1bb2701c6044ef3ff23cf6cd31a869d183a9981f7b4f14a0513c8a9ebc90d673", func := "loop.example/g01076/laws.FnExactHermiteForm", spec := "fnExactHermiteForm", apart := false }
def FnExactHermiteFormSaid : Prop := fnExactHermiteFormRow.holds Try.pinned (OpenSpec.ofChange fnExactHermiteFormSpec)

/-- ITS FALSE NEIGHBOUR: 'it returns false'. Refute it at one input. -/
def fnExactHermiteFormWrong : ChangeSpec := { name := "fnExactHermiteForm", fn := fun _ => fun
  | [d] => { results := [.lit (.bool false)], args := [d] }
  | _ => none }
def FnExactHermiteFormWrongFalsely : Prop := fnExactHermiteFormRow.holds Try.pinned (OpenSpec.ofChange fnExactHermiteFormWrong)

/-- 'laws.FnExactIsInLattice': WHATEVER THE INPUT: true; the input reads as it did. -/
def fnExactIsInLatticeSpec : ChangeSpec := { name := "fnExactIsInLattice", fn := fun _ => fun
  | [d1, d2] => { results := [.lit (.bool true)], args := [d1, d2] }
  | _ => none }
def fnExactIsInLatticeRow : OpenClaim := { program := "ytjnkhbaklilkkaa", sum := "1bb2701c6044ef3ff23cf6cd31a869d183a9981f7b4f14a0513c8a9ebc90d673", func := "loop.example/g01076/laws.FnExactIsInLattice", spec := "fnExactIsInLattice", unfollowed := true, recurses := true, apart := false }
def FnExactIsInLatticeSaid : Prop := fnExactIsInLatticeRow.holds Try.pinned (OpenSpec.ofChange fnExactIsInLatticeSpec)

/-- ITS FALSE NEIGHBOUR: 'it returns false'. Refute it at one input. -/
def fnExactIsInLatticeWrong : ChangeSpec := { name := "fnExactIsInLattice", fn := fun _ => fun
  | [d1, d2] => { results := [.lit (.bool false)], args := [d1, d2] }
  | _ => none }
def FnExactIsInLatticeWrongFalsely : Prop := fnExactIsInLatticeRow.holds Try.pinned (OpenSpec.ofChange fnExactIsInLatticeWrong)

/-- 'laws.FnExactSmithFactors': WHATEVER THE INPUT: true; the input reads as it did. -/
def fnExactSmithFactorsSpec : ChangeSpec := { name := "fnExactSmithFactors", fn := fun _ => fun
  | [d] => { results := [.lit (.bool true)], args := [d] }
  | _ => none }
def fnExactSmithFactorsRow : OpenClaim := { program := "ytjnkhbaklilkkaa", sum := "1bb2701c6044ef3ff23cf6cd31a869d183a9981f7b4f14a0513c8a9ebc90d673", func := "loop.example/g01076/laws.FnExactSmithFactors", spec := "fnExactSmithFactors", recurses := true, apart := false }
def FnExactSmithFactorsSaid : Prop := fnExactSmithFactorsRow.holds Try.pinned (OpenSpec.ofChange fnExactSmithFactorsSpec)

/-- ITS FALSE NEIGHBOUR: 'it returns false'. Refute it at one input. -/
def fnExactSmithFactorsWrong : ChangeSpec := { name := "fnExactSmithFactors", fn := fun _ => fun
  | [d] => { results := [.lit (.bool false)], args := [d] }
  | _ => none }
def FnExactSmithFactorsWrongFalsely : Prop := fnExactSmithFactorsRow.holds Try.pinned (OpenSpec.ofChange fnExactSmithFactorsWrong)

/-- 'laws.FnExactRemainderOf': WHATEVER THE INPUT: true; the input reads as it did. -/
def fnExactRemainderOfSpec : ChangeSpec := { name := "fnExactRemainderOf", fn := fun _ => fun
  | [d1, d2] => { results := [.lit (.bool true)], args := [d1, d2] }
  | _ => none }
def fnExactRemainderOfRow : OpenClaim := { program := "ytjnkhbaklilkkaa", sum := "1bb2701c6044ef3ff23cf6cd31a869d183a9981f7b4f14a0513c8a9ebc90d673", func := "loop.example/g01076/laws.FnExactRemainderOf", spec := "fnExactRemainderOf", unfollowed := true, recurses := true, apart := false }
def FnExactRemainderOfSaid : Prop := fnExactRemainderOfRow.holds Try.pinned (OpenSpec.ofChange fnExactRemainderOfSpec)

/-- ITS FALSE NEIGHBOUR: 'it returns false'. Refute it at one input. -/
def fnExactRemainderOfWrong : ChangeSpec := { name := "fnExactRemainderOf", fn := fun _ => fun
  | [d1, d2] => { results := [.lit (.bool false)], args := [d1, d2] }
  | _ => none }
def FnExactRemainderOfWrongFalsely : Prop := fnExactRemainderOfRow.holds Try.pinned (OpenSpec.ofChange fnExactRemainderOfWrong)

/-- 'laws.FnExactCosetOrder': WHATEVER THE INPUT: true; the input reads as it did. -/
def fnExactCosetOrderSpec : ChangeSpec := { name := "fnExactCosetOrder", fn := fun _ => fun
  | [d1, d2] => { results := [.lit (.bool true)], args := [d1, d2] }
  | _ => none }
def fnExactCosetOrderRow : OpenClaim := { program := "ytjnkhbaklilkkaa", sum := "1bb2701c6044ef3ff23cf6cd31a869d183a9981f7b4f14a0513c8a9ebc90d673", func := "loop.example/g01076/laws.FnExactCosetOrder", spec := "fnExactCosetOrder", unfollowed := true, recurses := true, apart := false }
def FnExactCosetOrderSaid : Prop := fnExactCosetOrderRow.holds Try.pinned (OpenSpec.ofChange fnExactCosetOrderSpec)

/-- ITS FALSE NEIGHBOUR: 'it returns false'. Refute it at one input. -/
def fnExactCosetOrderWrong : ChangeSpec := { name := "fnExactCosetOrder", fn := fun _ => fun
  | [d1, d2] => { results := [.lit (.bool false)], args := [d1, d2] }
  | _ => none }
def FnExactCosetOrderWrongFalsely : Prop := fnExactCosetOrderRow.holds Try.pinned (OpenSpec.ofChange fnExactCosetOrderWrong)

/-- 'laws.FnExactAbelianOf': WHATEVER THE INPUT: true; the input reads as it did. -/
def fnExactAbelianOfSpec : ChangeSpec := { name := "fnExactAbelianOf", fn := fun _ => fun
  | [d] => { results := [.lit (.bool true)], args := [d] }
  | _ => none }
def fnExactAbelianOfRow : OpenClaim := { program := "ytjnkhbaklilkkaa", sum := "1bb2701c6044ef3ff23cf6cd31a869d183a9981f7b4f14a0513c8a9ebc90d673", func := "loop.example/g01076/laws.FnExactAbelianOf", spec := "fnExactAbelianOf", recurses := true, apart := false }
def FnExactAbelianOfSaid : Prop := fnExactAbelianOfRow.holds Try.pinned (OpenSpec.ofChange fnExactAbelianOfSpec)

/-- ITS FALSE NEIGHBOUR: 'it returns false'. Refute it at one input. -/
def fnExactAbelianOfWrong : ChangeSpec := { name := "fnExactAbelianOf", fn := fun _ => fun
  | [d] => { results := [.lit (.bool false)], args := [d] }
  | _ => none }
def FnExactAbelianOfWrongFalsely : Prop := fnExactAbelianOfRow.holds Try.pinned (OpenSpec.ofChange fnExactAbelianOfWrong)

/- THE SECOND FORM. 'bulk': how many values and letters a reading holds, each counted each time it is reached (what is shared counts as often as it is met; a slice's spare places count too). A statement '..UptoSaid' is the law's where the arguments, and the package variables that the reading takes, are together of bulk at most 1048576: NARROWER than '..Said'. Prove '..Said' where nothing that the law and all that it calls make is longer than what came in: it says more and counts as full. Else prove '..UptoSaid'. A law counts once. -/
mutual
def uptoBulk {H : Type} : DataW H → Nat
  | .lit (.string bytes) => bytes.length + 1
  | .lit _ => 1
  | .nil => 1
  | .ptr d => uptoBulk d + 1
  | .slice elems spare => uptoBulkAll elems + uptoBulkAll spare + 1
  | .agg parts => uptoBulkAll parts + 1
  | .iface _ d => uptoBulk d + 1
  | .map entries => uptoBulkEntries entries + 1
  | .held _ => 1
def uptoBulkAll {H : Type} : List (DataW H) → Nat
  | [] => 0
  | d :: r => uptoBulk d + uptoBulkAll r
def uptoBulkEntries {H : Type} : List (Lit × DataW H) → Nat
  | [] => 0
  | x :: r => uptoBulkEntry x + uptoBulkEntries r
def uptoBulkEntry {H : Type} : Lit × DataW H → Nat
  | (.string bytes, d) => bytes.length + uptoBulk d + 1
  | (_, d) => uptoBulk d + 1
 end
def uptoSmall : (H : Type) → List (DataW H) → Bool := fun _ ds => decide (uptoBulkAll ds ≤ 1048576)
def OpenSpec.upto (s : _root_.Go.ChangeSpec) : _root_.Go.OpenSpec := { _root_.Go.OpenSpec.ofChange s with cond := some uptoSmall }

/-- 'laws.FnExactIsTable', WHERE WHAT IT READS IS OF BULK AT MOST 1048576: true; the input reads as it did. -/
def fnExactIsTableUptoRow : OpenClaim := { program := "ytjnkhbaklilkkaa", sum := "1bb2701c6044ef3ff23cf6cd31a869d183a9981f7b4f14a0513c8a9ebc90d673", func := "loop.example/g01076/laws.FnExactIsTable", spec := "fnExactIsTable", apart := false, narrowed := true }
def FnExactIsTableUptoSaid : Prop := fnExactIsTableUptoRow.holds Try.pinned (OpenSpec.upto fnExactIsTableSpec)

/-- 'laws.FnExactDeterminantOf', WHERE WHAT IT READS IS OF BULK AT MOST 1048576: true; the input reads as it did. -/
def fnExactDeterminantOfUptoRow : OpenClaim := { program := "ytjnkhbaklilkkaa", sum := "1bb2701c6044ef3ff23cf6cd31a869d183a9981f7b4f14a0513c8a9ebc90d673", func := "loop.example/g01076/laws.FnExactDeterminantOf", spec := "fnExactDeterminantOf", recurses := true, apart := false, narrowed := true }
def FnExactDeterminantOfUptoSaid : Prop := fnExactDeterminantOfUptoRow.holds Try.pinned (OpenSpec.upto fnExactDeterminantOfSpec)

/-- 'laws.FnExactIsUnimodular', WHERE WHAT IT READS IS OF BULK AT MOST 1048576: true; the input reads as it did. -/
def fnExactIsUnimodularUptoRow : OpenClaim := { program := "ytjnkhbaklilkkaa", sum := "1bb2701c6044ef3ff23cf6cd31a869d183a9981f7b4f14a0513c8a9ebc90d673", func := "loop.example/g01076/laws.FnExactIsUnimodular", spec := "fnExactIsUnimodular", recurses := true, apart := false, narrowed := true }
def FnExactIsUnimodularUptoSaid : Prop := fnExactIsUnimodularUptoRow.holds Try.pinned (OpenSpec.upto fnExactIsUnimodularSpec)

/-- 'laws.FnExactMinorsDivisor', WHERE WHAT IT READS IS OF BULK AT MOST 1048576: true; the input reads as it did. -/
def fnExactMinorsDivisorUptoRow : OpenClaim := { program := "ytjnkhbaklilkkaa", sum := "1bb2701c6044ef3ff23cf6cd31a869d183a9981f7b4f14a0513c8a9ebc90d673", func := "loop.example/g01076/laws.FnExactMinorsDivisor", spec := "fnExactMinorsDivisor", recurses := true, apart := false, narrowed := true }
def FnExactMinorsDivisorUptoSaid : Prop := fnExactMinorsDivisorUptoRow.holds Try.pinned (OpenSpec.upto fnExactMinorsDivisorSpec)

/-- 'laws.FnExactLatticeIndex', WHERE WHAT IT READS IS OF BULK AT MOST 1048576: true; the input reads as it did. -/
def fnExactLatticeIndexUptoRow : OpenClaim := { program := "ytjnkhbaklilkkaa", sum := "1bb2701c6044ef3ff23cf6cd31a869d183a9981f7b4f14a0513c8a9ebc90d673", func := "loop.example/g01076/laws.FnExactLatticeIndex", spec := "fnExactLatticeIndex", apart := false, narrowed := true }
def FnExactLatticeIndexUptoSaid : Prop := fnExactLatticeIndexUptoRow.holds Try.pinned (OpenSpec.upto fnExactLatticeIndexSpec)

/-- 'laws.FnExactIsSmithProof', WHERE WHAT IT READS IS OF BULK AT MOST 1048576: true; the input reads as it did. -/
def fnExactIsSmithProofUptoRow : OpenClaim := { program := "ytjnkhbaklilkkaa", sum := "1bb2701c6044ef3ff23cf6cd31a869d183a9981f7b4f14a0513c8a9ebc90d673", func := "loop.example/g01076/laws.FnExactIsSmithProof", spec := "fnExactIsSmithProof", recurses := true, apart := false, narrowed := true }
def FnExactIsSmithProofUptoSaid : Prop := fnExactIsSmithProofUptoRow.holds Try.pinned (OpenSpec.upto fnExactIsSmithProofSpec)

/-- 'laws.FnExactHermiteForm', WHERE WHAT IT READS IS OF BULK AT MOST 1048576: true; the input reads as it did. -/
def fnExactHermiteFormUptoRow : OpenClaim := { program := "ytjnkhbaklilkkaa", sum := "1bb2701c6044ef3ff23cf6cd31a869d183a9981f7b4f14a0513c8a9ebc90d673", func := "loop.example/g01076/laws.FnExactHermiteForm", spec := "fnExactHermiteForm", apart := false, narrowed := true }
def FnExactHermiteFormUptoSaid : Prop := fnExactHermiteFormUptoRow.holds Try.pinned (OpenSpec.upto fnExactHermiteFormSpec)

/-- 'laws.FnExactIsInLattice', WHERE WHAT IT READS IS OF BULK AT MOST 1048576: true; the input reads as it did. -/
def fnExactIsInLatticeUptoRow : OpenClaim := { program := "ytjnkhbaklilkkaa", sum := "1bb2701c6044ef3ff23cf6cd31a869d183a9981f7b4f14a0513c8a9ebc90d673", func := "loop.example/g01076/laws.FnExactIsInLattice", spec := "fnExactIsInLattice", unfollowed := true, recurses := true, apart := false, narrowed := true }
def FnExactIsInLatticeUptoSaid : Prop := fnExactIsInLatticeUptoRow.holds Try.pinned (OpenSpec.upto fnExactIsInLatticeSpec)

/-- 'laws.FnExactSmithFactors', WHERE WHAT IT READS IS OF BULK AT MOST 1048576: true; the input reads as it did. -/
def fnExactSmithFactorsUptoRow : OpenClaim := { program := "ytjnkhbaklilkkaa", sum := "1bb2701c6044ef3ff23cf6cd31a869d183a9981f7b4f14a0513c8a9ebc90d673", func := "loop.example/g01076/laws.FnExactSmithFactors", spec := "fnExactSmithFactors", recurses := true, apart := false, narrowed := true }
def FnExactSmithFactorsUptoSaid : Prop := fnExactSmithFactorsUptoRow.holds Try.pinned (OpenSpec.upto fnExactSmithFactorsSpec)

/-- 'laws.FnExactRemainderOf', WHERE WHAT IT READS IS OF BULK AT MOST 1048576: true; the input reads as it did. -/
def fnExactRemainderOfUptoRow : OpenClaim := { program := "ytjnkhbaklilkkaa", sum := "1bb2701c6044ef3ff23cf6cd31a869d183a9981f7b4f14a0513c8a9ebc90d673", func := "loop.example/g01076/laws.FnExactRemainderOf", spec := "fnExactRemainderOf", unfollowed := true, recurses := true, apart := false, narrowed := true }
def FnExactRemainderOfUptoSaid : Prop := fnExactRemainderOfUptoRow.holds Try.pinned (OpenSpec.upto fnExactRemainderOfSpec)

/-- 'laws.FnExactCosetOrder', WHERE WHAT IT READS IS OF BULK AT MOST 1048576: true; the input reads as it did. -/
def fnExactCosetOrderUptoRow : OpenClaim := { program := "ytjnkhbaklilkkaa", sum := "1bb2701c6044ef3ff23cf6cd31a869d183a9981f7b4f14a0513c8a9ebc90d673", func := "loop.example/g01076/laws.FnExactCosetOrder", spec := "fnExactCosetOrder", unfollowed := true, recurses := true, apart := false, narrowed := true }
def FnExactCosetOrderUptoSaid : Prop := fnExactCosetOrderUptoRow.holds Try.pinned (OpenSpec.upto fnExactCosetOrderSpec)

/-- 'laws.FnExactAbelianOf', WHERE WHAT IT READS IS OF BULK AT MOST 1048576: true; the input reads as it did. -/
def fnExactAbelianOfUptoRow : OpenClaim := { program := "ytjnkhbaklilkkaa", sum := "1bb2701c6044ef3ff23cf6cd31a869d183a9981f7b4f14a0513c8a9ebc90d673", func := "loop.example/g01076/laws.FnExactAbelianOf", spec := "fnExactAbelianOf", recurses := true, apart := false, narrowed := true }
def FnExactAbelianOfUptoSaid : Prop := fnExactAbelianOfUptoRow.holds Try.pinned (OpenSpec.upto fnExactAbelianOfSpec)

end Rows
end Go.Proofs.Ytjnkhbaklilkkaa
