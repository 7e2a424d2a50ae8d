/-
  No cell of these rows narrows 'for every input' (looked for: loops, veiled, ifaces, maps, wideKeys, modest, calm, conditions, laid).
  DERIVED. THE GIVEN ROWS OF THIS SEAT. 10 by the template 'for every input the law returns true; each argument reads behind the call as it read before'; 0 by the template 'total and deterministic' (their statements: YteeinbcajdpenaaTotals.lean).
  GIVEN WITH THE SEED: the statements are not yours to turn. If you find one false, say at which input.
  Laid BY PROGRAM, IN A SANDBOX (cutbox-rows.mjs): the forced cells as the released guide's own fill.sh prints them over the translation 6527e8084ce5fca2… (all of the seat's roots in one cut). By AI agents, Wed Nov 11 2026. No macro, syntax, notation, axiom, sorry.
-/
import Derived.Test.YteeinbcajdpenaaChecked
import GoSem.Claim
import GoSem.ClaimJoined
import GoSem.ClaimMapViews
import Derived.JoinedTies
import Derived.KernelRfl
namespace Go.Proofs.Yteeinbcajdpenaa
/- THE CELL 'sum', in the pinned program and in every row, IS THE sha256 OF THE DUMP (.gsa) THAT YteeinbcajdpenaaProg.lean LOADS. Nothing in Lean hashes anything: it is a label: what it is worth is what the hold of that sum in a sandbox is worth. -/
noncomputable def Try.pinned : Pinned := { name := "yteeinbcajdpenaa", sum := "6527e8084ce5fca2691693c9544858dec0f368014bc164001b61a26e0c67dd2e", checked := Try.checked }
namespace Rows
def none {H : Type} : Left H := { results := [], args := [] }

/-- 'laws.FnExactConstants': WHATEVER THE INPUT: true; the input reads as it did. -/
def fnExactConstantsSpec : ChangeSpec := { name := "fnExactConstants", fn := fun _ => fun
  | [] => { results := [.lit (.bool true)], args := [] }
  | _ => none }
def fnExactConstantsRow : OpenClaim := { program := "yteeinbcajdpenaa", sum := "6527e8084ce5fca2691693c9544858dec0f368014bc164001b61a26e0c67dd2e", func := "loop.example/g01076/laws.FnExactConstants", spec := "fnExactConstants", apart := false }
def FnExactConstantsSaid : Prop := fnExactConstantsRow.holds Try.pinned (OpenSpec.ofChange fnExactConstantsSpec)

/-- ITS FALSE NEIGHBOUR: 'it returns false'. Refute it at one input. -/
def fnExactConstantsWrong : ChangeSpec := { name := "fnExactConstants", fn := fun _ => fun
  | [] => { results := [.lit (.bool false)], args := [] }
  | _ => none }
def FnExactConstantsWrongFalsely : Prop := fnExactConstantsRow.holds Try.pinned (OpenSpec.ofChange fnExactConstantsWrong)

/-- 'laws.FnExactIsGroupPrime': WHATEVER THE INPUT: true; the input reads as it did. -/
def fnExactIsGroupPrimeSpec : ChangeSpec := { name := "fnExactIsGroupPrime", fn := fun _ => fun
  | [d] => { results := [.lit (.bool true)], args := [d] }
  | _ => none }
def fnExactIsGroupPrimeRow : OpenClaim := { program := "yteeinbcajdpenaa", sum := "6527e8084ce5fca2691693c9544858dec0f368014bc164001b61a26e0c67dd2e", func := "loop.example/g01076/laws.FnExactIsGroupPrime", spec := "fnExactIsGroupPrime", apart := false }
def FnExactIsGroupPrimeSaid : Prop := fnExactIsGroupPrimeRow.holds Try.pinned (OpenSpec.ofChange fnExactIsGroupPrimeSpec)

/-- ITS FALSE NEIGHBOUR: 'it returns false'. Refute it at one input. -/
def fnExactIsGroupPrimeWrong : ChangeSpec := { name := "fnExactIsGroupPrime", fn := fun _ => fun
  | [d] => { results := [.lit (.bool false)], args := [d] }
  | _ => none }
def FnExactIsGroupPrimeWrongFalsely : Prop := fnExactIsGroupPrimeRow.holds Try.pinned (OpenSpec.ofChange fnExactIsGroupPrimeWrong)

/-- 'laws.FnExactPrimePart': WHATEVER THE INPUT: true; the input reads as it did. -/
def fnExactPrimePartSpec : ChangeSpec := { name := "fnExactPrimePart", fn := fun _ => fun
  | [d1, d2] => { results := [.lit (.bool true)], args := [d1, d2] }
  | _ => none }
def fnExactPrimePartRow : OpenClaim := { program := "yteeinbcajdpenaa", sum := "6527e8084ce5fca2691693c9544858dec0f368014bc164001b61a26e0c67dd2e", func := "loop.example/g01076/laws.FnExactPrimePart", spec := "fnExactPrimePart", apart := false }
def FnExactPrimePartSaid : Prop := fnExactPrimePartRow.holds Try.pinned (OpenSpec.ofChange fnExactPrimePartSpec)

/-- ITS FALSE NEIGHBOUR: 'it returns false'. Refute it at one input. -/
def fnExactPrimePartWrong : ChangeSpec := { name := "fnExactPrimePart", fn := fun _ => fun
  | [d1, d2] => { results := [.lit (.bool false)], args := [d1, d2] }
  | _ => none }
def FnExactPrimePartWrongFalsely : Prop := fnExactPrimePartRow.holds Try.pinned (OpenSpec.ofChange fnExactPrimePartWrong)

/-- 'laws.FnExactCountSubspaces': WHATEVER THE INPUT: true; the input reads as it did. -/
def fnExactCountSubspacesSpec : ChangeSpec := { name := "fnExactCountSubspaces", fn := fun _ => fun
  | [d1, d2, d3] => { results := [.lit (.bool true)], args := [d1, d2, d3] }
  | _ => none }
def fnExactCountSubspacesRow : OpenClaim := { program := "yteeinbcajdpenaa", sum := "6527e8084ce5fca2691693c9544858dec0f368014bc164001b61a26e0c67dd2e", func := "loop.example/g01076/laws.FnExactCountSubspaces", spec := "fnExactCountSubspaces", recurses := true, apart := false }
def FnExactCountSubspacesSaid : Prop := fnExactCountSubspacesRow.holds Try.pinned (OpenSpec.ofChange fnExactCountSubspacesSpec)

/-- ITS FALSE NEIGHBOUR: 'it returns false'. Refute it at one input. -/
def fnExactCountSubspacesWrong : ChangeSpec := { name := "fnExactCountSubspaces", fn := fun _ => fun
  | [d1, d2, d3] => { results := [.lit (.bool false)], args := [d1, d2, d3] }
  | _ => none }
def FnExactCountSubspacesWrongFalsely : Prop := fnExactCountSubspacesRow.holds Try.pinned (OpenSpec.ofChange fnExactCountSubspacesWrong)

/-- 'laws.FnExactModPower': WHATEVER THE INPUT: true; the input reads as it did. -/
def fnExactModPowerSpec : ChangeSpec := { name := "fnExactModPower", fn := fun _ => fun
  | [d1, d2, d3] => { results := [.lit (.bool true)], args := [d1, d2, d3] }
  | _ => none }
def fnExactModPowerRow : OpenClaim := { program := "yteeinbcajdpenaa", sum := "6527e8084ce5fca2691693c9544858dec0f368014bc164001b61a26e0c67dd2e", func := "loop.example/g01076/laws.FnExactModPower", spec := "fnExactModPower", apart := false }
def FnExactModPowerSaid : Prop := fnExactModPowerRow.holds Try.pinned (OpenSpec.ofChange fnExactModPowerSpec)

/-- ITS FALSE NEIGHBOUR: 'it returns false'. Refute it at one input. -/
def fnExactModPowerWrong : ChangeSpec := { name := "fnExactModPower", fn := fun _ => fun
  | [d1, d2, d3] => { results := [.lit (.bool false)], args := [d1, d2, d3] }
  | _ => none }
def FnExactModPowerWrongFalsely : Prop := fnExactModPowerRow.holds Try.pinned (OpenSpec.ofChange fnExactModPowerWrong)

/-- 'laws.FnExactRationalMod': WHATEVER THE INPUT: true; the input reads as it did. -/
def fnExactRationalModSpec : ChangeSpec := { name := "fnExactRationalMod", fn := fun _ => fun
  | [d1, d2, d3] => { results := [.lit (.bool true)], args := [d1, d2, d3] }
  | _ => none }
def fnExactRationalModRow : OpenClaim := { program := "yteeinbcajdpenaa", sum := "6527e8084ce5fca2691693c9544858dec0f368014bc164001b61a26e0c67dd2e", func := "loop.example/g01076/laws.FnExactRationalMod", spec := "fnExactRationalMod", apart := false }
def FnExactRationalModSaid : Prop := fnExactRationalModRow.holds Try.pinned (OpenSpec.ofChange fnExactRationalModSpec)

/-- ITS FALSE NEIGHBOUR: 'it returns false'. Refute it at one input. -/
def fnExactRationalModWrong : ChangeSpec := { name := "fnExactRationalMod", fn := fun _ => fun
  | [d1, d2, d3] => { results := [.lit (.bool false)], args := [d1, d2, d3] }
  | _ => none }
def FnExactRationalModWrongFalsely : Prop := fnExactRationalModRow.holds Try.pinned (OpenSpec.ofChange fnExactRationalModWrong)

/-- 'laws.FnExactUnitOrder': WHATEVER THE INPUT: true; the input reads as it did. -/
def fnExactUnitOrderSpec : ChangeSpec := { name := "fnExactUnitOrder", fn := fun _ => fun
  | [d1, d2] => { results := [.lit (.bool true)], args := [d1, d2] }
  | _ => none }
def fnExactUnitOrderRow : OpenClaim := { program := "yteeinbcajdpenaa", sum := "6527e8084ce5fca2691693c9544858dec0f368014bc164001b61a26e0c67dd2e", func := "loop.example/g01076/laws.FnExactUnitOrder", spec := "fnExactUnitOrder", apart := false }
def FnExactUnitOrderSaid : Prop := fnExactUnitOrderRow.holds Try.pinned (OpenSpec.ofChange fnExactUnitOrderSpec)

/-- ITS FALSE NEIGHBOUR: 'it returns false'. Refute it at one input. -/
def fnExactUnitOrderWrong : ChangeSpec := { name := "fnExactUnitOrder", fn := fun _ => fun
  | [d1, d2] => { results := [.lit (.bool false)], args := [d1, d2] }
  | _ => none }
def FnExactUnitOrderWrongFalsely : Prop := fnExactUnitOrderRow.holds Try.pinned (OpenSpec.ofChange fnExactUnitOrderWrong)

/-- 'laws.FnExactModInverse': WHATEVER THE INPUT: true; the input reads as it did. -/
def fnExactModInverseSpec : ChangeSpec := { name := "fnExactModInverse", fn := fun _ => fun
  | [d1, d2] => { results := [.lit (.bool true)], args := [d1, d2] }
  | _ => none }
def fnExactModInverseRow : OpenClaim := { program := "yteeinbcajdpenaa", sum := "6527e8084ce5fca2691693c9544858dec0f368014bc164001b61a26e0c67dd2e", func := "loop.example/g01076/laws.FnExactModInverse", spec := "fnExactModInverse", apart := false }
def FnExactModInverseSaid : Prop := fnExactModInverseRow.holds Try.pinned (OpenSpec.ofChange fnExactModInverseSpec)

/-- ITS FALSE NEIGHBOUR: 'it returns false'. Refute it at one input. -/
def fnExactModInverseWrong : ChangeSpec := { name := "fnExactModInverse", fn := fun _ => fun
  | [d1, d2] => { results := [.lit (.bool false)], args := [d1, d2] }
  | _ => none }
def FnExactModInverseWrongFalsely : Prop := fnExactModInverseRow.holds Try.pinned (OpenSpec.ofChange fnExactModInverseWrong)

/-- 'laws.FnExactBezout': WHATEVER THE INPUT: true; the input reads as it did. -/
def fnExactBezoutSpec : ChangeSpec := { name := "fnExactBezout", fn := fun _ => fun
  | [d1, d2] => { results := [.lit (.bool true)], args := [d1, d2] }
  | _ => none }
def fnExactBezoutRow : OpenClaim := { program := "yteeinbcajdpenaa", sum := "6527e8084ce5fca2691693c9544858dec0f368014bc164001b61a26e0c67dd2e", func := "loop.example/g01076/laws.FnExactBezout", spec := "fnExactBezout", apart := false }
def FnExactBezoutSaid : Prop := fnExactBezoutRow.holds Try.pinned (OpenSpec.ofChange fnExactBezoutSpec)

/-- ITS FALSE NEIGHBOUR: 'it returns false'. Refute it at one input. -/
def fnExactBezoutWrong : ChangeSpec := { name := "fnExactBezout", fn := fun _ => fun
  | [d1, d2] => { results := [.lit (.bool false)], args := [d1, d2] }
  | _ => none }
def FnExactBezoutWrongFalsely : Prop := fnExactBezoutRow.holds Try.pinned (OpenSpec.ofChange fnExactBezoutWrong)

/-- 'laws.FnExactFactorize': WHATEVER THE INPUT: true; the input reads as it did. -/
def fnExactFactorizeSpec : ChangeSpec := { name := "fnExactFactorize", fn := fun _ => fun
  | [d] => { results := [.lit (.bool true)], args := [d] }
  | _ => none }
def fnExactFactorizeRow : OpenClaim := { program := "yteeinbcajdpenaa", sum := "6527e8084ce5fca2691693c9544858dec0f368014bc164001b61a26e0c67dd2e", func := "loop.example/g01076/laws.FnExactFactorize", spec := "fnExactFactorize", apart := false }
def FnExactFactorizeSaid : Prop := fnExactFactorizeRow.holds Try.pinned (OpenSpec.ofChange fnExactFactorizeSpec)

/-- ITS FALSE NEIGHBOUR: 'it returns false'. Refute it at one input. -/
def fnExactFactorizeWrong : ChangeSpec := { name := "fnExactFactorize", fn := fun _ => fun
  | [d] => { results := [.lit (.bool false)], args := [d] }
  | _ => none }
def FnExactFactorizeWrongFalsely : Prop := fnExactFactorizeRow.holds Try.pinned (OpenSpec.ofChange fnExactFactorizeWrong)

/- THE SECOND FORM. 'bulk': how many values and letters a reading holds, each counted each time it is reached (what is shared counts as often as it is met; a slice's spare places count too). A statement '..UptoSaid' is the law's where the arguments, and the package variables that the reading takes, are together of bulk at most 1048576: NARROWER than '..Said'. Prove '..Said' where nothing that the law and all that it calls make is longer than what came in: it says more and counts as full. Else prove '..UptoSaid'. A law counts once. -/
mutual
def uptoBulk {H : Type} : DataW H → Nat
  | .lit (.string bytes) => bytes.length + 1
  | .lit _ => 1
  | .nil => 1
  | .ptr d => uptoBulk d + 1
  | .slice elems spare => uptoBulkAll elems + uptoBulkAll spare + 1
  | .agg parts => uptoBulkAll parts + 1
  | .iface _ d => uptoBulk d + 1
  | .map entries => uptoBulkEntries entries + 1
  | .held _ => 1
def uptoBulkAll {H : Type} : List (DataW H) → Nat
  | [] => 0
  | d :: r => uptoBulk d + uptoBulkAll r
def uptoBulkEntries {H : Type} : List (Lit × DataW H) → Nat
  | [] => 0
  | x :: r => uptoBulkEntry x + uptoBulkEntries r
def uptoBulkEntry {H : Type} : Lit × DataW H → Nat
  | (.string bytes, d) => bytes.length + uptoBulk d + 1
  | (_, d) => uptoBulk d + 1
 end
def uptoSmall : (H : Type) → List (DataW H) → Bool := fun _ ds => decide (uptoBulkAll ds ≤ 1048576)
def OpenSpec.upto (s : _root_.Go.ChangeSpec) : _root_.Go.OpenSpec := { _root_.Go.OpenSpec.ofChange s with cond := some uptoSmall }

/-- 'laws.FnExactConstants', WHERE WHAT IT READS IS OF BULK AT MOST 1048576: true; the input reads as it did. -/
def fnExactConstantsUptoRow : OpenClaim := { program := "yteeinbcajdpenaa", sum := "6527e8084ce5fca2691693c9544858dec0f368014bc164001b61a26e0c67dd2e", func := "loop.example/g01076/laws.FnExactConstants", spec := "fnExactConstants", apart := false, narrowed := true }
def FnExactConstantsUptoSaid : Prop := fnExactConstantsUptoRow.holds Try.pinned (OpenSpec.upto fnExactConstantsSpec)

/-- 'laws.FnExactIsGroupPrime', WHERE WHAT IT READS IS OF BULK AT MOST 1048576: true; the input reads as it did. -/
def fnExactIsGroupPrimeUptoRow : OpenClaim := { program := "yteeinbcajdpenaa", sum := "6527e8084ce5fca2691693c9544858dec0f368014bc164001b61a26e0c67dd2e", func := "loop.example/g01076/laws.FnExactIsGroupPrime", spec := "fnExactIsGroupPrime", apart := false, narrowed := true }
def FnExactIsGroupPrimeUptoSaid : Prop := fnExactIsGroupPrimeUptoRow.holds Try.pinned (OpenSpec.upto fnExactIsGroupPrimeSpec)

/-- 'laws.FnExactPrimePart', WHERE WHAT IT READS IS OF BULK AT MOST 1048576: true; the input reads as it did. -/
def fnExactPrimePartUptoRow : OpenClaim := { program := "yteeinbcajdpenaa", sum := "6527e8084ce5fca2691693c9544858dec0f368014bc164001b61a26e0c67dd2e", func := "loop.example/g01076/laws.FnExactPrimePart", spec := "fnExactPrimePart", apart := false, narrowed := true }
def FnExactPrimePartUptoSaid : Prop := fnExactPrimePartUptoRow.holds Try.pinned (OpenSpec.upto fnExactPrimePartSpec)

/-- 'laws.FnExactCountSubspaces', WHERE WHAT IT READS IS OF BULK AT MOST 1048576: true; the input reads as it did. -/
def fnExactCountSubspacesUptoRow : OpenClaim := { program := "yteeinbcajdpenaa", sum := "6527e8084ce5fca2691693c9544858dec0f368014bc164001b61a26e0c67dd2e", func := "loop.example/g01076/laws.FnExactCountSubspaces", spec := "fnExactCountSubspaces", recurses := true, apart := false, narrowed := true }
def FnExactCountSubspacesUptoSaid : Prop := fnExactCountSubspacesUptoRow.holds Try.pinned (OpenSpec.upto fnExactCountSubspacesSpec)

/-- 'laws.FnExactModPower', WHERE WHAT IT READS IS OF BULK AT MOST 1048576: true; the input reads as it did. -/
def fnExactModPowerUptoRow : OpenClaim := { program := "yteeinbcajdpenaa", sum := "6527e8084ce5fca2691693c9544858dec0f368014bc164001b61a26e0c67dd2e", func := "loop.example/g01076/laws.FnExactModPower", spec := "fnExactModPower", apart := false, narrowed := true }
def FnExactModPowerUptoSaid : Prop := fnExactModPowerUptoRow.holds Try.pinned (OpenSpec.upto fnExactModPowerSpec)

/-- 'laws.FnExactRationalMod', WHERE WHAT IT READS IS OF BULK AT MOST 1048576: true; the input reads as it did. -/
def fnExactRationalModUptoRow : OpenClaim := { program := "yteeinbcajdpenaa", sum := "6527e8084ce5fca2691693c9544858dec0f368014bc164001b61a26e0c67dd2e", func := "loop.example/g01076/laws.FnExactRationalMod", spec := "fnExactRationalMod", apart := false, narrowed := true }
def FnExactRationalModUptoSaid : Prop := fnExactRationalModUptoRow.holds Try.pinned (OpenSpec.upto fnExactRationalModSpec)

/-- 'laws.FnExactUnitOrder', WHERE WHAT IT READS IS OF BULK AT MOST 1048576: true; the input reads as it did. -/
def fnExactUnitOrderUptoRow : OpenClaim := { program := "yteeinbcajdpenaa", sum := "6527e8084ce5fca2691693c9544858dec0f368014bc164001b61a26e0c67dd2e", func := "loop.example/g01076/laws.FnExactUnitOrder", spec := "fnExactUnitOrder", apart := false, narrowed := true }
def FnExactUnitOrderUptoSaid : Prop := fnExactUnitOrderUptoRow.holds Try.pinned (OpenSpec.upto fnExactUnitOrderSpec)

/-- 'laws.FnExactModInverse', WHERE WHAT IT READS IS OF BULK AT MOST 1048576: true; the input reads as it did. -/
def fnExactModInverseUptoRow : OpenClaim := { program := "yteeinbcajdpenaa", sum := "6527e8084ce5fca2691693c9544858dec0f368014bc164001b61a26e0c67dd2e", func := "loop.example/g01076/laws.FnExactModInverse", spec := "fnExactModInverse", apart := false, narrowed := true }
def FnExactModInverseUptoSaid : Prop := fnExactModInverseUptoRow.holds Try.pinned (OpenSpec.upto fnExactModInverseSpec)

/-- 'laws.FnExactBezout', WHERE WHAT IT READS IS OF BULK AT MOST 1048576: true; the input reads as it did. -/
def fnExactBezoutUptoRow : OpenClaim := { program := "yteeinbcajdpenaa", sum := "6527e8084ce5fca2691693c9544858dec0f368014bc164001b61a26e0c67dd2e", func := "loop.example/g01076/laws.FnExactBezout", spec := "fnExactBezout", apart := false, narrowed := true }
def FnExactBezoutUptoSaid : Prop := fnExactBezoutUptoRow.holds Try.pinned (OpenSpec.upto fnExactBezoutSpec)

/-- 'laws.FnExactFactorize', WHERE WHAT IT READS IS OF BULK AT MOST 1048576: true; the input reads as it did. -/
def fnExactFactorizeUptoRow : OpenClaim := { program := "yteeinbcajdpenaa", sum := "6527e8084ce5fca2691693c9544858dec0f368014bc164001b61a26e0c67dd2e", func := "loop.example/g01076/laws.FnExactFactorize", spec := "fnExactFactorize", apart := false, narrowed := true }
def FnExactFactorizeUptoSaid : Prop := fnExactFactorizeUptoRow.holds Try.pinned (OpenSpec.upto fnExactFactorizeSpec)

end Rows
end Go.Proofs.Yteeinbcajdpenaa
