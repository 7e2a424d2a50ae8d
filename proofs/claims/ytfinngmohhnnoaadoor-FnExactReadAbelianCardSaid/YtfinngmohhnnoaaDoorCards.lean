/-
  DERIVED. GIVEN WITH THE SEED: THE CARDS: each row of YtfinngmohhnnoaaDoorRows.lean that lists a variable, with what it lists TIED to the program's text (the seventh form; the later family's looks); each row that meets fmt, with fmt's text TOLD by the authors' own Lean function (tested against real Go, not proved from fmt's source: count such statements apart). THE CARD IS WHAT COUNTS. Prove the row's statement (the work); the ties are given (YtfinngmohhnnoaaDoorTie.lean); close each card by the builder's one call (the guide's Derived/Test/ToyasCard.lean, 'card_holds'). Laid BY PROGRAM, IN A SANDBOX (cutbox-door.mjs). By AI agents, Wed Nov 11 2026. No macro, syntax, notation, axiom, sorry.
-/
import Derived.Test.YtfinngmohhnnoaaDoorRows
import GoSem.ClaimSeven
namespace Go.Proofs.YtfinngmohhnnoaaDoor
namespace Rows

/-- THE TIED CARD OF 'laws.FnExactAbelianText'. -/
def fnExactAbelianTextCard : Claim7 := { stood := { row := fnExactAbelianTextRow, standIns := [], harness := (true, "dd8755b1ba27f6cee988cb7e0911833f5ce11f7571b2831c60ee034bfe734a7a"), looks := true }, kinds := [], alts := [], laidByText := true, laidKinds := [.data, .data, .data], laidTests := true, laidLooks := .later }
def FnExactAbelianTextCardSaid : Prop := Claim7.holds Tryd.pinned (.plain (OpenSpec.ofChange fnExactAbelianTextSpec)) fnExactAbelianTextCard

/-- THE TIED CARD OF 'laws.FnExactReadAbelian'. -/
def fnExactReadAbelianCard : Claim7 := { stood := { row := fnExactReadAbelianRow, standIns := [], harness := (true, "dd8755b1ba27f6cee988cb7e0911833f5ce11f7571b2831c60ee034bfe734a7a"), looks := true }, kinds := [], alts := [], laidByText := true, laidKinds := [.data, .data, .data, .data, .sentinel, .sentinel, .pinned], laidTests := true, laidLooks := .later }
def FnExactReadAbelianCardSaid : Prop := Claim7.holds Tryd.pinned (.plain (OpenSpec.ofChange fnExactReadAbelianSpec)) fnExactReadAbelianCard

/-- THE SECOND FORM's CARD OF 'laws.FnExactAbelianText'. -/
def fnExactAbelianTextUptoCard : Claim7 := { stood := { row := fnExactAbelianTextUptoRow, standIns := [], harness := (true, "dd8755b1ba27f6cee988cb7e0911833f5ce11f7571b2831c60ee034bfe734a7a"), looks := true }, kinds := [], alts := [], laidByText := true, laidKinds := [.data, .data, .data], laidTests := true, laidLooks := .later }
def FnExactAbelianTextUptoCardSaid : Prop := Claim7.holds Tryd.pinned (.plain (OpenSpec.upto fnExactAbelianTextSpec)) fnExactAbelianTextUptoCard

/-- THE SECOND FORM's CARD OF 'laws.FnExactReadAbelian'. -/
def fnExactReadAbelianUptoCard : Claim7 := { stood := { row := fnExactReadAbelianUptoRow, standIns := [], harness := (true, "dd8755b1ba27f6cee988cb7e0911833f5ce11f7571b2831c60ee034bfe734a7a"), looks := true }, kinds := [], alts := [], laidByText := true, laidKinds := [.data, .data, .data, .data, .sentinel, .sentinel, .pinned], laidTests := true, laidLooks := .later }
def FnExactReadAbelianUptoCardSaid : Prop := Claim7.holds Tryd.pinned (.plain (OpenSpec.upto fnExactReadAbelianSpec)) fnExactReadAbelianUptoCard
end Rows
end Go.Proofs.YtfinngmohhnnoaaDoor
