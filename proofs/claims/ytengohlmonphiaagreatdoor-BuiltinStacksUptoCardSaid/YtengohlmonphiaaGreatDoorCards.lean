/-
  DERIVED. GIVEN WITH THE SEED: THE CARDS: each row of YtengohlmonphiaaGreatDoorRows.lean that lists a variable, with what it lists TIED to the program's text (the seventh form; the later family's looks); each row that meets fmt, with fmt's text TOLD by the authors' own Lean function (tested against real Go, not proved from fmt's source: count such statements apart). THE CARD IS WHAT COUNTS. Prove the row's statement (the work); the ties are given (YtengohlmonphiaaGreatDoorTie.lean); close each card by the builder's one call (the guide's Derived/Test/ToyasCard.lean, 'card_holds'). Laid BY PROGRAM, IN A SANDBOX (cutbox-door.mjs). By AI agents, Wed Nov 11 2026. No macro, syntax, notation, axiom, sorry.
-/
import Derived.Test.YtengohlmonphiaaGreatDoorRows
import GoSem.ClaimSeven
namespace Go.Proofs.YtengohlmonphiaaGreatDoor
namespace Rows

/-- THE TIED CARD OF 'chiasmuslaw10.BuiltinStacks'. -/
def builtinStacksCard : Claim7 := { stood := { row := builtinStacksRow, standIns := [], harness := (true, "f7833a0925eed089b92947edd7dbb854d9e6693b86d1f0bd59176e6afa862583"), looks := true }, kinds := [], alts := [], laidByText := true, laidKinds := [.data, .data, .data, .data, .sentinel, .sentinel, .pinned], laidTests := true, laidLooks := .later }
def BuiltinStacksCardSaid : Prop := Claim7.holds Tryz.pinned (.plain (OpenSpec.ofChange builtinStacksSpec)) builtinStacksCard

/-- THE SECOND FORM's CARD OF 'chiasmuslaw10.BuiltinStacks'. -/
def builtinStacksUptoCard : Claim7 := { stood := { row := builtinStacksUptoRow, standIns := [], harness := (true, "f7833a0925eed089b92947edd7dbb854d9e6693b86d1f0bd59176e6afa862583"), looks := true }, kinds := [], alts := [], laidByText := true, laidKinds := [.data, .data, .data, .data, .sentinel, .sentinel, .pinned], laidTests := true, laidLooks := .later }
def BuiltinStacksUptoCardSaid : Prop := Claim7.holds Tryz.pinned (.plain (OpenSpec.upto builtinStacksSpec)) builtinStacksUptoCard
end Rows
end Go.Proofs.YtengohlmonphiaaGreatDoor
