/-
  DERIVED. GIVEN WITH THE SEED: THE CARDS: each row of YtndlggjnfabdoaaGreatDoorRows.lean that lists a variable, with what it lists TIED to the program's text (the seventh form; the later family's looks); each row that meets fmt, with fmt's text TOLD by the authors' own Lean function (tested against real Go, not proved from fmt's source: count such statements apart). THE CARD IS WHAT COUNTS. Prove the row's statement (the work); the ties are given (YtndlggjnfabdoaaGreatDoorTie.lean); close each card by the builder's one call (the guide's Derived/Test/ToyasCard.lean, 'card_holds'). Laid BY PROGRAM, IN A SANDBOX (cutbox-door.mjs). By AI agents, Wed Nov 11 2026. No macro, syntax, notation, axiom, sorry.
-/
import Derived.Test.YtndlggjnfabdoaaGreatDoorRows
import GoSem.ClaimSeven
namespace Go.Proofs.YtndlggjnfabdoaaGreatDoor
namespace Rows

/-- THE TIED CARD OF 'chiasmuslaw10.BuiltinBack'. -/
def builtinBackCard : Claim7 := { stood := { row := builtinBackRow, standIns := [], harness := (true, "ce7ec426a24165efd9849dce09e3422c69a02e95963ceb120c93da2243481e54"), looks := true }, kinds := [], alts := [], laidByText := true, laidKinds := [.data, .data, .data, .data, .sentinel, .sentinel, .pinned], laidTests := true, laidLooks := .later }
def BuiltinBackCardSaid : Prop := Claim7.holds Tryz.pinned (.plain (OpenSpec.ofChange builtinBackSpec)) builtinBackCard

/-- THE SECOND FORM's CARD OF 'chiasmuslaw10.BuiltinBack'. -/
def builtinBackUptoCard : Claim7 := { stood := { row := builtinBackUptoRow, standIns := [], harness := (true, "ce7ec426a24165efd9849dce09e3422c69a02e95963ceb120c93da2243481e54"), looks := true }, kinds := [], alts := [], laidByText := true, laidKinds := [.data, .data, .data, .data, .sentinel, .sentinel, .pinned], laidTests := true, laidLooks := .later }
def BuiltinBackUptoCardSaid : Prop := Claim7.holds Tryz.pinned (.plain (OpenSpec.upto builtinBackSpec)) builtinBackUptoCard
end Rows
end Go.Proofs.YtndlggjnfabdoaaGreatDoor
