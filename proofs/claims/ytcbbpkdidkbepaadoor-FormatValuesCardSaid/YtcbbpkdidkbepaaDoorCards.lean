/-
  DERIVED. GIVEN WITH THE SEED: THE CARDS: each row of YtcbbpkdidkbepaaDoorRows.lean that lists a variable, with what it lists TIED to the program's text (the seventh form; the later family's looks); each row that meets fmt, with fmt's text TOLD by the authors' own Lean function (tested against real Go, not proved from fmt's source: count such statements apart). THE CARD IS WHAT COUNTS. Prove the row's statement (the work); the ties are given (YtcbbpkdidkbepaaDoorTie.lean); close each card by the builder's one call (the guide's Derived/Test/ToyasCard.lean, 'card_holds'). Laid BY PROGRAM, IN A SANDBOX (cutbox-door.mjs). By AI agents, Wed Nov 11 2026. No macro, syntax, notation, axiom, sorry.
-/
import Derived.Test.YtcbbpkdidkbepaaDoorRows
import GoSem.ClaimSeven
namespace Go.Proofs.YtcbbpkdidkbepaaDoor
namespace Rows

/-- THE TIED CARD OF 'chiasmuslaw22.FormatOrder'. -/
def formatOrderCard : Claim7 := { stood := { row := formatOrderRow, standIns := [], harness := (true, "cd966aee93271f6956aea510dbc8270b7c3e9d87197ccc114c3cdc8e8aebb54d"), looks := false }, kinds := [], alts := [], laidByText := true, laidKinds := [.data, .data, .data], laidTests := true, laidLooks := .later }
def FormatOrderCardSaid : Prop := Claim7.holds Tryd.pinned (.plain (OpenSpec.ofChange formatOrderSpec)) formatOrderCard

/-- THE TIED CARD OF 'chiasmuslaw22.FormatValues'. -/
def formatValuesCard : Claim7 := { stood := { row := formatValuesRow, standIns := [], harness := (true, "cd966aee93271f6956aea510dbc8270b7c3e9d87197ccc114c3cdc8e8aebb54d"), looks := false }, kinds := [], alts := [], laidByText := true, laidKinds := [.data, .data, .data], laidTests := true, laidLooks := .later }
def FormatValuesCardSaid : Prop := Claim7.holds Tryd.pinned (.plain (OpenSpec.ofChange formatValuesSpec)) formatValuesCard

/-- THE SECOND FORM's CARD OF 'chiasmuslaw22.FormatOrder'. -/
def formatOrderUptoCard : Claim7 := { stood := { row := formatOrderUptoRow, standIns := [], harness := (true, "cd966aee93271f6956aea510dbc8270b7c3e9d87197ccc114c3cdc8e8aebb54d"), looks := false }, kinds := [], alts := [], laidByText := true, laidKinds := [.data, .data, .data], laidTests := true, laidLooks := .later }
def FormatOrderUptoCardSaid : Prop := Claim7.holds Tryd.pinned (.plain (OpenSpec.upto formatOrderSpec)) formatOrderUptoCard

/-- THE SECOND FORM's CARD OF 'chiasmuslaw22.FormatValues'. -/
def formatValuesUptoCard : Claim7 := { stood := { row := formatValuesUptoRow, standIns := [], harness := (true, "cd966aee93271f6956aea510dbc8270b7c3e9d87197ccc114c3cdc8e8aebb54d"), looks := false }, kinds := [], alts := [], laidByText := true, laidKinds := [.data, .data, .data], laidTests := true, laidLooks := .later }
def FormatValuesUptoCardSaid : Prop := Claim7.holds Tryd.pinned (.plain (OpenSpec.upto formatValuesSpec)) formatValuesUptoCard
end Rows
end Go.Proofs.YtcbbpkdidkbepaaDoor
