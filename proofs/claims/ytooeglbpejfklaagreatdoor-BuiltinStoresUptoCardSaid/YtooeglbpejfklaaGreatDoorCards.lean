/-
  DERIVED. GIVEN WITH THE SEED: THE CARDS: each row of YtooeglbpejfklaaGreatDoorRows.lean that lists a variable, with what it lists TIED to the program's text (the seventh form; the later family's looks); each row that meets fmt, with fmt's text TOLD by the authors' own Lean function (tested against real Go, not proved from fmt's source: count such statements apart). THE CARD IS WHAT COUNTS. Prove the row's statement (the work); the ties are given (YtooeglbpejfklaaGreatDoorTie.lean); close each card by the builder's one call (the guide's Derived/Test/ToyasCard.lean, 'card_holds'). Laid BY PROGRAM, IN A SANDBOX (cutbox-door.mjs). By AI agents, Wed Nov 11 2026. No macro, syntax, notation, axiom, sorry.
-/
import Derived.Test.YtooeglbpejfklaaGreatDoorRows
import GoSem.ClaimSeven
namespace Go.Proofs.YtooeglbpejfklaaGreatDoor
namespace Rows

/-- THE TIED CARD OF 'chiasmuslaw10.BuiltinBack'. -/
def builtinBackCard : Claim7 := { stood := { row := builtinBackRow, standIns := [], harness := (true, "4082f46c56015d0ee9ed8fe911cb9669613a633c8e940fde98892e9a1fdb4038"), looks := true }, kinds := [], alts := [], laidByText := true, laidKinds := [.data, .data, .data, .data, .sentinel, .sentinel, .pinned], laidTests := true, laidLooks := .later }
def BuiltinBackCardSaid : Prop := Claim7.holds Tryz.pinned (.plain (OpenSpec.ofChange builtinBackSpec)) builtinBackCard

/-- THE TIED CARD OF 'chiasmuslaw10.BuiltinAll'. -/
def builtinAllCard : Claim7 := { stood := { row := builtinAllRow, standIns := [], harness := (true, "4082f46c56015d0ee9ed8fe911cb9669613a633c8e940fde98892e9a1fdb4038"), looks := true }, kinds := [], alts := [], laidByText := true, laidKinds := [.data, .data, .data, .data, .sentinel, .sentinel, .pinned], laidTests := true, laidLooks := .later }
def BuiltinAllCardSaid : Prop := Claim7.holds Tryz.pinned (.plain (OpenSpec.ofChange builtinAllSpec)) builtinAllCard

/-- THE TIED CARD OF 'chiasmuslaw10.BuiltinValues'. -/
def builtinValuesCard : Claim7 := { stood := { row := builtinValuesRow, standIns := [], harness := (true, "4082f46c56015d0ee9ed8fe911cb9669613a633c8e940fde98892e9a1fdb4038"), looks := true }, kinds := [], alts := [], laidByText := true, laidKinds := [.data, .data, .data, .data, .sentinel, .sentinel, .pinned], laidTests := true, laidLooks := .later }
def BuiltinValuesCardSaid : Prop := Claim7.holds Tryz.pinned (.plain (OpenSpec.ofChange builtinValuesSpec)) builtinValuesCard

/-- THE TIED CARD OF 'chiasmuslaw10.BuiltinStores'. -/
def builtinStoresCard : Claim7 := { stood := { row := builtinStoresRow, standIns := [], harness := (true, "4082f46c56015d0ee9ed8fe911cb9669613a633c8e940fde98892e9a1fdb4038"), looks := true }, kinds := [], alts := [], laidByText := true, laidKinds := [.data, .data, .data, .data, .sentinel, .sentinel, .pinned], laidTests := true, laidLooks := .later }
def BuiltinStoresCardSaid : Prop := Claim7.holds Tryz.pinned (.plain (OpenSpec.ofChange builtinStoresSpec)) builtinStoresCard

/-- THE TIED CARD OF 'chiasmuslaw10.BuiltinStacks'. -/
def builtinStacksCard : Claim7 := { stood := { row := builtinStacksRow, standIns := [], harness := (true, "4082f46c56015d0ee9ed8fe911cb9669613a633c8e940fde98892e9a1fdb4038"), looks := true }, kinds := [], alts := [], laidByText := true, laidKinds := [.data, .data, .data, .data, .sentinel, .sentinel, .pinned], laidTests := true, laidLooks := .later }
def BuiltinStacksCardSaid : Prop := Claim7.holds Tryz.pinned (.plain (OpenSpec.ofChange builtinStacksSpec)) builtinStacksCard

/-- THE TIED CARD OF 'chiasmuslaw10.BuiltinApplies'. -/
def builtinAppliesCard : Claim7 := { stood := { row := builtinAppliesRow, standIns := [], harness := (true, "4082f46c56015d0ee9ed8fe911cb9669613a633c8e940fde98892e9a1fdb4038"), looks := true }, kinds := [], alts := [], laidByText := true, laidKinds := [.data, .data, .data, .data, .sentinel, .sentinel, .pinned], laidTests := true, laidLooks := .later }
def BuiltinAppliesCardSaid : Prop := Claim7.holds Tryz.pinned (.plain (OpenSpec.ofChange builtinAppliesSpec)) builtinAppliesCard

/-- THE SECOND FORM's CARD OF 'chiasmuslaw10.BuiltinBack'. -/
def builtinBackUptoCard : Claim7 := { stood := { row := builtinBackUptoRow, standIns := [], harness := (true, "4082f46c56015d0ee9ed8fe911cb9669613a633c8e940fde98892e9a1fdb4038"), looks := true }, kinds := [], alts := [], laidByText := true, laidKinds := [.data, .data, .data, .data, .sentinel, .sentinel, .pinned], laidTests := true, laidLooks := .later }
def BuiltinBackUptoCardSaid : Prop := Claim7.holds Tryz.pinned (.plain (OpenSpec.upto builtinBackSpec)) builtinBackUptoCard

/-- THE SECOND FORM's CARD OF 'chiasmuslaw10.BuiltinAll'. -/
def builtinAllUptoCard : Claim7 := { stood := { row := builtinAllUptoRow, standIns := [], harness := (true, "4082f46c56015d0ee9ed8fe911cb9669613a633c8e940fde98892e9a1fdb4038"), looks := true }, kinds := [], alts := [], laidByText := true, laidKinds := [.data, .data, .data, .data, .sentinel, .sentinel, .pinned], laidTests := true, laidLooks := .later }
def BuiltinAllUptoCardSaid : Prop := Claim7.holds Tryz.pinned (.plain (OpenSpec.upto builtinAllSpec)) builtinAllUptoCard

/-- THE SECOND FORM's CARD OF 'chiasmuslaw10.BuiltinValues'. -/
def builtinValuesUptoCard : Claim7 := { stood := { row := builtinValuesUptoRow, standIns := [], harness := (true, "4082f46c56015d0ee9ed8fe911cb9669613a633c8e940fde98892e9a1fdb4038"), looks := true }, kinds := [], alts := [], laidByText := true, laidKinds := [.data, .data, .data, .data, .sentinel, .sentinel, .pinned], laidTests := true, laidLooks := .later }
def BuiltinValuesUptoCardSaid : Prop := Claim7.holds Tryz.pinned (.plain (OpenSpec.upto builtinValuesSpec)) builtinValuesUptoCard

/-- THE SECOND FORM's CARD OF 'chiasmuslaw10.BuiltinStores'. -/
def builtinStoresUptoCard : Claim7 := { stood := { row := builtinStoresUptoRow, standIns := [], harness := (true, "4082f46c56015d0ee9ed8fe911cb9669613a633c8e940fde98892e9a1fdb4038"), looks := true }, kinds := [], alts := [], laidByText := true, laidKinds := [.data, .data, .data, .data, .sentinel, .sentinel, .pinned], laidTests := true, laidLooks := .later }
def BuiltinStoresUptoCardSaid : Prop := Claim7.holds Tryz.pinned (.plain (OpenSpec.upto builtinStoresSpec)) builtinStoresUptoCard

/-- THE SECOND FORM's CARD OF 'chiasmuslaw10.BuiltinStacks'. -/
def builtinStacksUptoCard : Claim7 := { stood := { row := builtinStacksUptoRow, standIns := [], harness := (true, "4082f46c56015d0ee9ed8fe911cb9669613a633c8e940fde98892e9a1fdb4038"), looks := true }, kinds := [], alts := [], laidByText := true, laidKinds := [.data, .data, .data, .data, .sentinel, .sentinel, .pinned], laidTests := true, laidLooks := .later }
def BuiltinStacksUptoCardSaid : Prop := Claim7.holds Tryz.pinned (.plain (OpenSpec.upto builtinStacksSpec)) builtinStacksUptoCard

/-- THE SECOND FORM's CARD OF 'chiasmuslaw10.BuiltinApplies'. -/
def builtinAppliesUptoCard : Claim7 := { stood := { row := builtinAppliesUptoRow, standIns := [], harness := (true, "4082f46c56015d0ee9ed8fe911cb9669613a633c8e940fde98892e9a1fdb4038"), looks := true }, kinds := [], alts := [], laidByText := true, laidKinds := [.data, .data, .data, .data, .sentinel, .sentinel, .pinned], laidTests := true, laidLooks := .later }
def BuiltinAppliesUptoCardSaid : Prop := Claim7.holds Tryz.pinned (.plain (OpenSpec.upto builtinAppliesSpec)) builtinAppliesUptoCard
end Rows
end Go.Proofs.YtooeglbpejfklaaGreatDoor
