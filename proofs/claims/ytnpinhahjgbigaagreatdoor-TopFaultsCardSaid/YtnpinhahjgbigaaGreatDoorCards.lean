/-
  DERIVED. GIVEN WITH THE SEED: THE CARDS: each row of YtnpinhahjgbigaaGreatDoorRows.lean that lists a variable, with what it lists TIED to the program's text (the seventh form; the later family's looks); each row that meets fmt, with fmt's text TOLD by the authors' own Lean function (tested against real Go, not proved from fmt's source: count such statements apart). THE CARD IS WHAT COUNTS. Prove the row's statement (the work); the ties are given (YtnpinhahjgbigaaGreatDoorTie.lean); close each card by the builder's one call (the guide's Derived/Test/ToyasCard.lean, 'card_holds'). Laid BY PROGRAM, IN A SANDBOX (cutbox-door.mjs). By AI agents, Wed Nov 11 2026. No macro, syntax, notation, axiom, sorry.
-/
import Derived.Test.YtnpinhahjgbigaaGreatDoorRows
import GoSem.ClaimSeven
namespace Go.Proofs.YtnpinhahjgbigaaGreatDoor
namespace Rows

/-- THE TIED CARD OF 'signalboxtop.TopDisplaces'. -/
def topDisplacesCard : Claim7 := { stood := { row := topDisplacesRow, standIns := [], harness := (true, "e4651802266c784e683c1bd3baedf3b3b6885d903a2d8fde6728799df263661a"), looks := true }, kinds := [], alts := [], laidByText := true, laidKinds := [.data, .data, .data, .data, .sentinel, .sentinel, .pinned], laidTests := true, laidLooks := .later }
def TopDisplacesCardSaid : Prop := Claim7.holds Tryz.pinned (.plain (OpenSpec.ofChange topDisplacesSpec)) topDisplacesCard

/-- THE TIED CARD OF 'signalboxtop.TopTime'. -/
def topTimeCard : Claim7 := { stood := { row := topTimeRow, standIns := [], harness := (true, "e4651802266c784e683c1bd3baedf3b3b6885d903a2d8fde6728799df263661a"), looks := true }, kinds := [], alts := [], laidByText := true, laidKinds := [.data, .data, .data, .data, .sentinel, .sentinel, .pinned], laidTests := true, laidLooks := .later }
def TopTimeCardSaid : Prop := Claim7.holds Tryz.pinned (.plain (OpenSpec.ofChange topTimeSpec)) topTimeCard

/-- THE TIED CARD OF 'signalboxtop.TopSeldom'. -/
def topSeldomCard : Claim7 := { stood := { row := topSeldomRow, standIns := [], harness := (true, "e4651802266c784e683c1bd3baedf3b3b6885d903a2d8fde6728799df263661a"), looks := true }, kinds := [], alts := [], laidByText := true, laidKinds := [.data, .data, .data, .data, .sentinel, .sentinel, .pinned], laidTests := true, laidLooks := .later }
def TopSeldomCardSaid : Prop := Claim7.holds Tryz.pinned (.plain (OpenSpec.ofChange topSeldomSpec)) topSeldomCard

/-- THE TIED CARD OF 'signalboxtop.TopFaults'. -/
def topFaultsCard : Claim7 := { stood := { row := topFaultsRow, standIns := [], harness := (true, "e4651802266c784e683c1bd3baedf3b3b6885d903a2d8fde6728799df263661a"), looks := true }, kinds := [], alts := [], laidByText := true, laidKinds := [.data, .data, .data, .data, .sentinel, .sentinel, .pinned], laidTests := true, laidLooks := .later }
def TopFaultsCardSaid : Prop := Claim7.holds Tryz.pinned (.plain (OpenSpec.ofChange topFaultsSpec)) topFaultsCard

/-- THE SECOND FORM's CARD OF 'signalboxtop.TopDisplaces'. -/
def topDisplacesUptoCard : Claim7 := { stood := { row := topDisplacesUptoRow, standIns := [], harness := (true, "e4651802266c784e683c1bd3baedf3b3b6885d903a2d8fde6728799df263661a"), looks := true }, kinds := [], alts := [], laidByText := true, laidKinds := [.data, .data, .data, .data, .sentinel, .sentinel, .pinned], laidTests := true, laidLooks := .later }
def TopDisplacesUptoCardSaid : Prop := Claim7.holds Tryz.pinned (.plain (OpenSpec.upto topDisplacesSpec)) topDisplacesUptoCard

/-- THE SECOND FORM's CARD OF 'signalboxtop.TopTime'. -/
def topTimeUptoCard : Claim7 := { stood := { row := topTimeUptoRow, standIns := [], harness := (true, "e4651802266c784e683c1bd3baedf3b3b6885d903a2d8fde6728799df263661a"), looks := true }, kinds := [], alts := [], laidByText := true, laidKinds := [.data, .data, .data, .data, .sentinel, .sentinel, .pinned], laidTests := true, laidLooks := .later }
def TopTimeUptoCardSaid : Prop := Claim7.holds Tryz.pinned (.plain (OpenSpec.upto topTimeSpec)) topTimeUptoCard

/-- THE SECOND FORM's CARD OF 'signalboxtop.TopSeldom'. -/
def topSeldomUptoCard : Claim7 := { stood := { row := topSeldomUptoRow, standIns := [], harness := (true, "e4651802266c784e683c1bd3baedf3b3b6885d903a2d8fde6728799df263661a"), looks := true }, kinds := [], alts := [], laidByText := true, laidKinds := [.data, .data, .data, .data, .sentinel, .sentinel, .pinned], laidTests := true, laidLooks := .later }
def TopSeldomUptoCardSaid : Prop := Claim7.holds Tryz.pinned (.plain (OpenSpec.upto topSeldomSpec)) topSeldomUptoCard

/-- THE SECOND FORM's CARD OF 'signalboxtop.TopFaults'. -/
def topFaultsUptoCard : Claim7 := { stood := { row := topFaultsUptoRow, standIns := [], harness := (true, "e4651802266c784e683c1bd3baedf3b3b6885d903a2d8fde6728799df263661a"), looks := true }, kinds := [], alts := [], laidByText := true, laidKinds := [.data, .data, .data, .data, .sentinel, .sentinel, .pinned], laidTests := true, laidLooks := .later }
def TopFaultsUptoCardSaid : Prop := Claim7.holds Tryz.pinned (.plain (OpenSpec.upto topFaultsSpec)) topFaultsUptoCard
end Rows
end Go.Proofs.YtnpinhahjgbigaaGreatDoor
