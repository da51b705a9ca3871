/-
  DERIVED. GIVEN WITH THE SEED: THE CARDS: each row of YtimpaammdmeocaaDoorRows.lean that lists a variable, with what it lists TIED to the program's text (the seventh form; the later family's looks); each row that meets fmt, with fmt's text TOLD by the authors' own Lean function (tested against real Go, not proved from fmt's source: count such statements apart). THE CARD IS WHAT COUNTS. Prove the row's statement (the work); the ties are given (YtimpaammdmeocaaDoorTie.lean); close each card by the builder's one call (the guide's Derived/Test/ToyasCard.lean, 'card_holds'). Laid BY PROGRAM, IN A SANDBOX (cutbox-door.mjs). By AI agents, Wed Nov 11 2026. No macro, syntax, notation, axiom, sorry.
-/
import Derived.Test.YtimpaammdmeocaaDoorRows
import GoSem.ClaimSeven
namespace Go.Proofs.YtimpaammdmeocaaDoor
namespace Rows

/-- THE TIED CARD OF 'signalboxlaw39.WaitsStuck'. -/
def waitsStuckCard : Claim7 := { stood := { row := waitsStuckRow, standIns := [], harness := (true, "af097a2276e298d0589b9a6c0f33169a486e52febc610d8b006af792e8a1e238"), looks := false }, kinds := [], alts := [], laidByText := true, laidKinds := [.data], laidTests := true, laidLooks := .later }
def WaitsStuckCardSaid : Prop := Claim7.holds Tryd.pinned (.plain (OpenSpec.ofChange waitsStuckSpec)) waitsStuckCard

/-- THE TIED CARD OF 'signalboxlaw39.WaitsRing'. -/
def waitsRingCard : Claim7 := { stood := { row := waitsRingRow, standIns := [], harness := (true, "af097a2276e298d0589b9a6c0f33169a486e52febc610d8b006af792e8a1e238"), looks := false }, kinds := [], alts := [], laidByText := true, laidKinds := [.data], laidTests := true, laidLooks := .later }
def WaitsRingCardSaid : Prop := Claim7.holds Tryd.pinned (.plain (OpenSpec.ofChange waitsRingSpec)) waitsRingCard

/-- THE TIED CARD OF 'signalboxlaw39.WaitsReach'. -/
def waitsReachCard : Claim7 := { stood := { row := waitsReachRow, standIns := [], harness := (true, "af097a2276e298d0589b9a6c0f33169a486e52febc610d8b006af792e8a1e238"), looks := false }, kinds := [], alts := [], laidByText := true, laidKinds := [.data], laidTests := true, laidLooks := .later }
def WaitsReachCardSaid : Prop := Claim7.holds Tryd.pinned (.plain (OpenSpec.ofChange waitsReachSpec)) waitsReachCard

/-- THE SECOND FORM's CARD OF 'signalboxlaw39.WaitsStuck'. -/
def waitsStuckUptoCard : Claim7 := { stood := { row := waitsStuckUptoRow, standIns := [], harness := (true, "af097a2276e298d0589b9a6c0f33169a486e52febc610d8b006af792e8a1e238"), looks := false }, kinds := [], alts := [], laidByText := true, laidKinds := [.data], laidTests := true, laidLooks := .later }
def WaitsStuckUptoCardSaid : Prop := Claim7.holds Tryd.pinned (.plain (OpenSpec.upto waitsStuckSpec)) waitsStuckUptoCard

/-- THE SECOND FORM's CARD OF 'signalboxlaw39.WaitsRing'. -/
def waitsRingUptoCard : Claim7 := { stood := { row := waitsRingUptoRow, standIns := [], harness := (true, "af097a2276e298d0589b9a6c0f33169a486e52febc610d8b006af792e8a1e238"), looks := false }, kinds := [], alts := [], laidByText := true, laidKinds := [.data], laidTests := true, laidLooks := .later }
def WaitsRingUptoCardSaid : Prop := Claim7.holds Tryd.pinned (.plain (OpenSpec.upto waitsRingSpec)) waitsRingUptoCard

/-- THE SECOND FORM's CARD OF 'signalboxlaw39.WaitsReach'. -/
def waitsReachUptoCard : Claim7 := { stood := { row := waitsReachUptoRow, standIns := [], harness := (true, "af097a2276e298d0589b9a6c0f33169a486e52febc610d8b006af792e8a1e238"), looks := false }, kinds := [], alts := [], laidByText := true, laidKinds := [.data], laidTests := true, laidLooks := .later }
def WaitsReachUptoCardSaid : Prop := Claim7.holds Tryd.pinned (.plain (OpenSpec.upto waitsReachSpec)) waitsReachUptoCard
end Rows
end Go.Proofs.YtimpaammdmeocaaDoor
