/-
  DERIVED. GIVEN WITH THE SEED: THE CARDS: each row of YtbdliphlolajaaaGreatDoorRows.lean that lists a variable, with what it lists TIED to the program's text (the seventh form; the later family's looks); each row that meets fmt, with fmt's text TOLD by the authors' own Lean function (tested against real Go, not proved from fmt's source: count such statements apart). THE CARD IS WHAT COUNTS. Prove the row's statement (the work); the ties are given (YtbdliphlolajaaaGreatDoorTie.lean); close each card by the builder's one call (the guide's Derived/Test/ToyasCard.lean, 'card_holds'). Laid BY PROGRAM, IN A SANDBOX (cutbox-door.mjs). By AI agents, Wed Nov 11 2026. No macro, syntax, notation, axiom, sorry.
-/
import Derived.Test.YtbdliphlolajaaaGreatDoorRows
import GoSem.ClaimSeven
namespace Go.Proofs.YtbdliphlolajaaaGreatDoor
namespace Rows

/-- THE TIED CARD OF 'drumlinelaw7.BoundsFits'. -/
def boundsFitsCard : Claim7 := { stood := { row := boundsFitsRow, standIns := [], harness := (true, "c8d2b36a50f6438e98565a90b5fe643d7f87196fd8dbc5ccf13b07a28de80845"), looks := true }, kinds := [], alts := [], laidByText := true, laidKinds := [.handle, .sentinel], laidTests := true, laidLooks := .later }
def BoundsFitsCardSaid : Prop := Claim7.holds Tryz.pinned (.plain (OpenSpec.ofChange boundsFitsSpec)) boundsFitsCard

/-- THE TIED CARD OF 'drumlinelaw7.BoundsEdge'. -/
def boundsEdgeCard : Claim7 := { stood := { row := boundsEdgeRow, standIns := [], harness := (true, "c8d2b36a50f6438e98565a90b5fe643d7f87196fd8dbc5ccf13b07a28de80845"), looks := true }, kinds := [], alts := [], laidByText := true, laidKinds := [.handle, .sentinel], laidTests := true, laidLooks := .later }
def BoundsEdgeCardSaid : Prop := Claim7.holds Tryz.pinned (.plain (OpenSpec.ofChange boundsEdgeSpec)) boundsEdgeCard

/-- THE TIED CARD OF 'drumlinelaw7.BoundsGrow'. -/
def boundsGrowCard : Claim7 := { stood := { row := boundsGrowRow, standIns := [], harness := (true, "c8d2b36a50f6438e98565a90b5fe643d7f87196fd8dbc5ccf13b07a28de80845"), looks := true }, kinds := [], alts := [], laidByText := true, laidKinds := [.handle, .sentinel], laidTests := true, laidLooks := .later }
def BoundsGrowCardSaid : Prop := Claim7.holds Tryz.pinned (.plain (OpenSpec.ofChange boundsGrowSpec)) boundsGrowCard

/-- THE TIED CARD OF 'drumlinelaw7.BoundsFirst'. -/
def boundsFirstCard : Claim7 := { stood := { row := boundsFirstRow, standIns := [], harness := (true, "c8d2b36a50f6438e98565a90b5fe643d7f87196fd8dbc5ccf13b07a28de80845"), looks := true }, kinds := [], alts := [], laidByText := true, laidKinds := [.handle, .sentinel], laidTests := true, laidLooks := .later }
def BoundsFirstCardSaid : Prop := Claim7.holds Tryz.pinned (.plain (OpenSpec.ofChange boundsFirstSpec)) boundsFirstCard

/-- THE TIED CARD OF 'drumlinelaw7.BoundsSet'. -/
def boundsSetCard : Claim7 := { stood := { row := boundsSetRow, standIns := [], harness := (true, "c8d2b36a50f6438e98565a90b5fe643d7f87196fd8dbc5ccf13b07a28de80845"), looks := true }, kinds := [], alts := [], laidByText := true, laidKinds := [.handle, .sentinel], laidTests := true, laidLooks := .later }
def BoundsSetCardSaid : Prop := Claim7.holds Tryz.pinned (.plain (OpenSpec.ofChange boundsSetSpec)) boundsSetCard

/-- THE TIED CARD OF 'drumlinelaw7.BoundsTells'. -/
def boundsTellsCard : Claim7 := { stood := { row := boundsTellsRow, standIns := [], harness := (true, "c8d2b36a50f6438e98565a90b5fe643d7f87196fd8dbc5ccf13b07a28de80845"), looks := true }, kinds := [], alts := [], laidByText := true, laidKinds := [.handle, .sentinel], laidTests := true, laidLooks := .later }
def BoundsTellsCardSaid : Prop := Claim7.holds Tryz.pinned (.plain (OpenSpec.ofChange boundsTellsSpec)) boundsTellsCard

/-- THE SECOND FORM's CARD OF 'drumlinelaw7.BoundsFits'. -/
def boundsFitsUptoCard : Claim7 := { stood := { row := boundsFitsUptoRow, standIns := [], harness := (true, "c8d2b36a50f6438e98565a90b5fe643d7f87196fd8dbc5ccf13b07a28de80845"), looks := true }, kinds := [], alts := [], laidByText := true, laidKinds := [.handle, .sentinel], laidTests := true, laidLooks := .later }
def BoundsFitsUptoCardSaid : Prop := Claim7.holds Tryz.pinned (.plain (OpenSpec.upto boundsFitsSpec)) boundsFitsUptoCard

/-- THE SECOND FORM's CARD OF 'drumlinelaw7.BoundsEdge'. -/
def boundsEdgeUptoCard : Claim7 := { stood := { row := boundsEdgeUptoRow, standIns := [], harness := (true, "c8d2b36a50f6438e98565a90b5fe643d7f87196fd8dbc5ccf13b07a28de80845"), looks := true }, kinds := [], alts := [], laidByText := true, laidKinds := [.handle, .sentinel], laidTests := true, laidLooks := .later }
def BoundsEdgeUptoCardSaid : Prop := Claim7.holds Tryz.pinned (.plain (OpenSpec.upto boundsEdgeSpec)) boundsEdgeUptoCard

/-- THE SECOND FORM's CARD OF 'drumlinelaw7.BoundsGrow'. -/
def boundsGrowUptoCard : Claim7 := { stood := { row := boundsGrowUptoRow, standIns := [], harness := (true, "c8d2b36a50f6438e98565a90b5fe643d7f87196fd8dbc5ccf13b07a28de80845"), looks := true }, kinds := [], alts := [], laidByText := true, laidKinds := [.handle, .sentinel], laidTests := true, laidLooks := .later }
def BoundsGrowUptoCardSaid : Prop := Claim7.holds Tryz.pinned (.plain (OpenSpec.upto boundsGrowSpec)) boundsGrowUptoCard

/-- THE SECOND FORM's CARD OF 'drumlinelaw7.BoundsFirst'. -/
def boundsFirstUptoCard : Claim7 := { stood := { row := boundsFirstUptoRow, standIns := [], harness := (true, "c8d2b36a50f6438e98565a90b5fe643d7f87196fd8dbc5ccf13b07a28de80845"), looks := true }, kinds := [], alts := [], laidByText := true, laidKinds := [.handle, .sentinel], laidTests := true, laidLooks := .later }
def BoundsFirstUptoCardSaid : Prop := Claim7.holds Tryz.pinned (.plain (OpenSpec.upto boundsFirstSpec)) boundsFirstUptoCard

/-- THE SECOND FORM's CARD OF 'drumlinelaw7.BoundsSet'. -/
def boundsSetUptoCard : Claim7 := { stood := { row := boundsSetUptoRow, standIns := [], harness := (true, "c8d2b36a50f6438e98565a90b5fe643d7f87196fd8dbc5ccf13b07a28de80845"), looks := true }, kinds := [], alts := [], laidByText := true, laidKinds := [.handle, .sentinel], laidTests := true, laidLooks := .later }
def BoundsSetUptoCardSaid : Prop := Claim7.holds Tryz.pinned (.plain (OpenSpec.upto boundsSetSpec)) boundsSetUptoCard

/-- THE SECOND FORM's CARD OF 'drumlinelaw7.BoundsTells'. -/
def boundsTellsUptoCard : Claim7 := { stood := { row := boundsTellsUptoRow, standIns := [], harness := (true, "c8d2b36a50f6438e98565a90b5fe643d7f87196fd8dbc5ccf13b07a28de80845"), looks := true }, kinds := [], alts := [], laidByText := true, laidKinds := [.handle, .sentinel], laidTests := true, laidLooks := .later }
def BoundsTellsUptoCardSaid : Prop := Claim7.holds Tryz.pinned (.plain (OpenSpec.upto boundsTellsSpec)) boundsTellsUptoCard
end Rows
end Go.Proofs.YtbdliphlolajaaaGreatDoor
