/-
  DERIVED. GIVEN WITH THE SEED: THE CARDS: each row of YtljjmdcdlcefmaaGreatDoorRows.lean that lists a variable, with what it lists TIED to the program's text (the seventh form; the later family's looks); each row that meets fmt, with fmt's text TOLD by the authors' own Lean function (tested against real Go, not proved from fmt's source: count such statements apart). THE CARD IS WHAT COUNTS. Prove the row's statement (the work); the ties are given (YtljjmdcdlcefmaaGreatDoorTie.lean); close each card by the builder's one call (the guide's Derived/Test/ToyasCard.lean, 'card_holds'). Laid BY PROGRAM, IN A SANDBOX (cutbox-door.mjs). By AI agents, Wed Nov 11 2026. No macro, syntax, notation, axiom, sorry.
-/
import Derived.Test.YtljjmdcdlcefmaaGreatDoorRows
import GoSem.ClaimSeven
namespace Go.Proofs.YtljjmdcdlcefmaaGreatDoor
namespace Rows

/-- THE TIED CARD OF 'drumlinelaw20.PortRaw'. -/
def portRawCard : Claim7 := { stood := { row := portRawRow, standIns := [], harness := (true, "1a61536658d3f87ae5ed2afb315bda3983f12684e719830a6764f4a5648019ef"), looks := true }, kinds := [], alts := [], laidByText := true, laidKinds := [.handle], laidTests := true, laidLooks := .later }
def PortRawCardSaid : Prop := Claim7.holds Tryz.pinned (.plain (OpenSpec.ofChange portRawSpec)) portRawCard

/-- THE TIED CARD OF 'drumlinelaw20.PortTells'. -/
def portTellsCard : Claim7 := { stood := { row := portTellsRow, standIns := [], harness := (true, "1a61536658d3f87ae5ed2afb315bda3983f12684e719830a6764f4a5648019ef"), looks := true }, kinds := [], alts := [], laidByText := true, laidKinds := [.handle], laidTests := true, laidLooks := .later }
def PortTellsCardSaid : Prop := Claim7.holds Tryz.pinned (.plain (OpenSpec.ofChange portTellsSpec)) portTellsCard

/-- THE TIED CARD OF 'drumlinelaw20.PortSides'. -/
def portSidesCard : Claim7 := { stood := { row := portSidesRow, standIns := [], harness := (true, "1a61536658d3f87ae5ed2afb315bda3983f12684e719830a6764f4a5648019ef"), looks := true }, kinds := [], alts := [], laidByText := true, laidKinds := [.handle], laidTests := true, laidLooks := .later }
def PortSidesCardSaid : Prop := Claim7.holds Tryz.pinned (.plain (OpenSpec.ofChange portSidesSpec)) portSidesCard

/-- THE SECOND FORM's CARD OF 'drumlinelaw20.PortRaw'. -/
def portRawUptoCard : Claim7 := { stood := { row := portRawUptoRow, standIns := [], harness := (true, "1a61536658d3f87ae5ed2afb315bda3983f12684e719830a6764f4a5648019ef"), looks := true }, kinds := [], alts := [], laidByText := true, laidKinds := [.handle], laidTests := true, laidLooks := .later }
def PortRawUptoCardSaid : Prop := Claim7.holds Tryz.pinned (.plain (OpenSpec.upto portRawSpec)) portRawUptoCard

/-- THE SECOND FORM's CARD OF 'drumlinelaw20.PortTells'. -/
def portTellsUptoCard : Claim7 := { stood := { row := portTellsUptoRow, standIns := [], harness := (true, "1a61536658d3f87ae5ed2afb315bda3983f12684e719830a6764f4a5648019ef"), looks := true }, kinds := [], alts := [], laidByText := true, laidKinds := [.handle], laidTests := true, laidLooks := .later }
def PortTellsUptoCardSaid : Prop := Claim7.holds Tryz.pinned (.plain (OpenSpec.upto portTellsSpec)) portTellsUptoCard

/-- THE SECOND FORM's CARD OF 'drumlinelaw20.PortSides'. -/
def portSidesUptoCard : Claim7 := { stood := { row := portSidesUptoRow, standIns := [], harness := (true, "1a61536658d3f87ae5ed2afb315bda3983f12684e719830a6764f4a5648019ef"), looks := true }, kinds := [], alts := [], laidByText := true, laidKinds := [.handle], laidTests := true, laidLooks := .later }
def PortSidesUptoCardSaid : Prop := Claim7.holds Tryz.pinned (.plain (OpenSpec.upto portSidesSpec)) portSidesUptoCard
end Rows
end Go.Proofs.YtljjmdcdlcefmaaGreatDoor
