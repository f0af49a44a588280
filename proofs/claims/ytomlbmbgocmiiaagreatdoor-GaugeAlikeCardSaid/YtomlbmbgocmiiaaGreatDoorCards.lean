/-
  DERIVED. GIVEN WITH THE SEED: THE CARDS: each row of YtomlbmbgocmiiaaGreatDoorRows.lean that lists a variable, with what it lists TIED to the program's text (the seventh form; the later family's looks); each row that meets fmt, with fmt's text TOLD by the authors' own Lean function (tested against real Go, not proved from fmt's source: count such statements apart). THE CARD IS WHAT COUNTS. Prove the row's statement (the work); the ties are given (YtomlbmbgocmiiaaGreatDoorTie.lean); close each card by the builder's one call (the guide's Derived/Test/ToyasCard.lean, 'card_holds'). Laid BY PROGRAM, IN A SANDBOX (cutbox-door.mjs). By AI agents, Wed Nov 11 2026. No macro, syntax, notation, axiom, sorry.
-/
import Derived.Test.YtomlbmbgocmiiaaGreatDoorRows
import GoSem.ClaimSeven
namespace Go.Proofs.YtomlbmbgocmiiaaGreatDoor
namespace Rows

/-- THE TIED CARD OF 'drumlinelaw20.PortRaw'. -/
def portRawCard : Claim7 := { stood := { row := portRawRow, standIns := [], harness := (true, "d8cfbc7b7c5709b633d6475a7654648ee0c35030d99d3a113a8dce7b9bc01bf2"), looks := true }, kinds := [], alts := [], laidByText := true, laidKinds := [.handle], laidTests := true, laidLooks := .later }
def PortRawCardSaid : Prop := Claim7.holds Tryz.pinned (.plain (OpenSpec.ofChange portRawSpec)) portRawCard

/-- THE TIED CARD OF 'drumlinelaw20.PortTells'. -/
def portTellsCard : Claim7 := { stood := { row := portTellsRow, standIns := [], harness := (true, "d8cfbc7b7c5709b633d6475a7654648ee0c35030d99d3a113a8dce7b9bc01bf2"), looks := true }, kinds := [], alts := [], laidByText := true, laidKinds := [.handle], laidTests := true, laidLooks := .later }
def PortTellsCardSaid : Prop := Claim7.holds Tryz.pinned (.plain (OpenSpec.ofChange portTellsSpec)) portTellsCard

/-- THE TIED CARD OF 'drumlinelaw20.PortSides'. -/
def portSidesCard : Claim7 := { stood := { row := portSidesRow, standIns := [], harness := (true, "d8cfbc7b7c5709b633d6475a7654648ee0c35030d99d3a113a8dce7b9bc01bf2"), looks := true }, kinds := [], alts := [], laidByText := true, laidKinds := [.handle], laidTests := true, laidLooks := .later }
def PortSidesCardSaid : Prop := Claim7.holds Tryz.pinned (.plain (OpenSpec.ofChange portSidesSpec)) portSidesCard

/-- THE TIED CARD OF 'drumlinelaw29.CalmTells'. -/
def calmTellsCard : Claim7 := { stood := { row := calmTellsRow, standIns := [], harness := (true, "d8cfbc7b7c5709b633d6475a7654648ee0c35030d99d3a113a8dce7b9bc01bf2"), looks := true }, kinds := [], alts := [], laidByText := true, laidKinds := [.handle, .sentinel], laidTests := true, laidLooks := .later }
def CalmTellsCardSaid : Prop := Claim7.holds Tryz.pinned (.plain (OpenSpec.ofChange calmTellsSpec)) calmTellsCard

/-- THE TIED CARD OF 'drumlinelaw29.CalmMade'. -/
def calmMadeCard : Claim7 := { stood := { row := calmMadeRow, standIns := [], harness := (true, "d8cfbc7b7c5709b633d6475a7654648ee0c35030d99d3a113a8dce7b9bc01bf2"), looks := true }, kinds := [], alts := [], laidByText := true, laidKinds := [.handle, .sentinel], laidTests := true, laidLooks := .later }
def CalmMadeCardSaid : Prop := Claim7.holds Tryz.pinned (.plain (OpenSpec.ofChange calmMadeSpec)) calmMadeCard

/-- THE TIED CARD OF 'drumlinelaw29.CalmOrder'. -/
def calmOrderCard : Claim7 := { stood := { row := calmOrderRow, standIns := [], harness := (true, "d8cfbc7b7c5709b633d6475a7654648ee0c35030d99d3a113a8dce7b9bc01bf2"), looks := true }, kinds := [], alts := [], laidByText := true, laidKinds := [.handle, .sentinel], laidTests := true, laidLooks := .later }
def CalmOrderCardSaid : Prop := Claim7.holds Tryz.pinned (.plain (OpenSpec.ofChange calmOrderSpec)) calmOrderCard

/-- THE TIED CARD OF 'drumlinelaw12.GaugeBegins'. -/
def gaugeBeginsCard : Claim7 := { stood := { row := gaugeBeginsRow, standIns := [], harness := (true, "d8cfbc7b7c5709b633d6475a7654648ee0c35030d99d3a113a8dce7b9bc01bf2"), looks := true }, kinds := [], alts := [], laidByText := true, laidKinds := [.handle, .sentinel], laidTests := true, laidLooks := .later }
def GaugeBeginsCardSaid : Prop := Claim7.holds Tryz.pinned (.plain (OpenSpec.ofChange gaugeBeginsSpec)) gaugeBeginsCard

/-- THE TIED CARD OF 'drumlinelaw12.GaugeAlike'. -/
def gaugeAlikeCard : Claim7 := { stood := { row := gaugeAlikeRow, standIns := [], harness := (true, "d8cfbc7b7c5709b633d6475a7654648ee0c35030d99d3a113a8dce7b9bc01bf2"), looks := true }, kinds := [], alts := [], laidByText := true, laidKinds := [.handle, .sentinel], laidTests := true, laidLooks := .later }
def GaugeAlikeCardSaid : Prop := Claim7.holds Tryz.pinned (.plain (OpenSpec.ofChange gaugeAlikeSpec)) gaugeAlikeCard

/-- THE SECOND FORM's CARD OF 'drumlinelaw20.PortRaw'. -/
def portRawUptoCard : Claim7 := { stood := { row := portRawUptoRow, standIns := [], harness := (true, "d8cfbc7b7c5709b633d6475a7654648ee0c35030d99d3a113a8dce7b9bc01bf2"), looks := true }, kinds := [], alts := [], laidByText := true, laidKinds := [.handle], laidTests := true, laidLooks := .later }
def PortRawUptoCardSaid : Prop := Claim7.holds Tryz.pinned (.plain (OpenSpec.upto portRawSpec)) portRawUptoCard

/-- THE SECOND FORM's CARD OF 'drumlinelaw20.PortTells'. -/
def portTellsUptoCard : Claim7 := { stood := { row := portTellsUptoRow, standIns := [], harness := (true, "d8cfbc7b7c5709b633d6475a7654648ee0c35030d99d3a113a8dce7b9bc01bf2"), looks := true }, kinds := [], alts := [], laidByText := true, laidKinds := [.handle], laidTests := true, laidLooks := .later }
def PortTellsUptoCardSaid : Prop := Claim7.holds Tryz.pinned (.plain (OpenSpec.upto portTellsSpec)) portTellsUptoCard

/-- THE SECOND FORM's CARD OF 'drumlinelaw20.PortSides'. -/
def portSidesUptoCard : Claim7 := { stood := { row := portSidesUptoRow, standIns := [], harness := (true, "d8cfbc7b7c5709b633d6475a7654648ee0c35030d99d3a113a8dce7b9bc01bf2"), looks := true }, kinds := [], alts := [], laidByText := true, laidKinds := [.handle], laidTests := true, laidLooks := .later }
def PortSidesUptoCardSaid : Prop := Claim7.holds Tryz.pinned (.plain (OpenSpec.upto portSidesSpec)) portSidesUptoCard

/-- THE SECOND FORM's CARD OF 'drumlinelaw29.CalmTells'. -/
def calmTellsUptoCard : Claim7 := { stood := { row := calmTellsUptoRow, standIns := [], harness := (true, "d8cfbc7b7c5709b633d6475a7654648ee0c35030d99d3a113a8dce7b9bc01bf2"), looks := true }, kinds := [], alts := [], laidByText := true, laidKinds := [.handle, .sentinel], laidTests := true, laidLooks := .later }
def CalmTellsUptoCardSaid : Prop := Claim7.holds Tryz.pinned (.plain (OpenSpec.upto calmTellsSpec)) calmTellsUptoCard

/-- THE SECOND FORM's CARD OF 'drumlinelaw29.CalmMade'. -/
def calmMadeUptoCard : Claim7 := { stood := { row := calmMadeUptoRow, standIns := [], harness := (true, "d8cfbc7b7c5709b633d6475a7654648ee0c35030d99d3a113a8dce7b9bc01bf2"), looks := true }, kinds := [], alts := [], laidByText := true, laidKinds := [.handle, .sentinel], laidTests := true, laidLooks := .later }
def CalmMadeUptoCardSaid : Prop := Claim7.holds Tryz.pinned (.plain (OpenSpec.upto calmMadeSpec)) calmMadeUptoCard

/-- THE SECOND FORM's CARD OF 'drumlinelaw29.CalmOrder'. -/
def calmOrderUptoCard : Claim7 := { stood := { row := calmOrderUptoRow, standIns := [], harness := (true, "d8cfbc7b7c5709b633d6475a7654648ee0c35030d99d3a113a8dce7b9bc01bf2"), looks := true }, kinds := [], alts := [], laidByText := true, laidKinds := [.handle, .sentinel], laidTests := true, laidLooks := .later }
def CalmOrderUptoCardSaid : Prop := Claim7.holds Tryz.pinned (.plain (OpenSpec.upto calmOrderSpec)) calmOrderUptoCard

/-- THE SECOND FORM's CARD OF 'drumlinelaw12.GaugeBegins'. -/
def gaugeBeginsUptoCard : Claim7 := { stood := { row := gaugeBeginsUptoRow, standIns := [], harness := (true, "d8cfbc7b7c5709b633d6475a7654648ee0c35030d99d3a113a8dce7b9bc01bf2"), looks := true }, kinds := [], alts := [], laidByText := true, laidKinds := [.handle, .sentinel], laidTests := true, laidLooks := .later }
def GaugeBeginsUptoCardSaid : Prop := Claim7.holds Tryz.pinned (.plain (OpenSpec.upto gaugeBeginsSpec)) gaugeBeginsUptoCard

/-- THE SECOND FORM's CARD OF 'drumlinelaw12.GaugeAlike'. -/
def gaugeAlikeUptoCard : Claim7 := { stood := { row := gaugeAlikeUptoRow, standIns := [], harness := (true, "d8cfbc7b7c5709b633d6475a7654648ee0c35030d99d3a113a8dce7b9bc01bf2"), looks := true }, kinds := [], alts := [], laidByText := true, laidKinds := [.handle, .sentinel], laidTests := true, laidLooks := .later }
def GaugeAlikeUptoCardSaid : Prop := Claim7.holds Tryz.pinned (.plain (OpenSpec.upto gaugeAlikeSpec)) gaugeAlikeUptoCard
end Rows
end Go.Proofs.YtomlbmbgocmiiaaGreatDoor
