/-
  DERIVED. GIVEN WITH THE SEED: THE CARDS: each row of YtfphjfbknphhjaaGreatDoorRows.lean that lists a variable, with what it lists TIED to the program's text (the seventh form; the later family's looks); each row that meets fmt, with fmt's text TOLD by the authors' own Lean function (tested against real Go, not proved from fmt's source: count such statements apart). THE CARD IS WHAT COUNTS. Prove the row's statement (the work); the ties are given (YtfphjfbknphhjaaGreatDoorTie.lean); close each card by the builder's one call (the guide's Derived/Test/ToyasCard.lean, 'card_holds'). Laid BY PROGRAM, IN A SANDBOX (cutbox-door.mjs). By AI agents, Wed Nov 11 2026. No macro, syntax, notation, axiom, sorry.
-/
import Derived.Test.YtfphjfbknphhjaaGreatDoorRows
import GoSem.ClaimSeven
namespace Go.Proofs.YtfphjfbknphhjaaGreatDoor
namespace Rows

/-- THE TIED CARD OF 'drumlinelaw24.PowerRaw'. -/
def powerRawCard : Claim7 := { stood := { row := powerRawRow, standIns := [], harness := (true, "93156667d279fc29f0b9f9200cc394342773177fe55545ed117b841a9e73ef3a"), looks := true }, kinds := [], alts := [], laidByText := true, laidKinds := [.handle, .sentinel], laidTests := true, laidLooks := .later }
def PowerRawCardSaid : Prop := Claim7.holds Tryz.pinned (.plain (OpenSpec.ofChange powerRawSpec)) powerRawCard

/-- THE TIED CARD OF 'drumlinelaw24.PowerDoes'. -/
def powerDoesCard : Claim7 := { stood := { row := powerDoesRow, standIns := [], harness := (true, "93156667d279fc29f0b9f9200cc394342773177fe55545ed117b841a9e73ef3a"), looks := true }, kinds := [], alts := [], laidByText := true, laidKinds := [.handle, .sentinel], laidTests := true, laidLooks := .later }
def PowerDoesCardSaid : Prop := Claim7.holds Tryz.pinned (.plain (OpenSpec.ofChange powerDoesSpec)) powerDoesCard

/-- THE TIED CARD OF 'drumlinelaw24.PowerAgain'. -/
def powerAgainCard : Claim7 := { stood := { row := powerAgainRow, standIns := [], harness := (true, "93156667d279fc29f0b9f9200cc394342773177fe55545ed117b841a9e73ef3a"), looks := true }, kinds := [], alts := [], laidByText := true, laidKinds := [.handle, .sentinel], laidTests := true, laidLooks := .later }
def PowerAgainCardSaid : Prop := Claim7.holds Tryz.pinned (.plain (OpenSpec.ofChange powerAgainSpec)) powerAgainCard

/-- THE TIED CARD OF 'drumlinelaw24.PowerApart'. -/
def powerApartCard : Claim7 := { stood := { row := powerApartRow, standIns := [], harness := (true, "93156667d279fc29f0b9f9200cc394342773177fe55545ed117b841a9e73ef3a"), looks := true }, kinds := [], alts := [], laidByText := true, laidKinds := [.handle, .sentinel], laidTests := true, laidLooks := .later }
def PowerApartCardSaid : Prop := Claim7.holds Tryz.pinned (.plain (OpenSpec.ofChange powerApartSpec)) powerApartCard

/-- THE TIED CARD OF 'drumlinelaw24.PowerTells'. -/
def powerTellsCard : Claim7 := { stood := { row := powerTellsRow, standIns := [], harness := (true, "93156667d279fc29f0b9f9200cc394342773177fe55545ed117b841a9e73ef3a"), looks := true }, kinds := [], alts := [], laidByText := true, laidKinds := [.handle, .sentinel], laidTests := true, laidLooks := .later }
def PowerTellsCardSaid : Prop := Claim7.holds Tryz.pinned (.plain (OpenSpec.ofChange powerTellsSpec)) powerTellsCard

/-- THE SECOND FORM's CARD OF 'drumlinelaw24.PowerRaw'. -/
def powerRawUptoCard : Claim7 := { stood := { row := powerRawUptoRow, standIns := [], harness := (true, "93156667d279fc29f0b9f9200cc394342773177fe55545ed117b841a9e73ef3a"), looks := true }, kinds := [], alts := [], laidByText := true, laidKinds := [.handle, .sentinel], laidTests := true, laidLooks := .later }
def PowerRawUptoCardSaid : Prop := Claim7.holds Tryz.pinned (.plain (OpenSpec.upto powerRawSpec)) powerRawUptoCard

/-- THE SECOND FORM's CARD OF 'drumlinelaw24.PowerDoes'. -/
def powerDoesUptoCard : Claim7 := { stood := { row := powerDoesUptoRow, standIns := [], harness := (true, "93156667d279fc29f0b9f9200cc394342773177fe55545ed117b841a9e73ef3a"), looks := true }, kinds := [], alts := [], laidByText := true, laidKinds := [.handle, .sentinel], laidTests := true, laidLooks := .later }
def PowerDoesUptoCardSaid : Prop := Claim7.holds Tryz.pinned (.plain (OpenSpec.upto powerDoesSpec)) powerDoesUptoCard

/-- THE SECOND FORM's CARD OF 'drumlinelaw24.PowerAgain'. -/
def powerAgainUptoCard : Claim7 := { stood := { row := powerAgainUptoRow, standIns := [], harness := (true, "93156667d279fc29f0b9f9200cc394342773177fe55545ed117b841a9e73ef3a"), looks := true }, kinds := [], alts := [], laidByText := true, laidKinds := [.handle, .sentinel], laidTests := true, laidLooks := .later }
def PowerAgainUptoCardSaid : Prop := Claim7.holds Tryz.pinned (.plain (OpenSpec.upto powerAgainSpec)) powerAgainUptoCard

/-- THE SECOND FORM's CARD OF 'drumlinelaw24.PowerApart'. -/
def powerApartUptoCard : Claim7 := { stood := { row := powerApartUptoRow, standIns := [], harness := (true, "93156667d279fc29f0b9f9200cc394342773177fe55545ed117b841a9e73ef3a"), looks := true }, kinds := [], alts := [], laidByText := true, laidKinds := [.handle, .sentinel], laidTests := true, laidLooks := .later }
def PowerApartUptoCardSaid : Prop := Claim7.holds Tryz.pinned (.plain (OpenSpec.upto powerApartSpec)) powerApartUptoCard

/-- THE SECOND FORM's CARD OF 'drumlinelaw24.PowerTells'. -/
def powerTellsUptoCard : Claim7 := { stood := { row := powerTellsUptoRow, standIns := [], harness := (true, "93156667d279fc29f0b9f9200cc394342773177fe55545ed117b841a9e73ef3a"), looks := true }, kinds := [], alts := [], laidByText := true, laidKinds := [.handle, .sentinel], laidTests := true, laidLooks := .later }
def PowerTellsUptoCardSaid : Prop := Claim7.holds Tryz.pinned (.plain (OpenSpec.upto powerTellsSpec)) powerTellsUptoCard
end Rows
end Go.Proofs.YtfphjfbknphhjaaGreatDoor
