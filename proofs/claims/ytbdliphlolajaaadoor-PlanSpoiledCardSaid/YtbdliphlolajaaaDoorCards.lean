/-
  DERIVED. GIVEN WITH THE SEED: THE CARDS: each row of YtbdliphlolajaaaDoorRows.lean that lists a variable, with what it lists TIED to the program's text (the seventh form; the later family's looks); each row that meets fmt, with fmt's text TOLD by the authors' own Lean function (tested against real Go, not proved from fmt's source: count such statements apart). THE CARD IS WHAT COUNTS. Prove the row's statement (the work); the ties are given (YtbdliphlolajaaaDoorTie.lean); close each card by the builder's one call (the guide's Derived/Test/ToyasCard.lean, 'card_holds'). Laid BY PROGRAM, IN A SANDBOX (cutbox-door.mjs). By AI agents, Wed Nov 11 2026. No macro, syntax, notation, axiom, sorry.
-/
import Derived.Test.YtbdliphlolajaaaDoorRows
import GoSem.ClaimSeven
namespace Go.Proofs.YtbdliphlolajaaaDoor
namespace Rows

/-- THE TIED CARD OF 'drumlinelaw5.PlanChecks'. -/
def planChecksCard : Claim7 := { stood := { row := planChecksRow, standIns := [], harness := (true, "1c7071595c967eb213f2e9484109bf5e15ca8e2a8e77c749afb5f81432971b43"), looks := true }, kinds := [], alts := [], laidByText := true, laidKinds := [.handle], laidTests := true, laidLooks := .later }
def PlanChecksCardSaid : Prop := Claim7.holds Tryd.pinned (.plain (OpenSpec.ofChange planChecksSpec)) planChecksCard

/-- THE TIED CARD OF 'drumlinelaw5.PlanTells'. -/
def planTellsCard : Claim7 := { stood := { row := planTellsRow, standIns := [], harness := (true, "1c7071595c967eb213f2e9484109bf5e15ca8e2a8e77c749afb5f81432971b43"), looks := true }, kinds := [], alts := [], laidByText := true, laidKinds := [.handle], laidTests := true, laidLooks := .later }
def PlanTellsCardSaid : Prop := Claim7.holds Tryd.pinned (.plain (OpenSpec.ofChange planTellsSpec)) planTellsCard

/-- THE TIED CARD OF 'drumlinelaw5.PlanFar'. -/
def planFarCard : Claim7 := { stood := { row := planFarRow, standIns := [], harness := (true, "1c7071595c967eb213f2e9484109bf5e15ca8e2a8e77c749afb5f81432971b43"), looks := true }, kinds := [], alts := [], laidByText := true, laidKinds := [.handle], laidTests := true, laidLooks := .later }
def PlanFarCardSaid : Prop := Claim7.holds Tryd.pinned (.plain (OpenSpec.ofChange planFarSpec)) planFarCard

/-- THE TIED CARD OF 'drumlinelaw5.PlanSpoiled'. -/
def planSpoiledCard : Claim7 := { stood := { row := planSpoiledRow, standIns := [], harness := (true, "1c7071595c967eb213f2e9484109bf5e15ca8e2a8e77c749afb5f81432971b43"), looks := true }, kinds := [], alts := [], laidByText := true, laidKinds := [.handle], laidTests := true, laidLooks := .later }
def PlanSpoiledCardSaid : Prop := Claim7.holds Tryd.pinned (.plain (OpenSpec.ofChange planSpoiledSpec)) planSpoiledCard

/-- THE TIED CARD OF 'drumlinelaw5.PlanPorts'. -/
def planPortsCard : Claim7 := { stood := { row := planPortsRow, standIns := [], harness := (true, "1c7071595c967eb213f2e9484109bf5e15ca8e2a8e77c749afb5f81432971b43"), looks := true }, kinds := [], alts := [], laidByText := true, laidKinds := [.handle], laidTests := true, laidLooks := .later }
def PlanPortsCardSaid : Prop := Claim7.holds Tryd.pinned (.plain (OpenSpec.ofChange planPortsSpec)) planPortsCard

/-- THE SECOND FORM's CARD OF 'drumlinelaw5.PlanChecks'. -/
def planChecksUptoCard : Claim7 := { stood := { row := planChecksUptoRow, standIns := [], harness := (true, "1c7071595c967eb213f2e9484109bf5e15ca8e2a8e77c749afb5f81432971b43"), looks := true }, kinds := [], alts := [], laidByText := true, laidKinds := [.handle], laidTests := true, laidLooks := .later }
def PlanChecksUptoCardSaid : Prop := Claim7.holds Tryd.pinned (.plain (OpenSpec.upto planChecksSpec)) planChecksUptoCard

/-- THE SECOND FORM's CARD OF 'drumlinelaw5.PlanTells'. -/
def planTellsUptoCard : Claim7 := { stood := { row := planTellsUptoRow, standIns := [], harness := (true, "1c7071595c967eb213f2e9484109bf5e15ca8e2a8e77c749afb5f81432971b43"), looks := true }, kinds := [], alts := [], laidByText := true, laidKinds := [.handle], laidTests := true, laidLooks := .later }
def PlanTellsUptoCardSaid : Prop := Claim7.holds Tryd.pinned (.plain (OpenSpec.upto planTellsSpec)) planTellsUptoCard

/-- THE SECOND FORM's CARD OF 'drumlinelaw5.PlanFar'. -/
def planFarUptoCard : Claim7 := { stood := { row := planFarUptoRow, standIns := [], harness := (true, "1c7071595c967eb213f2e9484109bf5e15ca8e2a8e77c749afb5f81432971b43"), looks := true }, kinds := [], alts := [], laidByText := true, laidKinds := [.handle], laidTests := true, laidLooks := .later }
def PlanFarUptoCardSaid : Prop := Claim7.holds Tryd.pinned (.plain (OpenSpec.upto planFarSpec)) planFarUptoCard

/-- THE SECOND FORM's CARD OF 'drumlinelaw5.PlanSpoiled'. -/
def planSpoiledUptoCard : Claim7 := { stood := { row := planSpoiledUptoRow, standIns := [], harness := (true, "1c7071595c967eb213f2e9484109bf5e15ca8e2a8e77c749afb5f81432971b43"), looks := true }, kinds := [], alts := [], laidByText := true, laidKinds := [.handle], laidTests := true, laidLooks := .later }
def PlanSpoiledUptoCardSaid : Prop := Claim7.holds Tryd.pinned (.plain (OpenSpec.upto planSpoiledSpec)) planSpoiledUptoCard

/-- THE SECOND FORM's CARD OF 'drumlinelaw5.PlanPorts'. -/
def planPortsUptoCard : Claim7 := { stood := { row := planPortsUptoRow, standIns := [], harness := (true, "1c7071595c967eb213f2e9484109bf5e15ca8e2a8e77c749afb5f81432971b43"), looks := true }, kinds := [], alts := [], laidByText := true, laidKinds := [.handle], laidTests := true, laidLooks := .later }
def PlanPortsUptoCardSaid : Prop := Claim7.holds Tryd.pinned (.plain (OpenSpec.upto planPortsSpec)) planPortsUptoCard
end Rows
end Go.Proofs.YtbdliphlolajaaaDoor
