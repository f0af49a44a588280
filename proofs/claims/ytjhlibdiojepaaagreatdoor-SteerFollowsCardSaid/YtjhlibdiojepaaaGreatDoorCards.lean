/-
  DERIVED. GIVEN WITH THE SEED: THE CARDS: each row of YtjhlibdiojepaaaGreatDoorRows.lean that lists a variable, with what it lists TIED to the program's text (the seventh form; the later family's looks); each row that meets fmt, with fmt's text TOLD by the authors' own Lean function (tested against real Go, not proved from fmt's source: count such statements apart). THE CARD IS WHAT COUNTS. Prove the row's statement (the work); the ties are given (YtjhlibdiojepaaaGreatDoorTie.lean); close each card by the builder's one call (the guide's Derived/Test/ToyasCard.lean, 'card_holds'). Laid BY PROGRAM, IN A SANDBOX (cutbox-door.mjs). By AI agents, Wed Nov 11 2026. No macro, syntax, notation, axiom, sorry.
-/
import Derived.Test.YtjhlibdiojepaaaGreatDoorRows
import GoSem.ClaimSeven
namespace Go.Proofs.YtjhlibdiojepaaaGreatDoor
namespace Rows

/-- THE TIED CARD OF 'drumlinelaw9.TableTells'. -/
def tableTellsCard : Claim7 := { stood := { row := tableTellsRow, standIns := [], harness := (true, "8f7bc9fac72f52effe3c606377387ec278898c62cd5f0552009e7cfccb13fab2"), looks := true }, kinds := [], alts := [], laidByText := true, laidKinds := [.handle, .sentinel], laidTests := true, laidLooks := .later }
def TableTellsCardSaid : Prop := Claim7.holds Tryz.pinned (.plain (OpenSpec.ofChange tableTellsSpec)) tableTellsCard

/-- THE TIED CARD OF 'drumlinelaw9.TableMade'. -/
def tableMadeCard : Claim7 := { stood := { row := tableMadeRow, standIns := [], harness := (true, "8f7bc9fac72f52effe3c606377387ec278898c62cd5f0552009e7cfccb13fab2"), looks := true }, kinds := [], alts := [], laidByText := true, laidKinds := [.handle, .sentinel], laidTests := true, laidLooks := .later }
def TableMadeCardSaid : Prop := Claim7.holds Tryz.pinned (.plain (OpenSpec.ofChange tableMadeSpec)) tableMadeCard

/-- THE TIED CARD OF 'drumlinelaw9.TableApart'. -/
def tableApartCard : Claim7 := { stood := { row := tableApartRow, standIns := [], harness := (true, "8f7bc9fac72f52effe3c606377387ec278898c62cd5f0552009e7cfccb13fab2"), looks := true }, kinds := [], alts := [], laidByText := true, laidKinds := [.handle, .sentinel], laidTests := true, laidLooks := .later }
def TableApartCardSaid : Prop := Claim7.holds Tryz.pinned (.plain (OpenSpec.ofChange tableApartSpec)) tableApartCard

/-- THE TIED CARD OF 'drumlinelaw9.TableWhich'. -/
def tableWhichCard : Claim7 := { stood := { row := tableWhichRow, standIns := [], harness := (true, "8f7bc9fac72f52effe3c606377387ec278898c62cd5f0552009e7cfccb13fab2"), looks := true }, kinds := [], alts := [], laidByText := true, laidKinds := [.handle, .sentinel], laidTests := true, laidLooks := .later }
def TableWhichCardSaid : Prop := Claim7.holds Tryz.pinned (.plain (OpenSpec.ofChange tableWhichSpec)) tableWhichCard

/-- THE TIED CARD OF 'drumlinelaw9.TableOwns'. -/
def tableOwnsCard : Claim7 := { stood := { row := tableOwnsRow, standIns := [], harness := (true, "8f7bc9fac72f52effe3c606377387ec278898c62cd5f0552009e7cfccb13fab2"), looks := true }, kinds := [], alts := [], laidByText := true, laidKinds := [.handle, .sentinel], laidTests := true, laidLooks := .later }
def TableOwnsCardSaid : Prop := Claim7.holds Tryz.pinned (.plain (OpenSpec.ofChange tableOwnsSpec)) tableOwnsCard

/-- THE TIED CARD OF 'drumlinelaw16.SteerRates'. -/
def steerRatesCard : Claim7 := { stood := { row := steerRatesRow, standIns := [], harness := (true, "8f7bc9fac72f52effe3c606377387ec278898c62cd5f0552009e7cfccb13fab2"), looks := true }, kinds := [], alts := [], laidByText := true, laidKinds := [.handle, .sentinel], laidTests := true, laidLooks := .later }
def SteerRatesCardSaid : Prop := Claim7.holds Tryz.pinned (.plain (OpenSpec.ofChange steerRatesSpec)) steerRatesCard

/-- THE TIED CARD OF 'drumlinelaw16.SteerRaw'. -/
def steerRawCard : Claim7 := { stood := { row := steerRawRow, standIns := [], harness := (true, "8f7bc9fac72f52effe3c606377387ec278898c62cd5f0552009e7cfccb13fab2"), looks := true }, kinds := [], alts := [], laidByText := true, laidKinds := [.handle, .sentinel], laidTests := true, laidLooks := .later }
def SteerRawCardSaid : Prop := Claim7.holds Tryz.pinned (.plain (OpenSpec.ofChange steerRawSpec)) steerRawCard

/-- THE TIED CARD OF 'drumlinelaw16.SteerParents'. -/
def steerParentsCard : Claim7 := { stood := { row := steerParentsRow, standIns := [], harness := (true, "8f7bc9fac72f52effe3c606377387ec278898c62cd5f0552009e7cfccb13fab2"), looks := true }, kinds := [], alts := [], laidByText := true, laidKinds := [.handle, .sentinel], laidTests := true, laidLooks := .later }
def SteerParentsCardSaid : Prop := Claim7.holds Tryz.pinned (.plain (OpenSpec.ofChange steerParentsSpec)) steerParentsCard

/-- THE TIED CARD OF 'drumlinelaw16.SteerFollows'. -/
def steerFollowsCard : Claim7 := { stood := { row := steerFollowsRow, standIns := [], harness := (true, "8f7bc9fac72f52effe3c606377387ec278898c62cd5f0552009e7cfccb13fab2"), looks := true }, kinds := [], alts := [], laidByText := true, laidKinds := [.handle, .sentinel], laidTests := true, laidLooks := .later }
def SteerFollowsCardSaid : Prop := Claim7.holds Tryz.pinned (.plain (OpenSpec.ofChange steerFollowsSpec)) steerFollowsCard

/-- THE TIED CARD OF 'drumlinelaw16.SteerClamps'. -/
def steerClampsCard : Claim7 := { stood := { row := steerClampsRow, standIns := [], harness := (true, "8f7bc9fac72f52effe3c606377387ec278898c62cd5f0552009e7cfccb13fab2"), looks := true }, kinds := [], alts := [], laidByText := true, laidKinds := [.handle, .sentinel], laidTests := true, laidLooks := .later }
def SteerClampsCardSaid : Prop := Claim7.holds Tryz.pinned (.plain (OpenSpec.ofChange steerClampsSpec)) steerClampsCard

/-- THE TIED CARD OF 'drumlinelaw16.SteerMeets'. -/
def steerMeetsCard : Claim7 := { stood := { row := steerMeetsRow, standIns := [], harness := (true, "8f7bc9fac72f52effe3c606377387ec278898c62cd5f0552009e7cfccb13fab2"), looks := true }, kinds := [], alts := [], laidByText := true, laidKinds := [.handle, .sentinel], laidTests := true, laidLooks := .later }
def SteerMeetsCardSaid : Prop := Claim7.holds Tryz.pinned (.plain (OpenSpec.ofChange steerMeetsSpec)) steerMeetsCard

/-- THE TIED CARD OF 'drumlinelaw16.SteerAdopts'. -/
def steerAdoptsCard : Claim7 := { stood := { row := steerAdoptsRow, standIns := [], harness := (true, "8f7bc9fac72f52effe3c606377387ec278898c62cd5f0552009e7cfccb13fab2"), looks := true }, kinds := [], alts := [], laidByText := true, laidKinds := [.handle, .sentinel], laidTests := true, laidLooks := .later }
def SteerAdoptsCardSaid : Prop := Claim7.holds Tryz.pinned (.plain (OpenSpec.ofChange steerAdoptsSpec)) steerAdoptsCard

/-- THE SECOND FORM's CARD OF 'drumlinelaw9.TableTells'. -/
def tableTellsUptoCard : Claim7 := { stood := { row := tableTellsUptoRow, standIns := [], harness := (true, "8f7bc9fac72f52effe3c606377387ec278898c62cd5f0552009e7cfccb13fab2"), looks := true }, kinds := [], alts := [], laidByText := true, laidKinds := [.handle, .sentinel], laidTests := true, laidLooks := .later }
def TableTellsUptoCardSaid : Prop := Claim7.holds Tryz.pinned (.plain (OpenSpec.upto tableTellsSpec)) tableTellsUptoCard

/-- THE SECOND FORM's CARD OF 'drumlinelaw9.TableMade'. -/
def tableMadeUptoCard : Claim7 := { stood := { row := tableMadeUptoRow, standIns := [], harness := (true, "8f7bc9fac72f52effe3c606377387ec278898c62cd5f0552009e7cfccb13fab2"), looks := true }, kinds := [], alts := [], laidByText := true, laidKinds := [.handle, .sentinel], laidTests := true, laidLooks := .later }
def TableMadeUptoCardSaid : Prop := Claim7.holds Tryz.pinned (.plain (OpenSpec.upto tableMadeSpec)) tableMadeUptoCard

/-- THE SECOND FORM's CARD OF 'drumlinelaw9.TableApart'. -/
def tableApartUptoCard : Claim7 := { stood := { row := tableApartUptoRow, standIns := [], harness := (true, "8f7bc9fac72f52effe3c606377387ec278898c62cd5f0552009e7cfccb13fab2"), looks := true }, kinds := [], alts := [], laidByText := true, laidKinds := [.handle, .sentinel], laidTests := true, laidLooks := .later }
def TableApartUptoCardSaid : Prop := Claim7.holds Tryz.pinned (.plain (OpenSpec.upto tableApartSpec)) tableApartUptoCard

/-- THE SECOND FORM's CARD OF 'drumlinelaw9.TableWhich'. -/
def tableWhichUptoCard : Claim7 := { stood := { row := tableWhichUptoRow, standIns := [], harness := (true, "8f7bc9fac72f52effe3c606377387ec278898c62cd5f0552009e7cfccb13fab2"), looks := true }, kinds := [], alts := [], laidByText := true, laidKinds := [.handle, .sentinel], laidTests := true, laidLooks := .later }
def TableWhichUptoCardSaid : Prop := Claim7.holds Tryz.pinned (.plain (OpenSpec.upto tableWhichSpec)) tableWhichUptoCard

/-- THE SECOND FORM's CARD OF 'drumlinelaw9.TableOwns'. -/
def tableOwnsUptoCard : Claim7 := { stood := { row := tableOwnsUptoRow, standIns := [], harness := (true, "8f7bc9fac72f52effe3c606377387ec278898c62cd5f0552009e7cfccb13fab2"), looks := true }, kinds := [], alts := [], laidByText := true, laidKinds := [.handle, .sentinel], laidTests := true, laidLooks := .later }
def TableOwnsUptoCardSaid : Prop := Claim7.holds Tryz.pinned (.plain (OpenSpec.upto tableOwnsSpec)) tableOwnsUptoCard

/-- THE SECOND FORM's CARD OF 'drumlinelaw16.SteerRates'. -/
def steerRatesUptoCard : Claim7 := { stood := { row := steerRatesUptoRow, standIns := [], harness := (true, "8f7bc9fac72f52effe3c606377387ec278898c62cd5f0552009e7cfccb13fab2"), looks := true }, kinds := [], alts := [], laidByText := true, laidKinds := [.handle, .sentinel], laidTests := true, laidLooks := .later }
def SteerRatesUptoCardSaid : Prop := Claim7.holds Tryz.pinned (.plain (OpenSpec.upto steerRatesSpec)) steerRatesUptoCard

/-- THE SECOND FORM's CARD OF 'drumlinelaw16.SteerRaw'. -/
def steerRawUptoCard : Claim7 := { stood := { row := steerRawUptoRow, standIns := [], harness := (true, "8f7bc9fac72f52effe3c606377387ec278898c62cd5f0552009e7cfccb13fab2"), looks := true }, kinds := [], alts := [], laidByText := true, laidKinds := [.handle, .sentinel], laidTests := true, laidLooks := .later }
def SteerRawUptoCardSaid : Prop := Claim7.holds Tryz.pinned (.plain (OpenSpec.upto steerRawSpec)) steerRawUptoCard

/-- THE SECOND FORM's CARD OF 'drumlinelaw16.SteerParents'. -/
def steerParentsUptoCard : Claim7 := { stood := { row := steerParentsUptoRow, standIns := [], harness := (true, "8f7bc9fac72f52effe3c606377387ec278898c62cd5f0552009e7cfccb13fab2"), looks := true }, kinds := [], alts := [], laidByText := true, laidKinds := [.handle, .sentinel], laidTests := true, laidLooks := .later }
def SteerParentsUptoCardSaid : Prop := Claim7.holds Tryz.pinned (.plain (OpenSpec.upto steerParentsSpec)) steerParentsUptoCard

/-- THE SECOND FORM's CARD OF 'drumlinelaw16.SteerFollows'. -/
def steerFollowsUptoCard : Claim7 := { stood := { row := steerFollowsUptoRow, standIns := [], harness := (true, "8f7bc9fac72f52effe3c606377387ec278898c62cd5f0552009e7cfccb13fab2"), looks := true }, kinds := [], alts := [], laidByText := true, laidKinds := [.handle, .sentinel], laidTests := true, laidLooks := .later }
def SteerFollowsUptoCardSaid : Prop := Claim7.holds Tryz.pinned (.plain (OpenSpec.upto steerFollowsSpec)) steerFollowsUptoCard

/-- THE SECOND FORM's CARD OF 'drumlinelaw16.SteerClamps'. -/
def steerClampsUptoCard : Claim7 := { stood := { row := steerClampsUptoRow, standIns := [], harness := (true, "8f7bc9fac72f52effe3c606377387ec278898c62cd5f0552009e7cfccb13fab2"), looks := true }, kinds := [], alts := [], laidByText := true, laidKinds := [.handle, .sentinel], laidTests := true, laidLooks := .later }
def SteerClampsUptoCardSaid : Prop := Claim7.holds Tryz.pinned (.plain (OpenSpec.upto steerClampsSpec)) steerClampsUptoCard

/-- THE SECOND FORM's CARD OF 'drumlinelaw16.SteerMeets'. -/
def steerMeetsUptoCard : Claim7 := { stood := { row := steerMeetsUptoRow, standIns := [], harness := (true, "8f7bc9fac72f52effe3c606377387ec278898c62cd5f0552009e7cfccb13fab2"), looks := true }, kinds := [], alts := [], laidByText := true, laidKinds := [.handle, .sentinel], laidTests := true, laidLooks := .later }
def SteerMeetsUptoCardSaid : Prop := Claim7.holds Tryz.pinned (.plain (OpenSpec.upto steerMeetsSpec)) steerMeetsUptoCard

/-- THE SECOND FORM's CARD OF 'drumlinelaw16.SteerAdopts'. -/
def steerAdoptsUptoCard : Claim7 := { stood := { row := steerAdoptsUptoRow, standIns := [], harness := (true, "8f7bc9fac72f52effe3c606377387ec278898c62cd5f0552009e7cfccb13fab2"), looks := true }, kinds := [], alts := [], laidByText := true, laidKinds := [.handle, .sentinel], laidTests := true, laidLooks := .later }
def SteerAdoptsUptoCardSaid : Prop := Claim7.holds Tryz.pinned (.plain (OpenSpec.upto steerAdoptsSpec)) steerAdoptsUptoCard
end Rows
end Go.Proofs.YtjhlibdiojepaaaGreatDoor
