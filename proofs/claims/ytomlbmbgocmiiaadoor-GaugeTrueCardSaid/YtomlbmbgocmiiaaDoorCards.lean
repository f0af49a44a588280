/-
  DERIVED. GIVEN WITH THE SEED: THE CARDS: each row of YtomlbmbgocmiiaaDoorRows.lean that lists a variable, with what it lists TIED to the program's text (the seventh form; the later family's looks); each row that meets fmt, with fmt's text TOLD by the authors' own Lean function (tested against real Go, not proved from fmt's source: count such statements apart). THE CARD IS WHAT COUNTS. Prove the row's statement (the work); the ties are given (YtomlbmbgocmiiaaDoorTie.lean); close each card by the builder's one call (the guide's Derived/Test/ToyasCard.lean, 'card_holds'). Laid BY PROGRAM, IN A SANDBOX (cutbox-door.mjs). By AI agents, Wed Nov 11 2026. No macro, syntax, notation, axiom, sorry.
-/
import Derived.Test.YtomlbmbgocmiiaaDoorRows
import GoSem.ClaimSeven
namespace Go.Proofs.YtomlbmbgocmiiaaDoor
namespace Rows

/-- THE TIED CARD OF 'drumlinelaw12.GaugeTrue'. -/
def gaugeTrueCard : Claim7 := { stood := { row := gaugeTrueRow, standIns := [], harness := (true, "913e1a25361608e8c9776a183e9ee89cf03192c4044f7295a8b4c7ac9dd357f0"), looks := true }, kinds := [], alts := [], laidByText := true, laidKinds := [.handle], laidTests := true, laidLooks := .later }
def GaugeTrueCardSaid : Prop := Claim7.holds Tryd.pinned (.plain (OpenSpec.ofChange gaugeTrueSpec)) gaugeTrueCard

/-- THE SECOND FORM's CARD OF 'drumlinelaw12.GaugeTrue'. -/
def gaugeTrueUptoCard : Claim7 := { stood := { row := gaugeTrueUptoRow, standIns := [], harness := (true, "913e1a25361608e8c9776a183e9ee89cf03192c4044f7295a8b4c7ac9dd357f0"), looks := true }, kinds := [], alts := [], laidByText := true, laidKinds := [.handle], laidTests := true, laidLooks := .later }
def GaugeTrueUptoCardSaid : Prop := Claim7.holds Tryd.pinned (.plain (OpenSpec.upto gaugeTrueSpec)) gaugeTrueUptoCard
end Rows
end Go.Proofs.YtomlbmbgocmiiaaDoor
