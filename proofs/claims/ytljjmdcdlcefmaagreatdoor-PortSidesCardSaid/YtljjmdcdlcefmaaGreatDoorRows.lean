/-
  NARROWER THAN 'FOR EVERY INPUT', by the rows' own cells (each row's printed sentence says how): PortRaw: laid · PortTells: laid · PortSides: laid.
  DERIVED. THE GIVEN ROWS OF THIS SEAT. 3 by the template 'for every input the law returns true; each argument reads behind the call as it read before'; 0 by the template 'total and deterministic' (their statements: YtljjmdcdlcefmaaGreatDoorTotals.lean).
  GIVEN WITH THE SEED: the statements are not yours to turn. If you find one false, say at which input.
  Laid BY PROGRAM, IN A SANDBOX (cutbox-rows.mjs): the forced cells as the released guide's own fill.sh prints them over the translation ba6b491d477e712e… (all of the seat's roots in one cut). By AI agents, Wed Nov 11 2026. No macro, syntax, notation, axiom, sorry.
-/
import Derived.Test.YtljjmdcdlcefmaaGreatDoorChecked
import GoSem.Claim
import GoSem.ClaimJoined
import GoSem.ClaimMapViews
import Derived.JoinedTies
import Derived.KernelRfl
namespace Go.Proofs.YtljjmdcdlcefmaaGreatDoor
/- THE CELL 'sum', in the pinned program and in every row, IS THE sha256 OF THE DUMP (.gsa) THAT YtljjmdcdlcefmaaGreatDoorProg.lean LOADS. Nothing in Lean hashes anything: it is a label: what it is worth is what the hold of that sum in a sandbox is worth. -/
noncomputable def Tryz.pinned : Pinned := { name := "ytljjmdcdlcefmaagreatdoor", sum := "ba6b491d477e712ef8bc1491cebe969afb0c28fa9a1f178ce838213a4133dc15", checked := Tryz.checked }
namespace Rows
def none {H : Type} : Left H := { results := [], args := [] }

/- WHAT THE LISTED PACKAGE-LEVEL VARIABLES READ AS WHEN THE CALL BEGINS. Each datum BY PROGRAM (the guide's laid-datum.mjs) off the statement by which the dump's own 'gosem.cut.vars' lays the variable. In a bare row this is a premise. The card (YtljjmdcdlcefmaaGreatDoorCards.lean) ties it to the program's text. -/
def laid_errors_errorType {H : Type} : DataW H := .iface "internal/reflectlite.rtype" (.agg [.ptr (.lit (.string [101, 114, 114, 111, 114]))])

/-- 'drumlinelaw20.PortRaw': WHATEVER THE INPUT: true; the input reads as it did. -/
def portRawSpec : ChangeSpec := { name := "portRaw", fn := fun _ => fun
  | [d1, d2, d3, d4, d5] => { results := [.lit (.bool true)], args := [d1, d2, d3, d4, d5] }
  | _ => none }
def portRawRow : OpenClaim := { program := "ytljjmdcdlcefmaagreatdoor", sum := "ba6b491d477e712ef8bc1491cebe969afb0c28fa9a1f178ce838213a4133dc15", func := "drumline/drumlinelaw20.PortRaw", spec := "portRaw", inPlace := ["internal/reflectlite.ValueOf", "(internal/reflectlite.Value).Type", "(internal/reflectlite.Value).IsNil", "internal/reflectlite.TypeOf", "(internal/reflectlite.Value).Elem", "(internal/reflectlite.Value).Set"], unfollowed := true, recurses := true, named := ["errors.errorType"], apart := false, laid := [("errors.errorType", laid_errors_errorType)] }
def PortRawSaid : Prop := portRawRow.holds Tryz.pinned (OpenSpec.ofChange portRawSpec)

/-- ITS FALSE NEIGHBOUR: 'it returns false'. Refute it at one input. -/
def portRawWrong : ChangeSpec := { name := "portRaw", fn := fun _ => fun
  | [d1, d2, d3, d4, d5] => { results := [.lit (.bool false)], args := [d1, d2, d3, d4, d5] }
  | _ => none }
def PortRawWrongFalsely : Prop := portRawRow.holds Tryz.pinned (OpenSpec.ofChange portRawWrong)

/-- 'drumlinelaw20.PortTells': WHATEVER THE INPUT: true; the input reads as it did. -/
def portTellsSpec : ChangeSpec := { name := "portTells", fn := fun _ => fun
  | [d1, d2, d3, d4, d5] => { results := [.lit (.bool true)], args := [d1, d2, d3, d4, d5] }
  | _ => none }
def portTellsRow : OpenClaim := { program := "ytljjmdcdlcefmaagreatdoor", sum := "ba6b491d477e712ef8bc1491cebe969afb0c28fa9a1f178ce838213a4133dc15", func := "drumline/drumlinelaw20.PortTells", spec := "portTells", inPlace := ["internal/reflectlite.ValueOf", "(internal/reflectlite.Value).Type", "(internal/reflectlite.Value).IsNil", "internal/reflectlite.TypeOf", "(internal/reflectlite.Value).Elem", "(internal/reflectlite.Value).Set"], unfollowed := true, recurses := true, named := ["errors.errorType"], apart := false, laid := [("errors.errorType", laid_errors_errorType)] }
def PortTellsSaid : Prop := portTellsRow.holds Tryz.pinned (OpenSpec.ofChange portTellsSpec)

/-- ITS FALSE NEIGHBOUR: 'it returns false'. Refute it at one input. -/
def portTellsWrong : ChangeSpec := { name := "portTells", fn := fun _ => fun
  | [d1, d2, d3, d4, d5] => { results := [.lit (.bool false)], args := [d1, d2, d3, d4, d5] }
  | _ => none }
def PortTellsWrongFalsely : Prop := portTellsRow.holds Tryz.pinned (OpenSpec.ofChange portTellsWrong)

/-- 'drumlinelaw20.PortSides': WHATEVER THE INPUT: true; the input reads as it did. -/
def portSidesSpec : ChangeSpec := { name := "portSides", fn := fun _ => fun
  | [d1, d2] => { results := [.lit (.bool true)], args := [d1, d2] }
  | _ => none }
def portSidesRow : OpenClaim := { program := "ytljjmdcdlcefmaagreatdoor", sum := "ba6b491d477e712ef8bc1491cebe969afb0c28fa9a1f178ce838213a4133dc15", func := "drumline/drumlinelaw20.PortSides", spec := "portSides", inPlace := ["internal/reflectlite.ValueOf", "(internal/reflectlite.Value).Type", "(internal/reflectlite.Value).IsNil", "internal/reflectlite.TypeOf", "(internal/reflectlite.Value).Elem", "(internal/reflectlite.Value).Set"], unfollowed := true, recurses := true, named := ["errors.errorType"], apart := false, laid := [("errors.errorType", laid_errors_errorType)] }
def PortSidesSaid : Prop := portSidesRow.holds Tryz.pinned (OpenSpec.ofChange portSidesSpec)

/-- ITS FALSE NEIGHBOUR: 'it returns false'. Refute it at one input. -/
def portSidesWrong : ChangeSpec := { name := "portSides", fn := fun _ => fun
  | [d1, d2] => { results := [.lit (.bool false)], args := [d1, d2] }
  | _ => none }
def PortSidesWrongFalsely : Prop := portSidesRow.holds Tryz.pinned (OpenSpec.ofChange portSidesWrong)

/- THE SECOND FORM. 'bulk': how many values and letters a reading holds, each counted each time it is reached (what is shared counts as often as it is met; a slice's spare places count too). A statement '..UptoSaid' is the law's where the arguments, and the package variables that the reading takes, are together of bulk at most 1048576: NARROWER than '..Said'. Prove '..Said' where nothing that the law and all that it calls make is longer than what came in: it says more and counts as full. Else prove '..UptoSaid'. A law counts once. -/
mutual
def uptoBulk {H : Type} : DataW H → Nat
  | .lit (.string bytes) => bytes.length + 1
  | .lit _ => 1
  | .nil => 1
  | .ptr d => uptoBulk d + 1
  | .slice elems spare => uptoBulkAll elems + uptoBulkAll spare + 1
  | .agg parts => uptoBulkAll parts + 1
  | .iface _ d => uptoBulk d + 1
  | .map entries => uptoBulkEntries entries + 1
  | .held _ => 1
def uptoBulkAll {H : Type} : List (DataW H) → Nat
  | [] => 0
  | d :: r => uptoBulk d + uptoBulkAll r
def uptoBulkEntries {H : Type} : List (Lit × DataW H) → Nat
  | [] => 0
  | x :: r => uptoBulkEntry x + uptoBulkEntries r
def uptoBulkEntry {H : Type} : Lit × DataW H → Nat
  | (.string bytes, d) => bytes.length + uptoBulk d + 1
  | (_, d) => uptoBulk d + 1
 end
def uptoSmall : (H : Type) → List (DataW H) → Bool := fun _ ds => decide (uptoBulkAll ds ≤ 1048576)
def OpenSpec.upto (s : _root_.Go.ChangeSpec) : _root_.Go.OpenSpec := { _root_.Go.OpenSpec.ofChange s with cond := some uptoSmall }

/-- 'drumlinelaw20.PortRaw', WHERE WHAT IT READS IS OF BULK AT MOST 1048576: true; the input reads as it did. -/
def portRawUptoRow : OpenClaim := { program := "ytljjmdcdlcefmaagreatdoor", sum := "ba6b491d477e712ef8bc1491cebe969afb0c28fa9a1f178ce838213a4133dc15", func := "drumline/drumlinelaw20.PortRaw", spec := "portRaw", inPlace := ["internal/reflectlite.ValueOf", "(internal/reflectlite.Value).Type", "(internal/reflectlite.Value).IsNil", "internal/reflectlite.TypeOf", "(internal/reflectlite.Value).Elem", "(internal/reflectlite.Value).Set"], unfollowed := true, recurses := true, named := ["errors.errorType"], apart := false, laid := [("errors.errorType", laid_errors_errorType)], narrowed := true }
def PortRawUptoSaid : Prop := portRawUptoRow.holds Tryz.pinned (OpenSpec.upto portRawSpec)

/-- 'drumlinelaw20.PortTells', WHERE WHAT IT READS IS OF BULK AT MOST 1048576: true; the input reads as it did. -/
def portTellsUptoRow : OpenClaim := { program := "ytljjmdcdlcefmaagreatdoor", sum := "ba6b491d477e712ef8bc1491cebe969afb0c28fa9a1f178ce838213a4133dc15", func := "drumline/drumlinelaw20.PortTells", spec := "portTells", inPlace := ["internal/reflectlite.ValueOf", "(internal/reflectlite.Value).Type", "(internal/reflectlite.Value).IsNil", "internal/reflectlite.TypeOf", "(internal/reflectlite.Value).Elem", "(internal/reflectlite.Value).Set"], unfollowed := true, recurses := true, named := ["errors.errorType"], apart := false, laid := [("errors.errorType", laid_errors_errorType)], narrowed := true }
def PortTellsUptoSaid : Prop := portTellsUptoRow.holds Tryz.pinned (OpenSpec.upto portTellsSpec)

/-- 'drumlinelaw20.PortSides', WHERE WHAT IT READS IS OF BULK AT MOST 1048576: true; the input reads as it did. -/
def portSidesUptoRow : OpenClaim := { program := "ytljjmdcdlcefmaagreatdoor", sum := "ba6b491d477e712ef8bc1491cebe969afb0c28fa9a1f178ce838213a4133dc15", func := "drumline/drumlinelaw20.PortSides", spec := "portSides", inPlace := ["internal/reflectlite.ValueOf", "(internal/reflectlite.Value).Type", "(internal/reflectlite.Value).IsNil", "internal/reflectlite.TypeOf", "(internal/reflectlite.Value).Elem", "(internal/reflectlite.Value).Set"], unfollowed := true, recurses := true, named := ["errors.errorType"], apart := false, laid := [("errors.errorType", laid_errors_errorType)], narrowed := true }
def PortSidesUptoSaid : Prop := portSidesUptoRow.holds Tryz.pinned (OpenSpec.upto portSidesSpec)

end Rows
end Go.Proofs.YtljjmdcdlcefmaaGreatDoor
