/-
  NARROWER THAN 'FOR EVERY INPUT', by the rows' own cells (each row's printed sentence says how): TableTells: laid · TableMade: laid · TableApart: laid · TableWhich: laid · TableOwns: laid · SteerRates: laid · SteerRaw: laid · SteerParents: laid · SteerFollows: laid · SteerClamps: laid · SteerMeets: laid · SteerAdopts: laid.
  DERIVED. THE GIVEN ROWS OF THIS SEAT. 12 by the template 'for every input the law returns true; each argument reads behind the call as it read before'; 0 by the template 'total and deterministic' (their statements: YtjhlibdiojepaaaGreatDoorTotals.lean).
  GIVEN WITH THE SEED: the statements are not yours to turn. If you find one false, say at which input.
  Laid BY PROGRAM, IN A SANDBOX (cutbox-rows.mjs): the forced cells as the released guide's own fill.sh prints them over the translation ee7e7b0a625c43f2… (all of the seat's roots in one cut). By AI agents, Wed Nov 11 2026. No macro, syntax, notation, axiom, sorry.
-/
import Derived.Test.YtjhlibdiojepaaaGreatDoorChecked
import GoSem.Claim
import GoSem.ClaimJoined
import GoSem.ClaimMapViews
import Derived.JoinedTies
import Derived.KernelRfl
namespace Go.Proofs.YtjhlibdiojepaaaGreatDoor
/- THE CELL 'sum', in the pinned program and in every row, IS THE sha256 OF THE DUMP (.gsa) THAT YtjhlibdiojepaaaGreatDoorProg.lean LOADS. Nothing in Lean hashes anything: it is a label: what it is worth is what the hold of that sum in a sandbox is worth. -/
noncomputable def Tryz.pinned : Pinned := { name := "ytjhlibdiojepaaagreatdoor", sum := "ee7e7b0a625c43f2e75491ef78c16a253c4f3bcd8e17056cc95d6dfbfd5d5950", checked := Tryz.checked }
namespace Rows
def none {H : Type} : Left H := { results := [], args := [] }

/- WHAT THE LISTED PACKAGE-LEVEL VARIABLES READ AS WHEN THE CALL BEGINS. Each datum BY PROGRAM (the guide's laid-datum.mjs) off the statement by which the dump's own 'gosem.cut.vars' lays the variable. In a bare row this is a premise. The card (YtjhlibdiojepaaaGreatDoorCards.lean) ties it to the program's text. -/
def laid_errors_errorType {H : Type} : DataW H := .iface "internal/reflectlite.rtype" (.agg [.ptr (.lit (.string [101, 114, 114, 111, 114]))])
def laid_drumline_bounds_out {H : Type} : DataW H := .iface "*errors.errorString" (.ptr (.agg [.lit (.string [98, 111, 117, 110, 100, 115, 58, 32, 111, 117, 116, 32, 111, 102, 32, 114, 97, 110, 103, 101])]))

/-- 'drumlinelaw9.TableTells': WHATEVER THE INPUT: true; the input reads as it did. -/
def tableTellsSpec : ChangeSpec := { name := "tableTells", fn := fun _ => fun
  | [d1, d2, d3, d4, d5] => { results := [.lit (.bool true)], args := [d1, d2, d3, d4, d5] }
  | _ => none }
def tableTellsRow : OpenClaim := { program := "ytjhlibdiojepaaagreatdoor", sum := "ee7e7b0a625c43f2e75491ef78c16a253c4f3bcd8e17056cc95d6dfbfd5d5950", func := "drumline/drumlinelaw9.TableTells", spec := "tableTells", inPlace := ["internal/reflectlite.ValueOf", "(internal/reflectlite.Value).Type", "(internal/reflectlite.Value).IsNil", "internal/reflectlite.TypeOf", "(internal/reflectlite.Value).Elem", "(internal/reflectlite.Value).Set"], unfollowed := true, recurses := true, named := ["drumline/bounds.out", "errors.errorType"], apart := false, laid := [("errors.errorType", laid_errors_errorType), ("drumline/bounds.out", laid_drumline_bounds_out)] }
def TableTellsSaid : Prop := tableTellsRow.holds Tryz.pinned (OpenSpec.ofChange tableTellsSpec)

/-- ITS FALSE NEIGHBOUR: 'it returns false'. Refute it at one input. -/
def tableTellsWrong : ChangeSpec := { name := "tableTells", fn := fun _ => fun
  | [d1, d2, d3, d4, d5] => { results := [.lit (.bool false)], args := [d1, d2, d3, d4, d5] }
  | _ => none }
def TableTellsWrongFalsely : Prop := tableTellsRow.holds Tryz.pinned (OpenSpec.ofChange tableTellsWrong)

/-- 'drumlinelaw9.TableMade': WHATEVER THE INPUT: true; the input reads as it did. -/
def tableMadeSpec : ChangeSpec := { name := "tableMade", fn := fun _ => fun
  | [d1, d2, d3, d4, d5] => { results := [.lit (.bool true)], args := [d1, d2, d3, d4, d5] }
  | _ => none }
def tableMadeRow : OpenClaim := { program := "ytjhlibdiojepaaagreatdoor", sum := "ee7e7b0a625c43f2e75491ef78c16a253c4f3bcd8e17056cc95d6dfbfd5d5950", func := "drumline/drumlinelaw9.TableMade", spec := "tableMade", inPlace := ["internal/reflectlite.ValueOf", "(internal/reflectlite.Value).Type", "(internal/reflectlite.Value).IsNil", "internal/reflectlite.TypeOf", "(internal/reflectlite.Value).Elem", "(internal/reflectlite.Value).Set"], unfollowed := true, recurses := true, named := ["drumline/bounds.out", "errors.errorType"], apart := false, laid := [("errors.errorType", laid_errors_errorType), ("drumline/bounds.out", laid_drumline_bounds_out)] }
def TableMadeSaid : Prop := tableMadeRow.holds Tryz.pinned (OpenSpec.ofChange tableMadeSpec)

/-- ITS FALSE NEIGHBOUR: 'it returns false'. Refute it at one input. -/
def tableMadeWrong : ChangeSpec := { name := "tableMade", fn := fun _ => fun
  | [d1, d2, d3, d4, d5] => { results := [.lit (.bool false)], args := [d1, d2, d3, d4, d5] }
  | _ => none }
def TableMadeWrongFalsely : Prop := tableMadeRow.holds Tryz.pinned (OpenSpec.ofChange tableMadeWrong)

/-- 'drumlinelaw9.TableApart': WHATEVER THE INPUT: true; the input reads as it did. -/
def tableApartSpec : ChangeSpec := { name := "tableApart", fn := fun _ => fun
  | [d1, d2] => { results := [.lit (.bool true)], args := [d1, d2] }
  | _ => none }
def tableApartRow : OpenClaim := { program := "ytjhlibdiojepaaagreatdoor", sum := "ee7e7b0a625c43f2e75491ef78c16a253c4f3bcd8e17056cc95d6dfbfd5d5950", func := "drumline/drumlinelaw9.TableApart", spec := "tableApart", inPlace := ["internal/reflectlite.ValueOf", "(internal/reflectlite.Value).Type", "(internal/reflectlite.Value).IsNil", "internal/reflectlite.TypeOf", "(internal/reflectlite.Value).Elem", "(internal/reflectlite.Value).Set"], unfollowed := true, recurses := true, named := ["drumline/bounds.out", "errors.errorType"], apart := false, laid := [("errors.errorType", laid_errors_errorType), ("drumline/bounds.out", laid_drumline_bounds_out)] }
def TableApartSaid : Prop := tableApartRow.holds Tryz.pinned (OpenSpec.ofChange tableApartSpec)

/-- ITS FALSE NEIGHBOUR: 'it returns false'. Refute it at one input. -/
def tableApartWrong : ChangeSpec := { name := "tableApart", fn := fun _ => fun
  | [d1, d2] => { results := [.lit (.bool false)], args := [d1, d2] }
  | _ => none }
def TableApartWrongFalsely : Prop := tableApartRow.holds Tryz.pinned (OpenSpec.ofChange tableApartWrong)

/-- 'drumlinelaw9.TableWhich': WHATEVER THE INPUT: true; the input reads as it did. -/
def tableWhichSpec : ChangeSpec := { name := "tableWhich", fn := fun _ => fun
  | [d1, d2, d3, d4] => { results := [.lit (.bool true)], args := [d1, d2, d3, d4] }
  | _ => none }
def tableWhichRow : OpenClaim := { program := "ytjhlibdiojepaaagreatdoor", sum := "ee7e7b0a625c43f2e75491ef78c16a253c4f3bcd8e17056cc95d6dfbfd5d5950", func := "drumline/drumlinelaw9.TableWhich", spec := "tableWhich", inPlace := ["internal/reflectlite.ValueOf", "(internal/reflectlite.Value).Type", "(internal/reflectlite.Value).IsNil", "internal/reflectlite.TypeOf", "(internal/reflectlite.Value).Elem", "(internal/reflectlite.Value).Set"], unfollowed := true, recurses := true, named := ["drumline/bounds.out", "errors.errorType"], apart := false, laid := [("errors.errorType", laid_errors_errorType), ("drumline/bounds.out", laid_drumline_bounds_out)] }
def TableWhichSaid : Prop := tableWhichRow.holds Tryz.pinned (OpenSpec.ofChange tableWhichSpec)

/-- ITS FALSE NEIGHBOUR: 'it returns false'. Refute it at one input. -/
def tableWhichWrong : ChangeSpec := { name := "tableWhich", fn := fun _ => fun
  | [d1, d2, d3, d4] => { results := [.lit (.bool false)], args := [d1, d2, d3, d4] }
  | _ => none }
def TableWhichWrongFalsely : Prop := tableWhichRow.holds Tryz.pinned (OpenSpec.ofChange tableWhichWrong)

/-- 'drumlinelaw9.TableOwns': WHATEVER THE INPUT: true; the input reads as it did. -/
def tableOwnsSpec : ChangeSpec := { name := "tableOwns", fn := fun _ => fun
  | [d1, d2, d3, d4] => { results := [.lit (.bool true)], args := [d1, d2, d3, d4] }
  | _ => none }
def tableOwnsRow : OpenClaim := { program := "ytjhlibdiojepaaagreatdoor", sum := "ee7e7b0a625c43f2e75491ef78c16a253c4f3bcd8e17056cc95d6dfbfd5d5950", func := "drumline/drumlinelaw9.TableOwns", spec := "tableOwns", inPlace := ["internal/reflectlite.ValueOf", "(internal/reflectlite.Value).Type", "(internal/reflectlite.Value).IsNil", "internal/reflectlite.TypeOf", "(internal/reflectlite.Value).Elem", "(internal/reflectlite.Value).Set"], unfollowed := true, recurses := true, named := ["drumline/bounds.out", "errors.errorType"], apart := false, laid := [("errors.errorType", laid_errors_errorType), ("drumline/bounds.out", laid_drumline_bounds_out)] }
def TableOwnsSaid : Prop := tableOwnsRow.holds Tryz.pinned (OpenSpec.ofChange tableOwnsSpec)

/-- ITS FALSE NEIGHBOUR: 'it returns false'. Refute it at one input. -/
def tableOwnsWrong : ChangeSpec := { name := "tableOwns", fn := fun _ => fun
  | [d1, d2, d3, d4] => { results := [.lit (.bool false)], args := [d1, d2, d3, d4] }
  | _ => none }
def TableOwnsWrongFalsely : Prop := tableOwnsRow.holds Tryz.pinned (OpenSpec.ofChange tableOwnsWrong)

/-- 'drumlinelaw16.SteerRates': WHATEVER THE INPUT: true; the input reads as it did. -/
def steerRatesSpec : ChangeSpec := { name := "steerRates", fn := fun _ => fun
  | [d1, d2] => { results := [.lit (.bool true)], args := [d1, d2] }
  | _ => none }
def steerRatesRow : OpenClaim := { program := "ytjhlibdiojepaaagreatdoor", sum := "ee7e7b0a625c43f2e75491ef78c16a253c4f3bcd8e17056cc95d6dfbfd5d5950", func := "drumline/drumlinelaw16.SteerRates", spec := "steerRates", inPlace := ["internal/reflectlite.ValueOf", "(internal/reflectlite.Value).Type", "(internal/reflectlite.Value).IsNil", "internal/reflectlite.TypeOf", "(internal/reflectlite.Value).Elem", "(internal/reflectlite.Value).Set"], unfollowed := true, recurses := true, named := ["drumline/bounds.out", "errors.errorType"], apart := false, laid := [("errors.errorType", laid_errors_errorType), ("drumline/bounds.out", laid_drumline_bounds_out)] }
def SteerRatesSaid : Prop := steerRatesRow.holds Tryz.pinned (OpenSpec.ofChange steerRatesSpec)

/-- ITS FALSE NEIGHBOUR: 'it returns false'. Refute it at one input. -/
def steerRatesWrong : ChangeSpec := { name := "steerRates", fn := fun _ => fun
  | [d1, d2] => { results := [.lit (.bool false)], args := [d1, d2] }
  | _ => none }
def SteerRatesWrongFalsely : Prop := steerRatesRow.holds Tryz.pinned (OpenSpec.ofChange steerRatesWrong)

/-- 'drumlinelaw16.SteerRaw': WHATEVER THE INPUT: true; the input reads as it did. -/
def steerRawSpec : ChangeSpec := { name := "steerRaw", fn := fun _ => fun
  | [d1, d2] => { results := [.lit (.bool true)], args := [d1, d2] }
  | _ => none }
def steerRawRow : OpenClaim := { program := "ytjhlibdiojepaaagreatdoor", sum := "ee7e7b0a625c43f2e75491ef78c16a253c4f3bcd8e17056cc95d6dfbfd5d5950", func := "drumline/drumlinelaw16.SteerRaw", spec := "steerRaw", inPlace := ["internal/reflectlite.ValueOf", "(internal/reflectlite.Value).Type", "(internal/reflectlite.Value).IsNil", "internal/reflectlite.TypeOf", "(internal/reflectlite.Value).Elem", "(internal/reflectlite.Value).Set"], unfollowed := true, recurses := true, named := ["drumline/bounds.out", "errors.errorType"], apart := false, laid := [("errors.errorType", laid_errors_errorType), ("drumline/bounds.out", laid_drumline_bounds_out)] }
def SteerRawSaid : Prop := steerRawRow.holds Tryz.pinned (OpenSpec.ofChange steerRawSpec)

/-- ITS FALSE NEIGHBOUR: 'it returns false'. Refute it at one input. -/
def steerRawWrong : ChangeSpec := { name := "steerRaw", fn := fun _ => fun
  | [d1, d2] => { results := [.lit (.bool false)], args := [d1, d2] }
  | _ => none }
def SteerRawWrongFalsely : Prop := steerRawRow.holds Tryz.pinned (OpenSpec.ofChange steerRawWrong)

/-- 'drumlinelaw16.SteerParents': WHATEVER THE INPUT: true; the input reads as it did. -/
def steerParentsSpec : ChangeSpec := { name := "steerParents", fn := fun _ => fun
  | [d1, d2, d3, d4] => { results := [.lit (.bool true)], args := [d1, d2, d3, d4] }
  | _ => none }
def steerParentsRow : OpenClaim := { program := "ytjhlibdiojepaaagreatdoor", sum := "ee7e7b0a625c43f2e75491ef78c16a253c4f3bcd8e17056cc95d6dfbfd5d5950", func := "drumline/drumlinelaw16.SteerParents", spec := "steerParents", inPlace := ["internal/reflectlite.ValueOf", "(internal/reflectlite.Value).Type", "(internal/reflectlite.Value).IsNil", "internal/reflectlite.TypeOf", "(internal/reflectlite.Value).Elem", "(internal/reflectlite.Value).Set"], unfollowed := true, recurses := true, named := ["drumline/bounds.out", "errors.errorType"], apart := false, laid := [("errors.errorType", laid_errors_errorType), ("drumline/bounds.out", laid_drumline_bounds_out)] }
def SteerParentsSaid : Prop := steerParentsRow.holds Tryz.pinned (OpenSpec.ofChange steerParentsSpec)

/-- ITS FALSE NEIGHBOUR: 'it returns false'. Refute it at one input. -/
def steerParentsWrong : ChangeSpec := { name := "steerParents", fn := fun _ => fun
  | [d1, d2, d3, d4] => { results := [.lit (.bool false)], args := [d1, d2, d3, d4] }
  | _ => none }
def SteerParentsWrongFalsely : Prop := steerParentsRow.holds Tryz.pinned (OpenSpec.ofChange steerParentsWrong)

/-- 'drumlinelaw16.SteerFollows': WHATEVER THE INPUT: true; the input reads as it did. -/
def steerFollowsSpec : ChangeSpec := { name := "steerFollows", fn := fun _ => fun
  | [d1, d2, d3] => { results := [.lit (.bool true)], args := [d1, d2, d3] }
  | _ => none }
def steerFollowsRow : OpenClaim := { program := "ytjhlibdiojepaaagreatdoor", sum := "ee7e7b0a625c43f2e75491ef78c16a253c4f3bcd8e17056cc95d6dfbfd5d5950", func := "drumline/drumlinelaw16.SteerFollows", spec := "steerFollows", inPlace := ["internal/reflectlite.ValueOf", "(internal/reflectlite.Value).Type", "(internal/reflectlite.Value).IsNil", "internal/reflectlite.TypeOf", "(internal/reflectlite.Value).Elem", "(internal/reflectlite.Value).Set"], unfollowed := true, recurses := true, named := ["drumline/bounds.out", "errors.errorType"], apart := false, laid := [("errors.errorType", laid_errors_errorType), ("drumline/bounds.out", laid_drumline_bounds_out)] }
def SteerFollowsSaid : Prop := steerFollowsRow.holds Tryz.pinned (OpenSpec.ofChange steerFollowsSpec)

/-- ITS FALSE NEIGHBOUR: 'it returns false'. Refute it at one input. -/
def steerFollowsWrong : ChangeSpec := { name := "steerFollows", fn := fun _ => fun
  | [d1, d2, d3] => { results := [.lit (.bool false)], args := [d1, d2, d3] }
  | _ => none }
def SteerFollowsWrongFalsely : Prop := steerFollowsRow.holds Tryz.pinned (OpenSpec.ofChange steerFollowsWrong)

/-- 'drumlinelaw16.SteerClamps': WHATEVER THE INPUT: true; the input reads as it did. -/
def steerClampsSpec : ChangeSpec := { name := "steerClamps", fn := fun _ => fun
  | [d1, d2] => { results := [.lit (.bool true)], args := [d1, d2] }
  | _ => none }
def steerClampsRow : OpenClaim := { program := "ytjhlibdiojepaaagreatdoor", sum := "ee7e7b0a625c43f2e75491ef78c16a253c4f3bcd8e17056cc95d6dfbfd5d5950", func := "drumline/drumlinelaw16.SteerClamps", spec := "steerClamps", inPlace := ["internal/reflectlite.ValueOf", "(internal/reflectlite.Value).Type", "(internal/reflectlite.Value).IsNil", "internal/reflectlite.TypeOf", "(internal/reflectlite.Value).Elem", "(internal/reflectlite.Value).Set"], unfollowed := true, recurses := true, named := ["drumline/bounds.out", "errors.errorType"], apart := false, laid := [("errors.errorType", laid_errors_errorType), ("drumline/bounds.out", laid_drumline_bounds_out)] }
def SteerClampsSaid : Prop := steerClampsRow.holds Tryz.pinned (OpenSpec.ofChange steerClampsSpec)

/-- ITS FALSE NEIGHBOUR: 'it returns false'. Refute it at one input. -/
def steerClampsWrong : ChangeSpec := { name := "steerClamps", fn := fun _ => fun
  | [d1, d2] => { results := [.lit (.bool false)], args := [d1, d2] }
  | _ => none }
def SteerClampsWrongFalsely : Prop := steerClampsRow.holds Tryz.pinned (OpenSpec.ofChange steerClampsWrong)

/-- 'drumlinelaw16.SteerMeets': WHATEVER THE INPUT: true; the input reads as it did. -/
def steerMeetsSpec : ChangeSpec := { name := "steerMeets", fn := fun _ => fun
  | [d1, d2] => { results := [.lit (.bool true)], args := [d1, d2] }
  | _ => none }
def steerMeetsRow : OpenClaim := { program := "ytjhlibdiojepaaagreatdoor", sum := "ee7e7b0a625c43f2e75491ef78c16a253c4f3bcd8e17056cc95d6dfbfd5d5950", func := "drumline/drumlinelaw16.SteerMeets", spec := "steerMeets", inPlace := ["internal/reflectlite.ValueOf", "(internal/reflectlite.Value).Type", "(internal/reflectlite.Value).IsNil", "internal/reflectlite.TypeOf", "(internal/reflectlite.Value).Elem", "(internal/reflectlite.Value).Set"], unfollowed := true, recurses := true, named := ["drumline/bounds.out", "errors.errorType"], apart := false, laid := [("errors.errorType", laid_errors_errorType), ("drumline/bounds.out", laid_drumline_bounds_out)] }
def SteerMeetsSaid : Prop := steerMeetsRow.holds Tryz.pinned (OpenSpec.ofChange steerMeetsSpec)

/-- ITS FALSE NEIGHBOUR: 'it returns false'. Refute it at one input. -/
def steerMeetsWrong : ChangeSpec := { name := "steerMeets", fn := fun _ => fun
  | [d1, d2] => { results := [.lit (.bool false)], args := [d1, d2] }
  | _ => none }
def SteerMeetsWrongFalsely : Prop := steerMeetsRow.holds Tryz.pinned (OpenSpec.ofChange steerMeetsWrong)

/-- 'drumlinelaw16.SteerAdopts': WHATEVER THE INPUT: true; the input reads as it did. -/
def steerAdoptsSpec : ChangeSpec := { name := "steerAdopts", fn := fun _ => fun
  | [d1, d2, d3, d4] => { results := [.lit (.bool true)], args := [d1, d2, d3, d4] }
  | _ => none }
def steerAdoptsRow : OpenClaim := { program := "ytjhlibdiojepaaagreatdoor", sum := "ee7e7b0a625c43f2e75491ef78c16a253c4f3bcd8e17056cc95d6dfbfd5d5950", func := "drumline/drumlinelaw16.SteerAdopts", spec := "steerAdopts", inPlace := ["internal/reflectlite.ValueOf", "(internal/reflectlite.Value).Type", "(internal/reflectlite.Value).IsNil", "internal/reflectlite.TypeOf", "(internal/reflectlite.Value).Elem", "(internal/reflectlite.Value).Set"], unfollowed := true, recurses := true, named := ["drumline/bounds.out", "errors.errorType"], apart := false, laid := [("errors.errorType", laid_errors_errorType), ("drumline/bounds.out", laid_drumline_bounds_out)] }
def SteerAdoptsSaid : Prop := steerAdoptsRow.holds Tryz.pinned (OpenSpec.ofChange steerAdoptsSpec)

/-- ITS FALSE NEIGHBOUR: 'it returns false'. Refute it at one input. -/
def steerAdoptsWrong : ChangeSpec := { name := "steerAdopts", fn := fun _ => fun
  | [d1, d2, d3, d4] => { results := [.lit (.bool false)], args := [d1, d2, d3, d4] }
  | _ => none }
def SteerAdoptsWrongFalsely : Prop := steerAdoptsRow.holds Tryz.pinned (OpenSpec.ofChange steerAdoptsWrong)

/- THE SECOND FORM. 'bulk': how many values and letters a reading holds, each counted each time it is reached (what is shared counts as often as it is met; a slice's spare places count too). A statement '..UptoSaid' is the law's where the arguments, and the package variables that the reading takes, are together of bulk at most 1048576: NARROWER than '..Said'. Prove '..Said' where nothing that the law and all that it calls make is longer than what came in: it says more and counts as full. Else prove '..UptoSaid'. A law counts once. -/
mutual
def uptoBulk {H : Type} : DataW H → Nat
  | .lit (.string bytes) => bytes.length + 1
  | .lit _ => 1
  | .nil => 1
  | .ptr d => uptoBulk d + 1
  | .slice elems spare => uptoBulkAll elems + uptoBulkAll spare + 1
  | .agg parts => uptoBulkAll parts + 1
  | .iface _ d => uptoBulk d + 1
  | .map entries => uptoBulkEntries entries + 1
  | .held _ => 1
def uptoBulkAll {H : Type} : List (DataW H) → Nat
  | [] => 0
  | d :: r => uptoBulk d + uptoBulkAll r
def uptoBulkEntries {H : Type} : List (Lit × DataW H) → Nat
  | [] => 0
  | x :: r => uptoBulkEntry x + uptoBulkEntries r
def uptoBulkEntry {H : Type} : Lit × DataW H → Nat
  | (.string bytes, d) => bytes.length + uptoBulk d + 1
  | (_, d) => uptoBulk d + 1
 end
def uptoSmall : (H : Type) → List (DataW H) → Bool := fun _ ds => decide (uptoBulkAll ds ≤ 1048576)
def OpenSpec.upto (s : _root_.Go.ChangeSpec) : _root_.Go.OpenSpec := { _root_.Go.OpenSpec.ofChange s with cond := some uptoSmall }

/-- 'drumlinelaw9.TableTells', WHERE WHAT IT READS IS OF BULK AT MOST 1048576: true; the input reads as it did. -/
def tableTellsUptoRow : OpenClaim := { program := "ytjhlibdiojepaaagreatdoor", sum := "ee7e7b0a625c43f2e75491ef78c16a253c4f3bcd8e17056cc95d6dfbfd5d5950", func := "drumline/drumlinelaw9.TableTells", spec := "tableTells", inPlace := ["internal/reflectlite.ValueOf", "(internal/reflectlite.Value).Type", "(internal/reflectlite.Value).IsNil", "internal/reflectlite.TypeOf", "(internal/reflectlite.Value).Elem", "(internal/reflectlite.Value).Set"], unfollowed := true, recurses := true, named := ["drumline/bounds.out", "errors.errorType"], apart := false, laid := [("errors.errorType", laid_errors_errorType), ("drumline/bounds.out", laid_drumline_bounds_out)], narrowed := true }
def TableTellsUptoSaid : Prop := tableTellsUptoRow.holds Tryz.pinned (OpenSpec.upto tableTellsSpec)

/-- 'drumlinelaw9.TableMade', WHERE WHAT IT READS IS OF BULK AT MOST 1048576: true; the input reads as it did. -/
def tableMadeUptoRow : OpenClaim := { program := "ytjhlibdiojepaaagreatdoor", sum := "ee7e7b0a625c43f2e75491ef78c16a253c4f3bcd8e17056cc95d6dfbfd5d5950", func := "drumline/drumlinelaw9.TableMade", spec := "tableMade", inPlace := ["internal/reflectlite.ValueOf", "(internal/reflectlite.Value).Type", "(internal/reflectlite.Value).IsNil", "internal/reflectlite.TypeOf", "(internal/reflectlite.Value).Elem", "(internal/reflectlite.Value).Set"], unfollowed := true, recurses := true, named := ["drumline/bounds.out", "errors.errorType"], apart := false, laid := [("errors.errorType", laid_errors_errorType), ("drumline/bounds.out", laid_drumline_bounds_out)], narrowed := true }
def TableMadeUptoSaid : Prop := tableMadeUptoRow.holds Tryz.pinned (OpenSpec.upto tableMadeSpec)

/-- 'drumlinelaw9.TableApart', WHERE WHAT IT READS IS OF BULK AT MOST 1048576: true; the input reads as it did. -/
def tableApartUptoRow : OpenClaim := { program := "ytjhlibdiojepaaagreatdoor", sum := "ee7e7b0a625c43f2e75491ef78c16a253c4f3bcd8e17056cc95d6dfbfd5d5950", func := "drumline/drumlinelaw9.TableApart", spec := "tableApart", inPlace := ["internal/reflectlite.ValueOf", "(internal/reflectlite.Value).Type", "(internal/reflectlite.Value).IsNil", "internal/reflectlite.TypeOf", "(internal/reflectlite.Value).Elem", "(internal/reflectlite.Value).Set"], unfollowed := true, recurses := true, named := ["drumline/bounds.out", "errors.errorType"], apart := false, laid := [("errors.errorType", laid_errors_errorType), ("drumline/bounds.out", laid_drumline_bounds_out)], narrowed := true }
def TableApartUptoSaid : Prop := tableApartUptoRow.holds Tryz.pinned (OpenSpec.upto tableApartSpec)

/-- 'drumlinelaw9.TableWhich', WHERE WHAT IT READS IS OF BULK AT MOST 1048576: true; the input reads as it did. -/
def tableWhichUptoRow : OpenClaim := { program := "ytjhlibdiojepaaagreatdoor", sum := "ee7e7b0a625c43f2e75491ef78c16a253c4f3bcd8e17056cc95d6dfbfd5d5950", func := "drumline/drumlinelaw9.TableWhich", spec := "tableWhich", inPlace := ["internal/reflectlite.ValueOf", "(internal/reflectlite.Value).Type", "(internal/reflectlite.Value).IsNil", "internal/reflectlite.TypeOf", "(internal/reflectlite.Value).Elem", "(internal/reflectlite.Value).Set"], unfollowed := true, recurses := true, named := ["drumline/bounds.out", "errors.errorType"], apart := false, laid := [("errors.errorType", laid_errors_errorType), ("drumline/bounds.out", laid_drumline_bounds_out)], narrowed := true }
def TableWhichUptoSaid : Prop := tableWhichUptoRow.holds Tryz.pinned (OpenSpec.upto tableWhichSpec)

/-- 'drumlinelaw9.TableOwns', WHERE WHAT IT READS IS OF BULK AT MOST 1048576: true; the input reads as it did. -/
def tableOwnsUptoRow : OpenClaim := { program := "ytjhlibdiojepaaagreatdoor", sum := "ee7e7b0a625c43f2e75491ef78c16a253c4f3bcd8e17056cc95d6dfbfd5d5950", func := "drumline/drumlinelaw9.TableOwns", spec := "tableOwns", inPlace := ["internal/reflectlite.ValueOf", "(internal/reflectlite.Value).Type", "(internal/reflectlite.Value).IsNil", "internal/reflectlite.TypeOf", "(internal/reflectlite.Value).Elem", "(internal/reflectlite.Value).Set"], unfollowed := true, recurses := true, named := ["drumline/bounds.out", "errors.errorType"], apart := false, laid := [("errors.errorType", laid_errors_errorType), ("drumline/bounds.out", laid_drumline_bounds_out)], narrowed := true }
def TableOwnsUptoSaid : Prop := tableOwnsUptoRow.holds Tryz.pinned (OpenSpec.upto tableOwnsSpec)

/-- 'drumlinelaw16.SteerRates', WHERE WHAT IT READS IS OF BULK AT MOST 1048576: true; the input reads as it did. -/
def steerRatesUptoRow : OpenClaim := { program := "ytjhlibdiojepaaagreatdoor", sum := "ee7e7b0a625c43f2e75491ef78c16a253c4f3bcd8e17056cc95d6dfbfd5d5950", func := "drumline/drumlinelaw16.SteerRates", spec := "steerRates", inPlace := ["internal/reflectlite.ValueOf", "(internal/reflectlite.Value).Type", "(internal/reflectlite.Value).IsNil", "internal/reflectlite.TypeOf", "(internal/reflectlite.Value).Elem", "(internal/reflectlite.Value).Set"], unfollowed := true, recurses := true, named := ["drumline/bounds.out", "errors.errorType"], apart := false, laid := [("errors.errorType", laid_errors_errorType), ("drumline/bounds.out", laid_drumline_bounds_out)], narrowed := true }
def SteerRatesUptoSaid : Prop := steerRatesUptoRow.holds Tryz.pinned (OpenSpec.upto steerRatesSpec)

/-- 'drumlinelaw16.SteerRaw', WHERE WHAT IT READS IS OF BULK AT MOST 1048576: true; the input reads as it did. -/
def steerRawUptoRow : OpenClaim := { program := "ytjhlibdiojepaaagreatdoor", sum := "ee7e7b0a625c43f2e75491ef78c16a253c4f3bcd8e17056cc95d6dfbfd5d5950", func := "drumline/drumlinelaw16.SteerRaw", spec := "steerRaw", inPlace := ["internal/reflectlite.ValueOf", "(internal/reflectlite.Value).Type", "(internal/reflectlite.Value).IsNil", "internal/reflectlite.TypeOf", "(internal/reflectlite.Value).Elem", "(internal/reflectlite.Value).Set"], unfollowed := true, recurses := true, named := ["drumline/bounds.out", "errors.errorType"], apart := false, laid := [("errors.errorType", laid_errors_errorType), ("drumline/bounds.out", laid_drumline_bounds_out)], narrowed := true }
def SteerRawUptoSaid : Prop := steerRawUptoRow.holds Tryz.pinned (OpenSpec.upto steerRawSpec)

/-- 'drumlinelaw16.SteerParents', WHERE WHAT IT READS IS OF BULK AT MOST 1048576: true; the input reads as it did. -/
def steerParentsUptoRow : OpenClaim := { program := "ytjhlibdiojepaaagreatdoor", sum := "ee7e7b0a625c43f2e75491ef78c16a253c4f3bcd8e17056cc95d6dfbfd5d5950", func := "drumline/drumlinelaw16.SteerParents", spec := "steerParents", inPlace := ["internal/reflectlite.ValueOf", "(internal/reflectlite.Value).Type", "(internal/reflectlite.Value).IsNil", "internal/reflectlite.TypeOf", "(internal/reflectlite.Value).Elem", "(internal/reflectlite.Value).Set"], unfollowed := true, recurses := true, named := ["drumline/bounds.out", "errors.errorType"], apart := false, laid := [("errors.errorType", laid_errors_errorType), ("drumline/bounds.out", laid_drumline_bounds_out)], narrowed := true }
def SteerParentsUptoSaid : Prop := steerParentsUptoRow.holds Tryz.pinned (OpenSpec.upto steerParentsSpec)

/-- 'drumlinelaw16.SteerFollows', WHERE WHAT IT READS IS OF BULK AT MOST 1048576: true; the input reads as it did. -/
def steerFollowsUptoRow : OpenClaim := { program := "ytjhlibdiojepaaagreatdoor", sum := "ee7e7b0a625c43f2e75491ef78c16a253c4f3bcd8e17056cc95d6dfbfd5d5950", func := "drumline/drumlinelaw16.SteerFollows", spec := "steerFollows", inPlace := ["internal/reflectlite.ValueOf", "(internal/reflectlite.Value).Type", "(internal/reflectlite.Value).IsNil", "internal/reflectlite.TypeOf", "(internal/reflectlite.Value).Elem", "(internal/reflectlite.Value).Set"], unfollowed := true, recurses := true, named := ["drumline/bounds.out", "errors.errorType"], apart := false, laid := [("errors.errorType", laid_errors_errorType), ("drumline/bounds.out", laid_drumline_bounds_out)], narrowed := true }
def SteerFollowsUptoSaid : Prop := steerFollowsUptoRow.holds Tryz.pinned (OpenSpec.upto steerFollowsSpec)

/-- 'drumlinelaw16.SteerClamps', WHERE WHAT IT READS IS OF BULK AT MOST 1048576: true; the input reads as it did. -/
def steerClampsUptoRow : OpenClaim := { program := "ytjhlibdiojepaaagreatdoor", sum := "ee7e7b0a625c43f2e75491ef78c16a253c4f3bcd8e17056cc95d6dfbfd5d5950", func := "drumline/drumlinelaw16.SteerClamps", spec := "steerClamps", inPlace := ["internal/reflectlite.ValueOf", "(internal/reflectlite.Value).Type", "(internal/reflectlite.Value).IsNil", "internal/reflectlite.TypeOf", "(internal/reflectlite.Value).Elem", "(internal/reflectlite.Value).Set"], unfollowed := true, recurses := true, named := ["drumline/bounds.out", "errors.errorType"], apart := false, laid := [("errors.errorType", laid_errors_errorType), ("drumline/bounds.out", laid_drumline_bounds_out)], narrowed := true }
def SteerClampsUptoSaid : Prop := steerClampsUptoRow.holds Tryz.pinned (OpenSpec.upto steerClampsSpec)

/-- 'drumlinelaw16.SteerMeets', WHERE WHAT IT READS IS OF BULK AT MOST 1048576: true; the input reads as it did. -/
def steerMeetsUptoRow : OpenClaim := { program := "ytjhlibdiojepaaagreatdoor", sum := "ee7e7b0a625c43f2e75491ef78c16a253c4f3bcd8e17056cc95d6dfbfd5d5950", func := "drumline/drumlinelaw16.SteerMeets", spec := "steerMeets", inPlace := ["internal/reflectlite.ValueOf", "(internal/reflectlite.Value).Type", "(internal/reflectlite.Value).IsNil", "internal/reflectlite.TypeOf", "(internal/reflectlite.Value).Elem", "(internal/reflectlite.Value).Set"], unfollowed := true, recurses := true, named := ["drumline/bounds.out", "errors.errorType"], apart := false, laid := [("errors.errorType", laid_errors_errorType), ("drumline/bounds.out", laid_drumline_bounds_out)], narrowed := true }
def SteerMeetsUptoSaid : Prop := steerMeetsUptoRow.holds Tryz.pinned (OpenSpec.upto steerMeetsSpec)

/-- 'drumlinelaw16.SteerAdopts', WHERE WHAT IT READS IS OF BULK AT MOST 1048576: true; the input reads as it did. -/
def steerAdoptsUptoRow : OpenClaim := { program := "ytjhlibdiojepaaagreatdoor", sum := "ee7e7b0a625c43f2e75491ef78c16a253c4f3bcd8e17056cc95d6dfbfd5d5950", func := "drumline/drumlinelaw16.SteerAdopts", spec := "steerAdopts", inPlace := ["internal/reflectlite.ValueOf", "(internal/reflectlite.Value).Type", "(internal/reflectlite.Value).IsNil", "internal/reflectlite.TypeOf", "(internal/reflectlite.Value).Elem", "(internal/reflectlite.Value).Set"], unfollowed := true, recurses := true, named := ["drumline/bounds.out", "errors.errorType"], apart := false, laid := [("errors.errorType", laid_errors_errorType), ("drumline/bounds.out", laid_drumline_bounds_out)], narrowed := true }
def SteerAdoptsUptoSaid : Prop := steerAdoptsUptoRow.holds Tryz.pinned (OpenSpec.upto steerAdoptsSpec)

end Rows
end Go.Proofs.YtjhlibdiojepaaaGreatDoor
