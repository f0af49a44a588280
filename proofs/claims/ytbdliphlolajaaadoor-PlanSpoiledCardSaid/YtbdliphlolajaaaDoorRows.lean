/-
  NARROWER THAN 'FOR EVERY INPUT', by the rows' own cells (each row's printed sentence says how): PlanChecks: laid · PlanTells: laid · PlanFar: laid · PlanSpoiled: laid · PlanPorts: laid.
  DERIVED. THE GIVEN ROWS OF THIS SEAT. 5 by the template 'for every input the law returns true; each argument reads behind the call as it read before'; 0 by the template 'total and deterministic' (their statements: YtbdliphlolajaaaDoorTotals.lean).
  GIVEN WITH THE SEED: the statements are not yours to turn. If you find one false, say at which input.
  Laid BY PROGRAM, IN A SANDBOX (cutbox-rows.mjs): the forced cells as the released guide's own fill.sh prints them over the translation 1cb65aae1703ee84… (all of the seat's roots in one cut). By AI agents, Wed Nov 11 2026. No macro, syntax, notation, axiom, sorry.
-/
import Derived.Test.YtbdliphlolajaaaDoorChecked
import GoSem.Claim
import GoSem.ClaimJoined
import GoSem.ClaimMapViews
import Derived.JoinedTies
import Derived.KernelRfl
namespace Go.Proofs.YtbdliphlolajaaaDoor
/- THE CELL 'sum', in the pinned program and in every row, IS THE sha256 OF THE DUMP (.gsa) THAT YtbdliphlolajaaaDoorProg.lean LOADS. Nothing in Lean hashes anything: it is a label: what it is worth is what the hold of that sum in a sandbox is worth. -/
noncomputable def Tryd.pinned : Pinned := { name := "ytbdliphlolajaaadoor", sum := "1cb65aae1703ee84fd9086d7750e50d824c0ecbbe85474fb0a5e30200d677a71", checked := Tryd.checked }
namespace Rows
def none {H : Type} : Left H := { results := [], args := [] }

/- WHAT THE LISTED PACKAGE-LEVEL VARIABLES READ AS WHEN THE CALL BEGINS. Each datum BY PROGRAM (the guide's laid-datum.mjs) off the statement by which the dump's own 'gosem.cut.vars' lays the variable. In a bare row this is a premise. The card (YtbdliphlolajaaaDoorCards.lean) ties it to the program's text. -/
def laid_errors_errorType {H : Type} : DataW H := .iface "internal/reflectlite.rtype" (.agg [.ptr (.lit (.string [101, 114, 114, 111, 114]))])

/-- 'drumlinelaw5.PlanChecks': WHATEVER THE INPUT: true; the input reads as it did. -/
def planChecksSpec : ChangeSpec := { name := "planChecks", fn := fun _ => fun
  | [d] => { results := [.lit (.bool true)], args := [d] }
  | _ => none }
def planChecksRow : OpenClaim := { program := "ytbdliphlolajaaadoor", sum := "1cb65aae1703ee84fd9086d7750e50d824c0ecbbe85474fb0a5e30200d677a71", func := "drumline/drumlinelaw5.PlanChecks", spec := "planChecks", inPlace := ["internal/reflectlite.ValueOf", "(internal/reflectlite.Value).Type", "(internal/reflectlite.Value).IsNil", "internal/reflectlite.TypeOf", "(internal/reflectlite.Value).Elem", "(internal/reflectlite.Value).Set"], unfollowed := true, recurses := true, named := ["errors.errorType"], apart := false, laid := [("errors.errorType", laid_errors_errorType)] }
def PlanChecksSaid : Prop := planChecksRow.holds Tryd.pinned (OpenSpec.ofChange planChecksSpec)

/-- ITS FALSE NEIGHBOUR: 'it returns false'. Refute it at one input. -/
def planChecksWrong : ChangeSpec := { name := "planChecks", fn := fun _ => fun
  | [d] => { results := [.lit (.bool false)], args := [d] }
  | _ => none }
def PlanChecksWrongFalsely : Prop := planChecksRow.holds Tryd.pinned (OpenSpec.ofChange planChecksWrong)

/-- 'drumlinelaw5.PlanTells': WHATEVER THE INPUT: true; the input reads as it did. -/
def planTellsSpec : ChangeSpec := { name := "planTells", fn := fun _ => fun
  | [d1, d2, d3] => { results := [.lit (.bool true)], args := [d1, d2, d3] }
  | _ => none }
def planTellsRow : OpenClaim := { program := "ytbdliphlolajaaadoor", sum := "1cb65aae1703ee84fd9086d7750e50d824c0ecbbe85474fb0a5e30200d677a71", func := "drumline/drumlinelaw5.PlanTells", spec := "planTells", inPlace := ["internal/reflectlite.ValueOf", "(internal/reflectlite.Value).Type", "(internal/reflectlite.Value).IsNil", "internal/reflectlite.TypeOf", "(internal/reflectlite.Value).Elem", "(internal/reflectlite.Value).Set"], unfollowed := true, recurses := true, named := ["errors.errorType"], apart := false, laid := [("errors.errorType", laid_errors_errorType)] }
def PlanTellsSaid : Prop := planTellsRow.holds Tryd.pinned (OpenSpec.ofChange planTellsSpec)

/-- ITS FALSE NEIGHBOUR: 'it returns false'. Refute it at one input. -/
def planTellsWrong : ChangeSpec := { name := "planTells", fn := fun _ => fun
  | [d1, d2, d3] => { results := [.lit (.bool false)], args := [d1, d2, d3] }
  | _ => none }
def PlanTellsWrongFalsely : Prop := planTellsRow.holds Tryd.pinned (OpenSpec.ofChange planTellsWrong)

/-- 'drumlinelaw5.PlanFar': WHATEVER THE INPUT: true; the input reads as it did. -/
def planFarSpec : ChangeSpec := { name := "planFar", fn := fun _ => fun
  | [d1, d2, d3] => { results := [.lit (.bool true)], args := [d1, d2, d3] }
  | _ => none }
def planFarRow : OpenClaim := { program := "ytbdliphlolajaaadoor", sum := "1cb65aae1703ee84fd9086d7750e50d824c0ecbbe85474fb0a5e30200d677a71", func := "drumline/drumlinelaw5.PlanFar", spec := "planFar", inPlace := ["internal/reflectlite.ValueOf", "(internal/reflectlite.Value).Type", "(internal/reflectlite.Value).IsNil", "internal/reflectlite.TypeOf", "(internal/reflectlite.Value).Elem", "(internal/reflectlite.Value).Set"], unfollowed := true, recurses := true, named := ["errors.errorType"], apart := false, laid := [("errors.errorType", laid_errors_errorType)] }
def PlanFarSaid : Prop := planFarRow.holds Tryd.pinned (OpenSpec.ofChange planFarSpec)

/-- ITS FALSE NEIGHBOUR: 'it returns false'. Refute it at one input. -/
def planFarWrong : ChangeSpec := { name := "planFar", fn := fun _ => fun
  | [d1, d2, d3] => { results := [.lit (.bool false)], args := [d1, d2, d3] }
  | _ => none }
def PlanFarWrongFalsely : Prop := planFarRow.holds Tryd.pinned (OpenSpec.ofChange planFarWrong)

/-- 'drumlinelaw5.PlanSpoiled': WHATEVER THE INPUT: true; the input reads as it did. -/
def planSpoiledSpec : ChangeSpec := { name := "planSpoiled", fn := fun _ => fun
  | [d1, d2, d3, d4] => { results := [.lit (.bool true)], args := [d1, d2, d3, d4] }
  | _ => none }
def planSpoiledRow : OpenClaim := { program := "ytbdliphlolajaaadoor", sum := "1cb65aae1703ee84fd9086d7750e50d824c0ecbbe85474fb0a5e30200d677a71", func := "drumline/drumlinelaw5.PlanSpoiled", spec := "planSpoiled", inPlace := ["internal/reflectlite.ValueOf", "(internal/reflectlite.Value).Type", "(internal/reflectlite.Value).IsNil", "internal/reflectlite.TypeOf", "(internal/reflectlite.Value).Elem", "(internal/reflectlite.Value).Set"], unfollowed := true, recurses := true, named := ["errors.errorType"], apart := false, laid := [("errors.errorType", laid_errors_errorType)] }
def PlanSpoiledSaid : Prop := planSpoiledRow.holds Tryd.pinned (OpenSpec.ofChange planSpoiledSpec)

/-- ITS FALSE NEIGHBOUR: 'it returns false'. Refute it at one input. -/
def planSpoiledWrong : ChangeSpec := { name := "planSpoiled", fn := fun _ => fun
  | [d1, d2, d3, d4] => { results := [.lit (.bool false)], args := [d1, d2, d3, d4] }
  | _ => none }
def PlanSpoiledWrongFalsely : Prop := planSpoiledRow.holds Tryd.pinned (OpenSpec.ofChange planSpoiledWrong)

/-- 'drumlinelaw5.PlanPorts': WHATEVER THE INPUT: true; the input reads as it did. -/
def planPortsSpec : ChangeSpec := { name := "planPorts", fn := fun _ => fun
  | [d] => { results := [.lit (.bool true)], args := [d] }
  | _ => none }
def planPortsRow : OpenClaim := { program := "ytbdliphlolajaaadoor", sum := "1cb65aae1703ee84fd9086d7750e50d824c0ecbbe85474fb0a5e30200d677a71", func := "drumline/drumlinelaw5.PlanPorts", spec := "planPorts", inPlace := ["internal/reflectlite.ValueOf", "(internal/reflectlite.Value).Type", "(internal/reflectlite.Value).IsNil", "internal/reflectlite.TypeOf", "(internal/reflectlite.Value).Elem", "(internal/reflectlite.Value).Set"], unfollowed := true, recurses := true, named := ["errors.errorType"], apart := false, laid := [("errors.errorType", laid_errors_errorType)] }
def PlanPortsSaid : Prop := planPortsRow.holds Tryd.pinned (OpenSpec.ofChange planPortsSpec)

/-- ITS FALSE NEIGHBOUR: 'it returns false'. Refute it at one input. -/
def planPortsWrong : ChangeSpec := { name := "planPorts", fn := fun _ => fun
  | [d] => { results := [.lit (.bool false)], args := [d] }
  | _ => none }
def PlanPortsWrongFalsely : Prop := planPortsRow.holds Tryd.pinned (OpenSpec.ofChange planPortsWrong)

/- THE SECOND FORM. 'bulk': how many values and letters a reading holds, each counted each time it is reached (what is shared counts as often as it is met; a slice's spare places count too). A statement '..UptoSaid' is the law's where the arguments, and the package variables that the reading takes, are together of bulk at most 1048576: NARROWER than '..Said'. Prove '..Said' where nothing that the law and all that it calls make is longer than what came in: it says more and counts as full. Else prove '..UptoSaid'. A law counts once. -/
mutual
def uptoBulk {H : Type} : DataW H → Nat
  | .lit (.string bytes) => bytes.length + 1
  | .lit _ => 1
  | .nil => 1
  | .ptr d => uptoBulk d + 1
  | .slice elems spare => uptoBulkAll elems + uptoBulkAll spare + 1
  | .agg parts => uptoBulkAll parts + 1
  | .iface _ d => uptoBulk d + 1
  | .map entries => uptoBulkEntries entries + 1
  | .held _ => 1
def uptoBulkAll {H : Type} : List (DataW H) → Nat
  | [] => 0
  | d :: r => uptoBulk d + uptoBulkAll r
def uptoBulkEntries {H : Type} : List (Lit × DataW H) → Nat
  | [] => 0
  | x :: r => uptoBulkEntry x + uptoBulkEntries r
def uptoBulkEntry {H : Type} : Lit × DataW H → Nat
  | (.string bytes, d) => bytes.length + uptoBulk d + 1
  | (_, d) => uptoBulk d + 1
 end
def uptoSmall : (H : Type) → List (DataW H) → Bool := fun _ ds => decide (uptoBulkAll ds ≤ 1048576)
def OpenSpec.upto (s : _root_.Go.ChangeSpec) : _root_.Go.OpenSpec := { _root_.Go.OpenSpec.ofChange s with cond := some uptoSmall }

/-- 'drumlinelaw5.PlanChecks', WHERE WHAT IT READS IS OF BULK AT MOST 1048576: true; the input reads as it did. -/
def planChecksUptoRow : OpenClaim := { program := "ytbdliphlolajaaadoor", sum := "1cb65aae1703ee84fd9086d7750e50d824c0ecbbe85474fb0a5e30200d677a71", func := "drumline/drumlinelaw5.PlanChecks", spec := "planChecks", inPlace := ["internal/reflectlite.ValueOf", "(internal/reflectlite.Value).Type", "(internal/reflectlite.Value).IsNil", "internal/reflectlite.TypeOf", "(internal/reflectlite.Value).Elem", "(internal/reflectlite.Value).Set"], unfollowed := true, recurses := true, named := ["errors.errorType"], apart := false, laid := [("errors.errorType", laid_errors_errorType)], narrowed := true }
def PlanChecksUptoSaid : Prop := planChecksUptoRow.holds Tryd.pinned (OpenSpec.upto planChecksSpec)

/-- 'drumlinelaw5.PlanTells', WHERE WHAT IT READS IS OF BULK AT MOST 1048576: true; the input reads as it did. -/
def planTellsUptoRow : OpenClaim := { program := "ytbdliphlolajaaadoor", sum := "1cb65aae1703ee84fd9086d7750e50d824c0ecbbe85474fb0a5e30200d677a71", func := "drumline/drumlinelaw5.PlanTells", spec := "planTells", inPlace := ["internal/reflectlite.ValueOf", "(internal/reflectlite.Value).Type", "(internal/reflectlite.Value).IsNil", "internal/reflectlite.TypeOf", "(internal/reflectlite.Value).Elem", "(internal/reflectlite.Value).Set"], unfollowed := true, recurses := true, named := ["errors.errorType"], apart := false, laid := [("errors.errorType", laid_errors_errorType)], narrowed := true }
def PlanTellsUptoSaid : Prop := planTellsUptoRow.holds Tryd.pinned (OpenSpec.upto planTellsSpec)

/-- 'drumlinelaw5.PlanFar', WHERE WHAT IT READS IS OF BULK AT MOST 1048576: true; the input reads as it did. -/
def planFarUptoRow : OpenClaim := { program := "ytbdliphlolajaaadoor", sum := "1cb65aae1703ee84fd9086d7750e50d824c0ecbbe85474fb0a5e30200d677a71", func := "drumline/drumlinelaw5.PlanFar", spec := "planFar", inPlace := ["internal/reflectlite.ValueOf", "(internal/reflectlite.Value).Type", "(internal/reflectlite.Value).IsNil", "internal/reflectlite.TypeOf", "(internal/reflectlite.Value).Elem", "(internal/reflectlite.Value).Set"], unfollowed := true, recurses := true, named := ["errors.errorType"], apart := false, laid := [("errors.errorType", laid_errors_errorType)], narrowed := true }
def PlanFarUptoSaid : Prop := planFarUptoRow.holds Tryd.pinned (OpenSpec.upto planFarSpec)

/-- 'drumlinelaw5.PlanSpoiled', WHERE WHAT IT READS IS OF BULK AT MOST 1048576: true; the input reads as it did. -/
def planSpoiledUptoRow : OpenClaim := { program := "ytbdliphlolajaaadoor", sum := "1cb65aae1703ee84fd9086d7750e50d824c0ecbbe85474fb0a5e30200d677a71", func := "drumline/drumlinelaw5.PlanSpoiled", spec := "planSpoiled", inPlace := ["internal/reflectlite.ValueOf", "(internal/reflectlite.Value).Type", "(internal/reflectlite.Value).IsNil", "internal/reflectlite.TypeOf", "(internal/reflectlite.Value).Elem", "(internal/reflectlite.Value).Set"], unfollowed := true, recurses := true, named := ["errors.errorType"], apart := false, laid := [("errors.errorType", laid_errors_errorType)], narrowed := true }
def PlanSpoiledUptoSaid : Prop := planSpoiledUptoRow.holds Tryd.pinned (OpenSpec.upto planSpoiledSpec)

/-- 'drumlinelaw5.PlanPorts', WHERE WHAT IT READS IS OF BULK AT MOST 1048576: true; the input reads as it did. -/
def planPortsUptoRow : OpenClaim := { program := "ytbdliphlolajaaadoor", sum := "1cb65aae1703ee84fd9086d7750e50d824c0ecbbe85474fb0a5e30200d677a71", func := "drumline/drumlinelaw5.PlanPorts", spec := "planPorts", inPlace := ["internal/reflectlite.ValueOf", "(internal/reflectlite.Value).Type", "(internal/reflectlite.Value).IsNil", "internal/reflectlite.TypeOf", "(internal/reflectlite.Value).Elem", "(internal/reflectlite.Value).Set"], unfollowed := true, recurses := true, named := ["errors.errorType"], apart := false, laid := [("errors.errorType", laid_errors_errorType)], narrowed := true }
def PlanPortsUptoSaid : Prop := planPortsUptoRow.holds Tryd.pinned (OpenSpec.upto planPortsSpec)

end Rows
end Go.Proofs.YtbdliphlolajaaaDoor
