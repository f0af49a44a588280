/-
  NARROWER THAN 'FOR EVERY INPUT', by the rows' own cells (each row's printed sentence says how): BoundsFits: laid · BoundsEdge: laid · BoundsGrow: laid · BoundsFirst: laid · BoundsSet: laid · BoundsTells: laid.
  DERIVED. THE GIVEN ROWS OF THIS SEAT. 6 by the template 'for every input the law returns true; each argument reads behind the call as it read before'; 0 by the template 'total and deterministic' (their statements: YtbdliphlolajaaaGreatDoorTotals.lean).
  GIVEN WITH THE SEED: the statements are not yours to turn. If you find one false, say at which input.
  Laid BY PROGRAM, IN A SANDBOX (cutbox-rows.mjs): the forced cells as the released guide's own fill.sh prints them over the translation abf237927a2db867… (all of the seat's roots in one cut). By AI agents, Wed Nov 11 2026. No macro, syntax, notation, axiom, sorry.
-/
import Derived.Test.YtbdliphlolajaaaGreatDoorChecked
import GoSem.Claim
import GoSem.ClaimJoined
import GoSem.ClaimMapViews
import Derived.JoinedTies
import Derived.KernelRfl
namespace Go.Proofs.YtbdliphlolajaaaGreatDoor
/- THE CELL 'sum', in the pinned program and in every row, IS THE sha256 OF THE DUMP (.gsa) THAT YtbdliphlolajaaaGreatDoorProg.lean LOADS. Nothing in Lean hashes anything: it is a label: what it is worth is what the hold of that sum in a sandbox is worth. -/
noncomputable def Tryz.pinned : Pinned := { name := "ytbdliphlolajaaagreatdoor", sum := "abf237927a2db867f2f5615a6a5b351b4b103221b3849c5f3efcd3c2d3cdd0ae", checked := Tryz.checked }
namespace Rows
def none {H : Type} : Left H := { results := [], args := [] }

/- WHAT THE LISTED PACKAGE-LEVEL VARIABLES READ AS WHEN THE CALL BEGINS. Each datum BY PROGRAM (the guide's laid-datum.mjs) off the statement by which the dump's own 'gosem.cut.vars' lays the variable. In a bare row this is a premise. The card (YtbdliphlolajaaaGreatDoorCards.lean) ties it to the program's text. -/
def laid_errors_errorType {H : Type} : DataW H := .iface "internal/reflectlite.rtype" (.agg [.ptr (.lit (.string [101, 114, 114, 111, 114]))])
def laid_drumline_bounds_out {H : Type} : DataW H := .iface "*errors.errorString" (.ptr (.agg [.lit (.string [98, 111, 117, 110, 100, 115, 58, 32, 111, 117, 116, 32, 111, 102, 32, 114, 97, 110, 103, 101])]))

/-- 'drumlinelaw7.BoundsFits': WHATEVER THE INPUT: true; the input reads as it did. -/
def boundsFitsSpec : ChangeSpec := { name := "boundsFits", fn := fun _ => fun
  | [d] => { results := [.lit (.bool true)], args := [d] }
  | _ => none }
def boundsFitsRow : OpenClaim := { program := "ytbdliphlolajaaagreatdoor", sum := "abf237927a2db867f2f5615a6a5b351b4b103221b3849c5f3efcd3c2d3cdd0ae", func := "drumline/drumlinelaw7.BoundsFits", spec := "boundsFits", inPlace := ["internal/reflectlite.ValueOf", "(internal/reflectlite.Value).Type", "(internal/reflectlite.Value).IsNil", "internal/reflectlite.TypeOf", "(internal/reflectlite.Value).Elem", "(internal/reflectlite.Value).Set"], unfollowed := true, recurses := true, named := ["drumline/bounds.out", "errors.errorType"], apart := false, laid := [("errors.errorType", laid_errors_errorType), ("drumline/bounds.out", laid_drumline_bounds_out)] }
def BoundsFitsSaid : Prop := boundsFitsRow.holds Tryz.pinned (OpenSpec.ofChange boundsFitsSpec)

/-- ITS FALSE NEIGHBOUR: 'it returns false'. Refute it at one input. -/
def boundsFitsWrong : ChangeSpec := { name := "boundsFits", fn := fun _ => fun
  | [d] => { results := [.lit (.bool false)], args := [d] }
  | _ => none }
def BoundsFitsWrongFalsely : Prop := boundsFitsRow.holds Tryz.pinned (OpenSpec.ofChange boundsFitsWrong)

/-- 'drumlinelaw7.BoundsEdge': WHATEVER THE INPUT: true; the input reads as it did. -/
def boundsEdgeSpec : ChangeSpec := { name := "boundsEdge", fn := fun _ => fun
  | [d] => { results := [.lit (.bool true)], args := [d] }
  | _ => none }
def boundsEdgeRow : OpenClaim := { program := "ytbdliphlolajaaagreatdoor", sum := "abf237927a2db867f2f5615a6a5b351b4b103221b3849c5f3efcd3c2d3cdd0ae", func := "drumline/drumlinelaw7.BoundsEdge", spec := "boundsEdge", inPlace := ["internal/reflectlite.ValueOf", "(internal/reflectlite.Value).Type", "(internal/reflectlite.Value).IsNil", "internal/reflectlite.TypeOf", "(internal/reflectlite.Value).Elem", "(internal/reflectlite.Value).Set"], unfollowed := true, recurses := true, named := ["drumline/bounds.out", "errors.errorType"], apart := false, laid := [("errors.errorType", laid_errors_errorType), ("drumline/bounds.out", laid_drumline_bounds_out)] }
def BoundsEdgeSaid : Prop := boundsEdgeRow.holds Tryz.pinned (OpenSpec.ofChange boundsEdgeSpec)

/-- ITS FALSE NEIGHBOUR: 'it returns false'. Refute it at one input. -/
def boundsEdgeWrong : ChangeSpec := { name := "boundsEdge", fn := fun _ => fun
  | [d] => { results := [.lit (.bool false)], args := [d] }
  | _ => none }
def BoundsEdgeWrongFalsely : Prop := boundsEdgeRow.holds Tryz.pinned (OpenSpec.ofChange boundsEdgeWrong)

/-- 'drumlinelaw7.BoundsGrow': WHATEVER THE INPUT: true; the input reads as it did. -/
def boundsGrowSpec : ChangeSpec := { name := "boundsGrow", fn := fun _ => fun
  | [d1, d2, d3] => { results := [.lit (.bool true)], args := [d1, d2, d3] }
  | _ => none }
def boundsGrowRow : OpenClaim := { program := "ytbdliphlolajaaagreatdoor", sum := "abf237927a2db867f2f5615a6a5b351b4b103221b3849c5f3efcd3c2d3cdd0ae", func := "drumline/drumlinelaw7.BoundsGrow", spec := "boundsGrow", inPlace := ["internal/reflectlite.ValueOf", "(internal/reflectlite.Value).Type", "(internal/reflectlite.Value).IsNil", "internal/reflectlite.TypeOf", "(internal/reflectlite.Value).Elem", "(internal/reflectlite.Value).Set"], unfollowed := true, recurses := true, named := ["drumline/bounds.out", "errors.errorType"], apart := false, laid := [("errors.errorType", laid_errors_errorType), ("drumline/bounds.out", laid_drumline_bounds_out)] }
def BoundsGrowSaid : Prop := boundsGrowRow.holds Tryz.pinned (OpenSpec.ofChange boundsGrowSpec)

/-- ITS FALSE NEIGHBOUR: 'it returns false'. Refute it at one input. -/
def boundsGrowWrong : ChangeSpec := { name := "boundsGrow", fn := fun _ => fun
  | [d1, d2, d3] => { results := [.lit (.bool false)], args := [d1, d2, d3] }
  | _ => none }
def BoundsGrowWrongFalsely : Prop := boundsGrowRow.holds Tryz.pinned (OpenSpec.ofChange boundsGrowWrong)

/-- 'drumlinelaw7.BoundsFirst': WHATEVER THE INPUT: true; the input reads as it did. -/
def boundsFirstSpec : ChangeSpec := { name := "boundsFirst", fn := fun _ => fun
  | [d1, d2] => { results := [.lit (.bool true)], args := [d1, d2] }
  | _ => none }
def boundsFirstRow : OpenClaim := { program := "ytbdliphlolajaaagreatdoor", sum := "abf237927a2db867f2f5615a6a5b351b4b103221b3849c5f3efcd3c2d3cdd0ae", func := "drumline/drumlinelaw7.BoundsFirst", spec := "boundsFirst", inPlace := ["internal/reflectlite.ValueOf", "(internal/reflectlite.Value).Type", "(internal/reflectlite.Value).IsNil", "internal/reflectlite.TypeOf", "(internal/reflectlite.Value).Elem", "(internal/reflectlite.Value).Set"], unfollowed := true, recurses := true, named := ["drumline/bounds.out", "errors.errorType"], apart := false, laid := [("errors.errorType", laid_errors_errorType), ("drumline/bounds.out", laid_drumline_bounds_out)] }
def BoundsFirstSaid : Prop := boundsFirstRow.holds Tryz.pinned (OpenSpec.ofChange boundsFirstSpec)

/-- ITS FALSE NEIGHBOUR: 'it returns false'. Refute it at one input. -/
def boundsFirstWrong : ChangeSpec := { name := "boundsFirst", fn := fun _ => fun
  | [d1, d2] => { results := [.lit (.bool false)], args := [d1, d2] }
  | _ => none }
def BoundsFirstWrongFalsely : Prop := boundsFirstRow.holds Tryz.pinned (OpenSpec.ofChange boundsFirstWrong)

/-- 'drumlinelaw7.BoundsSet': WHATEVER THE INPUT: true; the input reads as it did. -/
def boundsSetSpec : ChangeSpec := { name := "boundsSet", fn := fun _ => fun
  | [d1, d2, d3, d4] => { results := [.lit (.bool true)], args := [d1, d2, d3, d4] }
  | _ => none }
def boundsSetRow : OpenClaim := { program := "ytbdliphlolajaaagreatdoor", sum := "abf237927a2db867f2f5615a6a5b351b4b103221b3849c5f3efcd3c2d3cdd0ae", func := "drumline/drumlinelaw7.BoundsSet", spec := "boundsSet", inPlace := ["internal/reflectlite.ValueOf", "(internal/reflectlite.Value).Type", "(internal/reflectlite.Value).IsNil", "internal/reflectlite.TypeOf", "(internal/reflectlite.Value).Elem", "(internal/reflectlite.Value).Set"], unfollowed := true, recurses := true, named := ["drumline/bounds.out", "errors.errorType"], apart := false, laid := [("errors.errorType", laid_errors_errorType), ("drumline/bounds.out", laid_drumline_bounds_out)] }
def BoundsSetSaid : Prop := boundsSetRow.holds Tryz.pinned (OpenSpec.ofChange boundsSetSpec)

/-- ITS FALSE NEIGHBOUR: 'it returns false'. Refute it at one input. -/
def boundsSetWrong : ChangeSpec := { name := "boundsSet", fn := fun _ => fun
  | [d1, d2, d3, d4] => { results := [.lit (.bool false)], args := [d1, d2, d3, d4] }
  | _ => none }
def BoundsSetWrongFalsely : Prop := boundsSetRow.holds Tryz.pinned (OpenSpec.ofChange boundsSetWrong)

/-- 'drumlinelaw7.BoundsTells': WHATEVER THE INPUT: true; the input reads as it did. -/
def boundsTellsSpec : ChangeSpec := { name := "boundsTells", fn := fun _ => fun
  | [d1, d2] => { results := [.lit (.bool true)], args := [d1, d2] }
  | _ => none }
def boundsTellsRow : OpenClaim := { program := "ytbdliphlolajaaagreatdoor", sum := "abf237927a2db867f2f5615a6a5b351b4b103221b3849c5f3efcd3c2d3cdd0ae", func := "drumline/drumlinelaw7.BoundsTells", spec := "boundsTells", inPlace := ["internal/reflectlite.ValueOf", "(internal/reflectlite.Value).Type", "(internal/reflectlite.Value).IsNil", "internal/reflectlite.TypeOf", "(internal/reflectlite.Value).Elem", "(internal/reflectlite.Value).Set"], unfollowed := true, recurses := true, named := ["drumline/bounds.out", "errors.errorType"], apart := false, laid := [("errors.errorType", laid_errors_errorType), ("drumline/bounds.out", laid_drumline_bounds_out)] }
def BoundsTellsSaid : Prop := boundsTellsRow.holds Tryz.pinned (OpenSpec.ofChange boundsTellsSpec)

/-- ITS FALSE NEIGHBOUR: 'it returns false'. Refute it at one input. -/
def boundsTellsWrong : ChangeSpec := { name := "boundsTells", fn := fun _ => fun
  | [d1, d2] => { results := [.lit (.bool false)], args := [d1, d2] }
  | _ => none }
def BoundsTellsWrongFalsely : Prop := boundsTellsRow.holds Tryz.pinned (OpenSpec.ofChange boundsTellsWrong)

/- THE SECOND FORM. 'bulk': how many values and letters a reading holds, each counted each time it is reached (what is shared counts as often as it is met; a slice's spare places count too). A statement '..UptoSaid' is the law's where the arguments, and the package variables that the reading takes, are together of bulk at most 1048576: NARROWER than '..Said'. Prove '..Said' where nothing that the law and all that it calls make is longer than what came in: it says more and counts as full. Else prove '..UptoSaid'. A law counts once. -/
mutual
def uptoBulk {H : Type} : DataW H → Nat
  | .lit (.string bytes) => bytes.length + 1
  | .lit _ => 1
  | .nil => 1
  | .ptr d => uptoBulk d + 1
  | .slice elems spare => uptoBulkAll elems + uptoBulkAll spare + 1
  | .agg parts => uptoBulkAll parts + 1
  | .iface _ d => uptoBulk d + 1
  | .map entries => uptoBulkEntries entries + 1
  | .held _ => 1
def uptoBulkAll {H : Type} : List (DataW H) → Nat
  | [] => 0
  | d :: r => uptoBulk d + uptoBulkAll r
def uptoBulkEntries {H : Type} : List (Lit × DataW H) → Nat
  | [] => 0
  | x :: r => uptoBulkEntry x + uptoBulkEntries r
def uptoBulkEntry {H : Type} : Lit × DataW H → Nat
  | (.string bytes, d) => bytes.length + uptoBulk d + 1
  | (_, d) => uptoBulk d + 1
 end
def uptoSmall : (H : Type) → List (DataW H) → Bool := fun _ ds => decide (uptoBulkAll ds ≤ 1048576)
def OpenSpec.upto (s : _root_.Go.ChangeSpec) : _root_.Go.OpenSpec := { _root_.Go.OpenSpec.ofChange s with cond := some uptoSmall }

/-- 'drumlinelaw7.BoundsFits', WHERE WHAT IT READS IS OF BULK AT MOST 1048576: true; the input reads as it did. -/
def boundsFitsUptoRow : OpenClaim := { program := "ytbdliphlolajaaagreatdoor", sum := "abf237927a2db867f2f5615a6a5b351b4b103221b3849c5f3efcd3c2d3cdd0ae", func := "drumline/drumlinelaw7.BoundsFits", spec := "boundsFits", inPlace := ["internal/reflectlite.ValueOf", "(internal/reflectlite.Value).Type", "(internal/reflectlite.Value).IsNil", "internal/reflectlite.TypeOf", "(internal/reflectlite.Value).Elem", "(internal/reflectlite.Value).Set"], unfollowed := true, recurses := true, named := ["drumline/bounds.out", "errors.errorType"], apart := false, laid := [("errors.errorType", laid_errors_errorType), ("drumline/bounds.out", laid_drumline_bounds_out)], narrowed := true }
def BoundsFitsUptoSaid : Prop := boundsFitsUptoRow.holds Tryz.pinned (OpenSpec.upto boundsFitsSpec)

/-- 'drumlinelaw7.BoundsEdge', WHERE WHAT IT READS IS OF BULK AT MOST 1048576: true; the input reads as it did. -/
def boundsEdgeUptoRow : OpenClaim := { program := "ytbdliphlolajaaagreatdoor", sum := "abf237927a2db867f2f5615a6a5b351b4b103221b3849c5f3efcd3c2d3cdd0ae", func := "drumline/drumlinelaw7.BoundsEdge", spec := "boundsEdge", inPlace := ["internal/reflectlite.ValueOf", "(internal/reflectlite.Value).Type", "(internal/reflectlite.Value).IsNil", "internal/reflectlite.TypeOf", "(internal/reflectlite.Value).Elem", "(internal/reflectlite.Value).Set"], unfollowed := true, recurses := true, named := ["drumline/bounds.out", "errors.errorType"], apart := false, laid := [("errors.errorType", laid_errors_errorType), ("drumline/bounds.out", laid_drumline_bounds_out)], narrowed := true }
def BoundsEdgeUptoSaid : Prop := boundsEdgeUptoRow.holds Tryz.pinned (OpenSpec.upto boundsEdgeSpec)

/-- 'drumlinelaw7.BoundsGrow', WHERE WHAT IT READS IS OF BULK AT MOST 1048576: true; the input reads as it did. -/
def boundsGrowUptoRow : OpenClaim := { program := "ytbdliphlolajaaagreatdoor", sum := "abf237927a2db867f2f5615a6a5b351b4b103221b3849c5f3efcd3c2d3cdd0ae", func := "drumline/drumlinelaw7.BoundsGrow", spec := "boundsGrow", inPlace := ["internal/reflectlite.ValueOf", "(internal/reflectlite.Value).Type", "(internal/reflectlite.Value).IsNil", "internal/reflectlite.TypeOf", "(internal/reflectlite.Value).Elem", "(internal/reflectlite.Value).Set"], unfollowed := true, recurses := true, named := ["drumline/bounds.out", "errors.errorType"], apart := false, laid := [("errors.errorType", laid_errors_errorType), ("drumline/bounds.out", laid_drumline_bounds_out)], narrowed := true }
def BoundsGrowUptoSaid : Prop := boundsGrowUptoRow.holds Tryz.pinned (OpenSpec.upto boundsGrowSpec)

/-- 'drumlinelaw7.BoundsFirst', WHERE WHAT IT READS IS OF BULK AT MOST 1048576: true; the input reads as it did. -/
def boundsFirstUptoRow : OpenClaim := { program := "ytbdliphlolajaaagreatdoor", sum := "abf237927a2db867f2f5615a6a5b351b4b103221b3849c5f3efcd3c2d3cdd0ae", func := "drumline/drumlinelaw7.BoundsFirst", spec := "boundsFirst", inPlace := ["internal/reflectlite.ValueOf", "(internal/reflectlite.Value).Type", "(internal/reflectlite.Value).IsNil", "internal/reflectlite.TypeOf", "(internal/reflectlite.Value).Elem", "(internal/reflectlite.Value).Set"], unfollowed := true, recurses := true, named := ["drumline/bounds.out", "errors.errorType"], apart := false, laid := [("errors.errorType", laid_errors_errorType), ("drumline/bounds.out", laid_drumline_bounds_out)], narrowed := true }
def BoundsFirstUptoSaid : Prop := boundsFirstUptoRow.holds Tryz.pinned (OpenSpec.upto boundsFirstSpec)

/-- 'drumlinelaw7.BoundsSet', WHERE WHAT IT READS IS OF BULK AT MOST 1048576: true; the input reads as it did. -/
def boundsSetUptoRow : OpenClaim := { program := "ytbdliphlolajaaagreatdoor", sum := "abf237927a2db867f2f5615a6a5b351b4b103221b3849c5f3efcd3c2d3cdd0ae", func := "drumline/drumlinelaw7.BoundsSet", spec := "boundsSet", inPlace := ["internal/reflectlite.ValueOf", "(internal/reflectlite.Value).Type", "(internal/reflectlite.Value).IsNil", "internal/reflectlite.TypeOf", "(internal/reflectlite.Value).Elem", "(internal/reflectlite.Value).Set"], unfollowed := true, recurses := true, named := ["drumline/bounds.out", "errors.errorType"], apart := false, laid := [("errors.errorType", laid_errors_errorType), ("drumline/bounds.out", laid_drumline_bounds_out)], narrowed := true }
def BoundsSetUptoSaid : Prop := boundsSetUptoRow.holds Tryz.pinned (OpenSpec.upto boundsSetSpec)

/-- 'drumlinelaw7.BoundsTells', WHERE WHAT IT READS IS OF BULK AT MOST 1048576: true; the input reads as it did. -/
def boundsTellsUptoRow : OpenClaim := { program := "ytbdliphlolajaaagreatdoor", sum := "abf237927a2db867f2f5615a6a5b351b4b103221b3849c5f3efcd3c2d3cdd0ae", func := "drumline/drumlinelaw7.BoundsTells", spec := "boundsTells", inPlace := ["internal/reflectlite.ValueOf", "(internal/reflectlite.Value).Type", "(internal/reflectlite.Value).IsNil", "internal/reflectlite.TypeOf", "(internal/reflectlite.Value).Elem", "(internal/reflectlite.Value).Set"], unfollowed := true, recurses := true, named := ["drumline/bounds.out", "errors.errorType"], apart := false, laid := [("errors.errorType", laid_errors_errorType), ("drumline/bounds.out", laid_drumline_bounds_out)], narrowed := true }
def BoundsTellsUptoSaid : Prop := boundsTellsUptoRow.holds Tryz.pinned (OpenSpec.upto boundsTellsSpec)

end Rows
end Go.Proofs.YtbdliphlolajaaaGreatDoor
