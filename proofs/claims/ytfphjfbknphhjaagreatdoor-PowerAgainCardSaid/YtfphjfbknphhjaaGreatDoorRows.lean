/-
  NARROWER THAN 'FOR EVERY INPUT', by the rows' own cells (each row's printed sentence says how): PowerRaw: laid · PowerDoes: laid · PowerAgain: laid · PowerApart: laid · PowerTells: laid.
  DERIVED. THE GIVEN ROWS OF THIS SEAT. 5 by the template 'for every input the law returns true; each argument reads behind the call as it read before'; 0 by the template 'total and deterministic' (their statements: YtfphjfbknphhjaaGreatDoorTotals.lean).
  GIVEN WITH THE SEED: the statements are not yours to turn. If you find one false, say at which input.
  Laid BY PROGRAM, IN A SANDBOX (cutbox-rows.mjs): the forced cells as the released guide's own fill.sh prints them over the translation ba482c132ded6d1a… (all of the seat's roots in one cut). By AI agents, Wed Nov 11 2026. No macro, syntax, notation, axiom, sorry.
-/
import Derived.Test.YtfphjfbknphhjaaGreatDoorChecked
import GoSem.Claim
import GoSem.ClaimJoined
import GoSem.ClaimMapViews
import Derived.JoinedTies
import Derived.KernelRfl
namespace Go.Proofs.YtfphjfbknphhjaaGreatDoor
/- THE CELL 'sum', in the pinned program and in every row, IS THE sha256 OF THE DUMP (.gsa) THAT YtfphjfbknphhjaaGreatDoorProg.lean LOADS. Nothing in Lean hashes anything: it is a label: what it is worth is what the hold of that sum in a sandbox is worth. -/
noncomputable def Tryz.pinned : Pinned := { name := "ytfphjfbknphhjaagreatdoor", sum := "ba482c132ded6d1a61fae4e75d416a4b854efd7c2d6a8cf1ca0cb3faefbd155b", checked := Tryz.checked }
namespace Rows
def none {H : Type} : Left H := { results := [], args := [] }

/- WHAT THE LISTED PACKAGE-LEVEL VARIABLES READ AS WHEN THE CALL BEGINS. Each datum BY PROGRAM (the guide's laid-datum.mjs) off the statement by which the dump's own 'gosem.cut.vars' lays the variable. In a bare row this is a premise. The card (YtfphjfbknphhjaaGreatDoorCards.lean) ties it to the program's text. -/
def laid_errors_errorType {H : Type} : DataW H := .iface "internal/reflectlite.rtype" (.agg [.ptr (.lit (.string [101, 114, 114, 111, 114]))])
def laid_drumline_bounds_out {H : Type} : DataW H := .iface "*errors.errorString" (.ptr (.agg [.lit (.string [98, 111, 117, 110, 100, 115, 58, 32, 111, 117, 116, 32, 111, 102, 32, 114, 97, 110, 103, 101])]))

/-- 'drumlinelaw24.PowerRaw': WHATEVER THE INPUT: true; the input reads as it did. -/
def powerRawSpec : ChangeSpec := { name := "powerRaw", fn := fun _ => fun
  | [d1, d2, d3, d4] => { results := [.lit (.bool true)], args := [d1, d2, d3, d4] }
  | _ => none }
def powerRawRow : OpenClaim := { program := "ytfphjfbknphhjaagreatdoor", sum := "ba482c132ded6d1a61fae4e75d416a4b854efd7c2d6a8cf1ca0cb3faefbd155b", func := "drumline/drumlinelaw24.PowerRaw", spec := "powerRaw", inPlace := ["internal/reflectlite.ValueOf", "(internal/reflectlite.Value).Type", "(internal/reflectlite.Value).IsNil", "internal/reflectlite.TypeOf", "(internal/reflectlite.Value).Elem", "(internal/reflectlite.Value).Set"], unfollowed := true, recurses := true, named := ["drumline/bounds.out", "errors.errorType"], apart := false, laid := [("errors.errorType", laid_errors_errorType), ("drumline/bounds.out", laid_drumline_bounds_out)] }
def PowerRawSaid : Prop := powerRawRow.holds Tryz.pinned (OpenSpec.ofChange powerRawSpec)

/-- ITS FALSE NEIGHBOUR: 'it returns false'. Refute it at one input. -/
def powerRawWrong : ChangeSpec := { name := "powerRaw", fn := fun _ => fun
  | [d1, d2, d3, d4] => { results := [.lit (.bool false)], args := [d1, d2, d3, d4] }
  | _ => none }
def PowerRawWrongFalsely : Prop := powerRawRow.holds Tryz.pinned (OpenSpec.ofChange powerRawWrong)

/-- 'drumlinelaw24.PowerDoes': WHATEVER THE INPUT: true; the input reads as it did. -/
def powerDoesSpec : ChangeSpec := { name := "powerDoes", fn := fun _ => fun
  | [d1, d2, d3, d4] => { results := [.lit (.bool true)], args := [d1, d2, d3, d4] }
  | _ => none }
def powerDoesRow : OpenClaim := { program := "ytfphjfbknphhjaagreatdoor", sum := "ba482c132ded6d1a61fae4e75d416a4b854efd7c2d6a8cf1ca0cb3faefbd155b", func := "drumline/drumlinelaw24.PowerDoes", spec := "powerDoes", inPlace := ["internal/reflectlite.ValueOf", "(internal/reflectlite.Value).Type", "(internal/reflectlite.Value).IsNil", "internal/reflectlite.TypeOf", "(internal/reflectlite.Value).Elem", "(internal/reflectlite.Value).Set"], unfollowed := true, recurses := true, named := ["drumline/bounds.out", "errors.errorType"], apart := false, laid := [("errors.errorType", laid_errors_errorType), ("drumline/bounds.out", laid_drumline_bounds_out)] }
def PowerDoesSaid : Prop := powerDoesRow.holds Tryz.pinned (OpenSpec.ofChange powerDoesSpec)

/-- ITS FALSE NEIGHBOUR: 'it returns false'. Refute it at one input. -/
def powerDoesWrong : ChangeSpec := { name := "powerDoes", fn := fun _ => fun
  | [d1, d2, d3, d4] => { results := [.lit (.bool false)], args := [d1, d2, d3, d4] }
  | _ => none }
def PowerDoesWrongFalsely : Prop := powerDoesRow.holds Tryz.pinned (OpenSpec.ofChange powerDoesWrong)

/-- 'drumlinelaw24.PowerAgain': WHATEVER THE INPUT: true; the input reads as it did. -/
def powerAgainSpec : ChangeSpec := { name := "powerAgain", fn := fun _ => fun
  | [d1, d2, d3, d4] => { results := [.lit (.bool true)], args := [d1, d2, d3, d4] }
  | _ => none }
def powerAgainRow : OpenClaim := { program := "ytfphjfbknphhjaagreatdoor", sum := "ba482c132ded6d1a61fae4e75d416a4b854efd7c2d6a8cf1ca0cb3faefbd155b", func := "drumline/drumlinelaw24.PowerAgain", spec := "powerAgain", inPlace := ["internal/reflectlite.ValueOf", "(internal/reflectlite.Value).Type", "(internal/reflectlite.Value).IsNil", "internal/reflectlite.TypeOf", "(internal/reflectlite.Value).Elem", "(internal/reflectlite.Value).Set"], unfollowed := true, recurses := true, named := ["drumline/bounds.out", "errors.errorType"], apart := false, laid := [("errors.errorType", laid_errors_errorType), ("drumline/bounds.out", laid_drumline_bounds_out)] }
def PowerAgainSaid : Prop := powerAgainRow.holds Tryz.pinned (OpenSpec.ofChange powerAgainSpec)

/-- ITS FALSE NEIGHBOUR: 'it returns false'. Refute it at one input. -/
def powerAgainWrong : ChangeSpec := { name := "powerAgain", fn := fun _ => fun
  | [d1, d2, d3, d4] => { results := [.lit (.bool false)], args := [d1, d2, d3, d4] }
  | _ => none }
def PowerAgainWrongFalsely : Prop := powerAgainRow.holds Tryz.pinned (OpenSpec.ofChange powerAgainWrong)

/-- 'drumlinelaw24.PowerApart': WHATEVER THE INPUT: true; the input reads as it did. -/
def powerApartSpec : ChangeSpec := { name := "powerApart", fn := fun _ => fun
  | [d1, d2, d3, d4] => { results := [.lit (.bool true)], args := [d1, d2, d3, d4] }
  | _ => none }
def powerApartRow : OpenClaim := { program := "ytfphjfbknphhjaagreatdoor", sum := "ba482c132ded6d1a61fae4e75d416a4b854efd7c2d6a8cf1ca0cb3faefbd155b", func := "drumline/drumlinelaw24.PowerApart", spec := "powerApart", inPlace := ["internal/reflectlite.ValueOf", "(internal/reflectlite.Value).Type", "(internal/reflectlite.Value).IsNil", "internal/reflectlite.TypeOf", "(internal/reflectlite.Value).Elem", "(internal/reflectlite.Value).Set"], unfollowed := true, recurses := true, named := ["drumline/bounds.out", "errors.errorType"], apart := false, laid := [("errors.errorType", laid_errors_errorType), ("drumline/bounds.out", laid_drumline_bounds_out)] }
def PowerApartSaid : Prop := powerApartRow.holds Tryz.pinned (OpenSpec.ofChange powerApartSpec)

/-- ITS FALSE NEIGHBOUR: 'it returns false'. Refute it at one input. -/
def powerApartWrong : ChangeSpec := { name := "powerApart", fn := fun _ => fun
  | [d1, d2, d3, d4] => { results := [.lit (.bool false)], args := [d1, d2, d3, d4] }
  | _ => none }
def PowerApartWrongFalsely : Prop := powerApartRow.holds Tryz.pinned (OpenSpec.ofChange powerApartWrong)

/-- 'drumlinelaw24.PowerTells': WHATEVER THE INPUT: true; the input reads as it did. -/
def powerTellsSpec : ChangeSpec := { name := "powerTells", fn := fun _ => fun
  | [d1, d2, d3] => { results := [.lit (.bool true)], args := [d1, d2, d3] }
  | _ => none }
def powerTellsRow : OpenClaim := { program := "ytfphjfbknphhjaagreatdoor", sum := "ba482c132ded6d1a61fae4e75d416a4b854efd7c2d6a8cf1ca0cb3faefbd155b", func := "drumline/drumlinelaw24.PowerTells", spec := "powerTells", inPlace := ["internal/reflectlite.ValueOf", "(internal/reflectlite.Value).Type", "(internal/reflectlite.Value).IsNil", "internal/reflectlite.TypeOf", "(internal/reflectlite.Value).Elem", "(internal/reflectlite.Value).Set"], unfollowed := true, recurses := true, named := ["drumline/bounds.out", "errors.errorType"], apart := false, laid := [("errors.errorType", laid_errors_errorType), ("drumline/bounds.out", laid_drumline_bounds_out)] }
def PowerTellsSaid : Prop := powerTellsRow.holds Tryz.pinned (OpenSpec.ofChange powerTellsSpec)

/-- ITS FALSE NEIGHBOUR: 'it returns false'. Refute it at one input. -/
def powerTellsWrong : ChangeSpec := { name := "powerTells", fn := fun _ => fun
  | [d1, d2, d3] => { results := [.lit (.bool false)], args := [d1, d2, d3] }
  | _ => none }
def PowerTellsWrongFalsely : Prop := powerTellsRow.holds Tryz.pinned (OpenSpec.ofChange powerTellsWrong)

/- THE SECOND FORM. 'bulk': how many values and letters a reading holds, each counted each time it is reached (what is shared counts as often as it is met; a slice's spare places count too). A statement '..UptoSaid' is the law's where the arguments, and the package variables that the reading takes, are together of bulk at most 1048576: NARROWER than '..Said'. Prove '..Said' where nothing that the law and all that it calls make is longer than what came in: it says more and counts as full. Else prove '..UptoSaid'. A law counts once. -/
mutual
def uptoBulk {H : Type} : DataW H → Nat
  | .lit (.string bytes) => bytes.length + 1
  | .lit _ => 1
  | .nil => 1
  | .ptr d => uptoBulk d + 1
  | .slice elems spare => uptoBulkAll elems + uptoBulkAll spare + 1
  | .agg parts => uptoBulkAll parts + 1
  | .iface _ d => uptoBulk d + 1
  | .map entries => uptoBulkEntries entries + 1
  | .held _ => 1
def uptoBulkAll {H : Type} : List (DataW H) → Nat
  | [] => 0
  | d :: r => uptoBulk d + uptoBulkAll r
def uptoBulkEntries {H : Type} : List (Lit × DataW H) → Nat
  | [] => 0
  | x :: r => uptoBulkEntry x + uptoBulkEntries r
def uptoBulkEntry {H : Type} : Lit × DataW H → Nat
  | (.string bytes, d) => bytes.length + uptoBulk d + 1
  | (_, d) => uptoBulk d + 1
 end
def uptoSmall : (H : Type) → List (DataW H) → Bool := fun _ ds => decide (uptoBulkAll ds ≤ 1048576)
def OpenSpec.upto (s : _root_.Go.ChangeSpec) : _root_.Go.OpenSpec := { _root_.Go.OpenSpec.ofChange s with cond := some uptoSmall }

/-- 'drumlinelaw24.PowerRaw', WHERE WHAT IT READS IS OF BULK AT MOST 1048576: true; the input reads as it did. -/
def powerRawUptoRow : OpenClaim := { program := "ytfphjfbknphhjaagreatdoor", sum := "ba482c132ded6d1a61fae4e75d416a4b854efd7c2d6a8cf1ca0cb3faefbd155b", func := "drumline/drumlinelaw24.PowerRaw", spec := "powerRaw", inPlace := ["internal/reflectlite.ValueOf", "(internal/reflectlite.Value).Type", "(internal/reflectlite.Value).IsNil", "internal/reflectlite.TypeOf", "(internal/reflectlite.Value).Elem", "(internal/reflectlite.Value).Set"], unfollowed := true, recurses := true, named := ["drumline/bounds.out", "errors.errorType"], apart := false, laid := [("errors.errorType", laid_errors_errorType), ("drumline/bounds.out", laid_drumline_bounds_out)], narrowed := true }
def PowerRawUptoSaid : Prop := powerRawUptoRow.holds Tryz.pinned (OpenSpec.upto powerRawSpec)

/-- 'drumlinelaw24.PowerDoes', WHERE WHAT IT READS IS OF BULK AT MOST 1048576: true; the input reads as it did. -/
def powerDoesUptoRow : OpenClaim := { program := "ytfphjfbknphhjaagreatdoor", sum := "ba482c132ded6d1a61fae4e75d416a4b854efd7c2d6a8cf1ca0cb3faefbd155b", func := "drumline/drumlinelaw24.PowerDoes", spec := "powerDoes", inPlace := ["internal/reflectlite.ValueOf", "(internal/reflectlite.Value).Type", "(internal/reflectlite.Value).IsNil", "internal/reflectlite.TypeOf", "(internal/reflectlite.Value).Elem", "(internal/reflectlite.Value).Set"], unfollowed := true, recurses := true, named := ["drumline/bounds.out", "errors.errorType"], apart := false, laid := [("errors.errorType", laid_errors_errorType), ("drumline/bounds.out", laid_drumline_bounds_out)], narrowed := true }
def PowerDoesUptoSaid : Prop := powerDoesUptoRow.holds Tryz.pinned (OpenSpec.upto powerDoesSpec)

/-- 'drumlinelaw24.PowerAgain', WHERE WHAT IT READS IS OF BULK AT MOST 1048576: true; the input reads as it did. -/
def powerAgainUptoRow : OpenClaim := { program := "ytfphjfbknphhjaagreatdoor", sum := "ba482c132ded6d1a61fae4e75d416a4b854efd7c2d6a8cf1ca0cb3faefbd155b", func := "drumline/drumlinelaw24.PowerAgain", spec := "powerAgain", inPlace := ["internal/reflectlite.ValueOf", "(internal/reflectlite.Value).Type", "(internal/reflectlite.Value).IsNil", "internal/reflectlite.TypeOf", "(internal/reflectlite.Value).Elem", "(internal/reflectlite.Value).Set"], unfollowed := true, recurses := true, named := ["drumline/bounds.out", "errors.errorType"], apart := false, laid := [("errors.errorType", laid_errors_errorType), ("drumline/bounds.out", laid_drumline_bounds_out)], narrowed := true }
def PowerAgainUptoSaid : Prop := powerAgainUptoRow.holds Tryz.pinned (OpenSpec.upto powerAgainSpec)

/-- 'drumlinelaw24.PowerApart', WHERE WHAT IT READS IS OF BULK AT MOST 1048576: true; the input reads as it did. -/
def powerApartUptoRow : OpenClaim := { program := "ytfphjfbknphhjaagreatdoor", sum := "ba482c132ded6d1a61fae4e75d416a4b854efd7c2d6a8cf1ca0cb3faefbd155b", func := "drumline/drumlinelaw24.PowerApart", spec := "powerApart", inPlace := ["internal/reflectlite.ValueOf", "(internal/reflectlite.Value).Type", "(internal/reflectlite.Value).IsNil", "internal/reflectlite.TypeOf", "(internal/reflectlite.Value).Elem", "(internal/reflectlite.Value).Set"], unfollowed := true, recurses := true, named := ["drumline/bounds.out", "errors.errorType"], apart := false, laid := [("errors.errorType", laid_errors_errorType), ("drumline/bounds.out", laid_drumline_bounds_out)], narrowed := true }
def PowerApartUptoSaid : Prop := powerApartUptoRow.holds Tryz.pinned (OpenSpec.upto powerApartSpec)

/-- 'drumlinelaw24.PowerTells', WHERE WHAT IT READS IS OF BULK AT MOST 1048576: true; the input reads as it did. -/
def powerTellsUptoRow : OpenClaim := { program := "ytfphjfbknphhjaagreatdoor", sum := "ba482c132ded6d1a61fae4e75d416a4b854efd7c2d6a8cf1ca0cb3faefbd155b", func := "drumline/drumlinelaw24.PowerTells", spec := "powerTells", inPlace := ["internal/reflectlite.ValueOf", "(internal/reflectlite.Value).Type", "(internal/reflectlite.Value).IsNil", "internal/reflectlite.TypeOf", "(internal/reflectlite.Value).Elem", "(internal/reflectlite.Value).Set"], unfollowed := true, recurses := true, named := ["drumline/bounds.out", "errors.errorType"], apart := false, laid := [("errors.errorType", laid_errors_errorType), ("drumline/bounds.out", laid_drumline_bounds_out)], narrowed := true }
def PowerTellsUptoSaid : Prop := powerTellsUptoRow.holds Tryz.pinned (OpenSpec.upto powerTellsSpec)

end Rows
end Go.Proofs.YtfphjfbknphhjaaGreatDoor
