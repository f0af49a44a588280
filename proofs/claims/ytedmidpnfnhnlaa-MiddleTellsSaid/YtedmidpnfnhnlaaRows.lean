/-
  No cell of these rows narrows 'for every input' (looked for: loops, veiled, ifaces, maps, wideKeys, modest, calm, conditions, laid).
  DERIVED. THE GIVEN ROWS OF THIS SEAT. 5 by the template 'for every input the law returns true; each argument reads behind the call as it read before'; 0 by the template 'total and deterministic' (their statements: YtedmidpnfnhnlaaTotals.lean).
  GIVEN WITH THE SEED: the statements are not yours to turn. If you find one false, say at which input.
  Laid BY PROGRAM, IN A SANDBOX (cutbox-rows.mjs): the forced cells as the released guide's own fill.sh prints them over the translation b347b088a2f8b70a… (all of the seat's roots in one cut). By AI agents, Wed Nov 11 2026. No macro, syntax, notation, axiom, sorry.
-/
import Derived.Test.YtedmidpnfnhnlaaChecked
import GoSem.Claim
import GoSem.ClaimJoined
import GoSem.ClaimMapViews
import Derived.JoinedTies
import Derived.KernelRfl
namespace Go.Proofs.Ytedmidpnfnhnlaa
/- THE CELL 'sum', in the pinned program and in every row, IS THE sha256 OF THE DUMP (.gsa) THAT YtedmidpnfnhnlaaProg.lean LOADS. Nothing in Lean hashes anything: it is a label: what it is worth is what the hold of that sum in a sandbox is worth. -/
noncomputable def Try.pinned : Pinned := { name := "ytedmidpnfnhnlaa", sum := "b347b088a2f8b70a062d5380f4027b413ecaa9262242549dff6d640355204c33", checked := Try.checked }
namespace Rows
def none {H : Type} : Left H := { results := [], args := [] }

/-- 'drumlinelaw13.MiddleTells': WHATEVER THE INPUT: true; the input reads as it did. -/
def middleTellsSpec : ChangeSpec := { name := "middleTells", fn := fun _ => fun
  | [d1, d2] => { results := [.lit (.bool true)], args := [d1, d2] }
  | _ => none }
def middleTellsRow : OpenClaim := { program := "ytedmidpnfnhnlaa", sum := "b347b088a2f8b70a062d5380f4027b413ecaa9262242549dff6d640355204c33", func := "drumline/drumlinelaw13.MiddleTells", spec := "middleTells", unfollowed := true, recurses := true, apart := false }
def MiddleTellsSaid : Prop := middleTellsRow.holds Try.pinned (OpenSpec.ofChange middleTellsSpec)

/-- ITS FALSE NEIGHBOUR: 'it returns false'. Refute it at one input. -/
def middleTellsWrong : ChangeSpec := { name := "middleTells", fn := fun _ => fun
  | [d1, d2] => { results := [.lit (.bool false)], args := [d1, d2] }
  | _ => none }
def MiddleTellsWrongFalsely : Prop := middleTellsRow.holds Try.pinned (OpenSpec.ofChange middleTellsWrong)

/-- 'drumlinelaw13.MiddleTurned': WHATEVER THE INPUT: true; the input reads as it did. -/
def middleTurnedSpec : ChangeSpec := { name := "middleTurned", fn := fun _ => fun
  | [d1, d2, d3] => { results := [.lit (.bool true)], args := [d1, d2, d3] }
  | _ => none }
def middleTurnedRow : OpenClaim := { program := "ytedmidpnfnhnlaa", sum := "b347b088a2f8b70a062d5380f4027b413ecaa9262242549dff6d640355204c33", func := "drumline/drumlinelaw13.MiddleTurned", spec := "middleTurned", unfollowed := true, recurses := true, apart := false }
def MiddleTurnedSaid : Prop := middleTurnedRow.holds Try.pinned (OpenSpec.ofChange middleTurnedSpec)

/-- ITS FALSE NEIGHBOUR: 'it returns false'. Refute it at one input. -/
def middleTurnedWrong : ChangeSpec := { name := "middleTurned", fn := fun _ => fun
  | [d1, d2, d3] => { results := [.lit (.bool false)], args := [d1, d2, d3] }
  | _ => none }
def MiddleTurnedWrongFalsely : Prop := middleTurnedRow.holds Try.pinned (OpenSpec.ofChange middleTurnedWrong)

/-- 'drumlinelaw13.MiddleWithin': WHATEVER THE INPUT: true; the input reads as it did. -/
def middleWithinSpec : ChangeSpec := { name := "middleWithin", fn := fun _ => fun
  | [d1, d2, d3] => { results := [.lit (.bool true)], args := [d1, d2, d3] }
  | _ => none }
def middleWithinRow : OpenClaim := { program := "ytedmidpnfnhnlaa", sum := "b347b088a2f8b70a062d5380f4027b413ecaa9262242549dff6d640355204c33", func := "drumline/drumlinelaw13.MiddleWithin", spec := "middleWithin", unfollowed := true, recurses := true, apart := false }
def MiddleWithinSaid : Prop := middleWithinRow.holds Try.pinned (OpenSpec.ofChange middleWithinSpec)

/-- ITS FALSE NEIGHBOUR: 'it returns false'. Refute it at one input. -/
def middleWithinWrong : ChangeSpec := { name := "middleWithin", fn := fun _ => fun
  | [d1, d2, d3] => { results := [.lit (.bool false)], args := [d1, d2, d3] }
  | _ => none }
def MiddleWithinWrongFalsely : Prop := middleWithinRow.holds Try.pinned (OpenSpec.ofChange middleWithinWrong)

/-- 'drumlinelaw13.MiddleNear': WHATEVER THE INPUT: true; the input reads as it did. -/
def middleNearSpec : ChangeSpec := { name := "middleNear", fn := fun _ => fun
  | [d1, d2, d3, d4] => { results := [.lit (.bool true)], args := [d1, d2, d3, d4] }
  | _ => none }
def middleNearRow : OpenClaim := { program := "ytedmidpnfnhnlaa", sum := "b347b088a2f8b70a062d5380f4027b413ecaa9262242549dff6d640355204c33", func := "drumline/drumlinelaw13.MiddleNear", spec := "middleNear", unfollowed := true, recurses := true, apart := false }
def MiddleNearSaid : Prop := middleNearRow.holds Try.pinned (OpenSpec.ofChange middleNearSpec)

/-- ITS FALSE NEIGHBOUR: 'it returns false'. Refute it at one input. -/
def middleNearWrong : ChangeSpec := { name := "middleNear", fn := fun _ => fun
  | [d1, d2, d3, d4] => { results := [.lit (.bool false)], args := [d1, d2, d3, d4] }
  | _ => none }
def MiddleNearWrongFalsely : Prop := middleNearRow.holds Try.pinned (OpenSpec.ofChange middleNearWrong)

/-- 'drumlinelaw13.MiddleHalves': WHATEVER THE INPUT: true; the input reads as it did. -/
def middleHalvesSpec : ChangeSpec := { name := "middleHalves", fn := fun _ => fun
  | [d1, d2, d3, d4, d5] => { results := [.lit (.bool true)], args := [d1, d2, d3, d4, d5] }
  | _ => none }
def middleHalvesRow : OpenClaim := { program := "ytedmidpnfnhnlaa", sum := "b347b088a2f8b70a062d5380f4027b413ecaa9262242549dff6d640355204c33", func := "drumline/drumlinelaw13.MiddleHalves", spec := "middleHalves", unfollowed := true, recurses := true, apart := false }
def MiddleHalvesSaid : Prop := middleHalvesRow.holds Try.pinned (OpenSpec.ofChange middleHalvesSpec)

/-- ITS FALSE NEIGHBOUR: 'it returns false'. Refute it at one input. -/
def middleHalvesWrong : ChangeSpec := { name := "middleHalves", fn := fun _ => fun
  | [d1, d2, d3, d4, d5] => { results := [.lit (.bool false)], args := [d1, d2, d3, d4, d5] }
  | _ => none }
def MiddleHalvesWrongFalsely : Prop := middleHalvesRow.holds Try.pinned (OpenSpec.ofChange middleHalvesWrong)

/- THE SECOND FORM. 'bulk': how many values and letters a reading holds, each counted each time it is reached (what is shared counts as often as it is met; a slice's spare places count too). A statement '..UptoSaid' is the law's where the arguments, and the package variables that the reading takes, are together of bulk at most 1048576: NARROWER than '..Said'. Prove '..Said' where nothing that the law and all that it calls make is longer than what came in: it says more and counts as full. Else prove '..UptoSaid'. A law counts once. -/
mutual
def uptoBulk {H : Type} : DataW H → Nat
  | .lit (.string bytes) => bytes.length + 1
  | .lit _ => 1
  | .nil => 1
  | .ptr d => uptoBulk d + 1
  | .slice elems spare => uptoBulkAll elems + uptoBulkAll spare + 1
  | .agg parts => uptoBulkAll parts + 1
  | .iface _ d => uptoBulk d + 1
  | .map entries => uptoBulkEntries entries + 1
  | .held _ => 1
def uptoBulkAll {H : Type} : List (DataW H) → Nat
  | [] => 0
  | d :: r => uptoBulk d + uptoBulkAll r
def uptoBulkEntries {H : Type} : List (Lit × DataW H) → Nat
  | [] => 0
  | x :: r => uptoBulkEntry x + uptoBulkEntries r
def uptoBulkEntry {H : Type} : Lit × DataW H → Nat
  | (.string bytes, d) => bytes.length + uptoBulk d + 1
  | (_, d) => uptoBulk d + 1
 end
def uptoSmall : (H : Type) → List (DataW H) → Bool := fun _ ds => decide (uptoBulkAll ds ≤ 1048576)
def OpenSpec.upto (s : _root_.Go.ChangeSpec) : _root_.Go.OpenSpec := { _root_.Go.OpenSpec.ofChange s with cond := some uptoSmall }

/-- 'drumlinelaw13.MiddleTells', WHERE WHAT IT READS IS OF BULK AT MOST 1048576: true; the input reads as it did. -/
def middleTellsUptoRow : OpenClaim := { program := "ytedmidpnfnhnlaa", sum := "b347b088a2f8b70a062d5380f4027b413ecaa9262242549dff6d640355204c33", func := "drumline/drumlinelaw13.MiddleTells", spec := "middleTells", unfollowed := true, recurses := true, apart := false, narrowed := true }
def MiddleTellsUptoSaid : Prop := middleTellsUptoRow.holds Try.pinned (OpenSpec.upto middleTellsSpec)

/-- 'drumlinelaw13.MiddleTurned', WHERE WHAT IT READS IS OF BULK AT MOST 1048576: true; the input reads as it did. -/
def middleTurnedUptoRow : OpenClaim := { program := "ytedmidpnfnhnlaa", sum := "b347b088a2f8b70a062d5380f4027b413ecaa9262242549dff6d640355204c33", func := "drumline/drumlinelaw13.MiddleTurned", spec := "middleTurned", unfollowed := true, recurses := true, apart := false, narrowed := true }
def MiddleTurnedUptoSaid : Prop := middleTurnedUptoRow.holds Try.pinned (OpenSpec.upto middleTurnedSpec)

/-- 'drumlinelaw13.MiddleWithin', WHERE WHAT IT READS IS OF BULK AT MOST 1048576: true; the input reads as it did. -/
def middleWithinUptoRow : OpenClaim := { program := "ytedmidpnfnhnlaa", sum := "b347b088a2f8b70a062d5380f4027b413ecaa9262242549dff6d640355204c33", func := "drumline/drumlinelaw13.MiddleWithin", spec := "middleWithin", unfollowed := true, recurses := true, apart := false, narrowed := true }
def MiddleWithinUptoSaid : Prop := middleWithinUptoRow.holds Try.pinned (OpenSpec.upto middleWithinSpec)

/-- 'drumlinelaw13.MiddleNear', WHERE WHAT IT READS IS OF BULK AT MOST 1048576: true; the input reads as it did. -/
def middleNearUptoRow : OpenClaim := { program := "ytedmidpnfnhnlaa", sum := "b347b088a2f8b70a062d5380f4027b413ecaa9262242549dff6d640355204c33", func := "drumline/drumlinelaw13.MiddleNear", spec := "middleNear", unfollowed := true, recurses := true, apart := false, narrowed := true }
def MiddleNearUptoSaid : Prop := middleNearUptoRow.holds Try.pinned (OpenSpec.upto middleNearSpec)

/-- 'drumlinelaw13.MiddleHalves', WHERE WHAT IT READS IS OF BULK AT MOST 1048576: true; the input reads as it did. -/
def middleHalvesUptoRow : OpenClaim := { program := "ytedmidpnfnhnlaa", sum := "b347b088a2f8b70a062d5380f4027b413ecaa9262242549dff6d640355204c33", func := "drumline/drumlinelaw13.MiddleHalves", spec := "middleHalves", unfollowed := true, recurses := true, apart := false, narrowed := true }
def MiddleHalvesUptoSaid : Prop := middleHalvesUptoRow.holds Try.pinned (OpenSpec.upto middleHalvesSpec)

end Rows
end Go.Proofs.Ytedmidpnfnhnlaa
