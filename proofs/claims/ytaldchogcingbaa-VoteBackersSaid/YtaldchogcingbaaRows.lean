/-
  No cell of these rows narrows 'for every input' (looked for: loops, veiled, ifaces, maps, wideKeys, modest, calm, conditions, laid).
  DERIVED. THE GIVEN ROWS OF THIS SEAT. 2 by the template 'for every input the law returns true; each argument reads behind the call as it read before'; 0 by the template 'total and deterministic' (their statements: YtaldchogcingbaaTotals.lean).
  GIVEN WITH THE SEED: the statements are not yours to turn. If you find one false, say at which input.
  Laid BY PROGRAM, IN A SANDBOX (cutbox-rows.mjs): the forced cells as the released guide's own fill.sh prints them over the translation 868a161b00bf6917… (all of the seat's roots in one cut). By AI agents, Wed Nov 11 2026. No macro, syntax, notation, axiom, sorry.
-/
import Derived.Test.YtaldchogcingbaaChecked
import GoSem.Claim
import GoSem.ClaimJoined
import GoSem.ClaimMapViews
import Derived.JoinedTies
import Derived.KernelRfl
namespace Go.Proofs.Ytaldchogcingbaa
/- THE CELL 'sum', in the pinned program and in every row, IS THE sha256 OF THE DUMP (.gsa) THAT YtaldchogcingbaaProg.lean LOADS. Nothing in Lean hashes anything: it is a label: what it is worth is what the hold of that sum in a sandbox is worth. -/
noncomputable def Try.pinned : Pinned := { name := "ytaldchogcingbaa", sum := "868a161b00bf6917020d2162b4912de6ea45cc2c3d70963520110975cb62bbb0", checked := Try.checked }
namespace Rows
def none {H : Type} : Left H := { results := [], args := [] }

/-- 'drumlinelaw14.VoteFaults': WHATEVER THE INPUT: true; the input reads as it did. -/
def voteFaultsSpec : ChangeSpec := { name := "voteFaults", fn := fun _ => fun
  | [d1, d2, d3, d4, d5] => { results := [.lit (.bool true)], args := [d1, d2, d3, d4, d5] }
  | _ => none }
def voteFaultsRow : OpenClaim := { program := "ytaldchogcingbaa", sum := "868a161b00bf6917020d2162b4912de6ea45cc2c3d70963520110975cb62bbb0", func := "drumline/drumlinelaw14.VoteFaults", spec := "voteFaults", apart := false }
def VoteFaultsSaid : Prop := voteFaultsRow.holds Try.pinned (OpenSpec.ofChange voteFaultsSpec)

/-- ITS FALSE NEIGHBOUR: 'it returns false'. Refute it at one input. -/
def voteFaultsWrong : ChangeSpec := { name := "voteFaults", fn := fun _ => fun
  | [d1, d2, d3, d4, d5] => { results := [.lit (.bool false)], args := [d1, d2, d3, d4, d5] }
  | _ => none }
def VoteFaultsWrongFalsely : Prop := voteFaultsRow.holds Try.pinned (OpenSpec.ofChange voteFaultsWrong)

/-- 'drumlinelaw14.VoteBackers': WHATEVER THE INPUT: true; the input reads as it did. -/
def voteBackersSpec : ChangeSpec := { name := "voteBackers", fn := fun _ => fun
  | [d] => { results := [.lit (.bool true)], args := [d] }
  | _ => none }
def voteBackersRow : OpenClaim := { program := "ytaldchogcingbaa", sum := "868a161b00bf6917020d2162b4912de6ea45cc2c3d70963520110975cb62bbb0", func := "drumline/drumlinelaw14.VoteBackers", spec := "voteBackers", apart := false }
def VoteBackersSaid : Prop := voteBackersRow.holds Try.pinned (OpenSpec.ofChange voteBackersSpec)

/-- ITS FALSE NEIGHBOUR: 'it returns false'. Refute it at one input. -/
def voteBackersWrong : ChangeSpec := { name := "voteBackers", fn := fun _ => fun
  | [d] => { results := [.lit (.bool false)], args := [d] }
  | _ => none }
def VoteBackersWrongFalsely : Prop := voteBackersRow.holds Try.pinned (OpenSpec.ofChange voteBackersWrong)

/- THE SECOND FORM. 'bulk': how many values and letters a reading holds, each counted each time it is reached (what is shared counts as often as it is met; a slice's spare places count too). A statement '..UptoSaid' is the law's where the arguments, and the package variables that the reading takes, are together of bulk at most 1048576: NARROWER than '..Said'. Prove '..Said' where nothing that the law and all that it calls make is longer than what came in: it says more and counts as full. Else prove '..UptoSaid'. A law counts once. -/
mutual
def uptoBulk {H : Type} : DataW H → Nat
  | .lit (.string bytes) => bytes.length + 1
  | .lit _ => 1
  | .nil => 1
  | .ptr d => uptoBulk d + 1
  | .slice elems spare => uptoBulkAll elems + uptoBulkAll spare + 1
  | .agg parts => uptoBulkAll parts + 1
  | .iface _ d => uptoBulk d + 1
  | .map entries => uptoBulkEntries entries + 1
  | .held _ => 1
def uptoBulkAll {H : Type} : List (DataW H) → Nat
  | [] => 0
  | d :: r => uptoBulk d + uptoBulkAll r
def uptoBulkEntries {H : Type} : List (Lit × DataW H) → Nat
  | [] => 0
  | x :: r => uptoBulkEntry x + uptoBulkEntries r
def uptoBulkEntry {H : Type} : Lit × DataW H → Nat
  | (.string bytes, d) => bytes.length + uptoBulk d + 1
  | (_, d) => uptoBulk d + 1
 end
def uptoSmall : (H : Type) → List (DataW H) → Bool := fun _ ds => decide (uptoBulkAll ds ≤ 1048576)
def OpenSpec.upto (s : _root_.Go.ChangeSpec) : _root_.Go.OpenSpec := { _root_.Go.OpenSpec.ofChange s with cond := some uptoSmall }

/-- 'drumlinelaw14.VoteFaults', WHERE WHAT IT READS IS OF BULK AT MOST 1048576: true; the input reads as it did. -/
def voteFaultsUptoRow : OpenClaim := { program := "ytaldchogcingbaa", sum := "868a161b00bf6917020d2162b4912de6ea45cc2c3d70963520110975cb62bbb0", func := "drumline/drumlinelaw14.VoteFaults", spec := "voteFaults", apart := false, narrowed := true }
def VoteFaultsUptoSaid : Prop := voteFaultsUptoRow.holds Try.pinned (OpenSpec.upto voteFaultsSpec)

/-- 'drumlinelaw14.VoteBackers', WHERE WHAT IT READS IS OF BULK AT MOST 1048576: true; the input reads as it did. -/
def voteBackersUptoRow : OpenClaim := { program := "ytaldchogcingbaa", sum := "868a161b00bf6917020d2162b4912de6ea45cc2c3d70963520110975cb62bbb0", func := "drumline/drumlinelaw14.VoteBackers", spec := "voteBackers", apart := false, narrowed := true }
def VoteBackersUptoSaid : Prop := voteBackersUptoRow.holds Try.pinned (OpenSpec.upto voteBackersSpec)

end Rows
end Go.Proofs.Ytaldchogcingbaa
