/-
  Walks of the seat's functions: Is.
-/
import Derived.Test.YtomlbmbgocmiiaaDoorEb0
import Derived.Test.YtomlbmbgocmiiaaDoorShMb
import Derived.Test.YtomlbmbgocmiiaaDoorLPm
set_option linter.unusedVariables false
set_option linter.unusedSimpArgs false
set_option maxRecDepth 100000
namespace Go.Proofs.YtomlbmbgocmiiaaDoor
open Go.Proofs.YtomlbmbgocmiiaaDoor.Sh
def smallP (l : List Port) : Prop := ∀ p ∈ l, 0 ≤ p.node ∧ p.node ≤ 1000
def sortedP (l : List Port) : Prop := l.Pairwise fun x y => x.node ≤ y.node
def portSV (l : List Port) : List SV := l.map encPort
theorem portSV_at (l : List Port) (j : Nat) : (portSV l)[j]? = l[j]?.map encPort := by simp [portSV]

end Go.Proofs.YtomlbmbgocmiiaaDoor
