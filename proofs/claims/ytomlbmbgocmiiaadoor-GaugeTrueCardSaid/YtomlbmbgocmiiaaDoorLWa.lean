/-
  Walks of the seat's functions: Wa.
-/
import Derived.Test.YtomlbmbgocmiiaaDoorEb0
import Derived.Test.YtomlbmbgocmiiaaDoorShMb
import Derived.Test.YtomlbmbgocmiiaaDoorLWc
import Derived.Test.YtomlbmbgocmiiaaDoorLRe
set_option linter.unusedVariables false
set_option linter.unusedSimpArgs false
set_option maxRecDepth 100000
namespace Go.Proofs.YtomlbmbgocmiiaaDoor
open Go.Proofs.YtomlbmbgocmiiaaDoor.Sh
/-! The law PlanChecks. -/

end Go.Proofs.YtomlbmbgocmiiaaDoor
