/-
  Walks of the seat's functions: Wa.
-/
import Derived.Test.YtbdliphlolajaaaGreatDoorEb2
import Derived.Test.YtbdliphlolajaaaGreatDoorShSv
import Derived.Test.YtbdliphlolajaaaGreatDoorLWc
import Derived.Test.YtbdliphlolajaaaGreatDoorLRe
set_option linter.unusedVariables false
set_option linter.unusedSimpArgs false
set_option maxRecDepth 100000
namespace Go.Proofs.YtbdliphlolajaaaGreatDoor
open Go.Proofs.YtbdliphlolajaaaGreatDoor.Sh
/-! The law PlanChecks. -/

end Go.Proofs.YtbdliphlolajaaaGreatDoor
