/-
  Walks of the seat's functions: Wa.
-/
import Derived.Test.YtljjmdcdlcefmaaGreatDoorEbMa
import Derived.Test.YtljjmdcdlcefmaaGreatDoorShMb
import Derived.Test.YtljjmdcdlcefmaaGreatDoorLWc
import Derived.Test.YtljjmdcdlcefmaaGreatDoorLRe
set_option linter.unusedVariables false
set_option linter.unusedSimpArgs false
set_option maxRecDepth 100000
namespace Go.Proofs.YtljjmdcdlcefmaaGreatDoor
open Go.Proofs.YtljjmdcdlcefmaaGreatDoor.Sh
/-! The law PlanChecks. -/

end Go.Proofs.YtljjmdcdlcefmaaGreatDoor
