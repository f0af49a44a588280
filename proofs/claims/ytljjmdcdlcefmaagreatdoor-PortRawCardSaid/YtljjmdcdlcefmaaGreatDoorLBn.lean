/-
  Walks of the seat's functions: Bn.
-/
import Derived.Test.YtljjmdcdlcefmaaGreatDoorEbMa
import Derived.Test.YtljjmdcdlcefmaaGreatDoorShMb
import Derived.Test.YtljjmdcdlcefmaaGreatDoorLWc
set_option linter.unusedVariables false
set_option linter.unusedSimpArgs false
set_option maxRecDepth 100000
namespace Go.Proofs.YtljjmdcdlcefmaaGreatDoor
open Go.Proofs.YtljjmdcdlcefmaaGreatDoor.Sh
/-! The laws of bounds: their examples. -/
theorem wf8 {v : Int} (h : (Lit.int .u8 v).wf = true) : 0 ≤ v ∧ v ≤ 255 := by
  simp [Lit.wf, IntKind.min, IntKind.max, IntKind.bits, IntKind.signed] at h
  omega
theorem wf16 {v : Int} (h : (Lit.int .u16 v).wf = true) : 0 ≤ v ∧ v ≤ 65535 := by
  simp [Lit.wf, IntKind.min, IntKind.max, IntKind.bits, IntKind.signed] at h
  omega
@[simp] theorem conv_u8 (get : Nat → Option (List SV)) (v : Int) : convS ES.P get T_uint8 T_int (.int .u8 v) = some (.int .i64 (IntKind.i64.wrap v)) := by simp [convS]

end Go.Proofs.YtljjmdcdlcefmaaGreatDoor
