/-
  Walks of the seat's functions: Bn.
-/
import Derived.Test.YtbdliphlolajaaaGreatDoorEb2
import Derived.Test.YtbdliphlolajaaaGreatDoorShSv
import Derived.Test.YtbdliphlolajaaaGreatDoorLWc
set_option linter.unusedVariables false
set_option linter.unusedSimpArgs false
set_option maxRecDepth 100000
namespace Go.Proofs.YtbdliphlolajaaaGreatDoor
open Go.Proofs.YtbdliphlolajaaaGreatDoor.Sh
/-! The laws of bounds: their examples. -/
theorem wf8 {v : Int} (h : (Lit.int .u8 v).wf = true) : 0 ≤ v ∧ v ≤ 255 := by
  simp [Lit.wf, IntKind.min, IntKind.max, IntKind.bits, IntKind.signed] at h
  omega
theorem wf16 {v : Int} (h : (Lit.int .u16 v).wf = true) : 0 ≤ v ∧ v ≤ 65535 := by
  simp [Lit.wf, IntKind.min, IntKind.max, IntKind.bits, IntKind.signed] at h
  omega
@[simp] theorem conv_u8 (get : Nat → Option (List SV)) (v : Int) : convS ES.P get T_uint8 T_int (.int .u8 v) = some (.int .i64 (IntKind.i64.wrap v)) := by simp [convS]
@[simp] theorem conv_u16 (get : Nat → Option (List SV)) (v : Int) : convS ES.P get T_uint16 T_int (.int .u16 v) = some (.int .i64 (IntKind.i64.wrap v)) := by simp [convS]
theorem l7_alive_ok : PCw ES n_l7_alive [] = some (.bool true) := PCw_closed 200 (by kernel_rfl)
@[simp] theorem l7_alive_c (get) : callP (PCw ES) get n_l7_alive [] = some (.bool true) := callP_of l7_alive_ok rfl
@[simp] theorem l7_num_c (get) (n : Int) : callP (PCw ES) get n_l7_num [.int .i64 n] = some (.int .i64 n) := by
  refine callP_of (PCw_ex (fun M => ?_) rfl) rfl
  rw [b_l7_num]
  simp [c_l7_num, evW_reg, evW_chkr, isCst, loadS, partS, TK.agg, fieldAddrS, zeroS, storeS, setPart, splice, endS, resS, fieldS]

end Go.Proofs.YtbdliphlolajaaaGreatDoor
