/-
  Walks of the seat's functions: Bn.
-/
import Derived.Test.YtbdliphlolajaaaGreatDoorEb2
import Derived.Test.YtbdliphlolajaaaGreatDoorShSv
import Derived.Test.YtbdliphlolajaaaGreatDoorLWc
set_option linter.unusedVariables false
set_option linter.unusedSimpArgs false
set_option maxRecDepth 100000
namespace Go.Proofs.YtbdliphlolajaaaGreatDoor
open Go.Proofs.YtbdliphlolajaaaGreatDoor.Sh
/-! The laws of bounds: their examples. -/
theorem l7_alive_ok : PCw ES n_l7_alive [] = some (.bool true) := PCw_closed 200 (by kernel_rfl)
@[simp] theorem l7_alive_c (get) : callP (PCw ES) get n_l7_alive [] = some (.bool true) := callP_of l7_alive_ok rfl
@[simp] theorem l7_num_c (get) (n : Int) : callP (PCw ES) get n_l7_num [.int .i64 n] = some (.int .i64 n) := by
  refine callP_of (PCw_ex (fun M => ?_) rfl) rfl
  rw [b_l7_num]
  simp [c_l7_num, evW_reg, evW_chkr, isCst, loadS, partS, TK.agg, fieldAddrS, zeroS, storeS, setPart, splice, endS, resS, fieldS]

end Go.Proofs.YtbdliphlolajaaaGreatDoor
