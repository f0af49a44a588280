/-
  Walks of the seat's functions: Tk.
-/
import Derived.Test.YtfphjfbknphhjaaGreatDoorEb2
import Derived.Test.YtfphjfbknphhjaaGreatDoorShMb
set_option linter.unusedVariables false
set_option linter.unusedSimpArgs false
set_option maxRecDepth 100000
namespace Go.Proofs.YtfphjfbknphhjaaGreatDoor
open Go.Proofs.YtfphjfbknphhjaaGreatDoor.Sh
/-! ticks, clock, and the document's own. -/

def Zk8 (x : Int) : Prop := -1099511627776 ≤ x ∧ x ≤ 1099511627776
instance (x : Int) : Decidable (Zk8 x) := inferInstanceAs (Decidable (_ ∧ _))

theorem Z5z (x : Int) : PCw ES Zhb [.int .i64 x] = some (.bool (decide (Zk8 x))) := by
  refine Za4 (fun M => ?_) rfl
  rw [Z9a]
  by_cases h : -1099511627776 ≤ x <;> simp [Zs1, Zf, Zd, Ze, Zl, Zn, Zo, TK.agg, Zb, zeroS, Zi, Zg, splice, Zx, Z5, Zk, Zk8, h]
@[simp] theorem Zarh (get) (x : Int) : Za0 (PCw ES) get Zhb [.int .i64 x] = some (.bool (decide (Zk8 x))) := Z4 (Z5z x) rfl
theorem Zai4 (x : Int) : PCw ES Zmp [.int .i64 x] = some (.bool (decide (Zk8 x))) := by
  refine Za4 (fun M => ?_) rfl
  rw [Zam9]
  by_cases h : -1099511627776 ≤ x <;> simp [Z0z, Zf, Zd, Ze, Zl, Zn, Zo, TK.agg, Zb, zeroS, Zi, Zg, splice, Zx, Z5, Zk, Zk8, h]
@[simp] theorem Zaux (get) (x : Int) : Za0 (PCw ES) get Zmp [.int .i64 x] = some (.bool (decide (Zk8 x))) := Z4 (Zai4 x) rfl
end Go.Proofs.YtfphjfbknphhjaaGreatDoor
