/-
  Walks of the seat's functions: Bh.
-/
import Derived.Test.YtljjmdcdlcefmaaGreatDoorEbMa
import Derived.Test.YtljjmdcdlcefmaaGreatDoorShMb
import Derived.Test.YtljjmdcdlcefmaaGreatDoorLzMg
set_option linter.unusedVariables false
set_option linter.unusedSimpArgs false
set_option maxRecDepth 100000
namespace Go.Proofs.YtljjmdcdlcefmaaGreatDoor
open Go.Proofs.YtljjmdcdlcefmaaGreatDoor.Sh
/-! bounds.Fits, bounds.First. -/
def rangeN (c : Cfg) : Int := if outN c ≠ 0 then outN c else laterN c
theorem fitsG_eq (c : Cfg) : fitsG c = if (checkG c).1 ≠ 0 then checkG c else if rangeN c ≠ 0 then (14, rangeN c) else (0, 0) := by
  unfold fitsG rangeN
  by_cases h1 : (checkG c).1 = 0
  · by_cases h2 : outN c = 0
    · simp [h1, h2]
    · simp [h1, h2]
  · simp [h1]
theorem fit_facts {c : Cfg} (h : fitG c = true) : 0 ≤ c.listen ∧ c.listen ≤ 60000 ∧ 0 ≤ c.span ∧ c.span ≤ 60000 := by
  obtain ⟨h1, h2, h3⟩ := fitG_spec.1 h
  have hf := right_facts h1
  have hlo := (outN_zero h2).lo
  have hl : 0 ≤ leastN c := by
    unfold leastN
    have := Int.mul_nonneg (show 0 ≤ (c.parts.length : Int) by omega) (show 0 ≤ c.lost + 1 by omega)
    omega
  have hw : waitsN c = 0 := by
    unfold laterN at h3
    split at h3
    · rename_i h4; exact absurd h3 h4
    · exact h3
  unfold waitsN at hw
  split at hw
  · omega
  split at hw
  · omega
  split at hw
  · omega
  omega

end Go.Proofs.YtljjmdcdlcefmaaGreatDoor
