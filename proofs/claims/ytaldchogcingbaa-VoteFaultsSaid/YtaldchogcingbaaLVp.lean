/-
  Walks of the seat's functions: Vp.
-/
import Derived.Test.YtaldchogcingbaaEb0
import Derived.Test.YtaldchogcingbaaShMb
set_option linter.unusedVariables false
set_option linter.unusedSimpArgs false
set_option maxRecDepth 100000
namespace Go.Proofs.Ytaldchogcingbaa
open Go.Proofs.Ytaldchogcingbaa.Sh
/-! What comes in is plain. -/
theorem mkV_pv {P : Program} {e : Nat} {ys : List SV} (h : pvs ys = true) : Sh.pv (mkV P e ys) = true := by
  unfold mkV
  split
  · simpa [Sh.pv] using h
  · cases ys with
    | nil => rfl
    | cons y r => simp only [pvs, Bool.and_eq_true] at h; exact h.1
theorem WT_pv {P : Program} : ∀ (n t : Nat) (xs : List SV), WT P n t xs → pvs xs = true
  | 0, _, _, h => by simp [WT] at h
  | n + 1, t, xs, h => by
    unfold WT at h
    split at h
    · obtain ⟨b, rfl⟩ := h; rfl
    · obtain ⟨b, rfl, _⟩ := h; rfl
    · obtain ⟨b, rfl, _⟩ := h; rfl
    · rcases h with rfl | ⟨items, rfl, _, hi⟩
      · rfl
      · simp only [pvs, Sh.pv, Bool.and_true, Bool.and_eq_true]
        refine ⟨rfl, pvs_iff.2 fun y hy => ?_⟩
        obtain ⟨ys, rfl, hw⟩ := hi y hy
        exact mkV_pv (WT_pv n _ ys hw)
    · obtain ⟨parts, rfl, hl, hp⟩ := h
      refine pvs_iff.2 fun x hx => ?_
      obtain ⟨p, hp1, hx2⟩ := List.mem_flatten.1 hx
      obtain ⟨i, hi, rfl⟩ := List.mem_iff_getElem.1 hp1
      have hi2 := hi
      rw [hl] at hi2
      exact pvs_iff.1 (WT_pv n _ _ (hp i _ _ (Array.getElem?_eq_getElem hi2) (List.getElem?_eq_getElem hi))) x hx2
    · obtain ⟨parts, rfl, hl, hp⟩ := h
      refine pvs_iff.2 fun x hx => ?_
      obtain ⟨p, hp1, hx2⟩ := List.mem_flatten.1 hx
      exact pvs_iff.1 (WT_pv n _ _ (hp p hp1)) x hx2
    · cases h

end Go.Proofs.Ytaldchogcingbaa
