/-
  Walks of the seat's functions: Sl.
-/
import Derived.Test.YtaldchogcingbaaEb0
import Derived.Test.YtaldchogcingbaaShMb
set_option linter.unusedVariables false
set_option linter.unusedSimpArgs false
set_option maxRecDepth 100000
namespace Go.Proofs.Ytaldchogcingbaa
open Go.Proofs.Ytaldchogcingbaa.Sh
/-! What the library's functions on slices do. -/

def idxOf {α : Type} (p : α → Bool) (l : List α) : Int := match (List.range l.length).find? (fun j => (l[j]?.map p).getD false) with
  | some i => (i : Int)
  | none => -1

theorem idxOf_neg {α : Type} {p : α → Bool} {l : List α} : (idxOf p l = -1 ∧ ∀ a ∈ l, p a = false) ∨ ∃ i, ∃ h : i < l.length, idxOf p l = i ∧ p l[i] = true ∧ ∀ j (hj : j < i), p (l[j]'(by omega)) = false := by
  unfold idxOf
  cases h : (List.range l.length).find? (fun j => (l[j]?.map p).getD false) with
  | none =>
    left
    rw [List.find?_range_eq_none] at h
    refine ⟨rfl, fun a ha => ?_⟩
    obtain ⟨j, hj, rfl⟩ := List.mem_iff_getElem.1 ha
    have := h j hj
    simpa [hj] using this
  | some i =>
    right
    rw [List.find?_range_eq_some] at h
    obtain ⟨h1, h2, h3⟩ := h
    have hi : i < l.length := by simpa using h2
    refine ⟨i, hi, rfl, by simpa [hi] using h1, fun j hj => ?_⟩
    have := h3 j hj
    have hj' : j < l.length := by omega
    simpa [hj'] using this

theorem idxOf_any {α : Type} (p : α → Bool) (l : List α) : decide (0 ≤ idxOf p l) = l.any p := by
  rcases idxOf_neg (p := p) (l := l) with ⟨h1, h2⟩ | ⟨i, hi, h1, h2, h3⟩
  · rw [h1, List.any_eq_false.2 (fun a ha => by simp [h2 a ha])]; rfl
  · rw [h1, List.any_eq_true.2 ⟨l[i], List.getElem_mem hi, h2⟩]; simp
/-- The greatest, the least. -/
def maxL (l : List Int) : Int := l.foldl max (l.headD 0)
def minL (l : List Int) : Int := l.foldl min (l.headD 0)

end Go.Proofs.Ytaldchogcingbaa
