/-
  Walks of the seat's functions: Ml.
-/
import Derived.Test.YtedmidpnfnhnlaaEb0
import Derived.Test.YtedmidpnfnhnlaaShMb
import Derived.Test.YtedmidpnfnhnlaaLzMa
import Derived.Test.YtedmidpnfnhnlaaLGs
set_option linter.unusedVariables false
set_option linter.unusedSimpArgs false
set_option maxRecDepth 100000
namespace Go.Proofs.Ytedmidpnfnhnlaa
open Go.Proofs.Ytedmidpnfnhnlaa.Sh
/-! The middle: what is cut, what is left; plain laws. -/
def cutOk (l : List Int) (f : Int) : Bool := decide (0 ≤ f ∧ 2 * f + 1 ≤ l.length)
def cutL (l : List Int) (f : Nat) : List Int := ((isortI l).drop f).take (l.length - 2 * f)
def midG (l : List Int) (f : Int) : Int × Bool := if cutOk l f && timesL l then (mid2 (isortI l) f.toNat / 2, true) else (0, false)
theorem cutOk_nat {l : List Int} {f : Int} (h : cutOk l f = true) : ∃ k : Nat, f = k ∧ 2 * k + 1 ≤ l.length := by
  simp only [cutOk, decide_eq_true_eq] at h
  exact ⟨f.toNat, by omega, by omega⟩
theorem cutL_len {l : List Int} {k : Nat} (h : 2 * k + 1 ≤ l.length) : (cutL l k).length = l.length - 2 * k := by
  unfold cutL
  rw [List.length_take, List.length_drop, isortI_len]
  omega
theorem cutL_get {l : List Int} {k j : Nat} (hj : j < l.length - 2 * k) : (cutL l k)[j]? = (isortI l)[k + j]? := by
  unfold cutL
  rw [List.getElem?_take, if_pos hj, List.getElem?_drop]
theorem cutL_at {l : List Int} {k j : Nat} (h : 2 * k + 1 ≤ l.length) (h0 : j < (cutL l k).length) : (cutL l k)[j] = (isortI l).getD (k + j) 0 := by
  have hl := cutL_len h
  have e := cutL_get (l := l) (k := k) (j := j) (by omega)
  rw [List.getElem?_eq_getElem h0] at e
  rw [List.getD_eq_getElem?_getD, ← e]
  rfl
theorem isortI_mem {l : List Int} {x : Int} : x ∈ isortI l ↔ x ∈ l := (isortI_perm l).mem_iff
theorem isortI_time {l : List Int} (h : timesL l = true) {k : Nat} (hk : k < (isortI l).length) : isTime ((isortI l).getD k 0) := by
  have : (isortI l).getD k 0 = (isortI l)[k] := by simp [hk]
  rw [this]
  have hm := isortI_mem.1 (List.getElem_mem hk)
  simpa using List.all_eq_true.1 h _ hm
/-! Turned about, moved. -/
theorem isortI_perm_eq {a b : List Int} (h : a.Perm b) : isortI a = isortI b := Sorts.uniq (l := b) ⟨(isortI_perm a).trans h, isortI_le a⟩ (isortI_sorts b)
theorem isortI_shift (l : List Int) (d : Int) : isortI (l.map (· + d)) = (isortI l).map (· + d) := Sorts.uniq (isortI_sorts _) ((isortI_sorts l).shift d)
theorem mid2_shift {s : List Int} {f : Nat} (h : 2 * f + 1 ≤ s.length) (d : Int) : mid2 (s.map (· + d)) f = mid2 s f + 2 * d := by
  unfold mid2
  have h1 : f < s.length := by omega
  have h2 : s.length - 1 - f < s.length := by omega
  simp [h1, h2]
  omega
theorem timesL_iff {l : List Int} : timesL l = true ↔ ∀ x ∈ l, isTime x := by
  unfold timesL
  rw [List.all_eq_true]
  simp
theorem midG_ok {l : List Int} {f : Nat} (h : 2 * f + 1 ≤ l.length) (ht : ∀ x ∈ l, isTime x) : midG l f = (mid2 (isortI l) f / 2, true) := by
  have h1 : cutOk l f = true := by simp only [cutOk, decide_eq_true_eq]; omega
  unfold midG
  rw [h1, timesL_iff.2 ht]
  simp
theorem midG_no {l : List Int} {f : Nat} (h : l.length < 2 * f + 1) : midG l f = (0, false) := by
  have h1 : cutOk l f = false := by simp only [cutOk, decide_eq_false_iff_not]; omega
  unfold midG
  rw [h1]
  rfl
/-- Place by place at most d apart: so are the middles. -/
theorem mid_near {a b : List Int} {f : Nat} {d : Int} (hl : a.length = b.length) (hn : 2 * f + 1 ≤ a.length) (h : ∀ i (h1 : i < a.length) (h2 : i < b.length), b[i] ≤ a[i] + d) : mid2 (isortI b) f / 2 ≤ mid2 (isortI a) f / 2 + d := by
  have la := isortI_len a
  have lb := isortI_len b
  have h1 := near_sorts (isortI_sorts a) (isortI_sorts b) hl h (k := f) (by omega) (by omega)
  have h2 := near_sorts (isortI_sorts a) (isortI_sorts b) hl h (k := a.length - 1 - f) (by omega) (by omega)
  refine half_near (d := d) ?_
  unfold mid2
  have e1 : (isortI b).length - 1 - f = a.length - 1 - f := by omega
  have e2 : (isortI a).length - 1 - f = a.length - 1 - f := by omega
  rw [e1, e2]
  have q1 : f < (isortI a).length := by omega
  have q2 : a.length - 1 - f < (isortI a).length := by omega
  have q3 : f < (isortI b).length := by omega
  have q4 : a.length - 1 - f < (isortI b).length := by omega
  simp only [List.getD_eq_getElem?_getD, List.getElem?_eq_getElem q1, List.getElem?_eq_getElem q2, List.getElem?_eq_getElem q3, List.getElem?_eq_getElem q4, Option.getD_some]
  omega

end Go.Proofs.Ytedmidpnfnhnlaa
