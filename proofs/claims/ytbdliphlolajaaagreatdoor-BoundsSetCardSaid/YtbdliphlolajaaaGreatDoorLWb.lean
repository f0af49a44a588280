/-
  Walks of the seat's functions: Wb.
-/
import Derived.Test.YtbdliphlolajaaaGreatDoorEb2
import Derived.Test.YtbdliphlolajaaaGreatDoorShSv
import Derived.Test.YtbdliphlolajaaaGreatDoorLRg
import Derived.Test.YtbdliphlolajaaaGreatDoorLWa
set_option linter.unusedVariables false
set_option linter.unusedSimpArgs false
set_option maxRecDepth 100000
namespace Go.Proofs.YtbdliphlolajaaaGreatDoor
open Go.Proofs.YtbdliphlolajaaaGreatDoor.Sh
/-! The law PlanTells. -/
def portG (c : Cfg) (part node : Int) : Option Port := if rightC c && decide (inMany part c.parts.length) then findPort c.links part node else none
theorem find_range {α : Type} (p : α → Bool) (l : List α) : l.find? p = ((List.range l.length).find? (fun j => (l[j]?.map p).getD false)).bind fun j => l[j]? := by
  cases h : (List.range l.length).find? (fun j => (l[j]?.map p).getD false) with
  | none =>
    rw [List.find?_range_eq_none] at h
    rw [Option.bind_none, List.find?_eq_none]
    intro x hx
    obtain ⟨j, hj, rfl⟩ := List.mem_iff_getElem.1 hx
    simpa [hj] using h j hj
  | some j =>
    rw [List.find?_range_eq_some] at h
    obtain ⟨h1, h2, h3⟩ := h
    have hlt : j < l.length := by simpa using h2
    simp [hlt] at h1
    rw [Option.bind_some, List.getElem?_eq_getElem hlt, List.find?_eq_some_iff_getElem]
    exact ⟨h1, j, hlt, rfl, fun i hi => by simpa [show i < l.length by omega] using h3 i hi⟩
theorem portsG_find {c : Cfg} (part n : Int) : (portsG c part).find? (fun p => decide (p.node = n)) = portG c part n := by
  unfold portsG portG
  cases hr : rightC c with
  | false => simp
  | true =>
    by_cases hp : inMany part c.parts.length
    · simp only [hp, decide_true, Bool.and_self, if_true]
      exact portsL_find (portsOk_of (checkG_zero (by simpa [rightC] using hr)) part) n
    · simp [hp]
/-- A port's other side. -/
def farOf (ls : List Link) (p : Port) : Int × Int :=
  match ls[p.link.toNat]? with
  | some l => if p.side = 0 then (l.b, if p.gate = 0 then l.pb0 else l.pb1) else (l.a, if p.gate = 0 then l.pa0 else l.pa1)
  | none => (0, 0)
def PortIn (ls : List Link) (p : Port) : Prop := (∃ j : Nat, j < ls.length ∧ p.link = j) ∧ (p.gate = 0 ∨ p.gate = 1) ∧ (p.side = 0 ∨ p.side = 1)
theorem portOfLink_in {i : Nat} {l : Link} {part n : Int} {p : Port} (h : portOfLink i l part n = some p) : p.link = i ∧ (p.gate = 0 ∨ p.gate = 1) ∧ (p.side = 0 ∨ p.side = 1) := by
  unfold portOfLink at h
  split at h
  · cases h; simp
  split at h
  · cases h; simp
  split at h
  · cases h; simp
  split at h
  · cases h; simp
  · cases h
theorem findPort_in {ls : List Link} {part n : Int} {p : Port} (h : findPort ls part n = some p) : PortIn ls p := by
  unfold findPort at h
  split at h
  · rename_i j hj
    rw [List.find?_range_eq_some] at hj
    obtain ⟨_, h2, _⟩ := hj
    have hlt : j < ls.length := by simpa using h2
    simp [hlt] at h
    obtain ⟨h3, h4⟩ := portOfLink_in h
    exact ⟨⟨j, hlt, h3⟩, h4⟩
  · cases h
theorem portG_in {c : Cfg} {part n : Int} {p : Port} (h : portG c part n = some p) : PortIn c.links p := by
  unfold portG at h
  split at h
  · exact findPort_in h
  · cases h

end Go.Proofs.YtbdliphlolajaaaGreatDoor
