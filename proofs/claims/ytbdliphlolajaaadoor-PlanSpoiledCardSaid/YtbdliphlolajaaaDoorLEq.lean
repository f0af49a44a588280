/-
  Walks of the seat's functions: Eq.
-/
import Derived.Test.YtbdliphlolajaaaDoorEb2
import Derived.Test.YtbdliphlolajaaaDoorShSv
import Derived.Test.YtbdliphlolajaaaDoorLEp
import Derived.Test.YtbdliphlolajaaaDoorLCk
import Derived.Test.YtbdliphlolajaaaDoorLRe
set_option linter.unusedVariables false
set_option linter.unusedSimpArgs false
set_option maxRecDepth 100000
namespace Go.Proofs.YtbdliphlolajaaaDoor
open Go.Proofs.YtbdliphlolajaaaDoor.Sh
/-! A right network's ports. -/
theorem checkG_zero {c : Cfg} (h : (checkG c).1 = 0) : checkErr c = none := by
  unfold checkG at h
  cases he : checkErr c with
  | none => rfl
  | some ei =>
    obtain ⟨e, a⟩ := ei
    have := checkErr_range he
    rw [he] at h
    simp at h
    omega
theorem checkErr_none {c : Cfg} (h : checkErr c = none) : partsErr c = none ∧ linksErr c = none := by
  unfold checkErr at h
  split at h
  · cases h
  rename_i h1
  split at h
  · cases h
  rename_i h2
  exact ⟨h1, h2⟩
theorem endBad_false {c : Cfg} {i : Nat} {part p0 p1 : Int} (h : endBad c i part p0 p1 = false) : p0 ≠ p1 ∧ inMany p0 (nodesAt c part) ∧ inMany p1 (nodesAt c part) ∧ takenL (c.links.take i) part p0 = false ∧ takenL (c.links.take i) part p1 = false := by
  simp [endBad, portBad] at h
  obtain ⟨⟨h1, h2, h3⟩, h4, h5⟩ := h
  exact ⟨h1, h2, h4, h3, h5⟩
theorem portsOk_of {c : Cfg} (h : checkErr c = none) (part : Int) : PortsOk c.links part (nodesAt c part) := by
  obtain ⟨_, h2⟩ := checkErr_none h
  have hz := (linksErr_none h2).2
  refine ⟨fun l hl => ?_, fun j hj e => ?_, fun j hj e => ?_⟩
  · obtain ⟨j, hj, rfl⟩ := List.mem_iff_getElem.1 hl
    exact (badEnds_ok (linkErr_zero (hz j hj)).1).2.2
  · have := endBad_false (linkErr_zero (hz j hj)).2.2.1
    rw [e] at this
    exact this
  · have := endBad_false (linkErr_zero (hz j hj)).2.2.2
    rw [e] at this
    exact this
theorem nodesAt_le {c : Cfg} (h : checkErr c = none) (part : Int) : 0 ≤ nodesAt c part ∧ nodesAt c part ≤ 12 := by
  obtain ⟨h1, _⟩ := checkErr_none h
  have hp := (partsErr_none h1).2.2
  unfold nodesAt
  cases hq : c.parts[part.toNat]? with
  | none => simp
  | some p =>
    have := hp p (List.mem_of_getElem? hq)
    simp [partBad] at this
    simp
    omega
theorem endsL_len {ls : List Link} {part nodes : Int} (h : PortsOk ls part nodes) (h0 : 0 ≤ nodes) (hn : nodes ≤ 12) : (endsL ls part).length ≤ 12 := by
  obtain ⟨w1, w2⟩ := h.ends (Nat.le_refl _)
  have hnd : ((endsL ls part).map fun p => p.node.toNat).Nodup := by
    rw [List.nodup_iff_pairwise_ne, List.pairwise_map]
    refine (List.Pairwise.and_mem.1 w1).imp fun {p q} hh => ?_
    obtain ⟨hp, hq, hne⟩ := hh
    have := w2 p hp
    have := w2 q hq
    unfold inMany at *
    omega
  have hsub : ((endsL ls part).map fun p => p.node.toNat) ⊆ List.range 12 := by
    intro x hx
    obtain ⟨p, hp, rfl⟩ := List.mem_map.1 hx
    have := w2 p hp
    unfold inMany at this
    simp
    omega
  have := hnd.length_le_of_subset hsub
  simpa using this

end Go.Proofs.YtbdliphlolajaaaDoor
