/-
  Walks of the seat's functions: Wf.
-/
import Derived.Test.YtbdliphlolajaaaGreatDoorEb2
import Derived.Test.YtbdliphlolajaaaGreatDoorShSv
import Derived.Test.YtbdliphlolajaaaGreatDoorLMg
set_option linter.unusedVariables false
set_option linter.unusedSimpArgs false
set_option maxRecDepth 100000
namespace Go.Proofs.YtbdliphlolajaaaGreatDoor
open Go.Proofs.YtbdliphlolajaaaGreatDoor.Sh
/-! Of a port's other side the other side is the port. -/
theorem right_link {c : Cfg} (h : rightC c = true) {j : Nat} (hj : j < c.links.length) : inMany c.links[j].a c.parts.length ∧ inMany c.links[j].b c.parts.length ∧ c.links[j].a < c.links[j].b := by
  have he := checkG_zero (c := c) (by simpa [rightC] using h)
  have h2 := (linksErr_none (checkErr_none he).2).2 j hj
  unfold linkErr at h2
  split at h2
  · omega
  · rename_i hb
    unfold badEnds at hb
    simp only [Bool.or_eq_true, Bool.not_eq_true', decide_eq_false_iff_not, decide_eq_true_eq, not_or, Decidable.not_not] at hb
    exact ⟨hb.1.1, hb.1.2, by omega⟩
theorem portG_of {c : Cfg} (h : rightC c = true) {j : Nat} (hj : j < c.links.length) {part n : Int} {q : Port} (hin : inMany part c.parts.length) (hq : q ∈ portsOfLink part j c.links[j]) (hn : q.node = n) : portG c part n = some q := by
  have he := checkG_zero (c := c) (by simpa [rightC] using h)
  unfold portG
  simp only [h, hin, decide_true, Bool.and_self, if_true]
  exact (portsOk_of he part).find.2 ⟨endsK_mem.2 ⟨j, hj, hj, hq⟩, hn⟩
theorem portG_far {c : Cfg} {part node : Int} {p : Port} (h : portG c part node = some p) :
    ∃ q, portG c (farOf c.links p).1 (farOf c.links p).2 = some q ∧ q.link = p.link ∧ q.gate = p.gate ∧ p.side = 1 - q.side ∧ (q.side = 0 ∨ q.side = 1) ∧ farOf c.links q = (part, node) ∧ (farOf c.links p).1 ≠ part := by
  unfold portG at h
  split at h
  case isFalse => cases h
  rename_i hr
  simp only [Bool.and_eq_true, decide_eq_true_eq] at hr
  obtain ⟨hr, hin⟩ := hr
  obtain ⟨h1, h2⟩ := findPort_mem h
  obtain ⟨j, hj, _, h3⟩ := endsK_mem.1 h1
  obtain ⟨la, lb, hlt⟩ := right_link hr hj
  have hl : c.links[j]? = some c.links[j] := by simp [hj]
  have key := fun (part n : Int) (q : Port) hin hq hn => portG_of (part := part) (n := n) (q := q) hr hj hin hq hn
  generalize c.links[j] = l at *
  simp only [portsOfLink, portsOfEnd, endOf, List.mem_append] at h3
  rcases h3 with h3 | h3
  · simp only [Int.ofNat_zero, Int.natCast_zero, if_true] at h3
    split at h3
    case isFalse => cases h3
    rename_i ha
    simp only [List.mem_cons, List.not_mem_nil, or_false] at h3
    rcases h3 with rfl | rfl
    · refine ⟨⟨l.pb0, j, 0, 1⟩, ?_, rfl, rfl, by simp, .inr rfl, ?_, ?_⟩
      · simp only [farOf, Int.toNat_natCast, hl, if_true]
        exact key _ _ _ lb (by simp [portsOfLink, portsOfEnd, endOf]) rfl
      · simp [farOf, hl, ha, ← h2]
      · simp [farOf, hl]; omega
    · refine ⟨⟨l.pb1, j, 1, 1⟩, ?_, rfl, rfl, by simp, .inr rfl, ?_, ?_⟩
      · simp only [farOf, Int.toNat_natCast, hl, if_true]
        exact key _ _ _ lb (by simp [portsOfLink, portsOfEnd, endOf]) rfl
      · simp [farOf, hl, ha, ← h2]
      · simp [farOf, hl]; omega
  · have z1 : ¬ (((1 : Nat) : Int) = 0) := by decide
    simp only [z1, if_false] at h3
    split at h3
    case isFalse => cases h3
    rename_i ha
    simp only [List.mem_cons, List.not_mem_nil, or_false] at h3
    rcases h3 with rfl | rfl
    · refine ⟨⟨l.pa0, j, 0, 0⟩, ?_, rfl, rfl, by simp, .inl rfl, ?_, ?_⟩
      · simp only [farOf, Int.toNat_natCast, hl, z1, if_false, if_true]
        exact key _ _ _ la (by simp [portsOfLink, portsOfEnd, endOf]) rfl
      · simp [farOf, hl, ha, ← h2]
      · simp [farOf, hl]; omega
    · refine ⟨⟨l.pa1, j, 1, 0⟩, ?_, rfl, rfl, by simp, .inl rfl, ?_, ?_⟩
      · simp only [farOf, Int.toNat_natCast, hl, z1, if_false, if_true]
        exact key _ _ _ la (by simp [portsOfLink, portsOfEnd, endOf]) rfl
      · simp [farOf, hl, ha, ← h2]
      · simp [farOf, hl]; omega
theorem Made_c (n : Int) : ∃ P L, (∀ get, callP (PCw ES) get n_r26_Made [.int .i64 n] = some (.agg (cfgC (madeC n) P L))) ∧ CfgP (madeC n) P L := by
  obtain ⟨P, L, h1, h2⟩ := Made_ok n
  exact ⟨P, L, fun get => callP_of h1 (by simp), h2⟩

end Go.Proofs.YtbdliphlolajaaaGreatDoor
