/-
  Walks of the seat's functions: En.
-/
import Derived.Test.YtomlbmbgocmiiaaDoorEb0
import Derived.Test.YtomlbmbgocmiiaaDoorShMb
import Derived.Test.YtomlbmbgocmiiaaDoorLIs
import Derived.Test.YtomlbmbgocmiiaaDoorLRa
set_option linter.unusedVariables false
set_option linter.unusedSimpArgs false
set_option maxRecDepth 100000
namespace Go.Proofs.YtomlbmbgocmiiaaDoor
open Go.Proofs.YtomlbmbgocmiiaaDoor.Sh
/-! plan.Ends. -/
def portsOfEnd (i : Nat) (l : Link) (side : Nat) (part : Int) : List Port := if (endOf l side).1 = part then [⟨(endOf l side).2.1, i, 0, side⟩, ⟨(endOf l side).2.2, i, 1, side⟩] else []
def portsOfLink (part : Int) (i : Nat) (l : Link) : List Port := portsOfEnd i l 0 part ++ portsOfEnd i l 1 part
def endsK (ls : List Link) (part : Int) (k : Nat) : List Port := (List.range k).flatMap fun i => (ls[i]?.map (portsOfLink part i)).getD []
def endsL (ls : List Link) (part : Int) : List Port := endsK ls part ls.length
theorem endsK_succ {ls : List Link} {part : Int} {k : Nat} (h : k < ls.length) : endsK ls part (k + 1) = endsK ls part k ++ portsOfLink part k ls[k] := by
  simp [endsK, List.range_succ, h]
theorem portsOfLink_len (part : Int) (i : Nat) (l : Link) : (portsOfLink part i l).length ≤ 4 := by
  unfold portsOfLink portsOfEnd
  split <;> split <;> simp
theorem endsK_len {ls : List Link} {part : Int} : ∀ {k : Nat}, k ≤ ls.length → (endsK ls part k).length ≤ 4 * k
  | 0, _ => by simp [endsK]
  | k + 1, h => by
    rw [endsK_succ (by omega), List.length_append]
    have := endsK_len (ls := ls) (part := part) (k := k) (by omega)
    have := portsOfLink_len part k ls[k]
    omega
theorem portSV_append (a b : List Port) : portSV (a ++ b) = portSV a ++ portSV b := by simp [portSV]

end Go.Proofs.YtomlbmbgocmiiaaDoor

/-
  Walks of the seat's functions: Ep.
-/
set_option linter.unusedVariables false
set_option linter.unusedSimpArgs false
set_option maxRecDepth 100000
namespace Go.Proofs.YtomlbmbgocmiiaaDoor
open Go.Proofs.YtomlbmbgocmiiaaDoor.Sh
/-! A part's ports: the plain law. -/
theorem portsOfLink_node (part : Int) (i : Nat) (l : Link) (n : Int) : linkTaken l part n = true ↔ ∃ p ∈ portsOfLink part i l, p.node = n := by
  unfold linkTaken portsOfLink portsOfEnd endOf
  by_cases h1 : l.a = part <;> by_cases h2 : l.b = part <;> simp [h1, h2, or_assoc]
theorem endsK_mem {ls : List Link} {part : Int} {k : Nat} {p : Port} : p ∈ endsK ls part k ↔ ∃ i, ∃ h : i < ls.length, i < k ∧ p ∈ portsOfLink part i ls[i] := by
  simp only [endsK, List.mem_flatMap, List.mem_range]
  constructor
  · rintro ⟨i, hi, hp⟩
    by_cases h : i < ls.length
    · simp [h] at hp
      exact ⟨i, h, hi, hp⟩
    · simp [h] at hp
  · rintro ⟨i, h, hi, hp⟩
    exact ⟨i, hi, by simpa [h] using hp⟩
theorem takenL_ends {ls : List Link} {part n : Int} {k : Nat} (hk : k ≤ ls.length) : takenL (ls.take k) part n = true ↔ ∃ p ∈ endsK ls part k, p.node = n := by
  unfold takenL
  rw [List.any_eq_true]
  constructor
  · rintro ⟨l, hl, ht⟩
    obtain ⟨i, hi, rfl⟩ := List.mem_iff_getElem.1 hl
    simp at hi
    rw [List.getElem_take] at ht
    obtain ⟨p, hp, hn⟩ := (portsOfLink_node part i _ n).1 ht
    exact ⟨p, endsK_mem.2 ⟨i, by omega, by omega, hp⟩, hn⟩
  · rintro ⟨p, hp, hn⟩
    obtain ⟨i, h, hi, hp⟩ := endsK_mem.1 hp
    refine ⟨ls[i], ?_, (portsOfLink_node part i _ n).2 ⟨p, hp, hn⟩⟩
    rw [List.mem_iff_getElem]
    exact ⟨i, by simp; omega, by simp⟩
/-- A right network's links: no port twice, all of them nodes. -/
structure PortsOk (ls : List Link) (part : Int) (nodes : Int) : Prop where
  ab : ∀ l ∈ ls, l.a < l.b
  a : ∀ (j : Nat) (h : j < ls.length), ls[j].a = part → ls[j].pa0 ≠ ls[j].pa1 ∧ inMany ls[j].pa0 nodes ∧ inMany ls[j].pa1 nodes ∧ takenL (ls.take j) part ls[j].pa0 = false ∧ takenL (ls.take j) part ls[j].pa1 = false
  b : ∀ (j : Nat) (h : j < ls.length), ls[j].b = part → ls[j].pb0 ≠ ls[j].pb1 ∧ inMany ls[j].pb0 nodes ∧ inMany ls[j].pb1 nodes ∧ takenL (ls.take j) part ls[j].pb0 = false ∧ takenL (ls.take j) part ls[j].pb1 = false
theorem PortsOk.link {ls : List Link} {part nodes : Int} (h : PortsOk ls part nodes) {j : Nat} (hj : j < ls.length) :
    (portsOfLink part j ls[j]).Pairwise (fun p q => p.node ≠ q.node) ∧ (∀ p ∈ portsOfLink part j ls[j], inMany p.node nodes ∧ takenL (ls.take j) part p.node = false) := by
  have hab := h.ab ls[j] (List.getElem_mem hj)
  have ha := h.a j hj
  have hb := h.b j hj
  unfold portsOfLink portsOfEnd endOf
  by_cases h1 : ls[j].a = part
  · have h2 : ¬ (ls[j].b = part) := by omega
    obtain ⟨a1, a2, a3, a4, a5⟩ := ha h1
    simp [h1, h2, a1, a2, a3, a4, a5]
  · by_cases h2 : ls[j].b = part
    · obtain ⟨a1, a2, a3, a4, a5⟩ := hb h2
      simp [h1, h2, a1, a2, a3, a4, a5]
    · simp [h1, h2]
theorem PortsOk.ends {ls : List Link} {part nodes : Int} (h : PortsOk ls part nodes) : ∀ {k : Nat}, k ≤ ls.length → (endsK ls part k).Pairwise (fun p q => p.node ≠ q.node) ∧ ∀ p ∈ endsK ls part k, inMany p.node nodes
  | 0, _ => by simp [endsK]
  | k + 1, hk => by
    obtain ⟨i1, i2⟩ := h.ends (k := k) (by omega)
    obtain ⟨l1, l2⟩ := h.link (j := k) (by omega)
    rw [endsK_succ (by omega)]
    refine ⟨List.pairwise_append.2 ⟨i1, l1, fun p hp q hq e => ?_⟩, fun p hp => ?_⟩
    · have := (l2 q hq).2
      rw [← e] at this
      have h2 := (takenL_ends (ls := ls) (part := part) (k := k) (n := p.node) (by omega)).2 ⟨p, hp, rfl⟩
      rw [h2] at this
      cases this
    · rcases List.mem_append.1 hp with hp | hp
      · exact i2 p hp
      · exact (l2 p hp).1
theorem portOfLink_mem {i : Nat} {l : Link} {part n : Int} {p : Port} (h : portOfLink i l part n = some p) : p ∈ portsOfLink part i l ∧ p.node = n := by
  unfold portOfLink at h
  unfold portsOfLink portsOfEnd endOf
  split at h
  · rename_i h1; cases h; simp [h1]
  split at h
  · rename_i h1; cases h; simp [h1]
  split at h
  · rename_i h1; cases h; simp [h1]
  split at h
  · rename_i h1; cases h; simp [h1]
  · cases h
theorem findPort_mem {ls : List Link} {part n : Int} {p : Port} (h : findPort ls part n = some p) : p ∈ endsL ls part ∧ p.node = n := by
  unfold findPort at h
  split at h
  · rename_i j hj
    rw [List.find?_range_eq_some] at hj
    obtain ⟨_, h2, _⟩ := hj
    have hlt : j < ls.length := by simpa using h2
    simp [hlt] at h
    obtain ⟨h3, h4⟩ := portOfLink_mem h
    exact ⟨endsK_mem.2 ⟨j, hlt, hlt, h3⟩, h4⟩
  · cases h
theorem PortsOk.uniq {ls : List Link} {part nodes : Int} (h : PortsOk ls part nodes) {p q : Port} (hp : p ∈ endsL ls part) (hq : q ∈ endsL ls part) (e : p.node = q.node) : p = q := by
  have hw := (h.ends (Nat.le_refl _)).1
  rw [List.pairwise_iff_getElem] at hw
  obtain ⟨i, hi, rfl⟩ := List.mem_iff_getElem.1 hp
  obtain ⟨j, hj, rfl⟩ := List.mem_iff_getElem.1 hq
  rcases Nat.lt_trichotomy i j with hl | rfl | hl
  · exact absurd e (hw i j hi hj hl)
  · rfl
  · exact absurd e.symm (hw j i hj hi hl)
theorem PortsOk.find {ls : List Link} {part nodes : Int} (h : PortsOk ls part nodes) {n : Int} {p : Port} : findPort ls part n = some p ↔ p ∈ endsL ls part ∧ p.node = n := by
  refine ⟨findPort_mem, fun ⟨h1, h2⟩ => ?_⟩
  have ht := (takenL_ends (ls := ls) (part := part) (n := n) (Nat.le_refl _)).2 ⟨p, h1, h2⟩
  rw [List.take_length, ← findPort_some] at ht
  obtain ⟨q, hq⟩ := Option.isSome_iff_exists.1 ht
  obtain ⟨h3, h4⟩ := findPort_mem hq
  rw [hq, h.uniq h3 h1 (by omega)]
theorem eq_of_strict : ∀ {a b : List Port}, a.Pairwise (fun x y => x.node < y.node) → b.Pairwise (fun x y => x.node < y.node) → (∀ p, p ∈ a ↔ p ∈ b) → a = b
  | [], [], _, _, _ => rfl
  | [], y :: b, _, _, h => by have := (h y).2 (by simp); simp at this
  | x :: a, [], _, _, h => by have := (h x).1 (by simp); simp at this
  | x :: a, y :: b, ha, hb, h => by
    rw [List.pairwise_cons] at ha hb
    have e : x = y := by
      have h1 := (h x).1 (by simp)
      have h2 := (h y).2 (by simp)
      rcases List.mem_cons.1 h1 with h3 | h3
      · exact h3
      rcases List.mem_cons.1 h2 with h4 | h4
      · exact h4.symm
      have := ha.1 y h4
      have := hb.1 x h3
      omega
    subst e
    rw [eq_of_strict ha.2 hb.2 fun p => ⟨fun hp => ?_, fun hp => ?_⟩]
    · rcases List.mem_cons.1 ((h p).1 (by simp [hp])) with h3 | h3
      · subst h3; have := ha.1 p hp; omega
      · exact h3
    · rcases List.mem_cons.1 ((h p).2 (by simp [hp])) with h3 | h3
      · subst h3; have := hb.1 p hp; omega
      · exact h3
def portsL (ls : List Link) (part nodes : Int) : List Port := (List.range nodes.toNat).filterMap fun i : Nat => findPort ls part (i : Int)
theorem PortsOk.sorted {ls : List Link} {part nodes : Int} (h : PortsOk ls part nodes) {l' : List Port} (hp : l'.Perm (endsL ls part)) (hs : sortedP l') : l' = portsL ls part nodes := by
  obtain ⟨w1, w2⟩ := h.ends (Nat.le_refl _)
  have hne : l'.Pairwise (fun p q => p.node ≠ q.node) := (hp.pairwise_iff (fun hh => Ne.symm hh)).2 w1
  refine eq_of_strict (hs.imp₂ (fun p q h1 h2 => by omega) hne) ?_ fun p => ?_
  · unfold portsL
    rw [List.pairwise_filterMap]
    refine List.pairwise_lt_range.imp fun {i j} hij p hp q hq => ?_
    have h1 := (findPort_mem hp).2
    have h2 := (findPort_mem hq).2
    omega
  · rw [hp.mem_iff]
    unfold portsL
    simp only [List.mem_filterMap, List.mem_range]
    constructor
    · intro hm
      have hin := w2 p hm
      refine ⟨p.node.toNat, by unfold inMany at hin; omega, ?_⟩
      rw [h.find]
      exact ⟨hm, by unfold inMany at hin; omega⟩
    · rintro ⟨i, _, hi⟩
      exact (findPort_mem hi).1

end Go.Proofs.YtomlbmbgocmiiaaDoor
