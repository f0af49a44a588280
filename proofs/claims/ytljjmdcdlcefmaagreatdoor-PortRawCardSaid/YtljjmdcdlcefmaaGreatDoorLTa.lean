/-
  Walks of the seat's functions: Ta.
-/
import Derived.Test.YtljjmdcdlcefmaaGreatDoorEbMa
import Derived.Test.YtljjmdcdlcefmaaGreatDoorShMb
import Derived.Test.YtljjmdcdlcefmaaGreatDoorLzMd
import Derived.Test.YtljjmdcdlcefmaaGreatDoorLzMg
import Derived.Test.YtljjmdcdlcefmaaGreatDoorLBh
set_option linter.unusedVariables false
set_option linter.unusedSimpArgs false
set_option maxRecDepth 100000
namespace Go.Proofs.YtljjmdcdlcefmaaGreatDoor
open Go.Proofs.YtljjmdcdlcefmaaGreatDoor.Sh
/-! A part's schedule: plain. -/
structure Slot where
  kind : Int
  node : Int
  tick : Int
  deriving DecidableEq
def encSlot (s : Slot) : SV := .agg [.int .i64 s.kind, .int .i64 s.node, .int .i64 s.tick]
def Slots (x : SV) (l : List Slot) : Prop := RSl (fun y a => y = encSlot a) x l
def slotSV (l : List Slot) : List SV := l.map encSlot
theorem slotSV_append (a b : List Slot) : slotSV (a ++ b) = slotSV a ++ slotSV b := by simp [slotSV]
theorem encSlot_np (s : Slot) (n : Nat) : np n (encSlot s) = true := np_of_pv rfl _
theorem Slots.np {x : SV} {l : List Slot} (h : Slots x l) : Sh.np 10 x = true := RSl.np h (n := 9) fun y a h => by rw [h]; exact encSlot_np a 9
theorem Slots.np12 {x : SV} {l : List Slot} (h : Slots x l) : Sh.np picDepth x = true := np_le (by decide) h.np
/-- Slots, one behind the other. -/
def stamp (lead step : Int) (l : List (Int × Int)) : List Slot := l.mapIdx fun i k => ⟨k.1, k.2, lead + i * step⟩
@[simp] theorem stamp_len (lead step : Int) (l : List (Int × Int)) : (stamp lead step l).length = l.length := by simp [stamp]
theorem stamp_snoc (lead step : Int) (l : List (Int × Int)) (k : Int × Int) : stamp lead step (l ++ [k]) = stamp lead step l ++ [⟨k.1, k.2, lead + l.length * step⟩] := by simp [stamp, List.mapIdx_append]
theorem stamp_at {lead step : Int} {l : List (Int × Int)} {i : Nat} (h : i < l.length) : (stamp lead step l)[i]? = some ⟨l[i].1, l[i].2, lead + i * step⟩ := by simp [stamp, h]
def gates (ps : List Port) : List (Int × Int) := ps.flatMap fun p => [(3, p.node), (4, p.node)]
def syncs (n : Nat) : List (Int × Int) := (List.range n).map fun (i : Nat) => (2, (i : Int))
def datas (ps : List Port) : List (Int × Int) := ps.map fun p => (5, p.node)
def kindsL (ps : List Port) (n : Nat) : List (Int × Int) := gates ps ++ syncs n ++ datas ps
theorem gates_snoc (ps : List Port) (p : Port) : gates (ps ++ [p]) = gates ps ++ [(3, p.node)] ++ [(4, p.node)] := by simp [gates]
theorem gates_take {ps : List Port} {j : Nat} (h : j < ps.length) : gates (ps.take (j + 1)) = gates (ps.take j) ++ [(3, ps[j].node)] ++ [(4, ps[j].node)] := by
  rw [List.take_succ_eq_append_getElem h, gates_snoc]
theorem syncs_succ (n : Nat) : syncs (n + 1) = syncs n ++ [(2, (n : Int))] := by simp [syncs, List.range_succ]
theorem datas_take {ps : List Port} {j : Nat} (h : j < ps.length) : datas (ps.take (j + 1)) = datas (ps.take j) ++ [(5, ps[j].node)] := by
  unfold datas
  rw [List.take_succ_eq_append_getElem h, List.map_append]
  rfl
theorem gates_len (ps : List Port) : (gates ps).length = 2 * ps.length := by
  induction ps with
  | nil => rfl
  | cons p r ih => simp only [gates, List.flatMap_cons, List.length_append] at ih ⊢; simp [ih]; omega
theorem syncs_len (n : Nat) : (syncs n).length = n := by simp [syncs]
theorem datas_len (ps : List Port) : (datas ps).length = ps.length := by simp [datas]
theorem kindsL_len (ps : List Port) (n : Nat) : (kindsL ps n).length = 3 * ps.length + n := by
  simp only [kindsL, List.length_append, gates_len, syncs_len, datas_len]; omega
def kindsC (c : Cfg) (part : Int) : List (Int × Int) := kindsL (portsL c.links part (nodesAt c part)) (nodesAt c part).toNat
def slotsL (c : Cfg) (part : Int) : List Slot := stamp c.lead c.slot (kindsC c part)
def inFit (c : Cfg) (part : Int) : Bool := fitG c && decide (inMany part c.parts.length)
def slotsG (c : Cfg) (part : Int) : List Slot := if inFit c part then slotsL c part else []
def findG (l : List Slot) (kind node : Int) : Int := idxOf (fun s => decide (s.kind = kind ∧ s.node = node)) l
def whichG (l : List Slot) (w t : Int) : Int := idxOf (fun s => decide (s.tick - w ≤ t ∧ t ≤ s.tick + w)) l
theorem inFit_right {c : Cfg} {part : Int} (h : inFit c part = true) : rightC c = true ∧ InRange c ∧ inMany part c.parts.length ∧ laterN c = 0 := by
  simp only [inFit, Bool.and_eq_true, decide_eq_true_eq] at h
  obtain ⟨h1, h2, h3⟩ := fitG_spec.1 h.1
  exact ⟨h1, outN_zero h2, h.2, h3⟩
structure TabOk (c : Cfg) : Prop where
  wi : 3 ≤ c.window ∧ c.window ≤ 20000
  sl : 2 * c.window + 1 ≤ c.slot ∧ c.slot ≤ 1000000
  le : c.window ≤ c.lead ∧ c.lead ≤ 1000000
  en : ∀ i : Nat, i < c.parts.length → slotsEnd c i ≤ c.cycle
theorem tabOk {c : Cfg} (h1 : InRange c) (h2 : laterN c = 0) : TabOk c := by
  have he := h1.nums.e
  have hw : windowsN c = 0 := by
    unfold laterN at h2
    apply Classical.byContradiction
    intro h
    rw [if_pos h] at h2
    exact h h2
  unfold windowsN at hw
  split at hw
  · omega
  split at hw
  · omega
  split at hw
  · omega
  split at hw
  · omega
  rename_i a1 a2 a3 a4
  refine ⟨by omega, by omega, by omega, fun i hi => ?_⟩
  have h5 : anySlots c = false := by simpa using a4
  unfold anySlots at h5
  rw [List.any_eq_false] at h5
  have := h5 i (List.mem_range.2 hi)
  unfold slotsBad at this
  simp only [decide_eq_true_eq] at this
  omega
theorem kindsC_len (c : Cfg) (part : Int) : (kindsC c part).length = 3 * (portsL c.links part (nodesAt c part)).length + (nodesAt c part).toNat := kindsL_len _ _
theorem portsL_len (ls : List Link) (part nodes : Int) : (portsL ls part nodes).length ≤ nodes.toNat := by
  have := List.length_filterMap_le (fun i : Nat => findPort ls part (i : Int)) (List.range nodes.toNat)
  simpa [portsL] using this
theorem kindsC_le {c : Cfg} (hr : rightC c = true) (part : Int) : (kindsC c part).length ≤ 48 := by
  have h1 := portsL_len c.links part (nodesAt c part)
  have h2 := nodesAt_le (checkG_zero (by simpa [rightC] using hr)) part
  rw [kindsC_len]
  omega
theorem slotsG_le (c : Cfg) (part : Int) : (slotsG c part).length ≤ 48 := by
  unfold slotsG
  split
  · rename_i h
    simp only [slotsL, stamp_len]
    exact kindsC_le (inFit_right h).1 part
  · simp
/-- Where slots stand. -/
theorem slotsG_mem {c : Cfg} {part : Int} {s : Slot} (h : s ∈ slotsG c part) : (0 ≤ s.tick ∧ s.tick ≤ 100000000) ∧ 3 ≤ c.window ∧ c.window ≤ 20000 := by
  unfold slotsG at h
  split at h
  case isFalse => simp at h
  rename_i hf
  obtain ⟨f1, f2, f3, f4⟩ := inFit_right hf
  obtain ⟨t1, t2, t3, _⟩ := tabOk f2 f4
  have hk := kindsC_le f1 part
  obtain ⟨i, hi, rfl⟩ := List.mem_iff_getElem.1 h
  simp only [slotsL, stamp_len] at hi
  have e : (slotsL c part)[i] = ⟨(kindsC c part)[i].1, (kindsC c part)[i].2, c.lead + i * c.slot⟩ := by
    have := stamp_at (lead := c.lead) (step := c.slot) hi
    simpa [slotsL, hi] using this
  have h1 : 0 ≤ (i : Int) * c.slot := Int.mul_nonneg (by omega) (by omega)
  have h2 : (i : Int) * c.slot ≤ 48 * 1000000 := Int.mul_le_mul (by omega) (by omega) (by omega) (by omega)
  rw [e]
  simp only
  omega

end Go.Proofs.YtljjmdcdlcefmaaGreatDoor
