/-
  Walks of the seat's functions: Ta.
-/
import Derived.Test.YtomlbmbgocmiiaaGreatDoorEbMa
import Derived.Test.YtomlbmbgocmiiaaGreatDoorShMb
import Derived.Test.YtomlbmbgocmiiaaGreatDoorLzMd
import Derived.Test.YtomlbmbgocmiiaaGreatDoorLzMf
import Derived.Test.YtomlbmbgocmiiaaGreatDoorLBh
import Derived.Test.YtomlbmbgocmiiaaGreatDoorLzMe
set_option linter.unusedVariables false
set_option linter.unusedSimpArgs false
set_option maxRecDepth 100000
namespace Go.Proofs.YtomlbmbgocmiiaaGreatDoor
open Go.Proofs.YtomlbmbgocmiiaaGreatDoor.Sh
/-! A part's schedule: plain. -/
structure Slot where
  kind : Int
  node : Int
  tick : Int
  deriving DecidableEq
def encSlot (s : Slot) : SV := .agg [.int .i64 s.kind, .int .i64 s.node, .int .i64 s.tick]
def Slots (x : SV) (l : List Slot) : Prop := RSl (fun y a => y = encSlot a) x l
def slotSV (l : List Slot) : List SV := l.map encSlot
theorem slotSV_append (a b : List Slot) : slotSV (a ++ b) = slotSV a ++ slotSV b := by simp [slotSV]
theorem encSlot_np (s : Slot) (n : Nat) : np n (encSlot s) = true := np_of_pv rfl _
theorem Slots.np {x : SV} {l : List Slot} (h : Slots x l) : Sh.np 10 x = true := RSl.np h (n := 9) fun y a h => by rw [h]; exact encSlot_np a 9
theorem Slots.np12 {x : SV} {l : List Slot} (h : Slots x l) : Sh.np picDepth x = true := np_le (by decide) h.np
/-- Slots, one behind the other. -/
def stamp (lead step : Int) (l : List (Int × Int)) : List Slot := l.mapIdx fun i k => ⟨k.1, k.2, lead + i * step⟩
@[simp] theorem stamp_len (lead step : Int) (l : List (Int × Int)) : (stamp lead step l).length = l.length := by simp [stamp]
theorem stamp_snoc (lead step : Int) (l : List (Int × Int)) (k : Int × Int) : stamp lead step (l ++ [k]) = stamp lead step l ++ [⟨k.1, k.2, lead + l.length * step⟩] := by simp [stamp, List.mapIdx_append]
theorem stamp_at {lead step : Int} {l : List (Int × Int)} {i : Nat} (h : i < l.length) : (stamp lead step l)[i]? = some ⟨l[i].1, l[i].2, lead + i * step⟩ := by simp [stamp, h]
def gates (ps : List Port) : List (Int × Int) := ps.flatMap fun p => [(3, p.node), (4, p.node)]
def syncs (n : Nat) : List (Int × Int) := (List.range n).map fun (i : Nat) => (2, (i : Int))
def datas (ps : List Port) : List (Int × Int) := ps.map fun p => (5, p.node)
def kindsL (ps : List Port) (n : Nat) : List (Int × Int) := gates ps ++ syncs n ++ datas ps
theorem gates_snoc (ps : List Port) (p : Port) : gates (ps ++ [p]) = gates ps ++ [(3, p.node)] ++ [(4, p.node)] := by simp [gates]
theorem gates_take {ps : List Port} {j : Nat} (h : j < ps.length) : gates (ps.take (j + 1)) = gates (ps.take j) ++ [(3, ps[j].node)] ++ [(4, ps[j].node)] := by
  rw [List.take_succ_eq_append_getElem h, gates_snoc]
theorem syncs_succ (n : Nat) : syncs (n + 1) = syncs n ++ [(2, (n : Int))] := by simp [syncs, List.range_succ]
theorem datas_take {ps : List Port} {j : Nat} (h : j < ps.length) : datas (ps.take (j + 1)) = datas (ps.take j) ++ [(5, ps[j].node)] := by
  unfold datas
  rw [List.take_succ_eq_append_getElem h, List.map_append]
  rfl
theorem gates_len (ps : List Port) : (gates ps).length = 2 * ps.length := by
  induction ps with
  | nil => rfl
  | cons p r ih => simp only [gates, List.flatMap_cons, List.length_append] at ih ⊢; simp [ih]; omega
theorem syncs_len (n : Nat) : (syncs n).length = n := by simp [syncs]
theorem datas_len (ps : List Port) : (datas ps).length = ps.length := by simp [datas]
theorem kindsL_len (ps : List Port) (n : Nat) : (kindsL ps n).length = 3 * ps.length + n := by
  simp only [kindsL, List.length_append, gates_len, syncs_len, datas_len]; omega
def kindsC (c : Cfg) (part : Int) : List (Int × Int) := kindsL (portsL c.links part (nodesAt c part)) (nodesAt c part).toNat
def slotsL (c : Cfg) (part : Int) : List Slot := stamp c.lead c.slot (kindsC c part)
def inFit (c : Cfg) (part : Int) : Bool := fitG c && decide (inMany part c.parts.length)
def slotsG (c : Cfg) (part : Int) : List Slot := if inFit c part then slotsL c part else []
def findG (l : List Slot) (kind node : Int) : Int := idxOf (fun s => decide (s.kind = kind ∧ s.node = node)) l
def whichG (l : List Slot) (w t : Int) : Int := idxOf (fun s => decide (s.tick - w ≤ t ∧ t ≤ s.tick + w)) l
theorem inFit_right {c : Cfg} {part : Int} (h : inFit c part = true) : rightC c = true ∧ InRange c ∧ inMany part c.parts.length ∧ laterN c = 0 := by
  simp only [inFit, Bool.and_eq_true, decide_eq_true_eq] at h
  obtain ⟨h1, h2, h3⟩ := fitG_spec.1 h.1
  exact ⟨h1, outN_zero h2, h.2, h3⟩
structure TabOk (c : Cfg) : Prop where
  wi : 3 ≤ c.window ∧ c.window ≤ 20000
  sl : 2 * c.window + 1 ≤ c.slot ∧ c.slot ≤ 1000000
  le : c.window ≤ c.lead ∧ c.lead ≤ 1000000
  en : ∀ i : Nat, i < c.parts.length → slotsEnd c i ≤ c.cycle
theorem tabOk {c : Cfg} (h1 : InRange c) (h2 : laterN c = 0) : TabOk c := by
  have he := h1.nums.e
  have hw : windowsN c = 0 := by
    unfold laterN at h2
    apply Classical.byContradiction
    intro h
    rw [if_pos h] at h2
    exact h h2
  unfold windowsN at hw
  split at hw
  · omega
  split at hw
  · omega
  split at hw
  · omega
  split at hw
  · omega
  rename_i a1 a2 a3 a4
  refine ⟨by omega, by omega, by omega, fun i hi => ?_⟩
  have h5 : anySlots c = false := by simpa using a4
  unfold anySlots at h5
  rw [List.any_eq_false] at h5
  have := h5 i (List.mem_range.2 hi)
  unfold slotsBad at this
  simp only [decide_eq_true_eq] at this
  omega
theorem kindsC_len (c : Cfg) (part : Int) : (kindsC c part).length = 3 * (portsL c.links part (nodesAt c part)).length + (nodesAt c part).toNat := kindsL_len _ _
theorem portsL_len (ls : List Link) (part nodes : Int) : (portsL ls part nodes).length ≤ nodes.toNat := by
  have := List.length_filterMap_le (fun i : Nat => findPort ls part (i : Int)) (List.range nodes.toNat)
  simpa [portsL] using this
theorem kindsC_le {c : Cfg} (hr : rightC c = true) (part : Int) : (kindsC c part).length ≤ 48 := by
  have h1 := portsL_len c.links part (nodesAt c part)
  have h2 := nodesAt_le (checkG_zero (by simpa [rightC] using hr)) part
  rw [kindsC_len]
  omega
theorem slotsG_le (c : Cfg) (part : Int) : (slotsG c part).length ≤ 48 := by
  unfold slotsG
  split
  · rename_i h
    simp only [slotsL, stamp_len]
    exact kindsC_le (inFit_right h).1 part
  · simp
/-- Where slots stand. -/
theorem slotsG_mem {c : Cfg} {part : Int} {s : Slot} (h : s ∈ slotsG c part) : (0 ≤ s.tick ∧ s.tick ≤ 100000000) ∧ 3 ≤ c.window ∧ c.window ≤ 20000 := by
  unfold slotsG at h
  split at h
  case isFalse => simp at h
  rename_i hf
  obtain ⟨f1, f2, f3, f4⟩ := inFit_right hf
  obtain ⟨t1, t2, t3, _⟩ := tabOk f2 f4
  have hk := kindsC_le f1 part
  obtain ⟨i, hi, rfl⟩ := List.mem_iff_getElem.1 h
  simp only [slotsL, stamp_len] at hi
  have e : (slotsL c part)[i] = ⟨(kindsC c part)[i].1, (kindsC c part)[i].2, c.lead + i * c.slot⟩ := by
    have := stamp_at (lead := c.lead) (step := c.slot) hi
    simpa [slotsL, hi] using this
  have h1 : 0 ≤ (i : Int) * c.slot := Int.mul_nonneg (by omega) (by omega)
  have h2 : (i : Int) * c.slot ≤ 48 * 1000000 := Int.mul_le_mul (by omega) (by omega) (by omega) (by omega)
  rw [e]
  simp only
  omega

end Go.Proofs.YtomlbmbgocmiiaaGreatDoor

/-
  Walks of the seat's functions: Tb.
-/
set_option linter.unusedVariables false
set_option linter.unusedSimpArgs false
set_option maxRecDepth 100000
namespace Go.Proofs.YtomlbmbgocmiiaaGreatDoor
open Go.Proofs.YtomlbmbgocmiiaaGreatDoor.Sh
/-! table.list: a part's schedule, slot by slot. -/
theorem callT_fnI {E : Env} {me n0 sz k : Nat} {pc : PC} {ic : IC} {lm : Option (List Nat)} {r : List Ins} {d : Nat} {T : List SV} {M : Mem} {f : Nat} {a c args : List SV} (h : ((E.prim f).isSome || E.imp me f) = true) :
    callT E me pc ic n0 sz k lm r d T M (.fn f a c) args = (ic f (a ++ args ++ c) M).bind fun q => exL E me pc ic n0 sz (k + 1) r ⟨T.set d q.1, q.2⟩ := by
  simp only [callT, h, if_true]
theorem OutR.lenS {P : Program} {esz : Nat} {o : SV} {M : Mem} {items : List SV} (h : OutR esz o M items) {t e a b : Nat} {z : Option SV} (ht : tiOf P t = some ⟨.slice e, a, b, z⟩) : Sh.lenS P t o = some (.int .i64 items.length) := by
  rcases h with ⟨rfl, rfl⟩ | ⟨id, rfl, _⟩ <;> simp [Sh.lenS, ht]
theorem OutR.cells {esz : Nat} {o : SV} {M : Mem} {items : List SV} (h : OutR esz o M items) : o.cells = [o] := by
  rcases h with ⟨_, rfl⟩ | ⟨id, rfl, _⟩ <;> rfl
theorem OutR.sto {esz : Nat} {o : SV} {M : Mem} {items : List SV} (h : OutR esz o M items) : o.sto = true := by
  rcases h with ⟨_, rfl⟩ | ⟨id, rfl, _⟩ <;> rfl
/-- A cell of its own that holds a list: what a load says, what a store sets. -/
theorem OutR.load {P : Program} {get : Nat → Option (List SV)} {esz b : Nat} {o : SV} {M : Mem} {items : List SV} (h : OutR esz o M items) {t e s1 s2 : Nat} {z : Option SV} (ht : tiOf P t = some ⟨.slice e, s1, s2, z⟩) (hg : get b = some [o]) : loadS P get t (.ptr b 0 0) = some o := by
  rcases h with ⟨_, rfl⟩ | ⟨id, rfl, _⟩ <;> simp [loadS, ht, hg, partS, TK.agg]
theorem OutR.store {P : Program} {get : Nat → Option (List SV)} {esz esz' b : Nat} {o o' : SV} {M M' : Mem} {items items' : List SV} (h : OutR esz o M items) (h' : OutR esz' o' M' items') {t e s2 : Nat} {z : Option SV} (ht : tiOf P t = some ⟨.slice e, 1, s2, z⟩) (hg : get b = some [o]) :
    storeS P get t (.ptr b 0 0) o' = some [(b, some [o'])] := by
  rcases h with ⟨_, rfl⟩ | ⟨id, rfl, _⟩ <;> rcases h' with ⟨_, rfl⟩ | ⟨id', rfl, _⟩ <;> simp [storeS, ht, hg, setPart]
/-- What the schedule's maker holds: the slots so far, and the network. -/
structure AddI (C : List SV) (ob cb : Nat) (o : SV) (items : List SV) (M : Mem) : Prop where
  ho : M.blk ob = some [o]
  hc : M.blk cb = some [.agg C]
  lo : ob < M.next
  lc : cb < M.next
  hO : OutR 3 o M items
  ne : ob ≠ cb
  no : ∀ e a b, o ≠ .own ob e a b
  nc : ∀ e a b, o ≠ .own cb e a b
theorem AddI.old {C : List SV} {ob cb : Nat} {o : SV} {items : List SV} {M M' : Mem} (h : AddI C ob cb o items M) (ho : Old M M') (hn : M.next ≤ M'.next) : AddI C ob cb o items M' :=
  ⟨(ho ob h.lo).trans h.ho, (ho cb h.lc).trans h.hc, by have := h.lo; omega, by have := h.lc; omega, h.hO.old ho hn, h.ne, h.no, h.nc⟩
set_option maxHeartbeats 4000000 in
theorem table_add {c : Cfg} {P L o : SV} {ob cb : Nat} {items : List Slot} {M : Mem} (h : AddI (cfgC c P L) ob cb o (slotSV items) M) (kind node : Int) (hlen : items.length ≤ 1000) (h1 : I64 (items.length * c.slot)) (h2 : I64 (c.lead + items.length * c.slot)) :
    ∃ M' o', ICw ES n_table_list_1 [.int .i64 kind, .int .i64 node, .ptr ob 0 0, .ptr cb 0 0] M = some (.tup [], M') ∧ AddI (cfgC c P L) ob cb o' (slotSV (items ++ [⟨kind, node, c.lead + items.length * c.slot⟩])) M' ∧ M.next ≤ M'.next ∧
      (∀ id, id < M.next → id ≠ ob → (∀ e a b, o ≠ .own id e a b) → M'.blk id = M.blk id) ∧ (∀ id e a b, o' = .own id e a b → M.next ≤ id) := by
  rw [b_table_list_1]
  have hc := h.hc
  have hl := fun (get : Nat → Option (List SV)) (hg : get ob = some [o]) => OutR.load (P := ES.P) (get := get) h.hO ti_sl_api_Slot hg
  have hn := OutR.lenS (P := ES.P) h.hO ti_sl_api_Slot
  have w1 := h1.wrap
  have w2 := h2.wrap
  have e1 : (slotSV items).length = items.length := by simp [slotSV]
  rw [e1] at hn
  have i1 := h.lo
  have i2 := h.lc
  generalize hv : encSlot ⟨kind, node, c.lead + items.length * c.slot⟩ = v
  have hv' : SV.agg [.int .i64 kind, .int .i64 node, .int .i64 (c.lead + items.length * c.slot)] = v := hv
  have hvc : v.cells.length = 3 := by rw [← hv]; rfl
  have hap := OutR.next (P := ES.P) (o := o) (M := M) (X := (M.bump 15).set (M.next + 12) (some [v])) (items := slotSV items) (a := M.next + 13) (s := M.next + 12) (v := v) (get := ((M.bump 15).set (M.next + 12) (some [v])).blk)
    ti_sl_api_Slot ti_api_Slot rfl (by decide) rfl rfl h.hO (by rw [e1]; show (items.length + 1) * 24 ≤ _; omega) (by rw [e1]; omega)
    (fun id hid => by
      have h1 : ¬ (id = M.next + 12) := by omega
      simp [h1]) hvc (by simp) (by simp) (by simp) (by omega)
  obtain ⟨o', X', a1, a2, a3, a4, a5, a6⟩ := hap
  have hx : X'.blk ob = some [o] := (a4 ob h.lo h.no).trans h.ho
  have hxc : X'.blk cb = some [.agg (cfgC c P L)] := (a4 cb h.lc h.nc).trans h.hc
  have hst := OutR.store (P := ES.P) (get := X'.blk) (b := ob) h.hO a3 ti_sl_api_Slot hx
  have b : bldSl ES.P T_sl_api_Slot 1 (M.next + 12) [(0, v)] = some (.own (M.next + 12) 3 0 1, [v]) := by simp [bldSl, buildRow, hvc]; rw [← hv]; rfl
  have eb : (M.bump 15).blk = M.blk := rfl
  have hnx : X'.next = M.next + 15 := by rw [a5]; simp
  have hfr : ∀ id e a b, o' = .own id e a b → M.next ≤ id := a6
  refine ⟨X'.set ob (some [o']), o', ?_, ⟨by simp, ?_, by simp [hnx]; omega, by simp [hnx]; omega, ?_, h.ne, fun e a b hh => ?_, fun e a b hh => ?_⟩, by simp [hnx], ?_, a6⟩
  · have hob : (M.bump 15).blk ob = some [o] := h.ho
    have hcb := h.hc
    simp only [cfgC] at hcb
    simp at a1 a2
    have l1 := hl M.blk h.ho
    have bd : bldS ES.P T_api_Slot [(0, .int .i64 kind), (1, .int .i64 node), (2, .int .i64 (c.lead + items.length * c.slot))] = some v := by simp [bldS, placesOf, buildS, splice, hv']
    have q3 : loadS ES.P M.blk T_int (.ptr cb 0 3) = some (.int .i64 c.lead) := by simp [loadS, hcb, partS, TK.agg]
    have q4 : loadS ES.P M.blk T_int (.ptr cb 0 4) = some (.int .i64 c.slot) := by simp [loadS, hcb, partS, TK.agg]
    simp (maxSteps := 4000000) [c_table_list_1, evW_reg, evW_chkr, isCst, TK.agg, fieldAddrS, zeroS, endS, resS, eb, l1, q3, q4, hn, w1, w2, b, bd, a1, a2, hst]
  · have : cb ≠ ob := fun e => h.ne e.symm
    simp [this, hxc]
  · rw [slotSV_append]
    rw [show slotSV [(⟨kind, node, c.lead + items.length * c.slot⟩ : Slot)] = [v] from by rw [← hv]; rfl]
    rcases a3 with ⟨q1, q2⟩ | ⟨id, q1, q2, q3⟩
    · exact .inl ⟨q1, q2⟩
    · refine .inr ⟨id, q1, ?_, by simpa using q3⟩
      have : id ≠ ob := fun e => by have := a6 id _ _ _ q1; omega
      simp [this, q2]
  · have := a6 _ _ _ _ hh; omega
  · have := a6 _ _ _ _ hh; omega
  · intro id hid hne hno
    rw [Mem.blk_set, if_neg hne]
    exact a4 id hid hno
theorem addSlots_bound {c : Cfg} (h1 : 0 ≤ c.lead ∧ c.lead ≤ 1000000) (h2 : 0 ≤ c.slot ∧ c.slot ≤ 1000000) {n : Nat} (hn : n ≤ 1000) : I64 (n * c.slot) ∧ I64 (c.lead + n * c.slot) := by
  have a1 : 0 ≤ (n : Int) * c.slot := Int.mul_nonneg (by omega) h2.1
  have a2 : (n : Int) * c.slot ≤ 1000 * 1000000 := Int.mul_le_mul (by omega) h2.2 h2.1 (by omega)
  unfold I64
  omega
/-- A slot more. -/
theorem table_add' {c : Cfg} {P L o : SV} {ob cb : Nat} {ks : List (Int × Int)} {M : Mem} (h : AddI (cfgC c P L) ob cb o (slotSV (stamp c.lead c.slot ks)) M) (kind node : Int) (hlen : ks.length ≤ 1000) (h1 : 0 ≤ c.lead ∧ c.lead ≤ 1000000) (h2 : 0 ≤ c.slot ∧ c.slot ≤ 1000000) :
    ∃ M' o', ICw ES n_table_list_1 [.int .i64 kind, .int .i64 node, .ptr ob 0 0, .ptr cb 0 0] M = some (.tup [], M') ∧ AddI (cfgC c P L) ob cb o' (slotSV (stamp c.lead c.slot (ks ++ [(kind, node)]))) M' ∧ M.next ≤ M'.next ∧
      (∀ id, id < M.next → id ≠ ob → (∀ e a b, o ≠ .own id e a b) → M'.blk id = M.blk id) ∧ (∀ id e a b, o' = .own id e a b → M.next ≤ id) := by
  have hb := addSlots_bound h1 h2 hlen
  have := table_add h kind node (by simpa using hlen) (by simpa using hb.1) (by simpa using hb.2)
  rw [stamp_snoc]
  simpa using this
theorem impAdd : ((ES.prim n_table_list_1).isSome || ES.imp n_table_list n_table_list_1) = true := by rfl
theorem port_cell0 {get : Nat → Option (List SV)} {b : Nat} {p : Port} (h : get b = some [encPort p]) : loadS ES.P get T_int (.ptr b 0 0) = some (.int .i64 p.node) := loadS_own ti_int h (x := encPort p) rfl rfl
set_option maxHeartbeats 4000000 in
theorem table_list_B0 {c : Cfg} {P L o : SV} {ob cb : Nat} {ks : List (Int × Int)} {M : Mem} (h : AddI (cfgC c P L) ob cb o (slotSV (stamp c.lead c.slot ks)) M) (hlen : ks.length ≤ 900) (h1 : 0 ≤ c.lead ∧ c.lead ≤ 1000000) (h2 : 0 ≤ c.slot ∧ c.slot ≤ 1000000)
    {y : SV} {ps : List Port} (hy : Ports y ps) (hps : ps.length ≤ 1000) {j : Nat} (hj : j < ps.length) (t1 : SV) :
    ∃ M' o', evW ES n_table_list c_table_list_B0 ⟨h_table_list_0 t1 y (.ptr cb 0 0) (.ptr ob 0 0) (.fn n_table_list_1 [] [.ptr ob 0 0, .ptr cb 0 0]) y (.int .i64 ps.length) (.int .i64 j), M⟩ =
        some (.normal, ⟨h_table_list_0 t1 y (.ptr cb 0 0) (.ptr ob 0 0) (.fn n_table_list_1 [] [.ptr ob 0 0, .ptr cb 0 0]) y (.int .i64 ps.length) (.int .i64 ((j + 1 : Nat) : Int)), M'⟩) ∧
      AddI (cfgC c P L) ob cb o' (slotSV (stamp c.lead c.slot (ks ++ [(3, ps[j].node)] ++ [(4, ps[j].node)]))) M' := by
  have hw : IntKind.i64.wrap ((j : Int) + 1) = (j : Int) + 1 := i64_in (by omega) (by omega)
  have ha := Ports.at hy hj
  have hlo := h.lo
  have hld : ∀ get, loadS ES.P get T_api_Port (.rptr (ps.map encPort) j 0 (stOf y)) = some (encPort ps[j]) := fun get => loadS_rptr ti_api_Port (x := encPort ps[j]) (by simp [hj]) rfl
  have h0 : AddI (cfgC c P L) ob cb o (slotSV (stamp c.lead c.slot ks)) (((M.bump 4).set (M.next + 2) (some [encPort ps[j]])).bump 4) := h.old (fun id hid => by
    have e : ¬ id = M.next + 2 := by omega
    show ((M.bump 4).set (M.next + 2) _).blk id = _
    rw [Mem.blk_set, if_neg e]
    rfl) (by show M.next ≤ M.next + 4 + 4; omega)
  obtain ⟨M1, o1, a1, a2, a3, a4, a5⟩ := table_add' h0 3 ps[j].node (by omega) h1 h2
  have hno : ∀ e a b, o ≠ .own (M.next + 2) e a b := fun e a b hh => by
    rcases h.hO with ⟨_, q⟩ | ⟨id, q, _, q3⟩
    · rw [q] at hh; cases hh
    · rw [q] at hh; cases hh; omega
  have hp1 : M1.blk (M.next + 2) = some [encPort ps[j]] := by
    rw [a4 (M.next + 2) (by show M.next + 2 < M.next + 4 + 4; omega) (by omega) hno]
    show ((M.bump 4).set (M.next + 2) _).blk (M.next + 2) = _
    rw [Mem.blk_set, if_pos rfl]
  have h3 : AddI (cfgC c P L) ob cb o1 (slotSV (stamp c.lead c.slot (ks ++ [(3, ps[j].node)]))) (M1.bump 4) := a2.old (fun id hid => rfl) (by show M1.next ≤ M1.next + 4; omega)
  obtain ⟨M2, o2, b1, b2, b3, b4, b5⟩ := table_add' h3 4 ps[j].node (by simp; omega) h1 h2
  refine ⟨M2, o2, ?_, b2⟩
  have e1 : ∀ (X : Mem) (k : Nat), (X.bump k).blk = X.blk := fun _ _ => rfl
  have p1 := port_cell0 (get := ((M.bump 4).set (M.next + 2) (some [encPort ps[j]])).blk) (b := M.next + 2) (p := ps[j]) (by simp)
  have p2 := port_cell0 (get := M1.blk) hp1
  try simp at a1
  simp (maxSteps := 4000000) [c_table_list_B0, evW_reg, evW_chkr, isCst, TK.agg, fieldAddrS, zeroS, endS, resS, h_table_list_0, hj, ha, hld, callT_fnI impAdd, e1, p1, p2, a1, b1, hw, storeS, setPart]
set_option maxHeartbeats 4000000 in
theorem table_list_B1 {c : Cfg} {P L o : SV} {ob cb : Nat} {ks : List (Int × Int)} {M : Mem} (h : AddI (cfgC c P L) ob cb o (slotSV (stamp c.lead c.slot ks)) M) (hlen : ks.length ≤ 900) (h1 : 0 ≤ c.lead ∧ c.lead ≤ 1000000) (h2 : 0 ≤ c.slot ∧ c.slot ≤ 1000000)
    {y : SV} {n : Int} (hn : n ≤ 1000) {j : Nat} (hj : (j : Int) < n) :
    ∃ M' o', evW ES n_table_list c_table_list_B1 ⟨h_table_list_1 y (.ptr ob 0 0) (.fn n_table_list_1 [] [.ptr ob 0 0, .ptr cb 0 0]) (.int .i64 n) (.int .i64 j), M⟩ =
        some (.normal, ⟨h_table_list_1 y (.ptr ob 0 0) (.fn n_table_list_1 [] [.ptr ob 0 0, .ptr cb 0 0]) (.int .i64 n) (.int .i64 ((j + 1 : Nat) : Int)), M'⟩) ∧
      AddI (cfgC c P L) ob cb o' (slotSV (stamp c.lead c.slot (ks ++ [(2, (j : Int))]))) M' := by
  have hw : IntKind.i64.wrap ((j : Int) + 1) = (j : Int) + 1 := i64_in (by omega) (by omega)
  have h0 : AddI (cfgC c P L) ob cb o (slotSV (stamp c.lead c.slot ks)) (M.bump 3) := h.old (fun id hid => rfl) (by show M.next ≤ M.next + 3; omega)
  obtain ⟨M1, o1, a1, a2, a3, a4, a5⟩ := table_add' h0 2 j (by omega) h1 h2
  refine ⟨M1, o1, ?_, a2⟩
  have e1 : ∀ (X : Mem) (k : Nat), (X.bump k).blk = X.blk := fun _ _ => rfl
  simp (maxSteps := 4000000) [c_table_list_B1, evW_reg, evW_chkr, isCst, TK.agg, fieldAddrS, zeroS, endS, resS, h_table_list_1, hj, callT_fnI impAdd, e1, a1, hw]
set_option maxHeartbeats 4000000 in
theorem table_list_B2 {c : Cfg} {P L o : SV} {ob cb : Nat} {ks : List (Int × Int)} {M : Mem} (h : AddI (cfgC c P L) ob cb o (slotSV (stamp c.lead c.slot ks)) M) (hlen : ks.length ≤ 900) (h1 : 0 ≤ c.lead ∧ c.lead ≤ 1000000) (h2 : 0 ≤ c.slot ∧ c.slot ≤ 1000000)
    {y : SV} {ps : List Port} (hy : Ports y ps) (hps : ps.length ≤ 1000) {j : Nat} (hj : j < ps.length) :
    ∃ M' o', evW ES n_table_list c_table_list_B2 ⟨h_table_list_2 (.ptr ob 0 0) (.fn n_table_list_1 [] [.ptr ob 0 0, .ptr cb 0 0]) y (.int .i64 ps.length) (.int .i64 j), M⟩ =
        some (.normal, ⟨h_table_list_2 (.ptr ob 0 0) (.fn n_table_list_1 [] [.ptr ob 0 0, .ptr cb 0 0]) y (.int .i64 ps.length) (.int .i64 ((j + 1 : Nat) : Int)), M'⟩) ∧
      AddI (cfgC c P L) ob cb o' (slotSV (stamp c.lead c.slot (ks ++ [(5, ps[j].node)]))) M' := by
  have hw : IntKind.i64.wrap ((j : Int) + 1) = (j : Int) + 1 := i64_in (by omega) (by omega)
  have ha := Ports.at hy hj
  have hld : ∀ get, loadS ES.P get T_api_Port (.rptr (ps.map encPort) j 0 (stOf y)) = some (encPort ps[j]) := fun get => loadS_rptr ti_api_Port (x := encPort ps[j]) (by simp [hj]) rfl
  have h0 : AddI (cfgC c P L) ob cb o (slotSV (stamp c.lead c.slot ks)) (((M.bump 4).set (M.next + 2) (some [encPort ps[j]])).bump 4) := h.old (fun id hid => by
    have e : ¬ id = M.next + 2 := by omega
    show ((M.bump 4).set (M.next + 2) _).blk id = _
    rw [Mem.blk_set, if_neg e]
    rfl) (by show M.next ≤ M.next + 4 + 4; omega)
  obtain ⟨M1, o1, a1, a2, a3, a4, a5⟩ := table_add' h0 5 ps[j].node (by omega) h1 h2
  refine ⟨M1, o1, ?_, a2⟩
  have e1 : ∀ (X : Mem) (k : Nat), (X.bump k).blk = X.blk := fun _ _ => rfl
  have p1 := port_cell0 (get := ((M.bump 4).set (M.next + 2) (some [encPort ps[j]])).blk) (b := M.next + 2) (p := ps[j]) (by simp)
  try simp at a1
  simp (maxSteps := 4000000) [c_table_list_B2, evW_reg, evW_chkr, isCst, TK.agg, fieldAddrS, zeroS, endS, resS, h_table_list_2, hj, ha, hld, callT_fnI impAdd, e1, p1, a1, hw, storeS, setPart]

end Go.Proofs.YtomlbmbgocmiiaaGreatDoor

/-
  Walks of the seat's functions: Tc.
-/
set_option linter.unusedVariables false
set_option linter.unusedSimpArgs false
set_option maxRecDepth 100000
namespace Go.Proofs.YtomlbmbgocmiiaaGreatDoor
open Go.Proofs.YtomlbmbgocmiiaaGreatDoor.Sh
/-! table.list, table.Of: contracts. -/
theorem slot_pv (l : List Slot) : ∀ y ∈ slotSV l, Sh.pv y = true := fun y hy => by
  simp only [slotSV, List.mem_map] at hy
  obtain ⟨x, _, rfl⟩ := hy
  rfl
set_option maxHeartbeats 4000000 in
theorem table_list_ok {P L : SV} {c : Cfg} (hP : CfgP c P L) {p : Nat} (hp : p < c.parts.length) (h1 : 0 ≤ c.lead ∧ c.lead ≤ 1000000) (h2 : 0 ≤ c.slot ∧ c.slot ≤ 1000000) {y : SV} {ps : List Port} (hy : Ports y ps) (hps : ps.length ≤ 100) {K : Nat} (hK : c.parts[p].nodes = (K : Int)) (hK2 : K ≤ 100) :
    ∃ z, PCw ES n_table_list [.agg (cfgC c P L), .int .i64 p, y] = some z ∧ Slots z (stamp c.lead c.slot (kindsL ps K)) ∧ Sh.pv z = true := by
  obtain ⟨z, items, k1, k2, k5, k6, k7⟩ := PCw_out (E := ES) (f := n_table_list) (esz := 3) (args := [.agg (cfgC c P L), .int .i64 p, y]) (Pr := fun items => items = slotSV (stamp c.lead c.slot (kindsL ps K))) (fun M0 => by
    rw [b_table_list]
    have hlen := hy.lenS ti_sl_api_Port
    have ha := Parts.at hP.p hp
    generalize hfn : SV.fn n_table_list_1 [] [.ptr (M0.next + 2) 0 0, .ptr M0.next 0 0] = fn
    obtain ⟨r1, g1, Ma, rfl, oa, ia⟩ := loop_up (E := ES) (me := n_table_list) (B := c_table_list_B0) (len := ps.length) (T := fun j => h_table_list_0 (.int .i64 p) y (.ptr M0.next 0 0) (.ptr (M0.next + 2) 0 0) fn y (.int .i64 ps.length) (.int .i64 j))
      (I := fun j M => ∃ o, AddI (cfgC c P L) (M0.next + 2) M0.next o (slotSV (stamp c.lead c.slot (gates (ps.take j)))) M)
      (Q := fun r => ∃ M', r = (.exit 0, ⟨(h_table_list_0 (.int .i64 p) y (.ptr M0.next 0 0) (.ptr (M0.next + 2) 0 0) fn y (.int .i64 ps.length) (.int .i64 ps.length)).set 18 (.bool false), M'⟩) ∧ ∃ o, AddI (cfgC c P L) (M0.next + 2) M0.next o (slotSV (stamp c.lead c.slot (gates ps))) M')
      (fun j M hj ⟨o, hI⟩ => by
        left
        have hg : (gates (ps.take j)).length ≤ 900 := by rw [gates_len, List.length_take]; omega
        obtain ⟨M', o', a1, a2⟩ := table_list_B0 hI hg h1 h2 hy (by omega) hj (.int .i64 p)
        rw [hfn] at a1
        rw [← gates_take hj] at a2
        exact ⟨M', a1, o', a2⟩)
      (fun M ⟨o, hI⟩ => ⟨_, by simp [c_table_list_B0, evW_reg, evW_chkr, isCst, TK.agg, zeroS, endS, resS, h_table_list_0], by simp, M, rfl, o, by rw [List.take_length] at hI; exact hI⟩) 0
      ((((M0.bump 2).set M0.next (some [.agg (cfgC c P L)])).bump 1).set (M0.next + 2) (some [.nilsl])) (by omega)
      ⟨.nilsl, by simp, by simp, by show M0.next + 2 < M0.next + 2 + 1; omega, by show M0.next < M0.next + 2 + 1; omega, .inl ⟨by simp [gates, stamp, slotSV], rfl⟩, by omega, by simp, by simp⟩
    obtain ⟨r2, g2, Mb, rfl, ob, ib⟩ := loop_up (E := ES) (me := n_table_list) (B := c_table_list_B1) (len := K) (T := fun j => h_table_list_1 y (.ptr (M0.next + 2) 0 0) fn (.int .i64 K) (.int .i64 j))
      (I := fun j M => ∃ o, AddI (cfgC c P L) (M0.next + 2) M0.next o (slotSV (stamp c.lead c.slot (gates ps ++ syncs j))) M)
      (Q := fun r => ∃ M', r = (.exit 2, ⟨(h_table_list_1 y (.ptr (M0.next + 2) 0 0) fn (.int .i64 K) (.int .i64 K)).set 37 (.bool false), M'⟩) ∧ ∃ o, AddI (cfgC c P L) (M0.next + 2) M0.next o (slotSV (stamp c.lead c.slot (gates ps ++ syncs K))) M')
      (fun j M hj ⟨o, hI⟩ => by
        left
        have hg : (gates ps ++ syncs j).length ≤ 900 := by rw [List.length_append, gates_len, syncs_len]; omega
        obtain ⟨M', o', a1, a2⟩ := table_list_B1 hI hg h1 h2 (y := y) (n := K) (by omega) (j := j) (by omega)
        rw [hfn] at a1
        rw [List.append_assoc, ← syncs_succ] at a2
        exact ⟨M', a1, o', a2⟩)
      (fun M ⟨o, hI⟩ => ⟨_, by simp [c_table_list_B1, evW_reg, evW_chkr, isCst, TK.agg, zeroS, endS, resS, h_table_list_1], by simp, M, rfl, o, hI⟩) 0 Ma (by omega) ⟨oa, by simpa [syncs] using ia⟩
    obtain ⟨r3, g3, Mc, rfl, oc, ic⟩ := loop_up (E := ES) (me := n_table_list) (B := c_table_list_B2) (len := ps.length) (T := fun j => h_table_list_2 (.ptr (M0.next + 2) 0 0) fn y (.int .i64 ps.length) (.int .i64 j))
      (I := fun j M => ∃ o, AddI (cfgC c P L) (M0.next + 2) M0.next o (slotSV (stamp c.lead c.slot (gates ps ++ syncs K ++ datas (ps.take j)))) M)
      (Q := fun r => ∃ M', r = (.exit 4, ⟨(h_table_list_2 (.ptr (M0.next + 2) 0 0) fn y (.int .i64 ps.length) (.int .i64 ps.length)).set 46 (.bool false), M'⟩) ∧ ∃ o, AddI (cfgC c P L) (M0.next + 2) M0.next o (slotSV (stamp c.lead c.slot (kindsL ps K))) M')
      (fun j M hj ⟨o, hI⟩ => by
        left
        have hg : (gates ps ++ syncs K ++ datas (ps.take j)).length ≤ 900 := by rw [List.length_append, List.length_append, gates_len, syncs_len, datas_len, List.length_take]; omega
        obtain ⟨M', o', a1, a2⟩ := table_list_B2 hI hg h1 h2 hy (by omega) hj
        rw [hfn] at a1
        rw [List.append_assoc _ (datas _), ← datas_take hj] at a2
        exact ⟨M', a1, o', a2⟩)
      (fun M ⟨o, hI⟩ => ⟨_, by simp [c_table_list_B2, evW_reg, evW_chkr, isCst, TK.agg, zeroS, endS, resS, h_table_list_2], by simp, M, rfl, o, by rw [List.take_length] at hI; exact hI⟩) 0 Mb (by omega) ⟨ob, by simpa [datas] using ib⟩
    have hcb := ia.hc
    have hld := OutR.load (P := ES.P) (get := Mc.blk) ic.hO ti_sl_api_Slot ic.ho
    simp [h_table_list_0, cfgC] at g1
    simp [h_table_list_1] at g2
    simp [h_table_list_2] at g3
    simp only [cfgC] at hcb
    refine ⟨oc, Mc, _, ?_, ic.hO, rfl⟩
    have q1 : loadS ES.P Ma.blk T_sl_api_Part (.ptr M0.next 0 0) = some P := by simp [loadS, hcb, partS, TK.agg]
    have q2 : ∀ get, loadS ES.P get T_int (.rptr (c.parts.map encPart) p 0 (stOf P)) = some (.int .i64 K) := fun get => loadS_rptr ti_int (x := encPart c.parts[p]) (by simp [hp]) (by rw [← hK]; rfl)
    simp (maxSteps := 4000000) [c_table_list, evW_reg, evW_chkr, isCst, TK.agg, fieldAddrS, zeroS, endS, resS, cfgC, hfn, hlen, c_table_list_L0, g1, q1, ha, q2, c_table_list_L1, g2, c_table_list_L2, g3, hld]) (fun items h y hy => by
      subst h
      exact slot_pv _ y hy)
  subst k2
  exact ⟨z, k1, RSl.of_map k5 k6, k7⟩

end Go.Proofs.YtomlbmbgocmiiaaGreatDoor
