/-
  Walks of the seat's functions: Th.
-/
import Derived.Test.YtjhlibdiojepaaaGreatDoorEbMa
import Derived.Test.YtjhlibdiojepaaaGreatDoorShMb
import Derived.Test.YtjhlibdiojepaaaGreatDoorLzMj
import Derived.Test.YtjhlibdiojepaaaGreatDoorLBl
import Derived.Test.YtjhlibdiojepaaaGreatDoorLzMk
import Derived.Test.YtjhlibdiojepaaaGreatDoorLBn
set_option linter.unusedVariables false
set_option linter.unusedSimpArgs false
set_option maxRecDepth 100000
namespace Go.Proofs.YtjhlibdiojepaaaGreatDoor
open Go.Proofs.YtjhlibdiojepaaaGreatDoor.Sh
/-! The document's Which; the laws TableTells, TableMade. -/
set_option maxHeartbeats 4000000 in
theorem r5_Which_c (get) {P L : SV} {c : Cfg} (hP : CfgP c P L) (part t : Int) :
    callP (PCw ES) get n_r5_Which [.agg (cfgC c P L), .int .i64 part, .int .i64 t] = some (.int .i64 (whichG (slotsG c part) c.window t)) := by
  refine callP_of (PCw_ex (fun M0 => ?_) rfl) (by simp [hP.npA])
  rw [b_r5_Which]
  obtain ⟨z, k1, k2, _⟩ := r5_Slots_c hP part
  have hb := slotsG_le c part
  have hm := fun s (h : s ∈ slotsG c part) => slotsG_mem h
  generalize slotsG c part = l at *
  have hl := k2.lenS ti_sl_api_Slot
  have hq : ∀ {M : Mem}, M.blk M0.next = some [.agg (cfgC c P L)] → loadS ES.P M.blk T_int (.ptr M0.next 0 5) = some (.int .i64 c.window) := fun h => by
    simp only [cfgC] at h
    simp [loadS, h, partS, TK.agg]
  obtain ⟨r, g1, M', g0⟩ := loop_find (E := ES) (me := n_r5_Which) (B := c_r5_Which_B0) (len := l.length) (T := fun j => h_r5_Which_0 (.int .i64 t) (.ptr M0.next 0 0) z (.int .i64 j))
    (I := fun _ M => M.blk M0.next = some [.agg (cfgC c P L)]) (p := fun j => (l[j]?.map fun s => decide (s.tick - c.window ≤ t ∧ t ≤ s.tick + c.window)).getD false)
    (Q := fun o r => ∃ M', r = match o with
      | some j => (.ret, ⟨(h_r5_Which_0 .bad .bad .bad .bad).set 6 (.int .i64 j), M'⟩)
      | none => (.exit 0, ⟨(h_r5_Which_0 (.int .i64 t) (.ptr M0.next 0 0) z (.int .i64 l.length)).set 15 (.bool false), M'⟩))
    (fun j M hj hI hpj => by
      have hw : IntKind.i64.wrap ((j : Int) + 1) = (j : Int) + 1 := i64_in (by omega) (by omega)
      have ha := Slots.at k2 hj
      obtain ⟨m1, m2⟩ := hm _ (List.getElem_mem hj)
      have w1 : IntKind.i64.wrap (l[j].tick - c.window) = l[j].tick - c.window := i64_in (by omega) (by omega)
      have w2 : IntKind.i64.wrap (l[j].tick + c.window) = l[j].tick + c.window := i64_in (by omega) (by omega)
      have q0 : ∀ get, loadS ES.P get T_int (.rptr (l.map encSlot) j 2 (stOf z)) = some (.int .i64 l[j].tick) := fun get => loadS_rptr ti_int (x := encSlot l[j]) (by simp [hj]) rfl
      have q1 := hq hI
      simp [hj] at hpj
      by_cases h1 : l[j].tick - c.window ≤ t
      · have h2 : ¬ t ≤ l[j].tick + c.window := by have := hpj (by omega); omega
        exact ⟨M, by simp [c_r5_Which_B0, evW_reg, evW_chkr, isCst, TK.agg, zeroS, endS, resS, fieldAddrS, h_r5_Which_0, hl, hj, ha, q0, q1, w1, w2, h1, h2, hw], hI⟩
      · exact ⟨M, by simp [c_r5_Which_B0, evW_reg, evW_chkr, isCst, TK.agg, zeroS, endS, resS, fieldAddrS, h_r5_Which_0, hl, hj, ha, q0, q1, w1, h1, hw], hI⟩)
    (fun j M hj hI hpj => by
      have ha := Slots.at k2 hj
      obtain ⟨m1, m2⟩ := hm _ (List.getElem_mem hj)
      have w1 : IntKind.i64.wrap (l[j].tick - c.window) = l[j].tick - c.window := i64_in (by omega) (by omega)
      have w2 : IntKind.i64.wrap (l[j].tick + c.window) = l[j].tick + c.window := i64_in (by omega) (by omega)
      have q0 : ∀ get, loadS ES.P get T_int (.rptr (l.map encSlot) j 2 (stOf z)) = some (.int .i64 l[j].tick) := fun get => loadS_rptr ti_int (x := encSlot l[j]) (by simp [hj]) rfl
      have q1 := hq hI
      simp [hj] at hpj
      have h1 : l[j].tick - c.window ≤ t := by omega
      have h2 : t ≤ l[j].tick + c.window := by omega
      exact ⟨_, by simp [c_r5_Which_B0, evW_reg, evW_chkr, isCst, TK.agg, zeroS, endS, resS, fieldAddrS, h_r5_Which_0, hl, hj, ha, q0, q1, w1, w2, h1, h2], by simp, M, rfl⟩)
    (fun M _ => ⟨_, by simp [c_r5_Which_B0, evW_reg, evW_chkr, isCst, TK.agg, zeroS, endS, resS, h_r5_Which_0, hl], by simp, M, rfl⟩) ((M0.bump 2).set M0.next (some [.agg (cfgC c P L)])) (by simp)
  unfold whichG idxOf
  simp only [cfgC] at k1
  cases hf : (List.range l.length).find? (fun j => (l[j]?.map fun s => decide (s.tick - c.window ≤ t ∧ t ≤ s.tick + c.window)).getD false) with
  | none =>
    rw [hf] at g0
    subst g0
    simp [h_r5_Which_0, cfgC] at g1
    simp [c_r5_Which, evW_reg, evW_chkr, isCst, loadS, partS, TK.agg, fieldAddrS, zeroS, storeS, setPart, splice, endS, resS, fieldS, cfgC, k1, c_r5_Which_L0, g1]
  | some j =>
    rw [hf] at g0
    subst g0
    simp [h_r5_Which_0, cfgC] at g1
    simp [c_r5_Which, evW_reg, evW_chkr, isCst, loadS, partS, TK.agg, fieldAddrS, zeroS, storeS, setPart, splice, endS, resS, fieldS, cfgC, k1, c_r5_Which_L0, g1]
theorem eqSlot (c : Bool) (a b : Slot) : eqS ES.P T_api_Slot c (encSlot a) (encSlot b) = some (decide (a = b)) := by
  have h1 : ES.P.stoodInHeld T_api_Slot = false := by kernel_rfl
  have h2 : ES.P.eqGuardType ES.P.depth T_api_Slot = false := by kernel_rfl
  have h3 : intsOnly ES.P (.struct [(T_int, 0), (T_int, 1), (T_int, 2)]) = true := by kernel_rfl
  have h4 : plainNames ES.P T_api_Slot = true := by kernel_rfl
  unfold eqS
  rw [ti_api_Slot]
  obtain ⟨a1, a2, a3⟩ := a
  obtain ⟨b1, b2, b3⟩ := b
  simp only [encSlot, h1, h2, h3, h4]
  simp only [inRow, List.length, eqInts, beq_self_eq_true, Bool.and_true, and_self, if_true, Option.some.injEq]
  by_cases e1 : a1 = b1 <;> by_cases e2 : a2 = b2 <;> by_cases e3 : a3 = b3 <;> simp [e1, e2, e3]
@[simp] theorem neqSlot (c : Bool) (a b : Slot) : binS ES.P .neq T_api_Slot c (encSlot a) (encSlot b) = some (.bool (!decide (a = b))) := by
  show (match eqS ES.P T_api_Slot c (encSlot a) (encSlot b) with | some b => some (SV.bool (!b)) | none => none) = _
  rw [eqSlot]
set_option maxHeartbeats 4000000 in
theorem l9_same_c (get) {x y : SV} {l : List Slot} (hx : Slots x l) (hy : Slots y l) (hb : l.length ≤ 100000) : callP (PCw ES) get n_l9_same [x, y] = some (.bool true) := by
  refine callP_of (PCw_ex (fun M0 => ?_) rfl) (by simp [hx.np12, hy.np12])
  rw [b_l9_same]
  have l1 := hx.lenS ti_sl_api_Slot
  have l2 := hy.lenS ti_sl_api_Slot
  obtain ⟨r, g1, M', g2⟩ := loop_up (E := ES) (me := n_l9_same) (B := c_l9_same_B0) (len := l.length) (T := fun j => h_l9_same_0 x y (.int .i64 j)) (I := fun _ _ => True)
    (Q := fun r => ∃ M', r = (.exit 0, ⟨(h_l9_same_0 x y (.int .i64 l.length)).set 14 (.bool false), M'⟩))
    (fun j M hj _ => by
      left
      have hw : IntKind.i64.wrap ((j : Int) + 1) = (j : Int) + 1 := i64_in (by omega) (by omega)
      have a1 := Slots.at hx hj
      have a2 := Slots.at hy hj
      have q0 : ∀ get z, loadS ES.P get T_api_Slot (.rptr (l.map encSlot) j 0 z) = some (encSlot l[j]) := fun get z => loadS_rptr ti_api_Slot (x := encSlot l[j]) (by simp [hj]) rfl
      exact ⟨M, by simp [c_l9_same_B0, evW_reg, evW_chkr, isCst, TK.agg, zeroS, endS, resS, h_l9_same_0, l1, l2, hj, a1, a2, q0, hw], trivial⟩)
    (fun M _ => ⟨_, by simp [c_l9_same_B0, evW_reg, evW_chkr, isCst, TK.agg, zeroS, endS, resS, h_l9_same_0, l1, l2], by simp, M, rfl⟩) 0 M0 (by omega) trivial
  subst g2
  simp [h_l9_same_0] at g1
  simp [c_l9_same, evW_reg, evW_chkr, isCst, TK.agg, zeroS, endS, resS, l1, l2, c_l9_same_L0, g1]
theorem l9_alive_ok : PCw ES n_l9_alive [] = some (.bool true) := PCw_closed 200 (by kernel_rfl)
@[simp] theorem l9_alive_c (get) : callP (PCw ES) get n_l9_alive [] = some (.bool true) := callP_of l9_alive_ok rfl
set_option maxHeartbeats 8000000 in
theorem TableTells_walk (xs0 xs1 xs2 xs3 xs4 : List SV) (h0 : WT ES.P 8 T_api_Config xs0) (h1 : WT ES.P 8 T_int xs1) (h2 : WT ES.P 8 T_int xs2) (h3 : WT ES.P 8 T_int xs3) (h4 : WT ES.P 8 T_int xs4) :
    ∃ M', ICw ES n_l9_TableTells [mkV ES.P T_api_Config xs0, mkV ES.P T_int xs1, mkV ES.P T_int xs2, mkV ES.P T_int xs3, mkV ES.P T_int xs4] .empty = some (.bool true, M') := by
  obtain ⟨c, hc, _⟩ := cfg_of h0
  have hpv : Sh.pv (mkV ES.P T_api_Config xs0) = true := mkV_pv (WT_pv _ _ _ h0)
  obtain ⟨part, _, e1, _⟩ := WT_int ti_int h1
  obtain ⟨kind, _, e2, _⟩ := WT_int ti_int h2
  obtain ⟨node, _, e3, _⟩ := WT_int ti_int h3
  obtain ⟨t, _, e4, _⟩ := WT_int ti_int h4
  rw [e1, e2, e3, e4]
  generalize mkV ES.P T_api_Config xs0 = y at hc hpv ⊢
  obtain ⟨P, L, rfl, hP⟩ := hc
  rw [b_l9_TableTells]
  obtain ⟨s1, k1, q1, _⟩ := table_Slots_c hP hpv part
  obtain ⟨s2, k2, q2, _⟩ := r5_Slots_c hP part
  have hb := slotsG_le c part
  have k3 := fun get => l9_same_c get q1 q2 (by omega)
  have k4 := fun get => table_Find_c get hP hpv part kind node
  have k5 := fun get => r5_Find_c get hP part kind node
  have k6 := fun get => table_Which_c get hP hpv part t
  have k7 := fun get => r5_Which_c get hP part t
  generalize findG (slotsG c part) kind node = v1 at *
  generalize whichG (slotsG c part) c.window t = v2 at *
  have hlenp := hP.p.lenS ti_sl_api_Part
  have hlenl := hP.l.lenS ti_sl_api_Link
  simp only [cfgC] at k1 k2 k4 k5 k6 k7
  by_cases h3 : 20 < (c.parts.length : Int)
  · simp (maxSteps := 4000000) [c_l9_TableTells, evW_reg, evW_chkr, isCst, loadS, partS, TK.agg, fieldAddrS, zeroS, storeS, setPart, splice, endS, resS, fieldS, cfgC, hlenp, hlenl, h3]
  · by_cases h4 : 30 < (c.links.length : Int)
    · simp (maxSteps := 4000000) [c_l9_TableTells, evW_reg, evW_chkr, isCst, loadS, partS, TK.agg, fieldAddrS, zeroS, storeS, setPart, splice, endS, resS, fieldS, cfgC, hlenp, hlenl, h3, h4]
    · simp (maxSteps := 4000000) [c_l9_TableTells, evW_reg, evW_chkr, isCst, loadS, partS, TK.agg, fieldAddrS, zeroS, storeS, setPart, splice, endS, resS, fieldS, cfgC, hlenp, hlenl, h3, h4, k1, k2, k3, k4, k5, k6, k7]
set_option maxHeartbeats 8000000 in
theorem TableMade_walk (xs0 xs1 xs2 xs3 xs4 : List SV) (h0 : WT ES.P 8 T_int xs0) (h1 : WT ES.P 8 T_uint16 xs1) (h2 : WT ES.P 8 T_uint16 xs2) (h3 : WT ES.P 8 T_uint16 xs3) (h4 : WT ES.P 8 T_uint16 xs4) :
    ∃ M', ICw ES n_l9_TableMade [mkV ES.P T_int xs0, mkV ES.P T_uint16 xs1, mkV ES.P T_uint16 xs2, mkV ES.P T_uint16 xs3, mkV ES.P T_uint16 xs4] .empty = some (.bool true, M') := by
  obtain ⟨n, _, e0, _⟩ := WT_int ti_int h0
  obtain ⟨part, _, e1, w1⟩ := WT_int ti_uint16 h1
  obtain ⟨kind, _, e2, w2⟩ := WT_int ti_uint16 h2
  obtain ⟨node, _, e3, w3⟩ := WT_int ti_uint16 h3
  obtain ⟨t, _, e4, w4⟩ := WT_int ti_uint16 h4
  have b1 := wf16 w1
  have b2 := wf16 w2
  have b3 := wf16 w3
  have b4 := wf16 w4
  rw [e0, e1, e2, e3, e4]
  obtain ⟨P, L, hm, hP⟩ := Made_c n
  have hpv := callPv (hm fun _ => none)
  have hr := right_facts (made_right n)
  generalize madeC n = c at *
  rw [b_l9_TableMade]
  obtain ⟨s1, k1, q1, _⟩ := table_Slots_c hP hpv (part.tmod c.parts.length)
  obtain ⟨s2, k2, q2, _⟩ := r5_Slots_c hP (part.tmod c.parts.length)
  have hb := slotsG_le c (part.tmod c.parts.length)
  have k3 := fun get => l9_same_c get q1 q2 (by omega)
  have k4 := fun get => table_Find_c get hP hpv (part.tmod c.parts.length) (kind.tmod 7) (node.tmod 14)
  have k5 := fun get => r5_Find_c get hP (part.tmod c.parts.length) (kind.tmod 7) (node.tmod 14)
  have k6 := fun get => table_Which_c get hP hpv (part.tmod c.parts.length) t
  have k7 := fun get => r5_Which_c get hP (part.tmod c.parts.length) t
  generalize findG (slotsG c (part.tmod c.parts.length)) (kind.tmod 7) (node.tmod 14) = v1 at *
  generalize whichG (slotsG c (part.tmod c.parts.length)) c.window t = v2 at *
  have hlenp := hP.p.lenS ti_sl_api_Part
  have hz : (c.parts.length : Int) ≠ 0 := by omega
  have x1 : IntKind.i64.wrap part = part := i64_in (by omega) (by omega)
  have x2 : IntKind.i64.wrap kind = kind := i64_in (by omega) (by omega)
  have x3 : IntKind.i64.wrap node = node := i64_in (by omega) (by omega)
  have x4 : IntKind.i64.wrap t = t := i64_in (by omega) (by omega)
  simp only [cfgC] at hm k1 k2 k4 k5 k6 k7
  simp (maxSteps := 4000000) [c_l9_TableMade, evW_reg, evW_chkr, isCst, loadS, partS, TK.agg, fieldAddrS, zeroS, storeS, setPart, splice, endS, resS, fieldS, cfgC, hm, hlenp, binS_rem hz, x1, x2, x3, x4, k1, k2, k3, k4, k5, k6, k7, Nat.add_assoc]

end Go.Proofs.YtjhlibdiojepaaaGreatDoor
