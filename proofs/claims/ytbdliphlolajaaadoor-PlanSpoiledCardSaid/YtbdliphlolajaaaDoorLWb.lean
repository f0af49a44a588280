/-
  Walks of the seat's functions: Wb.
-/
import Derived.Test.YtbdliphlolajaaaDoorEb2
import Derived.Test.YtbdliphlolajaaaDoorShSv
import Derived.Test.YtbdliphlolajaaaDoorLRg
import Derived.Test.YtbdliphlolajaaaDoorLWa
set_option linter.unusedVariables false
set_option linter.unusedSimpArgs false
set_option maxRecDepth 100000
namespace Go.Proofs.YtbdliphlolajaaaDoor
open Go.Proofs.YtbdliphlolajaaaDoor.Sh
/-! The law PlanTells. -/
def portG (c : Cfg) (part node : Int) : Option Port := if rightC c && decide (inMany part c.parts.length) then findPort c.links part node else none
theorem find_range {α : Type} (p : α → Bool) (l : List α) : l.find? p = ((List.range l.length).find? (fun j => (l[j]?.map p).getD false)).bind fun j => l[j]? := by
  cases h : (List.range l.length).find? (fun j => (l[j]?.map p).getD false) with
  | none =>
    rw [List.find?_range_eq_none] at h
    rw [Option.bind_none, List.find?_eq_none]
    intro x hx
    obtain ⟨j, hj, rfl⟩ := List.mem_iff_getElem.1 hx
    simpa [hj] using h j hj
  | some j =>
    rw [List.find?_range_eq_some] at h
    obtain ⟨h1, h2, h3⟩ := h
    have hlt : j < l.length := by simpa using h2
    simp [hlt] at h1
    rw [Option.bind_some, List.getElem?_eq_getElem hlt, List.find?_eq_some_iff_getElem]
    exact ⟨h1, j, hlt, rfl, fun i hi => by simpa [show i < l.length by omega] using h3 i hi⟩
theorem portsG_find {c : Cfg} (part n : Int) : (portsG c part).find? (fun p => decide (p.node = n)) = portG c part n := by
  unfold portsG portG
  cases hr : rightC c with
  | false => simp
  | true =>
    by_cases hp : inMany part c.parts.length
    · simp only [hp, decide_true, Bool.and_self, if_true]
      exact portsL_find (portsOk_of (checkG_zero (by simpa [rightC] using hr)) part) n
    · simp [hp]
set_option maxHeartbeats 4000000 in
theorem r5_Port_c (get) {P L : SV} {c : Cfg} (hP : CfgP c P L) (part node : Int) : callP (PCw ES) get n_r5_Port [.agg (cfgC c P L), .int .i64 part, .int .i64 node] = some (portO (portG c part node)) := by
  refine callP_of (PCw_ex (fun M0 => ?_) rfl) (by simp [hP.npA])
  rw [b_r5_Port]
  have h1 := fun get => r5_Good_c get hP part
  have h2 := fun get => r5_port_c get hP part node (Nat.le_refl _)
  have hlen := hP.l.lenS ti_sl_api_Link
  rw [List.take_length] at h2
  simp only [cfgC] at h1 h2
  unfold portG
  cases hg : (rightC c && decide (inMany part c.parts.length)) with
  | false =>
    rw [hg] at h1
    have b : bldS ES.P T_api_Port [] = some (encPort ⟨0, 0, 0, 0⟩) := by simp [bldS, placesOf, buildS, encPort]
    simp [c_r5_Port, evW_reg, evW_chkr, isCst, loadS, partS, TK.agg, fieldAddrS, zeroS, storeS, setPart, splice, endS, resS, fieldS, cfgC, h1, b, portO]
    rfl
  | true =>
    rw [hg] at h1
    simp [c_r5_Port, evW_reg, evW_chkr, isCst, loadS, partS, TK.agg, fieldAddrS, zeroS, storeS, setPart, splice, endS, resS, fieldS, cfgC, h1, hlen, h2, portO]
set_option maxHeartbeats 4000000 in
theorem plan_Port_c (get) {P L : SV} {c : Cfg} (hP : CfgP c P L) (part node : Int) : callP (PCw ES) get n_plan_Port [.agg (cfgC c P L), .int .i64 part, .int .i64 node] = some (portO (portG c part node)) := by
  refine callP_of (PCw_ex (fun M0 => ?_) rfl) (by simp [hP.npA])
  rw [b_plan_Port, ← portsG_find, find_range]
  obtain ⟨y, h1, h2⟩ := plan_Ports_c hP part
  have hlen := h2.lenS ti_sl_api_Port
  have hb : (portsG c part).length ≤ 1000 := by
    unfold portsG portsL
    split
    · have := List.length_filterMap_le (fun i : Nat => findPort c.links part (i : Int)) (List.range (nodesAt c part).toNat)
      rename_i hr
      simp only [Bool.and_eq_true] at hr
      have := nodesAt_le (checkG_zero (by simpa [rightC] using hr.1)) part
      simp at *
      omega
    · simp
  generalize portsG c part = l at *
  simp only [cfgC] at h1
  obtain ⟨z, hz1, hz2⟩ : ∃ z : SV, z.cells.length = 4 ∧ z = .agg [.int .i64 0, .int .i64 0, .int .i64 0, .int .i64 0] := ⟨_, rfl, rfl⟩
  obtain ⟨r, g1, M', g0, g2⟩ := loop_find (E := ES) (me := n_plan_Port) (B := c_plan_Port_B0) (len := l.length) (T := fun j => h_plan_Port_0 (.int .i64 node) (.ptr (M0.next + 1) 0 0) y (.int .i64 l.length) (.int .i64 j))
    (I := fun _ M => M.blk (M0.next + 1) = some [z] ∧ M0.next + 1 < M.next)
    (p := fun j => (l[j]?.map fun p => decide (p.node = node)).getD false)
    (Q := fun o r => ∃ M', M'.blk (M0.next + 1) = some [match o with | some j => encPort ((l[j]?).getD ⟨0, 0, 0, 0⟩) | none => z] ∧ r = match o with
      | some _ => (.ret, ⟨((h_plan_Port_0 .bad .bad .bad .bad .bad).set 6 (.ptr (M0.next + 1) 0 0)).set 7 (.bool true), M'⟩)
      | none => (.exit 0, ⟨(h_plan_Port_0 (.int .i64 node) (.ptr (M0.next + 1) 0 0) y (.int .i64 l.length) (.int .i64 l.length)).set 15 (.bool false), M'⟩))
    (fun j M hj ⟨hq, hlt⟩ hpj => by
      have ha := Ports.at h2 hj
      have hw : IntKind.i64.wrap ((j : Int) + 1) = (j : Int) + 1 := i64_in (by omega) (by omega)
      have hne : ∀ k, (M0.next + 1 = M.next + k) = False := fun k => by simp; omega
      have hne2 : ∀ k, (M0.next = M.next + k) = False := fun k => by simp; omega
      simp [hj] at hpj
      refine ⟨(M.bump 4).set (M.next + 2) (some [encPort l[j]]), ?_, by simp [hne, hne2, hq], by simp; omega⟩
      simp [c_plan_Port_B0, evW_reg, evW_chkr, isCst, loadS, partS, TK.agg, fieldAddrS, zeroS, storeS, setPart, splice, endS, resS, fieldS, h_plan_Port_0, hj, ha, hpj, hw])
    (fun j M hj ⟨hq, hlt⟩ hpj => by
      have ha := Ports.at h2 hj
      have hne : ∀ k, (M0.next + 1 = M.next + k) = False := fun k => by simp; omega
      have hne2 : ∀ k, (M0.next = M.next + k) = False := fun k => by simp; omega
      simp [hj] at hpj
      have hB : evW ES n_plan_Port c_plan_Port_B0 ⟨h_plan_Port_0 (.int .i64 node) (.ptr (M0.next + 1) 0 0) y (.int .i64 l.length) (.int .i64 j), M⟩ =
          some (.ret, ⟨((h_plan_Port_0 .bad .bad .bad .bad .bad).set 6 (.ptr (M0.next + 1) 0 0)).set 7 (.bool true), ((M.bump 4).set (M.next + 2) (some [encPort l[j]])).set (M0.next + 1) (some [encPort l[j]])⟩) := by
        simp [c_plan_Port_B0, evW_reg, evW_chkr, isCst, loadS, partS, TK.agg, fieldAddrS, zeroS, storeS, setPart, splice, endS, resS, fieldS, h_plan_Port_0, hj, ha, hpj, hne, hne2, hq, hz1, encPort]
      exact ⟨_, hB, by simp, _, by simp [hj], rfl⟩)
    (fun M ⟨hq, _⟩ => ⟨_, by simp [c_plan_Port_B0, evW_reg, evW_chkr, isCst, loadS, partS, TK.agg, fieldAddrS, zeroS, storeS, setPart, splice, endS, resS, fieldS, h_plan_Port_0], by simp, M, hq, rfl⟩)
    (((M0.bump 3).set M0.next (some [.agg (cfgC c P L)])).set (M0.next + 1) (some [z])) ⟨by simp, by simp⟩
  cases hf : (List.range l.length).find? (fun j => (l[j]?.map fun p => decide (p.node = node)).getD false) with
  | none =>
    rw [hf] at g2 g0
    subst g2 hz2
    simp [h_plan_Port_0, cfgC] at g1 g0
    have b : bldS ES.P T_api_Port [] = some (encPort ⟨0, 0, 0, 0⟩) := by simp [bldS, placesOf, buildS, encPort]
    simp [c_plan_Port, evW_reg, evW_chkr, isCst, loadS, partS, TK.agg, fieldAddrS, zeroS, storeS, setPart, splice, endS, resS, fieldS, cfgC, h1, hlen, c_plan_Port_L0, g1, g0, portO, b]
    rfl
  | some j =>
    rw [hf] at g2 g0
    subst g2 hz2
    simp [h_plan_Port_0, cfgC] at g1 g0
    have hs : j < l.length := by
      rw [List.find?_range_eq_some] at hf
      simpa using hf.2.1
    simp [hs] at g0
    simp [c_plan_Port, evW_reg, evW_chkr, isCst, loadS, partS, TK.agg, fieldAddrS, zeroS, storeS, setPart, splice, endS, resS, fieldS, cfgC, h1, hlen, c_plan_Port_L0, g1, g0, portO, hs]
/-- A port's other side. -/
def farOf (ls : List Link) (p : Port) : Int × Int :=
  match ls[p.link.toNat]? with
  | some l => if p.side = 0 then (l.b, if p.gate = 0 then l.pb0 else l.pb1) else (l.a, if p.gate = 0 then l.pa0 else l.pa1)
  | none => (0, 0)
def PortIn (ls : List Link) (p : Port) : Prop := (∃ j : Nat, j < ls.length ∧ p.link = j) ∧ (p.gate = 0 ∨ p.gate = 1) ∧ (p.side = 0 ∨ p.side = 1)
theorem portOfLink_in {i : Nat} {l : Link} {part n : Int} {p : Port} (h : portOfLink i l part n = some p) : p.link = i ∧ (p.gate = 0 ∨ p.gate = 1) ∧ (p.side = 0 ∨ p.side = 1) := by
  unfold portOfLink at h
  split at h
  · cases h; simp
  split at h
  · cases h; simp
  split at h
  · cases h; simp
  split at h
  · cases h; simp
  · cases h
theorem findPort_in {ls : List Link} {part n : Int} {p : Port} (h : findPort ls part n = some p) : PortIn ls p := by
  unfold findPort at h
  split at h
  · rename_i j hj
    rw [List.find?_range_eq_some] at hj
    obtain ⟨_, h2, _⟩ := hj
    have hlt : j < ls.length := by simpa using h2
    simp [hlt] at h
    obtain ⟨h3, h4⟩ := portOfLink_in h
    exact ⟨⟨j, hlt, h3⟩, h4⟩
  · cases h
theorem portG_in {c : Cfg} {part n : Int} {p : Port} (h : portG c part n = some p) : PortIn c.links p := by
  unfold portG at h
  split at h
  · exact findPort_in h
  · cases h
set_option maxHeartbeats 4000000 in
theorem plan_Other_c (get) {P L : SV} {c : Cfg} (hP : CfgP c P L) {p : Port} (h : PortIn c.links p) :
    callP (PCw ES) get n_plan_Other [.agg (cfgC c P L), encPort p] = some (.tup [.int .i64 (farOf c.links p).1, .int .i64 (farOf c.links p).2]) := by
  obtain ⟨n, lk, g, s⟩ := p
  obtain ⟨⟨j, hj, e⟩, hg, hs⟩ := h
  simp only at e hg hs
  subst e
  refine callP_of (PCw_ex (fun M0 => ?_) rfl) (by simp [hP.npA, encPort_np])
  rw [b_plan_Other]
  have ha := Links.at hP.l hj
  have hc := fun get s => plan_end_c get c.links[j] s
  have hw0 : IntKind.i64.wrap 1 = 1 := by decide
  have hw1 : IntKind.i64.wrap 0 = 0 := by decide
  rcases hg with rfl | rfl <;> rcases hs with rfl | rfl <;> simp [c_plan_Other, evW_reg, evW_chkr, isCst, loadS, partS, TK.agg, fieldAddrS, zeroS, storeS, setPart, splice, endS, resS, fieldS, cfgC, ha, hj, hc, endOf, farOf, hw0, hw1, encPort]
def farO (c : Cfg) (part node : Int) : SV := match portG c part node with
  | some p => .tup [.int .i64 (farOf c.links p).1, .int .i64 (farOf c.links p).2, .bool true]
  | none => .tup [.int .i64 0, .int .i64 0, .bool false]
theorem farO_pv (c : Cfg) (part node : Int) : Sh.pv (farO c part node) = true := by unfold farO; split <;> rfl
set_option maxHeartbeats 4000000 in
theorem plan_Far_c (get) {P L : SV} {c : Cfg} (hP : CfgP c P L) (part node : Int) :
    callP (PCw ES) get n_plan_Far [.agg (cfgC c P L), .int .i64 part, .int .i64 node] = some (farO c part node) := by
  refine callP_of (PCw_ex (fun M0 => ?_) (farO_pv _ _ _)) (by simp [hP.npA])
  rw [b_plan_Far]
  have h1 := fun get => plan_Port_c get hP part node
  simp only [cfgC] at h1
  unfold farO
  cases hp : portG c part node with
  | none =>
    rw [hp] at h1
    simp [c_plan_Far, evW_reg, evW_chkr, isCst, loadS, partS, TK.agg, fieldAddrS, zeroS, storeS, setPart, splice, endS, resS, fieldS, cfgC, h1, portO]
  | some p =>
    rw [hp] at h1
    have h2 := fun get => plan_Other_c get hP (portG_in hp)
    simp only [cfgC] at h2
    simp [c_plan_Far, evW_reg, evW_chkr, isCst, loadS, partS, TK.agg, fieldAddrS, zeroS, storeS, setPart, splice, endS, resS, fieldS, cfgC, h1, h2, portO, Nat.add_assoc]
set_option maxHeartbeats 4000000 in
theorem r5_Far_c (get) {P L : SV} {c : Cfg} (hP : CfgP c P L) (part node : Int) :
    callP (PCw ES) get n_r5_Far [.agg (cfgC c P L), .int .i64 part, .int .i64 node] = some (farO c part node) := by
  refine callP_of (PCw_ex (fun M0 => ?_) (farO_pv _ _ _)) (by simp [hP.npA])
  rw [b_r5_Far]
  have h1 := fun get => r5_Port_c get hP part node
  simp only [cfgC] at h1
  unfold farO
  cases hp : portG c part node with
  | none =>
    rw [hp] at h1
    simp [c_r5_Far, evW_reg, evW_chkr, isCst, loadS, partS, TK.agg, fieldAddrS, zeroS, storeS, setPart, splice, endS, resS, fieldS, cfgC, h1, portO]
  | some p =>
    rw [hp] at h1
    obtain ⟨n, lk, g, s⟩ := p
    obtain ⟨⟨j, hj, e⟩, hg, hs⟩ := portG_in hp
    simp only at e hg hs
    subst e
    have ha := Links.at hP.l hj
    rcases hg with rfl | rfl <;> rcases hs with rfl | rfl <;> simp [c_r5_Far, evW_reg, evW_chkr, isCst, loadS, partS, TK.agg, fieldAddrS, zeroS, storeS, setPart, splice, endS, resS, fieldS, cfgC, h1, ha, hj, portO, farOf, encPort, Nat.add_assoc]

end Go.Proofs.YtbdliphlolajaaaDoor
