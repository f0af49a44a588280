/-
  Walks of the seat's functions: Rg.
-/
import Derived.Test.YtbdliphlolajaaaDoorEb2
import Derived.Test.YtbdliphlolajaaaDoorShSv
import Derived.Test.YtbdliphlolajaaaDoorLEq
set_option linter.unusedVariables false
set_option linter.unusedSimpArgs false
set_option maxRecDepth 100000
namespace Go.Proofs.YtbdliphlolajaaaDoor
open Go.Proofs.YtbdliphlolajaaaDoor.Sh
/-! plan.Right, ref Good. -/
def rightC (c : Cfg) : Bool := (checkG c).1 == 0
theorem plan_Right_c (get) {P L : SV} {c : Cfg} (hP : CfgP c P L) : callP (PCw ES) get n_plan_Right [.agg (cfgC c P L)] = some (.bool (rightC c)) := by
  refine callP_of (PCw_ex (fun M0 => ?_) rfl) (by simp [hP.npA])
  rw [b_plan_Right]
  have h1 := fun get => plan_Check_c get (y := .agg (cfgC c P L)) ⟨P, L, rfl, hP⟩
  simp only [cfgC] at h1
  by_cases h : (checkG c).1 = 0 <;> simp [c_plan_Right, evW_reg, evW_chkr, isCst, loadS, partS, TK.agg, fieldAddrS, zeroS, storeS, setPart, splice, endS, resS, fieldS, cfgC, h1, rightC, h]
theorem r5_Good_c (get) {P L : SV} {c : Cfg} (hP : CfgP c P L) (part : Int) : callP (PCw ES) get n_r5_Good [.agg (cfgC c P L), .int .i64 part] = some (.bool (rightC c && decide (inMany part c.parts.length))) := by
  refine callP_of (PCw_ex (fun M0 => ?_) rfl) (by simp [hP.npA])
  rw [b_r5_Good]
  have h1 := fun get => r5_Check_c get hP
  have hlenp := hP.p.lenS ti_sl_api_Part
  simp only [cfgC] at h1
  by_cases h : (checkG c).1 = 0 <;> simp [c_r5_Good, evW_reg, evW_chkr, isCst, loadS, partS, TK.agg, fieldAddrS, zeroS, storeS, setPart, splice, endS, resS, fieldS, cfgC, h1, hlenp, rightC, h]
/-- What plan.Ports answers. -/
def portsG (c : Cfg) (part : Int) : List Port := if rightC c && decide (inMany part c.parts.length) then portsL c.links part (nodesAt c part) else []
theorem Ends_right {P L : SV} {c : Cfg} (hP : CfgP c P L) (hr : rightC c = true) (part : Int) :
    ∃ y, (∀ get, callP (PCw ES) get n_plan_Ends [.agg (cfgC c P L), .int .i64 part] = some y) ∧ Ports y (portsL c.links part (nodesAt c part)) ∧ Sh.pv y = true := by
  have he : checkErr c = none := checkG_zero (by simpa [rightC] using hr)
  have hok := portsOk_of he part
  have hn := nodesAt_le he part
  have h12 := endsL_len hok hn.1 hn.2
  have hl := (linksErr_none (checkErr_none he).2).1
  obtain ⟨y, l', h1, h2, h3, h4, h5⟩ := Ends_c hP part hl h12 (fun p hp => by
    have := (hok.ends (Nat.le_refl _)).2 p hp
    unfold inMany at this
    omega)
  rw [hok.sorted h3 h4] at h2
  exact ⟨y, h1, h2, h5⟩
theorem plan_Ports_c {P L : SV} {c : Cfg} (hP : CfgP c P L) (part : Int) :
    ∃ y, (∀ get, callP (PCw ES) get n_plan_Ports [.agg (cfgC c P L), .int .i64 part] = some y) ∧ Ports y (portsG c part) := by
  have h1 := fun get => plan_Right_c get hP
  have hlenp := hP.p.lenS ti_sl_api_Part
  simp only [cfgC] at h1
  cases hr : rightC c with
  | false =>
    rw [hr] at h1
    refine ⟨.nilsl, fun get => callP_of (PCw_ex (fun M0 => ?_) rfl) (by simp [hP.npA]), by simp [portsG, hr]; exact RSl.nil _⟩
    rw [b_plan_Ports]
    simp [c_plan_Ports, evW_reg, evW_chkr, isCst, loadS, partS, TK.agg, fieldAddrS, zeroS, storeS, setPart, splice, endS, resS, fieldS, cfgC, h1, hlenp]
  | true =>
    rw [hr] at h1
    by_cases hp : inMany part c.parts.length
    · obtain ⟨y, h2, h3, h4⟩ := Ends_right hP hr part
      simp only [cfgC] at h2
      have hsl := h3.sl
      refine ⟨y, fun get => callP_of (PCw_ex (fun M0 => ?_) h4) (by simp [hP.npA]), by simp [portsG, hr, hp]; exact h3⟩
      rw [b_plan_Ports]
      simp [c_plan_Ports, evW_reg, evW_chkr, isCst, loadS, partS, TK.agg, fieldAddrS, zeroS, storeS, setPart, splice, endS, resS, fieldS, cfgC, h1, hlenp, hp, h2]
    · refine ⟨.nilsl, fun get => callP_of (PCw_ex (fun M0 => ?_) rfl) (by simp [hP.npA]), by simp [portsG, hr, hp]; exact RSl.nil _⟩
      rw [b_plan_Ports]
      simp [c_plan_Ports, evW_reg, evW_chkr, isCst, loadS, partS, TK.agg, fieldAddrS, zeroS, storeS, setPart, splice, endS, resS, fieldS, cfgC, h1, hlenp, hp]
theorem portsL_mem {ls : List Link} {part nodes : Int} (h : PortsOk ls part nodes) {p : Port} : p ∈ portsL ls part nodes ↔ p ∈ endsL ls part := by
  unfold portsL
  simp only [List.mem_filterMap, List.mem_range]
  constructor
  · rintro ⟨i, _, hi⟩
    exact (findPort_mem hi).1
  · intro hm
    have hin := (h.ends (Nat.le_refl _)).2 p hm
    refine ⟨p.node.toNat, by unfold inMany at hin; omega, ?_⟩
    rw [h.find]
    exact ⟨hm, by unfold inMany at hin; omega⟩
/-- The first of a part's ports at a node: the node's. -/
theorem portsL_find {ls : List Link} {part nodes : Int} (h : PortsOk ls part nodes) (n : Int) : (portsL ls part nodes).find? (fun p => decide (p.node = n)) = findPort ls part n := by
  cases hf : findPort ls part n with
  | none =>
    rw [List.find?_eq_none]
    intro p hp
    simp only [decide_eq_true_eq]
    intro e
    have := h.find.2 ⟨(portsL_mem h).1 hp, e⟩
    rw [hf] at this
    cases this
  | some q =>
    obtain ⟨h1, h2⟩ := findPort_mem hf
    cases hg : (portsL ls part nodes).find? (fun p => decide (p.node = n)) with
    | none =>
      rw [List.find?_eq_none] at hg
      have := hg q ((portsL_mem h).2 h1)
      simp [h2] at this
    | some r =>
      have h3 := List.find?_some hg
      have h4 := List.mem_of_find?_eq_some hg
      simp at h3
      rw [h.uniq ((portsL_mem h).1 h4) h1 (by omega)]

end Go.Proofs.YtbdliphlolajaaaDoor
