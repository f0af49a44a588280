/-
  Walks of the seat's functions: Wa.
-/
import Derived.Test.YtbdliphlolajaaaDoorEb2
import Derived.Test.YtbdliphlolajaaaDoorShSv
import Derived.Test.YtbdliphlolajaaaDoorLWc
import Derived.Test.YtbdliphlolajaaaDoorLRe
set_option linter.unusedVariables false
set_option linter.unusedSimpArgs false
set_option maxRecDepth 100000
namespace Go.Proofs.YtbdliphlolajaaaDoor
open Go.Proofs.YtbdliphlolajaaaDoor.Sh
/-! The law PlanChecks. -/
theorem l5_alive_ok : PCw ES n_l5_alive [] = some (.bool true) := PCw_closed 200 (by kernel_rfl)
@[simp] theorem l5_alive_c (get) : callP (PCw ES) get n_l5_alive [] = some (.bool true) := callP_of l5_alive_ok rfl
@[simp] theorem l5_num_c (get) (n : Int) : callP (PCw ES) get n_l5_num [.int .i64 n] = some (.int .i64 n) := by
  refine callP_of (PCw_ex (fun M => ?_) rfl) rfl
  rw [b_l5_num]
  simp [c_l5_num, evW_reg, evW_chkr, isCst, loadS, partS, TK.agg, fieldAddrS, zeroS, storeS, setPart, splice, endS, resS, fieldS]
def smallC (c : Cfg) : Prop := c.parts.length ≤ 20 ∧ c.links.length ≤ 30
instance (c : Cfg) : Decidable (smallC c) := inferInstanceAs (Decidable (_ ∧ _))
theorem l5_small_c (get) {P L : SV} {c : Cfg} (hP : CfgP c P L) : callP (PCw ES) get n_l5_small [.agg (cfgC c P L)] = some (.bool (decide (smallC c))) := by
  refine callP_of (PCw_ex (fun M => ?_) rfl) (by simp [hP.npA])
  rw [b_l5_small]
  have hlenp := hP.p.lenS ti_sl_api_Part
  have hlen := hP.l.lenS ti_sl_api_Link
  by_cases h : c.parts.length ≤ 20
  · have h' : (c.parts.length : Int) ≤ 20 := by omega
    by_cases h2 : c.links.length ≤ 30
    · have h2' : (c.links.length : Int) ≤ 30 := by omega
      simp [c_l5_small, evW_reg, evW_chkr, isCst, loadS, partS, TK.agg, fieldAddrS, zeroS, storeS, setPart, splice, endS, resS, fieldS, cfgC, smallC, hlenp, hlen, h, h', h2, h2']
    · have h2' : ¬ (c.links.length : Int) ≤ 30 := by omega
      simp [c_l5_small, evW_reg, evW_chkr, isCst, loadS, partS, TK.agg, fieldAddrS, zeroS, storeS, setPart, splice, endS, resS, fieldS, cfgC, smallC, hlenp, hlen, h, h', h2, h2']
  · have h' : ¬ (c.parts.length : Int) ≤ 20 := by omega
    simp [c_l5_small, evW_reg, evW_chkr, isCst, loadS, partS, TK.agg, fieldAddrS, zeroS, storeS, setPart, splice, endS, resS, fieldS, cfgC, smallC, hlenp, hlen, h, h']
theorem PlanChecks_walk (xs0 : List SV) (h0 : WT ES.P 8 T_api_Config xs0) : ∃ M', ICw ES n_l5_PlanChecks [mkV ES.P T_api_Config xs0] .empty = some (.bool true, M') := by
  obtain ⟨c, hc, _⟩ := cfg_of h0
  generalize mkV ES.P T_api_Config xs0 = y at hc ⊢
  have hcy := hc
  obtain ⟨P, L, rfl, hP⟩ := hc
  rw [b_l5_PlanChecks]
  have h1 := fun get => l5_small_c get hP
  have h2 := fun get => plan_Check_c get hcy
  have h3 := fun get => r5_Check_c get hP
  simp only [cfgC] at h1 h2 h3
  by_cases h : smallC c
  · simp [c_l5_PlanChecks, evW_reg, evW_chkr, isCst, loadS, partS, TK.agg, fieldAddrS, zeroS, storeS, setPart, splice, endS, resS, fieldS, cfgC, h1, h2, h3, h]
  · simp [c_l5_PlanChecks, evW_reg, evW_chkr, isCst, loadS, partS, TK.agg, fieldAddrS, zeroS, storeS, setPart, splice, endS, resS, fieldS, cfgC, h1, h2, h3, h]

end Go.Proofs.YtbdliphlolajaaaDoor
