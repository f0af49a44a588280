/-
  Walks of the seat's functions: Bk.
-/
import Derived.Test.YtbdliphlolajaaaGreatDoorEb2
import Derived.Test.YtbdliphlolajaaaGreatDoorShSv
import Derived.Test.YtbdliphlolajaaaGreatDoorLBj
set_option linter.unusedVariables false
set_option linter.unusedSimpArgs false
set_option maxRecDepth 100000
namespace Go.Proofs.YtbdliphlolajaaaGreatDoor
open Go.Proofs.YtbdliphlolajaaaGreatDoor.Sh
/-! The laws BoundsFits, BoundsTells. -/
set_option maxHeartbeats 4000000 in
theorem r5_Fits_c (get) {P L : SV} {c : Cfg} (hP : CfgP c P L) : callP (PCw ES) get n_r5_Fits [.agg (cfgC c P L)] = some (.tup [.int .i64 (fitsG c).1, .int .i64 (fitsG c).2]) := by
  refine callP_of (PCw_ex (fun M0 => ?_) rfl) (by simp [hP.npA])
  rw [b_r5_Fits]
  have h1 := fun get => r5_Check_c get hP
  have h2 := fun get => r5_out_c get hP
  simp only [cfgC] at h1 h2
  unfold fitsG
  by_cases h : (checkG c).1 = 0
  · have hr : rightC c = true := by simpa [rightC] using h
    by_cases ho : outN c = 0
    · have h3 := fun get => r5_fits_c get hP hr (outN_zero ho)
      simp only [cfgC] at h3
      by_cases hl : laterN c = 0
      · simp [c_r5_Fits, evW_reg, evW_chkr, isCst, loadS, partS, TK.agg, fieldAddrS, zeroS, storeS, setPart, splice, endS, resS, fieldS, cfgC, h1, h2, h3, h, ho, hl]
      · simp [c_r5_Fits, evW_reg, evW_chkr, isCst, loadS, partS, TK.agg, fieldAddrS, zeroS, storeS, setPart, splice, endS, resS, fieldS, cfgC, h1, h2, h3, h, ho, hl]
    · simp [c_r5_Fits, evW_reg, evW_chkr, isCst, loadS, partS, TK.agg, fieldAddrS, zeroS, storeS, setPart, splice, endS, resS, fieldS, cfgC, h1, h2, h, ho]
  · simp [c_r5_Fits, evW_reg, evW_chkr, isCst, loadS, partS, TK.agg, fieldAddrS, zeroS, storeS, setPart, splice, endS, resS, fieldS, cfgC, h1, h]
theorem r5_Fit_c (get) {P L : SV} {c : Cfg} (hP : CfgP c P L) (part : Int) : callP (PCw ES) get n_r5_Fit [.agg (cfgC c P L), .int .i64 part] = some (.bool (fitG c && decide (inMany part c.parts.length))) := by
  refine callP_of (PCw_ex (fun M0 => ?_) rfl) (by simp [hP.npA])
  rw [b_r5_Fit]
  have h1 := fun get => r5_Fits_c get hP
  have hlenp := hP.p.lenS ti_sl_api_Part
  simp only [cfgC] at h1
  unfold fitG
  by_cases h : (fitsG c).1 = 0
  · simp [c_r5_Fit, evW_reg, evW_chkr, isCst, loadS, partS, TK.agg, fieldAddrS, zeroS, storeS, setPart, splice, endS, resS, fieldS, cfgC, h1, h, hlenp]
  · simp [c_r5_Fit, evW_reg, evW_chkr, isCst, loadS, partS, TK.agg, fieldAddrS, zeroS, storeS, setPart, splice, endS, resS, fieldS, cfgC, h1, h, hlenp]
theorem r5_First_c (get) {P L : SV} {c : Cfg} (hP : CfgP c P L) (part : Int) : callP (PCw ES) get n_r5_First [.agg (cfgC c P L), .int .i64 part] = some (.int .i64 (firstG c part)) := by
  refine callP_of (PCw_ex (fun M0 => ?_) rfl) (by simp [hP.npA])
  rw [b_r5_First]
  have h1 := fun get => r5_Fit_c get hP part
  simp only [cfgC] at h1
  unfold firstG
  cases hf : (fitG c && decide (inMany part c.parts.length)) with
  | false =>
    rw [hf] at h1
    simp [c_r5_First, evW_reg, evW_chkr, isCst, loadS, partS, TK.agg, fieldAddrS, zeroS, storeS, setPart, splice, endS, resS, fieldS, cfgC, h1]
  | true =>
    rw [hf] at h1
    simp only [Bool.and_eq_true, decide_eq_true_eq] at hf
    obtain ⟨hf, hp⟩ := hf
    have h2 := fit_facts hf
    have h3 := right_facts (fitG_spec.1 hf).1
    unfold inMany at hp
    have h4 : 0 ≤ part * c.span := Int.mul_nonneg hp.1 (by omega)
    have h5 : part * c.span ≤ 6 * 60000 := Int.mul_le_mul (by omega) (by omega) (by omega) (by omega)
    have w1 : IntKind.i64.wrap (part * c.span) = part * c.span := i64_in (by omega) (by omega)
    have w2 : IntKind.i64.wrap (c.listen + part * c.span) = c.listen + part * c.span := i64_in (by omega) (by omega)
    simp [c_r5_First, evW_reg, evW_chkr, isCst, loadS, partS, TK.agg, fieldAddrS, zeroS, storeS, setPart, splice, endS, resS, fieldS, cfgC, h1, w1, w2]
theorem l7_alive_ok : PCw ES n_l7_alive [] = some (.bool true) := PCw_closed 200 (by kernel_rfl)
@[simp] theorem l7_alive_c (get) : callP (PCw ES) get n_l7_alive [] = some (.bool true) := callP_of l7_alive_ok rfl
@[simp] theorem l7_num_c (get) (n : Int) : callP (PCw ES) get n_l7_num [.int .i64 n] = some (.int .i64 n) := by
  refine callP_of (PCw_ex (fun M => ?_) rfl) rfl
  rw [b_l7_num]
  simp [c_l7_num, evW_reg, evW_chkr, isCst, loadS, partS, TK.agg, fieldAddrS, zeroS, storeS, setPart, splice, endS, resS, fieldS]
set_option maxHeartbeats 4000000 in
theorem BoundsFits_walk (xs0 : List SV) (h0 : WT ES.P 8 T_api_Config xs0) : ∃ M', ICw ES n_l7_BoundsFits [mkV ES.P T_api_Config xs0] .empty = some (.bool true, M') := by
  obtain ⟨c, hc, _⟩ := cfg_of h0
  generalize mkV ES.P T_api_Config xs0 = y at hc ⊢
  obtain ⟨P, L, rfl, hP⟩ := hc
  rw [b_l7_BoundsFits]
  have h1 := fun get => bounds_Fits_c get hP
  have h2 := fun get => r5_Fits_c get hP
  have hlenp := hP.p.lenS ti_sl_api_Part
  have hlenl := hP.l.lenS ti_sl_api_Link
  simp only [cfgC] at h1 h2
  by_cases h3 : 20 < (c.parts.length : Int)
  · simp [c_l7_BoundsFits, evW_reg, evW_chkr, isCst, loadS, partS, TK.agg, fieldAddrS, zeroS, storeS, setPart, splice, endS, resS, fieldS, cfgC, h1, h2, hlenp, hlenl, h3]
  · by_cases h4 : 30 < (c.links.length : Int)
    · simp [c_l7_BoundsFits, evW_reg, evW_chkr, isCst, loadS, partS, TK.agg, fieldAddrS, zeroS, storeS, setPart, splice, endS, resS, fieldS, cfgC, h1, h2, hlenp, hlenl, h3, h4]
    · simp [c_l7_BoundsFits, evW_reg, evW_chkr, isCst, loadS, partS, TK.agg, fieldAddrS, zeroS, storeS, setPart, splice, endS, resS, fieldS, cfgC, h1, h2, hlenp, hlenl, h3, h4]
set_option maxHeartbeats 8000000 in
theorem BoundsTells_walk (xs0 xs1 : List SV) (h0 : WT ES.P 8 T_api_Config xs0) (h1 : WT ES.P 8 T_int xs1) : ∃ M', ICw ES n_l7_BoundsTells [mkV ES.P T_api_Config xs0, mkV ES.P T_int xs1] .empty = some (.bool true, M') := by
  obtain ⟨c, hc, _⟩ := cfg_of h0
  obtain ⟨part, _, e1, _⟩ := WT_int ti_int h1
  rw [e1]
  generalize mkV ES.P T_api_Config xs0 = y at hc ⊢
  obtain ⟨P, L, rfl, hP⟩ := hc
  rw [b_l7_BoundsTells]
  have k1 := fun get => bounds_Edge_c get hP
  have k2 := fun get => bounds_Near_c get hP
  have k3 := fun get => bounds_Slew_c get hP
  have k4 := fun get => bounds_Step_c get hP
  have k5 := fun get => bounds_Jump_c get hP
  have k6 := fun get => bounds_Tick_c get hP
  have k7 := fun get => bounds_Gone_c get hP
  have k8 := fun get => bounds_First_c get hP part
  have j1 := fun get => r5_Edge_c get hP
  have j2 := fun get => r5_Near_c get hP
  have j3 := fun get => r5_Slew_c get hP
  have j4 := fun get => r5_Step_c get hP
  have j5 := fun get => r5_Jump_c get hP
  have j6 := fun get => r5_Tick_c get hP
  have j7 := fun get => r5_Gone_c get hP
  have j8 := fun get => r5_First_c get hP part
  have ee : edgeG c = if rangedC c then val_Edge c else 0 := rfl
  rw [ee] at j1
  generalize (if rangedC c then val_Edge c else 0) = v1 at *
  generalize (if rangedC c then val_Near c else 0) = v2 at *
  generalize (if rangedC c then val_Slew c else 0) = v3 at *
  generalize (if rangedC c then val_Step c else 0) = v4 at *
  generalize (if rangedC c then val_Jump c else 0) = v5 at *
  generalize (if rangedC c then val_Tick c else 0) = v6 at *
  generalize (if rangedC c then val_Gone c else 0) = v7 at *
  have hlenp := hP.p.lenS ti_sl_api_Part
  have hlenl := hP.l.lenS ti_sl_api_Link
  simp only [cfgC] at k1 k2 k3 k4 k5 k6 k7 k8 j1 j2 j3 j4 j5 j6 j7 j8
  by_cases h3 : 20 < (c.parts.length : Int)
  · simp (maxSteps := 4000000) [c_l7_BoundsTells, evW_reg, evW_chkr, isCst, loadS, partS, TK.agg, fieldAddrS, zeroS, storeS, setPart, splice, endS, resS, fieldS, cfgC, hlenp, hlenl, h3]
  · by_cases h4 : 30 < (c.links.length : Int)
    · simp (maxSteps := 4000000) [c_l7_BoundsTells, evW_reg, evW_chkr, isCst, loadS, partS, TK.agg, fieldAddrS, zeroS, storeS, setPart, splice, endS, resS, fieldS, cfgC, hlenp, hlenl, h3, h4]
    · simp (maxSteps := 4000000) [c_l7_BoundsTells, evW_reg, evW_chkr, isCst, loadS, partS, TK.agg, fieldAddrS, zeroS, storeS, setPart, splice, endS, resS, fieldS, cfgC, hlenp, hlenl, h3, h4, k1, k2, k3, k4, k5, k6, k7, k8, j1, j2, j3, j4, j5, j6, j7, j8]

end Go.Proofs.YtbdliphlolajaaaGreatDoor
