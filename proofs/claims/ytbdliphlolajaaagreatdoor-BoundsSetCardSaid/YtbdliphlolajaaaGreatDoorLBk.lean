/-
  Walks of the seat's functions: Bk.
-/
import Derived.Test.YtbdliphlolajaaaGreatDoorEb2
import Derived.Test.YtbdliphlolajaaaGreatDoorShSv
import Derived.Test.YtbdliphlolajaaaGreatDoorLBj
set_option linter.unusedVariables false
set_option linter.unusedSimpArgs false
set_option maxRecDepth 100000
namespace Go.Proofs.YtbdliphlolajaaaGreatDoor
open Go.Proofs.YtbdliphlolajaaaGreatDoor.Sh
/-! The document's Fits, Fit, First. -/
set_option maxHeartbeats 4000000 in
theorem r5_Fits_c (get) {P L : SV} {c : Cfg} (hP : CfgP c P L) : callP (PCw ES) get n_r5_Fits [.agg (cfgC c P L)] = some (.tup [.int .i64 (fitsG c).1, .int .i64 (fitsG c).2]) := by
  refine callP_of (PCw_ex (fun M0 => ?_) rfl) (by simp [hP.npA])
  rw [b_r5_Fits]
  have h1 := fun get => r5_Check_c get hP
  have h2 := fun get => r5_out_c get hP
  simp only [cfgC] at h1 h2
  unfold fitsG
  by_cases h : (checkG c).1 = 0
  · have hr : rightC c = true := by simpa [rightC] using h
    by_cases ho : outN c = 0
    · have h3 := fun get => r5_fits_c get hP hr (outN_zero ho)
      simp only [cfgC] at h3
      by_cases hl : laterN c = 0
      · simp [c_r5_Fits, evW_reg, evW_chkr, isCst, loadS, partS, TK.agg, fieldAddrS, zeroS, storeS, setPart, splice, endS, resS, fieldS, cfgC, h1, h2, h3, h, ho, hl]
      · simp [c_r5_Fits, evW_reg, evW_chkr, isCst, loadS, partS, TK.agg, fieldAddrS, zeroS, storeS, setPart, splice, endS, resS, fieldS, cfgC, h1, h2, h3, h, ho, hl]
    · simp [c_r5_Fits, evW_reg, evW_chkr, isCst, loadS, partS, TK.agg, fieldAddrS, zeroS, storeS, setPart, splice, endS, resS, fieldS, cfgC, h1, h2, h, ho]
  · simp [c_r5_Fits, evW_reg, evW_chkr, isCst, loadS, partS, TK.agg, fieldAddrS, zeroS, storeS, setPart, splice, endS, resS, fieldS, cfgC, h1, h]
theorem r5_Fit_c (get) {P L : SV} {c : Cfg} (hP : CfgP c P L) (part : Int) : callP (PCw ES) get n_r5_Fit [.agg (cfgC c P L), .int .i64 part] = some (.bool (fitG c && decide (inMany part c.parts.length))) := by
  refine callP_of (PCw_ex (fun M0 => ?_) rfl) (by simp [hP.npA])
  rw [b_r5_Fit]
  have h1 := fun get => r5_Fits_c get hP
  have hlenp := hP.p.lenS ti_sl_api_Part
  simp only [cfgC] at h1
  unfold fitG
  by_cases h : (fitsG c).1 = 0
  · simp [c_r5_Fit, evW_reg, evW_chkr, isCst, loadS, partS, TK.agg, fieldAddrS, zeroS, storeS, setPart, splice, endS, resS, fieldS, cfgC, h1, h, hlenp]
  · simp [c_r5_Fit, evW_reg, evW_chkr, isCst, loadS, partS, TK.agg, fieldAddrS, zeroS, storeS, setPart, splice, endS, resS, fieldS, cfgC, h1, h, hlenp]
theorem r5_First_c (get) {P L : SV} {c : Cfg} (hP : CfgP c P L) (part : Int) : callP (PCw ES) get n_r5_First [.agg (cfgC c P L), .int .i64 part] = some (.int .i64 (firstG c part)) := by
  refine callP_of (PCw_ex (fun M0 => ?_) rfl) (by simp [hP.npA])
  rw [b_r5_First]
  have h1 := fun get => r5_Fit_c get hP part
  simp only [cfgC] at h1
  unfold firstG
  cases hf : (fitG c && decide (inMany part c.parts.length)) with
  | false =>
    rw [hf] at h1
    simp [c_r5_First, evW_reg, evW_chkr, isCst, loadS, partS, TK.agg, fieldAddrS, zeroS, storeS, setPart, splice, endS, resS, fieldS, cfgC, h1]
  | true =>
    rw [hf] at h1
    simp only [Bool.and_eq_true, decide_eq_true_eq] at hf
    obtain ⟨hf, hp⟩ := hf
    have h2 := fit_facts hf
    have h3 := right_facts (fitG_spec.1 hf).1
    unfold inMany at hp
    have h4 : 0 ≤ part * c.span := Int.mul_nonneg hp.1 (by omega)
    have h5 : part * c.span ≤ 6 * 60000 := Int.mul_le_mul (by omega) (by omega) (by omega) (by omega)
    have w1 : IntKind.i64.wrap (part * c.span) = part * c.span := i64_in (by omega) (by omega)
    have w2 : IntKind.i64.wrap (c.listen + part * c.span) = c.listen + part * c.span := i64_in (by omega) (by omega)
    simp [c_r5_First, evW_reg, evW_chkr, isCst, loadS, partS, TK.agg, fieldAddrS, zeroS, storeS, setPart, splice, endS, resS, fieldS, cfgC, h1, w1, w2]

end Go.Proofs.YtbdliphlolajaaaGreatDoor
