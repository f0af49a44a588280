/-
  Walks of the seat's functions: Sa.
-/
import Derived.Test.YtjhlibdiojepaaaGreatDoorEbMa
import Derived.Test.YtjhlibdiojepaaaGreatDoorShMb
import Derived.Test.YtjhlibdiojepaaaGreatDoorLTk
import Derived.Test.YtjhlibdiojepaaaGreatDoorLzMh
set_option linter.unusedVariables false
set_option linter.unusedSimpArgs false
set_option maxRecDepth 100000
namespace Go.Proofs.YtjhlibdiojepaaaGreatDoor
open Go.Proofs.YtjhlibdiojepaaaGreatDoor.Sh
/-! steer.Rate and the document's. -/
def slowG (cycle jump off : Int) : Int × Int := if off < -jump ∨ jump < off then (0, off) else ((off * 1000000) / cycle, 0)
def rateG (c : Cfg) (off : Int) : Int × Int := if fitG c then slowG c.cycle (jumpN c) off else (0, 0)
theorem jump_le {c : Cfg} (h : InRange c) : 0 ≤ jumpN c ∧ jumpN c ≤ 3000000 := by
  have hn := h.nums
  have h1 := hn.e
  have h2 := hn.j
  unfold jumpN
  omega
theorem fitRC {c : Cfg} (h1 : InRange c) (h2 : laterN c = 0) : jumpN c * 1000000 ≤ c.rate * c.cycle := by
  have hw : windowsN c = 0 := by
    unfold laterN at h2
    apply Classical.byContradiction
    intro h
    rw [if_pos h] at h2
    exact h h2
  unfold windowsN at hw
  split at hw
  · omega
  split at hw
  · omega
  split at hw
  · omega
  split at hw
  · omega
  split at hw
  · omega
  omega
theorem steer_Slow_c (get) {cycle jump : Int} (h1 : 1 ≤ cycle ∧ cycle ≤ 1000000) (h2 : 0 ≤ jump ∧ jump ≤ 3000000) (off : Int) : callP (PCw ES) get n_steer_Slow [.int .i64 cycle, .int .i64 jump, .int .i64 off] = some (.tup [.int .i64 (slowG cycle jump off).1, .int .i64 (slowG cycle jump off).2]) := by
  refine callP_of (PCw_ex (fun M => ?_) rfl) (by simp)
  rw [b_steer_Slow]
  have w1 : IntKind.i64.wrap (-jump) = -jump := i64_in (by omega) (by omega)
  unfold slowG
  by_cases h : off < -jump
  · simp [c_steer_Slow, evW_reg, evW_chkr, isCst, loadS, partS, TK.agg, fieldAddrS, zeroS, storeS, setPart, splice, endS, resS, fieldS, w1, h]
  · by_cases h' : jump < off
    · simp [c_steer_Slow, evW_reg, evW_chkr, isCst, loadS, partS, TK.agg, fieldAddrS, zeroS, storeS, setPart, splice, endS, resS, fieldS, w1, h, h']
    · have w2 : IntKind.i64.wrap (off * 1000000) = off * 1000000 := i64_in (by omega) (by omega)
      have h3 := fun get => ticks_Floor_c get (a := off * 1000000) (b := cycle) ⟨by omega, by omega⟩
      have e : floorG (off * 1000000) cycle = (off * 1000000 / cycle, true) := by unfold floorG; rw [if_neg (by omega)]
      rw [e] at h3
      have ha := ediv_abs (a := off * 1000000) h1.1
      have w3 : IntKind.i64.wrap (off * 1000000 / cycle) = off * 1000000 / cycle := by
        rcases (show 0 ≤ off * 1000000 ∨ off * 1000000 < 0 by omega) with hh | hh
        · have := ha.1 hh; exact i64_in (by omega) (by omega)
        · have := ha.2 hh; exact i64_in (by omega) (by omega)
      simp [c_steer_Slow, evW_reg, evW_chkr, isCst, loadS, partS, TK.agg, fieldAddrS, zeroS, storeS, setPart, splice, endS, resS, fieldS, w1, h, h', w2, h3, convS, w3]
set_option maxHeartbeats 4000000 in
theorem steer_Rate_c (get) {P L : SV} {c : Cfg} (hP : CfgP c P L) (off : Int) : callP (PCw ES) get n_steer_Rate [.agg (cfgC c P L), .int .i64 off] = some (.tup [.int .i64 (rateG c off).1, .int .i64 (rateG c off).2]) := by
  refine callP_of (PCw_ex (fun M => ?_) rfl) (by simp [hP.npA])
  rw [b_steer_Rate]
  have h1 := fun get => bounds_Fits_c get hP
  simp only [cfgC] at h1
  unfold rateG fitG
  by_cases h : (fitsG c).1 = 0
  · have hf : fitG c = true := by simpa [fitG] using h
    obtain ⟨f1, f2, f3⟩ := fitG_spec.1 hf
    have hin := outN_zero f2
    have h2 := fun get => bounds_Reckon_c get hP hin
    have h3 := fun get => steer_Slow_c get (cycle := c.cycle) (jump := jumpN c) ⟨by have := hin.cy; omega, hin.cy.2⟩ (jump_le hin) off
    simp only [cfgC] at h2
    simp [c_steer_Rate, evW_reg, evW_chkr, isCst, loadS, partS, TK.agg, fieldAddrS, zeroS, storeS, setPart, splice, endS, resS, fieldS, cfgC, h1, h, h2, h3, numsC]
  · simp [c_steer_Rate, evW_reg, evW_chkr, isCst, loadS, partS, TK.agg, fieldAddrS, zeroS, storeS, setPart, splice, endS, resS, fieldS, cfgC, h1, h]
set_option maxHeartbeats 4000000 in
theorem r10_Rate_c (get) {P L : SV} {c : Cfg} (hP : CfgP c P L) (off : Int) : callP (PCw ES) get n_r10_Rate [.agg (cfgC c P L), .int .i64 off] = some (.tup [.int .i64 (rateG c off).1, .int .i64 (rateG c off).2]) := by
  refine callP_of (PCw_ex (fun M => ?_) rfl) (by simp [hP.npA])
  rw [b_r10_Rate]
  have h1 := fun get => r5_Fits_c get hP
  have h2 := fun get => r5_Jump_c get hP
  simp only [cfgC] at h1 h2
  unfold rateG fitG
  by_cases h : (fitsG c).1 = 0
  · have hf : fitG c = true := by simpa [fitG] using h
    obtain ⟨f1, f2, f3⟩ := fitG_spec.1 hf
    have hin := outN_zero f2
    have hrg : rangedC c = true := by simp [rangedC, f1, f2]
    simp only [hrg, if_true, val_Jump] at h2
    have hj := jump_le hin
    have hc := hin.cy
    have w1 : IntKind.i64.wrap (-jumpN c) = -jumpN c := i64_in (by omega) (by omega)
    unfold slowG
    by_cases h4 : off < -jumpN c
    · simp [c_r10_Rate, evW_reg, evW_chkr, isCst, loadS, partS, TK.agg, fieldAddrS, zeroS, storeS, setPart, splice, endS, resS, fieldS, cfgC, h1, h, h2, w1, h4]
    · by_cases h5 : jumpN c < off
      · simp [c_r10_Rate, evW_reg, evW_chkr, isCst, loadS, partS, TK.agg, fieldAddrS, zeroS, storeS, setPart, splice, endS, resS, fieldS, cfgC, h1, h, h2, w1, h4, h5]
      · have w2 : IntKind.i64.wrap (off * 1000000) = off * 1000000 := i64_in (by omega) (by omega)
        have h3 := fun get => r1_Floor_c get (a := off * 1000000) (b := c.cycle) ⟨by omega, by omega⟩
        have e : floorG (off * 1000000) c.cycle = (off * 1000000 / c.cycle, true) := by unfold floorG; rw [if_neg (by omega)]
        rw [e] at h3
        have ha := ediv_abs (a := off * 1000000) (b := c.cycle) (by omega)
        have w3 : IntKind.i64.wrap (off * 1000000 / c.cycle) = off * 1000000 / c.cycle := by
          rcases (show 0 ≤ off * 1000000 ∨ off * 1000000 < 0 by omega) with hh | hh
          · have := ha.1 hh; exact i64_in (by omega) (by omega)
          · have := ha.2 hh; exact i64_in (by omega) (by omega)
        have w4 : IntKind.i64.wrap c.cycle = c.cycle := i64_in (by omega) (by omega)
        simp [c_r10_Rate, evW_reg, evW_chkr, isCst, loadS, partS, TK.agg, fieldAddrS, zeroS, storeS, setPart, splice, endS, resS, fieldS, cfgC, h1, h, h2, w1, h4, h5, w2, h3, convS, w3, w4]
  · simp [c_r10_Rate, evW_reg, evW_chkr, isCst, loadS, partS, TK.agg, fieldAddrS, zeroS, storeS, setPart, splice, endS, resS, fieldS, cfgC, h1, h]

end Go.Proofs.YtjhlibdiojepaaaGreatDoor
