/-
  Walks of the seat's functions: Sb.
-/
import Derived.Test.YtjhlibdiojepaaaGreatDoorEbMa
import Derived.Test.YtjhlibdiojepaaaGreatDoorShMb
import Derived.Test.YtjhlibdiojepaaaGreatDoorLSa
import Derived.Test.YtjhlibdiojepaaaGreatDoorLBl
import Derived.Test.YtjhlibdiojepaaaGreatDoorLzMi
import Derived.Test.YtjhlibdiojepaaaGreatDoorLBn
set_option linter.unusedVariables false
set_option linter.unusedSimpArgs false
set_option maxRecDepth 100000
namespace Go.Proofs.YtjhlibdiojepaaaGreatDoor
open Go.Proofs.YtjhlibdiojepaaaGreatDoor.Sh
/-! The laws SteerRates, SteerRaw, SteerClamps, SteerMeets. -/
theorem l16_alive_ok : PCw ES n_l16_alive [] = some (.bool true) := PCw_closed 200 (by kernel_rfl)
@[simp] theorem l16_alive_c (get) : callP (PCw ES) get n_l16_alive [] = some (.bool true) := callP_of l16_alive_ok rfl
set_option maxHeartbeats 4000000 in
theorem SteerRates_walk (xs0 xs1 : List SV) (h0 : WT ES.P 8 T_int xs0) (h1 : WT ES.P 8 T_int64 xs1) : ∃ M', ICw ES n_l16_SteerRates [mkV ES.P T_int xs0, mkV ES.P T_int64 xs1] .empty = some (.bool true, M') := by
  obtain ⟨n, _, e0, _⟩ := WT_int ti_int h0
  obtain ⟨off, _, e1, _⟩ := WT_int ti_int64 h1
  rw [e0, e1]
  obtain ⟨P, L, hm, hP⟩ := Made_c n
  rw [b_l16_SteerRates]
  have k1 := fun get => steer_Rate_c get hP off
  have k2 := fun get => r10_Rate_c get hP off
  simp only [cfgC] at hm k1 k2
  simp (maxSteps := 4000000) [c_l16_SteerRates, evW_reg, evW_chkr, isCst, loadS, partS, TK.agg, fieldAddrS, zeroS, storeS, setPart, splice, endS, resS, fieldS, cfgC, hm, k1, k2, Nat.add_assoc]
set_option maxHeartbeats 4000000 in
theorem SteerRaw_walk (xs0 xs1 : List SV) (h0 : WT ES.P 8 T_api_Config xs0) (h1 : WT ES.P 8 T_int64 xs1) : ∃ M', ICw ES n_l16_SteerRaw [mkV ES.P T_api_Config xs0, mkV ES.P T_int64 xs1] .empty = some (.bool true, M') := by
  obtain ⟨c, hc, _⟩ := cfg_of h0
  obtain ⟨off, _, e1, _⟩ := WT_int ti_int64 h1
  rw [e1]
  generalize mkV ES.P T_api_Config xs0 = y at hc ⊢
  obtain ⟨P, L, rfl, hP⟩ := hc
  rw [b_l16_SteerRaw]
  have k1 := fun get => steer_Rate_c get hP off
  have k2 := fun get => r10_Rate_c get hP off
  have hlenp := hP.p.lenS ti_sl_api_Part
  have hlenl := hP.l.lenS ti_sl_api_Link
  simp only [cfgC] at k1 k2
  by_cases h3 : 20 < (c.parts.length : Int)
  · simp (maxSteps := 4000000) [c_l16_SteerRaw, evW_reg, evW_chkr, isCst, loadS, partS, TK.agg, fieldAddrS, zeroS, storeS, setPart, splice, endS, resS, fieldS, cfgC, hlenp, hlenl, h3]
  · by_cases h4 : 30 < (c.links.length : Int)
    · simp (maxSteps := 4000000) [c_l16_SteerRaw, evW_reg, evW_chkr, isCst, loadS, partS, TK.agg, fieldAddrS, zeroS, storeS, setPart, splice, endS, resS, fieldS, cfgC, hlenp, hlenl, h3, h4]
    · simp (maxSteps := 4000000) [c_l16_SteerRaw, evW_reg, evW_chkr, isCst, loadS, partS, TK.agg, fieldAddrS, zeroS, storeS, setPart, splice, endS, resS, fieldS, cfgC, hlenp, hlenl, h3, h4, k1, k2]
set_option maxHeartbeats 4000000 in
theorem SteerClamps_walk (xs0 xs1 : List SV) (h0 : WT ES.P 8 T_int xs0) (h1 : WT ES.P 8 T_int64 xs1) : ∃ M', ICw ES n_l16_SteerClamps [mkV ES.P T_int xs0, mkV ES.P T_int64 xs1] .empty = some (.bool true, M') := by
  obtain ⟨n, _, e0, _⟩ := WT_int ti_int h0
  obtain ⟨off, _, e1, _⟩ := WT_int ti_int64 h1
  rw [e0, e1]
  obtain ⟨P, L, hm, hP⟩ := Made_c n
  rw [b_l16_SteerClamps]
  have hr := made_ranged n
  have hfit := made_fit n
  have hj := made_jump n
  obtain ⟨m, m1, _, m3, _⟩ := made_num' n
  have hcy : 20000 ≤ (madeC n).cycle ∧ (madeC n).cycle ≤ 27000 := by omega
  have hj2 : jumpN (madeC n) * 1000000 ≤ 300000 * (madeC n).cycle := by
    have := (fitG_spec.1 hfit).2.2
    have h2 := fitRC (outN_zero (made_inRange n)) this
    rw [m3] at h2
    exact h2
  generalize madeC n = c at *
  have k1 := fun get => steer_Rate_c get hP off
  have k2 := fun get => bounds_Jump_c get hP
  simp only [hr, if_true, val_Jump] at k2
  simp only [rateG, hfit, if_true] at k1
  simp only [cfgC] at hm k1 k2
  have w1 : IntKind.i64.wrap (-c.rate) = -c.rate := i64_in (by omega) (by omega)
  have r1 : ¬ 0 < -c.rate := by omega
  have r2 : ¬ c.rate < 0 := by omega
  have w2 : IntKind.i64.wrap (-jumpN c) = -jumpN c := i64_in (by omega) (by omega)
  unfold slowG at k1
  by_cases hs : off < -jumpN c ∨ jumpN c < off
  · rw [if_pos hs] at k1
    have hne : off ≠ 0 := by omega
    by_cases hs1 : off < -jumpN c
    · have x1 : ¬ -jumpN c ≤ off := by omega
      simp (maxSteps := 4000000) [c_l16_SteerClamps, evW_reg, evW_chkr, isCst, loadS, partS, TK.agg, fieldAddrS, zeroS, storeS, setPart, splice, endS, resS, fieldS, cfgC, hm, k1, k2, Nat.add_assoc, w1, w2, r1, r2, x1, hne]
    · have x1 : -jumpN c ≤ off := by omega
      have x2 : ¬ off ≤ jumpN c := by omega
      simp (maxSteps := 4000000) [c_l16_SteerClamps, evW_reg, evW_chkr, isCst, loadS, partS, TK.agg, fieldAddrS, zeroS, storeS, setPart, splice, endS, resS, fieldS, cfgC, hm, k1, k2, Nat.add_assoc, w1, w2, r1, r2, x1, x2, hne]
  · rw [if_neg hs] at k1
    have q1 : -300000 ≤ off * 1000000 / c.cycle := by
      rw [Int.le_ediv_iff_mul_le (by omega)]
      omega
    have q2 : off * 1000000 / c.cycle ≤ 300000 := by
      have : off * 1000000 / c.cycle < 300001 := by
        rw [Int.ediv_lt_iff_lt_mul (by omega)]
        omega
      omega
    have x1 : -jumpN c ≤ off := by omega
    have x2 : off ≤ jumpN c := by omega
    have y1 : ¬ off * 1000000 / c.cycle < -c.rate := by omega
    have y2 : ¬ c.rate < off * 1000000 / c.cycle := by omega
    by_cases hz : off * 1000000 / c.cycle = 0
    · simp (maxSteps := 4000000) [c_l16_SteerClamps, evW_reg, evW_chkr, isCst, loadS, partS, TK.agg, fieldAddrS, zeroS, storeS, setPart, splice, endS, resS, fieldS, cfgC, hm, k1, k2, Nat.add_assoc, w1, w2, r1, r2, x1, x2, hz]
    · simp (maxSteps := 4000000) [c_l16_SteerClamps, evW_reg, evW_chkr, isCst, loadS, partS, TK.agg, fieldAddrS, zeroS, storeS, setPart, splice, endS, resS, fieldS, cfgC, hm, k1, k2, Nat.add_assoc, w1, w2, r1, r2, x1, x2, y1, y2, hz]
set_option maxHeartbeats 4000000 in
theorem SteerMeets_walk (xs0 xs1 : List SV) (h0 : WT ES.P 8 T_int xs0) (h1 : WT ES.P 8 T_int16 xs1) : ∃ M', ICw ES n_l16_SteerMeets [mkV ES.P T_int xs0, mkV ES.P T_int16 xs1] .empty = some (.bool true, M') := by
  obtain ⟨n, _, e0, _⟩ := WT_int ti_int h0
  obtain ⟨late, _, e1, hl⟩ := WT_int ti_int16 h1
  rw [e0, e1]
  obtain ⟨P, L, hm, hP⟩ := Made_c n
  rw [b_l16_SteerMeets]
  have hl : -32768 ≤ late ∧ late ≤ 32767 := by
    simp [Lit.wf, IntKind.min, IntKind.max, IntKind.bits, IntKind.signed] at hl
    omega
  have hr := made_ranged n
  have hfit := made_fit n
  have hj := made_jump n
  obtain ⟨m, m1, _, m3, _⟩ := made_num' n
  have hcy : 20000 ≤ (madeC n).cycle ∧ (madeC n).cycle ≤ 27000 := by omega
  generalize madeC n = c at *
  have ht : -jumpN c ≤ late.tmod (jumpN c + 1) ∧ late.tmod (jumpN c + 1) ≤ jumpN c := by
    have h1 := Int.tmod_lt_of_pos late (show 0 < jumpN c + 1 by omega)
    have h2 := Int.lt_tmod_of_pos late (show 0 < jumpN c + 1 by omega)
    omega
  generalize hoff : late.tmod (jumpN c + 1) = off at ht
  have k1 := fun get => steer_Rate_c get hP off
  have k2 := fun get => bounds_Jump_c get hP
  simp only [hr, if_true, val_Jump] at k2
  simp only [rateG, hfit, if_true, slowG] at k1
  simp only [if_neg (show ¬ (off < -jumpN c ∨ jumpN c < off) by omega)] at k1
  simp only [cfgC] at hm k1 k2
  have hb : off * 1000000 / c.cycle * c.cycle ≤ off * 1000000 := Int.ediv_mul_le _ (by omega)
  have hb2 : off * 1000000 < (off * 1000000 / c.cycle + 1) * c.cycle := Int.lt_ediv_add_one_mul_self _ (by omega)
  have hb3 : (off * 1000000 / c.cycle + 1) * c.cycle = off * 1000000 / c.cycle * c.cycle + c.cycle := by rw [Int.add_mul]; omega
  generalize off * 1000000 / c.cycle = q at *
  have w1 : IntKind.i64.wrap late = late := i64_in (by omega) (by omega)
  have w2 : IntKind.i64.wrap (jumpN c + 1) = jumpN c + 1 := i64_in (by omega) (by omega)
  have w3 : IntKind.i64.wrap (q * c.cycle) = q * c.cycle := i64_in (by omega) (by omega)
  have w4 : IntKind.i64.wrap (off * 1000000) = off * 1000000 := i64_in (by omega) (by omega)
  have w5 : IntKind.i64.wrap (q * c.cycle - off * 1000000) = q * c.cycle - off * 1000000 := i64_in (by omega) (by omega)
  have w6 : IntKind.i64.wrap (-c.cycle) = -c.cycle := i64_in (by omega) (by omega)
  have w7 : ∀ x : Int, -3000000 ≤ x → x ≤ 3000000 → IntKind.i64.wrap x = x := fun x _ _ => i64_in (by omega) (by omega)
  have hz : jumpN c + 1 ≠ 0 := by omega
  have y1 : q * c.cycle - off * 1000000 ≤ 0 := by omega
  have y2 : -c.cycle < q * c.cycle - off * 1000000 := by omega
  have w8 : IntKind.i64.wrap c.cycle = c.cycle := i64_in (by omega) (by omega)
  have hq : -9000000000000000000 ≤ q ∧ q ≤ 9000000000000000000 := by
    constructor
    · apply Classical.byContradiction
      intro hh
      have := Int.mul_le_mul_of_nonneg_right (show q ≤ -9000000000000000000 by omega) (show 0 ≤ c.cycle by omega)
      omega
    · apply Classical.byContradiction
      intro hh
      have := Int.mul_le_mul_of_nonneg_right (show 9000000000000000000 ≤ q by omega) (show 0 ≤ c.cycle by omega)
      omega
  have w9 : IntKind.i64.wrap q = q := i64_in (by omega) (by omega)
  simp (maxSteps := 4000000) [c_l16_SteerMeets, evW_reg, evW_chkr, isCst, loadS, partS, TK.agg, fieldAddrS, zeroS, storeS, setPart, splice, endS, resS, fieldS, cfgC, hm, k1, k2, Nat.add_assoc, w1, w2, w3, w4, w5, w6, w8, w9, hz, hoff, y1, y2, convS]

end Go.Proofs.YtjhlibdiojepaaaGreatDoor
