/-
  Walks of the seat's functions: Bd.
-/
import Derived.Test.YtljjmdcdlcefmaaGreatDoorEbMa
import Derived.Test.YtljjmdcdlcefmaaGreatDoorShMb
import Derived.Test.YtljjmdcdlcefmaaGreatDoorLzMd
set_option linter.unusedVariables false
set_option linter.unusedSimpArgs false
set_option maxRecDepth 100000
namespace Go.Proofs.YtljjmdcdlcefmaaGreatDoor
open Go.Proofs.YtljjmdcdlcefmaaGreatDoor.Sh
/-! The document's bounds: what is in range, Edge. -/
def upM (n : Int) : Int := (n + 999999) / 1000000
theorem tdivM {n : Int} (h : 0 ≤ n) : n.tdiv 1000000 = n / 1000000 := Int.tdiv_eq_ediv_of_nonneg h
theorem tmodM {n : Int} (h : 0 ≤ n) : n.tmod 1000000 = n % 1000000 := Int.tmod_eq_emod_of_nonneg h
theorem r1_Ceil_c (get) {n : Int} (h0 : 0 ≤ n) (h1 : n ≤ 9000000000000000000) : callP (PCw ES) get n_r1_Ceil [.int .i64 n, .int .i64 1000000] = some (.tup [.int .i64 (upM n), .bool true]) := by
  refine callP_of (PCw_ex (fun M0 => ?_) rfl) (by simp)
  rw [b_r1_Ceil]
  have hd := tdivM h0
  have hm := tmodM h0
  have hw : IntKind.i64.wrap (n / 1000000) = n / 1000000 := i64_in (by omega) (by omega)
  have hw1 : IntKind.i64.wrap (n / 1000000 + 1) = n / 1000000 + 1 := i64_in (by omega) (by omega)
  by_cases h : 0 < n % 1000000
  · have e : upM n = n / 1000000 + 1 := by unfold upM; omega
    simp [c_r1_Ceil, evW_reg, evW_chkr, evW_chfr, isCst, loadS, partS, TK.agg, fieldAddrS, zeroS, storeS, setPart, splice, endS, resS, fieldS, hd, hm, hw, hw1, h, e]
  · have e : upM n = n / 1000000 := by unfold upM; omega
    simp [c_r1_Ceil, evW_reg, evW_chkr, evW_chfr, isCst, loadS, partS, TK.agg, fieldAddrS, zeroS, storeS, setPart, splice, endS, resS, fieldS, hd, hm, hw, h, e]
theorem r5_up_c (get) {n : Int} (h0 : 0 ≤ n) (h1 : n ≤ 9000000000000000000) : callP (PCw ES) get n_r5_up [.int .i64 n] = some (.int .i64 (upM n)) := by
  refine callP_of (PCw_ex (fun M0 => ?_) rfl) (by simp)
  rw [b_r5_up]
  have h := fun get => r1_Ceil_c get h0 h1
  simp [c_r5_up, evW_reg, evW_chkr, evW_chfr, isCst, loadS, partS, TK.agg, fieldAddrS, zeroS, storeS, setPart, splice, endS, resS, fieldS, h]
/-- The first number that is out of range; 0: none. -/
def outN (c : Cfg) : Int :=
  if c.cycle < 1000 ∨ 1000000 < c.cycle then 1 else if c.drift < 0 ∨ 500 < c.drift then 2 else if c.rate < 0 ∨ 400000 < c.rate then 3 else if c.ages < 1 ∨ 200 < c.ages then 4 else if c.lost < 0 ∨ 20 < c.lost then 5 else 0
set_option maxHeartbeats 4000000 in
theorem r5_out_c (get) {P L : SV} {c : Cfg} (hP : CfgP c P L) : callP (PCw ES) get n_r5_out [.agg (cfgC c P L)] = some (.int .i64 (outN c)) := by
  refine callP_of (PCw_ex (fun M0 => ?_) rfl) (by simp [hP.npA])
  rw [b_r5_out]
  unfold outN
  by_cases h1 : c.cycle < 1000
  · simp [c_r5_out, evW_reg, evW_chkr, evW_chfr, isCst, loadS, partS, TK.agg, fieldAddrS, zeroS, storeS, setPart, splice, endS, resS, fieldS, cfgC, h1]
  by_cases h2 : 1000000 < c.cycle
  · simp [c_r5_out, evW_reg, evW_chkr, evW_chfr, isCst, loadS, partS, TK.agg, fieldAddrS, zeroS, storeS, setPart, splice, endS, resS, fieldS, cfgC, h1, h2]
  by_cases h3 : c.drift < 0
  · simp [c_r5_out, evW_reg, evW_chkr, evW_chfr, isCst, loadS, partS, TK.agg, fieldAddrS, zeroS, storeS, setPart, splice, endS, resS, fieldS, cfgC, h1, h2, h3]
  by_cases h4 : 500 < c.drift
  · simp [c_r5_out, evW_reg, evW_chkr, evW_chfr, isCst, loadS, partS, TK.agg, fieldAddrS, zeroS, storeS, setPart, splice, endS, resS, fieldS, cfgC, h1, h2, h3, h4]
  by_cases h5 : c.rate < 0
  · simp [c_r5_out, evW_reg, evW_chkr, evW_chfr, isCst, loadS, partS, TK.agg, fieldAddrS, zeroS, storeS, setPart, splice, endS, resS, fieldS, cfgC, h1, h2, h3, h4, h5]
  by_cases h6 : 400000 < c.rate
  · simp [c_r5_out, evW_reg, evW_chkr, evW_chfr, isCst, loadS, partS, TK.agg, fieldAddrS, zeroS, storeS, setPart, splice, endS, resS, fieldS, cfgC, h1, h2, h3, h4, h5, h6]
  by_cases h7 : c.ages < 1
  · simp [c_r5_out, evW_reg, evW_chkr, evW_chfr, isCst, loadS, partS, TK.agg, fieldAddrS, zeroS, storeS, setPart, splice, endS, resS, fieldS, cfgC, h1, h2, h3, h4, h5, h6, h7]
  by_cases h8 : 200 < c.ages
  · simp [c_r5_out, evW_reg, evW_chkr, evW_chfr, isCst, loadS, partS, TK.agg, fieldAddrS, zeroS, storeS, setPart, splice, endS, resS, fieldS, cfgC, h1, h2, h3, h4, h5, h6, h7, h8]
  by_cases h9 : c.lost < 0
  · simp [c_r5_out, evW_reg, evW_chkr, evW_chfr, isCst, loadS, partS, TK.agg, fieldAddrS, zeroS, storeS, setPart, splice, endS, resS, fieldS, cfgC, h1, h2, h3, h4, h5, h6, h7, h8, h9]
  by_cases h10 : 20 < c.lost
  · simp [c_r5_out, evW_reg, evW_chkr, evW_chfr, isCst, loadS, partS, TK.agg, fieldAddrS, zeroS, storeS, setPart, splice, endS, resS, fieldS, cfgC, h1, h2, h3, h4, h5, h6, h7, h8, h9, h10]
  simp [c_r5_out, evW_reg, evW_chkr, evW_chfr, isCst, loadS, partS, TK.agg, fieldAddrS, zeroS, storeS, setPart, splice, endS, resS, fieldS, cfgC, h1, h2, h3, h4, h5, h6, h7, h8, h9, h10]
def rangedC (c : Cfg) : Bool := rightC c && decide (outN c = 0)
def edgeN (c : Cfg) : Int := upM (2 * c.drift * c.cycle) + 1
def edgeG (c : Cfg) : Int := if rangedC c then edgeN c else 0
theorem checkG_parts {c : Cfg} (h : rightC c = true) : inMany 0 c.parts.length := by
  have h1 := checkErr_none (checkG_zero (by simpa [rightC] using h))
  have h2 := h1.1
  unfold partsErr at h2
  split at h2
  · cases h2
  · unfold inMany; omega
structure InRange (c : Cfg) : Prop where
  cy : 1000 ≤ c.cycle ∧ c.cycle ≤ 1000000
  dr : 0 ≤ c.drift ∧ c.drift ≤ 500
  ra : 0 ≤ c.rate ∧ c.rate ≤ 400000
  ag : 1 ≤ c.ages ∧ c.ages ≤ 200
  lo : 0 ≤ c.lost ∧ c.lost ≤ 20
theorem outN_zero {c : Cfg} (h : outN c = 0) : InRange c := by
  unfold outN at h
  split at h
  · omega
  split at h
  · omega
  split at h
  · omega
  split at h
  · omega
  split at h
  · omega
  exact ⟨by omega, by omega, by omega, by omega, by omega⟩
theorem InRange.dc {c : Cfg} (h : InRange c) : 0 ≤ c.drift * c.cycle ∧ c.drift * c.cycle ≤ 500000000 := by
  obtain ⟨a1, a2⟩ := h.cy
  obtain ⟨b1, b2⟩ := h.dr
  constructor
  · exact Int.mul_nonneg b1 (by omega)
  · have := Int.mul_le_mul b2 a2 (by omega) (by omega)
    omega
theorem InRange.dc2 {c : Cfg} (h : InRange c) : 0 ≤ 2 * c.drift * c.cycle ∧ 2 * c.drift * c.cycle ≤ 1000000000 := by
  have := h.dc
  rw [Int.mul_assoc]
  omega
theorem r5_ranged_c (get) {P L : SV} {c : Cfg} (hP : CfgP c P L) : callP (PCw ES) get n_r5_ranged [.agg (cfgC c P L)] = some (.bool (rangedC c)) := by
  refine callP_of (PCw_ex (fun M0 => ?_) rfl) (by simp [hP.npA])
  rw [b_r5_ranged]
  have h1 := fun get => r5_Good_c get hP 0
  have h2 := fun get => r5_out_c get hP
  simp only [cfgC] at h1 h2
  unfold rangedC
  cases hr : rightC c with
  | false =>
    rw [hr] at h1
    simp [c_r5_ranged, evW_reg, evW_chkr, evW_chfr, isCst, loadS, partS, TK.agg, fieldAddrS, zeroS, storeS, setPart, splice, endS, resS, fieldS, cfgC, h1, h2]
  | true =>
    have h3 := checkG_parts hr
    rw [hr] at h1
    simp [c_r5_ranged, evW_reg, evW_chkr, evW_chfr, isCst, loadS, partS, TK.agg, fieldAddrS, zeroS, storeS, setPart, splice, endS, resS, fieldS, cfgC, h1, h2, h3]
theorem r5_edge_c (get) {P L : SV} {c : Cfg} (hP : CfgP c P L) (h : InRange c) : callP (PCw ES) get n_r5_edge [.agg (cfgC c P L)] = some (.int .i64 (edgeN c)) := by
  refine callP_of (PCw_ex (fun M0 => ?_) rfl) (by simp [hP.npA])
  rw [b_r5_edge]
  have h2 := h.dc2
  have hu := fun get => r5_up_c get h2.1 (by omega)
  have hd := h.dr
  have hw : IntKind.i64.wrap (2 * c.drift) = 2 * c.drift := i64_in (by omega) (by omega)
  have hw2 : IntKind.i64.wrap (2 * c.drift * c.cycle) = 2 * c.drift * c.cycle := i64_in (by omega) (by omega)
  have hw3 : IntKind.i64.wrap (upM (2 * c.drift * c.cycle) + 1) = upM (2 * c.drift * c.cycle) + 1 := by unfold upM; exact i64_in (by omega) (by omega)
  simp [c_r5_edge, evW_reg, evW_chkr, evW_chfr, isCst, loadS, partS, TK.agg, fieldAddrS, zeroS, storeS, setPart, splice, endS, resS, fieldS, cfgC, hw, hw2, hw3, hu, edgeN]
theorem r5_Edge_c (get) {P L : SV} {c : Cfg} (hP : CfgP c P L) : callP (PCw ES) get n_r5_Edge [.agg (cfgC c P L)] = some (.int .i64 (edgeG c)) := by
  refine callP_of (PCw_ex (fun M0 => ?_) rfl) (by simp [hP.npA])
  rw [b_r5_Edge]
  have h1 := fun get => r5_ranged_c get hP
  simp only [cfgC] at h1
  unfold edgeG
  cases hr : rangedC c with
  | false =>
    rw [hr] at h1
    simp [c_r5_Edge, evW_reg, evW_chkr, evW_chfr, isCst, loadS, partS, TK.agg, fieldAddrS, zeroS, storeS, setPart, splice, endS, resS, fieldS, cfgC, h1]
  | true =>
    rw [hr] at h1
    have hin : InRange c := outN_zero (by simp [rangedC] at hr; exact hr.2)
    have h2 := fun get => r5_edge_c get hP hin
    simp only [cfgC] at h2
    simp [c_r5_Edge, evW_reg, evW_chkr, evW_chfr, isCst, loadS, partS, TK.agg, fieldAddrS, zeroS, storeS, setPart, splice, endS, resS, fieldS, cfgC, h1, h2]

end Go.Proofs.YtljjmdcdlcefmaaGreatDoor
