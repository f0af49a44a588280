/-
  Walks of the seat's functions: Pn.
-/
import Derived.Test.YtljjmdcdlcefmaaGreatDoorEbMa
import Derived.Test.YtljjmdcdlcefmaaGreatDoorShMb
import Derived.Test.YtljjmdcdlcefmaaGreatDoorLPm
set_option linter.unusedVariables false
set_option linter.unusedSimpArgs false
set_option maxRecDepth 100000
namespace Go.Proofs.YtljjmdcdlcefmaaGreatDoor
open Go.Proofs.YtljjmdcdlcefmaaGreatDoor.Sh
/-! plan.parts. -/
theorem partBad_iff (p : Part) : partBad p = (decide (p.nodes < 1) || decide (12 < p.nodes) || decide (p.faults < 0) || decide (3 < p.faults) || decide (p.nodes < 3 * p.faults + 1)) := by
  simp [partBad, Bool.or_assoc]
set_option maxHeartbeats 4000000 in
theorem plan_parts_ok {y : SV} {c : Cfg} (hc : CfgR y c) : PCw ES n_plan_parts [y] = some (errO (partsErr c)) := by
  obtain ⟨P, L, rfl, hP⟩ := hc
  refine PCw_ex (fun M0 => ?_) (errO_pv _)
  rw [b_plan_parts]
  have hlen := hP.p.lenS ti_sl_api_Part
  by_cases h1 : c.parts.length < 1
  · have h1' : (c.parts.length : Int) < 1 := by omega
    have e : partsErr c = some (7, 0) := by simp [partsErr, h1]
    simp [c_plan_parts, evW_reg, evW_chkr, evW_chfr, isCst, loadS, partS, TK.agg, fieldAddrS, zeroS, storeS, setPart, splice, endS, resS, fieldS, cfgC, hlen, h1, h1', e, errO]
  by_cases h2 : 6 < c.parts.length
  · have h2' : 6 < (c.parts.length : Int) := by omega
    have h1' : ¬ (c.parts.length : Int) < 1 := by omega
    have e : partsErr c = some (7, 0) := by simp [partsErr, h2]
    simp [c_plan_parts, evW_reg, evW_chkr, evW_chfr, isCst, loadS, partS, TK.agg, fieldAddrS, zeroS, storeS, setPart, splice, endS, resS, fieldS, cfgC, hlen, h1, h1', h2, h2', e, errO]
  have h1' : ¬ (c.parts.length : Int) < 1 := by omega
  have h2' : ¬ 6 < (c.parts.length : Int) := by omega
  obtain ⟨r, g1, M', g2⟩ := loop_find (E := ES) (me := n_plan_parts) (B := c_plan_parts_B0) (len := c.parts.length) (T := fun j => h_plan_parts_0 P (.int .i64 c.parts.length) (.int .i64 j)) (I := fun _ _ => True)
    (p := fun j => (c.parts[j]?.map partBad).getD false)
    (Q := fun o r => ∃ M', r = match o with
      | some j => (.ret, ⟨(h_plan_parts_0 .bad .bad .bad).set 2 (errSV 8 j), M'⟩)
      | none => (.exit 0, ⟨(h_plan_parts_0 P (.int .i64 c.parts.length) (.int .i64 c.parts.length)).set 20 (.bool false), M'⟩))
    (fun j M hj _ hpj => by
      have ha := Parts.at hP.p hj
      have hw : IntKind.i64.wrap ((j : Int) + 1) = (j : Int) + 1 := i64_in (by omega) (by omega)
      simp [hj, partBad_iff] at hpj
      obtain ⟨⟨⟨⟨q1, q2⟩, q3⟩, q4⟩, q5⟩ := hpj
      have w1 : IntKind.i64.wrap (3 * c.parts[j].faults) = 3 * c.parts[j].faults := i64_in (by omega) (by omega)
      have w2 : IntKind.i64.wrap (3 * c.parts[j].faults + 1) = 3 * c.parts[j].faults + 1 := i64_in (by omega) (by omega)
      have r1 : ¬ c.parts[j].nodes < 1 := by omega
      have r2 : ¬ 12 < c.parts[j].nodes := by omega
      have r3 : ¬ c.parts[j].faults < 0 := by omega
      have r4 : ¬ 3 < c.parts[j].faults := by omega
      have r5 : ¬ c.parts[j].nodes < 3 * c.parts[j].faults + 1 := by omega
      simp [c_plan_parts_B0, evW_reg, evW_chkr, evW_chfr, isCst, loadS, partS, TK.agg, fieldAddrS, zeroS, storeS, setPart, splice, endS, resS, fieldS, h_plan_parts_0, hj, ha, r1, r2, r3, r4, r5, w1, w2, hw])
    (fun j M hj _ hpj => by
      have ha := Parts.at hP.p hj
      simp only [hj, List.getElem?_eq_getElem, Option.map_some, Option.getD_some, partBad_iff] at hpj
      by_cases r1 : c.parts[j].nodes < 1
      · simp [c_plan_parts_B0, evW_reg, evW_chkr, evW_chfr, isCst, loadS, partS, TK.agg, fieldAddrS, zeroS, storeS, setPart, splice, endS, resS, fieldS, h_plan_parts_0, hj, ha, r1]
      by_cases r2 : 12 < c.parts[j].nodes
      · simp [c_plan_parts_B0, evW_reg, evW_chkr, evW_chfr, isCst, loadS, partS, TK.agg, fieldAddrS, zeroS, storeS, setPart, splice, endS, resS, fieldS, h_plan_parts_0, hj, ha, r1, r2]
      by_cases r3 : c.parts[j].faults < 0
      · simp [c_plan_parts_B0, evW_reg, evW_chkr, evW_chfr, isCst, loadS, partS, TK.agg, fieldAddrS, zeroS, storeS, setPart, splice, endS, resS, fieldS, h_plan_parts_0, hj, ha, r1, r2, r3]
      by_cases r4 : 3 < c.parts[j].faults
      · simp [c_plan_parts_B0, evW_reg, evW_chkr, evW_chfr, isCst, loadS, partS, TK.agg, fieldAddrS, zeroS, storeS, setPart, splice, endS, resS, fieldS, h_plan_parts_0, hj, ha, r1, r2, r3, r4]
      have r5 : c.parts[j].nodes < 3 * c.parts[j].faults + 1 := by simpa [r1, r2, r3, r4] using hpj
      have w1 : IntKind.i64.wrap (3 * c.parts[j].faults) = 3 * c.parts[j].faults := i64_in (by omega) (by omega)
      have w2 : IntKind.i64.wrap (3 * c.parts[j].faults + 1) = 3 * c.parts[j].faults + 1 := i64_in (by omega) (by omega)
      simp [c_plan_parts_B0, evW_reg, evW_chkr, evW_chfr, isCst, loadS, partS, TK.agg, fieldAddrS, zeroS, storeS, setPart, splice, endS, resS, fieldS, h_plan_parts_0, hj, ha, r1, r2, r3, r4, r5, w1, w2])
    (fun M _ => by simp [c_plan_parts_B0, evW_reg, evW_chkr, evW_chfr, isCst, loadS, partS, TK.agg, fieldAddrS, zeroS, storeS, setPart, splice, endS, resS, fieldS, h_plan_parts_0]) ((M0.bump 2).set M0.next (some [.agg (cfgC c P L)])) trivial
  have e : partsErr c = match (List.range c.parts.length).find? (fun j => (c.parts[j]?.map partBad).getD false) with
    | some i => some (8, (i : Int))
    | none => none := by simp [partsErr, h1, h2]; rfl
  rw [e]
  cases hf : (List.range c.parts.length).find? (fun j => (c.parts[j]?.map partBad).getD false) with
  | none =>
    rw [hf] at g2
    subst g2
    simp [h_plan_parts_0, cfgC] at g1
    simp [c_plan_parts, evW_reg, evW_chkr, evW_chfr, isCst, loadS, partS, TK.agg, fieldAddrS, zeroS, storeS, setPart, splice, endS, resS, fieldS, cfgC, hlen, h1, h1', h2, h2', c_plan_parts_L0, g1, errO]
  | some j =>
    rw [hf] at g2
    subst g2
    simp [h_plan_parts_0, cfgC] at g1
    simp [c_plan_parts, evW_reg, evW_chkr, evW_chfr, isCst, loadS, partS, TK.agg, fieldAddrS, zeroS, storeS, setPart, splice, endS, resS, fieldS, cfgC, hlen, h1, h1', h2, h2', c_plan_parts_L0, g1, errO]
theorem plan_parts_c (get) {y : SV} {c : Cfg} (hc : CfgR y c) : callP (PCw ES) get n_plan_parts [y] = some (errO (partsErr c)) := callP_of (plan_parts_ok hc) (by simp [hc.np12])

end Go.Proofs.YtljjmdcdlcefmaaGreatDoor
