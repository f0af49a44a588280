/-
  Walks of the seat's functions: Re.
-/
import Derived.Test.YtljjmdcdlcefmaaGreatDoorEbMa
import Derived.Test.YtljjmdcdlcefmaaGreatDoorShMb
import Derived.Test.YtljjmdcdlcefmaaGreatDoorLzMc
import Derived.Test.YtljjmdcdlcefmaaGreatDoorLCk
set_option linter.unusedVariables false
set_option linter.unusedSimpArgs false
set_option maxRecDepth 100000
namespace Go.Proofs.YtljjmdcdlcefmaaGreatDoor
open Go.Proofs.YtljjmdcdlcefmaaGreatDoor.Sh
/-! The document's own: Check. -/
theorem relax_ge {n : Int} (hn : 0 ≤ n) {d : List Int} {x y : Int} (h : ∀ z ∈ d, -1 ≤ z) : ∀ z ∈ relax n d x y, -1 ≤ z := by
  unfold relax
  split
  · intro z hz
    rcases List.mem_or_eq_of_mem_set hz with h1 | h1
    · exact h z h1
    · omega
  · exact h
theorem passL_ge {n : Int} (hn : 0 ≤ n) : ∀ {ls : List Link} {d : List Int}, (∀ z ∈ d, -1 ≤ z) → ∀ z ∈ passL n ls d, -1 ≤ z
  | [], _, h => h
  | _ :: r, _, h => passL_ge hn (ls := r) (relax_ge hn (relax_ge hn h))
theorem distK_ge (ls : List Link) (len : Nat) (fr : Int) : ∀ k : Nat, ∀ z ∈ distK ls len fr k, -1 ≤ z
  | 0 => by
    intro z hz
    rcases List.mem_or_eq_of_mem_set hz with h | h
    · have := List.eq_of_mem_replicate h; omega
    · omega
  | k + 1 => passL_ge (by omega) (distK_ge ls len fr k)
/-- The first entry below 0. -/
theorem idxI_dist (ls : List Link) (len : Nat) (fr : Int) : idxI (distL ls len fr) (-1) = match (List.range len).find? (fun j => ((distL ls len fr)[j]?.map fun x => decide (x < 0)).getD false) with
  | some i => (i : Int)
  | none => -1 := by
  have hl : (distL ls len fr).length = len := by simp [distL]
  have e : (fun j : Nat => ((distL ls len fr)[j]?.map fun x => decide (-1 = x)).getD false) = (fun j : Nat => ((distL ls len fr)[j]?.map fun x => decide (x < 0)).getD false) := by
    funext j
    cases h : (distL ls len fr)[j]? with
    | none => rfl
    | some x =>
      have := distK_ge ls len fr len x (List.mem_of_getElem? h)
      simp only [Option.map_some, Option.getD_some, decide_eq_decide]
      omega
  unfold idxI
  rw [e, hl]
  cases (List.range len).find? (fun j : Nat => ((distL ls len fr)[j]?.map fun x => decide (x < 0)).getD false) <;> rfl
set_option maxHeartbeats 4000000 in
theorem r5_parts_L {c : Cfg} {P L : SV} (hP : CfgP c P L) {p : Nat} (hll : c.parts.length ≤ 6) (M0 : Mem) (hb : M0.blk p = some [.agg (cfgC c P L)]) (hlt : p < M0.next) :
    ∃ r, evW ES n_r5_Check c_r5_Check_L0 ⟨h_r5_Check_0 (.ptr p 0 0) (.int .i64 0), M0⟩ = some r ∧ ∃ M', M'.blk p = some [.agg (cfgC c P L)] ∧ p < M'.next ∧
      r = match (List.range c.parts.length).find? (fun j => (c.parts[j]?.map partBad).getD false) with
      | some j => (.ret, ⟨((h_r5_Check_0 .bad .bad).set 2 (.int .i64 8)).set 3 (.int .i64 j), M'⟩)
      | none => (.exit 0, ⟨(h_r5_Check_0 (.ptr p 0 0) (.int .i64 c.parts.length)).set 24 (.bool false), M'⟩) := by
  have hlen := hP.p.lenS ti_sl_api_Part
  obtain ⟨r, g1, M', g2, g3, g4⟩ := loop_find (E := ES) (me := n_r5_Check) (B := c_r5_Check_B0) (len := c.parts.length) (T := fun j => h_r5_Check_0 (.ptr p 0 0) (.int .i64 j)) (I := fun _ M => M.blk p = some [.agg (cfgC c P L)] ∧ p < M.next)
    (p := fun j => (c.parts[j]?.map partBad).getD false)
    (Q := fun o r => ∃ M', M'.blk p = some [.agg (cfgC c P L)] ∧ p < M'.next ∧ r = match o with
      | some j => (.ret, ⟨((h_r5_Check_0 .bad .bad).set 2 (.int .i64 8)).set 3 (.int .i64 j), M'⟩)
      | none => (.exit 0, ⟨(h_r5_Check_0 (.ptr p 0 0) (.int .i64 c.parts.length)).set 24 (.bool false), M'⟩))
    (fun j M hj ⟨hb, hlt⟩ hpj => by
      have hb0 := hb
      simp only [cfgC] at hb0
      have hnp : ∀ z, (p = M.next + z) = False := fun z => by simp; omega
      have ha := Parts.at hP.p hj
      have hw : IntKind.i64.wrap ((j : Int) + 1) = (j : Int) + 1 := i64_in (by omega) (by omega)
      simp [hj, partBad_iff] at hpj
      obtain ⟨⟨⟨⟨q1, q2⟩, q3⟩, q4⟩, q5⟩ := hpj
      have w1 : IntKind.i64.wrap (3 * c.parts[j].faults) = 3 * c.parts[j].faults := i64_in (by omega) (by omega)
      have w2 : IntKind.i64.wrap (3 * c.parts[j].faults + 1) = 3 * c.parts[j].faults + 1 := i64_in (by omega) (by omega)
      have r1 : ¬ c.parts[j].nodes < 1 := by omega
      have r2 : ¬ 12 < c.parts[j].nodes := by omega
      have r3 : ¬ c.parts[j].faults < 0 := by omega
      have r4 : ¬ 3 < c.parts[j].faults := by omega
      have r5 : ¬ c.parts[j].nodes < 3 * c.parts[j].faults + 1 := by omega
      refine ⟨(M.bump 7).set (M.next + 5) (some [encPart c.parts[j]]), ?_, by simp [hnp, hb], by simp; omega⟩
      simp [c_r5_Check_B0, evW_reg, evW_chkr, evW_chfr, isCst, loadS, partS, TK.agg, fieldAddrS, zeroS, storeS, setPart, splice, endS, resS, fieldS, h_r5_Check_0, hlen, hb0, hlt, hnp, hj, ha, r1, r2, r3, r4, r5, w1, w2, hw])
    (fun j M hj ⟨hb, hlt⟩ hpj => by
      have hb0 := hb
      simp only [cfgC] at hb0
      have hnp : ∀ z, (p = M.next + z) = False := fun z => by simp; omega
      have ha := Parts.at hP.p hj
      simp only [hj, List.getElem?_eq_getElem, Option.map_some, Option.getD_some, partBad_iff] at hpj
      have key : evW ES n_r5_Check c_r5_Check_B0 ⟨h_r5_Check_0 (.ptr p 0 0) (.int .i64 j), M⟩ = some (.ret, ⟨((h_r5_Check_0 .bad .bad).set 2 (.int .i64 8)).set 3 (.int .i64 j), (M.bump 7).set (M.next + 5) (some [encPart c.parts[j]])⟩) := by
        by_cases r1 : c.parts[j].nodes < 1
        · simp [c_r5_Check_B0, evW_reg, evW_chkr, evW_chfr, isCst, loadS, partS, TK.agg, fieldAddrS, zeroS, storeS, setPart, splice, endS, resS, fieldS, h_r5_Check_0, hlen, hb0, hlt, hnp, hj, ha, r1]
        by_cases r2 : 12 < c.parts[j].nodes
        · simp [c_r5_Check_B0, evW_reg, evW_chkr, evW_chfr, isCst, loadS, partS, TK.agg, fieldAddrS, zeroS, storeS, setPart, splice, endS, resS, fieldS, h_r5_Check_0, hlen, hb0, hlt, hnp, hj, ha, r1, r2]
        by_cases r3 : c.parts[j].faults < 0
        · simp [c_r5_Check_B0, evW_reg, evW_chkr, evW_chfr, isCst, loadS, partS, TK.agg, fieldAddrS, zeroS, storeS, setPart, splice, endS, resS, fieldS, h_r5_Check_0, hlen, hb0, hlt, hnp, hj, ha, r1, r2, r3]
        by_cases r4 : 3 < c.parts[j].faults
        · simp [c_r5_Check_B0, evW_reg, evW_chkr, evW_chfr, isCst, loadS, partS, TK.agg, fieldAddrS, zeroS, storeS, setPart, splice, endS, resS, fieldS, h_r5_Check_0, hlen, hb0, hlt, hnp, hj, ha, r1, r2, r3, r4]
        have r5 : c.parts[j].nodes < 3 * c.parts[j].faults + 1 := by simpa [r1, r2, r3, r4] using hpj
        have w1 : IntKind.i64.wrap (3 * c.parts[j].faults) = 3 * c.parts[j].faults := i64_in (by omega) (by omega)
        have w2 : IntKind.i64.wrap (3 * c.parts[j].faults + 1) = 3 * c.parts[j].faults + 1 := i64_in (by omega) (by omega)
        simp [c_r5_Check_B0, evW_reg, evW_chkr, evW_chfr, isCst, loadS, partS, TK.agg, fieldAddrS, zeroS, storeS, setPart, splice, endS, resS, fieldS, h_r5_Check_0, hlen, hb0, hlt, hnp, hj, ha, r1, r2, r3, r4, r5, w1, w2]
      exact ⟨_, key, by simp, _, by simp [hnp, hb], by simp; omega, rfl⟩)
    (fun M ⟨hb, hlt⟩ => by
      have hb0 := hb
      simp only [cfgC] at hb0
      exact ⟨_, by simp [c_r5_Check_B0, evW_reg, evW_chkr, evW_chfr, isCst, loadS, partS, TK.agg, fieldAddrS, zeroS, storeS, setPart, splice, endS, resS, fieldS, h_r5_Check_0, hlen, hb0], by simp, M, hb, hlt, rfl⟩) M0 ⟨hb, hlt⟩
  refine ⟨r, g1, M', g2, g3, ?_⟩
  rw [g4]
  cases (List.range c.parts.length).find? (fun j => (c.parts[j]?.map partBad).getD false) <;> rfl
set_option maxHeartbeats 4000000 in
theorem r5_links_L {c : Cfg} {P L : SV} (hP : CfgP c P L) {p : Nat} (M0 : Mem) (hb : M0.blk p = some [.agg (cfgC c P L)]) :
    ∃ r, evW ES n_r5_Check c_r5_Check_L1 ⟨h_r5_Check_1 (.ptr p 0 0) (.int .i64 0), M0⟩ = some r ∧
      r = match (List.range c.links.length).find? (fun j => (c.links[j]?.map fun l => linkErr c j l != 0).getD false) with
      | some j => (.ret, ⟨((h_r5_Check_1 .bad .bad).set 2 (.int .i64 ((c.links[j]?.map fun l => linkErr c j l).getD 0))).set 3 (.int .i64 j), M0⟩)
      | none => (.exit 2, ⟨(h_r5_Check_1 (.ptr p 0 0) (.int .i64 c.links.length)).set 68 (.bool false), M0⟩) := by
  have hlen := hP.l.lenS ti_sl_api_Link
  have hb0 := hb
  simp only [cfgC] at hb0
  exact loop_find (E := ES) (me := n_r5_Check) (B := c_r5_Check_B1) (len := c.links.length) (T := fun j => h_r5_Check_1 (.ptr p 0 0) (.int .i64 j)) (I := fun _ M => M = M0)
    (p := fun j => (c.links[j]?.map fun l => linkErr c j l != 0).getD false)
    (Q := fun o r => r = match o with
      | some j => (.ret, ⟨((h_r5_Check_1 .bad .bad).set 2 (.int .i64 ((c.links[j]?.map fun l => linkErr c j l).getD 0))).set 3 (.int .i64 j), M0⟩)
      | none => (.exit 2, ⟨(h_r5_Check_1 (.ptr p 0 0) (.int .i64 c.links.length)).set 68 (.bool false), M0⟩))
    (fun j M hj hM hpj => by
      subst hM
      have hw : IntKind.i64.wrap ((j : Int) + 1) = (j : Int) + 1 := i64_in (by omega) (by have := hP.ll; omega)
      have hk := fun get => r5_link_c get hP hj
      simp only [cfgC] at hk
      simp [hj] at hpj
      simp [c_r5_Check_B1, evW_reg, evW_chkr, evW_chfr, isCst, loadS, partS, TK.agg, fieldAddrS, zeroS, storeS, setPart, splice, endS, resS, fieldS, h_r5_Check_1, hlen, hb0, hj, hk, hpj, hw])
    (fun j M hj hM hpj => by
      subst hM
      have hk := fun get => r5_link_c get hP hj
      simp only [cfgC] at hk
      simp [hj] at hpj
      simp [c_r5_Check_B1, evW_reg, evW_chkr, evW_chfr, isCst, loadS, partS, TK.agg, fieldAddrS, zeroS, storeS, setPart, splice, endS, resS, fieldS, h_r5_Check_1, hlen, hb0, hj, hk, hpj])
    (fun M hM => by subst hM; simp [c_r5_Check_B1, evW_reg, evW_chkr, evW_chfr, isCst, loadS, partS, TK.agg, fieldAddrS, zeroS, storeS, setPart, splice, endS, resS, fieldS, h_r5_Check_1, hlen, hb0]) M0 rfl
theorem ixI {d : List Int} {j : Nat} (hj : j < d.length) : indexAddrS ES.P T_sl_int (.sl (iL d) .ro) (.int .i64 j) = some (.rptr (iL d) j 0 (stOf (.sl (iL d) .ro))) := RSl.at (iL_ints d .ro) ti_sl_int ti_int (fun _ => rfl) hj
theorem iL_len (d : List Int) : (iL d).length = d.length := by simp [iL]
theorem iL_getE {d : List Int} {j : Nat} (h : j < (iL d).length) : (iL d)[j] = .int .i64 (d[j]'(by simpa [iL] using h)) := by simp [iL]
set_option maxHeartbeats 4000000 in
theorem r5_far_L {d : List Int} (hd : d.length ≤ 50) (M0 : Mem) :
    ∃ r, evW ES n_r5_Check c_r5_Check_L2 ⟨h_r5_Check_2 (.sl (iL d) .ro) (.int .i64 0), M0⟩ = some r ∧
      r = match (List.range d.length).find? (fun j => (d[j]?.map fun x => decide (x < 0)).getD false) with
      | some j => (.ret, ⟨((h_r5_Check_2 .bad .bad).set 2 (.int .i64 13)).set 3 (.int .i64 j), M0⟩)
      | none => (.exit 4, ⟨(h_r5_Check_2 (.sl (iL d) .ro) (.int .i64 d.length)).set 83 (.bool false), M0⟩) := by
  have hi := iL_ints d .ro
  have hlen := hi.lenS ti_sl_int
  exact loop_find (E := ES) (me := n_r5_Check) (B := c_r5_Check_B2) (len := d.length) (T := fun j => h_r5_Check_2 (.sl (iL d) .ro) (.int .i64 j)) (I := fun _ M => M = M0)
    (p := fun j => (d[j]?.map fun x => decide (x < 0)).getD false)
    (Q := fun o r => r = match o with
      | some j => (.ret, ⟨((h_r5_Check_2 .bad .bad).set 2 (.int .i64 13)).set 3 (.int .i64 j), M0⟩)
      | none => (.exit 4, ⟨(h_r5_Check_2 (.sl (iL d) .ro) (.int .i64 d.length)).set 83 (.bool false), M0⟩))
    (fun j M hj hM hpj => by
      subst hM
      have hw : IntKind.i64.wrap ((j : Int) + 1) = (j : Int) + 1 := i64_in (by omega) (by omega)
      have hat := ixI hj
      simp [hj] at hpj
      have hpj' : ¬ (d[j] < 0) := by omega
      simp [c_r5_Check_B2, evW_reg, evW_chkr, evW_chfr, isCst, loadS, partS, TK.agg, fieldAddrS, zeroS, storeS, setPart, splice, endS, resS, fieldS, h_r5_Check_2, hlen, hj, hat, iL_len, iL_getE, hpj', hw])
    (fun j M hj hM hpj => by
      subst hM
      have hat := ixI hj
      simp [hj] at hpj
      simp [c_r5_Check_B2, evW_reg, evW_chkr, evW_chfr, isCst, loadS, partS, TK.agg, fieldAddrS, zeroS, storeS, setPart, splice, endS, resS, fieldS, h_r5_Check_2, hlen, hj, hat, iL_len, iL_getE, hpj])
    (fun M hM => by subst hM; simp [c_r5_Check_B2, evW_reg, evW_chkr, evW_chfr, isCst, loadS, partS, TK.agg, fieldAddrS, zeroS, storeS, setPart, splice, endS, resS, fieldS, h_r5_Check_2, hlen]) M0 rfl
set_option maxHeartbeats 4000000 in
theorem r5_Check_c (get) {c : Cfg} {P L : SV} (hP : CfgP c P L) : callP (PCw ES) get n_r5_Check [.agg (cfgC c P L)] = some (.tup [.int .i64 (checkG c).1, .int .i64 (checkG c).2]) := by
  refine callP_of (PCw_ex (fun M0 => ?_) rfl) (by simp [hP.npA])
  rw [b_r5_Check]
  have hlenp := hP.p.lenS ti_sl_api_Part
  have hlen := hP.l.lenS ti_sl_api_Link
  by_cases h1 : c.parts.length < 1
  · have h1' : (c.parts.length : Int) < 1 := by omega
    have e : checkG c = (7, 0) := by simp [checkG, checkErr, partsErr, h1]
    rw [e]
    simp [c_r5_Check, evW_reg, evW_chkr, evW_chfr, isCst, loadS, partS, TK.agg, fieldAddrS, zeroS, storeS, setPart, splice, endS, resS, fieldS, cfgC, hlenp, h1, h1']
  have h1' : ¬ (c.parts.length : Int) < 1 := by omega
  by_cases h2 : 6 < c.parts.length
  · have h2' : 6 < (c.parts.length : Int) := by omega
    have e : checkG c = (7, 0) := by simp [checkG, checkErr, partsErr, h2]
    rw [e]
    simp [c_r5_Check, evW_reg, evW_chkr, evW_chfr, isCst, loadS, partS, TK.agg, fieldAddrS, zeroS, storeS, setPart, splice, endS, resS, fieldS, cfgC, hlenp, h1, h1', h2, h2']
  have h2' : ¬ 6 < (c.parts.length : Int) := by omega
  have ep : partsErr c = match (List.range c.parts.length).find? (fun j => (c.parts[j]?.map partBad).getD false) with
    | some i => some (8, (i : Int))
    | none => none := by simp [partsErr, h1, h2]; rfl
  obtain ⟨r, g1, M1, g2, g3, g4⟩ := r5_parts_L hP (p := M0.next) (by omega) ((M0.bump 3).set M0.next (some [.agg (cfgC c P L)])) (by simp) (by simp)
  cases hf : (List.range c.parts.length).find? (fun j => (c.parts[j]?.map partBad).getD false) with
  | some j =>
    rw [hf] at g4 ep
    subst g4
    have e : checkG c = (8, (j : Int)) := by simp [checkG, checkErr, ep]
    rw [e]
    simp [h_r5_Check_0, cfgC] at g1
    simp [c_r5_Check, evW_reg, evW_chkr, evW_chfr, isCst, loadS, partS, TK.agg, fieldAddrS, zeroS, storeS, setPart, splice, endS, resS, fieldS, cfgC, hlenp, h1, h1', h2, h2', g1]
  | none =>
    rw [hf] at g4 ep
    subst g4
    simp [h_r5_Check_0, cfgC] at g1
    have g2' := g2
    simp only [cfgC] at g2'
    by_cases h3 : 10 < c.links.length
    · have h3' : 10 < (c.links.length : Int) := by omega
      have e : checkG c = (9, 0) := by simp [checkG, checkErr, ep, linksErr, h3]
      rw [e]
      simp [c_r5_Check, evW_reg, evW_chkr, evW_chfr, isCst, loadS, partS, TK.agg, fieldAddrS, zeroS, storeS, setPart, splice, endS, resS, fieldS, cfgC, hlenp, h1, h1', h2, h2', g1, g2', hlen, h3, h3']
    have h3' : ¬ 10 < (c.links.length : Int) := by omega
    have el : linksErr c = match (List.range c.links.length).find? (fun j => (c.links[j]?.map fun l => linkErr c j l != 0).getD false) with
      | some i => some ((c.links[i]?.map fun l => linkErr c i l).getD 0, (i : Int))
      | none => none := by simp [linksErr, h3]; rfl
    obtain ⟨r, k1, k2⟩ := r5_links_L hP (p := M0.next) M1 g2
    cases hf2 : (List.range c.links.length).find? (fun j => (c.links[j]?.map fun l => linkErr c j l != 0).getD false) with
    | some j =>
      rw [hf2] at k2 el
      subst k2
      have e : checkG c = ((c.links[j]?.map fun l => linkErr c j l).getD 0, (j : Int)) := by simp only [checkG, checkErr, ep, el, Option.getD_some]
      rw [e]
      simp [h_r5_Check_1] at k1
      simp [c_r5_Check, evW_reg, evW_chkr, evW_chfr, isCst, loadS, partS, TK.agg, fieldAddrS, zeroS, storeS, setPart, splice, endS, resS, fieldS, cfgC, hlenp, h1, h1', h2, h2', g1, g2', hlen, h3, h3', k1]
    | none =>
      rw [hf2] at k2 el
      subst k2
      simp [h_r5_Check_1] at k1
      have hd := fun get => r5_dists_c get hP (fr := 0) (by omega) ⟨by omega, by omega⟩ (linksErr_ok el)
      simp only [cfgC] at hd
      have hl : (distL c.links c.parts.length 0).length = c.parts.length := by simp [distL]
      have ei := idxI_dist c.links c.parts.length 0
      obtain ⟨r, m1, m2⟩ := r5_far_L (d := distL c.links c.parts.length 0) (by omega) M1
      rw [hl] at m2
      cases hf3 : (List.range c.parts.length).find? (fun j => ((distL c.links c.parts.length 0)[j]?.map fun x => decide (x < 0)).getD false) with
      | some j =>
        rw [hf3] at m2 ei
        subst m2
        have e : checkG c = (13, (j : Int)) := by simp [checkG, checkErr, ep, el, ei]
        rw [e]
        simp [h_r5_Check_2] at m1
        simp [c_r5_Check, evW_reg, evW_chkr, evW_chfr, isCst, loadS, partS, TK.agg, fieldAddrS, zeroS, storeS, setPart, splice, endS, resS, fieldS, cfgC, hlenp, h1, h1', h2, h2', g1, g2', hlen, h3, h3', k1, hd, m1]
      | none =>
        rw [hf3] at m2 ei
        subst m2
        have e : checkG c = (0, 0) := by simp [checkG, checkErr, ep, el, ei]
        rw [e]
        simp [h_r5_Check_2, hl] at m1
        simp [c_r5_Check, evW_reg, evW_chkr, evW_chfr, isCst, loadS, partS, TK.agg, fieldAddrS, zeroS, storeS, setPart, splice, endS, resS, fieldS, cfgC, hlenp, h1, h1', h2, h2', g1, g2', hlen, h3, h3', k1, hd, m1]

end Go.Proofs.YtljjmdcdlcefmaaGreatDoor
