/-
  Walks of the seat's functions: Oi.
-/
import Derived.Test.YtljjmdcdlcefmaaGreatDoorEbMa
import Derived.Test.YtljjmdcdlcefmaaGreatDoorShMb
import Derived.Test.YtljjmdcdlcefmaaGreatDoorLzMj
import Derived.Test.YtljjmdcdlcefmaaGreatDoorLzMf
import Derived.Test.YtljjmdcdlcefmaaGreatDoorLBn
set_option linter.unusedVariables false
set_option linter.unusedSimpArgs false
set_option maxRecDepth 100000
namespace Go.Proofs.YtljjmdcdlcefmaaGreatDoor
open Go.Proofs.YtljjmdcdlcefmaaGreatDoor.Sh
/-! The law PortRaw. -/
theorem x_facts : farsG xC 0 [xCel 0, xCel 0] = [⟨false, 0, 0, []⟩, ⟨false, 0, 0, []⟩] ∧ (upG xC [xCel 0, xCel 0] 0 0 || upG xC [xCel 0, xCel 0] 0 1) = false ∧ (upG xC [xCel 1, xCel 1] 0 0 || upG xC [xCel 1, xCel 1] 0 1) = true ∧ upG xC [xCel 1, xCel 1] 0 1 = true := by
  refine ⟨?_, by decide +kernel, by decide +kernel, by decide +kernel⟩
  kernel_rfl
theorem x_ages (s : Int) : agesOk [xCel s, xCel s] := fun x hx n hn => by
  have : x = xCel s := by simpa using hx
  subst this
  have : n = xN s := by simpa [xCel] using hn
  subst this
  simp [xN]
set_option maxHeartbeats 4000000 in
theorem l20_alive_ok : PCw ES n_l20_alive [] = some (.bool true) := by
  refine PCw_ex (fun M => ?_) rfl
  rw [b_l20_alive]
  have h0 := fun get => callP_of (get := get) made_1 rfl
  have h1 := fun get => callP_of (get := get) cells_0 rfl
  have h2 := fun get => callP_of (get := get) cells_1 rfl
  have n0 : Sh.np picDepth (xCells 0) = true := np_of_pv (xCells_pv 0) _
  have n1 : Sh.np picDepth (xCells 1) = true := np_of_pv (xCells_pv 1) _
  obtain ⟨z, z1, z2, _⟩ := port_Fars_c xCfg (xCelsR 0) n0 (by simp) (x_ages 0) 0
  have k1 := fun get => port_Pair_c get xCfg (xCelsR 0) n0 (by simp) 0
  have k2 := fun get => port_Pair_c get xCfg (xCelsR 1) n1 (by simp) 0
  have k3 := fun get => port_Up_c get xCfg (xCelsR 1) n1 (by simp) 0 1
  obtain ⟨f1, f2, f3, f4⟩ := x_facts
  rw [f2] at k1
  rw [f3] at k2
  rw [f4] at k3
  rw [f1] at z2
  have hlz := z2.lenS ti_sl_api_Far
  obtain ⟨y, ⟨A, rfl, _, _⟩, a1, a2, _⟩ := z2.item ti_sl_api_Far ti_api_Far elmFr (j := 0) (by simp)
  simp only [List.getElem_cons_zero] at a1
  have a2' : indexAddrS ES.P T_sl_api_Far z (.int .i64 0) = some (.rptr (its z) 0 0 (stOf z)) := a2
  simp only [List.length_cons, List.length_nil] at hlz
  have hlk : (cfgC xC xP xL).length = 13 := rfl
  generalize cfgC xC xP xL = K at *
  generalize xCells 0 = u0 at *
  generalize xCells 1 = u1 at *
  simp (maxSteps := 4000000) [c_l20_alive, evW_reg, evW_chkr, evW_chfr, isCst, loadS, partS, TK.agg, fieldAddrS, zeroS, storeS, setPart, splice, endS, resS, fieldS, h0, h1, h2, z1, k1, k2, k3, hlk, hlz, a1, a2']
@[simp] theorem l20_alive_c (get) : callP (PCw ES) get n_l20_alive [] = some (.bool true) := callP_of l20_alive_ok rfl
theorem farsG_len (c : Cfg) (part : Int) (l : List Cel) : (farsG c part l).length ≤ 100 := by
  unfold farsG
  split
  · rename_i hs
    have hr := (shaped_spec hs).1
    rw [List.length_map]
    have := portsL_len c.links part (nodesAt c part)
    have hn := nodesAt_le (checkG_zero (by simpa [rightC] using hr)) part
    unfold portsG
    split
    · omega
    · simp
  · simp
theorem farsG_ages {c : Cfg} {part : Int} {l : List Cel} (h : agesOk l) : ∀ f ∈ farsG c part l, f.ages.length ≤ 1000 := fun f hf => by
  unfold farsG at hf
  split at hf
  · simp only [List.mem_map] at hf
    obtain ⟨p, _, rfl⟩ := hf
    unfold seeG
    split
    · exact h.node _ _
    · simp
  · simp at hf
set_option maxHeartbeats 8000000 in
theorem PortRaw_walk (xs0 xs1 xs2 xs3 xs4 : List SV) (h0 : WT ES.P 8 T_api_Config xs0) (h1 : WT ES.P 8 T_int xs1) (h2 : WT ES.P 8 T_int xs2) (h3 : WT ES.P 8 T_int xs3) (h4 : WT ES.P 8 T_sl_api_Cell xs4) :
    ∃ M', ICw ES n_l20_PortRaw [mkV ES.P T_api_Config xs0, mkV ES.P T_int xs1, mkV ES.P T_int xs2, mkV ES.P T_int xs3, mkV ES.P T_sl_api_Cell xs4] .empty = some (.bool true, M') := by
  obtain ⟨c, hc, _⟩ := cfg_of h0
  obtain ⟨part, _, e1, _⟩ := WT_int ti_int h1
  obtain ⟨link, _, e2, _⟩ := WT_int ti_int h2
  obtain ⟨gate, _, e3, _⟩ := WT_int ti_int h3
  obtain ⟨l, hx, hpv⟩ := cells_of h4
  rw [e1, e2, e3, b_l20_PortRaw]
  generalize mkV ES.P T_api_Config xs0 = y at hc ⊢
  generalize mkV ES.P T_sl_api_Cell xs4 = x at *
  obtain ⟨P, L, rfl, hP⟩ := hc
  have hnp := np_of_pv hpv picDepth
  have hlenp := hP.p.lenS ti_sl_api_Part
  have hlenl := hP.l.lenS ti_sl_api_Link
  have hsm := fun get => l20_small_c get hx hnp
  have hlk : (cfgC c P L).length = 13 := rfl
  have f0 : (cfgC c P L)[0]? = some P := rfl
  have f1 : (cfgC c P L)[1]? = some L := rfl
  have hF1 := fun (hl : l.length ≤ 17592186044416) (ha : agesOk l) => port_Fars_c hP hx hnp hl ha part
  have hF2 := fun (hl : l.length ≤ 17592186044416) (ha : agesOk l) => r17_Fars_c hP hx hnp hl ha part
  have hU1 := fun (hl : l.length ≤ 17592186044416) get => port_Up_c get hP hx hnp hl link gate
  have hU2 := fun (hl : l.length ≤ 17592186044416) get => r17_Up_c get hP hx hnp hl link gate
  have hP1 := fun (hl : l.length ≤ 17592186044416) get => port_Pair_c get hP hx hnp hl link
  have hP2 := fun (hl : l.length ≤ 17592186044416) get => r17_Pair_c get hP hx hnp hl link
  generalize cfgC c P L = K at *
  have g0 : K[0]'(by omega) = P := by simpa [hlk] using f0
  have g1 : K[1]'(by omega) = L := by simpa [hlk] using f1
  by_cases c1 : 20 < (c.parts.length : Int)
  · simp (maxSteps := 4000000) [c_l20_PortRaw, evW_reg, evW_chkr, evW_chfr, isCst, loadS, partS, TK.agg, fieldAddrS, zeroS, storeS, setPart, splice, endS, resS, fieldS, hlk, g0, g1, hlenp, hlenl, c1]
  by_cases c2 : 30 < (c.links.length : Int)
  · simp (maxSteps := 4000000) [c_l20_PortRaw, evW_reg, evW_chkr, evW_chfr, isCst, loadS, partS, TK.agg, fieldAddrS, zeroS, storeS, setPart, splice, endS, resS, fieldS, hlk, g0, g1, hlenp, hlenl, c1, c2]
  cases hsb : smallB l with
  | false =>
    rw [hsb] at hsm
    simp (maxSteps := 4000000) [c_l20_PortRaw, evW_reg, evW_chkr, evW_chfr, isCst, loadS, partS, TK.agg, fieldAddrS, zeroS, storeS, setPart, splice, endS, resS, fieldS, hlk, g0, g1, hlenp, hlenl, c1, c2, hsm]
  | true =>
    rw [hsb] at hsm
    obtain ⟨s1, s2⟩ := smallB_spec hsb
    have hl : l.length ≤ 17592186044416 := by omega
    obtain ⟨z1, a1, a2, _⟩ := hF1 hl s2
    obtain ⟨z2, b1, b2, _⟩ := hF2 hl s2
    have hs := fun get => SameFars_c get a2 b2 (by have := farsG_len c part l; omega) (farsG_ages s2)
    have u1 := hU1 hl
    have u2 := hU2 hl
    have p1 := hP1 hl
    have p2 := hP2 hl
    have be : ∀ b : Bool, binS ES.P .eql T_bool false (.bool b) (.bool b) = some (.bool true) := fun b => by cases b <;> rfl
    generalize upG c l link gate = v1 at *
    generalize (upG c l link 0 || upG c l link 1) = v2 at *
    simp (maxSteps := 4000000) [c_l20_PortRaw, evW_reg, evW_chkr, evW_chfr, isCst, loadS, partS, TK.agg, fieldAddrS, zeroS, storeS, setPart, splice, endS, resS, fieldS, hlk, g0, g1, hlenp, hlenl, c1, c2, hsm, a1, b1, hs, u1, u2, p1, p2, be]

end Go.Proofs.YtljjmdcdlcefmaaGreatDoor
