/-
  Walks of the seat's functions: Bi.
-/
import Derived.Test.YtljjmdcdlcefmaaGreatDoorEbMa
import Derived.Test.YtljjmdcdlcefmaaGreatDoorShMb
import Derived.Test.YtljjmdcdlcefmaaGreatDoorLBh
set_option linter.unusedVariables false
set_option linter.unusedSimpArgs false
set_option maxRecDepth 100000
namespace Go.Proofs.YtljjmdcdlcefmaaGreatDoor
open Go.Proofs.YtljjmdcdlcefmaaGreatDoor.Sh
/-! The document's bounds. -/
theorem r5_slew_c (get) {P L : SV} {c : Cfg} (hP : CfgP c P L) (h : InRange c) : callP (PCw ES) get n_r5_slew [.agg (cfgC c P L)] = some (.int .i64 (slewN c)) := by
  refine callP_of (PCw_ex (fun M0 => ?_) rfl) (by simp [hP.npA])
  rw [b_r5_slew]
  have h1 := h.dc
  have hu := fun get => r5_up_c get h1.1 (by omega)
  have hw : IntKind.i64.wrap (c.drift * c.cycle) = c.drift * c.cycle := i64_in (by omega) (by omega)
  simp [c_r5_slew, evW_reg, evW_chkr, evW_chfr, isCst, loadS, partS, TK.agg, fieldAddrS, zeroS, storeS, setPart, splice, endS, resS, fieldS, cfgC, hw, hu, slewN]
theorem r5_step_c (get) {P L : SV} {c : Cfg} (hP : CfgP c P L) (h : InRange c) : callP (PCw ES) get n_r5_step [.agg (cfgC c P L)] = some (.int .i64 (stepN c)) := by
  refine callP_of (PCw_ex (fun M0 => ?_) rfl) (by simp [hP.npA])
  rw [b_r5_step]
  have hn := h.nums
  have he := hn.e
  have hs := hn.s
  have h1 := fun get => r5_edge_c get hP h
  have h2 := fun get => r5_slew_c get hP h
  simp only [cfgC] at h1 h2
  have w1 : IntKind.i64.wrap (4 * edgeN c) = 4 * edgeN c := i64_in (by omega) (by omega)
  have w2 : IntKind.i64.wrap (2 * slewN c) = 2 * slewN c := i64_in (by omega) (by omega)
  have w3 : IntKind.i64.wrap (4 * edgeN c + 2 * slewN c) = 4 * edgeN c + 2 * slewN c := i64_in (by omega) (by omega)
  have w4 : IntKind.i64.wrap (4 * edgeN c + 2 * slewN c + 2) = 4 * edgeN c + 2 * slewN c + 2 := i64_in (by omega) (by omega)
  simp [c_r5_step, evW_reg, evW_chkr, evW_chfr, isCst, loadS, partS, TK.agg, fieldAddrS, zeroS, storeS, setPart, splice, endS, resS, fieldS, cfgC, h1, h2, w1, w2, w3, w4, stepN]
theorem r5_jump_c (get) {P L : SV} {c : Cfg} (hP : CfgP c P L) (h : InRange c) : callP (PCw ES) get n_r5_jump [.agg (cfgC c P L)] = some (.int .i64 (jumpN c)) := by
  refine callP_of (PCw_ex (fun M0 => ?_) rfl) (by simp [hP.npA])
  rw [b_r5_jump]
  have hn := h.nums
  have he := hn.e
  have hj := hn.j
  have hag := h.ag
  have h1 := fun get => r5_edge_c get hP h
  have h2 := fun get => r5_step_c get hP h
  simp only [cfgC] at h1 h2
  have w0 : IntKind.i64.wrap (2 * c.ages) = 2 * c.ages := i64_in (by omega) (by omega)
  have w1 : IntKind.i64.wrap (4 * edgeN c) = 4 * edgeN c := i64_in (by omega) (by omega)
  have w2 : IntKind.i64.wrap (2 * c.ages * stepN c) = 2 * c.ages * stepN c := i64_in (by omega) (by omega)
  have w3 : IntKind.i64.wrap (2 * c.ages * stepN c + 4 * edgeN c) = 2 * c.ages * stepN c + 4 * edgeN c := i64_in (by omega) (by omega)
  simp [c_r5_jump, evW_reg, evW_chkr, evW_chfr, isCst, loadS, partS, TK.agg, fieldAddrS, zeroS, storeS, setPart, splice, endS, resS, fieldS, cfgC, h1, h2, w0, w1, w2, w3, jumpN]
theorem r5_Gone_c (get) {P L : SV} {c : Cfg} (hP : CfgP c P L) : callP (PCw ES) get n_r5_Gone [.agg (cfgC c P L)] = some (.int .i64 (if rangedC c then val_Gone c else 0)) := by
  refine callP_of (PCw_ex (fun M0 => ?_) rfl) (by simp [hP.npA])
  rw [b_r5_Gone]
  have h1 := fun get => r5_ranged_c get hP
  simp only [cfgC] at h1
  unfold val_Gone
  cases hr : rangedC c with
  | false =>
    rw [hr] at h1
    simp [c_r5_Gone, evW_reg, evW_chkr, evW_chfr, isCst, loadS, partS, TK.agg, fieldAddrS, zeroS, storeS, setPart, splice, endS, resS, fieldS, cfgC, h1]
  | true =>
    rw [hr] at h1
    have hin : InRange c := outN_zero (by simp [rangedC] at hr; exact hr.2)
    have hag := hin.ag
    have w : IntKind.i64.wrap (c.ages + 1) = c.ages + 1 := i64_in (by omega) (by omega)
    simp [c_r5_Gone, evW_reg, evW_chkr, evW_chfr, isCst, loadS, partS, TK.agg, fieldAddrS, zeroS, storeS, setPart, splice, endS, resS, fieldS, cfgC, h1, w]
set_option maxHeartbeats 4000000 in
theorem r5_ports_ok {P L : SV} {c : Cfg} (hP : CfgP c P L) (hl : c.links.length ≤ 1000000) (part : Int) : PCw ES n_r5_ports [.agg (cfgC c P L), .int .i64 part] = some (.int .i64 (portsN c.links part)) := by
  refine PCw_ex (fun M0 => ?_) rfl
  rw [b_r5_ports]
  have hlen := hP.l.lenS ti_sl_api_Link
  obtain ⟨r, g1, M', g2⟩ := loop_up (E := ES) (me := n_r5_ports) (B := c_r5_ports_B0) (len := c.links.length) (T := fun j => h_r5_ports_0 (.int .i64 part) (.ptr M0.next 0 0) (.int .i64 (portsN (c.links.take j) part)) (.int .i64 j))
    (I := fun _ M => M.blk M0.next = some [.agg (cfgC c P L)] ∧ M0.next < M.next)
    (Q := fun r => ∃ M', r = (.exit 0, ⟨(h_r5_ports_0 (.int .i64 part) (.ptr M0.next 0 0) (.int .i64 (portsN (c.links.take c.links.length) part)) (.int .i64 c.links.length)).set 11 (.bool false), M'⟩))
    (fun j M hj ⟨hb, hlt⟩ => by
      left
      have ha := Links.at hP.l hj
      have hw : IntKind.i64.wrap ((j : Int) + 1) = (j : Int) + 1 := i64_in (by omega) (by omega)
      have hb0 := hb
      simp only [cfgC] at hb0
      have hpn := portsN_le (c.links.take j) part
      have hpn2 : (c.links.take j).length ≤ 1000000 := by simp; omega
      have hw2 : IntKind.i64.wrap ((portsN (c.links.take j) part : Int) + 2) = (portsN (c.links.take j) part : Int) + 2 := i64_in (by omega) (by omega)
      refine ⟨M, ?_, hb, hlt⟩
      rw [portsN_take hj]
      generalize portsN (c.links.take j) part = q at hw2 ⊢
      by_cases h1 : c.links[j].a = part
      · simp [c_r5_ports_B0, evW_reg, evW_chkr, evW_chfr, isCst, loadS, partS, TK.agg, fieldAddrS, zeroS, storeS, setPart, splice, endS, resS, fieldS, h_r5_ports_0, hlen, hj, ha, hb0, h1, hw, hw2]
      · by_cases h2 : c.links[j].b = part
        · simp [c_r5_ports_B0, evW_reg, evW_chkr, evW_chfr, isCst, loadS, partS, TK.agg, fieldAddrS, zeroS, storeS, setPart, splice, endS, resS, fieldS, h_r5_ports_0, hlen, hj, ha, hb0, h1, h2, hw, hw2]
        · simp [c_r5_ports_B0, evW_reg, evW_chkr, evW_chfr, isCst, loadS, partS, TK.agg, fieldAddrS, zeroS, storeS, setPart, splice, endS, resS, fieldS, h_r5_ports_0, hlen, hj, ha, hb0, h1, h2, hw])
    (fun M ⟨hb, hlt⟩ => by
      have hb0 := hb
      simp only [cfgC] at hb0
      exact ⟨_, by simp [c_r5_ports_B0, evW_reg, evW_chkr, evW_chfr, isCst, loadS, partS, TK.agg, fieldAddrS, zeroS, storeS, setPart, splice, endS, resS, fieldS, h_r5_ports_0, hlen, hb0], by simp, M, rfl⟩) 0 ((M0.bump 2).set M0.next (some [.agg (cfgC c P L)])) (by omega) (by simp)
  subst g2
  rw [List.take_length] at g1
  have z0 : portsN (c.links.take 0) part = 0 := rfl
  rw [z0] at g1
  simp [h_r5_ports_0, cfgC] at g1
  simp [c_r5_ports, evW_reg, evW_chkr, evW_chfr, isCst, loadS, partS, TK.agg, fieldAddrS, zeroS, storeS, setPart, splice, endS, resS, fieldS, cfgC, c_r5_ports_L0, g1]
theorem r5_ports_c (get) {P L : SV} {c : Cfg} (hP : CfgP c P L) (hl : c.links.length ≤ 1000000) (part : Int) : callP (PCw ES) get n_r5_ports [.agg (cfgC c P L), .int .i64 part] = some (.int .i64 (portsN c.links part)) := callP_of (r5_ports_ok hP hl part) (by simp [hP.npA])

end Go.Proofs.YtljjmdcdlcefmaaGreatDoor
