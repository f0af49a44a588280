/-
  Walks of the seat's functions: Wh.
-/
import Derived.Test.YtbdliphlolajaaaDoorEb2
import Derived.Test.YtbdliphlolajaaaDoorShSv
import Derived.Test.YtbdliphlolajaaaDoorLWg
set_option linter.unusedVariables false
set_option linter.unusedSimpArgs false
set_option maxRecDepth 100000
namespace Go.Proofs.YtbdliphlolajaaaDoor
open Go.Proofs.YtbdliphlolajaaaDoor.Sh
/-! The law PlanPorts: its loops. -/
set_option maxHeartbeats 8000000 in
theorem PlanPorts_part {P L : SV} {c : Cfg} (hP : CfgP c P L) (hll : c.links.length ≤ 1000) {cid q part : Nat} (hpl : part < c.parts.length) (hpp : c.parts.length ≤ 1000) {cnt : List Int} (hc : cnt.length = c.links.length) (hw : wantPorts (portsG c part) c.links.length = true) (hl : (portsG c part).length ≤ 1000) (M : Mem)
    (h1 : M.blk cid = some [.agg (cfgC c P L)]) (h2 : M.blk q = some (intSV cnt)) (hne : cid ≠ q) :
    ∃ M', evW ES n_l5_PlanPorts c_l5_PlanPorts_B1 ⟨h_l5_PlanPorts_1 (.ptr cid 0 0) (.own q 1 0 c.links.length) (.int .i64 part), M⟩ =
      some (.normal, ⟨h_l5_PlanPorts_1 (.ptr cid 0 0) (.own q 1 0 c.links.length) (.int .i64 ((part + 1 : Nat) : Int)), M'⟩) ∧ M'.blk cid = some [.agg (cfgC c P L)] ∧ M'.blk q = some (intSV ((portsG c part).foldl addOne cnt)) := by
  obtain ⟨y, k1, k2⟩ := plan_Ports_c hP part
  have hlenp := hP.p.lenS ti_sl_api_Part
  have hleny := k2.lenS ti_sl_api_Port
  have hw1 : IntKind.i64.wrap ((part : Int) + 1) = (part : Int) + 1 := i64_in (by omega) (by omega)
  generalize portsG c part = l at *
  obtain ⟨r, g1, M', g2, g3, g4⟩ := loop_up (E := ES) (me := n_l5_PlanPorts) (B := c_l5_PlanPorts_B0) (len := l.length) (T := fun j => h_l5_PlanPorts_0 (.ptr cid 0 0) (.own q 1 0 c.links.length) (.int .i64 part) y (.int .i64 j))
    (I := fun j M => M.blk cid = some [.agg (cfgC c P L)] ∧ M.blk q = some (intSV ((l.take j).foldl addOne cnt)))
    (Q := fun r => ∃ M', r = (.exit 2, ⟨(h_l5_PlanPorts_0 (.ptr cid 0 0) (.own q 1 0 c.links.length) (.int .i64 part) y (.int .i64 l.length)).set 30 (.bool false), M'⟩) ∧ M'.blk cid = some [.agg (cfgC c P L)] ∧ M'.blk q = some (intSV (l.foldl addOne cnt)))
    (fun j M hj ⟨i1, i2⟩ => by
      left
      have hlen : ((l.take j).foldl addOne cnt).length = c.links.length := by rw [foldl_addOne_len, hc]
      refine ⟨_, PlanPorts_in hP hll k2 hl hw hj hlen M i1 i2 hne, by simp [hne, i1], ?_⟩
      rw [foldl_take hj]
      simp)
    (fun M ⟨i1, i2⟩ => ⟨_, by simp [c_l5_PlanPorts_B0, evW_reg, evW_chkr, isCst, loadS, partS, TK.agg, fieldAddrS, zeroS, storeS, setPart, splice, endS, resS, fieldS, h_l5_PlanPorts_0, hleny], by simp, M, rfl, i1, by rw [List.take_length] at i2; exact i2⟩) 0 M (by omega) ⟨h1, by simpa using h2⟩
  subst g2
  have hb0 := h1
  simp only [cfgC] at hb0 k1
  have hpl' : (part : Int) < c.parts.length := by omega
  simp [h_l5_PlanPorts_0] at g1
  refine ⟨M', ?_, g3, g4⟩
  simp [c_l5_PlanPorts_B1, evW_reg, evW_chkr, isCst, loadS, partS, TK.agg, fieldAddrS, zeroS, storeS, setPart, splice, endS, resS, fieldS, h_l5_PlanPorts_1, hlenp, hpl, hpl', hb0, k1, c_l5_PlanPorts_L0, g1, hw1]
set_option maxHeartbeats 8000000 in
theorem PlanPorts_walk (xs0 : List SV) (h0 : WT ES.P 8 T_int xs0) : ∃ M', ICw ES n_l5_PlanPorts [mkV ES.P T_int xs0] .empty = some (.bool true, M') := by
  obtain ⟨n, _, e0, _⟩ := WT_int ti_int h0
  rw [e0]
  obtain ⟨P, L, hm, hP⟩ := Made_c n
  have hok := made_ok n
  have hpp : (madeC n).parts.length ≤ 1000 := by
    have := partsN_le (mOf n)
    have := netC_parts (mOf n)
    show (netC (mOf n)).parts.length ≤ _
    omega
  have hll : (madeC n).links.length ≤ 1000 := by
    have := netC_links (mOf n)
    show (netC (mOf n)).links.length ≤ _
    omega
  generalize madeC n = c at *
  simp only [okNet, Bool.and_eq_true, decide_eq_true_eq] at hok
  obtain ⟨⟨hr, hw⟩, hcnt⟩ := hok
  have hw2 : ∀ p, p < c.parts.length → wantPorts (portsG c p) c.links.length = true := fun p hp => List.all_eq_true.1 hw p (List.mem_range.2 hp)
  have hlp : ∀ p : Int, (portsG c p).length ≤ 1000 := fun p => by
    unfold portsG portsL
    split
    · rename_i hr
      have := List.length_filterMap_le (fun i : Nat => findPort c.links p (i : Int)) (List.range (nodesAt c p).toNat)
      simp only [Bool.and_eq_true] at hr
      have := nodesAt_le (checkG_zero (by simpa [rightC] using hr.1)) p
      simp at *
      omega
    · simp
  rw [b_l5_PlanPorts]
  have hlenl := hP.l.lenS ti_sl_api_Link
  have hlenp := hP.p.lenS ti_sl_api_Part
  obtain ⟨r, g1, M1, g2, g3⟩ := loop_up (E := ES) (me := n_l5_PlanPorts) (B := c_l5_PlanPorts_B1) (len := c.parts.length) (T := fun p => h_l5_PlanPorts_1 (.ptr 2 0 0) (.own 7 1 0 c.links.length) (.int .i64 p))
    (I := fun p M => M.blk 2 = some [.agg (cfgC c P L)] ∧ M.blk 7 = some (intSV (cntTo c p)))
    (Q := fun r => ∃ M', r = (.exit 0, ⟨(h_l5_PlanPorts_1 (.ptr 2 0 0) (.own 7 1 0 c.links.length) (.int .i64 c.parts.length)).set 21 (.bool false), M'⟩) ∧ M'.blk 7 = some (intSV (cntTo c c.parts.length)))
    (fun p M hp ⟨i1, i2⟩ => by
      left
      obtain ⟨M', a1, a2, a3⟩ := PlanPorts_part hP hll hp hpp (cntTo_len c p) (hw2 p hp) (hlp p) M i1 i2 (by decide)
      exact ⟨M', a1, a2, by rw [cntTo_succ]; exact a3⟩)
    (fun M ⟨i1, i2⟩ => by
      have hb0 := i1
      simp only [cfgC] at hb0
      exact ⟨_, by simp [c_l5_PlanPorts_B1, evW_reg, evW_chkr, isCst, loadS, partS, TK.agg, fieldAddrS, zeroS, storeS, setPart, splice, endS, resS, fieldS, h_l5_PlanPorts_1, hlenp, hb0], by simp, M, rfl, i2⟩) 0
    (((((Mem.empty.bump 4).set 2 (some [.agg (cfgC c P L)])).bump 5).set 7 (some (List.replicate c.links.length (.int .i64 0))))) (by omega) ⟨by simp, by simp [cntTo, intSV]⟩
  subst g2
  rw [hcnt] at g3
  have hlo : lenS ES.P T_sl_int (.own 7 1 0 c.links.length) = some (.int .i64 c.links.length) := by simp [lenS]
  obtain ⟨r, f1, M2, f2⟩ := loop_up (E := ES) (me := n_l5_PlanPorts) (B := c_l5_PlanPorts_B2) (len := c.links.length) (T := fun p => h_l5_PlanPorts_2 (.own 7 1 0 c.links.length) (.int .i64 p))
    (I := fun p M => M.blk 7 = some (intSV (List.replicate c.links.length 4)))
    (Q := fun r => ∃ M', r = (.exit 4, ⟨(h_l5_PlanPorts_2 (.own 7 1 0 c.links.length) (.int .i64 c.links.length)).set 103 (.bool false), M'⟩))
    (fun j M hj hI => by
      left
      have hw1 : IntKind.i64.wrap ((j : Int) + 1) = (j : Int) + 1 := i64_in (by omega) (by omega)
      have hix := own1_at (q := 7) hj
      have hg : (intSV (List.replicate c.links.length 4))[j]? = some (.int .i64 4) := by simp [intSV, hj]
      exact ⟨M, by simp [c_l5_PlanPorts_B2, evW_reg, evW_chkr, isCst, loadS, partS, TK.agg, fieldAddrS, zeroS, storeS, setPart, splice, endS, resS, fieldS, h_l5_PlanPorts_2, hj, hI, hix, hg, hw1, hlo], hI⟩)
    (fun M hI => ⟨_, by simp [c_l5_PlanPorts_B2, evW_reg, evW_chkr, isCst, loadS, partS, TK.agg, fieldAddrS, zeroS, storeS, setPart, splice, endS, resS, fieldS, h_l5_PlanPorts_2, hlo], by simp, M, rfl⟩) 0 M1 (by omega) g3
  subst f2
  simp [h_l5_PlanPorts_1, cfgC] at g1
  simp [h_l5_PlanPorts_2] at f1
  simp only [cfgC] at hm
  have hms : (c.links.length : Int) * 8 ≤ 281474976710656 := by omega
  have hms2 : (c.links.length : Int) ≤ 281474976710656 := by omega
  have hmk : mkSl ES.P T_sl_int 7 (.int .i64 c.links.length) (.int .i64 c.links.length) = some (.own 7 1 0 c.links.length, List.replicate c.links.length (.int .i64 0)) := by simp [mkSl, hms, hms2]
  simp [c_l5_PlanPorts, evW_reg, evW_chkr, isCst, loadS, partS, TK.agg, fieldAddrS, zeroS, storeS, setPart, splice, endS, resS, fieldS, hm, cfgC, hlenl, hmk, c_l5_PlanPorts_L1, g1, c_l5_PlanPorts_L2, f1, hms, hms2]

end Go.Proofs.YtbdliphlolajaaaDoor
