/-
  Walks of the seat's functions: Ws.
-/
import Derived.Test.YtbdliphlolajaaaDoorEb2
import Derived.Test.YtbdliphlolajaaaDoorShSv
import Derived.Test.YtbdliphlolajaaaDoorLWe
import Derived.Test.YtbdliphlolajaaaDoorLWa
set_option linter.unusedVariables false
set_option linter.unusedSimpArgs false
set_option maxRecDepth 100000
namespace Go.Proofs.YtbdliphlolajaaaDoor
open Go.Proofs.YtbdliphlolajaaaDoor.Sh
/-! The law PlanSpoiled. -/
theorem chk_mem {c : Cfg} {ps : List Part} {ls : List Link} {pid N : Nat} {L : SV} {X : Mem} (hp : X.blk pid = some (partSV ps)) (hL : OutR 6 L ⟨X.blk, N⟩ (linkSV ls)) (h1 : ps.length ≤ 1000) (h2 : ls.length ≤ 1000) :
    ∃ e k : Int, callP (PCw ES) X.blk n_plan_Check [.agg (cfgC c (.own pid 2 0 ps.length) L)] = some (.tup [.int .i64 e, .int .i64 k]) ∧ callP (PCw ES) X.blk n_r5_Check [.agg (cfgC c (.own pid 2 0 ps.length) L)] = some (.tup [.int .i64 e, .int .i64 k]) := by
  have hP2 : OutR 2 (.own pid 2 0 ps.length) ⟨X.blk, pid + 1⟩ (partSV ps) := .inr ⟨pid, by simp [partSV], hp, by simp⟩
  obtain ⟨P', p1, p2, p3, _⟩ := OutR.pic11 hP2 (get := X.blk) (fun id e a b hh => rfl) partSV_pv
  obtain ⟨L', l1, l2, l3, _⟩ := OutR.pic11 hL (get := X.blk) (fun id e a b hh => rfl) linkSV_pv
  have hP' : CfgP { c with parts := ps, links := ls } P' L' := ⟨RSl.of_map p2 p3, RSl.of_map l2 l3, by show ps.length ≤ _; omega, by show ls.length ≤ _; omega⟩
  have e : cfgC c P' L' = cfgC { c with parts := ps, links := ls } P' L' := rfl
  have hs : ([.agg (cfgC { c with parts := ps, links := ls } P' L')] : List SV).mapM (pic X.blk false picDepth) = some [.agg (cfgC { c with parts := ps, links := ls } P' L')] := by simp [pic_np hP'.npA]
  refine ⟨(checkG { c with parts := ps, links := ls }).1, (checkG { c with parts := ps, links := ls }).2, ?_, ?_⟩
  · rw [callP_pic (ys := [.agg (cfgC c P' L')]) (by simp [pic_cfg p1 l1]), e]
    have := plan_Check_c X.blk (y := .agg (cfgC { c with parts := ps, links := ls } P' L')) ⟨P', L', rfl, hP'⟩
    rwa [callP_pic hs] at this
  · rw [callP_pic (ys := [.agg (cfgC c P' L')]) (by simp [pic_cfg p1 l1]), e]
    have := r5_Check_c X.blk hP'
    rwa [callP_pic hs] at this
theorem linkSV_set (l : List Link) (i : Nat) (k : Link) : (linkSV l).set i (encLink k) = linkSV (l.set i k) := by unfold linkSV; rw [← List.map_set]
theorem partSV_set' (l : List Part) (i : Nat) (k : Part) : (partSV l).set i (encPart k) = partSV (l.set i k) := by unfold partSV; rw [← List.map_set]
theorem ownL_ix {q len j : Nat} (h : j < len) : indexAddrS ES.P T_sl_api_Link (.own q 6 0 len) (.int .i64 j) = some (.ptr q j 0) := by simp [indexAddrS, natS, h]
theorem wf8' {v : Int} (h : (Lit.int .u8 v).wf = true) : 0 ≤ v ∧ v ≤ 255 := by
  simp [Lit.wf, IntKind.min, IntKind.max, IntKind.bits, IntKind.signed] at h
  omega
@[simp] theorem conv_u8' (get : Nat → Option (List SV)) (v : Int) : convS ES.P get T_uint8 T_int (.int .u8 v) = some (.int .i64 (IntKind.i64.wrap v)) := by simp [convS]
set_option maxHeartbeats 16000000 in
theorem PlanSpoiled_walk (xs0 xs1 xs2 xs3 : List SV) (h0 : WT ES.P 8 T_int xs0) (h1 : WT ES.P 8 T_uint8 xs1) (h2 : WT ES.P 8 T_uint8 xs2) (h3 : WT ES.P 8 T_int xs3) :
    ∃ M', ICw ES n_l5_PlanSpoiled [mkV ES.P T_int xs0, mkV ES.P T_uint8 xs1, mkV ES.P T_uint8 xs2, mkV ES.P T_int xs3] .empty = some (.bool true, M') := by
  obtain ⟨n, _, e0, _⟩ := WT_int ti_int h0
  obtain ⟨w, _, e1, hw⟩ := WT_int ti_uint8 h1
  obtain ⟨a, _, e2, ha⟩ := WT_int ti_uint8 h2
  obtain ⟨v, _, e3, _⟩ := WT_int ti_int h3
  rw [e0, e1, e2, e3]
  have hw8 := wf8' hw
  have ha8 := wf8' ha
  have hmod : w.tmod 8 = w % 8 := Int.tmod_eq_emod_of_nonneg hw8.1
  obtain ⟨k, rfl⟩ : ∃ k : Nat, a = k := ⟨a.toNat, by omega⟩
  have wk : IntKind.i64.wrap (k : Int) = k := i64_in (by omega) (by omega)
  obtain ⟨pid, L, M4, hm, hp, ⟨M, hL, hg⟩, hlo, hids, hpn4, hln4, hz4⟩ := Made_ic4 n
  have hpn := partsN_le (mOf n)
  have hpl := netC_parts (mOf n)
  have hll := netC_links (mOf n)
  generalize madeC n = c at hm
  generalize hps : (netC (mOf n)).parts = ps at hp hpl
  generalize hls : (netC (mOf n)).links = ls at hL hll
  rw [← hpl] at hm hpn
  have hq2 : (pid = 2) = False := by simp; omega
  have h2q : (2 = pid) = False := by simp; omega
  -- a part's number
  have hpm : (k : Int).tmod ps.length = ((k % ps.length : Nat) : Int) := by rw [Int.tmod_eq_emod_of_nonneg (by omega)]; rfl
  have hpi : k % ps.length < ps.length := Nat.mod_lt _ (by omega)
  have hbr : binS ES.P .rem T_int false (.int .i64 k) (.int .i64 ps.length) = some (.int .i64 ((k % ps.length : Nat) : Int)) := by rw [← hpm]; exact binS_rem (by omega)
  generalize k % ps.length = j at hpi hbr
  have hpa := ownP_ix (q := pid) hpi
  have hpg : (partSV ps)[j]? = some (.agg [.int .i64 ps[j].nodes, .int .i64 ps[j].faults]) := by simp [partSV, hpi, encPart, -fold_part]
  have hs1 : (partSV ps).set j (.agg [.int .i64 v, .int .i64 ps[j].faults]) = partSV (ps.set j ⟨v, ps[j].faults⟩) := partSV_set' ps j ⟨v, ps[j].faults⟩
  have hs2 : (partSV ps).set j (.agg [.int .i64 ps[j].nodes, .int .i64 v]) = partSV (ps.set j ⟨ps[j].nodes, v⟩) := partSV_set' ps j ⟨ps[j].nodes, v⟩
  have hlenP : lenS ES.P T_sl_api_Part (.own pid 2 0 ps.length) = some (.int .i64 ps.length) := by simp [lenS]
  rw [b_l5_PlanSpoiled]
  simp only [cfgC] at hm
  rcases hL with ⟨q1, rfl⟩ | ⟨lid, rfl, q2, q3⟩
  · -- no links
    have c1 := fun (X : Mem) (hX : X.blk pid = some (partSV (ps.set j ⟨v, ps[j].faults⟩))) => chk_mem (c := c) (ps := ps.set j ⟨v, ps[j].faults⟩) (ls := []) (pid := pid) (N := 0) (L := .nilsl) (X := X) hX (.inl ⟨rfl, rfl⟩) (by simp only [List.length_set]; omega) (by simp)
    have c2 := fun (X : Mem) (hX : X.blk pid = some (partSV (ps.set j ⟨ps[j].nodes, v⟩))) => chk_mem (c := c) (ps := ps.set j ⟨ps[j].nodes, v⟩) (ls := []) (pid := pid) (N := 0) (L := .nilsl) (X := X) hX (.inl ⟨rfl, rfl⟩) (by simp only [List.length_set]; omega) (by simp)
    have hlen0 : lenS ES.P T_sl_api_Link .nilsl = some (.int .i64 0) := by simp [lenS]
    by_cases hk6 : w % 8 = 6
    · obtain ⟨e, f, d1, d2⟩ := c1 ((M4.set 2 (some [.agg (cfgC c (.own pid 2 0 ps.length) .nilsl)])).set pid (some (partSV (ps.set j ⟨v, ps[j].faults⟩)))) (by simp)
      simp only [cfgC, List.length_set] at d1 d2
      simp (maxSteps := 4000000) [c_l5_PlanSpoiled, evW_reg, evW_chkr, isCst, loadS, partS, TK.agg, fieldAddrS, zeroS, storeS, setPart, splice, endS, resS, fieldS, hm, hlen0, hmod, hk6, wk, hlenP, hbr, hpa, hpg, hp, hs1, hq2, h2q, d1, d2, -fold_part, Nat.add_assoc]
    · obtain ⟨e, f, d1, d2⟩ := c2 ((M4.set 2 (some [.agg (cfgC c (.own pid 2 0 ps.length) .nilsl)])).set pid (some (partSV (ps.set j ⟨ps[j].nodes, v⟩)))) (by simp)
      simp only [cfgC, List.length_set] at d1 d2
      simp (maxSteps := 4000000) [c_l5_PlanSpoiled, evW_reg, evW_chkr, isCst, loadS, partS, TK.agg, fieldAddrS, zeroS, storeS, setPart, splice, endS, resS, fieldS, hm, hlen0, hmod, hk6, wk, hlenP, hbr, hpa, hpg, hp, hs2, hq2, h2q, d1, d2, -fold_part, Nat.add_assoc]
  · -- links in own memory
    obtain ⟨hl4, hlp⟩ := hids _ _ _ _ rfl
    have hll2 : (linkSV ls).length = ls.length := by simp [linkSV]
    rw [hll2] at hm hg
    have hgl : M4.blk lid = some (linkSV ls) := (hg _ _ _ _ rfl).trans q2
    have hl2 : (lid = 2) = False := by simp; omega
    have h2l : (2 = lid) = False := by simp; omega
    have hlpF : (lid = pid) = False := by simp [hlp]
    have hplF : (pid = lid) = False := by simp; exact fun e => hlp e.symm
    have hlenL : lenS ES.P T_sl_api_Link (.own lid 6 0 ls.length) = some (.int .i64 ls.length) := by simp [lenS]
    have oL : ∀ (X : Mem) (ks : List Link), X.blk lid = some (linkSV ks) → ks.length = ls.length → OutR 6 (.own lid 6 0 ls.length) ⟨X.blk, lid + 1⟩ (linkSV ks) := fun X ks hX hk => .inr ⟨lid, by simp [linkSV, hk], hX, by simp⟩
    by_cases hA : 0 < ls.length ∧ w % 8 < 6
    · have hpos : 0 < (ls.length : Int) := by omega
      have hlm : (k : Int).tmod ls.length = ((k % ls.length : Nat) : Int) := by rw [Int.tmod_eq_emod_of_nonneg (by omega)]; rfl
      have hli : k % ls.length < ls.length := Nat.mod_lt _ hA.1
      have hbl : binS ES.P .rem T_int false (.int .i64 k) (.int .i64 ls.length) = some (.int .i64 ((k % ls.length : Nat) : Int)) := by rw [← hlm]; exact binS_rem (by omega)
      generalize k % ls.length = i at hli hbl
      have hLx := ownL_ix (q := lid) hli
      have hLg : (linkSV ls)[i]? = some (.agg [.int .i64 ls[i].a, .int .i64 ls[i].b, .int .i64 ls[i].pa0, .int .i64 ls[i].pa1, .int .i64 ls[i].pb0, .int .i64 ls[i].pb1]) := by simp [linkSV, hli, encLink, -fold_link]
      have h6 := hA.2
      have hcase : w % 8 = 0 ∨ w % 8 = 1 ∨ w % 8 = 2 ∨ w % 8 = 3 ∨ w % 8 = 4 ∨ w % 8 = 5 := by omega
      rcases hcase with hk | hk | hk | hk | hk | hk
      · have sl : (linkSV ls).set i (.agg [.int .i64 v, .int .i64 ls[i].b, .int .i64 ls[i].pa0, .int .i64 ls[i].pa1, .int .i64 ls[i].pb0, .int .i64 ls[i].pb1]) = linkSV (ls.set i ⟨v, ls[i].b, ls[i].pa0, ls[i].pa1, ls[i].pb0, ls[i].pb1⟩) := linkSV_set ls i ⟨v, ls[i].b, ls[i].pa0, ls[i].pa1, ls[i].pb0, ls[i].pb1⟩
        obtain ⟨e, f, d1, d2⟩ := chk_mem (c := c) (ps := ps) (ls := ls.set i ⟨v, ls[i].b, ls[i].pa0, ls[i].pa1, ls[i].pb0, ls[i].pb1⟩) (pid := pid) (N := lid + 1) (L := .own lid 6 0 ls.length) (X := (M4.set 2 (some [.agg (cfgC c (.own pid 2 0 ps.length) (.own lid 6 0 ls.length))])).set lid (some (linkSV (ls.set i ⟨v, ls[i].b, ls[i].pa0, ls[i].pa1, ls[i].pb0, ls[i].pb1⟩)))) (by simp [hplF, hq2, hp]) (oL _ _ (by simp) (by simp)) (by omega) (by simp only [List.length_set]; omega)
        simp only [cfgC] at d1 d2
        simp (maxSteps := 4000000) [c_l5_PlanSpoiled, evW_reg, evW_chkr, isCst, loadS, partS, TK.agg, fieldAddrS, zeroS, storeS, setPart, splice, endS, resS, fieldS, hm, hlenL, hA.1, hmod, hk, wk, hbl, hLx, hLg, hgl, sl, hl2, h2l, hlpF, hplF, hq2, h2q, d1, d2, -fold_link, Nat.add_assoc]
      · have sl : (linkSV ls).set i (.agg [.int .i64 ls[i].a, .int .i64 v, .int .i64 ls[i].pa0, .int .i64 ls[i].pa1, .int .i64 ls[i].pb0, .int .i64 ls[i].pb1]) = linkSV (ls.set i ⟨ls[i].a, v, ls[i].pa0, ls[i].pa1, ls[i].pb0, ls[i].pb1⟩) := linkSV_set ls i ⟨ls[i].a, v, ls[i].pa0, ls[i].pa1, ls[i].pb0, ls[i].pb1⟩
        obtain ⟨e, f, d1, d2⟩ := chk_mem (c := c) (ps := ps) (ls := ls.set i ⟨ls[i].a, v, ls[i].pa0, ls[i].pa1, ls[i].pb0, ls[i].pb1⟩) (pid := pid) (N := lid + 1) (L := .own lid 6 0 ls.length) (X := (M4.set 2 (some [.agg (cfgC c (.own pid 2 0 ps.length) (.own lid 6 0 ls.length))])).set lid (some (linkSV (ls.set i ⟨ls[i].a, v, ls[i].pa0, ls[i].pa1, ls[i].pb0, ls[i].pb1⟩)))) (by simp [hplF, hq2, hp]) (oL _ _ (by simp) (by simp)) (by omega) (by simp only [List.length_set]; omega)
        simp only [cfgC] at d1 d2
        simp (maxSteps := 4000000) [c_l5_PlanSpoiled, evW_reg, evW_chkr, isCst, loadS, partS, TK.agg, fieldAddrS, zeroS, storeS, setPart, splice, endS, resS, fieldS, hm, hlenL, hA.1, hmod, hk, wk, hbl, hLx, hLg, hgl, sl, hl2, h2l, hlpF, hplF, hq2, h2q, d1, d2, -fold_link, Nat.add_assoc]
      · have sl : (linkSV ls).set i (.agg [.int .i64 ls[i].a, .int .i64 ls[i].b, .int .i64 v, .int .i64 ls[i].pa1, .int .i64 ls[i].pb0, .int .i64 ls[i].pb1]) = linkSV (ls.set i ⟨ls[i].a, ls[i].b, v, ls[i].pa1, ls[i].pb0, ls[i].pb1⟩) := linkSV_set ls i ⟨ls[i].a, ls[i].b, v, ls[i].pa1, ls[i].pb0, ls[i].pb1⟩
        obtain ⟨e, f, d1, d2⟩ := chk_mem (c := c) (ps := ps) (ls := ls.set i ⟨ls[i].a, ls[i].b, v, ls[i].pa1, ls[i].pb0, ls[i].pb1⟩) (pid := pid) (N := lid + 1) (L := .own lid 6 0 ls.length) (X := (M4.set 2 (some [.agg (cfgC c (.own pid 2 0 ps.length) (.own lid 6 0 ls.length))])).set lid (some (linkSV (ls.set i ⟨ls[i].a, ls[i].b, v, ls[i].pa1, ls[i].pb0, ls[i].pb1⟩)))) (by simp [hplF, hq2, hp]) (oL _ _ (by simp) (by simp)) (by omega) (by simp only [List.length_set]; omega)
        simp only [cfgC] at d1 d2
        simp (maxSteps := 4000000) [c_l5_PlanSpoiled, evW_reg, evW_chkr, isCst, loadS, partS, TK.agg, fieldAddrS, zeroS, storeS, setPart, splice, endS, resS, fieldS, hm, hlenL, hA.1, hmod, hk, wk, hbl, hLx, hLg, hgl, sl, hl2, h2l, hlpF, hplF, hq2, h2q, d1, d2, -fold_link, Nat.add_assoc]
      · have sl : (linkSV ls).set i (.agg [.int .i64 ls[i].a, .int .i64 ls[i].b, .int .i64 ls[i].pa0, .int .i64 v, .int .i64 ls[i].pb0, .int .i64 ls[i].pb1]) = linkSV (ls.set i ⟨ls[i].a, ls[i].b, ls[i].pa0, v, ls[i].pb0, ls[i].pb1⟩) := linkSV_set ls i ⟨ls[i].a, ls[i].b, ls[i].pa0, v, ls[i].pb0, ls[i].pb1⟩
        obtain ⟨e, f, d1, d2⟩ := chk_mem (c := c) (ps := ps) (ls := ls.set i ⟨ls[i].a, ls[i].b, ls[i].pa0, v, ls[i].pb0, ls[i].pb1⟩) (pid := pid) (N := lid + 1) (L := .own lid 6 0 ls.length) (X := (M4.set 2 (some [.agg (cfgC c (.own pid 2 0 ps.length) (.own lid 6 0 ls.length))])).set lid (some (linkSV (ls.set i ⟨ls[i].a, ls[i].b, ls[i].pa0, v, ls[i].pb0, ls[i].pb1⟩)))) (by simp [hplF, hq2, hp]) (oL _ _ (by simp) (by simp)) (by omega) (by simp only [List.length_set]; omega)
        simp only [cfgC] at d1 d2
        simp (maxSteps := 4000000) [c_l5_PlanSpoiled, evW_reg, evW_chkr, isCst, loadS, partS, TK.agg, fieldAddrS, zeroS, storeS, setPart, splice, endS, resS, fieldS, hm, hlenL, hA.1, hmod, hk, wk, hbl, hLx, hLg, hgl, sl, hl2, h2l, hlpF, hplF, hq2, h2q, d1, d2, -fold_link, Nat.add_assoc]
      · have sl : (linkSV ls).set i (.agg [.int .i64 ls[i].a, .int .i64 ls[i].b, .int .i64 ls[i].pa0, .int .i64 ls[i].pa1, .int .i64 v, .int .i64 ls[i].pb1]) = linkSV (ls.set i ⟨ls[i].a, ls[i].b, ls[i].pa0, ls[i].pa1, v, ls[i].pb1⟩) := linkSV_set ls i ⟨ls[i].a, ls[i].b, ls[i].pa0, ls[i].pa1, v, ls[i].pb1⟩
        obtain ⟨e, f, d1, d2⟩ := chk_mem (c := c) (ps := ps) (ls := ls.set i ⟨ls[i].a, ls[i].b, ls[i].pa0, ls[i].pa1, v, ls[i].pb1⟩) (pid := pid) (N := lid + 1) (L := .own lid 6 0 ls.length) (X := (M4.set 2 (some [.agg (cfgC c (.own pid 2 0 ps.length) (.own lid 6 0 ls.length))])).set lid (some (linkSV (ls.set i ⟨ls[i].a, ls[i].b, ls[i].pa0, ls[i].pa1, v, ls[i].pb1⟩)))) (by simp [hplF, hq2, hp]) (oL _ _ (by simp) (by simp)) (by omega) (by simp only [List.length_set]; omega)
        simp only [cfgC] at d1 d2
        simp (maxSteps := 4000000) [c_l5_PlanSpoiled, evW_reg, evW_chkr, isCst, loadS, partS, TK.agg, fieldAddrS, zeroS, storeS, setPart, splice, endS, resS, fieldS, hm, hlenL, hA.1, hmod, hk, wk, hbl, hLx, hLg, hgl, sl, hl2, h2l, hlpF, hplF, hq2, h2q, d1, d2, -fold_link, Nat.add_assoc]
      · have hln : lid < M4.next := hln4 _ _ _ _ rfl
        have hLg2 : (linkSV ls)[i]? = some (encLink ls[i]) := by simp [linkSV, hli]
        have hO2 : OutR 6 (.own lid 6 0 ls.length) (M4.set 2 (some [.agg (cfgC c (.own pid 2 0 ps.length) (.own lid 6 0 ls.length))])) (linkSV ls) := .inr ⟨lid, by simp [linkSV], by simp [hl2, hgl], by simpa using hln⟩
        have hap := OutR.next (P := ES.P) (o := .own lid 6 0 ls.length) (M := M4.set 2 (some [.agg (cfgC c (.own pid 2 0 ps.length) (.own lid 6 0 ls.length))])) (X := ((M4.set 2 (some [.agg (cfgC c (.own pid 2 0 ps.length) (.own lid 6 0 ls.length))])).bump 11).set (M4.next + 7) (some [encLink ls[i]])) (items := linkSV ls) (a := M4.next + 8) (s := M4.next + 7) (v := encLink ls[i])
          (get := seenM (((M4.set 2 (some [.agg (cfgC c (.own pid 2 0 ps.length) (.own lid 6 0 ls.length))])).bump 11).set (M4.next + 7) (some [encLink ls[i]])) M4.next 11 (some [0, 1, 2, 3, 4, 5, 6, 7])) ti_sl_api_Link ti_api_Link rfl (by decide) rfl rfl hO2 (by simp [linkSV]; omega) (by simp [linkSV]; omega)
          (fun id hid => by
            have hid' : id < M4.next := by simpa using hid
            have x1 : ¬ (id = M4.next + 7) := by omega
            simp only [seenM_some, hid', decide_true, Bool.true_or, if_true]
            rw [Mem.blk_set, if_neg x1]
            rfl) rfl (by simp) (fun id hid => by
            have hid' : id < M4.next := by simpa using hid
            have x1 : ¬ (id = M4.next + 7) := by omega
            rw [Mem.blk_set, if_neg x1]
            rfl) (by simp) (by simp)
        obtain ⟨o', X', a1, a2, a3, a4, a5, a6⟩ := hap
        have kc : X'.blk 2 = some [.agg (cfgC c (.own pid 2 0 ps.length) (.own lid 6 0 ls.length))] := by
          rw [a4 2 (by simp; omega) (by intro e x y hh; cases hh; omega)]
          simp
        have kp : X'.blk pid = some (partSV ps) := by
          rw [a4 pid (by simpa using hpn4) (by intro e x y hh; cases hh; exact hlp rfl)]
          simp [hq2, hp]
        have ho1 : o'.cells = [o'] := by rcases a3 with ⟨_, rfl⟩ | ⟨id, rfl, _⟩ <;> rfl
        have ho2 : o'.sto = true := by rcases a3 with ⟨_, rfl⟩ | ⟨id, rfl, _⟩ <;> rfl
        have hOx : OutR 6 o' ⟨(X'.set 2 (some [.agg (cfgC c (.own pid 2 0 ps.length) o')])).blk, X'.next⟩ (linkSV (ls ++ [ls[i]])) := by
          have e : linkSV (ls ++ [ls[i]]) = linkSV ls ++ [encLink ls[i]] := by simp [linkSV]
          rw [e]
          rcases a3 with ⟨q1, q2⟩ | ⟨id, q1, q2, q3⟩
          · exact .inl ⟨q1, q2⟩
          · refine .inr ⟨id, q1, ?_, q3⟩
            have := a6 _ _ _ _ q1
            have h5 : ¬ (id = 2) := by simp at this; omega
            simp [h5, q2]
        obtain ⟨e, f, d1, d2⟩ := chk_mem (c := c) (ps := ps) (ls := ls ++ [ls[i]]) (pid := pid) (N := X'.next) (L := o') (X := X'.set 2 (some [.agg (cfgC c (.own pid 2 0 ps.length) o')])) (by simp [hq2, kp]) hOx (by omega) (by simp; omega)
        have hvb : ∀ (q : Nat), bldSl ES.P T_sl_api_Link 1 q [(0, encLink ls[i])] = some (.own q 6 0 1, [encLink ls[i]]) := fun q => by simp [bldSl, buildRow]
        have hz : (2 < M4.next) := by omega
        simp only [cfgC] at d1 d2 a1 a2 kc
        simp (maxSteps := 4000000) [c_l5_PlanSpoiled, evW_reg, evW_chkr, isCst, loadS, partS, TK.agg, fieldAddrS, zeroS, storeS, setPart, splice, endS, resS, fieldS, hm, hlenL, hA.1, hmod, hk, wk, hbl, hLx, hLg2, hgl, hl2, h2l, hlpF, hplF, hq2, h2q, hz, hln, hvb, a1, a2, kc, ho1, ho2, d1, d2, Nat.add_assoc]
    · have hno : ¬ (0 < (ls.length : Int) ∧ w % 8 < 6) := by omega
      by_cases hk6 : w % 8 = 6
      · obtain ⟨e, f, d1, d2⟩ := chk_mem (c := c) (ps := ps.set j ⟨v, ps[j].faults⟩) (ls := ls) (pid := pid) (N := lid + 1) (L := .own lid 6 0 ls.length) (X := (M4.set 2 (some [.agg (cfgC c (.own pid 2 0 ps.length) (.own lid 6 0 ls.length))])).set pid (some (partSV (ps.set j ⟨v, ps[j].faults⟩)))) (by simp) (oL _ _ (by simp [hlpF, hl2, hgl]) rfl) (by simp only [List.length_set]; omega) (by omega)
        simp only [cfgC, List.length_set] at d1 d2
        by_cases hpos : 0 < ls.length
        · have h6 : ¬ w % 8 < 6 := by omega
          simp (maxSteps := 4000000) [c_l5_PlanSpoiled, evW_reg, evW_chkr, isCst, loadS, partS, TK.agg, fieldAddrS, zeroS, storeS, setPart, splice, endS, resS, fieldS, hm, hlenL, hpos, hmod, hk6, wk, hlenP, hbr, hpa, hpg, hp, hs1, hq2, h2q, d1, d2, -fold_part, Nat.add_assoc]
        · simp (maxSteps := 4000000) [c_l5_PlanSpoiled, evW_reg, evW_chkr, isCst, loadS, partS, TK.agg, fieldAddrS, zeroS, storeS, setPart, splice, endS, resS, fieldS, hm, hlenL, hpos, hmod, hk6, wk, hlenP, hbr, hpa, hpg, hp, hs1, hq2, h2q, d1, d2, -fold_part, Nat.add_assoc]
      · obtain ⟨e, f, d1, d2⟩ := chk_mem (c := c) (ps := ps.set j ⟨ps[j].nodes, v⟩) (ls := ls) (pid := pid) (N := lid + 1) (L := .own lid 6 0 ls.length) (X := (M4.set 2 (some [.agg (cfgC c (.own pid 2 0 ps.length) (.own lid 6 0 ls.length))])).set pid (some (partSV (ps.set j ⟨ps[j].nodes, v⟩)))) (by simp) (oL _ _ (by simp [hlpF, hl2, hgl]) rfl) (by simp only [List.length_set]; omega) (by omega)
        simp only [cfgC, List.length_set] at d1 d2
        by_cases hpos : 0 < ls.length
        · have h6 : ¬ w % 8 < 6 := by omega
          simp (maxSteps := 4000000) [c_l5_PlanSpoiled, evW_reg, evW_chkr, isCst, loadS, partS, TK.agg, fieldAddrS, zeroS, storeS, setPart, splice, endS, resS, fieldS, hm, hlenL, hpos, hmod, hk6, h6, wk, hlenP, hbr, hpa, hpg, hp, hs2, hq2, h2q, d1, d2, -fold_part, Nat.add_assoc]
        · simp (maxSteps := 4000000) [c_l5_PlanSpoiled, evW_reg, evW_chkr, isCst, loadS, partS, TK.agg, fieldAddrS, zeroS, storeS, setPart, splice, endS, resS, fieldS, hm, hlenL, hpos, hmod, hk6, wk, hlenP, hbr, hpa, hpg, hp, hs2, hq2, h2q, d1, d2, -fold_part, Nat.add_assoc]

end Go.Proofs.YtbdliphlolajaaaDoor
