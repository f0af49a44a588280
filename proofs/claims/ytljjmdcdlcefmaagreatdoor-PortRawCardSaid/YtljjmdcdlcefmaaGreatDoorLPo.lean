/-
  Walks of the seat's functions: Po.
-/
import Derived.Test.YtljjmdcdlcefmaaGreatDoorEbMa
import Derived.Test.YtljjmdcdlcefmaaGreatDoorShMb
import Derived.Test.YtljjmdcdlcefmaaGreatDoorLPm
set_option linter.unusedVariables false
set_option linter.unusedSimpArgs false
set_option maxRecDepth 100000
namespace Go.Proofs.YtljjmdcdlcefmaaGreatDoor
open Go.Proofs.YtljjmdcdlcefmaaGreatDoor.Sh
/-! plan.links. -/
theorem plan_links_cf_c (get : Nat → Option (List SV)) {x : SV} {ls : List Link} (hx : Links x ls) (hb : ls.length < 4611686018427387904) (l : Link) {q : Nat} (hq : get q = some [encLink l]) :
    callP (PCw ES) get n_slices_ContainsFunc_sl_api_Link_api_Link [x, .fn n_plan_links_1 [] [.ptr q 0 0]] = some (.bool (twice ls l)) := by
  have p1 : pic get false 11 (.ptr q 0 0) = some (.rptr [encLink l] 0 0 false) := pic_ptr hq (by simp; exact pv_encLink l)
  rw [callP_pic (ys := [x, .fn n_plan_links_1 [] [.rptr [encLink l] 0 0 false]])]
  · exact slices_ContainsFunc_sl_api_Link_api_Link_ok elmLink ti_api_Link hx hb (npF (by rfl)) (fun x => decide (x.a = l.a ∧ x.b = l.b)) (fun get y v hy _ => by
      subst hy
      exact callP_of (plan_links_1_ok v l false) (by simp [encLink_np, np_rlink])) (np_fnlink l)
  · have q2 : pic get false picDepth (.fn n_plan_links_1 [] [.ptr q 0 0]) = some (.fn n_plan_links_1 [] [.rptr [encLink l] 0 0 false]) := pic_fn (by simp [p1]) rfl
    simp [pic_np hx.np12, q2]
theorem linkErr_bad {c : Cfg} {i : Nat} {l : Link} (h : badEnds c l = true) : linkErr c i l = 10 := by simp [linkErr, h]
set_option maxHeartbeats 4000000 in
theorem plan_links_ok {y : SV} {c : Cfg} (hc : CfgR y c) : PCw ES n_plan_links [y] = some (errO (linksErr c)) := by
  have hcy := hc
  obtain ⟨P, L, rfl, hP⟩ := hc
  refine PCw_ex (fun M0 => ?_) (errO_pv _)
  rw [b_plan_links]
  have hlen := hP.l.lenS ti_sl_api_Link
  have hlenp := hP.p.lenS ti_sl_api_Part
  by_cases h1 : 10 < c.links.length
  · have h1' : 10 < (c.links.length : Int) := by omega
    have e : linksErr c = some (9, 0) := by simp [linksErr, h1]
    simp [c_plan_links, evW_reg, evW_chkr, evW_chfr, isCst, loadS, partS, TK.agg, fieldAddrS, zeroS, storeS, setPart, splice, endS, resS, fieldS, cfgC, hlen, h1', e, errO]
  have h1' : ¬ 10 < (c.links.length : Int) := by omega
  have body : ∀ (p j : Nat) (M : Mem) (hj : j < c.links.length), M.blk p = some [.agg (cfgC c P L)] → p < M.next → ∃ M', M'.blk p = some [.agg (cfgC c P L)] ∧ p < M'.next ∧
      evW ES n_plan_links c_plan_links_B0 ⟨h_plan_links_0 (.ptr p 0 0) L (.int .i64 c.links.length) (.int .i64 j), M⟩ =
        some (if linkErr c j c.links[j] = 0 then (.normal, ⟨h_plan_links_0 (.ptr p 0 0) L (.int .i64 c.links.length) (.int .i64 ((j : Int) + 1)), M'⟩)
          else (.ret, ⟨(h_plan_links_0 .bad .bad .bad .bad).set 2 (errSV (linkErr c j c.links[j]) j), M'⟩)) := by
    intro p j M hj hb hlt
    have ha := Links.at hP.l hj
    have hw : IntKind.i64.wrap ((j : Int) + 1) = (j : Int) + 1 := i64_in (by omega) (by omega)
    have hne : ∀ k, (p = M.next + k) = False := fun k => by simp; omega
    have hb0 := hb
    simp only [cfgC] at hb0
    by_cases q1 : inMany c.links[j].a c.parts.length
    case neg =>
      have e : linkErr c j c.links[j] = 10 := linkErr_bad (by simp [badEnds, q1])
      rw [e]
      simp [c_plan_links_B0, evW_reg, evW_chkr, evW_chfr, isCst, loadS, partS, TK.agg, fieldAddrS, zeroS, storeS, setPart, splice, endS, resS, fieldS, h_plan_links_0, hj, hb0, ha, hlenp, hne, q1]
      exact ⟨rfl, by omega⟩
    by_cases q2 : inMany c.links[j].b c.parts.length
    case neg =>
      have e : linkErr c j c.links[j] = 10 := linkErr_bad (by simp [badEnds, q2])
      rw [e]
      simp [c_plan_links_B0, evW_reg, evW_chkr, evW_chfr, isCst, loadS, partS, TK.agg, fieldAddrS, zeroS, storeS, setPart, splice, endS, resS, fieldS, h_plan_links_0, hj, hb0, ha, hlenp, hne, q1, q2]
      exact ⟨rfl, by omega⟩
    by_cases q3 : c.links[j].b ≤ c.links[j].a
    case pos =>
      have e : linkErr c j c.links[j] = 10 := linkErr_bad (by simp [badEnds, q3])
      rw [e]
      simp [c_plan_links_B0, evW_reg, evW_chkr, evW_chfr, isCst, loadS, partS, TK.agg, fieldAddrS, zeroS, storeS, setPart, splice, endS, resS, fieldS, h_plan_links_0, hj, hb0, ha, hlenp, hne, q1, q2, q3]
      exact ⟨rfl, by omega⟩
    have hbe : badEnds c c.links[j] = false := by simp [badEnds, q1, q2, q3]
    obtain ⟨y, hs, hy⟩ := RSl.pre hP.l ti_sl_api_Link ti_api_Link elmLink (n := j) (by omega)
    have hcf := fun (get : Nat → Option (List SV)) (q : Nat) (hq : get q = some [encLink c.links[j]]) => plan_links_cf_c get hy (by have := hP.ll; simp; omega) c.links[j] (q := q) hq
    cases q4 : twice (c.links.take j) c.links[j] with
    | true =>
      have e : linkErr c j c.links[j] = 11 := by simp [linkErr, hbe, q4]
      rw [e]
      rw [q4] at hcf
      simp [c_plan_links_B0, evW_reg, evW_chkr, evW_chfr, isCst, loadS, partS, TK.agg, fieldAddrS, zeroS, storeS, setPart, splice, endS, resS, fieldS, h_plan_links_0, hj, hb0, ha, hlenp, hne, q1, q2, q3, hs, hcf]
      exact ⟨rfl, by omega⟩
    | false =>
      rw [q4] at hcf
      have hpo := fun get => plan_ports_c get (y := .agg (cfgC c P L)) ⟨P, L, rfl, hP⟩ hj hbe
      simp only [cfgC] at hpo
      cases q5 : (endBad c j c.links[j].a c.links[j].pa0 c.links[j].pa1 || endBad c j c.links[j].b c.links[j].pb0 c.links[j].pb1) with
      | true =>
        have e : linkErr c j c.links[j] = 12 := by simp only [linkErr, hbe, q4, q5]; rfl
        rw [e]
        rw [q5] at hpo
        simp [c_plan_links_B0, evW_reg, evW_chkr, evW_chfr, isCst, loadS, partS, TK.agg, fieldAddrS, zeroS, storeS, setPart, splice, endS, resS, fieldS, h_plan_links_0, hj, hb0, ha, hlenp, hne, q1, q2, q3, hs, hcf, hpo]
        exact ⟨rfl, by omega⟩
      | false =>
        have e : linkErr c j c.links[j] = 0 := by simp only [linkErr, hbe, q4, q5]; rfl
        rw [e]
        rw [q5] at hpo
        simp [c_plan_links_B0, evW_reg, evW_chkr, evW_chfr, isCst, loadS, partS, TK.agg, fieldAddrS, zeroS, storeS, setPart, splice, endS, resS, fieldS, h_plan_links_0, hj, hb0, ha, hlenp, hne, q1, q2, q3, hs, hcf, hpo, hw]
        exact ⟨rfl, by omega⟩
  obtain ⟨r, g1, M', g2⟩ := loop_find (E := ES) (me := n_plan_links) (B := c_plan_links_B0) (len := c.links.length) (T := fun j => h_plan_links_0 (.ptr M0.next 0 0) L (.int .i64 c.links.length) (.int .i64 j)) (I := fun _ M => M.blk M0.next = some [.agg (cfgC c P L)] ∧ M0.next < M.next)
    (p := fun j => (c.links[j]?.map fun l => linkErr c j l != 0).getD false)
    (Q := fun o r => ∃ M', r = match o with
      | some j => (.ret, ⟨(h_plan_links_0 .bad .bad .bad .bad).set 2 (errSV ((c.links[j]?.map fun l => linkErr c j l).getD 0) j), M'⟩)
      | none => (.exit 0, ⟨(h_plan_links_0 (.ptr M0.next 0 0) L (.int .i64 c.links.length) (.int .i64 c.links.length)).set 14 (.bool false), M'⟩))
    (fun j M hj ⟨hb, hlt⟩ hpj => by
      obtain ⟨M', a1, a2, a3⟩ := body M0.next j M hj hb hlt
      simp [hj] at hpj
      rw [if_pos hpj] at a3
      exact ⟨M', a3, a1, a2⟩)
    (fun j M hj ⟨hb, hlt⟩ hpj => by
      obtain ⟨M', a1, a2, a3⟩ := body M0.next j M hj hb hlt
      simp [hj] at hpj
      rw [if_neg hpj] at a3
      exact ⟨_, a3, by simp, M', by simp [hj]⟩)
    (fun M _ => by simp [c_plan_links_B0, evW_reg, evW_chkr, evW_chfr, isCst, loadS, partS, TK.agg, fieldAddrS, zeroS, storeS, setPart, splice, endS, resS, fieldS, h_plan_links_0]) ((M0.bump 2).set M0.next (some [.agg (cfgC c P L)])) ⟨by simp, by simp⟩
  have e : linksErr c = match (List.range c.links.length).find? (fun j => (c.links[j]?.map fun l => linkErr c j l != 0).getD false) with
    | some i => some ((c.links[i]?.map fun l => linkErr c i l).getD 0, (i : Int))
    | none => none := by simp [linksErr, h1]; rfl
  rw [e]
  cases hf : (List.range c.links.length).find? (fun j => (c.links[j]?.map fun l => linkErr c j l != 0).getD false) with
  | none =>
    rw [hf] at g2
    subst g2
    simp [h_plan_links_0, cfgC] at g1
    simp [c_plan_links, evW_reg, evW_chkr, evW_chfr, isCst, loadS, partS, TK.agg, fieldAddrS, zeroS, storeS, setPart, splice, endS, resS, fieldS, cfgC, hlen, h1', c_plan_links_L0, g1, errO]
  | some j =>
    rw [hf] at g2
    subst g2
    simp [h_plan_links_0, cfgC] at g1
    simp [c_plan_links, evW_reg, evW_chkr, evW_chfr, isCst, loadS, partS, TK.agg, fieldAddrS, zeroS, storeS, setPart, splice, endS, resS, fieldS, cfgC, hlen, h1', c_plan_links_L0, g1, errO]
theorem plan_links_c (get) {y : SV} {c : Cfg} (hc : CfgR y c) : callP (PCw ES) get n_plan_links [y] = some (errO (linksErr c)) := callP_of (plan_links_ok hc) (by simp [hc.np12])

end Go.Proofs.YtljjmdcdlcefmaaGreatDoor
