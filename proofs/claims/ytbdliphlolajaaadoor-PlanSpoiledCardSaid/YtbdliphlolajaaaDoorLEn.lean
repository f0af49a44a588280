/-
  Walks of the seat's functions: En.
-/
import Derived.Test.YtbdliphlolajaaaDoorEb2
import Derived.Test.YtbdliphlolajaaaDoorShSv
import Derived.Test.YtbdliphlolajaaaDoorLIs
import Derived.Test.YtbdliphlolajaaaDoorLRa
set_option linter.unusedVariables false
set_option linter.unusedSimpArgs false
set_option maxRecDepth 100000
namespace Go.Proofs.YtbdliphlolajaaaDoor
open Go.Proofs.YtbdliphlolajaaaDoor.Sh
/-! plan.Ends. -/
def portsOfEnd (i : Nat) (l : Link) (side : Nat) (part : Int) : List Port := if (endOf l side).1 = part then [⟨(endOf l side).2.1, i, 0, side⟩, ⟨(endOf l side).2.2, i, 1, side⟩] else []
def portsOfLink (part : Int) (i : Nat) (l : Link) : List Port := portsOfEnd i l 0 part ++ portsOfEnd i l 1 part
def endsK (ls : List Link) (part : Int) (k : Nat) : List Port := (List.range k).flatMap fun i => (ls[i]?.map (portsOfLink part i)).getD []
def endsL (ls : List Link) (part : Int) : List Port := endsK ls part ls.length
theorem endsK_succ {ls : List Link} {part : Int} {k : Nat} (h : k < ls.length) : endsK ls part (k + 1) = endsK ls part k ++ portsOfLink part k ls[k] := by
  simp [endsK, List.range_succ, h]
theorem portsOfLink_len (part : Int) (i : Nat) (l : Link) : (portsOfLink part i l).length ≤ 4 := by
  unfold portsOfLink portsOfEnd
  split <;> split <;> simp
theorem endsK_len {ls : List Link} {part : Int} : ∀ {k : Nat}, k ≤ ls.length → (endsK ls part k).length ≤ 4 * k
  | 0, _ => by simp [endsK]
  | k + 1, h => by
    rw [endsK_succ (by omega), List.length_append]
    have := endsK_len (ls := ls) (part := part) (k := k) (by omega)
    have := portsOfLink_len part k ls[k]
    omega
theorem portSV_append (a b : List Port) : portSV (a ++ b) = portSV a ++ portSV b := by simp [portSV]
theorem OutR.app2 {get : Nat → Option (List SV)} {o : SV} {M : Mem} {items : List SV} {a s : Nat} {v u : SV} (hI : OutR 4 o M items) (h1 : items.length ≤ 1000)
    (hg : ∀ id, id < M.next → get id = M.blk id) (hv : v.cells.length = 4) (hu : u.cells.length = 4) (hs : get s = some [v, u]) :
    appendS ES.P get a T_sl_api_Port T_sl_api_Port o (.own s 4 0 2) = some (.own a 4 0 (items.length + 2), killO o ++ [(a, some (items ++ [v, u]))]) := by
  have hun : Sh.unif 4 [v, u] = true := by simp [Sh.unif, hv, hu]
  rcases hI with ⟨rfl, rfl⟩ | ⟨id, rfl, hid, hlt⟩
  · rw [appendS_nil (ys := [v, u]) ti_sl_api_Port ti_sl_api_Port ti_api_Port rfl (by simp [itemsS, hs]) (by decide) hun (by simp [srcFits]) rfl rfl (by simp) (by simp)]
    rfl
  · rw [appendS_own (ys := [v, u]) (xs := items) ti_sl_api_Port ti_sl_api_Port ti_api_Port rfl (by simp [itemsS, hs]) (by decide) hun (by simp [srcFits]) rfl rfl ((hg id hlt).trans hid) (Nat.le_refl _) (by simp; omega) (by simp; omega)]
    simp [killO]
set_option maxHeartbeats 4000000 in
theorem ends_side {part : Int} {i : Nat} {l : Link} {L ln t14 : SV} {s : Nat} {o : SV} {items : List Port} {k : Nat} (hk : k < 2) (M : Mem) (hs : M.blk s = some [encLink l]) (hls : s < M.next) (hO : OutR 4 o M (portSV items)) (hlen : items.length ≤ 1000)
    (hne : ∀ id e a b, o = .own id e a b → id ≠ s) :
    ∃ M' o', evW ES n_plan_Ends c_plan_Ends_B0 ⟨h_plan_Ends_0 (.int .i64 part) o (.int .i64 i) (.ptr s 0 0) L ln t14 (.int .i64 k), M⟩ =
        some (.normal, ⟨h_plan_Ends_0 (.int .i64 part) o' (.int .i64 i) (.ptr s 0 0) L ln t14 (.int .i64 ((k + 1 : Nat) : Int)), M'⟩) ∧
      OutR 4 o' M' (portSV (items ++ portsOfEnd i l k part)) ∧ M'.blk s = some [encLink l] ∧ M.next ≤ M'.next ∧ (∀ id e a b, o' = .own id e a b → id ≠ s) := by
  have hk' : (k : Int) < 2 := by omega
  have hw : IntKind.i64.wrap ((k : Int) + 1) = (k : Int) + 1 := i64_in (by omega) (by omega)
  have hns : ∀ k, (s = M.next + k) = False := fun k => by simp; omega
  have hc := fun get => plan_end_c get l k
  unfold portsOfEnd
  generalize endOf l k = e at hc ⊢
  obtain ⟨e1, e2, e3⟩ := e
  simp only at hc ⊢
  by_cases h : e1 = part
  · have hO1 : OutR 4 o ((M.bump 9).set (M.next + 6) (some [.agg [.int .i64 e2, .int .i64 e3]])) (portSV items) := hO.old (fun id hid => by
      have : ¬ (id = M.next + 6) := by omega
      simp [this]) (by simp)
    have b0 : bldS ES.P T_api_Port [(0, .int .i64 e2), (1, .int .i64 i), (3, .int .i64 k)] = some (encPort ⟨e2, i, 0, k⟩) := by simp [bldS, placesOf, buildS, splice, encPort]
    have b1 : bldS ES.P T_api_Port [(0, .int .i64 e3), (1, .int .i64 i), (2, .int .i64 1), (3, .int .i64 k)] = some (encPort ⟨e3, i, 1, k⟩) := by simp [bldS, placesOf, buildS, splice, encPort]
    have bs : ∀ q, bldSl ES.P T_sl_api_Port 2 q [(0, encPort ⟨e2, i, 0, k⟩), (1, encPort ⟨e3, i, 1, k⟩)] = some (.own q 4 0 2, [encPort ⟨e2, i, 0, k⟩, encPort ⟨e3, i, 1, k⟩]) := fun q => by simp [bldSl, buildRow]
    have hap := fun (get : Nat → Option (List SV)) hg hs2 => OutR.app2 (get := get) (a := M.next + 9 + 12) (s := M.next + 9 + 11) (v := encPort ⟨e2, i, 0, k⟩) (u := encPort ⟨e3, i, 1, k⟩) hO1 (by simpa [portSV] using hlen) hg rfl rfl hs2
    rw [if_pos h]
    have hlen2 : (portSV items).length = items.length := by simp [portSV]
    have hap2 := hap ((((M.bump 9).set (M.next + 6) (some [.agg [.int .i64 e2, .int .i64 e3]])).bump 14).set (M.next + 9 + 11) (some [encPort ⟨e2, i, 0, k⟩, encPort ⟨e3, i, 1, k⟩])).blk
      (fun id hid => by
        simp at hid
        have : ¬ (id = M.next + 9 + 11) := by omega
        simp [this]) (by simp)
    have hkill : ∀ (X : Mem), (X.sets (killO o)).blk s = X.blk s := by
      intro X
      cases o <;> simp [killO, Mem.sets]
      rename_i id e a b
      intro hh
      exact absurd hh.symm (hne id e a b rfl)
    refine ⟨(((((M.bump 9).set (M.next + 6) (some [.agg [.int .i64 e2, .int .i64 e3]])).bump 14).set (M.next + 9 + 11) (some [encPort ⟨e2, i, 0, k⟩, encPort ⟨e3, i, 1, k⟩])).sets (killO o)).set (M.next + 9 + 12) (some (portSV items ++ [encPort ⟨e2, i, 0, k⟩, encPort ⟨e3, i, 1, k⟩])),
      .own (M.next + 9 + 12) 4 0 ((portSV items).length + 2), ?_, ?_, ?_, ?_, ?_⟩
    · simp [c_plan_Ends_B0, evW_reg, evW_chkr, isCst, loadS, partS, TK.agg, fieldAddrS, zeroS, storeS, setPart, splice, endS, resS, fieldS, h_plan_Ends_0, hk, hk', hs, hls, hc, h, hw, b0, b1, bs, hap2]
    · rw [portSV_append]
      exact .inr ⟨M.next + 9 + 12, by simp [portSV], by simp [portSV], by simp⟩
    · have h1 : ¬ (s = M.next + 9 + 12) := by omega
      have h2 : ¬ (s = M.next + 9 + 11) := by omega
      simp only [Mem.blk_set, h1, if_false]
      rw [hkill]
      simp [h2, hns, hs]
    · simp; omega
    · intro id e a b hh
      cases hh
      omega
  · rw [if_neg h]
    refine ⟨(M.bump 9).set (M.next + 6) (some [.agg [.int .i64 e2, .int .i64 e3]]), o, ?_, ?_, by simp [hns, hs], by simp, hne⟩
    · simp [c_plan_Ends_B0, evW_reg, evW_chkr, isCst, loadS, partS, TK.agg, fieldAddrS, zeroS, storeS, setPart, splice, endS, resS, fieldS, h_plan_Ends_0, hk, hk', hs, hls, hc, h, hw]
    · rw [List.append_nil]
      exact hO.old (fun id hid => by
        have : ¬ (id = M.next + 6) := by omega
        simp [this]) (by simp)
set_option maxHeartbeats 4000000 in
theorem ends_link {part : Int} {P L : SV} {c : Cfg} (hP : CfgP c P L) {j : Nat} (hj : j < c.links.length) {o : SV} {items : List Port} (M : Mem) (hO : OutR 4 o M (portSV items)) (hlen : items.length ≤ 900) :
    ∃ M' o', evW ES n_plan_Ends c_plan_Ends_B1 ⟨h_plan_Ends_1 (.int .i64 part) o L (.int .i64 c.links.length) (.int .i64 j), M⟩ =
        some (.normal, ⟨h_plan_Ends_1 (.int .i64 part) o' L (.int .i64 c.links.length) (.int .i64 ((j + 1 : Nat) : Int)), M'⟩) ∧
      OutR 4 o' M' (portSV (items ++ portsOfLink part j c.links[j])) ∧ M.next ≤ M'.next := by
  have ha := Links.at hP.l hj
  have hw : IntKind.i64.wrap ((j : Int) + 1) = (j : Int) + 1 := i64_in (by omega) (by have := hP.ll; omega)
  generalize hl : c.links[j] = l
  have hO1 : OutR 4 o ((M.bump 6).set (M.next + 3) (some [encLink l])) (portSV items) := hO.old (fun id hid => by
    have : ¬ (id = M.next + 3) := by omega
    simp [this]) (by simp)
  obtain ⟨M1, o1, a1, a2, a3, a4, a5⟩ := ends_side (part := part) (i := j) (l := l) (L := L) (ln := .int .i64 c.links.length) (t14 := .int .i64 j) (s := M.next + 3) (k := 0) (by omega) ((M.bump 6).set (M.next + 3) (some [encLink l])) (by simp) (by simp) hO1 (by omega)
    (fun id e a b ho => by
      rcases hO with ⟨_, h⟩ | ⟨id', h, _, h2⟩
      · rw [ho] at h; cases h
      · rw [ho] at h; cases h; omega)
  have hk0 : (portsOfEnd j l 0 part).length ≤ 2 := by unfold portsOfEnd; split <;> simp
  obtain ⟨M2, o2, b1, b2, b3, b4, b5⟩ := ends_side (part := part) (i := j) (l := l) (L := L) (ln := .int .i64 c.links.length) (t14 := .int .i64 j) (s := M.next + 3) (k := 1) (by omega) M1 a3 (by simp at a4; omega) a2 (by simp; omega) a5
  have e : portSV (items ++ portsOfLink part j l) = portSV (items ++ portsOfEnd j l 0 part ++ portsOfEnd j l 1 part) := by simp [portsOfLink]
  have hb5 : evW ES n_plan_Ends c_plan_Ends_B0 ⟨h_plan_Ends_0 (.int .i64 part) o2 (.int .i64 j) (.ptr (M.next + 3) 0 0) L (.int .i64 c.links.length) (.int .i64 j) (.int .i64 ((1 + 1 : Nat) : Int)), M2⟩ =
      some (.exit 2, ⟨(h_plan_Ends_0 (.int .i64 part) o2 (.int .i64 j) (.ptr (M.next + 3) 0 0) L (.int .i64 c.links.length) (.int .i64 j) (.int .i64 2)).set 20 (.bool false), M2⟩) := by
    simp [c_plan_Ends_B0, evW_reg, evW_chkr, isCst, loadS, partS, TK.agg, fieldAddrS, zeroS, storeS, setPart, splice, endS, resS, fieldS, h_plan_Ends_0]
  have hloop : evW ES n_plan_Ends c_plan_Ends_L0 ⟨h_plan_Ends_0 (.int .i64 part) o (.int .i64 j) (.ptr (M.next + 3) 0 0) L (.int .i64 c.links.length) (.int .i64 j) (.int .i64 ((0 : Nat) : Int)), (M.bump 6).set (M.next + 3) (some [encLink l])⟩ =
      some (.exit 2, ⟨(h_plan_Ends_0 (.int .i64 part) o2 (.int .i64 j) (.ptr (M.next + 3) 0 0) L (.int .i64 c.links.length) (.int .i64 j) (.int .i64 2)).set 20 (.bool false), M2⟩) := by
    unfold c_plan_Ends_L0
    rw [evW_loop, a1]
    simp only
    rw [evW_loop, b1]
    simp only
    rw [evW_loop, hb5]
  refine ⟨M2, o2, ?_, by rw [e]; exact b2, by simp at a4; omega⟩
  simp [h_plan_Ends_0] at hloop
  simp [c_plan_Ends_B1, evW_reg, evW_chkr, isCst, loadS, partS, TK.agg, fieldAddrS, zeroS, storeS, setPart, splice, endS, resS, fieldS, h_plan_Ends_1, hj, ha, hl, hloop, hw]
set_option maxHeartbeats 4000000 in
theorem Ends_ok {P L : SV} {c : Cfg} (hP : CfgP c P L) (part : Int) (h10 : c.links.length ≤ 10) (h12 : (endsL c.links part).length ≤ 12) (hsm : smallP (endsL c.links part)) :
    ∃ y l', PCw ES n_plan_Ends [.agg (cfgC c P L), .int .i64 part] = some y ∧ Ports y l' ∧ l'.Perm (endsL c.links part) ∧ sortedP l' ∧ Sh.pv y = true := by
  have key := PCw_out (E := ES) (f := n_plan_Ends) (esz := 4) (args := [.agg (cfgC c P L), .int .i64 part]) (Pr := fun items => ∃ l', items = portSV l' ∧ l'.Perm (endsL c.links part) ∧ sortedP l') (fun M0 => by
    rw [b_plan_Ends]
    have hlen := hP.l.lenS ti_sl_api_Link
    obtain ⟨r, g1, o, M1, rfl, g2⟩ := loop_st (E := ES) (me := n_plan_Ends) (B := c_plan_Ends_B1) (β := SV) (len := c.links.length)
      (T := fun j o => h_plan_Ends_1 (.int .i64 part) o L (.int .i64 c.links.length) (.int .i64 j))
      (I := fun j o M => OutR 4 o M (portSV (endsK c.links part j)))
      (Q := fun r => ∃ o M', r = (.exit 0, ⟨(h_plan_Ends_1 (.int .i64 part) o L (.int .i64 c.links.length) (.int .i64 c.links.length)).set 15 (.bool false), M'⟩) ∧ OutR 4 o M' (portSV (endsL c.links part)))
      (fun j o M hj hI => by
        left
        obtain ⟨M', o', a1, a2, a3⟩ := ends_link (part := part) hP hj M hI (by have := endsK_len (ls := c.links) (part := part) (k := j) (by omega); omega)
        exact ⟨o', M', a1, by rw [endsK_succ hj]; exact a2⟩)
      (fun o M hI => ⟨_, by simp [c_plan_Ends_B1, evW_reg, evW_chkr, isCst, loadS, partS, TK.agg, fieldAddrS, zeroS, storeS, setPart, splice, endS, resS, fieldS, h_plan_Ends_1], by simp, o, M, rfl, hI⟩) 0 .nilsl ((M0.bump 2).set M0.next (some [.agg (cfgC c P L)])) (by omega) (.inl ⟨rfl, rfl⟩)
    simp [h_plan_Ends_1, cfgC] at g1
    rcases g2 with ⟨e1, rfl⟩ | ⟨q, rfl, hq, hlt⟩
    · obtain ⟨M2, s1, _⟩ := SortFunc_nil (M1.bump 2)
      have e2 : endsL c.links part = [] := by simpa [portSV] using e1
      refine ⟨.nilsl, M2, [], ?_, .inl ⟨rfl, rfl⟩, [], rfl, by rw [e2], by simp [sortedP]⟩
      simp [c_plan_Ends, evW_reg, evW_chkr, isCst, loadS, partS, TK.agg, fieldAddrS, zeroS, storeS, setPart, splice, endS, resS, fieldS, cfgC, hlen, c_plan_Ends_L1, g1, s1]
    · have hpl : (portSV (endsL c.links part)).length = (endsL c.links part).length := by simp [portSV]
      rw [hpl] at g1
      obtain ⟨M2, l', s1, s2, s3, s4, s5⟩ := SortFunc_ok (q := q) (len := (endsL c.links part).length) h12 rfl hsm (M1.bump 2) (by simpa using hq) (by simp; omega)
      refine ⟨.own q 4 0 (endsL c.links part).length, M2, portSV l', ?_, .inr ⟨q, ?_, s2, by simp at s5; omega⟩, l', rfl, s3, s4⟩
      · simp [c_plan_Ends, evW_reg, evW_chkr, isCst, loadS, partS, TK.agg, fieldAddrS, zeroS, storeS, setPart, splice, endS, resS, fieldS, cfgC, hlen, c_plan_Ends_L1, g1, s1]
      · simp [portSV, s3.length_eq]) (fun items ⟨l', h, _, _⟩ y hy => by
        subst h
        simp only [portSV, List.mem_map] at hy
        obtain ⟨x, _, rfl⟩ := hy
        rfl)
  obtain ⟨y, items, k1, ⟨l', k2, k3, k4⟩, k5, k6, k7⟩ := key
  subst k2
  exact ⟨y, l', k1, RSl.of_map k5 k6, k3, k4, k7⟩
theorem Ends_c {P L : SV} {c : Cfg} (hP : CfgP c P L) (part : Int) (h10 : c.links.length ≤ 10) (h12 : (endsL c.links part).length ≤ 12) (hsm : smallP (endsL c.links part)) :
    ∃ y l', (∀ get, callP (PCw ES) get n_plan_Ends [.agg (cfgC c P L), .int .i64 part] = some y) ∧ Ports y l' ∧ l'.Perm (endsL c.links part) ∧ sortedP l' ∧ Sh.pv y = true := by
  obtain ⟨y, l', h1, h2, h3, h4, h5⟩ := Ends_ok hP part h10 h12 hsm
  exact ⟨y, l', fun get => callP_of h1 (by simp [hP.npA]), h2, h3, h4, h5⟩

end Go.Proofs.YtbdliphlolajaaaDoor
