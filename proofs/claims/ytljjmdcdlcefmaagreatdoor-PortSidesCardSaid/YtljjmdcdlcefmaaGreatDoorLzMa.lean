/-
  Walks of the seat's functions: En.
-/
import Derived.Test.YtljjmdcdlcefmaaGreatDoorEbMa
import Derived.Test.YtljjmdcdlcefmaaGreatDoorShMb
import Derived.Test.YtljjmdcdlcefmaaGreatDoorLIs
import Derived.Test.YtljjmdcdlcefmaaGreatDoorLRa
set_option linter.unusedVariables false
set_option linter.unusedSimpArgs false
set_option maxRecDepth 100000
namespace Go.Proofs.YtljjmdcdlcefmaaGreatDoor
open Go.Proofs.YtljjmdcdlcefmaaGreatDoor.Sh
/-! plan.Ends. -/
def portsOfEnd (i : Nat) (l : Link) (side : Nat) (part : Int) : List Port := if (endOf l side).1 = part then [⟨(endOf l side).2.1, i, 0, side⟩, ⟨(endOf l side).2.2, i, 1, side⟩] else []
def portsOfLink (part : Int) (i : Nat) (l : Link) : List Port := portsOfEnd i l 0 part ++ portsOfEnd i l 1 part
def endsK (ls : List Link) (part : Int) (k : Nat) : List Port := (List.range k).flatMap fun i => (ls[i]?.map (portsOfLink part i)).getD []
def endsL (ls : List Link) (part : Int) : List Port := endsK ls part ls.length
theorem endsK_succ {ls : List Link} {part : Int} {k : Nat} (h : k < ls.length) : endsK ls part (k + 1) = endsK ls part k ++ portsOfLink part k ls[k] := by
  simp [endsK, List.range_succ, h]
theorem portsOfLink_len (part : Int) (i : Nat) (l : Link) : (portsOfLink part i l).length ≤ 4 := by
  unfold portsOfLink portsOfEnd
  split <;> split <;> simp
theorem endsK_len {ls : List Link} {part : Int} : ∀ {k : Nat}, k ≤ ls.length → (endsK ls part k).length ≤ 4 * k
  | 0, _ => by simp [endsK]
  | k + 1, h => by
    rw [endsK_succ (by omega), List.length_append]
    have := endsK_len (ls := ls) (part := part) (k := k) (by omega)
    have := portsOfLink_len part k ls[k]
    omega
theorem portSV_append (a b : List Port) : portSV (a ++ b) = portSV a ++ portSV b := by simp [portSV]
theorem OutR.app2 {get : Nat → Option (List SV)} {o : SV} {M : Mem} {items : List SV} {a s : Nat} {v u : SV} (hI : OutR 4 o M items) (h1 : items.length ≤ 1000)
    (hg : ∀ id, id < M.next → get id = M.blk id) (hv : v.cells.length = 4) (hu : u.cells.length = 4) (hs : get s = some [v, u]) :
    appendS ES.P get a T_sl_api_Port T_sl_api_Port o (.own s 4 0 2) = some (.own a 4 0 (items.length + 2), killO o ++ [(a, some (items ++ [v, u]))]) := by
  have hun : Sh.unif 4 [v, u] = true := by simp [Sh.unif, hv, hu]
  rcases hI with ⟨rfl, rfl⟩ | ⟨id, rfl, hid, hlt⟩
  · rw [appendS_nil (ys := [v, u]) ti_sl_api_Port ti_sl_api_Port ti_api_Port rfl (by simp [itemsS, hs]) (by decide) hun (by simp [srcFits]) rfl rfl (by simp) (by simp)]
    rfl
  · rw [appendS_own (ys := [v, u]) (xs := items) ti_sl_api_Port ti_sl_api_Port ti_api_Port rfl (by simp [itemsS, hs]) (by decide) hun (by simp [srcFits]) rfl rfl ((hg id hlt).trans hid) (Nat.le_refl _) (by simp; omega) (by simp; omega)]
    simp [killO]
set_option maxHeartbeats 4000000 in
theorem ends_side {part : Int} {i : Nat} {l : Link} {L ln t14 : SV} {s : Nat} {o : SV} {items : List Port} {k : Nat} (hk : k < 2) (M : Mem) (hs : M.blk s = some [encLink l]) (hls : s < M.next) (hO : OutR 4 o M (portSV items)) (hlen : items.length ≤ 1000)
    (hne : ∀ id e a b, o = .own id e a b → id ≠ s) :
    ∃ M' o', evW ES n_plan_Ends c_plan_Ends_B0 ⟨h_plan_Ends_0 (.int .i64 part) o (.int .i64 i) (.ptr s 0 0) L ln t14 (.int .i64 k), M⟩ =
        some (.normal, ⟨h_plan_Ends_0 (.int .i64 part) o' (.int .i64 i) (.ptr s 0 0) L ln t14 (.int .i64 ((k + 1 : Nat) : Int)), M'⟩) ∧
      OutR 4 o' M' (portSV (items ++ portsOfEnd i l k part)) ∧ M'.blk s = some [encLink l] ∧ M.next ≤ M'.next ∧ (∀ id e a b, o' = .own id e a b → id ≠ s) := by
  have hk' : (k : Int) < 2 := by omega
  have hw : IntKind.i64.wrap ((k : Int) + 1) = (k : Int) + 1 := i64_in (by omega) (by omega)
  have hns : ∀ k, (s = M.next + k) = False := fun k => by simp; omega
  have hc := fun get => plan_end_c get l k
  unfold portsOfEnd
  generalize endOf l k = e at hc ⊢
  obtain ⟨e1, e2, e3⟩ := e
  simp only at hc ⊢
  by_cases h : e1 = part
  · have hO1 : OutR 4 o ((M.bump 9).set (M.next + 6) (some [.agg [.int .i64 e2, .int .i64 e3]])) (portSV items) := hO.old (fun id hid => by
      have : ¬ (id = M.next + 6) := by omega
      simp [this]) (by simp)
    have b0 : bldS ES.P T_api_Port [(0, .int .i64 e2), (1, .int .i64 i), (3, .int .i64 k)] = some (encPort ⟨e2, i, 0, k⟩) := by simp [bldS, placesOf, buildS, splice, encPort]
    have b1 : bldS ES.P T_api_Port [(0, .int .i64 e3), (1, .int .i64 i), (2, .int .i64 1), (3, .int .i64 k)] = some (encPort ⟨e3, i, 1, k⟩) := by simp [bldS, placesOf, buildS, splice, encPort]
    have bs : ∀ q, bldSl ES.P T_sl_api_Port 2 q [(0, encPort ⟨e2, i, 0, k⟩), (1, encPort ⟨e3, i, 1, k⟩)] = some (.own q 4 0 2, [encPort ⟨e2, i, 0, k⟩, encPort ⟨e3, i, 1, k⟩]) := fun q => by simp [bldSl, buildRow]
    have hap := fun (get : Nat → Option (List SV)) hg hs2 => OutR.app2 (get := get) (a := M.next + 9 + 12) (s := M.next + 9 + 11) (v := encPort ⟨e2, i, 0, k⟩) (u := encPort ⟨e3, i, 1, k⟩) hO1 (by simpa [portSV] using hlen) hg rfl rfl hs2
    rw [if_pos h]
    have hlen2 : (portSV items).length = items.length := by simp [portSV]
    have hap2 := hap ((((M.bump 9).set (M.next + 6) (some [.agg [.int .i64 e2, .int .i64 e3]])).bump 14).set (M.next + 9 + 11) (some [encPort ⟨e2, i, 0, k⟩, encPort ⟨e3, i, 1, k⟩])).blk
      (fun id hid => by
        simp at hid
        have : ¬ (id = M.next + 9 + 11) := by omega
        simp [this]) (by simp)
    have hkill : ∀ (X : Mem), (X.sets (killO o)).blk s = X.blk s := by
      intro X
      cases o <;> simp [killO, Mem.sets]
      rename_i id e a b
      intro hh
      exact absurd hh.symm (hne id e a b rfl)
    refine ⟨(((((M.bump 9).set (M.next + 6) (some [.agg [.int .i64 e2, .int .i64 e3]])).bump 14).set (M.next + 9 + 11) (some [encPort ⟨e2, i, 0, k⟩, encPort ⟨e3, i, 1, k⟩])).sets (killO o)).set (M.next + 9 + 12) (some (portSV items ++ [encPort ⟨e2, i, 0, k⟩, encPort ⟨e3, i, 1, k⟩])),
      .own (M.next + 9 + 12) 4 0 ((portSV items).length + 2), ?_, ?_, ?_, ?_, ?_⟩
    · simp [c_plan_Ends_B0, evW_reg, evW_chkr, evW_chfr, isCst, loadS, partS, TK.agg, fieldAddrS, zeroS, storeS, setPart, splice, endS, resS, fieldS, h_plan_Ends_0, hk, hk', hs, hls, hc, h, hw, b0, b1, bs, hap2]
    · rw [portSV_append]
      exact .inr ⟨M.next + 9 + 12, by simp [portSV], by simp [portSV], by simp⟩
    · have h1 : ¬ (s = M.next + 9 + 12) := by omega
      have h2 : ¬ (s = M.next + 9 + 11) := by omega
      simp only [Mem.blk_set, h1, if_false]
      rw [hkill]
      simp [h2, hns, hs]
    · simp; omega
    · intro id e a b hh
      cases hh
      omega
  · rw [if_neg h]
    refine ⟨(M.bump 9).set (M.next + 6) (some [.agg [.int .i64 e2, .int .i64 e3]]), o, ?_, ?_, by simp [hns, hs], by simp, hne⟩
    · simp [c_plan_Ends_B0, evW_reg, evW_chkr, evW_chfr, isCst, loadS, partS, TK.agg, fieldAddrS, zeroS, storeS, setPart, splice, endS, resS, fieldS, h_plan_Ends_0, hk, hk', hs, hls, hc, h, hw]
    · rw [List.append_nil]
      exact hO.old (fun id hid => by
        have : ¬ (id = M.next + 6) := by omega
        simp [this]) (by simp)
set_option maxHeartbeats 4000000 in
theorem ends_link {part : Int} {P L : SV} {c : Cfg} (hP : CfgP c P L) {j : Nat} (hj : j < c.links.length) {o : SV} {items : List Port} (M : Mem) (hO : OutR 4 o M (portSV items)) (hlen : items.length ≤ 900) :
    ∃ M' o', evW ES n_plan_Ends c_plan_Ends_B1 ⟨h_plan_Ends_1 (.int .i64 part) o L (.int .i64 c.links.length) (.int .i64 j), M⟩ =
        some (.normal, ⟨h_plan_Ends_1 (.int .i64 part) o' L (.int .i64 c.links.length) (.int .i64 ((j + 1 : Nat) : Int)), M'⟩) ∧
      OutR 4 o' M' (portSV (items ++ portsOfLink part j c.links[j])) ∧ M.next ≤ M'.next := by
  have ha := Links.at hP.l hj
  have hw : IntKind.i64.wrap ((j : Int) + 1) = (j : Int) + 1 := i64_in (by omega) (by have := hP.ll; omega)
  generalize hl : c.links[j] = l
  have hO1 : OutR 4 o ((M.bump 6).set (M.next + 3) (some [encLink l])) (portSV items) := hO.old (fun id hid => by
    have : ¬ (id = M.next + 3) := by omega
    simp [this]) (by simp)
  obtain ⟨M1, o1, a1, a2, a3, a4, a5⟩ := ends_side (part := part) (i := j) (l := l) (L := L) (ln := .int .i64 c.links.length) (t14 := .int .i64 j) (s := M.next + 3) (k := 0) (by omega) ((M.bump 6).set (M.next + 3) (some [encLink l])) (by simp) (by simp) hO1 (by omega)
    (fun id e a b ho => by
      rcases hO with ⟨_, h⟩ | ⟨id', h, _, h2⟩
      · rw [ho] at h; cases h
      · rw [ho] at h; cases h; omega)
  have hk0 : (portsOfEnd j l 0 part).length ≤ 2 := by unfold portsOfEnd; split <;> simp
  obtain ⟨M2, o2, b1, b2, b3, b4, b5⟩ := ends_side (part := part) (i := j) (l := l) (L := L) (ln := .int .i64 c.links.length) (t14 := .int .i64 j) (s := M.next + 3) (k := 1) (by omega) M1 a3 (by simp at a4; omega) a2 (by simp; omega) a5
  have e : portSV (items ++ portsOfLink part j l) = portSV (items ++ portsOfEnd j l 0 part ++ portsOfEnd j l 1 part) := by simp [portsOfLink]
  have hb5 : evW ES n_plan_Ends c_plan_Ends_B0 ⟨h_plan_Ends_0 (.int .i64 part) o2 (.int .i64 j) (.ptr (M.next + 3) 0 0) L (.int .i64 c.links.length) (.int .i64 j) (.int .i64 ((1 + 1 : Nat) : Int)), M2⟩ =
      some (.exit 2, ⟨(h_plan_Ends_0 (.int .i64 part) o2 (.int .i64 j) (.ptr (M.next + 3) 0 0) L (.int .i64 c.links.length) (.int .i64 j) (.int .i64 2)).set 20 (.bool false), M2⟩) := by
    simp [c_plan_Ends_B0, evW_reg, evW_chkr, evW_chfr, isCst, loadS, partS, TK.agg, fieldAddrS, zeroS, storeS, setPart, splice, endS, resS, fieldS, h_plan_Ends_0]
  have hloop : evW ES n_plan_Ends c_plan_Ends_L0 ⟨h_plan_Ends_0 (.int .i64 part) o (.int .i64 j) (.ptr (M.next + 3) 0 0) L (.int .i64 c.links.length) (.int .i64 j) (.int .i64 ((0 : Nat) : Int)), (M.bump 6).set (M.next + 3) (some [encLink l])⟩ =
      some (.exit 2, ⟨(h_plan_Ends_0 (.int .i64 part) o2 (.int .i64 j) (.ptr (M.next + 3) 0 0) L (.int .i64 c.links.length) (.int .i64 j) (.int .i64 2)).set 20 (.bool false), M2⟩) := by
    unfold c_plan_Ends_L0
    rw [evW_loop, a1]
    simp only
    rw [evW_loop, b1]
    simp only
    rw [evW_loop, hb5]
  refine ⟨M2, o2, ?_, by rw [e]; exact b2, by simp at a4; omega⟩
  simp [h_plan_Ends_0] at hloop
  simp [c_plan_Ends_B1, evW_reg, evW_chkr, evW_chfr, isCst, loadS, partS, TK.agg, fieldAddrS, zeroS, storeS, setPart, splice, endS, resS, fieldS, h_plan_Ends_1, hj, ha, hl, hloop, hw]
set_option maxHeartbeats 4000000 in
theorem Ends_ok {P L : SV} {c : Cfg} (hP : CfgP c P L) (part : Int) (h10 : c.links.length ≤ 10) (h12 : (endsL c.links part).length ≤ 12) (hsm : smallP (endsL c.links part)) :
    ∃ y l', PCw ES n_plan_Ends [.agg (cfgC c P L), .int .i64 part] = some y ∧ Ports y l' ∧ l'.Perm (endsL c.links part) ∧ sortedP l' ∧ Sh.pv y = true := by
  have key := PCw_out (E := ES) (f := n_plan_Ends) (esz := 4) (args := [.agg (cfgC c P L), .int .i64 part]) (Pr := fun items => ∃ l', items = portSV l' ∧ l'.Perm (endsL c.links part) ∧ sortedP l') (fun M0 => by
    rw [b_plan_Ends]
    have hlen := hP.l.lenS ti_sl_api_Link
    obtain ⟨r, g1, o, M1, rfl, g2⟩ := loop_st (E := ES) (me := n_plan_Ends) (B := c_plan_Ends_B1) (β := SV) (len := c.links.length)
      (T := fun j o => h_plan_Ends_1 (.int .i64 part) o L (.int .i64 c.links.length) (.int .i64 j))
      (I := fun j o M => OutR 4 o M (portSV (endsK c.links part j)))
      (Q := fun r => ∃ o M', r = (.exit 0, ⟨(h_plan_Ends_1 (.int .i64 part) o L (.int .i64 c.links.length) (.int .i64 c.links.length)).set 15 (.bool false), M'⟩) ∧ OutR 4 o M' (portSV (endsL c.links part)))
      (fun j o M hj hI => by
        left
        obtain ⟨M', o', a1, a2, a3⟩ := ends_link (part := part) hP hj M hI (by have := endsK_len (ls := c.links) (part := part) (k := j) (by omega); omega)
        exact ⟨o', M', a1, by rw [endsK_succ hj]; exact a2⟩)
      (fun o M hI => ⟨_, by simp [c_plan_Ends_B1, evW_reg, evW_chkr, evW_chfr, isCst, loadS, partS, TK.agg, fieldAddrS, zeroS, storeS, setPart, splice, endS, resS, fieldS, h_plan_Ends_1], by simp, o, M, rfl, hI⟩) 0 .nilsl ((M0.bump 2).set M0.next (some [.agg (cfgC c P L)])) (by omega) (.inl ⟨rfl, rfl⟩)
    simp [h_plan_Ends_1, cfgC] at g1
    rcases g2 with ⟨e1, rfl⟩ | ⟨q, rfl, hq, hlt⟩
    · obtain ⟨M2, s1, _⟩ := SortFunc_nil (M1.bump 2)
      have e2 : endsL c.links part = [] := by simpa [portSV] using e1
      refine ⟨.nilsl, M2, [], ?_, .inl ⟨rfl, rfl⟩, [], rfl, by rw [e2], by simp [sortedP]⟩
      simp [c_plan_Ends, evW_reg, evW_chkr, evW_chfr, isCst, loadS, partS, TK.agg, fieldAddrS, zeroS, storeS, setPart, splice, endS, resS, fieldS, cfgC, hlen, c_plan_Ends_L1, g1, s1]
    · have hpl : (portSV (endsL c.links part)).length = (endsL c.links part).length := by simp [portSV]
      rw [hpl] at g1
      obtain ⟨M2, l', s1, s2, s3, s4, s5⟩ := SortFunc_ok (q := q) (len := (endsL c.links part).length) h12 rfl hsm (M1.bump 2) (by simpa using hq) (by simp; omega)
      refine ⟨.own q 4 0 (endsL c.links part).length, M2, portSV l', ?_, .inr ⟨q, ?_, s2, by simp at s5; omega⟩, l', rfl, s3, s4⟩
      · simp [c_plan_Ends, evW_reg, evW_chkr, evW_chfr, isCst, loadS, partS, TK.agg, fieldAddrS, zeroS, storeS, setPart, splice, endS, resS, fieldS, cfgC, hlen, c_plan_Ends_L1, g1, s1]
      · simp [portSV, s3.length_eq]) (fun items ⟨l', h, _, _⟩ y hy => by
        subst h
        simp only [portSV, List.mem_map] at hy
        obtain ⟨x, _, rfl⟩ := hy
        rfl)
  obtain ⟨y, items, k1, ⟨l', k2, k3, k4⟩, k5, k6, k7⟩ := key
  subst k2
  exact ⟨y, l', k1, RSl.of_map k5 k6, k3, k4, k7⟩
theorem Ends_c {P L : SV} {c : Cfg} (hP : CfgP c P L) (part : Int) (h10 : c.links.length ≤ 10) (h12 : (endsL c.links part).length ≤ 12) (hsm : smallP (endsL c.links part)) :
    ∃ y l', (∀ get, callP (PCw ES) get n_plan_Ends [.agg (cfgC c P L), .int .i64 part] = some y) ∧ Ports y l' ∧ l'.Perm (endsL c.links part) ∧ sortedP l' ∧ Sh.pv y = true := by
  obtain ⟨y, l', h1, h2, h3, h4, h5⟩ := Ends_ok hP part h10 h12 hsm
  exact ⟨y, l', fun get => callP_of h1 (by simp [hP.npA]), h2, h3, h4, h5⟩

end Go.Proofs.YtljjmdcdlcefmaaGreatDoor

/-
  Walks of the seat's functions: Ep.
-/
set_option linter.unusedVariables false
set_option linter.unusedSimpArgs false
set_option maxRecDepth 100000
namespace Go.Proofs.YtljjmdcdlcefmaaGreatDoor
open Go.Proofs.YtljjmdcdlcefmaaGreatDoor.Sh
/-! A part's ports: the plain law. -/
theorem portsOfLink_node (part : Int) (i : Nat) (l : Link) (n : Int) : linkTaken l part n = true ↔ ∃ p ∈ portsOfLink part i l, p.node = n := by
  unfold linkTaken portsOfLink portsOfEnd endOf
  by_cases h1 : l.a = part <;> by_cases h2 : l.b = part <;> simp [h1, h2, or_assoc]
theorem endsK_mem {ls : List Link} {part : Int} {k : Nat} {p : Port} : p ∈ endsK ls part k ↔ ∃ i, ∃ h : i < ls.length, i < k ∧ p ∈ portsOfLink part i ls[i] := by
  simp only [endsK, List.mem_flatMap, List.mem_range]
  constructor
  · rintro ⟨i, hi, hp⟩
    by_cases h : i < ls.length
    · simp [h] at hp
      exact ⟨i, h, hi, hp⟩
    · simp [h] at hp
  · rintro ⟨i, h, hi, hp⟩
    exact ⟨i, hi, by simpa [h] using hp⟩
theorem takenL_ends {ls : List Link} {part n : Int} {k : Nat} (hk : k ≤ ls.length) : takenL (ls.take k) part n = true ↔ ∃ p ∈ endsK ls part k, p.node = n := by
  unfold takenL
  rw [List.any_eq_true]
  constructor
  · rintro ⟨l, hl, ht⟩
    obtain ⟨i, hi, rfl⟩ := List.mem_iff_getElem.1 hl
    simp at hi
    rw [List.getElem_take] at ht
    obtain ⟨p, hp, hn⟩ := (portsOfLink_node part i _ n).1 ht
    exact ⟨p, endsK_mem.2 ⟨i, by omega, by omega, hp⟩, hn⟩
  · rintro ⟨p, hp, hn⟩
    obtain ⟨i, h, hi, hp⟩ := endsK_mem.1 hp
    refine ⟨ls[i], ?_, (portsOfLink_node part i _ n).2 ⟨p, hp, hn⟩⟩
    rw [List.mem_iff_getElem]
    exact ⟨i, by simp; omega, by simp⟩
/-- A right network's links: no port twice, all of them nodes. -/
structure PortsOk (ls : List Link) (part : Int) (nodes : Int) : Prop where
  ab : ∀ l ∈ ls, l.a < l.b
  a : ∀ (j : Nat) (h : j < ls.length), ls[j].a = part → ls[j].pa0 ≠ ls[j].pa1 ∧ inMany ls[j].pa0 nodes ∧ inMany ls[j].pa1 nodes ∧ takenL (ls.take j) part ls[j].pa0 = false ∧ takenL (ls.take j) part ls[j].pa1 = false
  b : ∀ (j : Nat) (h : j < ls.length), ls[j].b = part → ls[j].pb0 ≠ ls[j].pb1 ∧ inMany ls[j].pb0 nodes ∧ inMany ls[j].pb1 nodes ∧ takenL (ls.take j) part ls[j].pb0 = false ∧ takenL (ls.take j) part ls[j].pb1 = false
theorem PortsOk.link {ls : List Link} {part nodes : Int} (h : PortsOk ls part nodes) {j : Nat} (hj : j < ls.length) :
    (portsOfLink part j ls[j]).Pairwise (fun p q => p.node ≠ q.node) ∧ (∀ p ∈ portsOfLink part j ls[j], inMany p.node nodes ∧ takenL (ls.take j) part p.node = false) := by
  have hab := h.ab ls[j] (List.getElem_mem hj)
  have ha := h.a j hj
  have hb := h.b j hj
  unfold portsOfLink portsOfEnd endOf
  by_cases h1 : ls[j].a = part
  · have h2 : ¬ (ls[j].b = part) := by omega
    obtain ⟨a1, a2, a3, a4, a5⟩ := ha h1
    simp [h1, h2, a1, a2, a3, a4, a5]
  · by_cases h2 : ls[j].b = part
    · obtain ⟨a1, a2, a3, a4, a5⟩ := hb h2
      simp [h1, h2, a1, a2, a3, a4, a5]
    · simp [h1, h2]
theorem PortsOk.ends {ls : List Link} {part nodes : Int} (h : PortsOk ls part nodes) : ∀ {k : Nat}, k ≤ ls.length → (endsK ls part k).Pairwise (fun p q => p.node ≠ q.node) ∧ ∀ p ∈ endsK ls part k, inMany p.node nodes
  | 0, _ => by simp [endsK]
  | k + 1, hk => by
    obtain ⟨i1, i2⟩ := h.ends (k := k) (by omega)
    obtain ⟨l1, l2⟩ := h.link (j := k) (by omega)
    rw [endsK_succ (by omega)]
    refine ⟨List.pairwise_append.2 ⟨i1, l1, fun p hp q hq e => ?_⟩, fun p hp => ?_⟩
    · have := (l2 q hq).2
      rw [← e] at this
      have h2 := (takenL_ends (ls := ls) (part := part) (k := k) (n := p.node) (by omega)).2 ⟨p, hp, rfl⟩
      rw [h2] at this
      cases this
    · rcases List.mem_append.1 hp with hp | hp
      · exact i2 p hp
      · exact (l2 p hp).1
theorem portOfLink_mem {i : Nat} {l : Link} {part n : Int} {p : Port} (h : portOfLink i l part n = some p) : p ∈ portsOfLink part i l ∧ p.node = n := by
  unfold portOfLink at h
  unfold portsOfLink portsOfEnd endOf
  split at h
  · rename_i h1; cases h; simp [h1]
  split at h
  · rename_i h1; cases h; simp [h1]
  split at h
  · rename_i h1; cases h; simp [h1]
  split at h
  · rename_i h1; cases h; simp [h1]
  · cases h
theorem findPort_mem {ls : List Link} {part n : Int} {p : Port} (h : findPort ls part n = some p) : p ∈ endsL ls part ∧ p.node = n := by
  unfold findPort at h
  split at h
  · rename_i j hj
    rw [List.find?_range_eq_some] at hj
    obtain ⟨_, h2, _⟩ := hj
    have hlt : j < ls.length := by simpa using h2
    simp [hlt] at h
    obtain ⟨h3, h4⟩ := portOfLink_mem h
    exact ⟨endsK_mem.2 ⟨j, hlt, hlt, h3⟩, h4⟩
  · cases h
theorem PortsOk.uniq {ls : List Link} {part nodes : Int} (h : PortsOk ls part nodes) {p q : Port} (hp : p ∈ endsL ls part) (hq : q ∈ endsL ls part) (e : p.node = q.node) : p = q := by
  have hw := (h.ends (Nat.le_refl _)).1
  rw [List.pairwise_iff_getElem] at hw
  obtain ⟨i, hi, rfl⟩ := List.mem_iff_getElem.1 hp
  obtain ⟨j, hj, rfl⟩ := List.mem_iff_getElem.1 hq
  rcases Nat.lt_trichotomy i j with hl | rfl | hl
  · exact absurd e (hw i j hi hj hl)
  · rfl
  · exact absurd e.symm (hw j i hj hi hl)
theorem PortsOk.find {ls : List Link} {part nodes : Int} (h : PortsOk ls part nodes) {n : Int} {p : Port} : findPort ls part n = some p ↔ p ∈ endsL ls part ∧ p.node = n := by
  refine ⟨findPort_mem, fun ⟨h1, h2⟩ => ?_⟩
  have ht := (takenL_ends (ls := ls) (part := part) (n := n) (Nat.le_refl _)).2 ⟨p, h1, h2⟩
  rw [List.take_length, ← findPort_some] at ht
  obtain ⟨q, hq⟩ := Option.isSome_iff_exists.1 ht
  obtain ⟨h3, h4⟩ := findPort_mem hq
  rw [hq, h.uniq h3 h1 (by omega)]
theorem eq_of_strict : ∀ {a b : List Port}, a.Pairwise (fun x y => x.node < y.node) → b.Pairwise (fun x y => x.node < y.node) → (∀ p, p ∈ a ↔ p ∈ b) → a = b
  | [], [], _, _, _ => rfl
  | [], y :: b, _, _, h => by have := (h y).2 (by simp); simp at this
  | x :: a, [], _, _, h => by have := (h x).1 (by simp); simp at this
  | x :: a, y :: b, ha, hb, h => by
    rw [List.pairwise_cons] at ha hb
    have e : x = y := by
      have h1 := (h x).1 (by simp)
      have h2 := (h y).2 (by simp)
      rcases List.mem_cons.1 h1 with h3 | h3
      · exact h3
      rcases List.mem_cons.1 h2 with h4 | h4
      · exact h4.symm
      have := ha.1 y h4
      have := hb.1 x h3
      omega
    subst e
    rw [eq_of_strict ha.2 hb.2 fun p => ⟨fun hp => ?_, fun hp => ?_⟩]
    · rcases List.mem_cons.1 ((h p).1 (by simp [hp])) with h3 | h3
      · subst h3; have := ha.1 p hp; omega
      · exact h3
    · rcases List.mem_cons.1 ((h p).2 (by simp [hp])) with h3 | h3
      · subst h3; have := hb.1 p hp; omega
      · exact h3
def portsL (ls : List Link) (part nodes : Int) : List Port := (List.range nodes.toNat).filterMap fun i : Nat => findPort ls part (i : Int)
theorem PortsOk.sorted {ls : List Link} {part nodes : Int} (h : PortsOk ls part nodes) {l' : List Port} (hp : l'.Perm (endsL ls part)) (hs : sortedP l') : l' = portsL ls part nodes := by
  obtain ⟨w1, w2⟩ := h.ends (Nat.le_refl _)
  have hne : l'.Pairwise (fun p q => p.node ≠ q.node) := (hp.pairwise_iff (fun hh => Ne.symm hh)).2 w1
  refine eq_of_strict (hs.imp₂ (fun p q h1 h2 => by omega) hne) ?_ fun p => ?_
  · unfold portsL
    rw [List.pairwise_filterMap]
    refine List.pairwise_lt_range.imp fun {i j} hij p hp q hq => ?_
    have h1 := (findPort_mem hp).2
    have h2 := (findPort_mem hq).2
    omega
  · rw [hp.mem_iff]
    unfold portsL
    simp only [List.mem_filterMap, List.mem_range]
    constructor
    · intro hm
      have hin := w2 p hm
      refine ⟨p.node.toNat, by unfold inMany at hin; omega, ?_⟩
      rw [h.find]
      exact ⟨hm, by unfold inMany at hin; omega⟩
    · rintro ⟨i, _, hi⟩
      exact (findPort_mem hi).1

end Go.Proofs.YtljjmdcdlcefmaaGreatDoor
