/-
  Walks of the seat's functions: Ok.
-/
import Derived.Test.YtljjmdcdlcefmaaGreatDoorEbMa
import Derived.Test.YtljjmdcdlcefmaaGreatDoorShMb
import Derived.Test.YtljjmdcdlcefmaaGreatDoorLOj
import Derived.Test.YtljjmdcdlcefmaaGreatDoorLzMk
set_option linter.unusedVariables false
set_option linter.unusedSimpArgs false
set_option maxRecDepth 100000
namespace Go.Proofs.YtljjmdcdlcefmaaGreatDoor
open Go.Proofs.YtljjmdcdlcefmaaGreatDoor.Sh
/-! A cell that is right, out of any. -/
def zNode : SV := .agg [.int .i64 0, .int .i64 0, .int .i64 0, .int .i64 0, .int .i64 0, .nilsl, .int .i64 0, .int .i64 0]
theorem zNodeR : NdR zNode ⟨0, 0, 0, 0, 0, [], 0, 0⟩ := ⟨.nilsl, rfl, RSl.nil _, rfl⟩
theorem New_ic {P L : SV} {c : Cfg} (hP : CfgP c P L) (hfit : fitG c = true) {p : Nat} (hp : p < c.parts.length) {N : Nat} (hN : c.parts[p].nodes = N) (hN2 : N ≤ 1000) (M : Mem) :
    ∃ M', ICw ES n_r17_New [.agg (cfgC c P L), .int .i64 p] M = some (.agg [.own (M.next + 8) 8 0 N, .bool false, .int .i64 0, .nilsl], M') ∧ M'.blk (M.next + 8) = some (List.replicate N zNode) ∧ Old M M' ∧ M'.next = M.next + 11 := by
  rw [b_r17_New]
  have h1 := fun get => r5_Fit_c get hP p
  have hin : (fitG c && decide (inMany (p : Int) c.parts.length)) = true := by
    have : inMany (p : Int) c.parts.length := by unfold inMany; omega
    simp [hfit, this]
  rw [hin] at h1
  have ap := Parts.at hP.p hp
  have ap2 : (c.parts.map encPart)[p]? = some (.agg [.int .i64 N, .int .i64 c.parts[p].faults]) := by rw [List.getElem?_map, List.getElem?_eq_getElem hp, ← hN]; rfl
  have hlk : (cfgC c P L).length = 13 := rfl
  have hK0 : (cfgC c P L)[0]? = some P := rfl
  generalize cfgC c P L = K at *
  have hK0' : K[0]'(by omega) = P := by simpa [hlk] using hK0
  generalize c.parts.map encPart = ps at ap ap2
  have b1 : (N : Int) * 80 ≤ 281474976710656 := by omega
  have b2 : (N : Int) ≤ 281474976710656 := by omega
  have hmk : ∀ a, mkSl ES.P T_sl_api_Node a (.int .i64 N) (.int .i64 N) = some (.own a 8 0 N, List.replicate N zNode) := fun a => by
    have z0 : (0 : Int) ≤ N := by omega
    simp [mkSl, zNode, b1, b2]
  refine ⟨(((((M.bump 2).set M.next (some [.agg K])).set (M.next + 1) (some [.agg [.nilsl, .bool false, .int .i64 0, .nilsl]])).bump 9).set (M.next + 2 + 6) (some (List.replicate N zNode))).set (M.next + 1) (some [.agg [.own (M.next + 8) 8 0 N, .bool false, .int .i64 0, .nilsl]]), ?_, ?_, ?_, ?_⟩
  · simp (maxSteps := 4000000) [c_r17_New, evW_reg, evW_chkr, evW_chfr, isCst, loadS, partS, TK.agg, fieldAddrS, zeroS, storeS, setPart, splice, endS, resS, fieldS, h1, hlk, hK0', ap, ap2, hmk, bldS, placesOf, buildS]
  · simp
  · intro id hid
    have q1 : ¬ id = M.next := by omega
    have q2 : ¬ id = M.next + 1 := by omega
    have q3 : ¬ id = M.next + 2 + 6 := by omega
    have q4 : ¬ id = M.next + 8 := by omega
    simp [q1, q2, q3, q4]
  · rfl
structure MdI (m : Nat) (K : List SV) (X : SV) (n : Nat) (items : List SV) (M0 M : Mem) : Prop where
  hc : M.blk m = some [.agg K]
  hx : M.blk (m + 1) = some [X]
  h8 : M.blk (m + 2) = some [.agg [.nilsl, .bool false, .int .i64 0, .nilsl]]
  h9 : M.blk (m + 6) = some [.agg [.own (m + 16) 8 0 n, .bool false, .int .i64 0, .nilsl]]
  hq : M.blk (m + 16) = some items
  hl : items.length = n
  hi : ∀ y ∈ items, ∃ nd, NdR y nd ∧ nd.ages.length ≤ 50
  lt : m + 19 ≤ M.next
  old : ∀ id, id < m → M.blk id = M0.blk id
theorem MdI.step {m : Nat} {K : List SV} {X : SV} {n : Nat} {items : List SV} {M0 M : Mem} (h : MdI m K X n items M0 M) (v : SV) {j : Nat} {y : SV} (hy : ∃ nd, NdR y nd ∧ nd.ages.length ≤ 50) :
    MdI m K X n (items.set j y) M0 (((M.bump 3).set (M.next + 1) (some [v])).set (m + 16) (some (items.set j y))) := by
  have hlt := h.lt
  refine ⟨?_, ?_, ?_, ?_, by simp, by rw [List.length_set]; exact h.hl, fun z hz => ?_, by show m + 19 ≤ M.next + 3; omega, fun id hid => ?_⟩
  · have a : ¬ m = m + 16 := by omega
    have b : ¬ m = M.next + 1 := by omega
    simp [a, b, h.hc]
  · have a : ¬ m + 1 = m + 16 := by omega
    have b : ¬ m = M.next := by omega
    simp [a, b, h.hx]
  · have a : ¬ m + 2 = m + 16 := by omega
    have b : ¬ m + 2 = M.next + 1 := by omega
    simp [a, b, h.h8]
  · have a : ¬ m + 6 = m + 16 := by omega
    have b : ¬ m + 6 = M.next + 1 := by omega
    simp [a, b, h.h9]
  · rcases List.mem_or_eq_of_mem_set hz with h1 | h1
    · exact h.hi z h1
    · rw [h1]; exact hy
  · have a : ¬ id = m + 16 := by omega
    have b : ¬ id = M.next + 1 := by omega
    simp [a, b, h.old id hid]
set_option maxHeartbeats 16000000 in
theorem Made_B0 {m : Nat} {K : List SV} (hlk : K.length = 13) (hHeld : ∀ (n : Node) (A : SV), Ints A n.ages → Sh.pv A = true → ∃ y n', (∀ get, callP (PCw ES) get n_l19_held [.agg K, .agg (ndC n A)] = some y) ∧ NdR y n' ∧ n'.ages.length ≤ 50)
    {xc : Cel} {NX AX : SV} (hN : Nds NX xc.nodes) (hxl : xc.nodes.length ≤ 1000) (hpN : Sh.pv NX = true) {n : Nat} (hn : n ≤ 1000) {items : List SV} {M0 M : Mem} (h : MdI m K (.agg (clC xc NX AX)) n items M0 M) {j : Nat} (hj : j < n) :
    ∃ M' items', evW ES n_l19_Made c_l19_Made_B0 ⟨h_l19_Made_0 (.bool true) (.ptr m 0 0) (.ptr (m + 1) 0 0) (.ptr (m + 2) 0 0) (.ptr (m + 6) 0 0) (.int .i64 j), M⟩ = some (.normal, ⟨h_l19_Made_0 (.bool true) (.ptr m 0 0) (.ptr (m + 1) 0 0) (.ptr (m + 2) 0 0) (.ptr (m + 6) 0 0) (.int .i64 ((j + 1 : Nat) : Int)), M'⟩) ∧ MdI m K (.agg (clC xc NX AX)) n items' M0 M' := by
  have hw : IntKind.i64.wrap ((j : Int) + 1) = (j : Int) + 1 := i64_in (by omega) (by omega)
  have hln := hN.lenS ti_sl_api_Node
  have hc := h.hc
  have hx := h.hx
  have h9 := h.h9
  have hq := h.hq
  have hl := h.hl
  have hlt := h.lt
  have d1 : ¬ m = M.next + 1 := by omega
  have d2 : ¬ m + 1 = M.next + 1 := by omega
  have d3 : ¬ m + 6 = M.next + 1 := by omega
  have d4 : ¬ m + 16 = M.next + 1 := by omega
  have d5 : ¬ M.next + 1 = m + 1 := by omega
  have d6 : ¬ m = M.next := by omega
  have d7 : ¬ M.next = m := by omega
  have hji : j < items.length := by omega
  have hlo : lenS ES.P T_sl_api_Node (.own (m + 16) 8 0 n) = some (.int .i64 n) := by simp [lenS]
  have hj0 : ¬ (j : Int) < 0 := by omega
  simp only [clC] at hx
  have own : indexAddrS ES.P T_sl_api_Node (.own (m + 16) 8 0 n) (.int .i64 j) = some (.ptr (m + 16) j 0) := by simp [indexAddrS, natS, hj]
  have hyj : ∃ nd A, items[j] = .agg (ndC nd A) := by
    obtain ⟨nd, ⟨A, e, _, _⟩, _⟩ := h.hi items[j] (List.getElem_mem hji)
    exact ⟨nd, A, e⟩
  obtain ⟨ndj, Aj, ej⟩ := hyj
  have hgj : items[j]? = some (.agg (ndC ndj Aj)) := by rw [List.getElem?_eq_getElem hji, ej]
  by_cases c0 : xc.nodes.length = 0
  · have c0' : ¬ j < xc.nodes.length := by omega
    rw [c0] at hln
    obtain ⟨y, n', y1, ⟨A', rfl, y2, y3⟩, y4⟩ := hHeld ⟨0, 0, 0, 0, 0, [], 0, 0⟩ .nilsl (RSl.nil _) rfl
    refine ⟨_, _, ?_, h.step zNode (j := j) ⟨n', ⟨A', rfl, y2, y3⟩, y4⟩⟩
    simp only [ndC] at y1 hgj ⊢
    simp (maxSteps := 4000000) [c_l19_Made_B0, evW_reg, evW_chkr, evW_chfr, isCst, loadS, partS, TK.agg, fieldAddrS, zeroS, storeS, setPart, splice, endS, resS, fieldS, h_l19_Made_0, hc, hx, h9, hq, hlk, hlo, hln, hj, hj0, d1, d2, d3, d4, d5, d6, d7, own, hgj, y1, hw, zNode, bldS, placesOf, buildS, sl_cells y2.sl, sl_sto y2.sl]
  · have hp0 : 0 < xc.nodes.length := by omega
    have hp0' : 0 < (xc.nodes.length : Int) := by omega
    obtain ⟨u0, ⟨A0, rfl, hA0, hpA0⟩, g0, gi0, _⟩ := hN.item ti_sl_api_Node ti_api_Node elmNd hp0
    have gi0' : indexAddrS ES.P T_sl_api_Node NX (.int .i64 0) = some (.rptr (its NX) 0 0 (stOf NX)) := gi0
    by_cases c1 : j < xc.nodes.length
    · obtain ⟨u1, ⟨A1, rfl, hA1, hpA1⟩, g1, gi1, _⟩ := hN.item ti_sl_api_Node ti_api_Node elmNd c1
      generalize xc.nodes[0] = n0 at *
      generalize xc.nodes[j] = n1 at *
      obtain ⟨y, n', y1, ⟨A', rfl, y2, y3⟩, y4⟩ := hHeld ⟨n1.state, n1.wait, n1.drift, IntKind.i64.wrap (n0.start.tmod 1073741824 + n1.start.tmod 5), n0.cycle, n0.ages, n0.mask, n1.bad⟩ A0 hA0 hpA0
      refine ⟨_, _, ?_, h.step (.agg (ndC ⟨n1.state, n1.wait, n1.drift, IntKind.i64.wrap (n0.start.tmod 1073741824 + n1.start.tmod 5), n0.cycle, n0.ages, n0.mask, n1.bad⟩ A0)) (j := j) ⟨n', ⟨A', rfl, y2, y3⟩, y4⟩⟩
      simp only [ndC] at y1 hgj g0 g1 ⊢
      simp (maxSteps := 4000000) [c_l19_Made_B0, evW_reg, evW_chkr, evW_chfr, isCst, loadS, partS, TK.agg, fieldAddrS, zeroS, storeS, setPart, splice, endS, resS, fieldS, h_l19_Made_0, fpOk, disjS, hc, hx, h9, hq, hlk, hlo, hln, hj, hj0, c1, hp0, hp0', d1, d2, d3, d4, d5, d6, d7, own, hgj, gi0', g0, gi1, g1, y1, hw, bldS, placesOf, buildS, sl_cells y2.sl, sl_sto y2.sl, sl_cells hA0.sl, sl_sto hA0.sl, sl_cells hA1.sl, sl_sto hA1.sl]
    · generalize xc.nodes[0] = n0 at *
      obtain ⟨y, n', y1, ⟨A', rfl, y2, y3⟩, y4⟩ := hHeld ⟨0, 0, 0, IntKind.i64.wrap (n0.start.tmod 1073741824), n0.cycle, n0.ages, n0.mask, 0⟩ A0 hA0 hpA0
      refine ⟨_, _, ?_, h.step (.agg (ndC ⟨0, 0, 0, IntKind.i64.wrap (n0.start.tmod 1073741824), n0.cycle, n0.ages, n0.mask, 0⟩ A0)) (j := j) ⟨n', ⟨A', rfl, y2, y3⟩, y4⟩⟩
      simp only [ndC] at y1 hgj g0 ⊢
      simp (maxSteps := 4000000) [c_l19_Made_B0, evW_reg, evW_chkr, evW_chfr, isCst, loadS, partS, TK.agg, fieldAddrS, zeroS, storeS, setPart, splice, endS, resS, fieldS, h_l19_Made_0, fpOk, disjS, hc, hx, h9, hq, hlk, hlo, hln, hj, hj0, c1, hp0, hp0', d1, d2, d3, d4, d5, d6, d7, own, hgj, gi0', g0, y1, hw, bldS, placesOf, buildS, sl_cells y2.sl, sl_sto y2.sl, sl_cells hA0.sl, sl_sto hA0.sl]

end Go.Proofs.YtljjmdcdlcefmaaGreatDoor

/-
  Walks of the seat's functions: Ol.
-/
set_option linter.unusedVariables false
set_option linter.unusedSimpArgs false
set_option maxRecDepth 100000
namespace Go.Proofs.YtljjmdcdlcefmaaGreatDoor
open Go.Proofs.YtljjmdcdlcefmaaGreatDoor.Sh
/-! A cell that is right, out of any: the whole. -/
set_option maxHeartbeats 16000000 in
theorem l19Made_ic {P L : SV} {c : Cfg} (hP : CfgP c P L) (hfit : fitG c = true) {p : Nat} (hp : p < c.parts.length) {xc : Cel} {NX AX : SV} (hN : Nds NX xc.nodes) (hA : Ints AX xc.ages) (hxl : xc.nodes.length ≤ 1000) (hpN : Sh.pv NX = true) (hpA : Sh.pv AX = true) (M : Mem) :
    ∃ M' on st Ag w items, ICw ES n_l19_Made [.agg (cfgC c P L), .int .i64 p, .agg (clC xc NX AX), .bool true] M = some (.agg [.own (M.next + 16) 8 0 items.length, .bool on, .int .i64 st, Ag], M') ∧ M'.blk (M.next + 16) = some items ∧ (items.length : Int) = c.parts[p].nodes ∧
      (∀ y ∈ items, ∃ nd, NdR y nd ∧ nd.ages.length ≤ 50) ∧ Ints Ag w ∧ w.length ≤ 50 ∧ Sh.pv Ag = true ∧ Old M M' ∧ M.next + 19 ≤ M'.next := by
  have hfr := right_facts (fitG_spec.1 hfit).1
  have hir := outN_zero (fitG_spec.1 hfit).2.1
  have hnb := nodesAt_le (checkG_zero (by simpa [rightC] using (fitG_spec.1 hfit).1)) p
  have hna := nodesAt_in hp
  obtain ⟨N, hNN⟩ : ∃ N : Nat, c.parts[p].nodes = N := ⟨c.parts[p].nodes.toNat, by omega⟩
  rw [b_l19_Made]
  have hHeld := fun (n : Node) (A : SV) (h1 : Ints A n.ages) (h2 : Sh.pv A = true) => held_c hP (by omega) hir.dr n h1 h2
  have hWh := fun {x : SV} {l : List Int} (h1 : Ints x l) (h2 : Sh.pv x = true) => whole_c hP (by omega) h1 (np_of_pv h2 _)
  have hNew := New_ic hP hfit hp hNN (by omega)
  have hlk : (cfgC c P L).length = 13 := rfl
  generalize cfgC c P L = K at *
  obtain ⟨M2, n1, n2, n3, n4⟩ := hNew (((((M.bump 3).set M.next (some [.agg K])).set (M.next + 1) (some [.agg (clC xc NX AX)])).set (M.next + 2) (some [.agg [.nilsl, .bool false, .int .i64 0, .nilsl]])).bump 5)
  have e8 : (((((M.bump 3).set M.next (some [.agg K])).set (M.next + 1) (some [.agg (clC xc NX AX)])).set (M.next + 2) (some [.agg [.nilsl, .bool false, .int .i64 0, .nilsl]])).bump 5).next = M.next + 8 := rfl
  rw [e8] at n1 n2 n4
  have hM2 : ∀ id, id < M.next + 8 → M2.blk id = (((((M.bump 3).set M.next (some [.agg K])).set (M.next + 1) (some [.agg (clC xc NX AX)])).set (M.next + 2) (some [.agg [.nilsl, .bool false, .int .i64 0, .nilsl]])).bump 5).blk id := fun id hid => n3 id (by rw [e8]; exact hid)
  have hinit : MdI M.next K (.agg (clC xc NX AX)) N (List.replicate N zNode) M (M2.set (M.next + 6) (some [.agg [.own (M.next + 16) 8 0 N, .bool false, .int .i64 0, .nilsl]])) := by
    refine ⟨?_, ?_, ?_, by simp, ?_, by simp, fun y hy => ?_, by show M.next + 19 ≤ M2.next; omega, fun id hid => ?_⟩
    · have a : ¬ M.next = M.next + 6 := by omega
      have b : ¬ M.next = M.next + 1 := by omega
      have c' : ¬ M.next = M.next + 2 := by omega
      simp [hM2 M.next (by omega)]
    · simp [hM2 (M.next + 1) (by omega)]
    · simp [hM2 (M.next + 2) (by omega)]
    · simp
      exact n2
    · rw [List.eq_of_mem_replicate hy]
      exact ⟨_, zNodeR, by simp⟩
    · have a : ¬ id = M.next + 6 := by omega
      have b : ¬ id = M.next + 1 := by omega
      have c' : ¬ id = M.next + 2 := by omega
      have d : ¬ id = M.next := by omega
      simp [a, hM2 id (by omega), b, c', d]
  obtain ⟨r, g1, Ma, items, rfl, hI⟩ := loop_st (E := ES) (me := n_l19_Made) (B := c_l19_Made_B0) (β := List SV) (len := N) (T := fun j _ => h_l19_Made_0 (.bool true) (.ptr M.next 0 0) (.ptr (M.next + 1) 0 0) (.ptr (M.next + 2) 0 0) (.ptr (M.next + 6) 0 0) (.int .i64 j))
    (I := fun j o M' => MdI M.next K (.agg (clC xc NX AX)) N o M M')
    (Q := fun r => ∃ M' items, r = (.exit 0, ⟨(h_l19_Made_0 (.bool true) (.ptr M.next 0 0) (.ptr (M.next + 1) 0 0) (.ptr (M.next + 2) 0 0) (.ptr (M.next + 6) 0 0) (.int .i64 N)).set 19 (.bool false), M'⟩) ∧ MdI M.next K (.agg (clC xc NX AX)) N items M M')
    (fun j o M' hj hI => by
      left
      obtain ⟨M'', items', a1, a2⟩ := Made_B0 hlk hHeld hN hxl hpN (by omega) hI hj
      exact ⟨items', M'', a1, a2⟩)
    (fun o M' hI => by
      have h9 := hI.h9
      have hlo : lenS ES.P T_sl_api_Node (.own (M.next + 16) 8 0 N) = some (.int .i64 N) := by simp [lenS]
      exact ⟨_, by simp [c_l19_Made_B0, evW_reg, evW_chkr, evW_chfr, isCst, loadS, partS, TK.agg, fieldAddrS, zeroS, storeS, setPart, splice, endS, resS, fieldS, h_l19_Made_0, h9, hlo], by simp, M', o, rfl, hI⟩) 0 (List.replicate N zNode) _ (by omega) hinit
  simp [h_l19_Made_0] at g1
  have hc := hI.hc
  have hx := hI.hx
  have h9 := hI.h9
  have h8 := hI.h8
  have hln := hN.lenS ti_sl_api_Node
  have hpos : (items.length : Int) = c.parts[p].nodes := by rw [hNN, hI.hl]
  have hlt := hI.lt
  obtain ⟨z1, w1, k1, k2, k3, k4⟩ := hWh hA hpA
  have fin : ∀ v : SV, ((Ma.set (M.next + 6) (some [v])).set (M.next + 2) (some [v])).blk (M.next + 16) = some items ∧ Old M ((Ma.set (M.next + 6) (some [v])).set (M.next + 2) (some [v])) ∧ M.next + 19 ≤ ((Ma.set (M.next + 6) (some [v])).set (M.next + 2) (some [v])).next := fun v => by
    refine ⟨by simp [hI.hq], fun id hid => ?_, hlt⟩
    have a : ¬ id = M.next + 6 := by omega
    have b : ¬ id = M.next + 2 := by omega
    simp [a, b, hI.old id hid]
  have hil := hI.hl
  simp only [clC] at hx n1
  rw [show M.next + 8 + 8 = M.next + 16 by omega] at n1
  have q1 : ¬ M.next + 6 = M.next + 2 := by omega
  cases hon : xc.on with
  | false =>
    rw [hon] at hx n1
    refine ⟨(Ma.set (M.next + 6) (some [.agg [.own (M.next + 16) 8 0 N, .bool false, .int .i64 (xc.start.tmod 1073741824), .nilsl]])).set (M.next + 2) (some [.agg [.own (M.next + 16) 8 0 N, .bool false, .int .i64 (xc.start.tmod 1073741824), .nilsl]]), false, xc.start.tmod 1073741824, .nilsl, [], items, ?_, (fin (.agg [.own (M.next + 16) 8 0 N, .bool false, .int .i64 (xc.start.tmod 1073741824), .nilsl])).1, hpos, hI.hi, RSl.nil _, by simp, rfl, (fin _).2.1, (fin _).2.2⟩
    rw [hil]
    simp (maxSteps := 4000000) [c_l19_Made, evW_reg, evW_chkr, evW_chfr, isCst, loadS, partS, TK.agg, fieldAddrS, zeroS, storeS, setPart, splice, endS, resS, fieldS, clC, hon, hlk, n1, c_l19_Made_L0, g1, hc, hx, h9, h8, q1, sl_cells hN.sl, sl_sto hN.sl, sl_cells hA.sl, sl_sto hA.sl]
  | true =>
    rw [hon] at hx n1
    by_cases c0 : xc.nodes.length = 0
    · rw [c0] at hln
      refine ⟨(Ma.set (M.next + 6) (some [.agg [.own (M.next + 16) 8 0 N, .bool true, .int .i64 (xc.start.tmod 1073741824), z1]])).set (M.next + 2) (some [.agg [.own (M.next + 16) 8 0 N, .bool true, .int .i64 (xc.start.tmod 1073741824), z1]]), true, xc.start.tmod 1073741824, z1, w1, items, ?_, (fin (.agg [.own (M.next + 16) 8 0 N, .bool true, .int .i64 (xc.start.tmod 1073741824), z1])).1, hpos, hI.hi, k2, by omega, k4, (fin _).2.1, (fin _).2.2⟩
      rw [hil]
      simp (maxSteps := 4000000) [c_l19_Made, evW_reg, evW_chkr, evW_chfr, isCst, loadS, partS, TK.agg, fieldAddrS, zeroS, storeS, setPart, splice, endS, resS, fieldS, clC, hon, hlk, n1, c_l19_Made_L0, g1, hc, hx, h9, h8, q1, k1, hln, sl_cells hN.sl, sl_sto hN.sl, sl_cells hA.sl, sl_sto hA.sl, sl_cells k2.sl, sl_sto k2.sl]
    · have hp0 : 0 < xc.nodes.length := by omega
      have hp0' : 0 < (xc.nodes.length : Int) := by omega
      obtain ⟨u0, ⟨A0, rfl, hA0, hpA0⟩, g0, gi0, _⟩ := hN.item ti_sl_api_Node ti_api_Node elmNd hp0
      have gi0' : indexAddrS ES.P T_sl_api_Node NX (.int .i64 0) = some (.rptr (its NX) 0 0 (stOf NX)) := gi0
      obtain ⟨z2, w2, j1, j2, j3, j4⟩ := hWh hA0 hpA0
      generalize xc.nodes[0] = n0 at *
      simp only [ndC] at g0
      refine ⟨(Ma.set (M.next + 6) (some [.agg [.own (M.next + 16) 8 0 N, .bool true, .int .i64 (n0.start.tmod 1073741824), z2]])).set (M.next + 2) (some [.agg [.own (M.next + 16) 8 0 N, .bool true, .int .i64 (n0.start.tmod 1073741824), z2]]), true, n0.start.tmod 1073741824, z2, w2, items, ?_, (fin (.agg [.own (M.next + 16) 8 0 N, .bool true, .int .i64 (n0.start.tmod 1073741824), z2])).1, hpos, hI.hi, j2, by omega, j4, (fin _).2.1, (fin _).2.2⟩
      rw [hil]
      simp (maxSteps := 4000000) [c_l19_Made, evW_reg, evW_chkr, evW_chfr, isCst, loadS, partS, TK.agg, fieldAddrS, zeroS, storeS, setPart, splice, endS, resS, fieldS, clC, hon, hlk, n1, c_l19_Made_L0, g1, hc, hx, h9, h8, q1, k1, j1, hln, hp0, hp0', gi0', g0, sl_cells hN.sl, sl_sto hN.sl, sl_cells hA.sl, sl_sto hA.sl, sl_cells k2.sl, sl_sto k2.sl, sl_cells j2.sl, sl_sto j2.sl]

end Go.Proofs.YtljjmdcdlcefmaaGreatDoor

/-
  Walks of the seat's functions: Om.
-/
set_option linter.unusedVariables false
set_option linter.unusedSimpArgs false
set_option maxRecDepth 100000
namespace Go.Proofs.YtljjmdcdlcefmaaGreatDoor
open Go.Proofs.YtljjmdcdlcefmaaGreatDoor.Sh
/-! Cells made right, of all parts. -/
theorem mapM_some {f : SV → Option SV} : ∀ {items : List SV}, (∀ y ∈ items, (f y).isSome = true) → ∃ items', items.mapM f = some items' ∧ items'.length = items.length ∧ ∀ (j : Nat) (y y' : SV), items[j]? = some y → items'[j]? = some y' → f y = some y'
  | [], _ => ⟨[], rfl, rfl, fun j y y' h => by simp at h⟩
  | x :: r, h => by
    obtain ⟨x', hx⟩ := Option.isSome_iff_exists.1 (h x (by simp))
    obtain ⟨r', h1, h2, h3⟩ := mapM_some (f := f) (items := r) fun y hy => h y (by simp [hy])
    refine ⟨x' :: r', by rw [List.mapM_cons, hx, h1]; rfl, by simp [h2], fun j y y' hy hy' => ?_⟩
    cases j with
    | zero =>
      simp only [List.getElem?_cons_zero, Option.some.injEq] at hy hy'
      rw [← hy, ← hy']
      exact hx
    | succ j =>
      simp only [List.getElem?_cons_succ] at hy hy'
      exact h3 j y y' hy hy'
structure CelOwn (M : Mem) (o y : SV) (x : Cel) (n : Int) : Prop where
  ex : ∃ q ns Ag, y = .agg [.own q 8 0 ns.length, .bool x.on, .int .i64 x.start, Ag] ∧ M.blk q = some ns ∧ q < M.next ∧ (∀ e p r, o ≠ .own q e p r) ∧ RSl NdR (.sl ns .ro) x.nodes ∧ Ints Ag x.ages ∧ Sh.pv Ag = true
  ag : ∀ nd ∈ x.nodes, nd.ages.length ≤ 50
  ln : (x.nodes.length : Int) = n
theorem CelOwn.keep {M M' : Mem} {o o' y : SV} {x : Cel} {n : Int} (h : CelOwn M o y x n) (hk : Keeps o M M') (hn : M.next ≤ M'.next) (ho : ∀ id e a b, o' = .own id e a b → M.next ≤ id ∨ o' = o) : CelOwn M' o' y x n := by
  obtain ⟨⟨q, ns, Ag, e, h1, h2, h3, h4⟩, h5, h6⟩ := h
  refine ⟨⟨q, ns, Ag, e, (hk q h2 h3).trans h1, by omega, fun e' p r hh => ?_, h4⟩, h5, h6⟩
  rcases ho q e' p r hh with h | h
  · omega
  · exact h3 e' p r (h ▸ hh)
structure CeI (K : List SV) (c : Cfg) (b : Nat) (o : SV) (items : List SV) (cs : List Cel) (M : Mem) : Prop where
  hc : M.blk b = some [.agg K]
  lt : b < M.next
  ho : OutR 4 o M items
  ne : ∀ e p q, o ≠ .own b e p q
  ln : items.length = cs.length
  at' : ∀ (j : Nat) (y : SV) (x : Cel), items[j]? = some y → cs[j]? = some x → CelOwn M o y x (nodesAt c j)
theorem CeI.app {K : List SV} {c : Cfg} {b : Nat} {o : SV} {items : List SV} {cs : List Cel} {M X : Mem} (h : CeI K c b o items cs M) {y : SV} {x : Cel} (hy : y.cells.length = 4) (hl : items.length ≤ 1000) (hX : Old M X) (hn : M.next ≤ X.next)
    (hxy : ∀ M' o', (∀ q, M.next ≤ q → q < X.next → M'.blk q = X.blk q) → X.next ≤ M'.next → (∀ id e a b, o' = .own id e a b → X.next ≤ id ∨ id < M.next) → CelOwn M' o' y x (nodesAt c cs.length)) :
    ∃ o' k M1, appendS ES.P ((X.bump 5).set (X.next + 2) (some [y])).blk (X.next + 3) T_sl_api_Cell T_sl_api_Cell o (.own (X.next + 2) 4 0 1) = some (o', k) ∧ ((X.bump 5).set (X.next + 2) (some [y])).sets k = M1 ∧ CeI K c b o' (items ++ [y]) (cs ++ [x]) M1 := by
  obtain ⟨o', k, p1, p2, p3, p4, p5⟩ := OutR.nextS (P := ES.P) (te := ⟨.struct [(T_sl_api_Node, 0), (T_api_Guard, 1)], 4, 64, some (.agg [.nilsl, .bool false, .int .i64 0, .nilsl])⟩) (get := ((X.bump 5).set (X.next + 2) (some [y])).blk) (o := o) (x := .own (X.next + 2) 4 0 1) (M := X) (items := items) (ys := [y]) (X := (X.bump 5).set (X.next + 2) (some [y])) (a := X.next + 3) ti_sl_api_Cell ti_api_Cell rfl (by decide) rfl rfl (h.ho.old hX hn) (by show (items.length + 1) * 64 ≤ 140737488355328; omega) (by show items.length + 1 ≤ 140737488355328; omega)
    (fun id hid => by
      have e : ¬ id = X.next + 2 := by omega
      simp [e]) (by simp [itemsS]) (by simp [srcFits]) (by simp [Sh.unif, hy]) (fun id hid => by
      have e : ¬ id = X.next + 2 := by omega
      simp [e]) (by show X.next + 3 < X.next + 5; omega) (by show X.next ≤ X.next + 5; omega) (by omega)
  have hlt := h.lt
  have p4' : ((((X.bump 5).set (X.next + 2) (some [y])).sets k)).next = X.next + 5 := by rw [p4]; rfl
  have ho := h.ho
  have own_lt : ∀ id e a b, o = .own id e a b → id < M.next := fun id e a b hh => by
    rcases ho with ⟨_, h2⟩ | ⟨q, h2, _, h4⟩
    · rw [h2] at hh; cases hh
    · rw [h2] at hh; cases hh; exact h4
  refine ⟨o', k, _, p1, rfl, (p3 b (by omega) h.ne).trans ((hX b hlt).trans h.hc), by omega, p2, fun e p q hh => ?_, by simp [h.ln], fun j z w hz hw => ?_⟩
  · rcases p5 b e p q hh with h1 | h1
    · omega
    · exact h.ne e p q (h1 ▸ hh)
  · by_cases hj : j < items.length
    · rw [List.getElem?_append_left hj] at hz
      rw [List.getElem?_append_left (by have := h.ln; omega)] at hw
      have hk := (h.at' j z w hz hw).keep (o' := o) (M' := X) (fun id hid _ => hX id hid) hn (fun id e a b hh => .inr rfl)
      exact hk.keep p3 (by omega) (fun id e a b hh => by
        rcases p5 id e a b hh with h1 | h1
        · exact .inl (by omega)
        · exact .inr h1)
    · have hj2 : j < (items ++ [y]).length := (List.getElem?_eq_some_iff.1 hz).1
      obtain rfl : j = items.length := by simp at hj2; omega
      rw [List.getElem?_append_right (Nat.le_refl _)] at hz
      rw [h.ln, List.getElem?_append_right (Nat.le_refl _)] at hw
      simp at hz hw
      rw [← hz, ← hw, h.ln]
      refine hxy _ o' (fun q h1 h2 => p3 q h2 (fun e a b hh => ?_)) (by omega) (fun id e a b hh => ?_)
      · have := own_lt q e a b hh; omega
      · rcases p5 id e a b hh with h1 | h1
        · exact .inl h1
        · exact .inr (own_lt id e a b (h1 ▸ hh))
theorem nodes_of {ns : List SV} (h : ∀ y ∈ ns, ∃ nd, NdR y nd ∧ nd.ages.length ≤ 50) : ∃ l, RSl NdR (.sl ns .ro) l ∧ (∀ nd ∈ l, nd.ages.length ≤ 50) ∧ l.length = ns.length := by
  obtain ⟨l, hl⟩ := RSl.exists (R := fun y (nd : Node) => NdR y nd ∧ nd.ages.length ≤ 50) (tl := .ro) (items := ns) h
  refine ⟨l, ⟨hl.sl, hl.len, fun j y a hy ha => (hl.at' j y a hy ha).1⟩, fun nd hnd => ?_, hl.len.symm⟩
  obtain ⟨j, hj, rfl⟩ := List.mem_iff_getElem.1 hnd
  obtain ⟨y, hy, hr⟩ := hl.get hj
  exact hr.2
theorem NdR.pv {y : SV} {n : Node} (h : NdR y n) : Sh.pv y = true := by
  obtain ⟨A, rfl, _, hA⟩ := h
  exact ndPv hA
/-- What such a cell looks like from outside. -/
theorem CelOwn.pic {M : Mem} {o y : SV} {x : Cel} {n : Int} (h : CelOwn M o y x n) : ∃ y', Sh.pic M.blk true 11 y = some y' ∧ ClR y' x ∧ Sh.pv y' = true := by
  obtain ⟨⟨q, ns, Ag, rfl, h1, h2, h3, h4, h5, h6⟩, _, _⟩ := h
  have hns : ∀ z ∈ ns, Sh.pv z = true := fun z hz => by
    obtain ⟨j, hj, rfl⟩ := List.mem_iff_getElem.1 hz
    have hlen : ns.length = x.nodes.length := h4.len
    exact (h4.at' j ns[j] x.nodes[j] (by show ns[j]? = _; simp [hj]) (by simp [show j < x.nodes.length by omega])).pv
  have hq : Sh.pic M.blk true 10 (.own q 8 0 ns.length) = some (.sl ns .ro) := by
    unfold Sh.pic
    simp only [Sh.pv, Bool.false_eq_true, if_false, h1, Nat.zero_add, if_pos (Nat.le_refl _), List.drop_zero, List.take_length]
    rw [mapM_id fun x hx => pic_np (np_of_pv (hns x hx) _)]
    rfl
  have hN : Sh.pv (.sl ns .ro) = true := by simp [Sh.pv, pvs_iff.2 hns]
  have b1 : Sh.pic M.blk true 10 (.bool x.on) = some (.bool x.on) := pic_np (np_of_pv rfl _)
  have b2 : Sh.pic M.blk true 10 (.int .i64 x.start) = some (.int .i64 x.start) := pic_np (np_of_pv rfl _)
  have b3 : Sh.pic M.blk true 10 Ag = some Ag := pic_np (np_of_pv h6 _)
  refine ⟨.agg (clC x (.sl ns .ro) Ag), ?_, ⟨.sl ns .ro, Ag, rfl, h4, h5, hN, h6⟩, clPv hN h6⟩
  show Sh.pic M.blk true (10 + 1) _ = _
  unfold Sh.pic
  simp only [Sh.pv, pvs, Bool.false_and, Bool.false_eq_true, if_false]
  simp [hq, b1, b2, b3, clC]
set_option maxHeartbeats 16000000 in
theorem cells_B1 {P L : SV} {c : Cfg} (hP : CfgP c P L) (hfit : fitG c = true) {xl : SV} {l : List Cel} (hx : Cels xl l) (hsm : ∀ x ∈ l, x.nodes.length ≤ 1000) {b : Nat} {o : SV} {items : List SV} {cs : List Cel} {M : Mem} {i : Nat} (hi : i < c.parts.length) (h : CeI (cfgC c P L) c b o items cs M) (hl : cs.length = i) :
    ∃ M' o' items' cs', evW ES n_l20_cells c_l20_cells_B1 ⟨h_l20_cells_1 xl (.int .i64 (-1)) (.ptr b 0 0) o (.int .i64 i), M⟩ = some (.normal, ⟨h_l20_cells_1 xl (.int .i64 (-1)) (.ptr b 0 0) o' (.int .i64 ((i + 1 : Nat) : Int)), M'⟩) ∧ CeI (cfgC c P L) c b o' items' cs' M' ∧ cs'.length = i + 1 := by
  have hfr := right_facts (fitG_spec.1 hfit).1
  have hw : IntKind.i64.wrap ((i : Int) + 1) = (i : Int) + 1 := i64_in (by omega) (by omega)
  have hlx := hx.lenS ti_sl_api_Cell
  have hlp := hP.p.lenS ti_sl_api_Part
  have hlk : (cfgC c P L).length = 13 := rfl
  have hK0 : (cfgC c P L)[0]? = some P := rfl
  have hMade := fun {xc : Cel} {NX AX : SV} (h1 : Nds NX xc.nodes) (h2 : Ints AX xc.ages) (h3 : xc.nodes.length ≤ 1000) (h4 : Sh.pv NX = true) (h5 : Sh.pv AX = true) M => l19Made_ic hP hfit hi h1 h2 h3 h4 h5 M
  have hna := nodesAt_in hi
  have hcb := h.hc
  have hlt := h.lt
  generalize cfgC c P L = K at *
  have hK0' : K[0]'(by omega) = P := by simpa [hlk] using hK0
  -- the cell that it is made of
  obtain ⟨xc, NX, AX, hN, hA, hpN, hpA, hsz, hcell⟩ : ∃ (xc : Cel) (NX AX : SV), Nds NX xc.nodes ∧ Ints AX xc.ages ∧ Sh.pv NX = true ∧ Sh.pv AX = true ∧ xc.nodes.length ≤ 1000 ∧
      ((¬ i < l.length ∧ clC xc NX AX = [.nilsl, .bool false, .int .i64 0, .nilsl]) ∨ (i < l.length ∧ indexAddrS ES.P T_sl_api_Cell xl (.int .i64 i) = some (.rptr (its xl) i 0 (stOf xl)) ∧ (its xl)[i]? = some (.agg (clC xc NX AX)))) := by
    by_cases hil : i < l.length
    · obtain ⟨y, ⟨N, A, rfl, q1, q2, q3, q4⟩, hy, ha, _⟩ := hx.item ti_sl_api_Cell ti_api_Cell elmCl hil
      exact ⟨l[i], N, A, q1, q2, q3, q4, hsm _ (List.getElem_mem hil), .inr ⟨hil, ha, hy⟩⟩
    · exact ⟨⟨[], false, 0, []⟩, .nilsl, .nilsl, RSl.nil _, RSl.nil _, rfl, rfl, by simp, .inl ⟨hil, rfl⟩⟩
  obtain ⟨M2, on, st, Ag, w, ns, m1, m2, m3, m4, m5, m6, m7, m8, m9⟩ := hMade hN hA hsz hpN hpA (((M.bump 3).set (M.next + 1) (some [.agg (clC xc NX AX)])).bump 6)
  have e9 : (((M.bump 3).set (M.next + 1) (some [.agg (clC xc NX AX)])).bump 6).next = M.next + 9 := rfl
  rw [e9] at m1 m2 m9
  rw [show M.next + 9 + 16 = M.next + 25 by omega] at m1 m2
  obtain ⟨nl, k1, k2, k3⟩ := nodes_of m4
  obtain ⟨Mb, eMb⟩ : ∃ Mb, Mb = M2.set (M.next + 7) (some [.agg [.own (M.next + 25) 8 0 ns.length, .bool on, .int .i64 st, Ag]]) := ⟨_, rfl⟩
  have hMbn : Mb.next = M2.next := by rw [eMb]; rfl
  have hOld : Old M Mb := fun id hid => by
    have q1 : ¬ id = M.next + 7 := by omega
    have q2 : ¬ id = M.next + 1 := by omega
    have q3 := m8 id (by rw [e9]; omega)
    rw [eMb]
    simp [q1, q3, q2]
  have hbq : Mb.blk (M.next + 25) = some ns := by
    rw [eMb]
    simp [m2]
  have hst' : (M2.next ≤ Mb.next) := by omega
  have m10 : M.next + 28 ≤ M2.next := by omega
  have hil : items.length ≤ 1000 := by have := h.ln; have := hfr.2; omega
  obtain ⟨o', k, M1, p1, p2, p3⟩ := h.app (x := ⟨nl, on, st, w⟩) (y := .agg [.own (M.next + 25) 8 0 ns.length, .bool on, .int .i64 st, Ag]) rfl hil hOld (by omega) (fun M' o' q1 q2 q3 => by
    refine ⟨⟨M.next + 25, ns, Ag, rfl, (q1 _ (by omega) (by omega)).trans hbq, by omega, fun e p r hh => ?_, k1, m5, m7⟩, k2, ?_⟩
    · rcases q3 _ _ _ _ hh with h1 | h1 <;> omega
    · rw [k3, hl, hna]
      exact m3)
  have bs : ∀ (q : Nat) (u1 : SV) (u2 : Bool) (u3 : Int) (u4 : SV), bldSl ES.P T_sl_api_Cell 1 q [(0, .agg [u1, .bool u2, .int .i64 u3, u4])] = some (.own q 4 0 1, [.agg [u1, .bool u2, .int .i64 u3, u4]]) := fun q u1 u2 u3 u4 => by simp [bldSl, buildRow]
  have hc7 : Mb.blk (M.next + 7) = some [.agg [.own (M.next + 25) 8 0 ns.length, .bool on, .int .i64 st, Ag]] := by rw [eMb]; simp
  have hxc : ∀ e : ¬ i < l.length, clC xc NX AX = [.nilsl, .bool false, .int .i64 0, .nilsl] := fun e => by
    rcases hcell with ⟨_, h2⟩ | ⟨h1, _⟩
    · exact h2
    · exact absurd h1 e
  have d1 : ¬ b = M.next + 1 := by omega
  have d2 : ¬ b = M.next + 7 := by omega
  refine ⟨M1, o', _, _, ?_, p3, by simp [hl]⟩
  have hlo : lenS ES.P T_sl_api_Node (.own (M.next + 25) 8 0 ns.length) = some (.int .i64 ns.length) := by simp [lenS]
  have hL : evW ES n_l20_cells c_l20_cells_L0 ⟨h_l20_cells_0 xl (.int .i64 (-1)) (.ptr b 0 0) o (.int .i64 i) (.ptr (M.next + 3 + 4) 0 0) (.int .i64 0), Mb⟩ = some (.exit 2, ⟨(h_l20_cells_0 xl (.int .i64 (-1)) (.ptr b 0 0) o (.int .i64 i) (.ptr (M.next + 3 + 4) 0 0) (.int .i64 0)).set 40 (.bool false), Mb⟩) := by
    show evW ES n_l20_cells (.loop c_l20_cells_B0) _ = _
    rw [evW_loop]
    by_cases hz : ns.length = 0
    · rw [hz] at hlo hc7
      simp (maxSteps := 4000000) [c_l20_cells_B0, evW_reg, evW_chkr, evW_chfr, isCst, loadS, partS, TK.agg, fieldAddrS, zeroS, storeS, setPart, splice, endS, resS, fieldS, h_l20_cells_0, hc7, hlo, hz]
    · have hz' : 0 < ns.length := by omega
      simp (maxSteps := 4000000) [c_l20_cells_B0, evW_reg, evW_chkr, evW_chfr, isCst, loadS, partS, TK.agg, fieldAddrS, zeroS, storeS, setPart, splice, endS, resS, fieldS, h_l20_cells_0, hc7, hlo, hz']
  simp [h_l20_cells_0] at hL
  rw [hMbn] at p1 p2
  rw [eMb] at p1 p2 hc7 hL
  have bz : bldS ES.P T_api_Cell [] = some (.agg [.nilsl, .bool false, .int .i64 0, .nilsl]) := by simp [bldS, placesOf, buildS]
  by_cases hil2 : i < l.length
  · obtain ⟨_, e1, e2⟩ : i < l.length ∧ indexAddrS ES.P T_sl_api_Cell xl (.int .i64 i) = some (.rptr (its xl) i 0 (stOf xl)) ∧ (its xl)[i]? = some (.agg (clC xc NX AX)) := by
      rcases hcell with ⟨h1, _⟩ | h1
      · exact absurd hil2 h1
      · exact h1
    simp only [clC] at e2 m1
    simp (maxSteps := 4000000) [c_l20_cells_B1, evW_reg, evW_chkr, evW_chfr, isCst, loadS, partS, TK.agg, fieldAddrS, zeroS, storeS, setPart, splice, endS, resS, fieldS, h_l20_cells_1, hcb, hlk, hK0', hlp, hi, hlx, hil2, e1, e2, m1, hL, bz, bs, p1, p2, hw, d1, d2, sl_cells hN.sl, sl_sto hN.sl, sl_cells hA.sl, sl_sto hA.sl, sl_cells m5.sl, sl_sto m5.sl]
  · have e1 := hxc hil2
    rw [e1] at m1
    simp (maxSteps := 4000000) [c_l20_cells_B1, evW_reg, evW_chkr, evW_chfr, isCst, loadS, partS, TK.agg, fieldAddrS, zeroS, storeS, setPart, splice, endS, resS, fieldS, h_l20_cells_1, hcb, hlk, hK0', hlp, hi, hlx, hil2, m1, hL, bz, bs, p1, p2, hw, d1, d2, sl_cells m5.sl, sl_sto m5.sl]
set_option maxHeartbeats 4000000 in
theorem cells_ic {P L : SV} {c : Cfg} (hP : CfgP c P L) (hfit : fitG c = true) {xl : SV} {l : List Cel} (hx : Cels xl l) (hsm : ∀ x ∈ l, x.nodes.length ≤ 1000) (M0 : Mem) :
    ∃ o M' items cs, ICw ES n_l20_cells [.agg (cfgC c P L), xl, .int .i64 (-1)] M0 = some (o, M') ∧ CeI (cfgC c P L) c M0.next o items cs M' ∧ cs.length = c.parts.length := by
  have hlk : (cfgC c P L).length = 13 := rfl
  have hlp := hP.p.lenS ti_sl_api_Part
  have hK0 : (cfgC c P L)[0]? = some P := rfl
  have step := fun {b : Nat} {o : SV} {items : List SV} {cs : List Cel} {M : Mem} {i : Nat} (hi : i < c.parts.length) => @cells_B1 P L c hP hfit xl l hx hsm b o items cs M i hi
  rw [b_l20_cells]
  generalize cfgC c P L = K at *
  have hK0' : K[0]'(by omega) = P := by simpa [hlk] using hK0
  obtain ⟨r, g1, Ma, o, items, cs, rfl, hI, hcs⟩ := loop_st (E := ES) (me := n_l20_cells) (B := c_l20_cells_B1) (β := SV × List SV × List Cel) (len := c.parts.length) (T := fun j o => h_l20_cells_1 xl (.int .i64 (-1)) (.ptr M0.next 0 0) o.1 (.int .i64 j))
    (I := fun j o M => CeI K c M0.next o.1 o.2.1 o.2.2 M ∧ o.2.2.length = j)
    (Q := fun r => ∃ M' o items cs, r = (.exit 0, ⟨(h_l20_cells_1 xl (.int .i64 (-1)) (.ptr M0.next 0 0) o (.int .i64 c.parts.length)).set 16 (.bool false), M'⟩) ∧ CeI K c M0.next o items cs M' ∧ cs.length = c.parts.length)
    (fun j o M hj ⟨i1, i2⟩ => by
      left
      obtain ⟨M', o', items', cs', a1, a2, a3⟩ := step hj i1 i2
      exact ⟨(o', items', cs'), M', a1, a2, a3⟩)
    (fun o M ⟨i1, i2⟩ => by
      have hcb := i1.hc
      exact ⟨_, by simp [c_l20_cells_B1, evW_reg, evW_chkr, evW_chfr, isCst, loadS, partS, TK.agg, fieldAddrS, zeroS, storeS, setPart, splice, endS, resS, fieldS, h_l20_cells_1, hcb, hlk, hK0', hlp], by simp, M, o.1, o.2.1, o.2.2, rfl, i1, i2⟩) 0 (.nilsl, [], []) ((M0.bump 2).set M0.next (some [.agg K])) (by omega)
    ⟨⟨by simp, by show M0.next < M0.next + 2; omega, .inl ⟨rfl, rfl⟩, fun _ _ _ h => (by cases h), rfl, fun j y x h => by simp at h⟩, rfl⟩
  simp [h_l20_cells_1] at g1
  refine ⟨o, Ma, items, cs, ?_, hI, hcs⟩
  simp [c_l20_cells, evW_reg, evW_chkr, evW_chfr, isCst, TK.agg, zeroS, endS, resS, c_l20_cells_L1, g1]
theorem cels_of {K : List SV} {c : Cfg} {b : Nat} {o : SV} {items : List SV} {cs : List Cel} {M : Mem} (h : CeI K c b o items cs M) : ∃ z, Sh.pic M.blk true picDepth o = some z ∧ Cels z cs ∧ Sh.pv z = true := by
  rcases h.ho with ⟨rfl, rfl⟩ | ⟨id, rfl, h1, h2⟩
  · have : cs = [] := List.length_eq_zero_iff.1 h.ln.symm
    subst this
    exact ⟨.nilsl, rfl, RSl.nil _, rfl⟩
  · have hln := h.ln
    obtain ⟨items', e1, e2, e3⟩ := mapM_some (f := Sh.pic M.blk true 11) (items := items) fun y hy => by
      obtain ⟨j, hj, rfl⟩ := List.mem_iff_getElem.1 hy
      obtain ⟨y', q1, _, _⟩ := (h.at' j items[j] cs[j] (by simp [hj]) (by simp [show j < cs.length by omega])).pic
      rw [q1]; rfl
    have key : ∀ (j : Nat) (y : SV) (a : Cel), items'[j]? = some y → cs[j]? = some a → ClR y a ∧ Sh.pv y = true := fun j y a hy ha => by
      have hj : j < items.length := by have := (List.getElem?_eq_some_iff.1 hy).1; omega
      have h9 := h.at' j items[j] a (by simp [hj]) ha
      obtain ⟨y', q1, q2, q3⟩ := h9.pic
      have := e3 j items[j] y (by simp [hj]) hy
      rw [q1] at this
      cases this
      exact ⟨q2, q3⟩
    have hpv : ∀ y ∈ items', Sh.pv y = true := fun y hy => by
      obtain ⟨j, hj, rfl⟩ := List.mem_iff_getElem.1 hy
      exact (key j items'[j] cs[j] (by simp [hj]) (by simp [show j < cs.length by omega])).2
    refine ⟨.sl items' .ro, ?_, ⟨rfl, by show items'.length = _; omega, fun j y a hy ha => (key j y a hy ha).1⟩, by simp [Sh.pv, pvs_iff.2 hpv]⟩
    show Sh.pic M.blk true (11 + 1) _ = _
    unfold Sh.pic
    simp only [Sh.pv, Bool.false_eq_true, if_false, h1, Nat.zero_add, if_pos (Nat.le_refl _), List.drop_zero, List.take_length, e1]
    rfl
theorem fitG_right {c : Cfg} (h : fitG c = true) : rightC c = true := (fitG_spec.1 h).1
theorem cells_shaped {K : List SV} {c : Cfg} (hr : rightC c = true) {b : Nat} {o : SV} {items : List SV} {cs : List Cel} {M : Mem} (h : CeI K c b o items cs M) (hl : cs.length = c.parts.length) : shapedB c cs = true ∧ (∀ x ∈ cs, ∀ n ∈ x.nodes, n.ages.length ≤ 50) := by
  have hln := h.ln
  have key : ∀ (j : Nat) (hj : j < cs.length), ((cs[j].nodes.length : Int) = nodesAt c j) ∧ ∀ n ∈ cs[j].nodes, n.ages.length ≤ 50 := fun j hj => by
    have h9 := h.at' j items[j] cs[j] (by simp [show j < items.length by omega]) (by simp [hj])
    exact ⟨h9.ln, h9.ag⟩
  constructor
  · simp only [shapedB, Bool.and_eq_true, decide_eq_true_eq, Option.isNone_iff_eq_none]
    refine ⟨⟨hr, hl⟩, ?_⟩
    rw [List.find?_eq_none]
    intro j hj
    have hj' : j < cs.length := by simpa using hj
    have hp : j < c.parts.length := by omega
    have := (key j hj').1
    rw [nodesAt_in hp] at this
    simp [badCell, hj', hp, this]
  · intro x hx n hn
    obtain ⟨j, hj, rfl⟩ := List.mem_iff_getElem.1 hx
    exact (key j hj).2 n hn
theorem cells_c {P L : SV} {c : Cfg} (hP : CfgP c P L) (hfit : fitG c = true) {xl : SV} {l : List Cel} (hx : Cels xl l) (hnx : Sh.np picDepth xl = true) (hsm : ∀ x ∈ l, x.nodes.length ≤ 1000) :
    ∃ z cs, (∀ get, callP (PCw ES) get n_l20_cells [.agg (cfgC c P L), xl, .int .i64 (-1)] = some z) ∧ Cels z cs ∧ Sh.pv z = true ∧ shapedB c cs = true ∧ (∀ x ∈ cs, ∀ n ∈ x.nodes, n.ages.length ≤ 50) := by
  obtain ⟨o, M', items, cs, h1, h2, h3⟩ := cells_ic hP hfit hx hsm .empty
  obtain ⟨z, z1, z2, z3⟩ := cels_of h2
  obtain ⟨s1, s2⟩ := cells_shaped (fitG_right hfit) h2 h3
  exact ⟨z, cs, fun get => callP_of (PCw_pic h1 z1 z3) (by simp [hP.npA, hnx]), z2, z3, s1, s2⟩

end Go.Proofs.YtljjmdcdlcefmaaGreatDoor
