/-
  Walks of the seat's functions: On.
-/
import Derived.Test.YtljjmdcdlcefmaaGreatDoorEbMa
import Derived.Test.YtljjmdcdlcefmaaGreatDoorShMb
import Derived.Test.YtljjmdcdlcefmaaGreatDoorLzMl
import Derived.Test.YtljjmdcdlcefmaaGreatDoorLOi
import Derived.Test.YtljjmdcdlcefmaaGreatDoorLBl
import Derived.Test.YtljjmdcdlcefmaaGreatDoorLzMf
set_option linter.unusedVariables false
set_option linter.unusedSimpArgs false
set_option maxRecDepth 100000
namespace Go.Proofs.YtljjmdcdlcefmaaGreatDoor
open Go.Proofs.YtljjmdcdlcefmaaGreatDoor.Sh
/-! The laws PortTells and PortSides. -/
theorem side_up {c : Cfg} {part : Int} {p : Port} (h : p ∈ portsG c part) {cs : List Cel} (hs : shapedB c cs = true) :
    upG c cs p.link p.gate = ((!decide ((nodeAt cs (farOf c.links p).1 (farOf c.links p).2).state = 0)) || !decide ((nodeAt cs part p.node).state = 0)) ∧ (p.gate = 0 ∨ p.gate = 1) ∧ inMany part c.parts.length ∧ inMany p.node (nodesAt c part) := by
  obtain ⟨hpi, f1, f2, hp⟩ := ports_far h
  obtain ⟨q, q1, q2, q3, q4, q5, q6, q7⟩ := portG_far hp
  have hin : inMany part c.parts.length ∧ inMany p.node (nodesAt c part) := by
    unfold portsG at h
    split at h
    case isFalse => simp at h
    rename_i hh
    simp only [Bool.and_eq_true, decide_eq_true_eq] at hh
    obtain ⟨hr, hin⟩ := hh
    have he : checkErr c = none := checkG_zero (by simpa [rightC] using hr)
    have hok := portsOk_of he part
    exact ⟨hin, (hok.ends (Nat.le_refl _)).2 p ((portsL_mem hok).1 h)⟩
  obtain ⟨⟨j, hj, e⟩, hg, hsd⟩ := hpi
  refine ⟨?_, hg, hin⟩
  unfold upG
  have hl : c.links[p.link.toNat]? = some c.links[j] := by rw [e]; simp [hj]
  have b1 : (0 ≤ p.link ∧ p.link < c.links.length) := by omega
  rw [hs, hl]
  simp only [b1, hg, and_self, decide_true, Bool.and_self, Bool.true_and]
  have hl2 : c.links[q.link.toNat]? = some c.links[j] := by rw [q2]; exact hl
  unfold farOf at q6 ⊢
  rw [hl2] at q6
  rw [hl]
  generalize c.links[j] = k at *
  rw [q3] at q6
  unfold litG gateEnd
  rcases hsd with hsd | hsd
  · have : q.side = 1 := by omega
    simp only [this, hsd, if_true, if_false, Prod.mk.injEq, show ¬ ((1 : Int) = 0) by decide] at q6 ⊢
    rw [q6.1, q6.2, Bool.or_comm]
  · have : q.side = 0 := by omega
    simp only [this, hsd, if_true, if_false, Prod.mk.injEq, show ¬ ((1 : Int) = 0) by decide] at q6 ⊢
    rw [q6.1, q6.2]
theorem agesOk_of {cs : List Cel} (h : ∀ x ∈ cs, ∀ n ∈ x.nodes, n.ages.length ≤ 50) : agesOk cs := fun x hx n hn => by have := h x hx n hn; omega
theorem small_nodes {l : List Cel} (h : smallB l = true) : ∀ x ∈ l, x.nodes.length ≤ 1000 := fun x hx => by
  simp only [smallB, Bool.and_eq_true, decide_eq_true_eq, Bool.not_eq_true', List.any_eq_false] at h
  have h1 := h.2 x hx
  simp only [bigC, Bool.or_eq_true, not_or, decide_eq_true_eq] at h1
  omega
set_option maxHeartbeats 8000000 in
theorem PortTells_walk (xs0 xs1 xs2 xs3 xs4 : List SV) (h0 : WT ES.P 8 T_int xs0) (h1 : WT ES.P 8 T_int xs1) (h2 : WT ES.P 8 T_sl_api_Cell xs2) (h3 : WT ES.P 8 T_uint8 xs3) (h4 : WT ES.P 8 T_uint8 xs4) :
    ∃ M', ICw ES n_l20_PortTells [mkV ES.P T_int xs0, mkV ES.P T_int xs1, mkV ES.P T_sl_api_Cell xs2, mkV ES.P T_uint8 xs3, mkV ES.P T_uint8 xs4] .empty = some (.bool true, M') := by
  obtain ⟨n, _, e0, _⟩ := WT_int ti_int h0
  obtain ⟨part, _, e1, _⟩ := WT_int ti_int h1
  obtain ⟨l, hx, hpv⟩ := cells_of h2
  obtain ⟨link, _, e3, _⟩ := WT_int ti_uint8 h3
  obtain ⟨gate, _, e4, _⟩ := WT_int ti_uint8 h4
  rw [e0, e1, e3, e4, b_l20_PortTells]
  generalize mkV ES.P T_sl_api_Cell xs2 = x at *
  have hnp := np_of_pv hpv picDepth
  have hsm := fun get => l20_small_c get hx hnp
  obtain ⟨P, L, hm, hP⟩ := Made_c n
  have hfit := made_fit n
  cases hsb : smallB l with
  | false =>
    rw [hsb] at hsm
    simp (maxSteps := 4000000) [c_l20_PortTells, evW_reg, evW_chkr, evW_chfr, isCst, loadS, partS, TK.agg, fieldAddrS, zeroS, storeS, setPart, splice, endS, resS, fieldS, hsm]
  | true =>
    rw [hsb] at hsm
    obtain ⟨z, cs, k1, k2, k3, k4, k5⟩ := cells_c hP hfit hx hnp (small_nodes hsb)
    have hag := agesOk_of k5
    have hlen : cs.length ≤ 17592186044416 := by have := (shaped_spec k4).2.1; have := (right_facts (fitG_spec.1 hfit).1); omega
    have hnz := np_of_pv k3 picDepth
    obtain ⟨z1, a1, a2, _⟩ := port_Fars_c hP k2 hnz hlen hag part
    obtain ⟨z2, b1, b2, _⟩ := r17_Fars_c hP k2 hnz hlen hag part
    have hs := fun get => SameFars_c get a2 b2 (by have := farsG_len (madeC n) part cs; omega) (farsG_ages hag)
    have hU1 := fun link gate get => port_Up_c get hP k2 hnz hlen link gate
    have hU2 := fun link gate get => r17_Up_c get hP k2 hnz hlen link gate
    have hP1 := fun link get => port_Pair_c get hP k2 hnz hlen link
    have hP2 := fun link get => r17_Pair_c get hP k2 hnz hlen link
    have hlk : (cfgC (madeC n) P L).length = 13 := rfl
    have be : ∀ b : Bool, binS ES.P .eql T_bool false (.bool b) (.bool b) = some (.bool true) := fun b => by cases b <;> rfl
    have r12 : ∀ v : Int, binS ES.P .rem T_int false (.int .i64 v) (.int .i64 12) = some (.int .i64 (v.tmod 12)) := fun v => binS_rem (by omega)
    have r3 : ∀ v : Int, binS ES.P .rem T_int false (.int .i64 v) (.int .i64 3) = some (.int .i64 (v.tmod 3)) := fun v => binS_rem (by omega)
    generalize cfgC (madeC n) P L = K at *
    simp (maxSteps := 4000000) [c_l20_PortTells, evW_reg, evW_chkr, evW_chfr, isCst, loadS, partS, TK.agg, fieldAddrS, zeroS, storeS, setPart, splice, endS, resS, fieldS, hlk, hsm, hm, k1, a1, b1, hs, hU1, hU2, hP1, hP2, be, r12, r3]
set_option maxHeartbeats 16000000 in
theorem Sides_B0 {P L : SV} {c : Cfg} (hP : CfgP c P L) {cs : List Cel} {zc : SV} (hx : Cels zc cs) (hnz : Sh.np picDepth zc = true) (hs : shapedB c cs = true) (hlen : cs.length ≤ 17592186044416) {part : Nat} {f y : SV} {ps : List Port} (hps : ∀ p ∈ ps, p ∈ portsG c part) (hl : ps.length ≤ 1000) (hy : Ports y ps) (hf : FarsR f (ps.map fun p => seeG cs (farOf c.links p)))
    {b j : Nat} (hj : j < ps.length) (M : Mem) (hb : M.blk b = some [.agg (cfgC c P L)]) (hlt : b < M.next) :
    ∃ M', evW ES n_l20_PortSides c_l20_PortSides_B0 ⟨h_l20_PortSides_0 (.ptr b 0 0) zc (.int .i64 part) f y (.int .i64 j), M⟩ = some (.normal, ⟨h_l20_PortSides_0 (.ptr b 0 0) zc (.int .i64 part) f y (.int .i64 ((j + 1 : Nat) : Int)), M'⟩) ∧ M'.blk b = some [.agg (cfgC c P L)] ∧ b < M'.next := by
  have hw : IntKind.i64.wrap ((j : Int) + 1) = (j : Int) + 1 := i64_in (by omega) (by omega)
  have hly := hy.lenS ti_sl_api_Port
  have a1 := RSl.at (enc := encPort) hy ti_sl_api_Port ti_api_Port (fun _ => rfl) hj
  have a2 : (ps.map encPort)[j]? = some (.agg [.int .i64 ps[j].node, .int .i64 ps[j].link, .int .i64 ps[j].gate, .int .i64 ps[j].side]) := by rw [List.getElem?_map, List.getElem?_eq_getElem hj]; rfl
  have hpm := hps _ (List.getElem_mem hj)
  obtain ⟨hpi, f1, f2, hp⟩ := ports_far hpm
  obtain ⟨u1, u2, u3, u4⟩ := side_up hpm hs
  have hFar := fun get => r5_Far_p get hP hp
  have hU := fun get => port_Up_c get hP hx hnz hlen ps[j].link ps[j].gate
  have hPr := fun get => port_Pair_c get hP hx hnz hlen ps[j].link
  obtain ⟨fy, ⟨fA, rfl, fA1, fA2⟩, f3, f4, _⟩ := hf.item ti_sl_api_Far ti_api_Far elmFr (j := j) (by simpa using hj)
  rw [List.getElem_map] at f3
  rw [u1] at hU
  have hup : ∀ v : Bool, upG c cs ps[j].link ps[j].gate = v → v = true → (upG c cs ps[j].link 0 || upG c cs ps[j].link 1) = true := fun v h1 h2 => by
    rcases u2 with e | e <;> rw [e] at h1 <;> rw [h1, h2] <;> simp
  rw [u1] at hup
  generalize (upG c cs ps[j].link 0 || upG c cs ps[j].link 1) = pv' at *
  generalize ps.map encPort = es at a1 a2
  generalize ps[j] = p at *
  obtain ⟨N1, on1, st1, A1, z1, w1, B1, c1, c2, c3, c4, c5, _, _⟩ := cell_at hx (shaped_node hs f1 f2).1 (shaped_node hs f1 f2).2
  obtain ⟨N2, on2, st2, A2, z2, w2, B2, d1, d2, d3, d4, d5, _, _⟩ := cell_at hx (shaped_node hs u3 u4).1 (shaped_node hs u3 u4).2
  unfold seeG at f3
  have hlk : (cfgC c P L).length = 13 := rfl
  generalize cfgC c P L = K at *
  generalize farOf c.links p = q at *
  obtain ⟨qa, qb⟩ := q
  simp only at *
  generalize nodeAt cs qa qb = nd at *
  generalize nodeAt cs part p.node = me at *
  simp only [ndC] at c4 d4
  simp only [Int.toNat_natCast] at d1 d2
  have bn : ∀ b : Bool, binS ES.P .neq T_bool false (.bool b) (.bool b) = some (.bool false) := fun b => by cases b <;> rfl
  refine ⟨(M.bump 10).set (M.next + 8) (some [.agg (ndC nd B1)]), ?_, ?_, ?_⟩
  · have hbn : ¬ b = M.next + 8 := by omega
    by_cases e2 : nd.state = 2
    · have hp1 := hup _ rfl (by simp [e2])
      subst hp1
      simp only [e2, if_true] at f3 c4 hU
      simp (maxSteps := 4000000) [c_l20_PortSides_B0, evW_reg, evW_chkr, evW_chfr, isCst, loadS, partS, TK.agg, fieldAddrS, zeroS, storeS, setPart, splice, endS, resS, fieldS, h_l20_PortSides_0, ndC, hlk, hly, hj, hb, hbn, a1, a2, hFar, c1, c2, c3, c4, d1, d2, d3, d4, f3, f4, hU, hPr, hw, bn, e2, sl_cells c5.sl, sl_sto c5.sl]
    · simp only [e2, if_false] at f3
      by_cases e0 : nd.state = 0
      · by_cases m0 : me.state = 0
        · simp only [e0, m0] at c4 d4 hU
          simp (maxSteps := 4000000) [c_l20_PortSides_B0, evW_reg, evW_chkr, evW_chfr, isCst, loadS, partS, TK.agg, fieldAddrS, zeroS, storeS, setPart, splice, endS, resS, fieldS, h_l20_PortSides_0, ndC, hlk, hly, hj, hb, hbn, a1, a2, hFar, c1, c2, c3, c4, d1, d2, d3, d4, f3, f4, hU, hPr, hw, bn, e0, e2, m0, sl_cells c5.sl, sl_sto c5.sl]
        · have hp1 := hup _ rfl (by simp [m0])
          subst hp1
          simp only [e0, m0] at c4 d4 hU
          simp (maxSteps := 4000000) [c_l20_PortSides_B0, evW_reg, evW_chkr, evW_chfr, isCst, loadS, partS, TK.agg, fieldAddrS, zeroS, storeS, setPart, splice, endS, resS, fieldS, h_l20_PortSides_0, ndC, hlk, hly, hj, hb, hbn, a1, a2, hFar, c1, c2, c3, c4, d1, d2, d3, d4, f3, f4, hU, hPr, hw, bn, e0, e2, m0, sl_cells c5.sl, sl_sto c5.sl]
      · have hp1 := hup _ rfl (by simp [e0])
        subst hp1
        simp only [e0] at c4 d4 hU
        simp (maxSteps := 4000000) [c_l20_PortSides_B0, evW_reg, evW_chkr, evW_chfr, isCst, loadS, partS, TK.agg, fieldAddrS, zeroS, storeS, setPart, splice, endS, resS, fieldS, h_l20_PortSides_0, ndC, hlk, hly, hj, hb, hbn, a1, a2, hFar, c1, c2, c3, c4, d1, d2, d3, d4, f3, f4, hU, hPr, hw, bn, e0, e2, sl_cells c5.sl, sl_sto c5.sl]
  · have hbn : ¬ b = M.next + 8 := by omega
    simp [hbn, hb]
  · show b < M.next + 10
    omega
set_option maxHeartbeats 4000000 in
theorem Sides_B1 {P L : SV} {c : Cfg} (hP : CfgP c P L) {cs : List Cel} {zc : SV} (hx : Cels zc cs) (hnz : Sh.np picDepth zc = true) (hs : shapedB c cs = true) (hlen : cs.length ≤ 17592186044416) (hag : agesOk cs) {part : Nat} (hp : part < c.parts.length)
    {b : Nat} (M : Mem) (hb : M.blk b = some [.agg (cfgC c P L)]) (hlt : b < M.next) :
    ∃ M', evW ES n_l20_PortSides c_l20_PortSides_B1 ⟨h_l20_PortSides_1 (.ptr b 0 0) zc (.int .i64 part), M⟩ = some (.normal, ⟨h_l20_PortSides_1 (.ptr b 0 0) zc (.int .i64 ((part + 1 : Nat) : Int)), M'⟩) ∧ M'.blk b = some [.agg (cfgC c P L)] ∧ b < M'.next := by
  have hlp := hP.p.lenS ti_sl_api_Part
  have hpl := (right_facts (shaped_spec hs).1).2.1
  have hw : IntKind.i64.wrap ((part : Int) + 1) = (part : Int) + 1 := i64_in (by omega) (by omega)
  obtain ⟨f, k1, k2, _⟩ := port_Fars_c hP hx hnz hlen hag part
  obtain ⟨y, y1, y2⟩ := r5_Ports_c hP part
  have hps : (portsG c part).length ≤ 1000 := by
    have := farsG_len c part cs
    unfold farsG at this
    rw [if_pos hs, List.length_map] at this
    omega
  have hin := fun {j : Nat} (hj : j < (portsG c part).length) (M : Mem) => Sides_B0 (part := part) (b := b) (f := f) (y := y) (ps := portsG c part) hP hx hnz hs hlen (fun p hp => hp) hps y2 (by simpa [farsG, hs] using k2) hj M
  have hlf := k2.lenS ti_sl_api_Far
  have hly := y2.lenS ti_sl_api_Port
  have hfl : (farsG c part cs).length = (portsG c part).length := by simp [farsG, hs]
  rw [hfl] at hlf
  have hlk : (cfgC c P L).length = 13 := rfl
  have hK0 : (cfgC c P L)[0]? = some P := rfl
  generalize cfgC c P L = K at *
  have hK0' : K[0]'(by omega) = P := by simpa [hlk] using hK0
  generalize portsG c part = ps at *
  obtain ⟨r, g1, M', rfl, g2, g3⟩ := loop_up (E := ES) (me := n_l20_PortSides) (B := c_l20_PortSides_B0) (len := ps.length) (T := fun j => h_l20_PortSides_0 (.ptr b 0 0) zc (.int .i64 part) f y (.int .i64 j)) (I := fun _ M => M.blk b = some [.agg K] ∧ b < M.next)
    (Q := fun r => ∃ M', r = (.exit 2, ⟨(h_l20_PortSides_0 (.ptr b 0 0) zc (.int .i64 part) f y (.int .i64 ps.length)).set 51 (.bool false), M'⟩) ∧ M'.blk b = some [.agg K] ∧ b < M'.next)
    (fun j M hj ⟨i1, i2⟩ => by
      left
      obtain ⟨M', a1, a2, a3⟩ := hin hj M i1 i2
      exact ⟨M', a1, a2, a3⟩)
    (fun M ⟨i1, i2⟩ => ⟨_, by simp [c_l20_PortSides_B0, evW_reg, evW_chkr, evW_chfr, isCst, loadS, partS, TK.agg, fieldAddrS, zeroS, storeS, setPart, splice, endS, resS, fieldS, h_l20_PortSides_0, hly], by simp, M, rfl, i1, i2⟩) 0 M (by omega) ⟨hb, hlt⟩
  simp [h_l20_PortSides_0] at g1
  refine ⟨M', ?_, g2, g3⟩
  simp (maxSteps := 4000000) [c_l20_PortSides_B1, evW_reg, evW_chkr, evW_chfr, isCst, loadS, partS, TK.agg, fieldAddrS, zeroS, storeS, setPart, splice, endS, resS, fieldS, h_l20_PortSides_1, hb, hlk, hK0', hlp, hp, k1, y1, hlf, hly, c_l20_PortSides_L0, g1, hw]
set_option maxHeartbeats 4000000 in
theorem PortSides_walk (xs0 xs1 : List SV) (h0 : WT ES.P 8 T_int xs0) (h1 : WT ES.P 8 T_sl_api_Cell xs1) :
    ∃ M', ICw ES n_l20_PortSides [mkV ES.P T_int xs0, mkV ES.P T_sl_api_Cell xs1] .empty = some (.bool true, M') := by
  obtain ⟨n, _, e0, _⟩ := WT_int ti_int h0
  obtain ⟨l, hx, hpv⟩ := cells_of h1
  rw [e0, b_l20_PortSides]
  generalize mkV ES.P T_sl_api_Cell xs1 = x at *
  have hnp := np_of_pv hpv picDepth
  have hsm := fun get => l20_small_c get hx hnp
  obtain ⟨P, L, hm, hP⟩ := Made_c n
  have hfit := made_fit n
  generalize madeC n = c at *
  cases hsb : smallB l with
  | false =>
    rw [hsb] at hsm
    simp (maxSteps := 4000000) [c_l20_PortSides, evW_reg, evW_chkr, evW_chfr, isCst, loadS, partS, TK.agg, fieldAddrS, zeroS, storeS, setPart, splice, endS, resS, fieldS, hsm]
  | true =>
    rw [hsb] at hsm
    obtain ⟨z, cs, k1, k2, k3, k4, k5⟩ := cells_c hP hfit hx hnp (small_nodes hsb)
    have hag := agesOk_of k5
    have hlen : cs.length ≤ 17592186044416 := by have := (shaped_spec k4).2.1; have := (right_facts (fitG_spec.1 hfit).1); omega
    have hnz := np_of_pv k3 picDepth
    have step := fun {part : Nat} (hp : part < c.parts.length) (M : Mem) => Sides_B1 (b := 2) hP k2 hnz k4 hlen hag hp M
    have hlp := hP.p.lenS ti_sl_api_Part
    have hlk : (cfgC c P L).length = 13 := rfl
    have hK0 : (cfgC c P L)[0]? = some P := rfl
    generalize cfgC c P L = K at *
    have hK0' : K[0]'(by omega) = P := by simpa [hlk] using hK0
    obtain ⟨r, g1, M', rfl⟩ := loop_up (E := ES) (me := n_l20_PortSides) (B := c_l20_PortSides_B1) (len := c.parts.length) (T := fun j => h_l20_PortSides_1 (.ptr 2 0 0) z (.int .i64 j)) (I := fun _ M => M.blk 2 = some [.agg K] ∧ 2 < M.next)
      (Q := fun r => ∃ M', r = (.exit 0, ⟨(h_l20_PortSides_1 (.ptr 2 0 0) z (.int .i64 c.parts.length)).set 33 (.bool false), M'⟩))
      (fun j M hj ⟨i1, i2⟩ => by
        left
        obtain ⟨M', a1, a2, a3⟩ := step hj M i1 i2
        exact ⟨M', a1, a2, a3⟩)
      (fun M ⟨i1, i2⟩ => ⟨_, by simp [c_l20_PortSides_B1, evW_reg, evW_chkr, evW_chfr, isCst, loadS, partS, TK.agg, fieldAddrS, zeroS, storeS, setPart, splice, endS, resS, fieldS, h_l20_PortSides_1, i1, hlk, hK0', hlp], by simp, M, rfl⟩) 0 ((Mem.empty.bump 4).set 2 (some [.agg K])) (by omega) ⟨by simp, by simp⟩
    simp [h_l20_PortSides_1] at g1
    simp (maxSteps := 4000000) [c_l20_PortSides, evW_reg, evW_chkr, evW_chfr, isCst, loadS, partS, TK.agg, fieldAddrS, zeroS, storeS, setPart, splice, endS, resS, fieldS, hlk, hsm, hm, k1, c_l20_PortSides_L1, g1]

end Go.Proofs.YtljjmdcdlcefmaaGreatDoor
