/-
  Walks of the seat's functions: Pm.
-/
import Derived.Test.YtljjmdcdlcefmaaGreatDoorEbMa
import Derived.Test.YtljjmdcdlcefmaaGreatDoorShMb
import Derived.Test.YtljjmdcdlcefmaaGreatDoorLPl
set_option linter.unusedVariables false
set_option linter.unusedSimpArgs false
set_option maxRecDepth 100000
namespace Go.Proofs.YtljjmdcdlcefmaaGreatDoor
open Go.Proofs.YtljjmdcdlcefmaaGreatDoor.Sh
/-! plan.ports, plan.parts, plan.links. -/
theorem Parts.atI {x : SV} {l : List Part} (h : Parts x l) {i : Int} (h0 : 0 ≤ i) (hj : i.toNat < l.length) : indexAddrS ES.P T_sl_api_Part x (.int .i64 i) = some (.rptr (l.map encPart) i.toNat 0 (stOf x)) := by
  have := h.at hj
  rwa [Int.toNat_of_nonneg h0] at this
theorem Links.atI {x : SV} {l : List Link} (h : Links x l) {i : Int} (h0 : 0 ≤ i) (hj : i.toNat < l.length) : indexAddrS ES.P T_sl_api_Link x (.int .i64 i) = some (.rptr (l.map encLink) i.toNat 0 (stOf x)) := by
  have := h.at hj
  rwa [Int.toNat_of_nonneg h0] at this
theorem badEnds_ok {c : Cfg} {l : Link} (h : badEnds c l = false) : inMany l.a c.parts.length ∧ inMany l.b c.parts.length ∧ l.a < l.b := by
  unfold badEnds at h
  simp at h
  exact ⟨h.1.1, h.1.2, h.2⟩
theorem nodesAt_eq {c : Cfg} {part : Int} (hp : part.toNat < c.parts.length) : nodesAt c part = c.parts[part.toNat].nodes := by simp [nodesAt, hp]
set_option maxHeartbeats 4000000 in
theorem ports_in {c : Cfg} {P L : SV} (hc : CfgP c P L) {i : Nat} (hi : i < c.links.length) {part : Int} (hp0 : 0 ≤ part) (hp : part.toNat < c.parts.length) (p0 p1 jj : Int) {p : Nat} (M : Mem) (hb : M.blk p = some [.agg (cfgC c P L)]) :
    ∃ M', M'.blk p = some [.agg (cfgC c P L)] ∧ M.next ≤ M'.next ∧ evW ES n_plan_ports c_plan_ports_L0 ⟨h_plan_ports_0 (.int .i64 i) (.ptr p 0 0) (.int .i64 part) (.int .i64 jj) (.agg [.int .i64 p0, .int .i64 p1]) (.int .i64 0), M⟩ =
      some (if portBad c i part p0 || portBad c i part p1 then (.ret, ⟨(h_plan_ports_0 .bad .bad .bad .bad .bad .bad).set 4 (.bool false), M'⟩)
        else (.exit 2, ⟨(h_plan_ports_0 (.int .i64 i) (.ptr p 0 0) (.int .i64 part) (.int .i64 jj) (.agg [.int .i64 p0, .int .i64 p1]) (.int .i64 2)).set 30 (.bool false), M'⟩)) := by
  obtain ⟨y, hs, hy⟩ := RSl.pre hc.l ti_sl_api_Link ti_api_Link elmLink (n := i) (by omega)
  have hix := hc.p.atI hp0 hp
  have hn := nodesAt_eq hp
  have htk := fun get node => plan_taken_c get hy (by have := hc.ll; simp; omega) part node
  have step : ∀ (k : Nat) (n : Int), k < 2 → (SV.agg [.int .i64 p0, .int .i64 p1], k, n) ∈ [(SV.agg [.int .i64 p0, .int .i64 p1], 0, p0), (SV.agg [.int .i64 p0, .int .i64 p1], 1, p1)] →
      evW ES n_plan_ports c_plan_ports_B0 ⟨h_plan_ports_0 (.int .i64 i) (.ptr p 0 0) (.int .i64 part) (.int .i64 jj) (.agg [.int .i64 p0, .int .i64 p1]) (.int .i64 k), M⟩ =
        some (if portBad c i part n then (.ret, ⟨(h_plan_ports_0 .bad .bad .bad .bad .bad .bad).set 4 (.bool false), M⟩)
          else (.normal, ⟨h_plan_ports_0 (.int .i64 i) (.ptr p 0 0) (.int .i64 part) (.int .i64 jj) (.agg [.int .i64 p0, .int .i64 p1]) (.int .i64 (k + 1)), M⟩)) := by
    intro k n hk hm
    have hk' : (k : Int) < 2 := by omega
    have hw : IntKind.i64.wrap ((k : Int) + 1) = (k : Int) + 1 := i64_in (by omega) (by omega)
    have hel : indexS ES.P T_a2_int (.agg [.int .i64 p0, .int .i64 p1]) (.int .i64 k) = some (.int .i64 n) := by
      simp at hm
      rcases hm with ⟨rfl, rfl⟩ | ⟨rfl, rfl⟩
      · exact ix2_0 _ _
      · exact ix2_1 _ _
    cases h1 : decide (inMany n c.parts[part.toNat].nodes) with
    | false =>
      have hbad : portBad c i part n = true := by simp [portBad, hn, h1]
      simp [c_plan_ports_B0, evW_reg, evW_chkr, evW_chfr, isCst, loadS, partS, TK.agg, fieldAddrS, zeroS, storeS, setPart, splice, endS, resS, fieldS, h_plan_ports_0, hk, hk', hel, hb, cfgC, hix, hp, h1, hbad]
    | true =>
      have hbad : portBad c i part n = takenL (c.links.take i) part n := by simp [portBad, hn, h1]
      cases h2 : takenL (c.links.take i) part n
      · simp [c_plan_ports_B0, evW_reg, evW_chkr, evW_chfr, isCst, loadS, partS, TK.agg, fieldAddrS, zeroS, storeS, setPart, splice, endS, resS, fieldS, h_plan_ports_0, hk, hk', hel, hb, cfgC, hix, hp, h1, hbad, hs, htk, h2, hw]
      · simp [c_plan_ports_B0, evW_reg, evW_chkr, evW_chfr, isCst, loadS, partS, TK.agg, fieldAddrS, zeroS, storeS, setPart, splice, endS, resS, fieldS, h_plan_ports_0, hk, hk', hel, hb, cfgC, hix, hp, h1, hbad, hs, htk, h2, hw]
  refine ⟨M, hb, Nat.le_refl _, ?_⟩
  have s0 := step 0 p0 (by omega) (by simp)
  have s1 := step 1 p1 (by omega) (by simp)
  unfold c_plan_ports_L0
  rw [evW_loop, show ((0 : Int)) = ((0 : Nat) : Int) from rfl, s0]
  cases h0 : portBad c i part p0
  · simp only [Bool.false_eq_true, if_false, Bool.false_or]
    rw [evW_loop, show (((0 : Nat) : Int) + 1) = ((1 : Nat) : Int) from rfl, s1]
    cases h1 : portBad c i part p1
    · simp only [Bool.false_eq_true, if_false]
      rw [evW_loop]
      simp [c_plan_ports_B0, evW_reg, evW_chkr, evW_chfr, isCst, loadS, partS, TK.agg, fieldAddrS, zeroS, storeS, setPart, splice, endS, resS, fieldS, h_plan_ports_0]
    · simp only [if_true]
  · simp
set_option maxHeartbeats 4000000 in
theorem plan_ports_ok {y : SV} {c : Cfg} (hc : CfgR y c) {i : Nat} (hi : i < c.links.length) (hv : badEnds c c.links[i] = false) :
    PCw ES n_plan_ports [y, .int .i64 i] = some (.bool (!(endBad c i c.links[i].a c.links[i].pa0 c.links[i].pa1 || endBad c i c.links[i].b c.links[i].pb0 c.links[i].pb1))) := by
  obtain ⟨P, L, rfl, hP⟩ := hc
  refine PCw_ex (fun M0 => ?_) rfl
  rw [b_plan_ports]
  have hall : ∀ s : Nat, s < 2 → 0 ≤ (endOf c.links[i] s).1 ∧ (endOf c.links[i] s).1.toNat < c.parts.length := by
    intro s hs
    obtain ⟨v1, v2, v3⟩ := badEnds_ok hv
    unfold inMany at v1 v2
    unfold endOf
    split <;> simp only <;> omega
  have hlx := Links.at hP.l hi
  have step : ∀ (s : Nat) (p : Nat) (M : Mem), s < 2 → M.blk p = some [.agg (cfgC c P L)] → p < M.next → ∃ M', M'.blk p = some [.agg (cfgC c P L)] ∧ p < M'.next ∧
      evW ES n_plan_ports c_plan_ports_B1 ⟨h_plan_ports_1 (.int .i64 i) (.ptr p 0 0) (.int .i64 s), M⟩ =
        some (if endBad c i (endOf c.links[i] s).1 (endOf c.links[i] s).2.1 (endOf c.links[i] s).2.2 then (.ret, ⟨(h_plan_ports_1 .bad .bad .bad).set 4 (.bool false), M'⟩)
          else (.normal, ⟨h_plan_ports_1 (.int .i64 i) (.ptr p 0 0) (.int .i64 (s + 1)), M'⟩)) := by
    intro s p M hs hb hlt
    have hs' : (s : Int) < 2 := by omega
    have hw : IntKind.i64.wrap ((s : Int) + 1) = (s : Int) + 1 := i64_in (by omega) (by omega)
    have hne : ∀ k, (p = M.next + k) = False := fun k => by simp; omega
    have hend := fun get => plan_end_c get c.links[i] s
    obtain ⟨q0, q1⟩ := hall s hs
    generalize endOf c.links[i] s = e at hend q0 q1
    obtain ⟨part, p0, p1⟩ := e
    simp only at hend q0 q1 ⊢
    have hb0 := hb
    simp only [cfgC] at hb0
    by_cases h1 : p0 = p1
    · have hbad : endBad c i part p0 p1 = true := by simp [endBad, h1]
      rw [hbad]
      simp [c_plan_ports_B1, evW_reg, evW_chkr, evW_chfr, isCst, loadS, partS, TK.agg, fieldAddrS, zeroS, storeS, setPart, splice, endS, resS, fieldS, h_plan_ports_1, hs, hs', hb0, hlx, hi, hend, hne, h1]
      exact ⟨rfl, by omega⟩
    · have hbad : endBad c i part p0 p1 = (portBad c i part p0 || portBad c i part p1) := by simp [endBad, h1]
      have hin := fun M1 hb1 => ports_in hP hi q0 q1 p0 p1 s (p := p) M1 hb1
      obtain ⟨M', g1, g2, g3⟩ := hin (((M.bump 13).set (M.next + 10) (some [.agg [.int .i64 0, .int .i64 0]])).set (M.next + 10) (some [.agg [.int .i64 p0, .int .i64 p1]])) (by simp [hne]; exact hb)
      rw [hbad]
      refine ⟨M', g1, by simp at g2; omega, ?_⟩
      cases hA : portBad c i part p0 <;> cases hB : portBad c i part p1 <;> simp [h_plan_ports_0, hA, hB] at g3 <;> simp [c_plan_ports_B1, evW_reg, evW_chkr, evW_chfr, isCst, loadS, partS, TK.agg, fieldAddrS, zeroS, storeS, setPart, splice, endS, resS, fieldS, h_plan_ports_1, hs, hs', hb0, hlx, hi, hend, hne, h1, g3, hw]
  obtain ⟨M1, a1, a2, a3⟩ := step 0 M0.next ((M0.bump 2).set M0.next (some [.agg (cfgC c P L)])) (by omega) (by simp) (by simp)
  obtain ⟨M2, b1, b2, b3⟩ := step 1 M0.next M1 (by omega) a1 a2
  have e0 : endOf c.links[i] ((0 : Nat) : Int) = (c.links[i].a, c.links[i].pa0, c.links[i].pa1) := rfl
  have e1 : endOf c.links[i] ((1 : Nat) : Int) = (c.links[i].b, c.links[i].pb0, c.links[i].pb1) := rfl
  rw [e0] at a3
  rw [e1] at b3
  have fin : ∃ M', evW ES n_plan_ports c_plan_ports_L1 ⟨h_plan_ports_1 (.int .i64 i) (.ptr M0.next 0 0) (.int .i64 0), (M0.bump 2).set M0.next (some [.agg (cfgC c P L)])⟩ =
      some (if endBad c i c.links[i].a c.links[i].pa0 c.links[i].pa1 || endBad c i c.links[i].b c.links[i].pb0 c.links[i].pb1 then (.ret, ⟨(h_plan_ports_1 .bad .bad .bad).set 4 (.bool false), M'⟩)
        else (.exit 0, ⟨(h_plan_ports_1 (.int .i64 i) (.ptr M0.next 0 0) (.int .i64 2)).set 11 (.bool false), M'⟩)) := by
    unfold c_plan_ports_L1
    rw [evW_loop, show ((0 : Int)) = ((0 : Nat) : Int) from rfl, a3]
    cases hA : endBad c i c.links[i].a c.links[i].pa0 c.links[i].pa1
    · simp only [Bool.false_eq_true, if_false, Bool.false_or]
      rw [evW_loop, show (((0 : Nat) : Int) + 1) = ((1 : Nat) : Int) from rfl, b3]
      cases hB : endBad c i c.links[i].b c.links[i].pb0 c.links[i].pb1
      · simp only [Bool.false_eq_true, if_false]
        rw [evW_loop]
        simp [c_plan_ports_B1, evW_reg, evW_chkr, evW_chfr, isCst, loadS, partS, TK.agg, fieldAddrS, zeroS, storeS, setPart, splice, endS, resS, fieldS, h_plan_ports_1]
      · simp
    · simp
  obtain ⟨M', hM'⟩ := fin
  cases hA : endBad c i c.links[i].a c.links[i].pa0 c.links[i].pa1 <;> cases hB : endBad c i c.links[i].b c.links[i].pb0 c.links[i].pb1 <;> simp [h_plan_ports_1, hA, hB, cfgC] at hM' <;> simp [c_plan_ports, evW_reg, evW_chkr, evW_chfr, isCst, loadS, partS, TK.agg, fieldAddrS, zeroS, storeS, setPart, splice, endS, resS, fieldS, cfgC, hM']
theorem plan_ports_c (get) {y : SV} {c : Cfg} (hc : CfgR y c) {i : Nat} (hi : i < c.links.length) (hv : badEnds c c.links[i] = false) :
    callP (PCw ES) get n_plan_ports [y, .int .i64 i] = some (.bool (!(endBad c i c.links[i].a c.links[i].pa0 c.links[i].pa1 || endBad c i c.links[i].b c.links[i].pb0 c.links[i].pb1))) :=
  callP_of (plan_ports_ok hc hi hv) (by simp [hc.np12])

end Go.Proofs.YtljjmdcdlcefmaaGreatDoor
