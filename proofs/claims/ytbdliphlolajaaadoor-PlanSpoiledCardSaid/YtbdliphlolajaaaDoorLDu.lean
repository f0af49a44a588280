/-
  Walks of the seat's functions: Du.
-/
import Derived.Test.YtbdliphlolajaaaDoorEb2
import Derived.Test.YtbdliphlolajaaaDoorShSv
import Derived.Test.YtbdliphlolajaaaDoorLDt
set_option linter.unusedVariables false
set_option linter.unusedSimpArgs false
set_option maxRecDepth 100000
namespace Go.Proofs.YtbdliphlolajaaaDoor
open Go.Proofs.YtbdliphlolajaaaDoor.Sh
/-! plan.Dists: rounds. -/
set_option maxHeartbeats 4000000 in
theorem ds_pass {c : Cfg} {P L : SV} (hP : CfgP c P L) {p q len : Nat} {n : Nat} (hn : n ≤ 100) {d : List Int} (hd : d.length = len) (hl : ∀ l ∈ c.links, okL len l) (M : Mem) (hq : M.blk q = some (iL d)) (lq : q < M.next) :
    ∃ M' m, evW ES n_plan_Dists c_plan_Dists_L1 ⟨h_plan_Dists_1 (.ptr p 0 0) (.own q 1 0 len) (.int .i64 n) (.bool false) L (.int .i64 c.links.length) (.int .i64 0), M⟩ =
      some (.exit 2, ⟨(h_plan_Dists_1 (.ptr p 0 0) (.own q 1 0 len) (.int .i64 n) (.bool m) L (.int .i64 c.links.length) (.int .i64 c.links.length)).set 27 (.bool false), M'⟩) ∧
      M'.blk q = some (iL (passL n c.links d)) ∧ (∀ id, id ≠ q → id < M.next → M'.blk id = M.blk id) ∧ M.next ≤ M'.next ∧ (m = false → passL n c.links d = d) ∧ (m = true → passL n c.links d ≠ d) := by
  obtain ⟨r, g1, m, M', rfl, g2, g3, g4, g5, g6⟩ := loop_st (E := ES) (me := n_plan_Dists) (B := c_plan_Dists_B1) (β := Bool) (len := c.links.length)
    (T := fun j m => h_plan_Dists_1 (.ptr p 0 0) (.own q 1 0 len) (.int .i64 n) (.bool m) L (.int .i64 c.links.length) (.int .i64 j))
    (I := fun j m M1 => M1.blk q = some (iL (passL n (c.links.take j) d)) ∧ (∀ id, id ≠ q → id < M.next → M1.blk id = M.blk id) ∧ M.next ≤ M1.next ∧ (m = false → passL n (c.links.take j) d = d) ∧ (m = true → negs (passL n (c.links.take j) d) < negs d))
    (Q := fun r => ∃ m M', r = (.exit 2, ⟨(h_plan_Dists_1 (.ptr p 0 0) (.own q 1 0 len) (.int .i64 n) (.bool m) L (.int .i64 c.links.length) (.int .i64 c.links.length)).set 27 (.bool false), M'⟩) ∧
      M'.blk q = some (iL (passL n c.links d)) ∧ (∀ id, id ≠ q → id < M.next → M'.blk id = M.blk id) ∧ M.next ≤ M'.next ∧ (m = false → passL n c.links d = d) ∧ (m = true → passL n c.links d ≠ d))
    (fun j m M1 hj ⟨h1, h2, h3, h4, h5⟩ => by
      left
      have hpl : passL n (c.links.take (j + 1)) d = relaxL n (passL n (c.links.take j) d) c.links[j] := foldl_take hj
      have hok := hl c.links[j] (List.getElem_mem hj)
      obtain ⟨M2, m', k1, k2, k3, k4, k5, k6⟩ := ds_link hP hn (d := passL n (c.links.take j) d) (by simpa using hd) hj hok m (p := p) M1 h1 (by omega)
      refine ⟨m || m', M2, k1, by rw [hpl]; exact k2, fun id i1 i2 => by rw [k3 id i1 (by omega), h2 id i1 i2], by omega, fun hm => ?_, fun hm => ?_⟩
      · simp only [Bool.or_eq_false_iff] at hm
        rw [hpl, k5 hm.2, h4 hm.1]
      · rw [hpl]
        have hor := relaxL_or (n := (n : Int)) (by omega) (d := passL n (c.links.take j) d) (l := c.links[j]) (by simpa [hd] using hok)
        cases hm' : m' with
        | true =>
          have := k6 hm'
          rcases hor with e | e
          · exact absurd e this
          · cases hmm : m with
            | true => have := h5 hmm; omega
            | false => have := h4 hmm; rw [this] at e ⊢; omega
        | false =>
          rw [k5 hm']
          rw [hm'] at hm
          exact h5 (by simpa using hm))
    (fun m M1 ⟨h1, h2, h3, h4, h5⟩ => by
      rw [List.take_length] at h1 h4 h5
      refine ⟨_, by simp [c_plan_Dists_B1, evW_reg, evW_chkr, isCst, loadS, partS, TK.agg, fieldAddrS, zeroS, storeS, setPart, splice, endS, resS, fieldS, h_plan_Dists_1], by simp, m, M1, rfl, h1, h2, h3, h4, fun hm e => ?_⟩
      have := h5 hm
      rw [e] at this
      omega) 0 false M (by omega) ⟨by simpa [passL] using hq, fun _ _ _ => rfl, Nat.le_refl _, fun _ => rfl, fun h => by cases h⟩
  exact ⟨M', m, g1, g2, g3, g4, g5, g6⟩
set_option maxHeartbeats 4000000 in
theorem ds_out {c : Cfg} {P L : SV} (hP : CfgP c P L) {p q len : Nat} {fr : Int} (hlen : len ≤ 50) (hf : 0 ≤ fr ∧ fr < len) (hl : ∀ l ∈ c.links, okL len l) (hpq : p ≠ q) : ∀ (fuel k : Nat) (M : Mem), len - k ≤ fuel → (∀ i < k, distK c.links len fr (i + 1) ≠ distK c.links len fr i) →
    M.blk q = some (iL (distK c.links len fr k)) → q < M.next → M.blk p = some [.agg (cfgC c P L)] → p < M.next →
    ∃ M' n', evW ES n_plan_Dists c_plan_Dists_L2 ⟨h_plan_Dists_2 (.ptr p 0 0) (.own q 1 0 len) (.int .i64 k) (.bool true), M⟩ =
      some (.exit 0, ⟨(h_plan_Dists_2 (.ptr p 0 0) (.own q 1 0 len) (.int .i64 n') .bad).set 20 (.bool false), M'⟩) ∧ M'.blk q = some (iL (distL c.links len fr)) := by
  intro fuel
  induction fuel with
  | zero =>
    intro k M hk h1 _ _ _ _
    have := distK_negs hl hf k h1
    omega
  | succ fuel ih =>
    intro k M hk h1 hq lq hp lp
    have hneg := distK_negs hl hf k h1
    have hlen' := hP.l.lenS ti_sl_api_Link
    have hw : IntKind.i64.wrap ((k : Int) + 1) = ((k + 1 : Nat) : Int) := by rw [i64_in (by omega) (by omega)]; omega
    obtain ⟨M1, m, a1, a2, a3, a4, a5, a6⟩ := ds_pass hP (p := p) (q := q) (n := k) (by omega) (d := distK c.links len fr k) (by simp) hl M hq lq
    have hp0 := hp
    simp only [cfgC] at hp0
    have round : ∀ r, (evW ES n_plan_Dists c_plan_Dists_L2 ⟨h_plan_Dists_2 (.ptr p 0 0) (.own q 1 0 len) (.int .i64 ((k + 1 : Nat) : Int)) (.bool m), M1⟩ = some r) →
        evW ES n_plan_Dists c_plan_Dists_L2 ⟨h_plan_Dists_2 (.ptr p 0 0) (.own q 1 0 len) (.int .i64 k) (.bool true), M⟩ = some r := by
      intro r hr
      rw [← hr]
      unfold c_plan_Dists_L2
      rw [evW_loop]
      simp [h_plan_Dists_1] at a1
      simp [c_plan_Dists_B2, evW_reg, evW_chkr, isCst, loadS, partS, TK.agg, fieldAddrS, zeroS, storeS, setPart, splice, endS, resS, fieldS, h_plan_Dists_2, hp0, hlen', a1, hw]
    cases m with
    | true =>
      obtain ⟨M', n', b1, b2⟩ := ih (k + 1) M1 (by omega) (fun i hi => by
        rcases Nat.lt_or_ge i k with h | h
        · exact h1 i h
        · obtain rfl : i = k := by omega
          exact a6 rfl) a2 (by omega) (by rw [a3 p hpq lp]; exact hp) (by omega)
      exact ⟨M', n', round _ b1, b2⟩
    | false =>
      refine ⟨M1, ((k + 1 : Nat) : Int), round _ ?_, ?_⟩
      · unfold c_plan_Dists_L2
        rw [evW_loop]
        simp [c_plan_Dists_B2, evW_reg, evW_chkr, isCst, loadS, partS, TK.agg, fieldAddrS, zeroS, storeS, setPart, splice, endS, resS, fieldS, h_plan_Dists_2]
      · have e := a5 rfl
        rw [a2, e, distK_fin hl hf h1 e]
set_option maxHeartbeats 4000000 in
theorem Dists_ok {y : SV} {c : Cfg} (hc : CfgR y c) {fr : Int} (h1 : 1 ≤ c.parts.length) (h6 : c.parts.length ≤ 6) (hf : 0 ≤ fr ∧ fr < c.parts.length) (hl : ∀ l ∈ c.links, okL c.parts.length l) :
    PCw ES n_plan_Dists [y, .int .i64 fr] = some (.sl (iL (distL c.links c.parts.length fr)) .ro) := by
  obtain ⟨P, L, rfl, hP⟩ := hc
  have hln : (distL c.links c.parts.length fr).length = c.parts.length := by simp [distL]
  have hll : (iL (distL c.links c.parts.length fr)).length = c.parts.length := by simp [iL, hln]
  refine PCw_own (esz := 1) (fun M0 => ?_) (fun y hy => by
    simp only [iL, List.mem_map] at hy
    obtain ⟨x, _, rfl⟩ := hy
    rfl)
  rw [hll]
  rw [b_plan_Dists]
  have hlenp := hP.p.lenS ti_sl_api_Part
  have bs : ∀ a, bldSl ES.P T_sl_int 1 a [(0, .int .i64 (-1))] = some (.own a 1 0 1, [.int .i64 (-1)]) := fun a => by simp [bldSl, buildRow]
  obtain ⟨M1, q, r1, r2, r3, r4, r5⟩ := Repeat_ok (n := c.parts.length) (id := M0.next + 2) (-1) h1 h6 ((((M0.bump 2).set M0.next (some [.agg (cfgC c P L)])).bump 6).set (M0.next + 2) (some [.int .i64 (-1)])) (by simp) (by simp)
  simp at r3 r4
  have hix := ownI_ix (q := q) (len := c.parts.length) hf.1 hf.2
  have hp1 : M1.blk M0.next = some [.agg (cfgC c P L)] := by
    have := r5 M0.next (by simp; omega)
    rw [this]
    simp
  obtain ⟨M2, n', b1, b2⟩ := ds_out hP (p := M0.next) (q := q) (len := c.parts.length) (fr := fr) (by omega) hf hl (by omega) c.parts.length 0 (M1.set q (some (iL (dinit c.parts.length fr)))) (by omega) (fun i hi => by omega) (by simp [distK]) (by simpa using r3)
    (by have : ¬ (M0.next = q) := by omega
        simp [this, hp1]) (by simp; omega)
  have e0 : (List.replicate c.parts.length (SV.int .i64 (-1))).set fr.toNat (.int .i64 0) = iL (dinit c.parts.length fr) := by simp [iL, dinit]
  have hlt : fr.toNat < c.parts.length := by omega
  simp only [cfgC] at r1
  simp [h_plan_Dists_2] at b1
  refine ⟨M2, q, ?_, b2⟩
  simp [c_plan_Dists, evW_reg, evW_chkr, isCst, loadS, partS, TK.agg, fieldAddrS, zeroS, storeS, setPart, splice, endS, resS, fieldS, cfgC, hlenp, bs, r1, hix, r2, e0, hlt, b1]
theorem Dists_c (get) {y : SV} {c : Cfg} (hc : CfgR y c) {fr : Int} (h1 : 1 ≤ c.parts.length) (h6 : c.parts.length ≤ 6) (hf : 0 ≤ fr ∧ fr < c.parts.length) (hl : ∀ l ∈ c.links, okL c.parts.length l) :
    callP (PCw ES) get n_plan_Dists [y, .int .i64 fr] = some (.sl (iL (distL c.links c.parts.length fr)) .ro) := callP_of (Dists_ok hc h1 h6 hf hl) (by simp [hc.np12])
theorem iL_ints (d : List Int) (tl : Tl) : Ints (.sl (iL d) tl) d := RSl.of_map rfl rfl

end Go.Proofs.YtbdliphlolajaaaDoor
