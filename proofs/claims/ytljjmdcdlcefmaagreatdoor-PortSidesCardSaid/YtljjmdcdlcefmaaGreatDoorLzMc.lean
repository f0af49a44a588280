/-
  Walks of the seat's functions: Rc.
-/
import Derived.Test.YtljjmdcdlcefmaaGreatDoorEbMa
import Derived.Test.YtljjmdcdlcefmaaGreatDoorShMb
import Derived.Test.YtljjmdcdlcefmaaGreatDoorLRb
import Derived.Test.YtljjmdcdlcefmaaGreatDoorLzMb
set_option linter.unusedVariables false
set_option linter.unusedSimpArgs false
set_option maxRecDepth 100000
namespace Go.Proofs.YtljjmdcdlcefmaaGreatDoor
open Go.Proofs.YtljjmdcdlcefmaaGreatDoor.Sh
/-! The document's own: dists. -/
theorem mkInts {n : Nat} (hn : n ≤ 1000) (a : Nat) : mkSl ES.P T_sl_int a (.int .i64 n) (.int .i64 n) = some (.own a 1 0 n, iL (List.replicate n 0)) := by
  have h1 : (n : Int) * 8 ≤ 281474976710656 := by omega
  have h2 : (n : Int) ≤ 281474976710656 := by omega
  simp [mkSl, iL]
  omega
theorem iL_at {d : List Int} {x : Int} (h : x.toNat < (iL d).length) : (iL d)[x.toNat] = .int .i64 (dget d x) := by
  have : x.toNat < d.length := by simpa [iL] using h
  simp [iL, dget, this]
theorem trig_no {n : Int} {d : List Int} {x y : Int} (h : trig n d x y = false) : dget d x = n → (dget d y < 0) = False := fun e => by simpa [trig, e] using h
theorem trig_eq (n : Int) (d : List Int) (x y : Int) : trig n d x y = (decide (dget d x = n) && decide (dget d y < 0)) := by simp [trig]
set_option maxHeartbeats 4000000 in
theorem r5_ds_link {c : Cfg} {P L : SV} (hP : CfgP c P L) {p q len : Nat} {n : Nat} (hn : n ≤ 100) {d : List Int} (hd : d.length = len) {j : Nat} (hj : j < c.links.length) (hl : okL len c.links[j])
    (M : Mem) (hp : M.blk p = some [.agg (cfgC c P L)]) (hq : M.blk q = some (iL d)) (lp : p < M.next) (lq : q < M.next) (hpq : p ≠ q) :
    ∃ M', evW ES n_r5_dists c_r5_dists_B1 ⟨h_r5_dists_1 (.ptr p 0 0) (.own q 1 0 len) (.int .i64 n) (.int .i64 j), M⟩ =
      some (.normal, ⟨h_r5_dists_1 (.ptr p 0 0) (.own q 1 0 len) (.int .i64 n) (.int .i64 ((j + 1 : Nat) : Int)), M'⟩) ∧
      M'.blk q = some (iL (relaxL n d c.links[j])) ∧ (∀ id, id ≠ q → id < M.next → M'.blk id = M.blk id) ∧ M.next ≤ M'.next := by
  obtain ⟨o1, o2, o3, o4⟩ := hl
  have ha := Links.at hP.l hj
  have hlen := hP.l.lenS ti_sl_api_Link
  have hw : IntKind.i64.wrap ((j : Int) + 1) = (j : Int) + 1 := i64_in (by omega) (by have := hP.ll; omega)
  have hw2 : IntKind.i64.wrap ((n : Int) + 1) = (n : Int) + 1 := i64_in (by omega) (by omega)
  have hne : ∀ k, (q = M.next + k) = False := fun k => by simp; omega
  have hnp : ∀ k, (p = M.next + k) = False := fun k => by simp; omega
  have hn0 : ¬ ((n : Int) < 0) := by omega
  have hnq : ∀ k, (M.next + k = q) = False := fun k => by simp; omega
  have hqp : (q = p) = False := by simp; omega
  generalize hLk : c.links[j] = l at *
  have gx := ownI_ix (q := q) o1 o2
  have gy := ownI_ix (q := q) o3 o4
  have vx := iL_get (d := d) o1 (by omega)
  have vy := iL_get (d := d) o3 (by omega)
  have hyl : l.b.toNat < (iL d).length := by simp [iL]; omega
  have hxl : l.a.toNat < (iL d).length := by simp [iL]; omega
  have hb0 := hp
  simp only [cfgC] at hb0
  generalize hd1 : relax n d l.a l.b = d1
  have hd1l : d1.length = len := by rw [← hd1]; simpa using hd
  have wx := iL_get (d := d1) o1 (by omega)
  have wy := iL_get (d := d1) o3 (by omega)
  have hyl1 : l.b.toNat < (iL d1).length := by simp [iL]; omega
  have hxl1 : l.a.toNat < (iL d1).length := by simp [iL]; omega
  have hR : relaxL n d l = relax n d1 l.b l.a := by unfold relaxL; rw [hd1]
  rw [hR, relax_trig]
  rw [relax_trig] at hd1
  have old0 : ∀ id, id ≠ q → id < M.next → ((M.bump 7).set (M.next + 5) (some [encLink l])).blk id = M.blk id := fun id h1 h2 => by
    have : ¬ (id = M.next + 5) := by omega
    simp [this]
  have old1 : ∀ x, ∀ id, id ≠ q → id < M.next → (((M.bump 7).set (M.next + 5) (some [encLink l])).set q x).blk id = M.blk id := fun x id h1 h2 => by
    have : ¬ (id = M.next + 5) := by omega
    simp [this, h1]
  cases t1 : trig n d l.a l.b with
  | false =>
    rw [t1] at hd1
    simp only [Bool.false_eq_true, if_false] at hd1
    subst hd1
    cases t2 : trig n d l.b l.a with
    | false =>
      refine ⟨(M.bump 7).set (M.next + 5) (some [encLink l]), ?_, by simp [hne, hq], old0, by simp⟩
      have f1 := trig_no t1
      have f2 := trig_no t2
      by_cases e1 : dget d l.a = n
      · by_cases e2 : dget d l.b = n
        · simp [c_r5_dists_B1, evW_reg, evW_chkr, evW_chfr, isCst, loadS, partS, TK.agg, fieldAddrS, zeroS, storeS, setPart, splice, endS, resS, fieldS, h_r5_dists_1, hlen, hj, ha, hLk, hb0, hne, hnp, hq, lp, lq, gx, gy, vx, vy, hn0, e1, e2, f1 e1, f2 e2, hw]
        · simp [c_r5_dists_B1, evW_reg, evW_chkr, evW_chfr, isCst, loadS, partS, TK.agg, fieldAddrS, zeroS, storeS, setPart, splice, endS, resS, fieldS, h_r5_dists_1, hlen, hj, ha, hLk, hb0, hne, hnp, hq, lp, lq, gx, gy, vx, vy, hn0, e1, e2, f1 e1, hw]
      · by_cases e2 : dget d l.b = n
        · simp [c_r5_dists_B1, evW_reg, evW_chkr, evW_chfr, isCst, loadS, partS, TK.agg, fieldAddrS, zeroS, storeS, setPart, splice, endS, resS, fieldS, h_r5_dists_1, hlen, hj, ha, hLk, hb0, hne, hnp, hq, lp, lq, gx, gy, vx, vy, hn0, e1, e2, f2 e2, hw]
        · simp [c_r5_dists_B1, evW_reg, evW_chkr, evW_chfr, isCst, loadS, partS, TK.agg, fieldAddrS, zeroS, storeS, setPart, splice, endS, resS, fieldS, h_r5_dists_1, hlen, hj, ha, hLk, hb0, hne, hnp, hq, lp, lq, gx, gy, vx, vy, hn0, e1, e2, hw]
    | true =>
      simp [trig] at t2
      obtain ⟨e2, e3⟩ := t2
      refine ⟨((M.bump 7).set (M.next + 5) (some [encLink l])).set q (some (iL (d.set l.a.toNat ((n : Int) + 1)))), ?_, by simp, old1 _, by simp⟩
      have f1 := trig_no t1
      have e1 : ¬ (dget d l.a = n) := by omega
      simp [c_r5_dists_B1, evW_reg, evW_chkr, evW_chfr, isCst, loadS, partS, TK.agg, fieldAddrS, zeroS, storeS, setPart, splice, endS, resS, fieldS, h_r5_dists_1, hlen, hj, ha, hLk, hb0, hne, hnp, hq, lp, lq, gx, gy, vx, vy, e1, e2, e3, hn0, hw, hw2, hxl, iL_at, iL_set]
  | true =>
    rw [t1] at hd1
    simp only [if_true] at hd1
    simp [trig] at t1
    obtain ⟨e1, e2⟩ := t1
    cases t2 : trig n d1 l.b l.a with
    | false =>
      refine ⟨((M.bump 7).set (M.next + 5) (some [encLink l])).set q (some (iL d1)), ?_, by simp, old1 _, by simp⟩
      have f2 := trig_no t2
      by_cases e3 : dget d1 l.b = n
      · simp [c_r5_dists_B1, evW_reg, evW_chkr, evW_chfr, isCst, loadS, partS, TK.agg, fieldAddrS, zeroS, storeS, setPart, splice, endS, resS, fieldS, h_r5_dists_1, hlen, hj, ha, hLk, hb0, hne, hnp, hq, hqp, hnq, lp, lq, gx, gy, vx, vy, e1, e2, e3, f2 e3, hn0, hw, hw2, hyl, iL_at, iL_set, hd1, wx, wy]
      · simp [c_r5_dists_B1, evW_reg, evW_chkr, evW_chfr, isCst, loadS, partS, TK.agg, fieldAddrS, zeroS, storeS, setPart, splice, endS, resS, fieldS, h_r5_dists_1, hlen, hj, ha, hLk, hb0, hne, hnp, hq, hqp, hnq, lp, lq, gx, gy, vx, vy, e1, e2, e3, hn0, hw, hw2, hyl, iL_at, iL_set, hd1, wx, wy]
    | true =>
      simp [trig] at t2
      obtain ⟨e3, e4⟩ := t2
      refine ⟨(((M.bump 7).set (M.next + 5) (some [encLink l])).set q (some (iL (d1.set l.a.toNat ((n : Int) + 1))))), ?_, by simp, old1 _, by simp⟩
      simp [c_r5_dists_B1, evW_reg, evW_chkr, evW_chfr, isCst, loadS, partS, TK.agg, fieldAddrS, zeroS, storeS, setPart, splice, endS, resS, fieldS, h_r5_dists_1, hlen, hj, ha, hLk, hb0, hne, hnp, hq, hqp, hnq, lp, lq, gx, gy, vx, vy, e1, e2, e3, e4, hw, hw2, hyl, iL_at, iL_set, hd1, wx, wy, hxl1]

end Go.Proofs.YtljjmdcdlcefmaaGreatDoor

/-
  Walks of the seat's functions: Rd.
-/
set_option linter.unusedVariables false
set_option linter.unusedSimpArgs false
set_option maxRecDepth 100000
namespace Go.Proofs.YtljjmdcdlcefmaaGreatDoor
open Go.Proofs.YtljjmdcdlcefmaaGreatDoor.Sh
/-! The document's own: dists' rounds. -/
set_option maxHeartbeats 4000000 in
theorem r5_ds_pass {c : Cfg} {P L : SV} (hP : CfgP c P L) {p q len : Nat} {n : Nat} (hn : n ≤ 100) {d : List Int} (hd : d.length = len) (hl : ∀ l ∈ c.links, okL len l)
    (M : Mem) (hp : M.blk p = some [.agg (cfgC c P L)]) (hq : M.blk q = some (iL d)) (lp : p < M.next) (lq : q < M.next) (hpq : p ≠ q) :
    ∃ M', evW ES n_r5_dists c_r5_dists_L1 ⟨h_r5_dists_1 (.ptr p 0 0) (.own q 1 0 len) (.int .i64 n) (.int .i64 0), M⟩ =
      some (.exit 4, ⟨(h_r5_dists_1 (.ptr p 0 0) (.own q 1 0 len) (.int .i64 n) (.int .i64 c.links.length)).set 36 (.bool false), M'⟩) ∧
      M'.blk q = some (iL (passL n c.links d)) ∧ M'.blk p = some [.agg (cfgC c P L)] ∧ M.next ≤ M'.next := by
  obtain ⟨r, g1, M', rfl, g2, g3, g4⟩ := loop_up (E := ES) (me := n_r5_dists) (B := c_r5_dists_B1) (len := c.links.length)
    (T := fun j => h_r5_dists_1 (.ptr p 0 0) (.own q 1 0 len) (.int .i64 n) (.int .i64 j))
    (I := fun j M1 => M1.blk q = some (iL (passL n (c.links.take j) d)) ∧ M1.blk p = some [.agg (cfgC c P L)] ∧ M.next ≤ M1.next)
    (Q := fun r => ∃ M', r = (.exit 4, ⟨(h_r5_dists_1 (.ptr p 0 0) (.own q 1 0 len) (.int .i64 n) (.int .i64 c.links.length)).set 36 (.bool false), M'⟩) ∧
      M'.blk q = some (iL (passL n c.links d)) ∧ M'.blk p = some [.agg (cfgC c P L)] ∧ M.next ≤ M'.next)
    (fun j M1 hj ⟨h1, h2, h3⟩ => by
      left
      have hpl : passL n (c.links.take (j + 1)) d = relaxL n (passL n (c.links.take j) d) c.links[j] := foldl_take hj
      have hok := hl c.links[j] (List.getElem_mem hj)
      obtain ⟨M2, k1, k2, k3, k4⟩ := r5_ds_link hP hn (d := passL n (c.links.take j) d) (by simpa using hd) hj hok M1 h2 h1 (by omega) (by omega) hpq
      exact ⟨M2, k1, by rw [hpl]; exact k2, by rw [k3 p hpq (by omega)]; exact h2, by omega⟩)
    (fun M1 ⟨h1, h2, h3⟩ => by
      rw [List.take_length] at h1
      have hlen := hP.l.lenS ti_sl_api_Link
      have hb0 := h2
      simp only [cfgC] at hb0
      exact ⟨_, by simp [c_r5_dists_B1, evW_reg, evW_chkr, evW_chfr, isCst, loadS, partS, TK.agg, fieldAddrS, zeroS, storeS, setPart, splice, endS, resS, fieldS, h_r5_dists_1, hb0, hlen], by simp, M1, rfl, h1, h2, h3⟩) 0 M (by omega) ⟨by simpa [passL] using hq, hp, Nat.le_refl _⟩
  exact ⟨M', g1, g2, g3, g4⟩
set_option maxHeartbeats 4000000 in
theorem r5_dists_ok {c : Cfg} {P L : SV} (hP : CfgP c P L) {fr : Int} (h6 : c.parts.length ≤ 50) (hf : 0 ≤ fr ∧ fr < c.parts.length) (hl : ∀ l ∈ c.links, okL c.parts.length l) :
    PCw ES n_r5_dists [.agg (cfgC c P L), .int .i64 fr] = some (.sl (iL (distL c.links c.parts.length fr)) .ro) := by
  have hln : (distL c.links c.parts.length fr).length = c.parts.length := by simp [distL]
  have hll : (iL (distL c.links c.parts.length fr)).length = c.parts.length := by simp [iL, hln]
  refine PCw_own (esz := 1) (fun M0 => ?_) (fun y hy => by
    simp only [iL, List.mem_map] at hy
    obtain ⟨x, _, rfl⟩ := hy
    rfl)
  rw [hll]
  rw [b_r5_dists]
  have hlenp := hP.p.lenS ti_sl_api_Part
  generalize hlen : c.parts.length = len at *
  have hmk := mkInts (n := len) (by omega)
  have hlo : ∀ q, lenS ES.P T_sl_int (.own q 1 0 len) = some (.int .i64 len) := fun q => by simp [lenS]
  have h25 : M0.next + 2 + 3 = M0.next + 5 := rfl
  have hfill : ∀ j, j < len → (List.replicate j (-1 : Int) ++ List.replicate (len - j) 0).set j (-1) = List.replicate (j + 1) (-1 : Int) ++ List.replicate (len - (j + 1)) 0 := by
    intro j hj
    have : len - j = (len - (j + 1)) + 1 := by omega
    rw [this, List.replicate_succ (a := (0 : Int)), List.replicate_succ' (a := (-1 : Int))]
    simp [List.set_append]
  obtain ⟨r0, f1, M1, rfl, f2, f3, f4⟩ := loop_up (E := ES) (me := n_r5_dists) (B := c_r5_dists_B0) (len := len) (T := fun j => h_r5_dists_0 (.int .i64 fr) (.ptr M0.next 0 0) (.own (M0.next + 5) 1 0 len) (.int .i64 j))
    (I := fun j M => M.blk (M0.next + 5) = some (iL (List.replicate j (-1) ++ List.replicate (len - j) 0)) ∧ M.blk M0.next = some [.agg (cfgC c P L)] ∧ M0.next + 5 < M.next)
    (Q := fun r => ∃ M', r = (.exit 0, ⟨(h_r5_dists_0 (.int .i64 fr) (.ptr M0.next 0 0) (.own (M0.next + 5) 1 0 len) (.int .i64 len)).set 17 (.bool false), M'⟩) ∧ M'.blk (M0.next + 5) = some (iL (List.replicate len (-1))) ∧ M'.blk M0.next = some [.agg (cfgC c P L)] ∧ M0.next + 5 < M'.next)
    (fun j M hj ⟨a1, a2, a3⟩ => by
      left
      have hw : IntKind.i64.wrap ((j : Int) + 1) = (j : Int) + 1 := i64_in (by omega) (by omega)
      have hix := ownI_ix (q := M0.next + 5) (len := len) (x := j) (by omega) (by omega)
      have hlt : j < (iL (List.replicate j (-1) ++ List.replicate (len - j) 0)).length := by simp [iL]; omega
      have hs := hfill j hj
      refine ⟨M.set (M0.next + 5) (some (iL (List.replicate (j + 1) (-1) ++ List.replicate (len - (j + 1)) 0))), ?_, by simp, by simp [a2], by simpa using a3⟩
      have hzc : ((iL (List.replicate j (-1) ++ List.replicate (len - j) 0))[j]'hlt) = .int .i64 0 := by simp [iL]
      rw [← hs, ← iL_set]
      simp [c_r5_dists_B0, evW_reg, evW_chkr, evW_chfr, isCst, loadS, partS, TK.agg, fieldAddrS, zeroS, storeS, setPart, splice, endS, resS, fieldS, h_r5_dists_0, hj, hlo, hw, hix, a1, hlt, hzc])
    (fun M ⟨a1, a2, a3⟩ => ⟨_, by simp [c_r5_dists_B0, evW_reg, evW_chkr, evW_chfr, isCst, loadS, partS, TK.agg, fieldAddrS, zeroS, storeS, setPart, splice, endS, resS, fieldS, h_r5_dists_0, hlo], by simp, M, rfl, by simpa using a1, a2, a3⟩) 0
    ((((M0.bump 2).set M0.next (some [.agg (cfgC c P L)])).bump 5).set (M0.next + 5) (some (iL (List.replicate len 0)))) (by omega) ⟨by simp, by simp, by simp⟩
  have hix := ownI_ix (q := M0.next + 5) (len := len) hf.1 hf.2
  have e0 : (iL (List.replicate len (-1))).set fr.toNat (.int .i64 0) = iL (dinit len fr) := by simp [iL, dinit]
  have hlt : fr.toNat < (iL (List.replicate len (-1 : Int))).length := by simp [iL]; omega
  obtain ⟨r1, g1, M2, rfl, g2⟩ := loop_up (E := ES) (me := n_r5_dists) (B := c_r5_dists_B2) (len := len) (T := fun j => h_r5_dists_2 (.ptr M0.next 0 0) (.own (M0.next + 5) 1 0 len) (.int .i64 j))
    (I := fun j M => M.blk (M0.next + 5) = some (iL (distK c.links len fr j)) ∧ M.blk M0.next = some [.agg (cfgC c P L)] ∧ M0.next + 5 < M.next)
    (Q := fun r => ∃ M', r = (.exit 2, ⟨(h_r5_dists_2 (.ptr M0.next 0 0) (.own (M0.next + 5) 1 0 len) (.int .i64 len)).set 29 (.bool false), M'⟩) ∧ M'.blk (M0.next + 5) = some (iL (distL c.links len fr)))
    (fun j M hj ⟨a1, a2, a3⟩ => by
      left
      have hw : IntKind.i64.wrap ((j : Int) + 1) = (j : Int) + 1 := i64_in (by omega) (by omega)
      obtain ⟨M', k1, k2, k3, k4⟩ := r5_ds_pass hP (p := M0.next) (q := M0.next + 5) (len := len) (n := j) (by omega) (d := distK c.links len fr j) (by simp) hl M a2 a1 (by omega) (by omega) (by omega)
      refine ⟨M', ?_, k2, k3, by omega⟩
      simp [h_r5_dists_1] at k1
      simp [c_r5_dists_B2, evW_reg, evW_chkr, evW_chfr, isCst, loadS, partS, TK.agg, fieldAddrS, zeroS, storeS, setPart, splice, endS, resS, fieldS, h_r5_dists_2, hj, hlo, hw, k1])
    (fun M ⟨a1, a2, a3⟩ => ⟨_, by simp [c_r5_dists_B2, evW_reg, evW_chkr, evW_chfr, isCst, loadS, partS, TK.agg, fieldAddrS, zeroS, storeS, setPart, splice, endS, resS, fieldS, h_r5_dists_2, hlo], by simp, M, rfl, a1⟩) 0
    (M1.set (M0.next + 5) (some (iL (dinit len fr)))) (by omega) ⟨by simp [distK], by simp [f3], by simpa using f4⟩
  simp only [cfgC] at f1
  simp [h_r5_dists_0] at f1
  simp [h_r5_dists_2] at g1
  refine ⟨M2, M0.next + 5, ?_, g2⟩
  have hzc : ((iL (List.replicate len (-1)))[fr.toNat]'hlt) = .int .i64 (-1) := by simp [iL]
  simp [c_r5_dists, evW_reg, evW_chkr, evW_chfr, isCst, loadS, partS, TK.agg, fieldAddrS, zeroS, storeS, setPart, splice, endS, resS, fieldS, cfgC, h25, hlenp, hlen, hmk, c_r5_dists_L0, c_r5_dists_L2, f1, f2, hix, e0, hlt, hzc, g1]
theorem r5_dists_c (get) {c : Cfg} {P L : SV} (hP : CfgP c P L) {fr : Int} (h6 : c.parts.length ≤ 50) (hf : 0 ≤ fr ∧ fr < c.parts.length) (hl : ∀ l ∈ c.links, okL c.parts.length l) :
    callP (PCw ES) get n_r5_dists [.agg (cfgC c P L), .int .i64 fr] = some (.sl (iL (distL c.links c.parts.length fr)) .ro) := callP_of (r5_dists_ok hP h6 hf hl) (by simp [hP.npA])

end Go.Proofs.YtljjmdcdlcefmaaGreatDoor
