/-
  Walks of the seat's functions: Rc.
-/
import Derived.Test.YtbdliphlolajaaaDoorEb2
import Derived.Test.YtbdliphlolajaaaDoorShSv
import Derived.Test.YtbdliphlolajaaaDoorLRb
import Derived.Test.YtbdliphlolajaaaDoorLDu
set_option linter.unusedVariables false
set_option linter.unusedSimpArgs false
set_option maxRecDepth 100000
namespace Go.Proofs.YtbdliphlolajaaaDoor
open Go.Proofs.YtbdliphlolajaaaDoor.Sh
/-! The document's own: dists. -/
theorem mkInts {n : Nat} (hn : n ≤ 1000) (a : Nat) : mkSl ES.P T_sl_int a (.int .i64 n) (.int .i64 n) = some (.own a 1 0 n, iL (List.replicate n 0)) := by
  have h1 : (n : Int) * 8 ≤ 281474976710656 := by omega
  have h2 : (n : Int) ≤ 281474976710656 := by omega
  simp [mkSl, iL]
  omega
theorem iL_at {d : List Int} {x : Int} (h : x.toNat < (iL d).length) : (iL d)[x.toNat] = .int .i64 (dget d x) := by
  have : x.toNat < d.length := by simpa [iL] using h
  simp [iL, dget, this]
theorem trig_no {n : Int} {d : List Int} {x y : Int} (h : trig n d x y = false) : dget d x = n → (dget d y < 0) = False := fun e => by simpa [trig, e] using h
theorem trig_eq (n : Int) (d : List Int) (x y : Int) : trig n d x y = (decide (dget d x = n) && decide (dget d y < 0)) := by simp [trig]
set_option maxHeartbeats 4000000 in
theorem r5_ds_link {c : Cfg} {P L : SV} (hP : CfgP c P L) {p q len : Nat} {n : Nat} (hn : n ≤ 100) {d : List Int} (hd : d.length = len) {j : Nat} (hj : j < c.links.length) (hl : okL len c.links[j])
    (M : Mem) (hp : M.blk p = some [.agg (cfgC c P L)]) (hq : M.blk q = some (iL d)) (lp : p < M.next) (lq : q < M.next) (hpq : p ≠ q) :
    ∃ M', evW ES n_r5_dists c_r5_dists_B1 ⟨h_r5_dists_1 (.ptr p 0 0) (.own q 1 0 len) (.int .i64 n) (.int .i64 j), M⟩ =
      some (.normal, ⟨h_r5_dists_1 (.ptr p 0 0) (.own q 1 0 len) (.int .i64 n) (.int .i64 ((j + 1 : Nat) : Int)), M'⟩) ∧
      M'.blk q = some (iL (relaxL n d c.links[j])) ∧ (∀ id, id ≠ q → id < M.next → M'.blk id = M.blk id) ∧ M.next ≤ M'.next := by
  obtain ⟨o1, o2, o3, o4⟩ := hl
  have ha := Links.at hP.l hj
  have hlen := hP.l.lenS ti_sl_api_Link
  have hw : IntKind.i64.wrap ((j : Int) + 1) = (j : Int) + 1 := i64_in (by omega) (by have := hP.ll; omega)
  have hw2 : IntKind.i64.wrap ((n : Int) + 1) = (n : Int) + 1 := i64_in (by omega) (by omega)
  have hne : ∀ k, (q = M.next + k) = False := fun k => by simp; omega
  have hnp : ∀ k, (p = M.next + k) = False := fun k => by simp; omega
  have hn0 : ¬ ((n : Int) < 0) := by omega
  have hnq : ∀ k, (M.next + k = q) = False := fun k => by simp; omega
  have hqp : (q = p) = False := by simp; omega
  generalize hLk : c.links[j] = l at *
  have gx := ownI_ix (q := q) o1 o2
  have gy := ownI_ix (q := q) o3 o4
  have vx := iL_get (d := d) o1 (by omega)
  have vy := iL_get (d := d) o3 (by omega)
  have hyl : l.b.toNat < (iL d).length := by simp [iL]; omega
  have hxl : l.a.toNat < (iL d).length := by simp [iL]; omega
  have hb0 := hp
  simp only [cfgC] at hb0
  generalize hd1 : relax n d l.a l.b = d1
  have hd1l : d1.length = len := by rw [← hd1]; simpa using hd
  have wx := iL_get (d := d1) o1 (by omega)
  have wy := iL_get (d := d1) o3 (by omega)
  have hyl1 : l.b.toNat < (iL d1).length := by simp [iL]; omega
  have hxl1 : l.a.toNat < (iL d1).length := by simp [iL]; omega
  have hR : relaxL n d l = relax n d1 l.b l.a := by unfold relaxL; rw [hd1]
  rw [hR, relax_trig]
  rw [relax_trig] at hd1
  have old0 : ∀ id, id ≠ q → id < M.next → ((M.bump 7).set (M.next + 5) (some [encLink l])).blk id = M.blk id := fun id h1 h2 => by
    have : ¬ (id = M.next + 5) := by omega
    simp [this]
  have old1 : ∀ x, ∀ id, id ≠ q → id < M.next → (((M.bump 7).set (M.next + 5) (some [encLink l])).set q x).blk id = M.blk id := fun x id h1 h2 => by
    have : ¬ (id = M.next + 5) := by omega
    simp [this, h1]
  cases t1 : trig n d l.a l.b with
  | false =>
    rw [t1] at hd1
    simp only [Bool.false_eq_true, if_false] at hd1
    subst hd1
    cases t2 : trig n d l.b l.a with
    | false =>
      refine ⟨(M.bump 7).set (M.next + 5) (some [encLink l]), ?_, by simp [hne, hq], old0, by simp⟩
      have f1 := trig_no t1
      have f2 := trig_no t2
      by_cases e1 : dget d l.a = n
      · by_cases e2 : dget d l.b = n
        · simp [c_r5_dists_B1, evW_reg, evW_chkr, isCst, loadS, partS, TK.agg, fieldAddrS, zeroS, storeS, setPart, splice, endS, resS, fieldS, h_r5_dists_1, hlen, hj, ha, hLk, hb0, hne, hnp, hq, lp, lq, gx, gy, vx, vy, hn0, e1, e2, f1 e1, f2 e2, hw]
        · simp [c_r5_dists_B1, evW_reg, evW_chkr, isCst, loadS, partS, TK.agg, fieldAddrS, zeroS, storeS, setPart, splice, endS, resS, fieldS, h_r5_dists_1, hlen, hj, ha, hLk, hb0, hne, hnp, hq, lp, lq, gx, gy, vx, vy, hn0, e1, e2, f1 e1, hw]
      · by_cases e2 : dget d l.b = n
        · simp [c_r5_dists_B1, evW_reg, evW_chkr, isCst, loadS, partS, TK.agg, fieldAddrS, zeroS, storeS, setPart, splice, endS, resS, fieldS, h_r5_dists_1, hlen, hj, ha, hLk, hb0, hne, hnp, hq, lp, lq, gx, gy, vx, vy, hn0, e1, e2, f2 e2, hw]
        · simp [c_r5_dists_B1, evW_reg, evW_chkr, isCst, loadS, partS, TK.agg, fieldAddrS, zeroS, storeS, setPart, splice, endS, resS, fieldS, h_r5_dists_1, hlen, hj, ha, hLk, hb0, hne, hnp, hq, lp, lq, gx, gy, vx, vy, hn0, e1, e2, hw]
    | true =>
      simp [trig] at t2
      obtain ⟨e2, e3⟩ := t2
      refine ⟨((M.bump 7).set (M.next + 5) (some [encLink l])).set q (some (iL (d.set l.a.toNat ((n : Int) + 1)))), ?_, by simp, old1 _, by simp⟩
      have f1 := trig_no t1
      have e1 : ¬ (dget d l.a = n) := by omega
      simp [c_r5_dists_B1, evW_reg, evW_chkr, isCst, loadS, partS, TK.agg, fieldAddrS, zeroS, storeS, setPart, splice, endS, resS, fieldS, h_r5_dists_1, hlen, hj, ha, hLk, hb0, hne, hnp, hq, lp, lq, gx, gy, vx, vy, e1, e2, e3, hn0, hw, hw2, hxl, iL_at, iL_set]
  | true =>
    rw [t1] at hd1
    simp only [if_true] at hd1
    simp [trig] at t1
    obtain ⟨e1, e2⟩ := t1
    cases t2 : trig n d1 l.b l.a with
    | false =>
      refine ⟨((M.bump 7).set (M.next + 5) (some [encLink l])).set q (some (iL d1)), ?_, by simp, old1 _, by simp⟩
      have f2 := trig_no t2
      by_cases e3 : dget d1 l.b = n
      · simp [c_r5_dists_B1, evW_reg, evW_chkr, isCst, loadS, partS, TK.agg, fieldAddrS, zeroS, storeS, setPart, splice, endS, resS, fieldS, h_r5_dists_1, hlen, hj, ha, hLk, hb0, hne, hnp, hq, hqp, hnq, lp, lq, gx, gy, vx, vy, e1, e2, e3, f2 e3, hn0, hw, hw2, hyl, iL_at, iL_set, hd1, wx, wy]
      · simp [c_r5_dists_B1, evW_reg, evW_chkr, isCst, loadS, partS, TK.agg, fieldAddrS, zeroS, storeS, setPart, splice, endS, resS, fieldS, h_r5_dists_1, hlen, hj, ha, hLk, hb0, hne, hnp, hq, hqp, hnq, lp, lq, gx, gy, vx, vy, e1, e2, e3, hn0, hw, hw2, hyl, iL_at, iL_set, hd1, wx, wy]
    | true =>
      simp [trig] at t2
      obtain ⟨e3, e4⟩ := t2
      refine ⟨(((M.bump 7).set (M.next + 5) (some [encLink l])).set q (some (iL (d1.set l.a.toNat ((n : Int) + 1))))), ?_, by simp, old1 _, by simp⟩
      simp [c_r5_dists_B1, evW_reg, evW_chkr, isCst, loadS, partS, TK.agg, fieldAddrS, zeroS, storeS, setPart, splice, endS, resS, fieldS, h_r5_dists_1, hlen, hj, ha, hLk, hb0, hne, hnp, hq, hqp, hnq, lp, lq, gx, gy, vx, vy, e1, e2, e3, e4, hw, hw2, hyl, iL_at, iL_set, hd1, wx, wy, hxl1]

end Go.Proofs.YtbdliphlolajaaaDoor
