/-
  Walks of the seat's functions: Rc.
-/
import Derived.Test.YtfphjfbknphhjaaGreatDoorEb2
import Derived.Test.YtfphjfbknphhjaaGreatDoorShMb
import Derived.Test.YtfphjfbknphhjaaGreatDoorLRb
import Derived.Test.YtfphjfbknphhjaaGreatDoorLzMf
set_option linter.unusedVariables false
set_option linter.unusedSimpArgs false
set_option maxRecDepth 100000
namespace Go.Proofs.YtfphjfbknphhjaaGreatDoor
open Go.Proofs.YtfphjfbknphhjaaGreatDoor.Sh
/-! The document's own: dists. -/
theorem Zau7 {n : Nat} (hn : n ≤ 1000) (a : Nat) : mkSl ES.P Zv a (.int .i64 n) (.int .i64 n) = some (.own a 1 0 n, iL (List.replicate n 0)) := by
  have h1 : (n : Int) * 8 ≤ 281474976710656 := by omega
  have h2 : (n : Int) ≤ 281474976710656 := by omega
  simp [mkSl, iL]
  omega
theorem Zapa {d : List Int} {x : Int} (h : x.toNat < (iL d).length) : (iL d)[x.toNat] = .int .i64 (Z21 d x) := by
  have : x.toNat < d.length := by simpa [iL] using h
  simp [iL, Z21, this]
theorem Z5y {n : Int} {d : List Int} {x y : Int} (h : Zyq n d x y = false) : Z21 d x = n → (Z21 d y < 0) = False := fun e => by simpa [Zyq, e] using h
set_option maxHeartbeats 4000000 in
theorem Zaj1 {c : Cfg} {P L : SV} (hP : Zi2 c P L) {p q len : Nat} {n : Nat} (hn : n ≤ 100) {d : List Int} (hd : d.length = len) {j : Nat} (hj : j < c.links.length) (hl : okL len c.links[j])
    (M : Mem) (hp : M.blk p = some [.agg (Z7 c P L)]) (hq : M.blk q = some (iL d)) (lp : p < M.next) (lq : q < M.next) (hpq : p ≠ q) :
    ∃ M', evW ES Zg2 Zd1 ⟨Zc0 (.ptr p 0 0) (.own q 1 0 len) (.int .i64 n) (.int .i64 j), M⟩ =
      some (.normal, ⟨Zc0 (.ptr p 0 0) (.own q 1 0 len) (.int .i64 n) (.int .i64 ((j + 1 : Nat) : Int)), M'⟩) ∧
      M'.blk q = some (iL (Zk7 n d c.links[j])) ∧ (∀ id, id ≠ q → id < M.next → M'.blk id = M.blk id) ∧ M.next ≤ M'.next := by
  obtain ⟨o1, o2, o3, o4⟩ := hl
  have ha := Links.at hP.l hj
  have hlen := hP.l.Zex Zbi
  have hw : IntKind.i64.wrap ((j : Int) + 1) = (j : Int) + 1 := i64_in (by omega) (by have := hP.ll; omega)
  have hw2 : IntKind.i64.wrap ((n : Int) + 1) = (n : Int) + 1 := i64_in (by omega) (by omega)
  have hne : ∀ k, (q = M.next + k) = False := fun k => by simp; omega
  have hnp : ∀ k, (p = M.next + k) = False := fun k => by simp; omega
  have hn0 : ¬ ((n : Int) < 0) := by omega
  have hnq : ∀ k, (M.next + k = q) = False := fun k => by simp; omega
  have hqp : (q = p) = False := by simp; omega
  generalize hLk : c.links[j] = l at *
  have gx := Zub (q := q) o1 o2
  have gy := Zub (q := q) o3 o4
  have vx := Z35 (d := d) o1 (by omega)
  have vy := Z35 (d := d) o3 (by omega)
  have hyl : l.b.toNat < (iL d).length := by simp [iL]; omega
  have hxl : l.a.toNat < (iL d).length := by simp [iL]; omega
  have hb0 := hp
  simp only [Z7] at hb0
  generalize hd1 : relax n d l.a l.b = d1
  have hd1l : d1.length = len := by rw [← hd1]; simpa using hd
  have wx := Z35 (d := d1) o1 (by omega)
  have wy := Z35 (d := d1) o3 (by omega)
  have hyl1 : l.b.toNat < (iL d1).length := by simp [iL]; omega
  have hxl1 : l.a.toNat < (iL d1).length := by simp [iL]; omega
  have hR : Zk7 n d l = relax n d1 l.b l.a := by unfold Zk7; rw [hd1]
  rw [hR, Zpd]
  rw [Zpd] at hd1
  have old0 : ∀ id, id ≠ q → id < M.next → ((M.bump 7).set (M.next + 5) (some [Za2 l])).blk id = M.blk id := fun id h1 h2 => by
    have : ¬ (id = M.next + 5) := by omega
    simp [this]
  have old1 : ∀ x, ∀ id, id ≠ q → id < M.next → (((M.bump 7).set (M.next + 5) (some [Za2 l])).set q x).blk id = M.blk id := fun x id h1 h2 => by
    have : ¬ (id = M.next + 5) := by omega
    simp [this, h1]
  cases t1 : Zyq n d l.a l.b with
  | false =>
    rw [t1] at hd1
    simp only [Bool.false_eq_true, if_false] at hd1
    subst hd1
    cases t2 : Zyq n d l.b l.a with
    | false =>
      refine ⟨(M.bump 7).set (M.next + 5) (some [Za2 l]), ?_, by simp [hne, hq], old0, by simp⟩
      have f1 := Z5y t1
      have f2 := Z5y t2
      by_cases e1 : Z21 d l.a = n
      · by_cases e2 : Z21 d l.b = n
        · simp [Zd1, Zf, Zd, Ze, Zl, Zn, Zo, TK.agg, Zb, zeroS, Zi, Zg, splice, Zx, Z5, Zk, Zc0, hlen, hj, ha, hLk, hb0, hne, hnp, hq, lp, lq, gx, gy, vx, vy, hn0, e1, e2, f1 e1, f2 e2, hw]
        · simp [Zd1, Zf, Zd, Ze, Zl, Zn, Zo, TK.agg, Zb, zeroS, Zi, Zg, splice, Zx, Z5, Zk, Zc0, hlen, hj, ha, hLk, hb0, hne, hnp, hq, lp, lq, gx, gy, vx, vy, hn0, e1, e2, f1 e1, hw]
      · by_cases e2 : Z21 d l.b = n
        · simp [Zd1, Zf, Zd, Ze, Zl, Zn, Zo, TK.agg, Zb, zeroS, Zi, Zg, splice, Zx, Z5, Zk, Zc0, hlen, hj, ha, hLk, hb0, hne, hnp, hq, lp, lq, gx, gy, vx, vy, hn0, e1, e2, f2 e2, hw]
        · simp [Zd1, Zf, Zd, Ze, Zl, Zn, Zo, TK.agg, Zb, zeroS, Zi, Zg, splice, Zx, Z5, Zk, Zc0, hlen, hj, ha, hLk, hb0, hne, hnp, hq, lp, lq, gx, gy, vx, vy, hn0, e1, e2, hw]
    | true =>
      simp [Zyq] at t2
      obtain ⟨e2, e3⟩ := t2
      refine ⟨((M.bump 7).set (M.next + 5) (some [Za2 l])).set q (some (iL (d.set l.a.toNat ((n : Int) + 1)))), ?_, by simp, old1 _, by simp⟩
      have f1 := Z5y t1
      have e1 : ¬ (Z21 d l.a = n) := by omega
      simp [Zd1, Zf, Zd, Ze, Zl, Zn, Zo, TK.agg, Zb, zeroS, Zi, Zg, splice, Zx, Z5, Zk, Zc0, hlen, hj, ha, hLk, hb0, hne, hnp, hq, lp, lq, gx, gy, vx, vy, e1, e2, e3, hn0, hw, hw2, hxl, Zapa, Z42]
  | true =>
    rw [t1] at hd1
    simp only [if_true] at hd1
    simp [Zyq] at t1
    obtain ⟨e1, e2⟩ := t1
    cases t2 : Zyq n d1 l.b l.a with
    | false =>
      refine ⟨((M.bump 7).set (M.next + 5) (some [Za2 l])).set q (some (iL d1)), ?_, by simp, old1 _, by simp⟩
      have f2 := Z5y t2
      by_cases e3 : Z21 d1 l.b = n
      · simp [Zd1, Zf, Zd, Ze, Zl, Zn, Zo, TK.agg, Zb, zeroS, Zi, Zg, splice, Zx, Z5, Zk, Zc0, hlen, hj, ha, hLk, hb0, hne, hnp, hq, hqp, hnq, lp, lq, gx, gy, vx, vy, e1, e2, e3, f2 e3, hn0, hw, hw2, hyl, Zapa, Z42, hd1, wx, wy]
      · simp [Zd1, Zf, Zd, Ze, Zl, Zn, Zo, TK.agg, Zb, zeroS, Zi, Zg, splice, Zx, Z5, Zk, Zc0, hlen, hj, ha, hLk, hb0, hne, hnp, hq, hqp, hnq, lp, lq, gx, gy, vx, vy, e1, e2, e3, hn0, hw, hw2, hyl, Zapa, Z42, hd1, wx, wy]
    | true =>
      simp [Zyq] at t2
      obtain ⟨e3, e4⟩ := t2
      refine ⟨(((M.bump 7).set (M.next + 5) (some [Za2 l])).set q (some (iL (d1.set l.a.toNat ((n : Int) + 1))))), ?_, by simp, old1 _, by simp⟩
      simp [Zd1, Zf, Zd, Ze, Zl, Zn, Zo, TK.agg, Zb, zeroS, Zi, Zg, splice, Zx, Z5, Zk, Zc0, hlen, hj, ha, hLk, hb0, hne, hnp, hq, hqp, hnq, lp, lq, gx, gy, vx, vy, e1, e2, e3, e4, hw, hw2, hyl, Zapa, Z42, hd1, wx, wy, hxl1]

end Go.Proofs.YtfphjfbknphhjaaGreatDoor

/-
  Walks of the seat's functions: Rd.
-/
set_option linter.unusedVariables false
set_option linter.unusedSimpArgs false
set_option maxRecDepth 100000
namespace Go.Proofs.YtfphjfbknphhjaaGreatDoor
open Go.Proofs.YtfphjfbknphhjaaGreatDoor.Sh
/-! The document's own: dists' rounds. -/
set_option maxHeartbeats 4000000 in
theorem Zajg {c : Cfg} {P L : SV} (hP : Zi2 c P L) {p q len : Nat} {n : Nat} (hn : n ≤ 100) {d : List Int} (hd : d.length = len) (hl : ∀ l ∈ c.links, okL len l)
    (M : Mem) (hp : M.blk p = some [.agg (Z7 c P L)]) (hq : M.blk q = some (iL d)) (lp : p < M.next) (lq : q < M.next) (hpq : p ≠ q) :
    ∃ M', evW ES Zg2 Zu4 ⟨Zc0 (.ptr p 0 0) (.own q 1 0 len) (.int .i64 n) (.int .i64 0), M⟩ =
      some (.exit 4, ⟨(Zc0 (.ptr p 0 0) (.own q 1 0 len) (.int .i64 n) (.int .i64 c.links.length)).set 36 (.bool false), M'⟩) ∧
      M'.blk q = some (iL (Zkv n c.links d)) ∧ M'.blk p = some [.agg (Z7 c P L)] ∧ M.next ≤ M'.next := by
  obtain ⟨r, g1, M', rfl, g2, g3, g4⟩ := Zke (E := ES) (me := Zg2) (B := Zd1) (len := c.links.length)
    (T := fun j => Zc0 (.ptr p 0 0) (.own q 1 0 len) (.int .i64 n) (.int .i64 j))
    (I := fun j M1 => M1.blk q = some (iL (Zkv n (c.links.take j) d)) ∧ M1.blk p = some [.agg (Z7 c P L)] ∧ M.next ≤ M1.next)
    (Q := fun r => ∃ M', r = (.exit 4, ⟨(Zc0 (.ptr p 0 0) (.own q 1 0 len) (.int .i64 n) (.int .i64 c.links.length)).set 36 (.bool false), M'⟩) ∧
      M'.blk q = some (iL (Zkv n c.links d)) ∧ M'.blk p = some [.agg (Z7 c P L)] ∧ M.next ≤ M'.next)
    (fun j M1 hj ⟨h1, h2, h3⟩ => by
      left
      have hpl : Zkv n (c.links.take (j + 1)) d = Zk7 n (Zkv n (c.links.take j) d) c.links[j] := Zwe hj
      have hok := hl c.links[j] (List.getElem_mem hj)
      obtain ⟨M2, k1, k2, k3, k4⟩ := Zaj1 hP hn (d := Zkv n (c.links.take j) d) (by simpa using hd) hj hok M1 h2 h1 (by omega) (by omega) hpq
      exact ⟨M2, k1, by rw [hpl]; exact k2, by rw [k3 p hpq (by omega)]; exact h2, by omega⟩)
    (fun M1 ⟨h1, h2, h3⟩ => by
      rw [List.take_length] at h1
      have hlen := hP.l.Zex Zbi
      have hb0 := h2
      simp only [Z7] at hb0
      exact ⟨_, by simp [Zd1, Zf, Zd, Ze, Zl, Zn, Zo, TK.agg, Zb, zeroS, Zi, Zg, splice, Zx, Z5, Zk, Zc0, hb0, hlen], by simp, M1, rfl, h1, h2, h3⟩) 0 M (by omega) ⟨by simpa [Zkv] using hq, hp, Nat.le_refl _⟩
  exact ⟨M', g1, g2, g3, g4⟩
set_option maxHeartbeats 4000000 in
theorem Zacv {c : Cfg} {P L : SV} (hP : Zi2 c P L) {fr : Int} (h6 : c.parts.length ≤ 50) (hf : 0 ≤ fr ∧ fr < c.parts.length) (hl : ∀ l ∈ c.links, okL c.parts.length l) :
    PCw ES Zg2 [.agg (Z7 c P L), .int .i64 fr] = some (.sl (iL (Zlx c.links c.parts.length fr)) .ro) := by
  have hln : (Zlx c.links c.parts.length fr).length = c.parts.length := by simp [Zlx]
  have hll : (iL (Zlx c.links c.parts.length fr)).length = c.parts.length := by simp [iL, hln]
  refine Z6l (esz := 1) (fun M0 => ?_) (fun y hy => by
    simp only [iL, List.mem_map] at hy
    obtain ⟨x, _, rfl⟩ := hy
    rfl)
  rw [hll]
  rw [Zah5]
  have hlenp := hP.p.Zex Za1
  generalize hlen : c.parts.length = len at *
  have hmk := Zau7 (n := len) (by omega)
  have hlo : ∀ q, Zex ES.P Zv (.own q 1 0 len) = some (.int .i64 len) := fun q => by simp [Zex]
  have h25 : M0.next + 2 + 3 = M0.next + 5 := rfl
  have hfill : ∀ j, j < len → (List.replicate j (-1 : Int) ++ List.replicate (len - j) 0).set j (-1) = List.replicate (j + 1) (-1 : Int) ++ List.replicate (len - (j + 1)) 0 := by
    intro j hj
    have : len - j = (len - (j + 1)) + 1 := by omega
    rw [this, List.replicate_succ (a := (0 : Int)), List.replicate_succ' (a := (-1 : Int))]
    simp [List.set_append]
  obtain ⟨r0, f1, M1, rfl, f2, f3, f4⟩ := Zke (E := ES) (me := Zg2) (B := Zo8) (len := len) (T := fun j => Zom (.int .i64 fr) (.ptr M0.next 0 0) (.own (M0.next + 5) 1 0 len) (.int .i64 j))
    (I := fun j M => M.blk (M0.next + 5) = some (iL (List.replicate j (-1) ++ List.replicate (len - j) 0)) ∧ M.blk M0.next = some [.agg (Z7 c P L)] ∧ M0.next + 5 < M.next)
    (Q := fun r => ∃ M', r = (.exit 0, ⟨(Zom (.int .i64 fr) (.ptr M0.next 0 0) (.own (M0.next + 5) 1 0 len) (.int .i64 len)).set 17 (.bool false), M'⟩) ∧ M'.blk (M0.next + 5) = some (iL (List.replicate len (-1))) ∧ M'.blk M0.next = some [.agg (Z7 c P L)] ∧ M0.next + 5 < M'.next)
    (fun j M hj ⟨a1, a2, a3⟩ => by
      left
      have hw : IntKind.i64.wrap ((j : Int) + 1) = (j : Int) + 1 := i64_in (by omega) (by omega)
      have hix := Zub (q := M0.next + 5) (len := len) (x := j) (by omega) (by omega)
      have hlt : j < (iL (List.replicate j (-1) ++ List.replicate (len - j) 0)).length := by simp [iL]; omega
      have hs := hfill j hj
      refine ⟨M.set (M0.next + 5) (some (iL (List.replicate (j + 1) (-1) ++ List.replicate (len - (j + 1)) 0))), ?_, by simp, by simp [a2], by simpa using a3⟩
      have hzc : ((iL (List.replicate j (-1) ++ List.replicate (len - j) 0))[j]'hlt) = .int .i64 0 := by simp [iL]
      rw [← hs, ← Z42]
      simp [Zo8, Zf, Zd, Ze, Zl, Zn, Zo, TK.agg, Zb, zeroS, Zi, Zg, splice, Zx, Z5, Zk, Zom, hj, hlo, hw, hix, a1, hlt, hzc])
    (fun M ⟨a1, a2, a3⟩ => ⟨_, by simp [Zo8, Zf, Zd, Ze, Zl, Zn, Zo, TK.agg, Zb, zeroS, Zi, Zg, splice, Zx, Z5, Zk, Zom, hlo], by simp, M, rfl, by simpa using a1, a2, a3⟩) 0
    ((((M0.bump 2).set M0.next (some [.agg (Z7 c P L)])).bump 5).set (M0.next + 5) (some (iL (List.replicate len 0)))) (by omega) ⟨by simp, by simp, by simp⟩
  have hix := Zub (q := M0.next + 5) (len := len) hf.1 hf.2
  have e0 : (iL (List.replicate len (-1))).set fr.toNat (.int .i64 0) = iL (Z7t len fr) := by simp [iL, Z7t]
  have hlt : fr.toNat < (iL (List.replicate len (-1 : Int))).length := by simp [iL]; omega
  obtain ⟨r1, g1, M2, rfl, g2⟩ := Zke (E := ES) (me := Zg2) (B := Zpa) (len := len) (T := fun j => Zop (.ptr M0.next 0 0) (.own (M0.next + 5) 1 0 len) (.int .i64 j))
    (I := fun j M => M.blk (M0.next + 5) = some (iL (Zlc c.links len fr j)) ∧ M.blk M0.next = some [.agg (Z7 c P L)] ∧ M0.next + 5 < M.next)
    (Q := fun r => ∃ M', r = (.exit 2, ⟨(Zop (.ptr M0.next 0 0) (.own (M0.next + 5) 1 0 len) (.int .i64 len)).set 29 (.bool false), M'⟩) ∧ M'.blk (M0.next + 5) = some (iL (Zlx c.links len fr)))
    (fun j M hj ⟨a1, a2, a3⟩ => by
      left
      have hw : IntKind.i64.wrap ((j : Int) + 1) = (j : Int) + 1 := i64_in (by omega) (by omega)
      obtain ⟨M', k1, k2, k3, k4⟩ := Zajg hP (p := M0.next) (q := M0.next + 5) (len := len) (n := j) (by omega) (d := Zlc c.links len fr j) (by simp) hl M a2 a1 (by omega) (by omega) (by omega)
      refine ⟨M', ?_, k2, k3, by omega⟩
      simp [Zc0] at k1
      simp [Zpa, Zf, Zd, Ze, Zl, Zn, Zo, TK.agg, Zb, zeroS, Zi, Zg, splice, Zx, Z5, Zk, Zop, hj, hlo, hw, k1])
    (fun M ⟨a1, a2, a3⟩ => ⟨_, by simp [Zpa, Zf, Zd, Ze, Zl, Zn, Zo, TK.agg, Zb, zeroS, Zi, Zg, splice, Zx, Z5, Zk, Zop, hlo], by simp, M, rfl, a1⟩) 0
    (M1.set (M0.next + 5) (some (iL (Z7t len fr)))) (by omega) ⟨by simp [Zlc], by simp [f3], by simpa using f4⟩
  simp only [Z7] at f1
  simp [Zom] at f1
  simp [Zop] at g1
  refine ⟨M2, M0.next + 5, ?_, g2⟩
  have hzc : ((iL (List.replicate len (-1)))[fr.toNat]'hlt) = .int .i64 (-1) := by simp [iL]
  simp [Zwm, Zf, Zd, Ze, Zl, Zn, Zo, TK.agg, Zb, zeroS, Zi, Zg, splice, Zx, Z5, Zk, Z7, h25, hlenp, hlen, hmk, Zv0, Zuw, f1, f2, hix, e0, hlt, hzc, g1]
theorem Zajn (get) {c : Cfg} {P L : SV} (hP : Zi2 c P L) {fr : Int} (h6 : c.parts.length ≤ 50) (hf : 0 ≤ fr ∧ fr < c.parts.length) (hl : ∀ l ∈ c.links, okL c.parts.length l) :
    Za0 (PCw ES) get Zg2 [.agg (Z7 c P L), .int .i64 fr] = some (.sl (iL (Zlx c.links c.parts.length fr)) .ro) := Z4 (Zacv hP h6 hf hl) (by simp [hP.npA])

end Go.Proofs.YtfphjfbknphhjaaGreatDoor
