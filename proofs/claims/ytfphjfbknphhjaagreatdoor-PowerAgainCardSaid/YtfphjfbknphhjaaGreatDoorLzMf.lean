/-
  Walks of the seat's functions: Dt.
-/
import Derived.Test.YtfphjfbknphhjaaGreatDoorEb2
import Derived.Test.YtfphjfbknphhjaaGreatDoorShMb
import Derived.Test.YtfphjfbknphhjaaGreatDoorLzMe
import Derived.Test.YtfphjfbknphhjaaGreatDoorLzMb
import Derived.Test.YtfphjfbknphhjaaGreatDoorLzMc
set_option linter.unusedVariables false
set_option linter.unusedSimpArgs false
set_option maxRecDepth 100000
namespace Go.Proofs.YtfphjfbknphhjaaGreatDoor
open Go.Proofs.YtfphjfbknphhjaaGreatDoor.Sh
/-! plan.Dists: its walk. -/
def iL (d : List Int) : List SV := d.map (SV.int .i64)
def Zyq (n : Int) (d : List Int) (x y : Int) : Bool := decide (Z21 d x = n ∧ Z21 d y < 0)
theorem Zpd (n : Int) (d : List Int) (x y : Int) : relax n d x y = if Zyq n d x y then d.set y.toNat (n + 1) else d := by simp [relax, Zyq]
theorem Zub {q len : Nat} {x : Int} (h0 : 0 ≤ x) (h1 : x < len) : Z9 ES.P Zv (.own q 1 0 len) (.int .i64 x) = some (.ptr q x.toNat 0) := by
  have : x.toNat < len := by omega
  simp [Z9, Zs4, h0, this]
theorem Z35 {d : List Int} {x : Int} (h0 : 0 ≤ x) (h1 : x < d.length) : (iL d)[x.toNat]? = some (.int .i64 (Z21 d x)) := by
  have : x.toNat < d.length := by omega
  simp [iL, Z21, this]
theorem Z42 (d : List Int) (i : Nat) (v : Int) : (iL d).set i (.int .i64 v) = iL (d.set i v) := by simp [iL]
theorem Zasq {s : Nat} {k : Nat} (hk : k < 2) : Z9 ES.P Zl0 (.own s 2 0 2) (.int .i64 k) = some (.ptr s k 0) := by simp [Z9, Zs4, hk]
set_option maxHeartbeats 4000000 in
theorem Zavj {p q s len : Nat} {n : Nat} (hn : n ≤ 100) {d : List Int} (hd : d.length = len) {x y : Int} (hx : 0 ≤ x ∧ x < len) (hy : 0 ≤ y ∧ y < len) {k : Nat} (hk : k < 2) (L ll jj : SV) (more : Bool) {items : List SV}
    (hit : items[k]? = some (.agg [.int .i64 x, .int .i64 y])) (M : Mem) (hq : M.blk q = some (iL d)) (hs : M.blk s = some items) (lq : q < M.next) (ls : s < M.next) :
    ∃ M', evW ES Zcd Zih ⟨Zds (.ptr p 0 0) (.own q 1 0 len) (.int .i64 n) (.bool more) L ll jj (.own s 2 0 2) (.int .i64 2) (.int .i64 k), M⟩ =
      some (.normal, ⟨Zds (.ptr p 0 0) (.own q 1 0 len) (.int .i64 n) (.bool (more || Zyq n d x y)) L ll jj (.own s 2 0 2) (.int .i64 2) (.int .i64 ((k : Int) + 1)), M'⟩) ∧
      M'.blk q = some (iL (relax n d x y)) ∧ (∀ id, id ≠ q → id < M.next → M'.blk id = M.blk id) ∧ M.next ≤ M'.next := by
  have hk' : (k : Int) < 2 := by omega
  have hw : IntKind.i64.wrap ((k : Int) + 1) = (k : Int) + 1 := i64_in (by omega) (by omega)
  have hw2 : IntKind.i64.wrap ((n : Int) + 1) = (n : Int) + 1 := i64_in (by omega) (by omega)
  have gx := Zub (q := q) hx.1 hx.2
  have gy := Zub (q := q) hy.1 hy.2
  have vx := Z35 (d := d) hx.1 (by omega)
  have vy := Z35 (d := d) hy.1 (by omega)
  have g2 := Zasq (s := s) hk
  have hne : ∀ k, (q = M.next + k) = False := fun k => by simp; omega
  have hne2 : ∀ k, (s = M.next + k) = False := fun k => by simp; omega
  have hyl : y.toNat < (iL d).length := by simp [iL]; omega
  rw [Zpd]
  by_cases t1 : Z21 d x = n
  · by_cases t2 : Z21 d y < 0
    · have ht : Zyq n d x y = true := by simp [Zyq, t1, t2]
      rw [ht]
      simp [Zih, Zf, Zd, Ze, Zl, Zn, Zo, TK.agg, Zb, zeroS, Zi, Zg, splice, Zx, Z5, Zk, Zds, hk', g2, hs, hit, hne, hne2, gx, gy, hq, vx, vy, t1, t2, hw, hw2, Z42]
      intro id h1 h2
      have : ¬ (id = M.next + 2) := by omega
      simp [h1, this]
    · have ht : Zyq n d x y = false := by simp [Zyq, t2]
      rw [ht]
      simp [Zih, Zf, Zd, Ze, Zl, Zn, Zo, TK.agg, Zb, zeroS, Zi, Zg, splice, Zx, Z5, Zk, Zds, hk', g2, hs, hit, hne, hne2, gx, gy, hq, vx, vy, t1, t2, hw, hw2]
      intro id h1 h2
      have : ¬ (id = M.next + 2) := by omega
      simp [this]
  · have ht : Zyq n d x y = false := by simp [Zyq, t1]
    rw [ht]
    simp [Zih, Zf, Zd, Ze, Zl, Zn, Zo, TK.agg, Zb, zeroS, Zi, Zg, splice, Zx, Z5, Zk, Zds, hk', g2, hs, hit, hne, hne2, gx, gy, hq, vx, vy, t1, hw]
    intro id h1 h2
    have : ¬ (id = M.next + 2) := by omega
    simp [this]
set_option maxHeartbeats 4000000 in
theorem Zasr {c : Cfg} {P L : SV} (hP : Zi2 c P L) {p q len : Nat} {n : Nat} (hn : n ≤ 100) {d : List Int} (hd : d.length = len) {j : Nat} (hj : j < c.links.length) (hl : okL len c.links[j]) (more : Bool)
    (M : Mem) (hq : M.blk q = some (iL d)) (lq : q < M.next) :
    ∃ M' m', evW ES Zcd Zid ⟨Zdq (.ptr p 0 0) (.own q 1 0 len) (.int .i64 n) (.bool more) L (.int .i64 c.links.length) (.int .i64 j), M⟩ =
      some (.normal, ⟨Zdq (.ptr p 0 0) (.own q 1 0 len) (.int .i64 n) (.bool (more || m')) L (.int .i64 c.links.length) (.int .i64 ((j : Int) + 1)), M'⟩) ∧
      M'.blk q = some (iL (Zk7 n d c.links[j])) ∧ (∀ id, id ≠ q → id < M.next → M'.blk id = M.blk id) ∧ M.next ≤ M'.next ∧
      (m' = false → Zk7 n d c.links[j] = d) ∧ (m' = true → Zk7 n d c.links[j] ≠ d) := by
  obtain ⟨o1, o2, o3, o4⟩ := hl
  have ha := Links.at hP.l hj
  have hw : IntKind.i64.wrap ((j : Int) + 1) = (j : Int) + 1 := i64_in (by omega) (by have := hP.ll; omega)
  have hne : ∀ k, (q = M.next + k) = False := fun k => by simp; omega
  generalize hLk : c.links[j] = l at *
  have bl : Zny ES.P Zaq [(0, .int .i64 l.a), (1, .int .i64 l.b)] = some (.agg [.int .i64 l.a, .int .i64 l.b]) := by simp [Zny, placesOf, Zeb, splice]
  have bl2 : Zny ES.P Zaq [(0, .int .i64 l.b), (1, .int .i64 l.a)] = some (.agg [.int .i64 l.b, .int .i64 l.a]) := by simp [Zny, placesOf, Zeb, splice]
  have bs : ∀ a : Nat, Zf7 ES.P Zl0 2 a [(0, .agg [.int .i64 l.a, .int .i64 l.b]), (1, .agg [.int .i64 l.b, .int .i64 l.a])] = some (.own a 2 0 2, [.agg [.int .i64 l.a, .int .i64 l.b], .agg [.int .i64 l.b, .int .i64 l.a]]) := fun a => by simp [Zf7, Zb4]
  have lhs : ∃ s M1, s < M1.next ∧ M1.blk s = some [.agg [.int .i64 l.a, .int .i64 l.b], .agg [.int .i64 l.b, .int .i64 l.a]] ∧ M1.blk q = some (iL d) ∧ q < M1.next ∧ s ≠ q ∧ M.next ≤ M1.next ∧ M.next ≤ s ∧ (∀ id, id < M.next → M1.blk id = M.blk id) ∧
      ∀ r, evW ES Zcd Zmi ⟨Zds (.ptr p 0 0) (.own q 1 0 len) (.int .i64 n) (.bool more) L (.int .i64 c.links.length) (.int .i64 j) (.own s 2 0 2) (.int .i64 2) (.int .i64 0), M1⟩ = some r →
        (∀ m M', r = (.exit 4, ⟨(Zds (.ptr p 0 0) (.own q 1 0 len) (.int .i64 n) (.bool m) L (.int .i64 c.links.length) (.int .i64 j) (.own s 2 0 2) (.int .i64 2) (.int .i64 2)).set 43 (.bool false), M'⟩) →
          evW ES Zcd Zid ⟨Zdq (.ptr p 0 0) (.own q 1 0 len) (.int .i64 n) (.bool more) L (.int .i64 c.links.length) (.int .i64 j), M⟩ =
            some (.normal, ⟨Zdq (.ptr p 0 0) (.own q 1 0 len) (.int .i64 n) (.bool m) L (.int .i64 c.links.length) (.int .i64 ((j : Int) + 1)), M'⟩)) := by
    refine ⟨M.next + 4 + 10, (((((M.bump 4).set (M.next + 2) (some [.agg [.int .i64 0, .int .i64 0, .int .i64 0, .int .i64 0, .int .i64 0, .int .i64 0]])).set (M.next + 2) (some [Za2 l])).bump 13).set (M.next + 4 + 10) (some [.agg [.int .i64 l.a, .int .i64 l.b], .agg [.int .i64 l.b, .int .i64 l.a]])), ?_, ?_, ?_, ?_, ?_, ?_, ?_, ?_, ?_⟩
    · simp
    · simp
    · have : ¬ (q = M.next + 4 + 10) := by omega
      simp [hne, hq, this]
    · simp; omega
    · omega
    · simp; omega
    · omega
    · intro id hid
      have h1 : ¬ (id = M.next + 4 + 10) := by omega
      have h2 : ¬ (id = M.next + 2) := by omega
      simp [h1, h2]
    · intro r hr m M' he
      subst he
      simp [Zds] at hr
      simp [Zid, Zf, Zd, Ze, Zl, Zn, Zo, TK.agg, Zb, zeroS, Zi, Zg, splice, Zx, Z5, Zk, Zdq, hj, ha, hLk, bl, bl2, bs, Zex, hr, hw]
  obtain ⟨s, M1, a1, a2, a3, a4, a5, a6, a7, a8, a9⟩ := lhs
  obtain ⟨M2, b1, b2, b3, b4⟩ := Zavj hn hd (p := p) (q := q) (s := s) (x := l.a) (y := l.b) ⟨o1, o2⟩ ⟨o3, o4⟩ (k := 0) (by omega) L (.int .i64 c.links.length) (.int .i64 j) more (items := [.agg [.int .i64 l.a, .int .i64 l.b], .agg [.int .i64 l.b, .int .i64 l.a]]) rfl M1 a3 a2 a4 a1
  obtain ⟨M3, c1, c2, c3, c4⟩ := Zavj hn (d := relax n d l.a l.b) (by simpa using hd) (p := p) (q := q) (s := s) (x := l.b) (y := l.a) ⟨o3, o4⟩ ⟨o1, o2⟩ (k := 1) (by omega) L (.int .i64 c.links.length) (.int .i64 j) (more || Zyq n d l.a l.b) (items := [.agg [.int .i64 l.a, .int .i64 l.b], .agg [.int .i64 l.b, .int .i64 l.a]]) rfl M2 b2 (by rw [b3 s a5 a1]; exact a2) (by omega) (by omega)
  have fin : evW ES Zcd Zmi ⟨Zds (.ptr p 0 0) (.own q 1 0 len) (.int .i64 n) (.bool more) L (.int .i64 c.links.length) (.int .i64 j) (.own s 2 0 2) (.int .i64 2) (.int .i64 0), M1⟩ =
      some (.exit 4, ⟨(Zds (.ptr p 0 0) (.own q 1 0 len) (.int .i64 n) (.bool (more || Zyq n d l.a l.b || Zyq n (relax n d l.a l.b) l.b l.a)) L (.int .i64 c.links.length) (.int .i64 j) (.own s 2 0 2) (.int .i64 2) (.int .i64 2)).set 43 (.bool false), M3⟩) := by
    unfold Zmi
    rw [Zbl, show ((0 : Int)) = ((0 : Nat) : Int) from rfl, b1]
    simp only
    rw [Zbl, show (((0 : Nat) : Int) + 1) = ((1 : Nat) : Int) from rfl, c1]
    simp only
    rw [Zbl]
    simp [Zih, Zf, Zd, Ze, Zl, Zn, Zo, TK.agg, Zb, zeroS, Zi, Zg, splice, Zx, Z5, Zk, Zds]
  refine ⟨M3, Zyq n d l.a l.b || Zyq n (relax n d l.a l.b) l.b l.a, ?_, c2, fun id h1 h2 => ?_, by omega, fun h => ?_, fun h => ?_⟩
  · rw [← Bool.or_assoc]
    exact a9 _ fin _ _ rfl
  · rw [c3 id h1 (by omega), b3 id h1 (by omega), a8 id h2]
  · simp only [Bool.or_eq_false_iff] at h
    unfold Zk7
    have e1 : relax n d l.a l.b = d := by rw [Zpd, h.1]; rfl
    rw [e1] at h ⊢
    rw [Zpd, h.2]; rfl
  · intro e
    have hneg : ∀ (d' : List Int) (x y : Int), d'.length = len → y.toNat < len → 0 ≤ y → Zyq n d' x y = true → Z4w (relax n d' x y) + 1 = Z4w d' := by
      intro d' x y hd' hy hy0 ht
      rw [Zpd, ht]
      simp [Zyq] at ht
      exact Z54 (by omega) ht.2 (by omega)
    have hle : ∀ (d' : List Int) (x y : Int), d'.length = len → y.toNat < len → Z4w (relax n d' x y) ≤ Z4w d' := by
      intro d' x y hd' hy
      rcases Zyk (n := (n : Int)) (by omega) (d := d') (x := x) (y := y) (by omega) with h | h
      · rw [h]; exact Nat.le_refl _
      · omega
    have k1 := hle d l.a l.b hd (by omega)
    have k2 := hle (relax n d l.a l.b) l.b l.a (by simpa using hd) (by omega)
    have k3 : Z4w (Zk7 n d l) = Z4w d := by rw [e]
    unfold Zk7 at k3
    simp only [Bool.or_eq_true] at h
    rcases h with h | h
    · have := hneg d l.a l.b hd (by omega) o3 h; omega
    · have := hneg (relax n d l.a l.b) l.b l.a (by simpa using hd) (by omega) o1 h; omega

end Go.Proofs.YtfphjfbknphhjaaGreatDoor

/-
  Walks of the seat's functions: Du.
-/
set_option linter.unusedVariables false
set_option linter.unusedSimpArgs false
set_option maxRecDepth 100000
namespace Go.Proofs.YtfphjfbknphhjaaGreatDoor
open Go.Proofs.YtfphjfbknphhjaaGreatDoor.Sh
/-! plan.Dists: rounds. -/
set_option maxHeartbeats 4000000 in
theorem Zasy {c : Cfg} {P L : SV} (hP : Zi2 c P L) {p q len : Nat} {n : Nat} (hn : n ≤ 100) {d : List Int} (hd : d.length = len) (hl : ∀ l ∈ c.links, okL len l) (M : Mem) (hq : M.blk q = some (iL d)) (lq : q < M.next) :
    ∃ M' m, evW ES Zcd Zss ⟨Zdq (.ptr p 0 0) (.own q 1 0 len) (.int .i64 n) (.bool false) L (.int .i64 c.links.length) (.int .i64 0), M⟩ =
      some (.exit 2, ⟨(Zdq (.ptr p 0 0) (.own q 1 0 len) (.int .i64 n) (.bool m) L (.int .i64 c.links.length) (.int .i64 c.links.length)).set 27 (.bool false), M'⟩) ∧
      M'.blk q = some (iL (Zkv n c.links d)) ∧ (∀ id, id ≠ q → id < M.next → M'.blk id = M.blk id) ∧ M.next ≤ M'.next ∧ (m = false → Zkv n c.links d = d) ∧ (m = true → Zkv n c.links d ≠ d) := by
  obtain ⟨r, g1, m, M', rfl, g2, g3, g4, g5, g6⟩ := Zr0 (E := ES) (me := Zcd) (B := Zid) (β := Bool) (len := c.links.length)
    (T := fun j m => Zdq (.ptr p 0 0) (.own q 1 0 len) (.int .i64 n) (.bool m) L (.int .i64 c.links.length) (.int .i64 j))
    (I := fun j m M1 => M1.blk q = some (iL (Zkv n (c.links.take j) d)) ∧ (∀ id, id ≠ q → id < M.next → M1.blk id = M.blk id) ∧ M.next ≤ M1.next ∧ (m = false → Zkv n (c.links.take j) d = d) ∧ (m = true → Z4w (Zkv n (c.links.take j) d) < Z4w d))
    (Q := fun r => ∃ m M', r = (.exit 2, ⟨(Zdq (.ptr p 0 0) (.own q 1 0 len) (.int .i64 n) (.bool m) L (.int .i64 c.links.length) (.int .i64 c.links.length)).set 27 (.bool false), M'⟩) ∧
      M'.blk q = some (iL (Zkv n c.links d)) ∧ (∀ id, id ≠ q → id < M.next → M'.blk id = M.blk id) ∧ M.next ≤ M'.next ∧ (m = false → Zkv n c.links d = d) ∧ (m = true → Zkv n c.links d ≠ d))
    (fun j m M1 hj ⟨h1, h2, h3, h4, h5⟩ => by
      left
      have hpl : Zkv n (c.links.take (j + 1)) d = Zk7 n (Zkv n (c.links.take j) d) c.links[j] := Zwe hj
      have hok := hl c.links[j] (List.getElem_mem hj)
      obtain ⟨M2, m', k1, k2, k3, k4, k5, k6⟩ := Zasr hP hn (d := Zkv n (c.links.take j) d) (by simpa using hd) hj hok m (p := p) M1 h1 (by omega)
      refine ⟨m || m', M2, k1, by rw [hpl]; exact k2, fun id i1 i2 => by rw [k3 id i1 (by omega), h2 id i1 i2], by omega, fun hm => ?_, fun hm => ?_⟩
      · simp only [Bool.or_eq_false_iff] at hm
        rw [hpl, k5 hm.2, h4 hm.1]
      · rw [hpl]
        have hor := Z8x (n := (n : Int)) (by omega) (d := Zkv n (c.links.take j) d) (l := c.links[j]) (by simpa [hd] using hok)
        cases hm' : m' with
        | true =>
          have := k6 hm'
          rcases hor with e | e
          · exact absurd e this
          · cases hmm : m with
            | true => have := h5 hmm; omega
            | false => have := h4 hmm; rw [this] at e ⊢; omega
        | false =>
          rw [k5 hm']
          rw [hm'] at hm
          exact h5 (by simpa using hm))
    (fun m M1 ⟨h1, h2, h3, h4, h5⟩ => by
      rw [List.take_length] at h1 h4 h5
      refine ⟨_, by simp [Zid, Zf, Zd, Ze, Zl, Zn, Zo, TK.agg, Zb, zeroS, Zi, Zg, splice, Zx, Z5, Zk, Zdq], by simp, m, M1, rfl, h1, h2, h3, h4, fun hm e => ?_⟩
      have := h5 hm
      rw [e] at this
      omega) 0 false M (by omega) ⟨by simpa [Zkv] using hq, fun _ _ _ => rfl, Nat.le_refl _, fun _ => rfl, fun h => by cases h⟩
  exact ⟨M', m, g1, g2, g3, g4, g5, g6⟩
set_option maxHeartbeats 4000000 in
theorem Zawp {c : Cfg} {P L : SV} (hP : Zi2 c P L) {p q len : Nat} {fr : Int} (hlen : len ≤ 50) (hf : 0 ≤ fr ∧ fr < len) (hl : ∀ l ∈ c.links, okL len l) (hpq : p ≠ q) : ∀ (fuel k : Nat) (M : Mem), len - k ≤ fuel → (∀ i < k, Zlc c.links len fr (i + 1) ≠ Zlc c.links len fr i) →
    M.blk q = some (iL (Zlc c.links len fr k)) → q < M.next → M.blk p = some [.agg (Z7 c P L)] → p < M.next →
    ∃ M' n', evW ES Zcd Zh9 ⟨Zht (.ptr p 0 0) (.own q 1 0 len) (.int .i64 k) (.bool true), M⟩ =
      some (.exit 0, ⟨(Zht (.ptr p 0 0) (.own q 1 0 len) (.int .i64 n') .Z).set 20 (.bool false), M'⟩) ∧ M'.blk q = some (iL (Zlx c.links len fr)) := by
  intro fuel
  induction fuel with
  | zero =>
    intro k M hk h1 _ _ _ _
    have := Ztm hl hf k h1
    omega
  | succ fuel ih =>
    intro k M hk h1 hq lq hp lp
    have hneg := Ztm hl hf k h1
    have hlen' := hP.l.Zex Zbi
    have hw : IntKind.i64.wrap ((k : Int) + 1) = ((k + 1 : Nat) : Int) := by rw [i64_in (by omega) (by omega)]; omega
    obtain ⟨M1, m, a1, a2, a3, a4, a5, a6⟩ := Zasy hP (p := p) (q := q) (n := k) (by omega) (d := Zlc c.links len fr k) (by simp) hl M hq lq
    have hp0 := hp
    simp only [Z7] at hp0
    have round : ∀ r, (evW ES Zcd Zh9 ⟨Zht (.ptr p 0 0) (.own q 1 0 len) (.int .i64 ((k + 1 : Nat) : Int)) (.bool m), M1⟩ = some r) →
        evW ES Zcd Zh9 ⟨Zht (.ptr p 0 0) (.own q 1 0 len) (.int .i64 k) (.bool true), M⟩ = some r := by
      intro r hr
      rw [← hr]
      unfold Zh9
      rw [Zbl]
      simp [Zdq] at a1
      simp [Zpv, Zf, Zd, Ze, Zl, Zn, Zo, TK.agg, Zb, zeroS, Zi, Zg, splice, Zx, Z5, Zk, Zht, hp0, hlen', a1, hw]
    cases m with
    | true =>
      obtain ⟨M', n', b1, b2⟩ := ih (k + 1) M1 (by omega) (fun i hi => by
        rcases Nat.lt_or_ge i k with h | h
        · exact h1 i h
        · obtain rfl : i = k := by omega
          exact a6 rfl) a2 (by omega) (by rw [a3 p hpq lp]; exact hp) (by omega)
      exact ⟨M', n', round _ b1, b2⟩
    | false =>
      refine ⟨M1, ((k + 1 : Nat) : Int), round _ ?_, ?_⟩
      · unfold Zh9
        rw [Zbl]
        simp [Zpv, Zf, Zd, Ze, Zl, Zn, Zo, TK.agg, Zb, zeroS, Zi, Zg, splice, Zx, Z5, Zk, Zht]
      · have e := a5 rfl
        rw [a2, e, Zanz hl hf h1 e]
set_option maxHeartbeats 4000000 in
theorem Zaqa {y : SV} {c : Cfg} (hc : CfgR y c) {fr : Int} (h1 : 1 ≤ c.parts.length) (h6 : c.parts.length ≤ 6) (hf : 0 ≤ fr ∧ fr < c.parts.length) (hl : ∀ l ∈ c.links, okL c.parts.length l) :
    PCw ES Zcd [y, .int .i64 fr] = some (.sl (iL (Zlx c.links c.parts.length fr)) .ro) := by
  obtain ⟨P, L, rfl, hP⟩ := hc
  have hln : (Zlx c.links c.parts.length fr).length = c.parts.length := by simp [Zlx]
  have hll : (iL (Zlx c.links c.parts.length fr)).length = c.parts.length := by simp [iL, hln]
  refine Z6l (esz := 1) (fun M0 => ?_) (fun y hy => by
    simp only [iL, List.mem_map] at hy
    obtain ⟨x, _, rfl⟩ := hy
    rfl)
  rw [hll]
  rw [Z9k]
  have hlenp := hP.p.Zex Za1
  have bs : ∀ a, Zf7 ES.P Zv 1 a [(0, .int .i64 (-1))] = some (.own a 1 0 1, [.int .i64 (-1)]) := fun a => by simp [Zf7, Zb4]
  obtain ⟨M1, q, r1, r2, r3, r4, r5⟩ := Zaoe (n := c.parts.length) (id := M0.next + 2) (-1) h1 h6 ((((M0.bump 2).set M0.next (some [.agg (Z7 c P L)])).bump 6).set (M0.next + 2) (some [.int .i64 (-1)])) (by simp) (by simp)
  simp at r3 r4
  have hix := Zub (q := q) (len := c.parts.length) hf.1 hf.2
  have hp1 : M1.blk M0.next = some [.agg (Z7 c P L)] := by
    have := r5 M0.next (by simp; omega)
    rw [this]
    simp
  obtain ⟨M2, n', b1, b2⟩ := Zawp hP (p := M0.next) (q := q) (len := c.parts.length) (fr := fr) (by omega) hf hl (by omega) c.parts.length 0 (M1.set q (some (iL (Z7t c.parts.length fr)))) (by omega) (fun i hi => by omega) (by simp [Zlc]) (by simpa using r3)
    (by have : ¬ (M0.next = q) := by omega
        simp [this, hp1]) (by simp; omega)
  have e0 : (List.replicate c.parts.length (SV.int .i64 (-1))).set fr.toNat (.int .i64 0) = iL (Z7t c.parts.length fr) := by simp [iL, Z7t]
  have hlt : fr.toNat < c.parts.length := by omega
  simp only [Z7] at r1
  simp [Zht] at b1
  refine ⟨M2, q, ?_, b2⟩
  simp [Ztd, Zf, Zd, Ze, Zl, Zn, Zo, TK.agg, Zb, zeroS, Zi, Zg, splice, Zx, Z5, Zk, Z7, hlenp, bs, r1, hix, r2, e0, hlt, b1]
theorem Zati (get) {y : SV} {c : Cfg} (hc : CfgR y c) {fr : Int} (h1 : 1 ≤ c.parts.length) (h6 : c.parts.length ≤ 6) (hf : 0 ≤ fr ∧ fr < c.parts.length) (hl : ∀ l ∈ c.links, okL c.parts.length l) :
    Za0 (PCw ES) get Zcd [y, .int .i64 fr] = some (.sl (iL (Zlx c.links c.parts.length fr)) .ro) := Z4 (Zaqa hc h1 h6 hf hl) (by simp [hc.Z2q])
theorem Zad8 (d : List Int) (tl : Tl) : Ints (.sl (iL d) tl) d := RSl.of_map rfl rfl

end Go.Proofs.YtfphjfbknphhjaaGreatDoor
