/-
  Walks of the seat's functions: Dt.
-/
import Derived.Test.YtbdliphlolajaaaDoorEb2
import Derived.Test.YtbdliphlolajaaaDoorShSv
import Derived.Test.YtbdliphlolajaaaDoorLDs
import Derived.Test.YtbdliphlolajaaaDoorLRp
import Derived.Test.YtbdliphlolajaaaDoorLPm
set_option linter.unusedVariables false
set_option linter.unusedSimpArgs false
set_option maxRecDepth 100000
namespace Go.Proofs.YtbdliphlolajaaaDoor
open Go.Proofs.YtbdliphlolajaaaDoor.Sh
/-! plan.Dists: its walk. -/
def iL (d : List Int) : List SV := d.map (SV.int .i64)
def trig (n : Int) (d : List Int) (x y : Int) : Bool := decide (dget d x = n ∧ dget d y < 0)
theorem relax_trig (n : Int) (d : List Int) (x y : Int) : relax n d x y = if trig n d x y then d.set y.toNat (n + 1) else d := by simp [relax, trig]
theorem ownI_ix {q len : Nat} {x : Int} (h0 : 0 ≤ x) (h1 : x < len) : indexAddrS ES.P T_sl_int (.own q 1 0 len) (.int .i64 x) = some (.ptr q x.toNat 0) := by
  have : x.toNat < len := by omega
  simp [indexAddrS, natS, h0, this]
theorem iL_get {d : List Int} {x : Int} (h0 : 0 ≤ x) (h1 : x < d.length) : (iL d)[x.toNat]? = some (.int .i64 (dget d x)) := by
  have : x.toNat < d.length := by omega
  simp [iL, dget, this]
theorem iL_set (d : List Int) (i : Nat) (v : Int) : (iL d).set i (.int .i64 v) = iL (d.set i v) := by simp [iL]
theorem own2_ix {s : Nat} {k : Nat} (hk : k < 2) : indexAddrS ES.P T_sl_a2_int (.own s 2 0 2) (.int .i64 k) = some (.ptr s k 0) := by simp [indexAddrS, natS, hk]
set_option maxHeartbeats 4000000 in
theorem ds_in {p q s len : Nat} {n : Nat} (hn : n ≤ 100) {d : List Int} (hd : d.length = len) {x y : Int} (hx : 0 ≤ x ∧ x < len) (hy : 0 ≤ y ∧ y < len) {k : Nat} (hk : k < 2) (L ll jj : SV) (more : Bool) {items : List SV}
    (hit : items[k]? = some (.agg [.int .i64 x, .int .i64 y])) (M : Mem) (hq : M.blk q = some (iL d)) (hs : M.blk s = some items) (lq : q < M.next) (ls : s < M.next) :
    ∃ M', evW ES n_plan_Dists c_plan_Dists_B0 ⟨h_plan_Dists_0 (.ptr p 0 0) (.own q 1 0 len) (.int .i64 n) (.bool more) L ll jj (.own s 2 0 2) (.int .i64 2) (.int .i64 k), M⟩ =
      some (.normal, ⟨h_plan_Dists_0 (.ptr p 0 0) (.own q 1 0 len) (.int .i64 n) (.bool (more || trig n d x y)) L ll jj (.own s 2 0 2) (.int .i64 2) (.int .i64 ((k : Int) + 1)), M'⟩) ∧
      M'.blk q = some (iL (relax n d x y)) ∧ (∀ id, id ≠ q → id < M.next → M'.blk id = M.blk id) ∧ M.next ≤ M'.next := by
  have hk' : (k : Int) < 2 := by omega
  have hw : IntKind.i64.wrap ((k : Int) + 1) = (k : Int) + 1 := i64_in (by omega) (by omega)
  have hw2 : IntKind.i64.wrap ((n : Int) + 1) = (n : Int) + 1 := i64_in (by omega) (by omega)
  have gx := ownI_ix (q := q) hx.1 hx.2
  have gy := ownI_ix (q := q) hy.1 hy.2
  have vx := iL_get (d := d) hx.1 (by omega)
  have vy := iL_get (d := d) hy.1 (by omega)
  have g2 := own2_ix (s := s) hk
  have hne : ∀ k, (q = M.next + k) = False := fun k => by simp; omega
  have hne2 : ∀ k, (s = M.next + k) = False := fun k => by simp; omega
  have hyl : y.toNat < (iL d).length := by simp [iL]; omega
  rw [relax_trig]
  by_cases t1 : dget d x = n
  · by_cases t2 : dget d y < 0
    · have ht : trig n d x y = true := by simp [trig, t1, t2]
      rw [ht]
      simp [c_plan_Dists_B0, evW_reg, evW_chkr, isCst, loadS, partS, TK.agg, fieldAddrS, zeroS, storeS, setPart, splice, endS, resS, fieldS, h_plan_Dists_0, hk', g2, hs, hit, hne, hne2, gx, gy, hq, vx, vy, t1, t2, hw, hw2, iL_set]
      intro id h1 h2
      have : ¬ (id = M.next + 2) := by omega
      simp [h1, this]
    · have ht : trig n d x y = false := by simp [trig, t2]
      rw [ht]
      simp [c_plan_Dists_B0, evW_reg, evW_chkr, isCst, loadS, partS, TK.agg, fieldAddrS, zeroS, storeS, setPart, splice, endS, resS, fieldS, h_plan_Dists_0, hk', g2, hs, hit, hne, hne2, gx, gy, hq, vx, vy, t1, t2, hw, hw2]
      intro id h1 h2
      have : ¬ (id = M.next + 2) := by omega
      simp [this]
  · have ht : trig n d x y = false := by simp [trig, t1]
    rw [ht]
    simp [c_plan_Dists_B0, evW_reg, evW_chkr, isCst, loadS, partS, TK.agg, fieldAddrS, zeroS, storeS, setPart, splice, endS, resS, fieldS, h_plan_Dists_0, hk', g2, hs, hit, hne, hne2, gx, gy, hq, vx, vy, t1, hw]
    intro id h1 h2
    have : ¬ (id = M.next + 2) := by omega
    simp [this]
set_option maxHeartbeats 4000000 in
theorem ds_link {c : Cfg} {P L : SV} (hP : CfgP c P L) {p q len : Nat} {n : Nat} (hn : n ≤ 100) {d : List Int} (hd : d.length = len) {j : Nat} (hj : j < c.links.length) (hl : okL len c.links[j]) (more : Bool)
    (M : Mem) (hq : M.blk q = some (iL d)) (lq : q < M.next) :
    ∃ M' m', evW ES n_plan_Dists c_plan_Dists_B1 ⟨h_plan_Dists_1 (.ptr p 0 0) (.own q 1 0 len) (.int .i64 n) (.bool more) L (.int .i64 c.links.length) (.int .i64 j), M⟩ =
      some (.normal, ⟨h_plan_Dists_1 (.ptr p 0 0) (.own q 1 0 len) (.int .i64 n) (.bool (more || m')) L (.int .i64 c.links.length) (.int .i64 ((j : Int) + 1)), M'⟩) ∧
      M'.blk q = some (iL (relaxL n d c.links[j])) ∧ (∀ id, id ≠ q → id < M.next → M'.blk id = M.blk id) ∧ M.next ≤ M'.next ∧
      (m' = false → relaxL n d c.links[j] = d) ∧ (m' = true → relaxL n d c.links[j] ≠ d) := by
  obtain ⟨o1, o2, o3, o4⟩ := hl
  have ha := Links.at hP.l hj
  have hw : IntKind.i64.wrap ((j : Int) + 1) = (j : Int) + 1 := i64_in (by omega) (by have := hP.ll; omega)
  have hne : ∀ k, (q = M.next + k) = False := fun k => by simp; omega
  generalize hLk : c.links[j] = l at *
  have bl : bldS ES.P T_a2_int [(0, .int .i64 l.a), (1, .int .i64 l.b)] = some (.agg [.int .i64 l.a, .int .i64 l.b]) := by simp [bldS, placesOf, buildS, splice]
  have bl2 : bldS ES.P T_a2_int [(0, .int .i64 l.b), (1, .int .i64 l.a)] = some (.agg [.int .i64 l.b, .int .i64 l.a]) := by simp [bldS, placesOf, buildS, splice]
  have bs : ∀ a : Nat, bldSl ES.P T_sl_a2_int 2 a [(0, .agg [.int .i64 l.a, .int .i64 l.b]), (1, .agg [.int .i64 l.b, .int .i64 l.a])] = some (.own a 2 0 2, [.agg [.int .i64 l.a, .int .i64 l.b], .agg [.int .i64 l.b, .int .i64 l.a]]) := fun a => by simp [bldSl, buildRow]
  have lhs : ∃ s M1, s < M1.next ∧ M1.blk s = some [.agg [.int .i64 l.a, .int .i64 l.b], .agg [.int .i64 l.b, .int .i64 l.a]] ∧ M1.blk q = some (iL d) ∧ q < M1.next ∧ s ≠ q ∧ M.next ≤ M1.next ∧ M.next ≤ s ∧ (∀ id, id < M.next → M1.blk id = M.blk id) ∧
      ∀ r, evW ES n_plan_Dists c_plan_Dists_L0 ⟨h_plan_Dists_0 (.ptr p 0 0) (.own q 1 0 len) (.int .i64 n) (.bool more) L (.int .i64 c.links.length) (.int .i64 j) (.own s 2 0 2) (.int .i64 2) (.int .i64 0), M1⟩ = some r →
        (∀ m M', r = (.exit 4, ⟨(h_plan_Dists_0 (.ptr p 0 0) (.own q 1 0 len) (.int .i64 n) (.bool m) L (.int .i64 c.links.length) (.int .i64 j) (.own s 2 0 2) (.int .i64 2) (.int .i64 2)).set 43 (.bool false), M'⟩) →
          evW ES n_plan_Dists c_plan_Dists_B1 ⟨h_plan_Dists_1 (.ptr p 0 0) (.own q 1 0 len) (.int .i64 n) (.bool more) L (.int .i64 c.links.length) (.int .i64 j), M⟩ =
            some (.normal, ⟨h_plan_Dists_1 (.ptr p 0 0) (.own q 1 0 len) (.int .i64 n) (.bool m) L (.int .i64 c.links.length) (.int .i64 ((j : Int) + 1)), M'⟩)) := by
    refine ⟨M.next + 4 + 10, (((((M.bump 4).set (M.next + 2) (some [.agg [.int .i64 0, .int .i64 0, .int .i64 0, .int .i64 0, .int .i64 0, .int .i64 0]])).set (M.next + 2) (some [encLink l])).bump 13).set (M.next + 4 + 10) (some [.agg [.int .i64 l.a, .int .i64 l.b], .agg [.int .i64 l.b, .int .i64 l.a]])), ?_, ?_, ?_, ?_, ?_, ?_, ?_, ?_, ?_⟩
    · simp
    · simp
    · have : ¬ (q = M.next + 4 + 10) := by omega
      simp [hne, hq, this]
    · simp; omega
    · omega
    · simp; omega
    · omega
    · intro id hid
      have h1 : ¬ (id = M.next + 4 + 10) := by omega
      have h2 : ¬ (id = M.next + 2) := by omega
      simp [h1, h2]
    · intro r hr m M' he
      subst he
      simp [h_plan_Dists_0] at hr
      simp [c_plan_Dists_B1, evW_reg, evW_chkr, isCst, loadS, partS, TK.agg, fieldAddrS, zeroS, storeS, setPart, splice, endS, resS, fieldS, h_plan_Dists_1, hj, ha, hLk, bl, bl2, bs, lenS, hr, hw]
  obtain ⟨s, M1, a1, a2, a3, a4, a5, a6, a7, a8, a9⟩ := lhs
  obtain ⟨M2, b1, b2, b3, b4⟩ := ds_in hn hd (p := p) (q := q) (s := s) (x := l.a) (y := l.b) ⟨o1, o2⟩ ⟨o3, o4⟩ (k := 0) (by omega) L (.int .i64 c.links.length) (.int .i64 j) more (items := [.agg [.int .i64 l.a, .int .i64 l.b], .agg [.int .i64 l.b, .int .i64 l.a]]) rfl M1 a3 a2 a4 a1
  obtain ⟨M3, c1, c2, c3, c4⟩ := ds_in hn (d := relax n d l.a l.b) (by simpa using hd) (p := p) (q := q) (s := s) (x := l.b) (y := l.a) ⟨o3, o4⟩ ⟨o1, o2⟩ (k := 1) (by omega) L (.int .i64 c.links.length) (.int .i64 j) (more || trig n d l.a l.b) (items := [.agg [.int .i64 l.a, .int .i64 l.b], .agg [.int .i64 l.b, .int .i64 l.a]]) rfl M2 b2 (by rw [b3 s a5 a1]; exact a2) (by omega) (by omega)
  have fin : evW ES n_plan_Dists c_plan_Dists_L0 ⟨h_plan_Dists_0 (.ptr p 0 0) (.own q 1 0 len) (.int .i64 n) (.bool more) L (.int .i64 c.links.length) (.int .i64 j) (.own s 2 0 2) (.int .i64 2) (.int .i64 0), M1⟩ =
      some (.exit 4, ⟨(h_plan_Dists_0 (.ptr p 0 0) (.own q 1 0 len) (.int .i64 n) (.bool (more || trig n d l.a l.b || trig n (relax n d l.a l.b) l.b l.a)) L (.int .i64 c.links.length) (.int .i64 j) (.own s 2 0 2) (.int .i64 2) (.int .i64 2)).set 43 (.bool false), M3⟩) := by
    unfold c_plan_Dists_L0
    rw [evW_loop, show ((0 : Int)) = ((0 : Nat) : Int) from rfl, b1]
    simp only
    rw [evW_loop, show (((0 : Nat) : Int) + 1) = ((1 : Nat) : Int) from rfl, c1]
    simp only
    rw [evW_loop]
    simp [c_plan_Dists_B0, evW_reg, evW_chkr, isCst, loadS, partS, TK.agg, fieldAddrS, zeroS, storeS, setPart, splice, endS, resS, fieldS, h_plan_Dists_0]
  refine ⟨M3, trig n d l.a l.b || trig n (relax n d l.a l.b) l.b l.a, ?_, c2, fun id h1 h2 => ?_, by omega, fun h => ?_, fun h => ?_⟩
  · rw [← Bool.or_assoc]
    exact a9 _ fin _ _ rfl
  · rw [c3 id h1 (by omega), b3 id h1 (by omega), a8 id h2]
  · simp only [Bool.or_eq_false_iff] at h
    unfold relaxL
    have e1 : relax n d l.a l.b = d := by rw [relax_trig, h.1]; rfl
    rw [e1] at h ⊢
    rw [relax_trig, h.2]; rfl
  · intro e
    have hneg : ∀ (d' : List Int) (x y : Int), d'.length = len → y.toNat < len → 0 ≤ y → trig n d' x y = true → negs (relax n d' x y) + 1 = negs d' := by
      intro d' x y hd' hy hy0 ht
      rw [relax_trig, ht]
      simp [trig] at ht
      exact negs_set (by omega) ht.2 (by omega)
    have hle : ∀ (d' : List Int) (x y : Int), d'.length = len → y.toNat < len → negs (relax n d' x y) ≤ negs d' := by
      intro d' x y hd' hy
      rcases relax_or (n := (n : Int)) (by omega) (d := d') (x := x) (y := y) (by omega) with h | h
      · rw [h]; exact Nat.le_refl _
      · omega
    have k1 := hle d l.a l.b hd (by omega)
    have k2 := hle (relax n d l.a l.b) l.b l.a (by simpa using hd) (by omega)
    have k3 : negs (relaxL n d l) = negs d := by rw [e]
    unfold relaxL at k3
    simp only [Bool.or_eq_true] at h
    rcases h with h | h
    · have := hneg d l.a l.b hd (by omega) o3 h; omega
    · have := hneg (relax n d l.a l.b) l.b l.a (by simpa using hd) (by omega) o1 h; omega

end Go.Proofs.YtbdliphlolajaaaDoor
