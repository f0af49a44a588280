/-
  Walks of the seat's functions: Om.
-/
import Derived.Test.YtfphjfbknphhjaaGreatDoorEb2
import Derived.Test.YtfphjfbknphhjaaGreatDoorShMb
import Derived.Test.YtfphjfbknphhjaaGreatDoorLzMq
import Derived.Test.YtfphjfbknphhjaaGreatDoorLzMp
set_option linter.unusedVariables false
set_option linter.unusedSimpArgs false
set_option maxRecDepth 100000
namespace Go.Proofs.YtfphjfbknphhjaaGreatDoor
open Go.Proofs.YtfphjfbknphhjaaGreatDoor.Sh
/-! Cells made right, of all parts. -/
theorem mapM_some {f : SV → Option SV} : ∀ {items : List SV}, (∀ y ∈ items, (f y).isSome = true) → ∃ items', items.mapM f = some items' ∧ items'.length = items.length ∧ ∀ (j : Nat) (y y' : SV), items[j]? = some y → items'[j]? = some y' → f y = some y'
  | [], _ => ⟨[], rfl, rfl, fun j y y' h => by simp at h⟩
  | x :: r, h => by
    obtain ⟨x', hx⟩ := Option.isSome_iff_exists.1 (h x (by simp))
    obtain ⟨r', h1, h2, h3⟩ := mapM_some (f := f) (items := r) fun y hy => h y (by simp [hy])
    refine ⟨x' :: r', by rw [List.mapM_cons, hx, h1]; rfl, by simp [h2], fun j y y' hy hy' => ?_⟩
    cases j with
    | zero =>
      simp only [List.getElem?_cons_zero, Option.some.injEq] at hy hy'
      rw [← hy, ← hy']
      exact hx
    | succ j =>
      simp only [List.getElem?_cons_succ] at hy hy'
      exact h3 j y y' hy hy'
structure Zzz (c : Cfg) (M : Mem) (o y : SV) (x : Cel) (n : Int) : Prop where
  ex : ∃ q ns Ag, y = .agg [.own q 8 0 ns.length, .bool x.on, .int .i64 x.start, Ag] ∧ M.blk q = some ns ∧ q < M.next ∧ (∀ e p r, o ≠ .own q e p r) ∧ RSl NdR (.sl ns .ro) x.nodes ∧ Ints Ag x.ages ∧ Sh.pv Ag = true
  ag : ∀ nd ∈ x.nodes, Zi6 c nd = true
  ln : (x.nodes.length : Int) = n
  gu : Zqc c x.on x.ages = true ∧ Zk8 x.start
theorem Zzz.keep {c : Cfg} {M M' : Mem} {o o' y : SV} {x : Cel} {n : Int} (h : Zzz c M o y x n) (hk : Keeps o M M') (hn : M.next ≤ M'.next) (ho : ∀ id e a b, o' = .own id e a b → M.next ≤ id ∨ o' = o) : Zzz c M' o' y x n := by
  obtain ⟨⟨q, ns, Ag, e, h1, h2, h3, h4⟩, h5, h6, h7⟩ := h
  refine ⟨⟨q, ns, Ag, e, (hk q h2 h3).trans h1, by omega, fun e' p r hh => ?_, h4⟩, h5, h6, h7⟩
  rcases ho q e' p r hh with h | h
  · omega
  · exact h3 e' p r (h ▸ hh)
structure CeI (K : List SV) (c : Cfg) (b : Nat) (o : SV) (items : List SV) (cs : List Cel) (M : Mem) : Prop where
  hc : M.blk b = some [.agg K]
  lt : b < M.next
  ho : Zg1 4 o M items
  ne : ∀ e p q, o ≠ .own b e p q
  ln : items.length = cs.length
  at' : ∀ (j : Nat) (y : SV) (x : Cel), items[j]? = some y → cs[j]? = some x → Zzz c M o y x (Zbx c j)
theorem CeI.app {K : List SV} {c : Cfg} {b : Nat} {o : SV} {items : List SV} {cs : List Cel} {M X : Mem} (h : CeI K c b o items cs M) {y : SV} {x : Cel} (hy : y.cells.length = 4) (hl : items.length ≤ 1000) (hX : Old M X) (hn : M.next ≤ X.next)
    (hxy : ∀ M' o', (∀ q, M.next ≤ q → q < X.next → M'.blk q = X.blk q) → X.next ≤ M'.next → (∀ id e a b, o' = .own id e a b → X.next ≤ id ∨ id < M.next) → Zzz c M' o' y x (Zbx c cs.length)) :
    ∃ o' k M1, Zef ES.P ((X.bump 5).set (X.next + 2) (some [y])).blk (X.next + 3) Zt Zt o (.own (X.next + 2) 4 0 1) = some (o', k) ∧ ((X.bump 5).set (X.next + 2) (some [y])).sets k = M1 ∧ CeI K c b o' (items ++ [y]) (cs ++ [x]) M1 := by
  obtain ⟨o', k, p1, p2, p3, p4, p5⟩ := Zg1.Zas8 (P := ES.P) (te := ⟨.struct [(Zj, 0), (Zan, 1)], 4, 64, some (.agg [.nilsl, .bool false, .int .i64 0, .nilsl])⟩) (get := ((X.bump 5).set (X.next + 2) (some [y])).blk) (o := o) (x := .own (X.next + 2) 4 0 1) (M := X) (items := items) (ys := [y]) (X := (X.bump 5).set (X.next + 2) (some [y])) (a := X.next + 3) Zav Zde rfl (by decide) rfl rfl (h.ho.old hX hn) (by show (items.length + 1) * 64 ≤ 140737488355328; omega) (by show items.length + 1 ≤ 140737488355328; omega)
    (fun id hid => by
      have e : ¬ id = X.next + 2 := by omega
      simp [e]) (by simp [Zkn]) (by simp [Zj0]) (by simp [Sh.Zv5, hy]) (fun id hid => by
      have e : ¬ id = X.next + 2 := by omega
      simp [e]) (by show X.next + 3 < X.next + 5; omega) (by show X.next ≤ X.next + 5; omega) (by omega)
  have hlt := h.lt
  have p4' : ((((X.bump 5).set (X.next + 2) (some [y])).sets k)).next = X.next + 5 := by rw [p4]; rfl
  have ho := h.ho
  have own_lt : ∀ id e a b, o = .own id e a b → id < M.next := fun id e a b hh => by
    rcases ho with ⟨_, h2⟩ | ⟨q, h2, _, h4⟩
    · rw [h2] at hh; cases hh
    · rw [h2] at hh; cases hh; exact h4
  refine ⟨o', k, _, p1, rfl, (p3 b (by omega) h.ne).trans ((hX b hlt).trans h.hc), by omega, p2, fun e p q hh => ?_, by simp [h.ln], fun j z w hz hw => ?_⟩
  · rcases p5 b e p q hh with h1 | h1
    · omega
    · exact h.ne e p q (h1 ▸ hh)
  · by_cases hj : j < items.length
    · rw [List.getElem?_append_left hj] at hz
      rw [List.getElem?_append_left (by have := h.ln; omega)] at hw
      have hk := (h.at' j z w hz hw).keep (o' := o) (M' := X) (fun id hid _ => hX id hid) hn (fun id e a b hh => .inr rfl)
      exact hk.keep p3 (by omega) (fun id e a b hh => by
        rcases p5 id e a b hh with h1 | h1
        · exact .inl (by omega)
        · exact .inr h1)
    · have hj2 : j < (items ++ [y]).length := (List.getElem?_eq_some_iff.1 hz).1
      obtain rfl : j = items.length := by simp at hj2; omega
      rw [List.getElem?_append_right (Nat.le_refl _)] at hz
      rw [h.ln, List.getElem?_append_right (Nat.le_refl _)] at hw
      simp at hz hw
      rw [← hz, ← hw, h.ln]
      refine hxy _ o' (fun q h1 h2 => p3 q h2 (fun e a b hh => ?_)) (by omega) (fun id e a b hh => ?_)
      · have := own_lt q e a b hh; omega
      · rcases p5 id e a b hh with h1 | h1
        · exact .inl h1
        · exact .inr (own_lt id e a b (h1 ▸ hh))
theorem Zapy {c : Cfg} {ns : List SV} (h : ∀ y ∈ ns, ∃ nd, NdR y nd ∧ Zi6 c nd = true) : ∃ l, RSl NdR (.sl ns .ro) l ∧ (∀ nd ∈ l, Zi6 c nd = true) ∧ l.length = ns.length := by
  obtain ⟨l, hl⟩ := RSl.exists (R := fun y (nd : Node) => NdR y nd ∧ Zi6 c nd = true) (tl := .ro) (items := ns) h
  refine ⟨l, ⟨hl.sl, hl.len, fun j y a hy ha => (hl.at' j y a hy ha).1⟩, fun nd hnd => ?_, hl.len.symm⟩
  obtain ⟨j, hj, rfl⟩ := List.mem_iff_getElem.1 hnd
  obtain ⟨y, hy, hr⟩ := hl.get hj
  exact hr.2
theorem NdR.pv {y : SV} {n : Node} (h : NdR y n) : Sh.pv y = true := by
  obtain ⟨A, rfl, _, hA⟩ := h
  exact Zt3 hA
/-- What such a cell looks like from outside. -/
theorem Zzz.pic {c : Cfg} {M : Mem} {o y : SV} {x : Cel} {n : Int} (h : Zzz c M o y x n) : ∃ y', Sh.pic M.blk true 11 y = some y' ∧ ClR y' x ∧ Sh.pv y' = true := by
  obtain ⟨⟨q, ns, Ag, rfl, h1, h2, h3, h4, h5, h6⟩, _, _, _⟩ := h
  have hns : ∀ z ∈ ns, Sh.pv z = true := fun z hz => by
    obtain ⟨j, hj, rfl⟩ := List.mem_iff_getElem.1 hz
    have hlen : ns.length = x.nodes.length := h4.len
    exact (h4.at' j ns[j] x.nodes[j] (by show ns[j]? = _; simp [hj]) (by simp [show j < x.nodes.length by omega])).pv
  have hq : Sh.pic M.blk true 10 (.own q 8 0 ns.length) = some (.sl ns .ro) := by
    unfold Sh.pic
    simp only [Sh.pv, Bool.false_eq_true, if_false, h1, Nat.zero_add, if_pos (Nat.le_refl _), List.drop_zero, List.take_length]
    rw [Zmn fun x hx => Zd3 (Zac (hns x hx) _)]
    rfl
  have hN : Sh.pv (.sl ns .ro) = true := by simp [Sh.pv, Zkf.2 hns]
  have b1 : Sh.pic M.blk true 10 (.bool x.on) = some (.bool x.on) := Zd3 (Zac rfl _)
  have b2 : Sh.pic M.blk true 10 (.int .i64 x.start) = some (.int .i64 x.start) := Zd3 (Zac rfl _)
  have b3 : Sh.pic M.blk true 10 Ag = some Ag := Zd3 (Zac h6 _)
  refine ⟨.agg (clC x (.sl ns .ro) Ag), ?_, ⟨.sl ns .ro, Ag, rfl, h4, h5, hN, h6⟩, clPv hN h6⟩
  show Sh.pic M.blk true (10 + 1) _ = _
  unfold Sh.pic
  simp only [Sh.pv, pvs, Bool.false_and, Bool.false_eq_true, if_false]
  simp [hq, b1, b2, b3, clC]
theorem Z4k {c : Cfg} (h : Zsf c = true) : Zcq c = true := (Zec.1 h).1
theorem Zagp {c : Cfg} {b : Bool} {l : List Int} (h : Zqc c b l = true) : l.length ≤ c.parts.length := by
  unfold Zqc at h
  split at h
  · simp only [Bool.and_eq_true, decide_eq_true_eq] at h; omega
  · simp only [decide_eq_true_eq] at h; omega
theorem Zag3 {c : Cfg} {n : Node} (h : Zi6 c n = true) : n.ages.length ≤ c.parts.length := by
  unfold Zi6 at h
  simp only [Bool.and_eq_true] at h
  exact Zagp h.2
end Go.Proofs.YtfphjfbknphhjaaGreatDoor

/-
  Walks of the seat's functions: Qd.
-/
set_option linter.unusedVariables false
set_option linter.unusedSimpArgs false
set_option maxRecDepth 100000
namespace Go.Proofs.YtfphjfbknphhjaaGreatDoor
open Go.Proofs.YtfphjfbknphhjaaGreatDoor.Sh
/-! What an event does to right cells (plain). -/
theorem Zr9 (c : Cfg) (l : List Cel) (now : Int) (e : Evt) : (doL c l now e).length = l.length := by simp [doL]
theorem Zal7 {c : Cfg} {l : List Cel} {now : Int} {e : Evt} {p : Nat} (hp : p < l.length) : (doL c l now e)[p]? = some { l[p] with nodes := Zma c now e p l[p].nodes } := by
  simp [doL, hp]
theorem Zk1 (c : Cfg) (now : Int) (e : Evt) (p : Nat) (l : List Node) : (Zma c now e p l).length = l.length := by simp [Zma]
theorem Zzh {c : Cfg} {now : Int} {e : Evt} {p : Nat} {l : List Node} {k : Nat} (hk : k < l.length) : (Zma c now e p l)[k]? = some (if Zxl c e p k then Zjm c l[k] now e else l[k]) := by
  simp [Zma, hk]
theorem Zro {c : Cfg} {n : Node} : Zi6 c n = true ↔ (0 ≤ n.state ∧ n.state ≤ 2) ∧ (-c.drift ≤ n.drift ∧ n.drift ≤ c.drift) ∧ Zk8 n.start ∧ (0 ≤ n.wait ∧ n.wait ≤ 60000) ∧ (0 ≤ n.cycle ∧ n.cycle ≤ 1099511627776) ∧ (0 ≤ n.mask ∧ n.mask ≤ 4095) ∧ (0 ≤ n.Z ∧ n.Z ≤ 1099511627776) ∧ Zqc c (decide (n.state = 2)) n.ages = true := by
  simp only [Zi6, Bool.and_eq_true, decide_eq_true_eq, and_assoc]
theorem Zafg {c : Cfg} {b : Bool} (h : b = false) : Zqc c b [] = true := by subst h; rfl
theorem Zaj5 {c : Cfg} {n : Node} (h : Zi6 c n = true) : Zi6 c (Z2p n) = true := by
  obtain ⟨a1, a2, a3, a4, a5, a6, a7, a8⟩ := Zro.1 h
  refine Zro.2 ⟨?_, a2, ?_, ?_, ?_, ?_, a7, Zafg rfl⟩ <;> simp [Z2p, Zk8]
theorem Zakm {c : Cfg} {n : Node} (hc : 0 ≤ c.cycle ∧ c.cycle ≤ 1000000) {now : Int} (hn : 0 ≤ now ∧ now ≤ 1000) (h : Zi6 c n = true) : Zi6 c (onN c n now) = true := by
  obtain ⟨a1, a2, a3, a4, a5, a6, a7, a8⟩ := Zro.1 h
  unfold onN
  split
  case isFalse => exact h
  have h1 : 0 ≤ now * c.cycle := Int.mul_nonneg hn.1 hc.1
  have h2 : now * c.cycle ≤ 1000 * 1000000 := Int.mul_le_mul hn.2 hc.2 hc.1 (by decide)
  refine Zro.2 ⟨by simp, a2, ?_, by simp, by simp, by simp, a7, Zafg rfl⟩
  unfold Zk8
  dsimp only
  omega
theorem Z5p {c : Cfg} {n : Node} (hc : 0 ≤ c.cycle ∧ c.cycle ≤ 1000000) {now : Int} (hn : 0 ≤ now ∧ now ≤ 1000) {e : Evt} (he : e.kind = 1 → -c.drift ≤ e.v ∧ e.v ≤ c.drift) (h : Zi6 c n = true) : Zi6 c (Zjm c n now e) = true := by
  unfold Zjm
  split
  · rename_i h1
    obtain ⟨a1, a2, a3, a4, a5, a6, a7, a8⟩ := Zro.1 h
    exact Zro.2 ⟨a1, he h1, a3, a4, a5, a6, a7, a8⟩
  · split
    · exact Zakm hc hn h
    · exact Zaj5 h
theorem Zsx {c : Cfg} {k : Int} {x : Cel} : Zvc c k x = true ↔ (x.nodes.length : Int) = k ∧ (∀ n ∈ x.nodes, Zi6 c n = true) ∧ Zk8 x.start ∧ Zqc c x.on x.ages = true := by
  simp only [Zvc, Bool.and_eq_true, decide_eq_true_eq, Bool.not_eq_true', List.any_eq_false, Bool.not_eq_true', Bool.not_eq_false, and_assoc, Bool.not_eq_true]
theorem Zrc {c : Cfg} {l : List Cel} : Zjn c l = true ↔ l.length = c.parts.length ∧ ∀ (j : Nat) (hj : j < l.length) (hp : j < c.parts.length), Zvc c c.parts[j].nodes l[j] = true := by
  refine ⟨Z0v, fun ⟨h1, h2⟩ => ?_⟩
  simp only [Zjn, Bool.and_eq_true, decide_eq_true_eq, Option.isNone_iff_eq_none]
  refine ⟨h1, ?_⟩
  rw [List.find?_eq_none]
  intro j hj
  have hj' : j < l.length := by simpa using hj
  have := h2 j hj' (by omega)
  simp [Znq, hj', show j < c.parts.length by omega, this]
theorem Zabp {c : Cfg} {l : List Cel} {now : Int} {e : Evt} (h : Zxt c l now e = true) : Zsf c = true ∧ (0 ≤ now ∧ now ≤ 1000) ∧ Zjn c l = true ∧ (1 ≤ e.kind ∧ e.kind ≤ 7) ∧ (e.kind = 1 → -c.drift ≤ e.v ∧ e.v ≤ c.drift) := by
  simp only [Zxt, Znu, Bool.and_eq_true, decide_eq_true_eq, Bool.or_eq_true] at h
  obtain ⟨⟨⟨⟨h1, h2⟩, h3⟩, h4⟩, h5⟩ := h
  exact ⟨h1, h2, h3, h4, fun he => by rcases h5 with h5 | h5; exact absurd he h5; exact h5⟩
theorem Zann {c : Cfg} {l : List Cel} {now : Int} {e : Evt} (h : Zxt c l now e = true) : Zjn c (doL c l now e) = true := by
  obtain ⟨h1, h2, h3, h4, h5⟩ := Zabp h
  have hir := Zg7 (Zec.1 h1).2.1
  obtain ⟨k1, k2⟩ := Zrc.1 h3
  refine Zrc.2 ⟨by rw [Zr9, k1], fun j hj hp => ?_⟩
  rw [Zr9] at hj
  have e1 := Zal7 (c := c) (now := now) (e := e) hj
  rw [List.getElem?_eq_getElem (by rw [Zr9]; exact hj)] at e1
  rw [Option.some.inj e1]
  obtain ⟨f1, f2, f3, f4⟩ := Zsx.1 (k2 j hj hp)
  refine Zsx.2 ⟨by rw [Zk1]; exact f1, fun n hn => ?_, f3, f4⟩
  obtain ⟨k, hk, rfl⟩ := List.mem_iff_getElem.1 hn
  rw [Zk1] at hk
  have e2 := Zzh (c := c) (now := now) (e := e) (p := j) hk
  rw [List.getElem?_eq_getElem (by rw [Zk1]; exact hk)] at e2
  rw [Option.some.inj e2]
  have hn := f2 _ (List.getElem_mem hk)
  split
  · exact Z5p ⟨by have := hir.cy; omega, by have := hir.cy; omega⟩ h2 h5 hn
  · exact hn
theorem Zalg {c : Cfg} {l : List Cel} {now : Int} {e : Evt} (h1 : Zxt c l now e = true) (h2 : Ze8 c e = true) : doG c l now e = (doL c l now e, 0) := by simp [doG, h1, h2]
theorem Zafq {c : Cfg} {l : List Cel} {now : Int} {e : Evt} (h : (Zxt c l now e && Ze8 c e) = false) : doG c l now e = ([], 1) := by simp [doG, h]
theorem Z1k (c : Cfg) (l : List Cel) (now : Int) (e : Evt) : (doG c l now e = (doL c l now e, 0) ∧ Zxt c l now e = true ∧ Ze8 c e = true) ∨ doG c l now e = ([], 1) := by
  cases h : (Zxt c l now e && Ze8 c e) with
  | true =>
    simp only [Bool.and_eq_true] at h
    exact .inl ⟨Zalg h.1 h.2, h⟩
  | false => exact .inr (Zafq h)
/-- What an event means is there. -/
theorem Zaic {c : Cfg} (hr : Zcq c = true) {l : List Cel} (hl : Zjn c l = true) {e : Evt} (ht : Ze8 c e = true) {p k : Nat} (h : (p, k) ∈ Zcp c e) : ∃ hp : p < l.length, k < l[p].nodes.length := by
  obtain ⟨q1, q2⟩ := Zrc.1 hl
  suffices hh : p < c.parts.length ∧ (k : Int) < Zbx c p by
    have hpl : p < l.length := by omega
    have := (Zsx.1 (q2 p hpl hh.1)).1
    rw [Zk2 hh.1] at hh
    exact ⟨hpl, by omega⟩
  unfold Zcp at h
  unfold Ze8 at ht
  by_cases h1 : e.kind = 6 ∨ e.kind = 7
  · simp only [h1, if_true] at ht h
    simp only [Bool.and_eq_true, decide_eq_true_eq] at ht
    unfold Zam at ht
    have hj : e.a.toNat < c.links.length := by omega
    obtain ⟨i1, i2, i3, i4, i5, i6⟩ := Zwl hr hj
    rw [List.getElem?_eq_getElem hj] at h
    generalize c.links[e.a.toNat] = w at *
    have g1 : Zam (Zd5 w.pa0 w.pa1 e.b) (Zbx c w.a) := by unfold Zd5; split <;> assumption
    have g2 : Zam (Zd5 w.pb0 w.pb1 e.b) (Zbx c w.b) := by unfold Zd5; split <;> assumption
    unfold Zam at i1 i2 g1 g2
    simp only [List.mem_cons, Prod.mk.injEq, List.not_mem_nil, or_false] at h
    rcases h with ⟨rfl, rfl⟩ | ⟨rfl, rfl⟩
    · rw [show ((w.a.toNat : Nat) : Int) = w.a by omega]; omega
    · rw [show ((w.b.toNat : Nat) : Int) = w.b by omega]; omega
  · simp only [h1, if_false] at ht h
    simp only [Bool.and_eq_true, decide_eq_true_eq, Bool.or_eq_true] at ht
    unfold Zam at ht
    by_cases h2 : e.kind = 4 ∨ e.kind = 5
    · simp only [h2, if_true, List.mem_map, List.mem_range, Prod.mk.injEq] at h
      obtain ⟨i, h3, h4, h5⟩ := h
      have : ((p : Nat) : Int) = e.a := by omega
      rw [this]
      omega
    · simp only [h2, if_false, List.mem_singleton, Prod.mk.injEq] at h
      simp only [h2, false_or] at ht
      have : ((p : Nat) : Int) = e.a := by omega
      rw [this]
      omega
theorem Z8z {α : Type} (f : α → α) (l : List α) {i : Nat} (h : i < l.length) : l.modify i f = l.set i (f l[i]) := List.ext_getElem? fun j => by
  rw [List.getElem?_modify, List.getElem?_set]
  by_cases e : i = j
  · subst e
    simp [h]
  · simp [e]
theorem Zav9 {f : Node → Node} {l : List Cel} {p k : Nat} (hp : p < l.length) (hk : k < l[p].nodes.length) : upd f l (p, k) = l.set p { l[p] with nodes := l[p].nodes.set k (f (l[p].nodes[k])) } := by
  unfold upd
  rw [Z8z _ l hp, Z8z _ l[p].nodes hk]
theorem Zatp (f : Node → Node) (qs : List (Nat × Nat)) (l : List Cel) : (qs.foldl (upd f) l).length = l.length ∧ ∀ (p : Nat) (h : p < (qs.foldl (upd f) l).length) (h2 : p < l.length), (qs.foldl (upd f) l)[p].nodes.length = l[p].nodes.length := by
  induction qs generalizing l with
  | nil => exact ⟨rfl, fun _ _ _ => rfl⟩
  | cons q qs ih =>
    obtain ⟨i1, i2⟩ := ih (upd f l q)
    have e1 : (upd f l q).length = l.length := by simp [upd]
    refine ⟨by rw [List.foldl_cons, i1, e1], fun p h h2 => ?_⟩
    refine (i2 p (by simpa using h) (by omega)).trans ?_
    simp only [upd, List.getElem_modify]
    split <;> simp

end Go.Proofs.YtfphjfbknphhjaaGreatDoor
