/-
  Walks of the seat's functions: Pl.
-/
import Derived.Test.YtfphjfbknphhjaaGreatDoorEb2
import Derived.Test.YtfphjfbknphhjaaGreatDoorShMb
import Derived.Test.YtfphjfbknphhjaaGreatDoorLzMb
set_option linter.unusedVariables false
set_option linter.unusedSimpArgs false
set_option maxRecDepth 100000
namespace Go.Proofs.YtfphjfbknphhjaaGreatDoor
open Go.Proofs.YtfphjfbknphhjaaGreatDoor.Sh
/-! plan, up to its links. -/
def Zam (n many : Int) : Prop := 0 ≤ n ∧ n < many
instance (n m : Int) : Decidable (Zam n m) := inferInstanceAs (Decidable (_ ∧ _))
def Zgu (l : Link) (part node : Int) : Bool := decide (l.a = part ∧ (l.pa0 = node ∨ l.pa1 = node)) || decide (l.b = part ∧ (l.pb0 = node ∨ l.pb1 = node))
def Zn7 (ls : List Link) (part node : Int) : Bool := ls.any fun l => Zgu l part node
def Zbx (c : Cfg) (part : Int) : Int := (c.parts[part.toNat]?.map Part.nodes).getD 0
def Zfl (c : Cfg) (i : Nat) (part n : Int) : Bool := !decide (Zam n (Zbx c part)) || Zn7 (c.links.take i) part n
def endBad (c : Cfg) (i : Nat) (part p0 p1 : Int) : Bool := decide (p0 = p1) || Zfl c i part p0 || Zfl c i part p1
def Zix (c : Cfg) (l : Link) : Bool := !decide (Zam l.a c.parts.length) || !decide (Zam l.b c.parts.length) || decide (l.b ≤ l.a)
def twice (ls : List Link) (l : Link) : Bool := ls.any fun x => decide (x.a = l.a ∧ x.b = l.b)
/-- What is wrong with a link; 0: nothing. -/
def Zbs (c : Cfg) (i : Nat) (l : Link) : Int :=
  if Zix c l then 10 else if twice (c.links.take i) l then 11 else if endBad c i l.a l.pa0 l.pa1 || endBad c i l.b l.pb0 l.pb1 then 12 else 0
def Znt (p : Part) : Bool := decide (p.nodes < 1 ∨ 12 < p.nodes ∨ p.faults < 0 ∨ 3 < p.faults ∨ p.nodes < 3 * p.faults + 1)
/-- What is wrong first with parts, or with links; and of which. -/
def Zfu (c : Cfg) : Option (Int × Int) :=
  if c.parts.length < 1 ∨ 6 < c.parts.length then some (7, 0)
  else match (List.range c.parts.length).find? (fun j => (c.parts[j]?.map Znt).getD false) with
    | some i => some (8, (i : Int))
    | none => none
def Zhf (c : Cfg) : Option (Int × Int) :=
  if 10 < c.links.length then some (9, 0)
  else match (List.range c.links.length).find? (fun j => (c.links[j]?.map fun l => Zbs c j l != 0).getD false) with
    | some i => some ((c.links[i]?.map fun l => Zbs c i l).getD 0, (i : Int))
    | none => none
/-- An error of plan's make. -/
def Zxy (e at' : Int) : SV := .iface Zcz (.rptr [.agg [.int .i64 at', .iface Zd6 (.int .i64 e)]] 0 0 true)
def Z1x : Option (Int × Int) → SV
  | some (e, i) => Zxy e i
  | none => .nili
theorem Zaej (o : Option (Int × Int)) : pv (Z1x o) = true := by cases o <;> rfl
@[simp] theorem Zarc (get) (n m : Int) : Za0 (PCw ES) get Zhc [.int .i64 n, .int .i64 m] = some (.bool (decide (Zam n m))) := by
  refine Z4 (Za4 (fun M => ?_) rfl) rfl
  rw [Zaa9]
  by_cases h : 0 ≤ n <;> simp [Ztb, Zf, Zd, Ze, Zl, Zn, Zo, TK.agg, Zb, zeroS, Zi, Zg, splice, Zx, Z5, Zk, Zam, h]
theorem Z7h (e i : Int) : PCw ES Zc2 [.int .i64 e, .int .i64 i] = some (Zxy e i) := by
  have h : ICw ES Zc2 [.int .i64 e, .int .i64 i] .empty = some (.iface Zcz (.ptr 4 0 0), (Mem.bump .empty 7).set 4 (some [.agg [.int .i64 i, .iface Zd6 (.int .i64 e)]])) := by
    rw [Z9m]
    simp [Zs9, Zf, Zd, Ze, Zl, Zn, Zo, TK.agg, Zb, zeroS, Zi, Zg, splice, Zx, Z5, Zk, Zsh, Zny, placesOf, Zeb]
  exact Zr8 h (by rfl) rfl
@[simp] theorem Zaqx (get) (e i : Int) : Za0 (PCw ES) get Zc2 [.int .i64 e, .int .i64 i] = some (Zxy e i) := Z4 (Z7h e i) rfl
/-- A side of a link: its part, its ports. -/
def endOf (l : Link) (side : Int) : Int × Int × Int := if side = 0 then (l.a, l.pa0, l.pa1) else (l.b, l.pb0, l.pb1)
theorem Zac0 (l : Link) (s : Int) : PCw ES Zii [Za2 l, .int .i64 s] = some (.tup [.int .i64 (endOf l s).1, .agg [.int .i64 (endOf l s).2.1, .int .i64 (endOf l s).2.2]]) := by
  refine Za4 (fun M => ?_) rfl
  rw [Zah0]
  by_cases h : s = 0 <;> simp [Zwj, Zf, Zd, Ze, Zl, Zn, Zo, TK.agg, Zb, zeroS, Zi, Zg, splice, Zx, Z5, Zk, endOf, h]
theorem Ztq (get) (l : Link) (s : Int) : Za0 (PCw ES) get Zii [Za2 l, .int .i64 s] = some (.tup [.int .i64 (endOf l s).1, .agg [.int .i64 (endOf l s).2.1, .int .i64 (endOf l s).2.2]]) :=
  Z4 (Zac0 l s) (by simp [Zri])
theorem Zyz (l : Link) (part node : Int) (s1 s2 : Bool) : PCw ES Zdg [Za2 l, .rptr [.int .i64 part] 0 0 s1, .rptr [.int .i64 node] 0 0 s2] = some (.bool (Zgu l part node)) := by
  refine Za4 (fun M => ?_) rfl
  rw [Z13]
  have hl := fun p M0 hI => Zdc (E := ES) (me := Zdg) (B := Ze4) (len := 2) (T := fun j => Zdf (.rptr [.int .i64 part] 0 0 s1) (.rptr [.int .i64 node] 0 0 s2) (.ptr p 0 0) (.int .i64 j))
    (I := fun _ M => M.blk p = some [Za2 l] ∧ p < M.next) (p := fun j => decide ((endOf l j).1 = part ∧ ((endOf l j).2.1 = node ∨ (endOf l j).2.2 = node)))
    (Q := fun o r => ∃ M', r = match o with
      | some j => (.ret, ⟨(Zdf .Z .Z .Z .Z).set 4 (.bool true), M'⟩)
      | none => (.exit 0, ⟨(Zdf (.rptr [.int .i64 part] 0 0 s1) (.rptr [.int .i64 node] 0 0 s2) (.ptr p 0 0) (.int .i64 2)).set 9 (.bool false), M'⟩))
    (fun j M hj ⟨hb, hlt⟩ hpj => by
      have hw : IntKind.i64.wrap ((j : Int) + 1) = (j : Int) + 1 := i64_in (by omega) (by omega)
      have hne : ∀ k, (p = M.next + k) = False := fun k => by simp; omega
      have hj' : (j : Int) < 2 := by omega
      have hc := fun get => Ztq get l j
      generalize endOf l j = e at hpj hc
      obtain ⟨e1, e2, e3⟩ := e
      simp at hpj
      by_cases h1 : e1 = part
      · obtain ⟨h2, h3⟩ := hpj h1
        simp [Ze4, Zf, Zd, Ze, Zl, Zn, Zo, TK.agg, Zb, zeroS, Zi, Zg, splice, Zx, Z5, Zk, Zdf, hj, hj', hb, hc, hw, hne, h1, h2, h3]
        omega
      · simp [Ze4, Zf, Zd, Ze, Zl, Zn, Zo, TK.agg, Zb, zeroS, Zi, Zg, splice, Zx, Z5, Zk, Zdf, hj, hj', hb, hc, hw, hne, h1]
        omega)
    (fun j M hj ⟨hb, hlt⟩ hpj => by
      have hne : ∀ k, (p = M.next + k) = False := fun k => by simp; omega
      have hj' : (j : Int) < 2 := by omega
      have hc := fun get => Ztq get l j
      generalize endOf l j = e at hpj hc
      obtain ⟨e1, e2, e3⟩ := e
      simp at hpj
      obtain ⟨h1, h2⟩ := hpj
      by_cases h3 : e2 = node
      · simp [Ze4, Zf, Zd, Ze, Zl, Zn, Zo, TK.agg, Zb, zeroS, Zi, Zg, splice, Zx, Z5, Zk, Zdf, hj, hj', hb, hc, hne, h1, h3]
      · have h4 : e3 = node := by rcases h2 with h | h <;> first | exact absurd h h3 | exact h
        simp [Ze4, Zf, Zd, Ze, Zl, Zn, Zo, TK.agg, Zb, zeroS, Zi, Zg, splice, Zx, Z5, Zk, Zdf, hj, hj', hb, hc, hne, h1, h3, h4])
    (fun M _ => by simp [Ze4, Zf, Zd, Ze, Zl, Zn, Zo, TK.agg, Zb, zeroS, Zi, Zg, splice, Zx, Z5, Zk, Zdf]) M0 hI
  obtain ⟨r, h1, M', h2⟩ := hl M.next ((M.bump 2).set M.next (some [Za2 l])) (by simp)
  have e : Zgu l part node = ((List.range 2).find? (fun j : Nat => decide ((endOf l j).1 = part ∧ ((endOf l j).2.1 = node ∨ (endOf l j).2.2 = node)))).isSome := by
    simp [Zgu, endOf, List.range, List.range.loop, List.find?]
    split <;> simp_all
    split <;> simp_all
  rw [e]
  cases hf : (List.range 2).find? (fun j : Nat => decide ((endOf l j).1 = part ∧ ((endOf l j).2.1 = node ∨ (endOf l j).2.2 = node))) with
  | none =>
    rw [hf] at h2
    subst h2
    simp [Zdf] at h1
    simp [Zn5, Zf, Zd, Ze, Zl, Zn, Zo, TK.agg, Zb, zeroS, Zi, Zg, splice, Zx, Z5, Zk, Znl, h1]
  | some j =>
    rw [hf] at h2
    subst h2
    simp [Zdf] at h1
    simp [Zn5, Zf, Zd, Ze, Zl, Zn, Zo, TK.agg, Zb, zeroS, Zi, Zg, splice, Zx, Z5, Zk, Znl, h1]
theorem Z7q {x : SV} {ls : List Link} (hx : Links x ls) (hb : ls.length < 4611686018427387904) (part node : Int) : PCw ES Zha [x, .int .i64 part, .int .i64 node] = some (.bool (Zn7 ls part node)) := by
  refine Za4 (fun M => ?_) rfl
  rw [Z98]
  have hc : ∀ (get : Nat → Option (List SV)) a b, get a = some [.int .i64 part] → get b = some [.int .i64 node] →
      Za0 (PCw ES) get Z8 [x, .fn Zdg [] [.ptr a 0 0, .ptr b 0 0]] = some (.bool (Zn7 ls part node)) := by
    intro get a b ha hb'
    have p1 : pic get false 11 (.ptr a 0 0) = some (.rptr [.int .i64 part] 0 0 false) := Zwo ha (by simp; rfl)
    have p2 : pic get false 11 (.ptr b 0 0) = some (.rptr [.int .i64 node] 0 0 false) := Zwo hb' (by simp; rfl)
    rw [Zm7 (ys := [x, .fn Zdg [] [.rptr [.int .i64 part] 0 0 false, .rptr [.int .i64 node] 0 0 false]])]
    · exact Zek Z50 Zlw hx hb (npF (by rfl)) (fun l => Zgu l part node) (fun get y v hy _ => by
        subst hy
        exact Z4 (Zyz v part node false false) (by simp [Zri])) rfl
    · have q : pic get false Zar (.fn Zdg [] [.ptr a 0 0, .ptr b 0 0]) = some (.fn Zdg [] [.rptr [.int .i64 part] 0 0 false, .rptr [.int .i64 node] 0 0 false]) := Zafv (by simp [p1, p2]) rfl
      simp [Zd3 hx.Z2q, q]
  simp [Zs0, Zf, Zd, Ze, Zl, Zn, Zo, TK.agg, Zb, zeroS, Zi, Zg, splice, Zx, Z5, Zk, hc]
theorem Zaai (get) {x : SV} {ls : List Link} (hx : Links x ls) (hb : ls.length < 4611686018427387904) (part node : Int) : Za0 (PCw ES) get Zha [x, .int .i64 part, .int .i64 node] = some (.bool (Zn7 ls part node)) :=
  Z4 (Z7q hx hb part node) (by simp [hx.Z2q])
theorem Zzn (x l : Link) (s : Bool) : PCw ES Zeg [Za2 x, .rptr [Za2 l] 0 0 s] = some (.bool (decide (x.a = l.a ∧ x.b = l.b))) := by
  refine Za4 (fun M => ?_) rfl
  rw [Z3m]
  by_cases h : x.a = l.a <;> simp [Zq2, Zf, Zd, Ze, Zl, Zn, Zo, TK.agg, Zb, zeroS, Zi, Zg, splice, Zx, Z5, Zk, h]

end Go.Proofs.YtfphjfbknphhjaaGreatDoor

/-
  Walks of the seat's functions: Pm.
-/
set_option linter.unusedVariables false
set_option linter.unusedSimpArgs false
set_option maxRecDepth 100000
namespace Go.Proofs.YtfphjfbknphhjaaGreatDoor
open Go.Proofs.YtfphjfbknphhjaaGreatDoor.Sh
/-! plan.ports, plan.parts, plan.links. -/
theorem Parts.atI {x : SV} {l : List Part} (h : Parts x l) {i : Int} (h0 : 0 ≤ i) (hj : i.toNat < l.length) : Z9 ES.P Zm x (.int .i64 i) = some (.rptr (l.map Zc9) i.toNat 0 (Zwi x)) := by
  have := h.at hj
  rwa [Int.toNat_of_nonneg h0] at this
theorem Links.atI {x : SV} {l : List Link} (h : Links x l) {i : Int} (h0 : 0 ≤ i) (hj : i.toNat < l.length) : Z9 ES.P Zr x (.int .i64 i) = some (.rptr (l.map Za2) i.toNat 0 (Zwi x)) := by
  have := h.at hj
  rwa [Int.toNat_of_nonneg h0] at this
theorem Zwc {c : Cfg} {l : Link} (h : Zix c l = false) : Zam l.a c.parts.length ∧ Zam l.b c.parts.length ∧ l.a < l.b := by
  unfold Zix at h
  simp at h
  exact ⟨h.1.1, h.1.2, h.2⟩
theorem Z34 {c : Cfg} {part : Int} (hp : part.toNat < c.parts.length) : Zbx c part = c.parts[part.toNat].nodes := by simp [Zbx, hp]
set_option maxHeartbeats 4000000 in
theorem Zaqr {c : Cfg} {P L : SV} (hc : Zi2 c P L) {i : Nat} (hi : i < c.links.length) {part : Int} (hp0 : 0 ≤ part) (hp : part.toNat < c.parts.length) (p0 p1 jj : Int) {p : Nat} (M : Mem) (hb : M.blk p = some [.agg (Z7 c P L)]) :
    ∃ M', M'.blk p = some [.agg (Z7 c P L)] ∧ M.next ≤ M'.next ∧ evW ES Zdo Zp5 ⟨Zdt (.int .i64 i) (.ptr p 0 0) (.int .i64 part) (.int .i64 jj) (.agg [.int .i64 p0, .int .i64 p1]) (.int .i64 0), M⟩ =
      some (if Zfl c i part p0 || Zfl c i part p1 then (.ret, ⟨(Zdt .Z .Z .Z .Z .Z .Z).set 4 (.bool false), M'⟩)
        else (.exit 2, ⟨(Zdt (.int .i64 i) (.ptr p 0 0) (.int .i64 part) (.int .i64 jj) (.agg [.int .i64 p0, .int .i64 p1]) (.int .i64 2)).set 30 (.bool false), M'⟩)) := by
  obtain ⟨y, hs, hy⟩ := RSl.pre hc.l Zbi Zlw Z50 (n := i) (by omega)
  have hix := hc.p.atI hp0 hp
  have hn := Z34 hp
  have htk := fun get node => Zaai get hy (by have := hc.ll; simp; omega) part node
  have step : ∀ (k : Nat) (n : Int), k < 2 → (SV.agg [.int .i64 p0, .int .i64 p1], k, n) ∈ [(SV.agg [.int .i64 p0, .int .i64 p1], 0, p0), (SV.agg [.int .i64 p0, .int .i64 p1], 1, p1)] →
      evW ES Zdo Zik ⟨Zdt (.int .i64 i) (.ptr p 0 0) (.int .i64 part) (.int .i64 jj) (.agg [.int .i64 p0, .int .i64 p1]) (.int .i64 k), M⟩ =
        some (if Zfl c i part n then (.ret, ⟨(Zdt .Z .Z .Z .Z .Z .Z).set 4 (.bool false), M⟩)
          else (.normal, ⟨Zdt (.int .i64 i) (.ptr p 0 0) (.int .i64 part) (.int .i64 jj) (.agg [.int .i64 p0, .int .i64 p1]) (.int .i64 (k + 1)), M⟩)) := by
    intro k n hk hm
    have hk' : (k : Int) < 2 := by omega
    have hw : IntKind.i64.wrap ((k : Int) + 1) = (k : Int) + 1 := i64_in (by omega) (by omega)
    have hel : Zt5 ES.P Zaq (.agg [.int .i64 p0, .int .i64 p1]) (.int .i64 k) = some (.int .i64 n) := by
      simp at hm
      rcases hm with ⟨rfl, rfl⟩ | ⟨rfl, rfl⟩
      · exact ix2_0 _ _
      · exact ix2_1 _ _
    cases h1 : decide (Zam n c.parts[part.toNat].nodes) with
    | false =>
      have hbad : Zfl c i part n = true := by simp [Zfl, hn, h1]
      simp [Zik, Zf, Zd, Ze, Zl, Zn, Zo, TK.agg, Zb, zeroS, Zi, Zg, splice, Zx, Z5, Zk, Zdt, hk, hk', hel, hb, Z7, hix, hp, h1, hbad]
    | true =>
      have hbad : Zfl c i part n = Zn7 (c.links.take i) part n := by simp [Zfl, hn, h1]
      cases h2 : Zn7 (c.links.take i) part n
      · simp [Zik, Zf, Zd, Ze, Zl, Zn, Zo, TK.agg, Zb, zeroS, Zi, Zg, splice, Zx, Z5, Zk, Zdt, hk, hk', hel, hb, Z7, hix, hp, h1, hbad, hs, htk, h2, hw]
      · simp [Zik, Zf, Zd, Ze, Zl, Zn, Zo, TK.agg, Zb, zeroS, Zi, Zg, splice, Zx, Z5, Zk, Zdt, hk, hk', hel, hb, Z7, hix, hp, h1, hbad, hs, htk, h2, hw]
  refine ⟨M, hb, Nat.le_refl _, ?_⟩
  have s0 := step 0 p0 (by omega) (by simp)
  have s1 := step 1 p1 (by omega) (by simp)
  unfold Zp5
  rw [Zbl, show ((0 : Int)) = ((0 : Nat) : Int) from rfl, s0]
  cases h0 : Zfl c i part p0
  · simp only [Bool.false_eq_true, if_false, Bool.false_or]
    rw [Zbl, show (((0 : Nat) : Int) + 1) = ((1 : Nat) : Int) from rfl, s1]
    cases h1 : Zfl c i part p1
    · simp only [Bool.false_eq_true, if_false]
      rw [Zbl]
      simp [Zik, Zf, Zd, Ze, Zl, Zn, Zo, TK.agg, Zb, zeroS, Zi, Zg, splice, Zx, Z5, Zk, Zdt]
    · simp only [if_true]
  · simp
set_option maxHeartbeats 4000000 in
theorem Z79 {y : SV} {c : Cfg} (hc : CfgR y c) {i : Nat} (hi : i < c.links.length) (hv : Zix c c.links[i] = false) :
    PCw ES Zdo [y, .int .i64 i] = some (.bool (!(endBad c i c.links[i].a c.links[i].pa0 c.links[i].pa1 || endBad c i c.links[i].b c.links[i].pb0 c.links[i].pb1))) := by
  obtain ⟨P, L, rfl, hP⟩ := hc
  refine Za4 (fun M0 => ?_) rfl
  rw [Zaaa]
  have hall : ∀ s : Nat, s < 2 → 0 ≤ (endOf c.links[i] s).1 ∧ (endOf c.links[i] s).1.toNat < c.parts.length := by
    intro s hs
    obtain ⟨v1, v2, v3⟩ := Zwc hv
    unfold Zam at v1 v2
    unfold endOf
    split <;> simp only <;> omega
  have hlx := Links.at hP.l hi
  have step : ∀ (s : Nat) (p : Nat) (M : Mem), s < 2 → M.blk p = some [.agg (Z7 c P L)] → p < M.next → ∃ M', M'.blk p = some [.agg (Z7 c P L)] ∧ p < M'.next ∧
      evW ES Zdo Zkl ⟨Zeh (.int .i64 i) (.ptr p 0 0) (.int .i64 s), M⟩ =
        some (if endBad c i (endOf c.links[i] s).1 (endOf c.links[i] s).2.1 (endOf c.links[i] s).2.2 then (.ret, ⟨(Zeh .Z .Z .Z).set 4 (.bool false), M'⟩)
          else (.normal, ⟨Zeh (.int .i64 i) (.ptr p 0 0) (.int .i64 (s + 1)), M'⟩)) := by
    intro s p M hs hb hlt
    have hs' : (s : Int) < 2 := by omega
    have hw : IntKind.i64.wrap ((s : Int) + 1) = (s : Int) + 1 := i64_in (by omega) (by omega)
    have hne : ∀ k, (p = M.next + k) = False := fun k => by simp; omega
    have hend := fun get => Ztq get c.links[i] s
    obtain ⟨q0, q1⟩ := hall s hs
    generalize endOf c.links[i] s = e at hend q0 q1
    obtain ⟨part, p0, p1⟩ := e
    simp only at hend q0 q1 ⊢
    have hb0 := hb
    simp only [Z7] at hb0
    by_cases h1 : p0 = p1
    · have hbad : endBad c i part p0 p1 = true := by simp [endBad, h1]
      rw [hbad]
      simp [Zkl, Zf, Zd, Ze, Zl, Zn, Zo, TK.agg, Zb, zeroS, Zi, Zg, splice, Zx, Z5, Zk, Zeh, hs, hs', hb0, hlx, hi, hend, hne, h1]
      exact ⟨rfl, by omega⟩
    · have hbad : endBad c i part p0 p1 = (Zfl c i part p0 || Zfl c i part p1) := by simp [endBad, h1]
      have hin := fun M1 hb1 => Zaqr hP hi q0 q1 p0 p1 s (p := p) M1 hb1
      obtain ⟨M', g1, g2, g3⟩ := hin (((M.bump 13).set (M.next + 10) (some [.agg [.int .i64 0, .int .i64 0]])).set (M.next + 10) (some [.agg [.int .i64 p0, .int .i64 p1]])) (by simp [hne]; exact hb)
      rw [hbad]
      refine ⟨M', g1, by simp at g2; omega, ?_⟩
      cases hA : Zfl c i part p0 <;> cases hB : Zfl c i part p1 <;> simp [Zdt, hA, hB] at g3 <;> simp [Zkl, Zf, Zd, Ze, Zl, Zn, Zo, TK.agg, Zb, zeroS, Zi, Zg, splice, Zx, Z5, Zk, Zeh, hs, hs', hb0, hlx, hi, hend, hne, h1, g3, hw]
  obtain ⟨M1, a1, a2, a3⟩ := step 0 M0.next ((M0.bump 2).set M0.next (some [.agg (Z7 c P L)])) (by omega) (by simp) (by simp)
  obtain ⟨M2, b1, b2, b3⟩ := step 1 M0.next M1 (by omega) a1 a2
  have e0 : endOf c.links[i] ((0 : Nat) : Int) = (c.links[i].a, c.links[i].pa0, c.links[i].pa1) := rfl
  have e1 : endOf c.links[i] ((1 : Nat) : Int) = (c.links[i].b, c.links[i].pb0, c.links[i].pb1) := rfl
  rw [e0] at a3
  rw [e1] at b3
  have fin : ∃ M', evW ES Zdo Zpt ⟨Zeh (.int .i64 i) (.ptr M0.next 0 0) (.int .i64 0), (M0.bump 2).set M0.next (some [.agg (Z7 c P L)])⟩ =
      some (if endBad c i c.links[i].a c.links[i].pa0 c.links[i].pa1 || endBad c i c.links[i].b c.links[i].pb0 c.links[i].pb1 then (.ret, ⟨(Zeh .Z .Z .Z).set 4 (.bool false), M'⟩)
        else (.exit 0, ⟨(Zeh (.int .i64 i) (.ptr M0.next 0 0) (.int .i64 2)).set 11 (.bool false), M'⟩)) := by
    unfold Zpt
    rw [Zbl, show ((0 : Int)) = ((0 : Nat) : Int) from rfl, a3]
    cases hA : endBad c i c.links[i].a c.links[i].pa0 c.links[i].pa1
    · simp only [Bool.false_eq_true, if_false, Bool.false_or]
      rw [Zbl, show (((0 : Nat) : Int) + 1) = ((1 : Nat) : Int) from rfl, b3]
      cases hB : endBad c i c.links[i].b c.links[i].pb0 c.links[i].pb1
      · simp only [Bool.false_eq_true, if_false]
        rw [Zbl]
        simp [Zkl, Zf, Zd, Ze, Zl, Zn, Zo, TK.agg, Zb, zeroS, Zi, Zg, splice, Zx, Z5, Zk, Zeh]
      · simp
    · simp
  obtain ⟨M', hM'⟩ := fin
  cases hA : endBad c i c.links[i].a c.links[i].pa0 c.links[i].pa1 <;> cases hB : endBad c i c.links[i].b c.links[i].pb0 c.links[i].pb1 <;> simp [Zeh, hA, hB, Z7] at hM' <;> simp [Zsq, Zf, Zd, Ze, Zl, Zn, Zo, TK.agg, Zb, zeroS, Zi, Zg, splice, Zx, Z5, Zk, Z7, hM']
theorem Z8v (get) {y : SV} {c : Cfg} (hc : CfgR y c) {i : Nat} (hi : i < c.links.length) (hv : Zix c c.links[i] = false) :
    Za0 (PCw ES) get Zdo [y, .int .i64 i] = some (.bool (!(endBad c i c.links[i].a c.links[i].pa0 c.links[i].pa1 || endBad c i c.links[i].b c.links[i].pb0 c.links[i].pb1))) :=
  Z4 (Z79 hc hi hv) (by simp [hc.Z2q])

end Go.Proofs.YtfphjfbknphhjaaGreatDoor
