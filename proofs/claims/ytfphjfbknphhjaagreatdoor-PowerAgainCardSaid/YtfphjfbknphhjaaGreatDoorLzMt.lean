/-
  Walks of the seat's functions: Ta.
-/
import Derived.Test.YtfphjfbknphhjaaGreatDoorEb2
import Derived.Test.YtfphjfbknphhjaaGreatDoorShMb
import Derived.Test.YtfphjfbknphhjaaGreatDoorLzMi
import Derived.Test.YtfphjfbknphhjaaGreatDoorLzMl
import Derived.Test.YtfphjfbknphhjaaGreatDoorLBh
import Derived.Test.YtfphjfbknphhjaaGreatDoorLzMn
set_option linter.unusedVariables false
set_option linter.unusedSimpArgs false
set_option maxRecDepth 100000
namespace Go.Proofs.YtfphjfbknphhjaaGreatDoor
open Go.Proofs.YtfphjfbknphhjaaGreatDoor.Sh
/-! A part's schedule: plain. -/
structure Slot where
  kind : Int
  node : Int
  tick : Int
  deriving DecidableEq
def Z6q (s : Slot) : SV := .agg [.int .i64 s.kind, .int .i64 s.node, .int .i64 s.tick]
def Slots (x : SV) (l : List Slot) : Prop := RSl (fun y a => y = Z6q a) x l
def Zgi (l : List Slot) : List SV := l.map Z6q
theorem Z5o (a b : List Slot) : Zgi (a ++ b) = Zgi a ++ Zgi b := by simp [Zgi]
theorem Zahy (s : Slot) (n : Nat) : np n (Z6q s) = true := Zac rfl _
theorem Slots.np {x : SV} {l : List Slot} (h : Slots x l) : Sh.np 10 x = true := RSl.np h (n := 9) fun y a h => by rw [h]; exact Zahy a 9
theorem Slots.Z2q {x : SV} {l : List Slot} (h : Slots x l) : Sh.np Zar x = true := Zwn (by decide) h.np
/-- Slots, one behind the other. -/
def stamp (lead step : Int) (l : List (Int × Int)) : List Slot := l.mapIdx fun i k => ⟨k.1, k.2, lead + i * step⟩
@[simp] theorem Zawi (lead step : Int) (l : List (Int × Int)) : (stamp lead step l).length = l.length := by simp [stamp]
theorem Zaig (lead step : Int) (l : List (Int × Int)) (k : Int × Int) : stamp lead step (l ++ [k]) = stamp lead step l ++ [⟨k.1, k.2, lead + l.length * step⟩] := by simp [stamp, List.mapIdx_append]
def gates (ps : List Port) : List (Int × Int) := ps.flatMap fun p => [(3, p.node), (4, p.node)]
def Zyc (n : Nat) : List (Int × Int) := (List.range n).map fun (i : Nat) => (2, (i : Int))
def Z3e (ps : List Port) : List (Int × Int) := ps.map fun p => (5, p.node)
def Zaa7 (ps : List Port) (n : Nat) : List (Int × Int) := gates ps ++ Zyc n ++ Z3e ps
theorem Zah6 (ps : List Port) (p : Port) : gates (ps ++ [p]) = gates ps ++ [(3, p.node)] ++ [(4, p.node)] := by simp [gates]
theorem Zajh {ps : List Port} {j : Nat} (h : j < ps.length) : gates (ps.take (j + 1)) = gates (ps.take j) ++ [(3, ps[j].node)] ++ [(4, ps[j].node)] := by
  rw [List.take_succ_eq_append_getElem h, Zah6]
theorem Zah8 (n : Nat) : Zyc (n + 1) = Zyc n ++ [(2, (n : Int))] := by simp [Zyc, List.range_succ]
theorem Zahq {ps : List Port} {j : Nat} (h : j < ps.length) : Z3e (ps.take (j + 1)) = Z3e (ps.take j) ++ [(5, ps[j].node)] := by
  unfold Z3e
  rw [List.take_succ_eq_append_getElem h, List.map_append]
  rfl
theorem Z0q (ps : List Port) : (gates ps).length = 2 * ps.length := by
  induction ps with
  | nil => rfl
  | cons p r ih => simp only [gates, List.flatMap_cons, List.length_append] at ih ⊢; simp [ih]; omega
theorem Z9v (n : Nat) : (Zyc n).length = n := by simp [Zyc]
theorem Zamy (ps : List Port) : (Z3e ps).length = ps.length := by simp [Z3e]
def Zavi (c : Cfg) (part : Int) : List (Int × Int) := Zaa7 (Zvh c.links part (Zbx c part)) (Zbx c part).toNat
def Zaws (c : Cfg) (part : Int) : List Slot := stamp c.lead c.slot (Zavi c part)
def Zaee (c : Cfg) (part : Int) : Bool := Zsf c && decide (Zam part c.parts.length)
theorem Zaez {c : Cfg} {part : Int} (h : Zaee c part = true) : Zcq c = true ∧ Zgz c ∧ Zam part c.parts.length ∧ Zng c = 0 := by
  simp only [Zaee, Bool.and_eq_true, decide_eq_true_eq] at h
  obtain ⟨h1, h2, h3⟩ := Zec.1 h.1
  exact ⟨h1, Zg7 h2, h.2, h3⟩
structure TabOk (c : Cfg) : Prop where
  wi : 3 ≤ c.window ∧ c.window ≤ 20000
  sl : 2 * c.window + 1 ≤ c.slot ∧ c.slot ≤ 1000000
  le : c.window ≤ c.lead ∧ c.lead ≤ 1000000
  en : ∀ i : Nat, i < c.parts.length → Z5i c i ≤ c.cycle
theorem tabOk {c : Cfg} (h1 : Zgz c) (h2 : Zng c = 0) : TabOk c := by
  have he := h1.nums.e
  have hw : Zfe c = 0 := by
    unfold Zng at h2
    apply Classical.byContradiction
    intro h
    rw [if_pos h] at h2
    exact h h2
  unfold Zfe at hw
  split at hw
  · omega
  split at hw
  · omega
  split at hw
  · omega
  split at hw
  · omega
  rename_i a1 a2 a3 a4
  refine ⟨by omega, by omega, by omega, fun i hi => ?_⟩
  have h5 : Zku c = false := by simpa using a4
  unfold Zku at h5
  rw [List.any_eq_false] at h5
  have := h5 i (List.mem_range.2 hi)
  unfold Zlr at this
  simp only [decide_eq_true_eq] at this
  omega
theorem Zahb (ls : List Link) (part nodes : Int) : (Zvh ls part nodes).length ≤ nodes.toNat := by
  have := List.length_filterMap_le (fun i : Nat => Zkz ls part (i : Int)) (List.range nodes.toNat)
  simpa [Zvh] using this
end Go.Proofs.YtfphjfbknphhjaaGreatDoor

/-
  Walks of the seat's functions: Od.
-/
set_option linter.unusedVariables false
set_option linter.unusedSimpArgs false
set_option maxRecDepth 100000
namespace Go.Proofs.YtfphjfbknphhjaaGreatDoor
open Go.Proofs.YtfphjfbknphhjaaGreatDoor.Sh
/-! Other sides of ports: port.Fars, the document's Fars, SameFars. -/
theorem FrR.pv {y : SV} {f : FarV} (h : FrR y f) : Sh.pv y = true := by
  obtain ⟨A, rfl, _, hA⟩ := h
  simp [Sh.pv, pvs, hA]
end Go.Proofs.YtfphjfbknphhjaaGreatDoor

/-
  Walks of the seat's functions: Of.
-/
set_option linter.unusedVariables false
set_option linter.unusedSimpArgs false
set_option maxRecDepth 100000
namespace Go.Proofs.YtfphjfbknphhjaaGreatDoor
open Go.Proofs.YtfphjfbknphhjaaGreatDoor.Sh
/-! Small cells. -/
def Z07 (n : Node) : Bool := decide (20 < n.ages.length)
def bigC (x : Cel) : Bool := decide (20 < x.nodes.length) || decide (20 < x.ages.length) || x.nodes.any Z07
def Z1n (l : List Cel) : Bool := decide (l.length ≤ 20) && !(l.any bigC)
theorem Zoz {α : Type} (l : List α) (p : α → Bool) : (List.range l.length).find? (fun j => (l[j]?.map p).getD false) = none ↔ l.any p = false := by
  rw [List.find?_eq_none, List.any_eq_false]
  constructor
  · intro h x hx
    obtain ⟨j, hj, rfl⟩ := List.mem_iff_getElem.1 hx
    have := h j (by simp [hj])
    simpa [hj] using this
  · intro h j hj
    have hj' : j < l.length := by simpa using hj
    have := h l[j] (List.getElem_mem hj')
    simpa [hj'] using this
theorem Zxc {x : SV} {l : List Cel} (hx : Zv7 x l) {j : Nat} (hj : j < l.length) (hb : l[j].nodes.length ≤ 1000) (M : Mem) :
    evW ES Zf5 Zua ⟨Zer x (.int .i64 j) (.int .i64 0), M⟩ = some (if l[j].nodes.any Z07 then (.ret, ⟨(Zer .Z .Z .Z).set 2 (.bool false), M⟩) else (.exit 2, ⟨(Zer x (.int .i64 j) (.int .i64 l[j].nodes.length)).set 38 (.bool false), M⟩)) := by
  obtain ⟨y, ⟨N, A, rfl, hN, hA, _, _⟩, hy, ha, hld⟩ := hx.item Zav Zde Zwy hj
  have hln := hN.Zex Zae
  simp only [clC] at hy
  generalize hns : l[j].nodes = ns at *
  obtain ⟨r, g1, g2⟩ := Zdc (E := ES) (me := Zf5) (B := Zjf) (len := ns.length) (T := fun k => Zer x (.int .i64 j) (.int .i64 k)) (I := fun _ M' => M' = M) (p := fun k => (ns[k]?.map Z07).getD false)
    (Q := fun f r => r = (match f with | some _ => (.ret, ⟨(Zer .Z .Z .Z).set 2 (.bool false), M⟩) | none => (.exit 2, ⟨(Zer x (.int .i64 j) (.int .i64 ns.length)).set 38 (.bool false), M⟩)))
    (fun k M' hk hM hp => by
      subst hM
      have hw : IntKind.i64.wrap ((k : Int) + 1) = (k : Int) + 1 := i64_in (by omega) (by omega)
      obtain ⟨u, ⟨B, rfl, hB, _⟩, hu, hui, _⟩ := hN.item Zae Zb8 Zty hk
      have hlb := hB.Zex Zb3
      simp only [List.getElem?_eq_getElem hk, Option.map_some, Option.getD_some, Z07, decide_eq_false_iff_not] at hp
      have hp' : ¬ (20 < (ns[k].ages.length : Int)) := by omega
      simp only [ndC] at hu
      exact ⟨M', by simp (maxSteps := 4000000) [Zjf, Zf, Zd, Ze, Zl, Zn, Zo, TK.agg, Zb, zeroS, Zi, Zg, splice, Zx, Z5, Zk, Zer, ha, hy, hln, hk, hui, hu, hlb, hp, hp', hw], rfl⟩)
    (fun k M' hk hM hp => by
      subst hM
      obtain ⟨u, ⟨B, rfl, hB, _⟩, hu, hui, _⟩ := hN.item Zae Zb8 Zty hk
      have hlb := hB.Zex Zb3
      simp only [List.getElem?_eq_getElem hk, Option.map_some, Option.getD_some, Z07, decide_eq_true_eq] at hp
      have hp' : (20 < (ns[k].ages.length : Int)) := by omega
      simp only [ndC] at hu
      simp (maxSteps := 4000000) [Zjf, Zf, Zd, Ze, Zl, Zn, Zo, TK.agg, Zb, zeroS, Zi, Zg, splice, Zx, Z5, Zk, Zer, ha, hy, hln, hk, hui, hu, hlb, hp, hp'])
    (fun M' hM => by
      subst hM
      simp (maxSteps := 4000000) [Zjf, Zf, Zd, Ze, Zl, Zn, Zo, TK.agg, Zb, zeroS, Zi, Zg, splice, Zx, Z5, Zk, Zer, ha, hy, hln]) M rfl
  subst g2
  show evW ES Zf5 (.loop Zjf) _ = _
  have hf := Zoz ns Z07
  cases hh : (List.range ns.length).find? (fun k => (ns[k]?.map Z07).getD false) with
  | none =>
    rw [hh] at g1
    rw [hf.1 hh]
    exact g1
  | some k =>
    rw [hh] at g1
    have : ns.any Z07 = true := by
      cases hc : ns.any Z07 with
      | true => rfl
      | false => rw [hf.2 hc] at hh; cases hh
    rw [this]
    exact g1
set_option maxHeartbeats 4000000 in
theorem Zz3 (get) {x : SV} {l : List Cel} (hx : Zv7 x l) (hnp : Sh.np Zar x = true) : Za0 (PCw ES) get Zf5 [x] = some (.bool (Z1n l)) := by
  refine Z4 (Za4 (fun M0 => ?_) rfl) (by simp [hnp])
  rw [Zac5]
  have hlx := hx.Zex Zav
  unfold Z1n
  by_cases c1 : l.length ≤ 20
  case neg =>
    have c1' : 20 < (l.length : Int) := by omega
    simp [Zpu, Zf, Zd, Ze, Zl, TK.agg, zeroS, Zx, Z5, hlx, c1, c1']
  have c1' : ¬ 20 < (l.length : Int) := by omega
  obtain ⟨r, g1, g2⟩ := Zdc (E := ES) (me := Zf5) (B := Zhu) (len := l.length) (T := fun k => Ze9 x (.int .i64 k)) (I := fun _ M' => M' = M0) (p := fun k => (l[k]?.map bigC).getD false)
    (Q := fun f r => r = (match f with | some _ => (.ret, ⟨(Ze9 .Z .Z).set 2 (.bool false), M0⟩) | none => (.exit 0, ⟨(Ze9 x (.int .i64 l.length)).set 11 (.bool false), M0⟩)))
    (fun j M' hj hM hp => by
      subst hM
      have hw : IntKind.i64.wrap ((j : Int) + 1) = (j : Int) + 1 := i64_in (by omega) (by omega)
      obtain ⟨y, ⟨N, A, rfl, hN, hA, _, _⟩, hy, ha, hld⟩ := hx.item Zav Zde Zwy hj
      have hln := hN.Zex Zae
      have hla := hA.Zex Zb3
      simp only [List.getElem?_eq_getElem hj, Option.map_some, Option.getD_some, bigC, Bool.or_eq_false_iff, decide_eq_false_iff_not] at hp
      obtain ⟨⟨p1, p2⟩, p3⟩ := hp
      have q1 : ¬ 20 < (l[j].nodes.length : Int) := by omega
      have q2 : ¬ 20 < (l[j].ages.length : Int) := by omega
      have hi := Zxc hx hj (by omega) M'
      rw [p3] at hi
      simp only [clC] at hy
      simp [Zer] at hi
      exact ⟨M', by simp (maxSteps := 4000000) [Zhu, Zf, Zd, Ze, Zl, Zn, Zo, TK.agg, Zb, zeroS, Zi, Zg, splice, Zx, Z5, Zk, Ze9, hlx, hj, ha, hy, hln, hla, q1, q2, hi, hw], rfl⟩)
    (fun j M' hj hM hp => by
      subst hM
      obtain ⟨y, ⟨N, A, rfl, hN, hA, _, _⟩, hy, ha, hld⟩ := hx.item Zav Zde Zwy hj
      have hln := hN.Zex Zae
      have hla := hA.Zex Zb3
      simp only [List.getElem?_eq_getElem hj, Option.map_some, Option.getD_some, bigC, Bool.or_eq_true, decide_eq_true_eq] at hp
      simp only [clC] at hy
      by_cases p1 : 20 < l[j].nodes.length
      · have q1 : 20 < (l[j].nodes.length : Int) := by omega
        simp (maxSteps := 4000000) [Zhu, Zf, Zd, Ze, Zl, Zn, Zo, TK.agg, Zb, zeroS, Zi, Zg, splice, Zx, Z5, Zk, Ze9, hlx, hj, ha, hy, hln, hla, p1, q1]
      · have q1 : ¬ 20 < (l[j].nodes.length : Int) := by omega
        by_cases p2 : 20 < l[j].ages.length
        · have q2 : 20 < (l[j].ages.length : Int) := by omega
          simp (maxSteps := 4000000) [Zhu, Zf, Zd, Ze, Zl, Zn, Zo, TK.agg, Zb, zeroS, Zi, Zg, splice, Zx, Z5, Zk, Ze9, hlx, hj, ha, hy, hln, hla, p1, q1, p2, q2]
        · have q2 : ¬ 20 < (l[j].ages.length : Int) := by omega
          have p3 : l[j].nodes.any Z07 = true := by
            rcases hp with (h | h) | h
            · exact absurd h p1
            · exact absurd h p2
            · exact h
          have hi := Zxc hx hj (by omega) M'
          rw [p3] at hi
          simp [Zer] at hi
          simp (maxSteps := 4000000) [Zhu, Zf, Zd, Ze, Zl, Zn, Zo, TK.agg, Zb, zeroS, Zi, Zg, splice, Zx, Z5, Zk, Ze9, hlx, hj, ha, hy, hln, hla, p1, q1, p2, q2, hi])
    (fun M' hM => by
      subst hM
      simp [Zhu, Zf, Zd, Ze, Zl, TK.agg, zeroS, Zx, Z5, Ze9, hlx]) M0 rfl
  subst g2
  have hf := Zoz l bigC
  cases hh : (List.range l.length).find? (fun k => (l[k]?.map bigC).getD false) with
  | none =>
    rw [hh] at g1
    have e := hf.1 hh
    simp [Ze9] at g1
    simp [Zpu, Zf, Zd, Ze, Zl, TK.agg, zeroS, Zx, Z5, hlx, c1, c1', Zqx, g1, e]
  | some k =>
    rw [hh] at g1
    have e : l.any bigC = true := by
      cases hc : l.any bigC with
      | true => rfl
      | false => rw [hf.2 hc] at hh; cases hh
    simp [Ze9] at g1
    simp [Zpu, Zf, Zd, Ze, Zl, TK.agg, zeroS, Zx, Z5, hlx, c1, c1', Zqx, g1, e]
theorem Zamp {n : Nat} {xs : List SV} (h : WT ES.P (n + 3) Zh xs) : ∃ o, NdR (mkV ES.P Zh xs) o := by
  have hpv := Z7a _ _ _ h
  obtain ⟨e, parts, rfl, hl, hp⟩ := Zvp Zb8 h
  match parts, hl with
  | [p0, p1, p2, p3, p4, p5, p6, p7], _ =>
    obtain ⟨a0, rfl, _, _⟩ := Zl9 Zes (hp 0 _ p0 rfl rfl)
    obtain ⟨a1, rfl, _, _⟩ := Zl9 Zes (hp 1 _ p1 rfl rfl)
    obtain ⟨a2, rfl, _, _⟩ := Zl9 Zes (hp 2 _ p2 rfl rfl)
    obtain ⟨a3, rfl, _, _⟩ := Zl9 Z46 (hp 3 _ p3 rfl rfl)
    obtain ⟨a4, rfl, _, _⟩ := Zl9 Z46 (hp 4 _ p4 rfl rfl)
    obtain ⟨l, h5, e5⟩ := Zaks (hp 5 _ p5 rfl rfl)
    obtain ⟨a6, rfl, _, _⟩ := Zl9 Zes (hp 6 _ p6 rfl rfl)
    obtain ⟨a7, rfl, _, _⟩ := Zl9 Zes (hp 7 _ p7 rfl rfl)
    have hA : Sh.pv (mkV ES.P Zv p5) = true := Z4j (Z7a _ _ _ (hp 5 _ p5 rfl rfl))
    rw [e]
    refine ⟨⟨a0, a1, a2, a3, a4, l, a6, a7⟩, mkV ES.P Zv p5, ?_, h5, hA⟩
    conv => lhs; rw [e5]
    rfl
theorem Zakq {n : Nat} {xs : List SV} (h : WT ES.P (n + 4) Zj xs) : ∃ l, Nds (mkV ES.P Zj xs) l ∧ xs = [mkV ES.P Zj xs] := by
  rcases Zv2 Zae Zb8 h with ⟨e1, h⟩ | ⟨items, e1, h, hl, hi⟩
  · rw [h]; exact ⟨[], RSl.nil _, e1⟩
  · rw [h]
    obtain ⟨l, hl2⟩ := RSl.exists (R := NdR) (tl := .ro) (items := items) fun y hy => by
      obtain ⟨ys, rfl, hw⟩ := hi y hy
      exact Zamp hw
    exact ⟨l, hl2, e1⟩
theorem cell_of {n : Nat} {xs : List SV} (h : WT ES.P (n + 5) Zq xs) : ∃ o, ClR (mkV ES.P Zq xs) o := by
  obtain ⟨e, parts, rfl, hl, hp⟩ := Zvp Zde h
  match parts, hl with
  | [p0, p1], _ =>
    obtain ⟨l, h0, e0⟩ := Zakq (hp 0 _ p0 rfl rfl)
    have hN : Sh.pv (mkV ES.P Zj p0) = true := Z4j (Z7a _ _ _ (hp 0 _ p0 rfl rfl))
    obtain ⟨_, gp, rfl, hgl, hgp⟩ := Zvp Z9f (hp 1 _ p1 rfl rfl)
    match gp, hgl with
    | [g0, g1, g2], _ =>
      obtain ⟨b0, rfl, _⟩ := Zatg Zafa (hgp 0 _ g0 rfl rfl)
      obtain ⟨b1, rfl, _, _⟩ := Zl9 Z46 (hgp 1 _ g1 rfl rfl)
      obtain ⟨w, h2, e2⟩ := Zaks (hgp 2 _ g2 rfl rfl)
      have hA : Sh.pv (mkV ES.P Zv g2) = true := Z4j (Z7a _ _ _ (hgp 2 _ g2 rfl rfl))
      rw [e]
      refine ⟨⟨l, b0, b1, w⟩, mkV ES.P Zj p0, mkV ES.P Zv g2, ?_, h0, h2, hN, hA⟩
      conv => lhs; rw [e0, e2]
      rfl
theorem Zagv {n : Nat} {xs : List SV} (h : WT ES.P (n + 6) Zt xs) : ∃ os, Zv7 (mkV ES.P Zt xs) os ∧ Sh.pv (mkV ES.P Zt xs) = true := by
  have hpv := Z4j (P := ES.P) (e := Zt) (Z7a _ _ _ h)
  rcases Zv2 Zav Zde h with ⟨e1, h⟩ | ⟨items, e1, h, hl, hi⟩
  · rw [h]; exact ⟨[], RSl.nil _, rfl⟩
  · rw [h] at hpv ⊢
    obtain ⟨l, hl2⟩ := RSl.exists (R := ClR) (tl := .ro) (items := items) fun y hy => by
      obtain ⟨ys, rfl, hw⟩ := hi y hy
      exact cell_of hw
    exact ⟨l, hl2, hpv⟩

end Go.Proofs.YtfphjfbknphhjaaGreatDoor
