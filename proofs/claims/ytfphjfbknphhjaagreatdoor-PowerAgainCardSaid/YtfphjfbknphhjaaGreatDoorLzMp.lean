/-
  Walks of the seat's functions: Qa.
-/
import Derived.Test.YtfphjfbknphhjaaGreatDoorEb2
import Derived.Test.YtfphjfbknphhjaaGreatDoorShMb
import Derived.Test.YtfphjfbknphhjaaGreatDoorLzMn
import Derived.Test.YtfphjfbknphhjaaGreatDoorLTk
import Derived.Test.YtfphjfbknphhjaaGreatDoorLzMk
set_option linter.unusedVariables false
set_option linter.unusedSimpArgs false
set_option maxRecDepth 100000
namespace Go.Proofs.YtfphjfbknphhjaaGreatDoor
open Go.Proofs.YtfphjfbknphhjaaGreatDoor.Sh
/-! Right cells; what an event does to cells (plain). -/
def Zsa (c : Cfg) : Int := c.ages + 1
def Zqc (c : Cfg) (there : Bool) (l : List Int) : Bool := if there then decide (l.length = c.parts.length) && !(l.any fun v => decide (v < 0 ∨ Zsa c < v)) else decide (l.length = 0)
def Zi6 (c : Cfg) (n : Node) : Bool := decide (0 ≤ n.state ∧ n.state ≤ 2) && decide (-c.drift ≤ n.drift ∧ n.drift ≤ c.drift) && decide (Zk8 n.start) && decide (0 ≤ n.wait ∧ n.wait ≤ 60000) && decide (0 ≤ n.cycle ∧ n.cycle ≤ 1099511627776) &&
  decide (0 ≤ n.mask ∧ n.mask ≤ 4095) && decide (0 ≤ n.Z ∧ n.Z ≤ 1099511627776) && Zqc c (decide (n.state = 2)) n.ages
def Zvc (c : Cfg) (k : Int) (x : Cel) : Bool := decide ((x.nodes.length : Int) = k) && !(x.nodes.any fun n => !Zi6 c n) && decide (Zk8 x.start) && Zqc c x.on x.ages
/-- As many cells as parts, each right. -/
def Znq (c : Cfg) (l : List Cel) (j : Nat) : Bool := match l[j]?, c.parts[j]? with
  | some x, some p => !Zvc c p.nodes x
  | _, _ => false
def Zjn (c : Cfg) (l : List Cel) : Bool := decide (l.length = c.parts.length) && ((List.range l.length).find? (Znq c l)).isNone
structure Evt where
  kind : Int
  a : Int
  b : Int
  v : Int
  body : List Int
def Z2p (n : Node) : Node := ⟨0, 0, n.drift, 0, 0, [], 0, n.Z⟩
def onN (c : Cfg) (n : Node) (now : Int) : Node := if n.state = 0 then ⟨1, 0, n.drift, now * c.cycle, 0, [], 0, n.Z⟩ else n
def Znu (now : Int) : Bool := decide (0 ≤ now ∧ now ≤ 1000)
def Z1v (e : Evt) : Bool := decide (e.kind = 2 ∨ e.kind = 5 ∨ e.kind = 7)
/-- What a node that is meant comes to. -/
def Zjm (c : Cfg) (n : Node) (now : Int) (e : Evt) : Node := if e.kind = 1 then { n with drift := e.v } else if Z1v e then onN c n now else Z2p n
/-- Is what an event names there? -/
def Ze8 (c : Cfg) (e : Evt) : Bool := if e.kind = 6 ∨ e.kind = 7 then decide (Zam e.a c.links.length) && decide (Zam e.b 2) else decide (Zam e.a c.parts.length) && (decide (e.kind = 4 ∨ e.kind = 5) || decide (Zam e.b (Zbx c e.a)))
def Zxl (c : Cfg) (e : Evt) (part node : Int) : Bool := if e.kind = 6 ∨ e.kind = 7 then (match c.links[e.a.toNat]? with
    | some l => decide (part = l.a ∧ node = Zd5 l.pa0 l.pa1 e.b) || decide (part = l.b ∧ node = Zd5 l.pb0 l.pb1 e.b)
    | none => false)
  else decide (part = e.a) && (decide (e.kind = 4 ∨ e.kind = 5) || decide (node = e.b))
def Zxt (c : Cfg) (l : List Cel) (now : Int) (e : Evt) : Bool := Zsf c && Znu now && Zjn c l && decide (1 ≤ e.kind ∧ e.kind ≤ 7) && (decide (e.kind ≠ 1) || decide (-c.drift ≤ e.v ∧ e.v ≤ c.drift))
def Zma (c : Cfg) (now : Int) (e : Evt) (p : Nat) (l : List Node) : List Node := l.mapIdx fun k n => if Zxl c e p k then Zjm c n now e else n
def doL (c : Cfg) (l : List Cel) (now : Int) (e : Evt) : List Cel := l.mapIdx fun p x => { x with nodes := Zma c now e p x.nodes }
/-- Cells behind an event; and what is wrong. -/
def doG (c : Cfg) (l : List Cel) (now : Int) (e : Evt) : List Cel × Int := if Zxt c l now e && Ze8 c e then (doL c l now e, 0) else ([], 1)

end Go.Proofs.YtfphjfbknphhjaaGreatDoor

/-
  Walks of the seat's functions: Qb.
-/
set_option linter.unusedVariables false
set_option linter.unusedSimpArgs false
set_option maxRecDepth 100000
namespace Go.Proofs.YtfphjfbknphhjaaGreatDoor
open Go.Proofs.YtfphjfbknphhjaaGreatDoor.Sh
/-! Nodes that an event means, one by one (plain). -/
def upd (f : Node → Node) (l : List Cel) (q : Nat × Nat) : List Cel := l.modify q.1 fun x => { x with nodes := x.nodes.modify q.2 f }
def Z09 (f : Node → Node) (qs : List (Nat × Nat)) (l : List Cel) : List Cel := l.mapIdx fun p x => { x with nodes := x.nodes.mapIdx fun k n => if (p, k) ∈ qs then f n else n }
theorem Zaj6 (f : Node → Node) (l : List Cel) : Z09 f [] l = l := by
  unfold Z09
  refine List.ext_getElem? fun p => ?_
  rw [List.getElem?_mapIdx]
  cases h : l[p]? with
  | none => rfl
  | some x =>
    simp only [Option.map_some, Option.some.injEq]
    have : x.nodes.mapIdx (fun k n => if (p, k) ∈ ([] : List (Nat × Nat)) then f n else n) = x.nodes := by
      refine List.ext_getElem? fun k => ?_
      rw [List.getElem?_mapIdx]
      cases x.nodes[k]? <;> simp
    rw [this]
theorem Zae5 {f : Node → Node} {q : Nat × Nat} {qs : List (Nat × Nat)} (h : q ∉ qs) (l : List Cel) : Z09 f qs (upd f l q) = Z09 f (q :: qs) l := by
  obtain ⟨a, b⟩ := q
  unfold Z09 upd
  refine List.ext_getElem? fun p => ?_
  rw [List.getElem?_mapIdx, List.getElem?_mapIdx, List.getElem?_modify]
  cases hx : l[p]? with
  | none => by_cases e : a = p <;> simp [e]
  | some x =>
    by_cases e : a = p
    · subst e
      simp only [if_true, Option.map_some, Option.map_eq_map, Option.some.injEq]
      congr 1
      refine List.ext_getElem? fun k => ?_
      rw [List.getElem?_mapIdx, List.getElem?_mapIdx, List.getElem?_modify]
      cases hn : x.nodes[k]? with
      | none => by_cases e : b = k <;> simp [e]
      | some n =>
        by_cases e2 : b = k
        · subst e2
          simp [h]
        · have : ¬ ((a, k) = (a, b)) := fun hh => e2 (by simp at hh; exact hh.symm)
          simp [e2, this, Ne.symm e2]
    · have : ∀ k, ¬ ((p, k) = (a, b)) := fun k hh => e (by simp at hh; exact hh.1.symm)
      simp [e, this, Ne.symm e]
theorem Zagm {f : Node → Node} : ∀ {qs : List (Nat × Nat)} (_ : qs.Nodup) (l : List Cel), qs.foldl (upd f) l = Z09 f qs l
  | [], _, l => (Zaj6 f l).symm
  | q :: qs, h, l => by
    rw [List.nodup_cons] at h
    rw [List.foldl_cons, Zagm h.2, Zae5 h.1]
/-- The nodes that an event means. -/
def Zcp (c : Cfg) (e : Evt) : List (Nat × Nat) :=
  if e.kind = 6 ∨ e.kind = 7 then (match c.links[e.a.toNat]? with
    | some l => [(l.a.toNat, (Zd5 l.pa0 l.pa1 e.b).toNat), (l.b.toNat, (Zd5 l.pb0 l.pb1 e.b).toNat)]
    | none => [])
  else if e.kind = 4 ∨ e.kind = 5 then (List.range (Zbx c e.a).toNat).map fun i => (e.a.toNat, i)
  else [(e.a.toNat, e.b.toNat)]
theorem Z6u {c : Cfg} (hr : Zcq c = true) (e : Evt) : (Zcp c e).Nodup := by
  unfold Zcp
  split
  · cases hl : c.links[e.a.toNat]? with
    | none => simp
    | some l =>
      obtain ⟨hj, rfl⟩ := List.getElem?_eq_some_iff.1 hl
      obtain ⟨h1, h2, h3⟩ := Z30 hr hj
      unfold Zam at h1 h2
      have : ¬ c.links[e.a.toNat].a.toNat = c.links[e.a.toNat].b.toNat := by omega
      simp [this]
  split
  · exact List.Pairwise.map _ (fun i j hij hh => hij (by simpa using hh)) List.nodup_range
  · simp
theorem Z7g {c : Cfg} (hr : Zcq c = true) {e : Evt} (ht : Ze8 c e = true) {p k : Nat} (hk : (k : Int) < Zbx c p) : (p, k) ∈ Zcp c e ↔ Zxl c e p k = true := by
  unfold Zcp Zxl
  unfold Ze8 at ht
  by_cases h1 : e.kind = 6 ∨ e.kind = 7
  · simp only [h1, if_true] at ht ⊢
    simp only [Bool.and_eq_true, decide_eq_true_eq] at ht
    unfold Zam at ht
    have hj : e.a.toNat < c.links.length := by omega
    obtain ⟨i1, i2, i3, i4, i5, i6⟩ := Zwl hr hj
    rw [List.getElem?_eq_getElem hj]
    generalize c.links[e.a.toNat] = l at *
    have g1 : 0 ≤ Zd5 l.pa0 l.pa1 e.b := by unfold Zd5 Zam at *; split <;> omega
    have g2 : 0 ≤ Zd5 l.pb0 l.pb1 e.b := by unfold Zd5 Zam at *; split <;> omega
    unfold Zam at i1 i2
    simp only [List.mem_cons, Prod.mk.injEq, List.not_mem_nil, or_false, Bool.or_eq_true, decide_eq_true_eq]
    omega
  · simp only [h1, if_false] at ht ⊢
    simp only [Bool.and_eq_true, decide_eq_true_eq, Bool.or_eq_true] at ht
    unfold Zam at ht
    by_cases h2 : e.kind = 4 ∨ e.kind = 5
    · simp only [h2, if_true, decide_true, Bool.true_or, Bool.and_true, decide_eq_true_eq, List.mem_map, List.mem_range, Prod.mk.injEq]
      constructor
      · rintro ⟨i, _, h3, _⟩
        omega
      · intro h3
        refine ⟨k, ?_, by omega, rfl⟩
        rw [← h3]
        omega
    · simp only [h2, if_false, decide_false, Bool.false_or, List.mem_singleton, Prod.mk.injEq, Bool.and_eq_true, decide_eq_true_eq]
      simp only [h2, false_or] at ht
      omega
theorem Z0v {c : Cfg} {l : List Cel} (h : Zjn c l = true) : l.length = c.parts.length ∧ ∀ (j : Nat) (hj : j < l.length) (hp : j < c.parts.length), Zvc c c.parts[j].nodes l[j] = true := by
  simp only [Zjn, Bool.and_eq_true, decide_eq_true_eq, Option.isNone_iff_eq_none] at h
  obtain ⟨h2, h3⟩ := h
  refine ⟨h2, fun j hj hp => ?_⟩
  have := List.find?_eq_none.1 h3 j (by simp [hj])
  simpa [Znq, hj, hp] using this
theorem Zak0 {c : Cfg} {k : Int} {x : Cel} (h : Zvc c k x = true) : (x.nodes.length : Int) = k := by
  simp only [Zvc, Bool.and_eq_true, decide_eq_true_eq] at h
  exact h.1.1.1
/-- What befalls the nodes that are meant, one behind the other, is what befalls them each. -/
theorem Zar3 {c : Cfg} (hr : Zcq c = true) {l : List Cel} (hl : Zjn c l = true) {now : Int} {e : Evt} (ht : Ze8 c e = true) : (Zcp c e).foldl (upd fun n => Zjm c n now e) l = doL c l now e := by
  rw [Zagm (Z6u hr e)]
  obtain ⟨h1, h2⟩ := Z0v hl
  unfold Z09 doL
  refine List.ext_getElem? fun p => ?_
  rw [List.getElem?_mapIdx, List.getElem?_mapIdx]
  by_cases hp : p < l.length
  · have hp2 : p < c.parts.length := by omega
    have hf := Zak0 (h2 p hp hp2)
    rw [List.getElem?_eq_getElem hp]
    simp only [Option.map_some, Option.some.injEq]
    congr 1
    unfold Zma
    refine List.ext_getElem? fun k => ?_
    rw [List.getElem?_mapIdx, List.getElem?_mapIdx]
    by_cases hk : k < l[p].nodes.length
    · rw [List.getElem?_eq_getElem hk]
      have hm := Z7g hr ht (p := p) (k := k) (by rw [Zk2 hp2]; omega)
      simp only [Option.map_some, Option.some.injEq]
      by_cases hq : (p, k) ∈ Zcp c e
      · rw [if_pos hq, if_pos (hm.1 hq)]
      · rw [if_neg hq, if_neg (fun h => hq (hm.2 h))]
    · rw [List.getElem?_eq_none (by omega)]
      rfl
  · rw [List.getElem?_eq_none (by omega)]
    rfl

end Go.Proofs.YtfphjfbknphhjaaGreatDoor

/-
  Walks of the seat's functions: Oj.
-/
set_option linter.unusedVariables false
set_option linter.unusedSimpArgs false
set_option maxRecDepth 100000
namespace Go.Proofs.YtfphjfbknphhjaaGreatDoor
open Go.Proofs.YtfphjfbknphhjaaGreatDoor.Sh
/-! Cells made right out of any: ages, nodes. -/
theorem mn2 (a b : Int) : mmS false [.int .i64 a, .int .i64 b] = some (.int .i64 (min a b)) := by
  simp only [mmS, mmGo, Bool.false_eq_true, if_false]
  congr 2
  split <;> omega
theorem Zaqh (l : List Int) (v : Int) : Zzg l ++ [.int .i64 v] = Zzg (l ++ [v]) := by simp [Zzg]
structure WhI (g : Int) (K : List SV) (b : Nat) (o : SV) (l : List Int) (M : Mem) : Prop where
  hc : M.blk b = some [.agg K]
  lt : b < M.next
  ho : Zg1 1 o M (Zzg l)
  ne : ∀ e p q, o ≠ .own b e p q
  hb : ∀ v ∈ l, 0 ≤ v ∧ (v ≤ g ∨ v = 1)
theorem WhI.app {g : Int} {K : List SV} {b : Nat} {o : SV} {l : List Int} {M : Mem} (h : WhI g K b o l M) (v : Int) (hv : 0 ≤ v ∧ (v ≤ g ∨ v = 1)) (hl : l.length ≤ 1000000) :
    ∃ o' k M1, Zef ES.P ((M.bump 5).set (M.next + 2) (some [.int .i64 v])).blk (M.next + 3) Zv Zv o (.own (M.next + 2) 1 0 1) = some (o', k) ∧ ((M.bump 5).set (M.next + 2) (some [.int .i64 v])).sets k = M1 ∧ WhI g K b o' (l ++ [v]) M1 := by
  obtain ⟨o', k, p1, p2, p3, p4, p5⟩ := Zg1.Zas8 (P := ES.P) (te := ⟨.int .i64, 1, 8, some (.int .i64 0)⟩) (get := ((M.bump 5).set (M.next + 2) (some [.int .i64 v])).blk) (o := o) (x := .own (M.next + 2) 1 0 1) (M := M) (items := Zzg l) (ys := [.int .i64 v]) (X := (M.bump 5).set (M.next + 2) (some [.int .i64 v])) (a := M.next + 3) Zb3 Zes rfl (by decide) rfl rfl h.ho (by rw [Zabf]; show (l.length + 1) * 8 ≤ _; omega) (by rw [Zabf]; show l.length + 1 ≤ _; omega)
    (fun id hid => by
      have e : ¬ id = M.next + 2 := by omega
      simp [e]) (by simp [Zkn]) (by simp [Zj0]) rfl (fun id hid => by
      have e : ¬ id = M.next + 2 := by omega
      simp [e]) (by show M.next + 3 < M.next + 5; omega) (by show M.next ≤ M.next + 5; omega) (by omega)
  rw [Zaqh] at p2
  refine ⟨o', k, _, p1, rfl, (p3 b h.lt h.ne).trans h.hc, by rw [p4]; show b < M.next + 5; have := h.lt; omega, p2, fun e p q hh => ?_, fun u hu => ?_⟩
  · rcases p5 b e p q hh with h1 | h1
    · have := h.lt; omega
    · exact h.ne e p q (h1 ▸ hh)
  · rcases List.mem_append.1 hu with h1 | h1
    · exact h.hb u h1
    · simp at h1
      subst h1
      exact hv
set_option maxHeartbeats 4000000 in
theorem Zaph {K : List SV} (hlk : K.length = 13) {P : SV} (hK0 : K[0]? = some P) {n : Nat} (hlp : Zex ES.P Zm P = some (.int .i64 n)) (hn : n ≤ 50) {g : Int} (hg0 : 0 ≤ g) (hG : ∀ get, Za0 (PCw ES) get Zld [.agg K] = some (.int .i64 g)) {x : SV} {l : List Int} (hx : Ints x l)
    {b : Nat} {o : SV} {w : List Int} {M : Mem} {j : Nat} (hj : j < n) (h : WhI g K b o w M) (hw : w.length = j) :
    ∃ M' o' w', evW ES Zeo Zjl ⟨Zhj x (.ptr b 0 0) o (.int .i64 j), M⟩ = some (.normal, ⟨Zhj x (.ptr b 0 0) o' (.int .i64 ((j + 1 : Nat) : Int)), M'⟩) ∧ WhI g K b o' w' M' ∧ w'.length = j + 1 := by
  have hw1 : IntKind.i64.wrap ((j : Int) + 1) = (j : Int) + 1 := i64_in (by omega) (by omega)
  have hlx := hx.Zex Zb3
  have hK0' : K[0]'(by omega) = P := by simpa [hlk] using hK0
  have hcb := h.hc
  have bs0 : ∀ (q : Nat) (v : Int), Zf7 ES.P Zv 1 q [(0, .int .i64 v)] = some (.own q 1 0 1, [.int .i64 v]) := fun q v => by simp [Zf7, Zb4]
  by_cases c1 : j < l.length
  · have a1 := ints_at hx c1
    have a2 : (l.map (SV.int .i64))[j]? = some (.int .i64 l[j]) := by simp [c1]
    generalize l.map (SV.int .i64) = xs at a1 a2
    generalize l[j] = v at *
    obtain ⟨o', k, M1, p1, p2, p3⟩ := h.app (min (max v 0) g) (by omega) (by omega)
    refine ⟨M1, o', _, ?_, p3, by simp [hw]⟩
    simp (maxSteps := 4000000) [Zjl, Zf, Zd, Ze, Zl, Zn, Zo, TK.agg, Zb, zeroS, Zi, Zg, splice, Zx, Z5, Zk, Zhj, hcb, hlk, hK0', hlp, hj, hlx, c1, a1, a2, hG, mx2, mn2, bs0, p1, p2, hw1]
  · obtain ⟨o', k, M1, p1, p2, p3⟩ := h.app 1 (by omega) (by omega)
    refine ⟨M1, o', _, ?_, p3, by simp [hw]⟩
    simp (maxSteps := 4000000) [Zjl, Zf, Zd, Ze, Zl, Zn, Zo, TK.agg, Zb, zeroS, Zi, Zg, splice, Zx, Z5, Zk, Zhj, hcb, hlk, hK0', hlp, hj, hlx, c1, bs0, p1, p2, hw1]
set_option maxHeartbeats 4000000 in
theorem Zalq {P L : SV} {c : Cfg} (hP : Zi2 c P L) (hn : c.parts.length ≤ 50) {x : SV} {l : List Int} (hx : Ints x l) (hnx : Sh.np Zar x = true) :
    ∃ z w, (∀ get, Za0 (PCw ES) get Zeo [.agg (Z7 c P L), x] = some z) ∧ Ints z w ∧ w.length = c.parts.length ∧ Sh.pv z = true ∧ (∀ v ∈ w, 0 ≤ v ∧ (v ≤ (if Zf3 c then Zo0 c else 0) ∨ v = 1)) := by
  have hG := fun get => Z82 get hP
  have hlp := hP.p.Zex Za1
  have hlk : (Z7 c P L).length = 13 := rfl
  have hK0 : (Z7 c P L)[0]? = some P := rfl
  have hnK := hP.npA
  generalize Z7 c P L = K at *
  have hK0' : K[0]'(by omega) = P := by simpa [hlk] using hK0
  have hg0 : 0 ≤ (if Zf3 c then Zo0 c else 0) := by
    split
    · rename_i hr
      have hin : Zgz c := Zg7 (by simp [Zf3] at hr; exact hr.2)
      have := hin.ag
      unfold Zo0
      omega
    · omega
  generalize (if Zf3 c then Zo0 c else 0) = g at *
  obtain ⟨z, items, h1, ⟨w, h2, hw, hwb⟩, h3, h4, h5⟩ := Zad5 (E := ES) (f := Zeo) (esz := 1) (args := [.agg K, x]) (Pr := fun items => ∃ w : List Int, items = Zzg w ∧ w.length = c.parts.length ∧ ∀ v ∈ w, 0 ≤ v ∧ (v ≤ g ∨ v = 1)) (fun M0 => by
    rw [Zaeh]
    obtain ⟨r, g1, Ma, o, w, rfl, hO, hwl, hwv⟩ := Zr0 (E := ES) (me := Zeo) (B := Zjl) (β := SV × List Int) (len := c.parts.length) (T := fun j o => Zhj x (.ptr M0.next 0 0) o.1 (.int .i64 j))
      (I := fun j o M => WhI g K M0.next o.1 o.2 M ∧ o.2.length = j)
      (Q := fun r => ∃ M' o w, r = (.exit 0, ⟨(Zhj x (.ptr M0.next 0 0) o (.int .i64 c.parts.length)).set 12 (.bool false), M'⟩) ∧ Zg1 1 o M' (Zzg w) ∧ w.length = c.parts.length ∧ ∀ v ∈ w, 0 ≤ v ∧ (v ≤ g ∨ v = 1))
      (fun j o M hj ⟨i1, i2⟩ => by
        left
        obtain ⟨M', o', w', a1, a2, a3⟩ := Zaph hlk hK0 hlp hn hg0 hG hx hj i1 i2
        exact ⟨(o', w'), M', a1, a2, a3⟩)
      (fun o M ⟨i1, i2⟩ => by
        have hcb := i1.hc
        exact ⟨_, by simp [Zjl, Zf, Zd, Ze, Zl, Zn, Zo, TK.agg, Zb, zeroS, Zi, Zg, splice, Zx, Z5, Zk, Zhj, hcb, hlk, hK0', hlp], by simp, M, o.1, o.2, rfl, i1.ho, i2, i1.hb⟩) 0 (.nilsl, []) ((M0.bump 2).set M0.next (some [.agg K])) (by omega)
      ⟨⟨by simp, by show M0.next < M0.next + 2; omega, .inl ⟨rfl, rfl⟩, (fun _ _ _ h => (by cases h)), (fun v hv => (by cases hv))⟩, rfl⟩
    simp [Zhj] at g1
    refine ⟨o, Ma, _, ?_, hO, w, rfl, hwl, hwv⟩
    simp [Zue, Zf, Zd, Ze, Zl, TK.agg, zeroS, Zx, Z5, Zt7, g1]) (fun items ⟨w, h, _, _⟩ y hy => Zawb w y (h ▸ hy))
  subst h2
  exact ⟨z, w, fun get => Z4 h1 (by simp [hnK, hnx]), RSl.of_map h3 h4, hw, h5, hwb⟩
theorem Zv8 (n : Int) (q : Nat) (hq : q < 4611686018427387904) : 0 ≤ Ztw .i64 n (q : Int) ∧ Ztw .i64 n (q : Int) ≤ q := by
  have h : (BitVec.ofInt 64 n &&& BitVec.ofInt 64 (q : Int)).toNat ≤ q := by
    rw [BitVec.toNat_and]
    refine Nat.le_trans Nat.and_le_right ?_
    rw [BitVec.ofInt_natCast, BitVec.toNat_ofNat]
    exact Nat.mod_le _ _
  show 0 ≤ IntKind.i64.wrap ((BitVec.ofInt 64 n &&& BitVec.ofInt 64 (q : Int)).toNat : Int) ∧ IntKind.i64.wrap ((BitVec.ofInt 64 n &&& BitVec.ofInt 64 (q : Int)).toNat : Int) ≤ q
  rw [i64_in (by omega) (by omega)]
  omega
theorem Zyo (a : Int) {b : Int} (hb : 0 < b) : -b < a.tmod b ∧ a.tmod b < b := by
  refine ⟨?_, Int.tmod_lt_of_pos a hb⟩
  have : (-a).tmod b < b := Int.tmod_lt_of_pos _ hb
  rw [Int.neg_tmod] at this
  omega
/-- A node as it may be. -/
def Zrn (c : Cfg) (n : Node) (w : List Int) : Node := ⟨(Ztw .i64 n.state 3).tmod 3, Ztw .i64 n.wait 31, n.drift.tmod (c.drift + 1), n.start.tmod 2147483648, Ztw .i64 n.cycle 274877906943, if (Ztw .i64 n.state 3).tmod 3 = 2 then w else [], Ztw .i64 n.mask 4095, Ztw .i64 n.Z 1023⟩
theorem Zalm {c : Cfg} {w : List Int} (h1 : w.length = c.parts.length) (h2 : ∀ v ∈ w, 0 ≤ v ∧ (v ≤ Zsa c ∨ v = 1)) (h3 : 1 ≤ Zsa c) : Zqc c true w = true := by
  simp only [Zqc, if_true, h1, decide_true, Bool.true_and, Bool.not_eq_true', List.any_eq_false, decide_eq_true_eq]
  intro v hv
  have := h2 v hv
  omega
theorem Zah1 {c : Cfg} (hd : 0 ≤ c.drift) (n : Node) {w : List Int} (hw : Zqc c true w = true) : Zi6 c (Zrn c n w) = true := by
  have a1 : 0 ≤ Ztw .i64 n.state 3 ∧ Ztw .i64 n.state 3 ≤ 3 := Zv8 n.state 3 (by decide)
  have a2 : 0 ≤ Ztw .i64 n.wait 31 ∧ Ztw .i64 n.wait 31 ≤ 31 := Zv8 n.wait 31 (by decide)
  have a3 : 0 ≤ Ztw .i64 n.cycle 274877906943 ∧ Ztw .i64 n.cycle 274877906943 ≤ 274877906943 := Zv8 n.cycle 274877906943 (by decide)
  have a4 : 0 ≤ Ztw .i64 n.mask 4095 ∧ Ztw .i64 n.mask 4095 ≤ 4095 := Zv8 n.mask 4095 (by decide)
  have a5 : 0 ≤ Ztw .i64 n.Z 1023 ∧ Ztw .i64 n.Z 1023 ≤ 1023 := Zv8 n.Z 1023 (by decide)
  have b1 := Int.tmod_nonneg 3 a1.1
  have b2 := Zyo (Ztw .i64 n.state 3) (show (0 : Int) < 3 by omega)
  have b3 := Zyo n.drift (show 0 < c.drift + 1 by omega)
  have b4 := Zyo n.start (show (0 : Int) < 2147483648 by omega)
  have hw2 : ∀ b : Bool, Zqc c b (if b = true then w else []) = true := fun b => by cases b with | true => exact hw | false => rfl
  have hw3 := hw2 (decide ((Ztw .i64 n.state 3).tmod 3 = 2))
  simp only [decide_eq_true_eq] at hw3
  have aa : ∀ {a b : Bool}, a = true → b = true → (a && b) = true := fun h1 h2 => by rw [h1, h2]; rfl
  have e : (Zrn c n w).ages = if (Ztw .i64 n.state 3).tmod 3 = 2 then w else [] := rfl
  unfold Zi6
  rw [e]
  exact aa (aa (aa (aa (aa (aa (aa (decide_eq_true ⟨b1, by simp only [Zrn]; omega⟩) (decide_eq_true ⟨by simp only [Zrn]; omega, by simp only [Zrn]; omega⟩)) (decide_eq_true ⟨by simp only [Zrn]; omega, by simp only [Zrn]; omega⟩)) (decide_eq_true ⟨a2.1, by simp only [Zrn]; omega⟩)) (decide_eq_true ⟨a3.1, by simp only [Zrn]; omega⟩)) (decide_eq_true ⟨a4.1, by simp only [Zrn]; omega⟩)) (decide_eq_true ⟨a5.1, by simp only [Zrn]; omega⟩)) hw3
set_option maxHeartbeats 8000000 in
theorem Zavm {P L : SV} {c : Cfg} (hP : Zi2 c P L) (hn : c.parts.length ≤ 50) (hd : 0 ≤ c.drift ∧ c.drift ≤ 500) (n : Node) {A : SV} (hA : Ints A n.ages) (hpA : Sh.pv A = true) :
    ∃ y w, (∀ get, Za0 (PCw ES) get Zkw [.agg (Z7 c P L), .agg (ndC n A)] = some y) ∧ NdR y (Zrn c n w) ∧ w.length = c.parts.length ∧ (∀ v ∈ w, 0 ≤ v ∧ (v ≤ (if Zf3 c then Zo0 c else 0) ∨ v = 1)) := by
  obtain ⟨z, w, z1, z2, z3, z4, z5⟩ := Zalq hP hn hA (Zac hpA _)
  have hlk : (Z7 c P L).length = 13 := rfl
  have hK6 : (Z7 c P L)[6]? = some (.int .i64 c.drift) := rfl
  have hnK := hP.npA
  have hna := Zac (Zt3 (n := n) hpA) Zar
  have w1 : IntKind.i64.wrap (c.drift + 1) = c.drift + 1 := i64_in (by omega) (by omega)
  have hb : ∀ v : Int, Zoq ES.P .rem Zc false (.int .i64 v) (.int .i64 (c.drift + 1)) = some (.int .i64 (v.tmod (c.drift + 1))) := fun v => Zapl (by omega)
  generalize Z7 c P L = K at *
  have hK6' : K[6]'(by omega) = .int .i64 c.drift := by simpa [hlk] using hK6
  by_cases h2 : (Ztw .i64 n.state 3).tmod 3 = 2
  · refine ⟨.agg (ndC (Zrn c n w) z), w, fun get => Z4 (Za4 (fun M0 => ?_) (Zt3 z4)) (by simp [hnK, hna]), ⟨z, rfl, by rw [show (Zrn c n w).ages = w by simp [Zrn, h2]]; exact z2, z4⟩, z3, z5⟩
    rw [Z4f]
    simp (maxSteps := 4000000) [Zti, Zf, Zd, Ze, Zl, Zn, Zo, TK.agg, Zb, zeroS, Zi, Zg, splice, Zx, Z5, Zk, ndC, Zrn, hlk, hK6', w1, hb, h2, z1, Zz hA.sl, Zax hA.sl, Zz z2.sl, Zax z2.sl]
  · refine ⟨.agg (ndC (Zrn c n w) .nilsl), w, fun get => Z4 (Za4 (fun M0 => ?_) (Zt3 rfl)) (by simp [hnK, hna]), ⟨.nilsl, rfl, by rw [show (Zrn c n w).ages = [] by simp [Zrn, h2]]; exact RSl.nil _, rfl⟩, z3, z5⟩
    rw [Z4f]
    simp (maxSteps := 4000000) [Zti, Zf, Zd, Ze, Zl, Zn, Zo, TK.agg, Zb, zeroS, Zi, Zg, splice, Zx, Z5, Zk, ndC, Zrn, hlk, hK6', w1, hb, h2, Zz hA.sl, Zax hA.sl]

end Go.Proofs.YtfphjfbknphhjaaGreatDoor
