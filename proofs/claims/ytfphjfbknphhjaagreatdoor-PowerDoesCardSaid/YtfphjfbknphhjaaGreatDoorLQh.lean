/-
  Walks of the seat's functions: Qh.
-/
import Derived.Test.YtfphjfbknphhjaaGreatDoorEb2
import Derived.Test.YtfphjfbknphhjaaGreatDoorShMb
import Derived.Test.YtfphjfbknphhjaaGreatDoorLQf
import Derived.Test.YtfphjfbknphhjaaGreatDoorLzMt
set_option linter.unusedVariables false
set_option linter.unusedSimpArgs false
set_option maxRecDepth 100000
namespace Go.Proofs.YtfphjfbknphhjaaGreatDoor
open Go.Proofs.YtfphjfbknphhjaaGreatDoor.Sh
/-! The document's own: is a cell right, what an event names, which nodes it means. -/
set_option maxHeartbeats 4000000 in
theorem Z44 (get) {P L : SV} {c : Cfg} (hP : Zi2 c P L) (hfit : Zsf c = true) (b : Bool) {x : SV} {l : List Int} (hx : Ints x l) (hb : l.length ≤ 1000000) : Za0 (PCw ES) get Zje [.agg (Z7 c P L), x, .bool b] = some (.bool (Zqc c b l)) := by
  refine Z4 (Za4 (fun M0 => ?_) rfl) (by simp [hP.npA, hx.Z2q])
  rw [Zaid]
  have hlx := hx.Zex Zb3
  have hlp := hP.p.Zex Za1
  have kg := fun get => Z82 get hP
  have hrg : (if Zf3 c then Zo0 c else 0) = Zsa c := by
    have : Zf3 c = true := by simp [Zf3, (Zec.1 hfit).1, (Zec.1 hfit).2.1]
    rw [if_pos this]
    rfl
  rw [hrg] at kg
  have hlk : (Z7 c P L).length = 13 := rfl
  have hK0 : (Z7 c P L)[0]? = some P := rfl
  generalize Z7 c P L = K at *
  have g0 : K[0]'(by omega) = P := by simpa [hlk] using hK0
  unfold Zqc
  cases b with
  | false => simp [Zpf, Zf, Zd, Ze, Zl, Zn, Zo, TK.agg, Zb, zeroS, Zi, Zg, splice, Zx, Z5, Zk, hlk, hlx]
  | true =>
    by_cases c1 : l.length = c.parts.length
    case neg =>
      have c1' : ¬ (l.length : Int) = c.parts.length := by omega
      simp [Zpf, Zf, Zd, Ze, Zl, Zn, Zo, TK.agg, Zb, zeroS, Zi, Zg, splice, Zx, Z5, Zk, hlk, g0, hlp, hlx, c1, c1']
    have c1' : (l.length : Int) = c.parts.length := by omega
    obtain ⟨r, g1, g2⟩ := Zdc (E := ES) (me := Zje) (B := Zky) (len := l.length) (T := fun j => Zhh x (.ptr M0.next 0 0) (.int .i64 j)) (I := fun _ M => M = (M0.bump 2).set M0.next (some [.agg K])) (p := fun j => (l[j]?.map fun v => decide (v < 0 ∨ Zsa c < v)).getD false)
      (Q := fun o r => r = match o with
        | some _ => (.ret, ⟨(Zhh .Z .Z .Z).set 6 (.bool false), (M0.bump 2).set M0.next (some [.agg K])⟩)
        | none => (.exit 0, ⟨(Zhh x (.ptr M0.next 0 0) (.int .i64 l.length)).set 22 (.bool false), (M0.bump 2).set M0.next (some [.agg K])⟩))
      (fun j M hj hI hp => by
        subst hI
        have hw : IntKind.i64.wrap ((j : Int) + 1) = (j : Int) + 1 := i64_in (by omega) (by omega)
        have a1 := ints_at' hx hj
        have a2 : ∀ get z, Zn ES.P get Zc (.rptr (l.map (SV.int .i64)) j 0 z) = some (.int .i64 l[j]) := fun get z => Zl4 Zes (x := .int .i64 l[j]) (by simp [hj]) rfl
        simp only [List.getElem?_eq_getElem hj, Option.map_some, Option.getD_some, decide_eq_false_iff_not, not_or] at hp
        exact ⟨_, by simp [Zky, Zf, Zd, Ze, Zl, TK.agg, zeroS, Zx, Z5, Zhh, hlx, hj, a1, a2, hp.1, hp.2, kg, Zn, Zo, hlk, hw], rfl⟩)
      (fun j M hj hI hp => by
        subst hI
        have a1 := ints_at' hx hj
        have a2 : ∀ get z, Zn ES.P get Zc (.rptr (l.map (SV.int .i64)) j 0 z) = some (.int .i64 l[j]) := fun get z => Zl4 Zes (x := .int .i64 l[j]) (by simp [hj]) rfl
        simp only [List.getElem?_eq_getElem hj, Option.map_some, Option.getD_some, decide_eq_true_eq] at hp
        by_cases q : l[j] < 0
        · simp [Zky, Zf, Zd, Ze, Zl, TK.agg, zeroS, Zx, Z5, Zhh, hlx, hj, a1, a2, q]
        · have q2 : Zsa c < l[j] := by omega
          simp [Zky, Zf, Zd, Ze, Zl, TK.agg, zeroS, Zx, Z5, Zhh, hlx, hj, a1, a2, q, q2, kg, Zn, Zo, hlk])
      (fun M hI => by
        subst hI
        simp [Zky, Zf, Zd, Ze, Zl, TK.agg, zeroS, Zx, Z5, Zhh, hlx]) _ rfl
    have hf := Zoz l (fun v => decide (v < 0 ∨ Zsa c < v))
    cases hh : (List.range l.length).find? (fun j => (l[j]?.map fun v => decide (v < 0 ∨ Zsa c < v)).getD false) with
    | none =>
      rw [hh] at g2
      subst g2
      simp [Zhh] at g1
      have e := hf.1 hh
      simp only [if_true, c1, decide_true, Bool.true_and, e, Bool.not_false]
      simp [Zpf, Zf, Zd, Ze, Zl, Zn, Zo, TK.agg, Zb, zeroS, Zi, Zg, splice, Zx, Z5, Zk, hlk, g0, hlp, hlx, c1', Zr4, g1]
    | some j =>
      rw [hh] at g2
      subst g2
      simp [Zhh] at g1
      have e : l.any (fun v => decide (v < 0 ∨ Zsa c < v)) = true := by
        cases hc : l.any (fun v => decide (v < 0 ∨ Zsa c < v)) with
        | true => rfl
        | false => rw [hf.2 hc] at hh; cases hh
      simp only [if_true, c1, decide_true, Bool.true_and, e, Bool.not_true]
      simp [Zpf, Zf, Zd, Ze, Zl, Zn, Zo, TK.agg, Zb, zeroS, Zi, Zg, splice, Zx, Z5, Zk, hlk, g0, hlp, hlx, c1', Zr4, g1]
set_option maxHeartbeats 16000000 in
theorem Zadk (get) {P L : SV} {c : Cfg} (hP : Zi2 c P L) (hfit : Zsf c = true) {n : Node} {A : SV} (hA : Ints A n.ages) (hpA : Sh.pv A = true) (hb : n.ages.length ≤ 1000000) : Za0 (PCw ES) get Zj7 [.agg (Z7 c P L), .agg (ndC n A)] = some (.bool (Zi6 c n)) := by
  refine Z4 (Za4 (fun M0 => ?_) rfl) (by simp [hP.npA, Zac (Zt3 (n := n) hpA)])
  rw [Zaew]
  have ha := fun get => Z44 get hP hfit (decide (n.state = 2)) hA hb
  have hlk : (Z7 c P L).length = 13 := rfl
  have hK6 : (Z7 c P L)[6]? = some (.int .i64 c.drift) := rfl
  have hd := (Zg7 (Zec.1 hfit).2.1).dr
  generalize Z7 c P L = K at *
  have h6 : K[6]'(by omega) = .int .i64 c.drift := by simpa [hlk] using hK6
  have hw : IntKind.i64.wrap (0 - c.drift) = -c.drift := by rw [show (0 : Int) - c.drift = -c.drift by omega]; exact i64_in (by omega) (by omega)
  have hw2 : IntKind.i64.wrap (-c.drift) = -c.drift := i64_in (by omega) (by omega)
  have sA := Zz hA.sl
  have sB := Zax hA.sl
  unfold Zi6
  generalize Zqc c (decide (n.state = 2)) n.ages = ag at *
  by_cases k1 : n.state < 0
  · have q : ¬ (0 ≤ n.state ∧ n.state ≤ 2) := by omega
    simp (maxSteps := 4000000) [Zdl, Zf, Zd, Ze, Zl, Zn, Zo, TK.agg, Zb, zeroS, Zi, Zg, splice, Zx, Z5, Zk, ndC, k1, q]
  by_cases k2 : 2 < n.state
  · have q : ¬ (0 ≤ n.state ∧ n.state ≤ 2) := by omega
    simp (maxSteps := 4000000) [Zdl, Zf, Zd, Ze, Zl, Zn, Zo, TK.agg, Zb, zeroS, Zi, Zg, splice, Zx, Z5, Zk, ndC, k1, k2, q]
  have q1 : 0 ≤ n.state ∧ n.state ≤ 2 := by omega
  by_cases k3 : n.drift < -c.drift
  · have q : ¬ (-c.drift ≤ n.drift ∧ n.drift ≤ c.drift) := by omega
    simp (maxSteps := 4000000) [Zdl, Zf, Zd, Ze, Zl, Zn, Zo, TK.agg, Zb, zeroS, Zi, Zg, splice, Zx, Z5, Zk, ndC, hlk, h6, hw, hw2, k1, k2, k3, q]
  by_cases k4 : c.drift < n.drift
  · have q : ¬ (-c.drift ≤ n.drift ∧ n.drift ≤ c.drift) := by omega
    simp (maxSteps := 4000000) [Zdl, Zf, Zd, Ze, Zl, Zn, Zo, TK.agg, Zb, zeroS, Zi, Zg, splice, Zx, Z5, Zk, ndC, hlk, h6, hw, hw2, k1, k2, k3, k4, q]
  have q2 : -c.drift ≤ n.drift ∧ n.drift ≤ c.drift := by omega
  by_cases k5 : Zk8 n.start
  case neg => simp (maxSteps := 4000000) [Zdl, Zf, Zd, Ze, Zl, Zn, Zo, TK.agg, Zb, zeroS, Zi, Zg, splice, Zx, Z5, Zk, ndC, hlk, h6, hw, hw2, k1, k2, k3, k4, k5]
  by_cases k6 : n.wait < 0
  · have q : ¬ (0 ≤ n.wait ∧ n.wait ≤ 60000) := by omega
    simp (maxSteps := 4000000) [Zdl, Zf, Zd, Ze, Zl, Zn, Zo, TK.agg, Zb, zeroS, Zi, Zg, splice, Zx, Z5, Zk, ndC, hlk, h6, hw, hw2, k1, k2, k3, k4, k5, k6, q]
  by_cases k7 : 60000 < n.wait
  · have q : ¬ (0 ≤ n.wait ∧ n.wait ≤ 60000) := by omega
    simp (maxSteps := 4000000) [Zdl, Zf, Zd, Ze, Zl, Zn, Zo, TK.agg, Zb, zeroS, Zi, Zg, splice, Zx, Z5, Zk, ndC, hlk, h6, hw, hw2, k1, k2, k3, k4, k5, k6, k7, q]
  have q3 : 0 ≤ n.wait ∧ n.wait ≤ 60000 := by omega
  by_cases k8 : 0 ≤ n.cycle
  case neg => simp (maxSteps := 4000000) [Zdl, Zf, Zd, Ze, Zl, Zn, Zo, TK.agg, Zb, zeroS, Zi, Zg, splice, Zx, Z5, Zk, ndC, hlk, h6, hw, hw2, k1, k2, k3, k4, k5, k6, k7, k8]
  by_cases k9 : n.cycle ≤ 1099511627776
  case neg => simp (maxSteps := 4000000) [Zdl, Zf, Zd, Ze, Zl, Zn, Zo, TK.agg, Zb, zeroS, Zi, Zg, splice, Zx, Z5, Zk, ndC, hlk, h6, hw, hw2, k1, k2, k3, k4, k5, k6, k7, k8, k9]
  by_cases m1 : 0 ≤ n.mask
  case neg => simp (maxSteps := 4000000) [Zdl, Zf, Zd, Ze, Zl, Zn, Zo, TK.agg, Zb, zeroS, Zi, Zg, splice, Zx, Z5, Zk, ndC, hlk, h6, hw, hw2, k1, k2, k3, k4, k5, k6, k7, k8, k9, m1]
  by_cases m2 : n.mask < 4096
  case neg =>
    have q : ¬ n.mask ≤ 4095 := by omega
    simp (maxSteps := 4000000) [Zdl, Zf, Zd, Ze, Zl, Zn, Zo, TK.agg, Zb, zeroS, Zi, Zg, splice, Zx, Z5, Zk, ndC, hlk, h6, hw, hw2, k1, k2, k3, k4, k5, k6, k7, k8, k9, m1, m2, q]
  have q4 : n.mask ≤ 4095 := by omega
  by_cases m3 : 0 ≤ n.Z
  case neg => simp (maxSteps := 4000000) [Zdl, Zf, Zd, Ze, Zl, Zn, Zo, TK.agg, Zb, zeroS, Zi, Zg, splice, Zx, Z5, Zk, ndC, hlk, h6, hw, hw2, k1, k2, k3, k4, k5, k6, k7, k8, k9, m1, m2, m3]
  by_cases m4 : n.Z ≤ 1099511627776
  case neg => simp (maxSteps := 4000000) [Zdl, Zf, Zd, Ze, Zl, Zn, Zo, TK.agg, Zb, zeroS, Zi, Zg, splice, Zx, Z5, Zk, ndC, hlk, h6, hw, hw2, k1, k2, k3, k4, k5, k6, k7, k8, k9, m1, m2, m3, m4]
  simp (maxSteps := 4000000) [Zdl, Zf, Zd, Ze, Zl, Zn, Zo, TK.agg, Zb, zeroS, Zi, Zg, splice, Zx, Z5, Zk, ndC, hlk, h6, hw, hw2, k1, k2, k3, k4, k5, k6, k7, k8, k9, m1, m2, m3, m4, q1, q2, q3, q4, ha]
set_option maxHeartbeats 8000000 in
theorem Zaek (get) {P L : SV} {c : Cfg} (hP : Zi2 c P L) (hfit : Zsf c = true) {p : Nat} (hp : p < c.parts.length) {x : Cel} {N A : SV} (hN : Nds N x.nodes) (hA : Ints A x.ages) (hpN : Sh.pv N = true) (hpA : Sh.pv A = true) (hb : x.nodes.length ≤ 1000000) (ha : ∀ n ∈ x.nodes, n.ages.length ≤ 1000000) (hb2 : x.ages.length ≤ 1000000) :
    Za0 (PCw ES) get Zf1 [.agg (Z7 c P L), .int .i64 p, .agg (clC x N A)] = some (.bool (Zvc c c.parts[p].nodes x)) := by
  refine Z4 (Za4 (fun M0 => ?_) rfl) (by simp [hP.npA, Zac (clPv (x := x) hpN hpA)])
  rw [Zad0]
  have k1 := fun get => Zyr get hP p
  have hin : (Zsf c && decide (Zam (p : Int) c.parts.length)) = true := by
    have : Zam (p : Int) c.parts.length := by unfold Zam; omega
    simp [hfit, this]
  rw [hin] at k1
  have hln := hN.Zex Zae
  have hg := fun get => Z44 get hP hfit x.on hA hb2
  have hr := fun get (n : Node) (B : SV) (h1 : Ints B n.ages) (h2 : Sh.pv B = true) (h3 : n.ages.length ≤ 1000000) => Zadk get hP hfit h1 h2 h3
  have ap := Parts.at hP.p hp
  have ap2 : (c.parts.map Zc9)[p]? = some (.agg [.int .i64 c.parts[p].nodes, .int .i64 c.parts[p].faults]) := by rw [List.getElem?_map, List.getElem?_eq_getElem hp]; rfl
  have hlk : (Z7 c P L).length = 13 := rfl
  have hK0 : (Z7 c P L)[0]? = some P := rfl
  generalize Z7 c P L = K at *
  have g0 : K[0]'(by omega) = P := by simpa [hlk] using hK0
  generalize c.parts.map Zc9 = ps at ap ap2
  generalize c.parts[p].nodes = k at *
  unfold Zvc
  by_cases c1 : (x.nodes.length : Int) = k
  case neg => simp (maxSteps := 4000000) [Zp6, Zf, Zd, Ze, Zl, Zn, Zo, TK.agg, Zb, zeroS, Zi, Zg, splice, Zx, Z5, Zk, clC, hlk, g0, k1, hln, ap, ap2, c1, Zz hN.sl, Zax hN.sl, Zz hA.sl, Zax hA.sl]
  subst c1
  obtain ⟨r, g1, g2⟩ := Zdc (E := ES) (me := Zf1) (B := Zlg) (len := x.nodes.length) (T := fun j => Zhe (.ptr M0.next 0 0) (.ptr (M0.next + 1) 0 0) (.int .i64 j)) (I := fun _ M => M = ((M0.bump 3).set M0.next (some [.agg K])).set (M0.next + 1) (some [.agg (clC x N A)])) (p := fun j => (x.nodes[j]?.map fun n => !Zi6 c n).getD false)
    (Q := fun o r => r = match o with
      | some _ => (.ret, ⟨(Zhe .Z .Z .Z).set 6 (.bool false), ((M0.bump 3).set M0.next (some [.agg K])).set (M0.next + 1) (some [.agg (clC x N A)])⟩)
      | none => (.exit 0, ⟨(Zhe (.ptr M0.next 0 0) (.ptr (M0.next + 1) 0 0) (.int .i64 x.nodes.length)).set 28 (.bool false), ((M0.bump 3).set M0.next (some [.agg K])).set (M0.next + 1) (some [.agg (clC x N A)])⟩))
    (fun j M hj hI hpj => by
      subst hI
      have hw : IntKind.i64.wrap ((j : Int) + 1) = (j : Int) + 1 := i64_in (by omega) (by omega)
      obtain ⟨u, ⟨B, rfl, hB, hpB⟩, hu, hui, _⟩ := hN.item Zae Zb8 Zty hj
      have q := fun get => hr get _ B hB hpB (ha _ (List.getElem_mem hj))
      simp only [List.getElem?_eq_getElem hj, Option.map_some, Option.getD_some, Bool.not_eq_false'] at hpj
      rw [hpj] at q
      refine ⟨_, ?_, rfl⟩
      simp only [ndC] at hu q
      simp (maxSteps := 4000000) [Zlg, Zf, Zd, Ze, Zl, Zn, Zo, TK.agg, Zb, zeroS, Zi, Zg, splice, Zx, Z5, Zk, Zhe, clC, hlk, hln, hj, hu, hui, q, hw, Zz hN.sl])
    (fun j M hj hI hpj => by
      subst hI
      obtain ⟨u, ⟨B, rfl, hB, hpB⟩, hu, hui, _⟩ := hN.item Zae Zb8 Zty hj
      have q := fun get => hr get _ B hB hpB (ha _ (List.getElem_mem hj))
      simp only [List.getElem?_eq_getElem hj, Option.map_some, Option.getD_some, Bool.not_eq_true'] at hpj
      rw [hpj] at q
      simp only [ndC] at hu q
      simp (maxSteps := 4000000) [Zlg, Zf, Zd, Ze, Zl, Zn, Zo, TK.agg, Zb, zeroS, Zi, Zg, splice, Zx, Z5, Zk, Zhe, clC, hlk, hln, hj, hu, hui, q, Zz hN.sl])
    (fun M hI => by
      subst hI
      simp (maxSteps := 4000000) [Zlg, Zf, Zd, Ze, Zl, Zn, Zo, TK.agg, Zb, zeroS, Zi, Zg, splice, Zx, Z5, Zk, Zhe, clC, hln, Zz hN.sl]) _ rfl
  have hf := Zoz x.nodes (fun n => !Zi6 c n)
  cases hh : (List.range x.nodes.length).find? (fun j => (x.nodes[j]?.map fun n => !Zi6 c n).getD false) with
  | none =>
    rw [hh] at g2
    subst g2
    simp [Zhe] at g1
    have e := hf.1 hh
    generalize Zqc c x.on x.ages = ag at *
    simp only [decide_true, Bool.true_and, e, Bool.not_false]
    simp only [clC] at g1
    by_cases c2 : Zk8 x.start <;> simp (maxSteps := 4000000) [Zp6, Zf, Zd, Ze, Zl, Zn, Zo, TK.agg, Zb, zeroS, Zi, Zg, splice, Zx, Z5, Zk, clC, hlk, g0, k1, hln, ap, ap2, Zq9, g1, c2, hg, Zz hN.sl, Zax hN.sl, Zz hA.sl, Zax hA.sl]
  | some j =>
    rw [hh] at g2
    subst g2
    simp [Zhe] at g1
    have e : x.nodes.any (fun n => !Zi6 c n) = true := by
      cases hc : x.nodes.any (fun n => !Zi6 c n) with
      | true => rfl
      | false => rw [hf.2 hc] at hh; cases hh
    simp only [decide_true, Bool.true_and, e, Bool.not_true, Bool.false_and]
    simp only [clC] at g1
    simp (maxSteps := 4000000) [Zp6, Zf, Zd, Ze, Zl, Zn, Zo, TK.agg, Zb, zeroS, Zi, Zg, splice, Zx, Z5, Zk, clC, hlk, g0, k1, hln, ap, ap2, Zq9, g1, Zz hN.sl, Zax hN.sl, Zz hA.sl, Zax hA.sl]
set_option maxHeartbeats 8000000 in
theorem Zaey (get) {P L : SV} {c : Cfg} (hP : Zi2 c P L) (hfit : Zsf c = true) {x : SV} {l : List Cel} (hx : Zv7 x l) (hpx : Sh.pv x = true) (hs : Short l) : Za0 (PCw ES) get Ziq [.agg (Z7 c P L), x] = some (.bool (Zjn c l)) := by
  refine Z4 (Za4 (fun M0 => ?_) rfl) (by simp [hP.npA, Zac hpx])
  rw [Zadb]
  have k1 := fun get => Zyr get hP 0
  have hrf := Zgp (Zec.1 hfit).1
  have hin : (Zsf c && decide (Zam (0 : Int) c.parts.length)) = true := by
    have : Zam (0 : Int) c.parts.length := by unfold Zam; omega
    simp [hfit, this]
  rw [hin] at k1
  have hlx := hx.Zex Zav
  have hlp := hP.p.Zex Za1
  have hR := fun get (j : Nat) (hj : j < c.parts.length) (x : Cel) (N A : SV) (h1 : Nds N x.nodes) (h2 : Ints A x.ages) (h3 : Sh.pv N = true) (h4 : Sh.pv A = true) (h5 : x.nodes.length ≤ 1000000) (h6 : ∀ n ∈ x.nodes, n.ages.length ≤ 1000000) (h7 : x.ages.length ≤ 1000000) => Zaek get hP hfit hj h1 h2 h3 h4 h5 h6 h7
  have hlk : (Z7 c P L).length = 13 := rfl
  have hK0 : (Z7 c P L)[0]? = some P := rfl
  generalize Z7 c P L = K at *
  have g0 : K[0]'(by omega) = P := by simpa [hlk] using hK0
  by_cases c1 : l.length = c.parts.length
  case neg =>
    have c1' : ¬ (l.length : Int) = c.parts.length := by omega
    have : Zjn c l = false := by simp [Zjn, c1]
    rw [this]
    simp (maxSteps := 4000000) [Zp4, Zf, Zd, Ze, Zl, Zn, Zo, TK.agg, Zb, zeroS, Zi, Zg, splice, Zx, Z5, Zk, hlk, g0, k1, hlx, hlp, c1']
  rw [c1] at hlx
  have hcg : Zjn c l = ((List.range c.parts.length).find? (Znq c l)).isNone := by simp [Zjn, c1]
  rw [hcg]
  have turn : ∀ (j : Nat) (hj : j < c.parts.length), ∃ (N A : SV) (hjl : j < l.length), (its x)[j]? = some (.agg (clC l[j] N A)) ∧ Z9 ES.P Zt x (.int .i64 j) = some (.rptr (its x) j 0 (Zwi x)) ∧ Ztp N = true ∧ Ztp A = true ∧
      (∀ get, Za0 (PCw ES) get Zf1 [.agg K, .int .i64 j, .agg (clC l[j] N A)] = some (.bool (Zvc c c.parts[j].nodes l[j]))) := fun j hj => by
    have hjl : j < l.length := by omega
    obtain ⟨y, ⟨N, A, rfl, hN, hA, q1, q2⟩, hy, ha, _⟩ := hx.item Zav Zde Zwy hjl
    obtain ⟨s1, s2, s3⟩ := hs.2 l[j] (List.getElem_mem hjl)
    exact ⟨N, A, hjl, hy, ha, hN.sl, hA.sl, fun get => hR get j hj l[j] N A hN hA q1 q2 s1 s3 s2⟩
  obtain ⟨r, g1, g2⟩ := Zdc (E := ES) (me := Ziq) (B := Zli) (len := c.parts.length) (T := fun j => Zg9 x (.ptr M0.next 0 0) (.int .i64 j)) (I := fun _ M => M = (M0.bump 2).set M0.next (some [.agg K])) (p := Znq c l)
    (Q := fun o r => r = match o with
      | some _ => (.ret, ⟨(Zg9 .Z .Z .Z).set 4 (.bool false), (M0.bump 2).set M0.next (some [.agg K])⟩)
      | none => (.exit 0, ⟨(Zg9 x (.ptr M0.next 0 0) (.int .i64 c.parts.length)).set 20 (.bool false), (M0.bump 2).set M0.next (some [.agg K])⟩))
    (fun j M hj hI hpj => by
      subst hI
      have hw : IntKind.i64.wrap ((j : Int) + 1) = (j : Int) + 1 := i64_in (by omega) (by omega)
      obtain ⟨N, A, hjl, hy, ha, sN, sA, o2⟩ := turn j hj
      simp only [Znq, List.getElem?_eq_getElem hj, List.getElem?_eq_getElem hjl, Bool.not_eq_false'] at hpj
      rw [hpj] at o2
      refine ⟨_, ?_, rfl⟩
      simp only [clC] at hy o2
      simp (maxSteps := 4000000) [Zli, Zf, Zd, Ze, Zl, Zn, Zo, TK.agg, Zb, zeroS, Zi, Zg, splice, Zx, Z5, Zk, Zg9, hlk, hlx, hj, ha, hy, o2, hw])
    (fun j M hj hI hpj => by
      subst hI
      obtain ⟨N, A, hjl, hy, ha, sN, sA, o2⟩ := turn j hj
      simp only [Znq, List.getElem?_eq_getElem hj, List.getElem?_eq_getElem hjl, Bool.not_eq_true'] at hpj
      rw [hpj] at o2
      simp only [clC] at hy o2
      simp (maxSteps := 4000000) [Zli, Zf, Zd, Ze, Zl, Zn, Zo, TK.agg, Zb, zeroS, Zi, Zg, splice, Zx, Z5, Zk, Zg9, hlk, hlx, hj, ha, hy, o2])
    (fun M hI => by
      subst hI
      simp [Zli, Zf, Zd, Ze, Zl, TK.agg, zeroS, Zx, Z5, Zg9, hlx]) _ rfl
  cases hf : (List.range c.parts.length).find? (Znq c l) with
  | none =>
    rw [hf] at g2
    subst g2
    simp [Zg9] at g1
    simp (maxSteps := 4000000) [Zp4, Zf, Zd, Ze, Zl, Zn, Zo, TK.agg, Zb, zeroS, Zi, Zg, splice, Zx, Z5, Zk, hlk, g0, k1, hlx, hlp, Zqz, g1]
  | some j =>
    rw [hf] at g2
    subst g2
    simp [Zg9] at g1
    simp (maxSteps := 4000000) [Zp4, Zf, Zd, Ze, Zl, Zn, Zo, TK.agg, Zb, zeroS, Zi, Zg, splice, Zx, Z5, Zk, hlk, g0, k1, hlx, hlp, Zqz, g1]

end Go.Proofs.YtfphjfbknphhjaaGreatDoor
