/-
  Walks of the seat's functions: Qp.
-/
import Derived.Test.YtfphjfbknphhjaaGreatDoorEb2
import Derived.Test.YtfphjfbknphhjaaGreatDoorShMb
import Derived.Test.YtfphjfbknphhjaaGreatDoorLQh
set_option linter.unusedVariables false
set_option linter.unusedSimpArgs false
set_option maxRecDepth 100000
namespace Go.Proofs.YtfphjfbknphhjaaGreatDoor
open Go.Proofs.YtfphjfbknphhjaaGreatDoor.Sh
/-! The document's own: which nodes an event means. -/
set_option maxHeartbeats 8000000 in
theorem Zadl (get) {P L : SV} {c : Cfg} (hP : Zi2 c P L) {e : Evt} {ey : SV} (hey : EvR ey e) (ht : Ze8 c e = true) (p k : Int) : Za0 (PCw ES) get Zl2 [.agg (Z7 c P L), ey, .int .i64 p, .int .i64 k] = some (.bool (Zxl c e p k)) := by
  have hpe := hey.pv
  refine Z4 (Za4 (fun M0 => ?_) rfl) (by simp [hP.npA, Zac hpe])
  rw [Zad1]
  obtain ⟨B, rfl, hB, hpB⟩ := hey
  have apL := fun {j : Nat} (hj : j < c.links.length) => Links.at hP.l hj
  have hlk : (Z7 c P L).length = 13 := rfl
  have hK1 : (Z7 c P L)[1]? = some L := rfl
  generalize Z7 c P L = K at *
  have g1 : K[1]'(by omega) = L := by simpa [hlk] using hK1
  have hbC := Zz hB.sl
  have hbS := Zax hB.sl
  unfold Zxl
  unfold Ze8 at ht
  by_cases f6 : e.kind = 6 ∨ e.kind = 7
  · simp only [f6, if_true] at ht ⊢
    simp only [Bool.and_eq_true, decide_eq_true_eq] at ht
    unfold Zam at ht
    obtain ⟨j, hja⟩ : ∃ j : Nat, e.a = j := ⟨e.a.toNat, by omega⟩
    have hj : j < c.links.length := by omega
    have ap := apL hj
    have ap2 : (c.links.map Za2)[j]? = some (.agg [.int .i64 c.links[j].a, .int .i64 c.links[j].b, .int .i64 c.links[j].pa0, .int .i64 c.links[j].pa1, .int .i64 c.links[j].pb0, .int .i64 c.links[j].pb1]) := by rw [List.getElem?_map, List.getElem?_eq_getElem hj]; rfl
    have hl2 : c.links[e.a.toNat]? = some c.links[j] := by rw [hja]; simp [hj]
    rw [hl2]
    dsimp only
    generalize c.links.map Za2 = ls at ap ap2
    generalize c.links[j] = w at *
    have f4 : ¬ e.kind = 4 := by omega
    obtain ⟨G, hG, hG2⟩ : ∃ G : Nat, e.b = G ∧ G < 2 := ⟨e.b.toNat, by omega, by omega⟩
    have i1 : ∀ q o : Nat, Z9 ES.P Zaq (.ptr q 0 o) (.int .i64 e.b) = some (.ptr q 0 (o + G)) := fun q o => by
      rw [hG]
      simp [Z9, Zs4, hG2]
    have l1 : ∀ (get : Nat → Option (List SV)) (q : Nat), get q = some [Za2 w] → Zn ES.P get Zc (.ptr q 0 (2 + G)) = some (.int .i64 (Zd5 w.pa0 w.pa1 e.b)) := fun get q hg => by
      rcases (show G = 0 ∨ G = 1 by omega) with rfl | rfl
      · have g : e.b = 0 := by omega
        rw [g]
        exact Zij Zes hg (x := Za2 w) rfl rfl
      · have g : e.b = 1 := by omega
        rw [g]
        exact Zij Zes hg (x := Za2 w) rfl rfl
    have l2 : ∀ (get : Nat → Option (List SV)) (q : Nat), get q = some [Za2 w] → Zn ES.P get Zc (.ptr q 0 (4 + G)) = some (.int .i64 (Zd5 w.pb0 w.pb1 e.b)) := fun get q hg => by
      rcases (show G = 0 ∨ G = 1 by omega) with rfl | rfl
      · have g : e.b = 0 := by omega
        rw [g]
        exact Zij Zes hg (x := Za2 w) rfl rfl
      · have g : e.b = 1 := by omega
        rw [g]
        exact Zij Zes hg (x := Za2 w) rfl rfl
    have l3 : ∀ (get : Nat → Option (List SV)) (q : Nat), get q = some [Za2 w] → Zn ES.P get Zc (.ptr q 0 0) = some (.int .i64 w.a) ∧ Zn ES.P get Zc (.ptr q 0 1) = some (.int .i64 w.b) := fun get q hg =>
      ⟨Zij Zes hg (x := Za2 w) rfl rfl, Zij Zes hg (x := Za2 w) rfl rfl⟩
    have l4 : ∀ (get : Nat → Option (List SV)) (u : Nat), get u = some [.agg [.int .i64 e.kind, .int .i64 e.a, .int .i64 e.b, .int .i64 e.v, B]] → Zn ES.P get Zc (.ptr u 0 0) = some (.int .i64 e.kind) ∧ Zn ES.P get Zc (.ptr u 0 1) = some (.int .i64 e.a) ∧ Zn ES.P get Zc (.ptr u 0 2) = some (.int .i64 e.b) := fun get u hg => by
      simp [Zn, hg, Zo, TK.agg]
    have lK : ∀ (get : Nat → Option (List SV)) (u : Nat), get u = some [.agg K] → Zn ES.P get Zr (.ptr u 0 1) = some L := fun get u hg => by
      simp [Zn, hg, Zo, TK.agg, hlk, g1]
    have lL : ∀ get st, Zn ES.P get Zw (.rptr ls j 0 st) = some (.agg [.int .i64 w.a, .int .i64 w.b, .int .i64 w.pa0, .int .i64 w.pa1, .int .i64 w.pb0, .int .i64 w.pb1]) := fun get st => Zl4 Zlw ap2 (by simp [Zo, TK.agg])
    rw [← hja] at ap
    generalize Zd5 w.pa0 w.pa1 e.b = ga at *
    generalize Zd5 w.pb0 w.pb1 e.b = gb at *
    rcases f6 with f | f
    all_goals
      rw [f] at l4
      by_cases c1 : p = w.a
      · by_cases c2 : k = ga
        · simp (maxSteps := 4000000) [Zhy, Zf, Zl, TK.agg, Zb, zeroS, Zx, Z5, evC, f, i1, l1, l2, l3, l4, lK, lL, Zi, Zg, ap, c1, c2, hbC, hbS]
        by_cases c3 : p = w.b
        · have q1 : decide (p = w.a) = true := by simp [c1]
          have q3 : decide (p = w.b) = true := by simp [c3]
          clear c1 c3
          simp (maxSteps := 4000000) [Zhy, Zf, Zl, TK.agg, Zb, zeroS, Zx, Z5, evC, f, i1, l1, l2, l3, l4, lK, lL, Zi, Zg, ap, q1, q3, c2, hbC, hbS]
        · have c3' : ¬ w.a = w.b := by omega
          simp (maxSteps := 4000000) [Zhy, Zf, Zl, TK.agg, Zb, zeroS, Zx, Z5, evC, f, i1, l1, l2, l3, l4, lK, lL, Zi, Zg, ap, c1, c2, c3', hbC, hbS]
      · by_cases c3 : p = w.b
        · have c1' : ¬ w.b = w.a := by omega
          simp (maxSteps := 4000000) [Zhy, Zf, Zl, TK.agg, Zb, zeroS, Zx, Z5, evC, f, i1, l1, l2, l3, l4, lK, lL, Zi, Zg, ap, c1', c3, hbC, hbS]
        · simp (maxSteps := 4000000) [Zhy, Zf, Zl, TK.agg, Zb, zeroS, Zx, Z5, evC, f, i1, l1, l2, l3, l4, lK, lL, Zi, Zg, ap, c1, c3, hbC, hbS]
  · have f1 : ¬ e.kind = 6 := by omega
    have f2 : ¬ e.kind = 7 := by omega
    simp only [f6, if_false]
    by_cases f3 : e.kind = 4
    · simp (maxSteps := 4000000) [Zhy, Zf, Zd, Ze, Zl, Zn, Zo, TK.agg, Zb, zeroS, Zi, Zg, splice, Zx, Z5, Zk, evC, f3, hlk, hbC, hbS]
    by_cases f4 : e.kind = 5
    · simp (maxSteps := 4000000) [Zhy, Zf, Zd, Ze, Zl, Zn, Zo, TK.agg, Zb, zeroS, Zi, Zg, splice, Zx, Z5, Zk, evC, f4, hlk, hbC, hbS]
    by_cases c1 : p = e.a <;> simp (maxSteps := 4000000) [Zhy, Zf, Zd, Ze, Zl, Zn, Zo, TK.agg, Zb, zeroS, Zi, Zg, splice, Zx, Z5, Zk, evC, f1, f2, f3, f4, c1, hlk, hbC, hbS]

end Go.Proofs.YtfphjfbknphhjaaGreatDoor
