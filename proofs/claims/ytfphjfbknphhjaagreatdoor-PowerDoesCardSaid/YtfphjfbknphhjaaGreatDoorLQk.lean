/-
  Walks of the seat's functions: Qk.
-/
import Derived.Test.YtfphjfbknphhjaaGreatDoorEb2
import Derived.Test.YtfphjfbknphhjaaGreatDoorShMb
import Derived.Test.YtfphjfbknphhjaaGreatDoorLQh
set_option linter.unusedVariables false
set_option linter.unusedSimpArgs false
set_option maxRecDepth 100000
namespace Go.Proofs.YtfphjfbknphhjaaGreatDoor
open Go.Proofs.YtfphjfbknphhjaaGreatDoor.Sh
/-! The document's own: what an event names, which nodes it means, a node put on or off; are two the same. -/
set_option maxHeartbeats 8000000 in
theorem Zad4 (get) {P L : SV} {c : Cfg} (hP : Zi2 c P L) {e : Evt} {ey : SV} (hey : EvR ey e) : Za0 (PCw ES) get Zni [.agg (Z7 c P L), ey] = some (.bool (Ze8 c e)) := by
  have hpe := hey.pv
  refine Z4 (Za4 (fun M0 => ?_) rfl) (by simp [hP.npA, Zac hpe])
  rw [Zad3]
  obtain ⟨B, rfl, hB, hpB⟩ := hey
  have hlp := hP.p.Zex Za1
  have hll := hP.l.Zex Zbi
  have apP := fun {j : Nat} (hj : j < c.parts.length) => Parts.at hP.p hj
  have hlk : (Z7 c P L).length = 13 := rfl
  have hK0 : (Z7 c P L)[0]? = some P := rfl
  have hK1 : (Z7 c P L)[1]? = some L := rfl
  generalize Z7 c P L = K at *
  have g0 : K[0]'(by omega) = P := by simpa [hlk] using hK0
  have g1 : K[1]'(by omega) = L := by simpa [hlk] using hK1
  have hbC := Zz hB.sl
  have hbS := Zax hB.sl
  unfold Ze8
  by_cases f6 : e.kind = 6 ∨ e.kind = 7
  · simp only [f6, if_true]
    unfold Zam
    have d6 : ∀ q, Zoq ES.P .eql Zc q (.int .i64 e.kind) (.int .i64 6) = some (.bool (decide (e.kind = 6))) := fun q => by simp
    by_cases c1 : 0 ≤ e.a
    case neg => rcases f6 with f | f <;> simp (maxSteps := 4000000) [Zgv, Zf, Zd, Ze, Zl, Zn, Zo, TK.agg, Zb, zeroS, Zi, Zg, splice, Zx, Z5, Zk, evC, f, c1, hbC, hbS]
    by_cases c2 : e.a < c.links.length
    case neg => rcases f6 with f | f <;> simp (maxSteps := 4000000) [Zgv, Zf, Zd, Ze, Zl, Zn, Zo, TK.agg, Zb, zeroS, Zi, Zg, splice, Zx, Z5, Zk, evC, f, c1, c2, hlk, g1, hll, hbC, hbS]
    by_cases c3 : 0 ≤ e.b
    case neg => rcases f6 with f | f <;> simp (maxSteps := 4000000) [Zgv, Zf, Zd, Ze, Zl, Zn, Zo, TK.agg, Zb, zeroS, Zi, Zg, splice, Zx, Z5, Zk, evC, f, c1, c2, c3, hlk, g1, hll, hbC, hbS]
    rcases f6 with f | f <;> simp (maxSteps := 4000000) [Zgv, Zf, Zd, Ze, Zl, Zn, Zo, TK.agg, Zb, zeroS, Zi, Zg, splice, Zx, Z5, Zk, evC, f, c1, c2, c3, hlk, g1, hll, hbC, hbS]
  · have f1 : ¬ e.kind = 6 := by omega
    have f2 : ¬ e.kind = 7 := by omega
    simp only [f6, if_false]
    by_cases c1 : e.a < 0
    · have q : ¬ Zam e.a c.parts.length := by unfold Zam; omega
      simp (maxSteps := 4000000) [Zgv, Zf, Zd, Ze, Zl, Zn, Zo, TK.agg, Zb, zeroS, Zi, Zg, splice, Zx, Z5, Zk, evC, f1, f2, c1, q, hlk, hbC, hbS]
    by_cases c2 : (c.parts.length : Int) ≤ e.a
    · have q : ¬ Zam e.a c.parts.length := by unfold Zam; omega
      simp (maxSteps := 4000000) [Zgv, Zf, Zd, Ze, Zl, Zn, Zo, TK.agg, Zb, zeroS, Zi, Zg, splice, Zx, Z5, Zk, evC, f1, f2, c1, c2, q, hlk, g0, hlp, hbC, hbS]
    have q : Zam e.a c.parts.length := by unfold Zam; omega
    by_cases f3 : e.kind = 4
    · simp (maxSteps := 4000000) [Zgv, Zf, Zd, Ze, Zl, Zn, Zo, TK.agg, Zb, zeroS, Zi, Zg, splice, Zx, Z5, Zk, evC, f3, c1, c2, q, hlk, g0, hlp, hbC, hbS]
    by_cases f4 : e.kind = 5
    · simp (maxSteps := 4000000) [Zgv, Zf, Zd, Ze, Zl, Zn, Zo, TK.agg, Zb, zeroS, Zi, Zg, splice, Zx, Z5, Zk, evC, f4, c1, c2, q, hlk, g0, hlp, hbC, hbS]
    obtain ⟨p, hpa⟩ : ∃ p : Nat, e.a = p := ⟨e.a.toNat, by omega⟩
    have hp : p < c.parts.length := by omega
    have hna : Zbx c e.a = c.parts[p].nodes := by rw [hpa]; exact Zk2 hp
    have ap := apP hp
    have ap2 : (c.parts.map Zc9)[p]? = some (.agg [.int .i64 c.parts[p].nodes, .int .i64 c.parts[p].faults]) := by rw [List.getElem?_map, List.getElem?_eq_getElem hp]; rfl
    generalize c.parts.map Zc9 = ps at ap ap2
    rw [hna]
    generalize c.parts[p].nodes = N at *
    have q' : Zam (p : Int) c.parts.length := by rw [← hpa]; exact q
    have c2' : ¬ c.parts.length ≤ p := by omega
    have c1' : ¬ (p : Int) < 0 := by omega
    rw [hpa]
    unfold Zam at q' ⊢
    by_cases c3 : 0 ≤ e.b <;>
      simp (maxSteps := 4000000) [Zgv, Zf, Zd, Ze, Zl, Zn, Zo, TK.agg, Zb, zeroS, Zi, Zg, splice, Zx, Z5, Zk, evC, f1, f2, f3, f4, hpa, c1', c2', q'.2, c3, hlk, g0, hlp, ap, ap2, hp, hbC, hbS]
theorem Zaa2 (get) {n : Node} {A : SV} (hA : Ints A n.ages) (hpA : Sh.pv A = true) : Za0 (PCw ES) get Zob [.agg (ndC n A)] = some (.agg (ndC (Z2p n) .nilsl)) := by
  refine Z4 (Za4 (fun M0 => ?_) (Zt3 rfl)) (by simp [Zac (Zt3 (n := n) hpA)])
  rw [Zals]
  simp (maxSteps := 4000000) [Z05, Zf, Zd, Ze, Zl, Zn, Zo, TK.agg, Zb, zeroS, Zi, Zg, splice, Zx, Z5, Zk, ndC, Z2p, Zny, placesOf, Zeb, Zz hA.sl, Zax hA.sl]
set_option maxHeartbeats 8000000 in
theorem Zaf6 {P L : SV} {c : Cfg} (hP : Zi2 c P L) {n : Node} {A : SV} (hA : Ints A n.ages) (hpA : Sh.pv A = true) (hb : n.ages.length ≤ 1000000) {now : Int} (hw : Znu now = true → I64 (now * c.cycle)) : ∃ y, (∀ get, Za0 (PCw ES) get Zjq [.agg (Z7 c P L), .agg (ndC n A), .int .i64 now] = some y) ∧ NdR y (if Zsf c && Znu now then onN c n now else n) := by
  obtain ⟨A', a1, a2, a3⟩ := Z6o hA hb
  have k1 := fun get => Z8w get hP
  have hlk : (Z7 c P L).length = 13 := rfl
  have hK2 : (Z7 c P L)[2]? = some (.int .i64 c.cycle) := rfl
  have hnK := hP.npA
  generalize Z7 c P L = K at *
  have hK2' : K[2]'(by omega) = .int .i64 c.cycle := by simpa [hlk] using hK2
  have run : ∀ y, Sh.pv y = true → (∀ M0, ∃ M', ICw ES Zjq [.agg K, .agg (ndC n A), .int .i64 now] M0 = some (y, M')) → ∀ get, Za0 (PCw ES) get Zjq [.agg K, .agg (ndC n A), .int .i64 now] = some y := fun y hy h get => Z4 (Za4 h hy) (by simp [hnK, Zac (Zt3 (n := n) hpA)])
  have cA := Zz hA.sl
  have sA := Zax hA.sl
  have cA2 := Zz a2.sl
  have sA2 := Zax a2.sl
  have same : (∀ M0, ∃ M', ICw ES Zjq [.agg K, .agg (ndC n A), .int .i64 now] M0 = some (.agg (ndC n A'), M')) → ∃ y, (∀ get, Za0 (PCw ES) get Zjq [.agg K, .agg (ndC n A), .int .i64 now] = some y) ∧ NdR y n := fun h => ⟨_, run _ (Zt3 a3) h, ⟨A', rfl, a2, a3⟩⟩
  unfold Zsf Znu
  by_cases c1 : n.state = 0
  case neg =>
    have : (if ((Zsj c).1 == 0 && decide (0 ≤ now ∧ now ≤ 1000)) = true then onN c n now else n) = n := by unfold onN; rw [if_neg c1]; split <;> rfl
    rw [this]
    refine same (fun M0 => ?_)
    rw [Zu1]
    simp (maxSteps := 4000000) [Zsd, Zf, Zd, Ze, Zl, Zn, Zo, TK.agg, Zb, zeroS, Zi, Zg, splice, Zx, Z5, Zk, ndC, hlk, k1, a1, c1, cA, sA, cA2, sA2]
  by_cases c2 : (Zsj c).1 = 0
  case neg =>
    have : (if ((Zsj c).1 == 0 && decide (0 ≤ now ∧ now ≤ 1000)) = true then onN c n now else n) = n := by simp [c2]
    rw [this]
    refine same (fun M0 => ?_)
    rw [Zu1]
    simp (maxSteps := 4000000) [Zsd, Zf, Zd, Ze, Zl, Zn, Zo, TK.agg, Zb, zeroS, Zi, Zg, splice, Zx, Z5, Zk, ndC, hlk, k1, a1, c1, c2, cA, sA, cA2, sA2]
  by_cases c3 : now < 0
  · have : (if ((Zsj c).1 == 0 && decide (0 ≤ now ∧ now ≤ 1000)) = true then onN c n now else n) = n := by
      have : ¬ (0 ≤ now ∧ now ≤ 1000) := by omega
      simp [this]
    rw [this]
    refine same (fun M0 => ?_)
    rw [Zu1]
    simp (maxSteps := 4000000) [Zsd, Zf, Zd, Ze, Zl, Zn, Zo, TK.agg, Zb, zeroS, Zi, Zg, splice, Zx, Z5, Zk, ndC, hlk, k1, a1, c1, c2, c3, cA, sA, cA2, sA2]
  by_cases c4 : 1000 < now
  · have : (if ((Zsj c).1 == 0 && decide (0 ≤ now ∧ now ≤ 1000)) = true then onN c n now else n) = n := by
      have : ¬ (0 ≤ now ∧ now ≤ 1000) := by omega
      simp [this]
    rw [this]
    refine same (fun M0 => ?_)
    rw [Zu1]
    simp (maxSteps := 4000000) [Zsd, Zf, Zd, Ze, Zl, Zn, Zo, TK.agg, Zb, zeroS, Zi, Zg, splice, Zx, Z5, Zk, ndC, hlk, k1, a1, c1, c2, c3, c4, cA, sA, cA2, sA2]
  have q : 0 ≤ now ∧ now ≤ 1000 := by omega
  have w := (hw (by simp [Znu, q])).wrap
  have : (if ((Zsj c).1 == 0 && decide (0 ≤ now ∧ now ≤ 1000)) = true then onN c n now else n) = ⟨1, 0, n.drift, now * c.cycle, 0, [], 0, n.Z⟩ := by simp [c2, q, onN, c1]
  rw [this]
  refine ⟨.agg (ndC ⟨1, 0, n.drift, now * c.cycle, 0, [], 0, n.Z⟩ .nilsl), run _ (Zt3 rfl) (fun M0 => ?_), ⟨.nilsl, rfl, RSl.nil _, rfl⟩⟩
  rw [Zu1]
  simp (maxSteps := 4000000) [Zsd, Zf, Zd, Ze, Zl, Zn, Zo, TK.agg, Zb, zeroS, Zi, Zg, splice, Zx, Z5, Zk, ndC, hlk, hK2', k1, a1, c1, c2, c3, c4, w, Zny, placesOf, Zeb, cA, sA, cA2, sA2]
theorem NdR.cells {y : SV} {n : Node} (h : NdR y n) : y.cells.length = 8 ∧ y.sto = true ∧ ∃ cs, y = .agg cs ∧ cs.length = 8 := by
  obtain ⟨A, rfl, _, _⟩ := h
  exact ⟨rfl, rfl, _, rfl, rfl⟩
set_option maxHeartbeats 8000000 in
theorem Zab8 {P L : SV} {c : Cfg} (hP : Zi2 c P L) {n : Node} {A : SV} (hA : Ints A n.ages) (hpA : Sh.pv A = true) (hb : n.ages.length ≤ 1000000) {now : Int} (hw : I64 (now * c.cycle)) (hfn : (Zsf c && Znu now) = true) (b : Bool) :
    ∃ y, (∀ get, Za0 (PCw ES) get Zim [.agg (Z7 c P L), .agg (ndC n A), .int .i64 now, .bool b] = some y) ∧ NdR y (if b then onN c n now else Z2p n) := by
  obtain ⟨y, y1, y2⟩ := Zaf6 hP hA hpA hb (fun _ => hw)
  rw [if_pos hfn] at y2
  have hoff := fun get => Zaa2 get hA hpA
  have hlk : (Z7 c P L).length = 13 := rfl
  have hnK := hP.npA
  generalize Z7 c P L = K at *
  cases b with
  | true =>
    refine ⟨y, fun get => Z4 (Za4 (fun M0 => ?_) y2.pv) (by simp [hnK, Zac (Zt3 (n := n) hpA)]), y2⟩
    rw [Zxa]
    obtain ⟨q1, q2, cs, rfl, q3⟩ := y2.cells
    simp only [ndC] at y1 ⊢
    simp (maxSteps := 4000000) [Zqv, Zf, Zd, Ze, Zl, Zn, Zo, TK.agg, Zb, zeroS, Zi, Zg, splice, Zx, Z5, Zk, hlk, y1, q3, Zz hA.sl, Zax hA.sl]
  | false =>
    refine ⟨_, fun get => Z4 (Za4 (fun M0 => ?_) (Zt3 rfl)) (by simp [hnK, Zac (Zt3 (n := n) hpA)]), ⟨.nilsl, rfl, RSl.nil _, rfl⟩⟩
    rw [Zxa]
    simp only [ndC] at hoff ⊢
    simp (maxSteps := 4000000) [Zqv, Zf, Zd, Ze, Zl, Zn, Zo, TK.agg, Zb, zeroS, Zi, Zg, splice, Zx, Z5, Zk, hlk, hoff, Z2p, Zz hA.sl, Zax hA.sl]
set_option maxHeartbeats 8000000 in
theorem Z16 (get) {n : Node} {A A' : SV} (hA : Ints A n.ages) (hA' : Ints A' n.ages) (hpA : Sh.pv A = true) (hpA' : Sh.pv A' = true) (hb : n.ages.length ≤ 1000000) : Za0 (PCw ES) get Zdy [.agg (ndC n A), .agg (ndC n A')] = some (.bool true) := by
  refine Z4 (Za4 (fun M0 => ?_) rfl) (by simp [Zac (Zt3 (n := n) hpA), Zac (Zt3 (n := n) hpA')])
  rw [Z3a]
  have k := fun get => Zuu get hA hA' hb
  simp (maxSteps := 4000000) [Zq4, Zf, Zd, Ze, Zl, Zn, Zo, TK.agg, Zb, zeroS, Zi, Zg, splice, Zx, Z5, Zk, ndC, k, Zz hA.sl, Zax hA.sl, Zz hA'.sl, Zax hA'.sl]
theorem Zwq (get) {y z : SV} {n : Node} (hy : NdR y n) (hz : NdR z n) (hb : n.ages.length ≤ 1000000) : Za0 (PCw ES) get Zdy [y, z] = some (.bool true) := by
  obtain ⟨A, rfl, h1, h2⟩ := hy
  obtain ⟨A', rfl, h3, h4⟩ := hz
  exact Z16 get h1 h3 h2 h4 hb
set_option maxHeartbeats 8000000 in
theorem Z0o (get) {b : Bool} {st : Int} {l : List Int} {A A' : SV} (hA : Ints A l) (hA' : Ints A' l) (hpA : Sh.pv A = true) (hpA' : Sh.pv A' = true) (hb : l.length ≤ 1000000) : Za0 (PCw ES) get Zgr [.agg [.bool b, .int .i64 st, A], .agg [.bool b, .int .i64 st, A']] = some (.bool true) := by
  have q1 : Sh.pv (.agg [.bool b, .int .i64 st, A]) = true := by simp [Sh.pv, pvs, hpA]
  have q2 : Sh.pv (.agg [.bool b, .int .i64 st, A']) = true := by simp [Sh.pv, pvs, hpA']
  refine Z4 (Za4 (fun M0 => ?_) rfl) (by simp [Zac q1, Zac q2])
  rw [Z0y]
  have k := fun get => Zuu get hA hA' hb
  have be : ∀ q : Bool, Zoq ES.P .eql Zbm q (.bool b) (.bool b) = some (.bool true) := fun q => by cases b <;> rfl
  simp (maxSteps := 4000000) [Zpy, Zf, Zd, Ze, Zl, Zn, Zo, TK.agg, Zb, zeroS, Zi, Zg, splice, Zx, Z5, Zk, k, be, Zz hA.sl, Zax hA.sl, Zz hA'.sl, Zax hA'.sl]
set_option maxHeartbeats 8000000 in
theorem Z3g (get) {x : Cel} {y z : SV} (hy : ClR y x) (hz : ClR z x) (hb : x.nodes.length ≤ 1000000) (ha : ∀ n ∈ x.nodes, n.ages.length ≤ 1000000) (hb2 : x.ages.length ≤ 1000000) : Za0 (PCw ES) get Zfb [y, z] = some (.bool true) := by
  obtain ⟨N, A, rfl, hN, hA, p1, p2⟩ := hy
  obtain ⟨N', A', rfl, hN', hA', p3, p4⟩ := hz
  refine Z4 (Za4 (fun M0 => ?_) rfl) (by simp [Zac (clPv (x := x) p1 p2), Zac (clPv (x := x) p3 p4)])
  rw [Z2c]
  have hln := hN.Zex Zae
  have hln' := hN'.Zex Zae
  have kg := fun get => Z0o get (b := x.on) (st := x.start) hA hA' p2 p4 hb2
  obtain ⟨r, g1, M', rfl⟩ := Zke (E := ES) (me := Zfb) (B := Zk4) (len := x.nodes.length) (T := fun j => Zja (.ptr M0.next 0 0) (.ptr (M0.next + 1) 0 0) (.int .i64 j)) (I := fun _ M => M = ((M0.bump 3).set M0.next (some [.agg (clC x N A)])).set (M0.next + 1) (some [.agg (clC x N' A')]))
    (Q := fun r => ∃ M', r = (.exit 0, ⟨(Zja (.ptr M0.next 0 0) (.ptr (M0.next + 1) 0 0) (.int .i64 x.nodes.length)).set 25 (.bool false), M'⟩))
    (fun j M hj hI => by
      left
      subst hI
      have hw : IntKind.i64.wrap ((j : Int) + 1) = (j : Int) + 1 := i64_in (by omega) (by omega)
      obtain ⟨u, u1, u2, u3, _⟩ := hN.item Zae Zb8 Zty hj
      obtain ⟨v, v1, v2, v3, _⟩ := hN'.item Zae Zb8 Zty hj
      have k := fun get => Zwq get u1 v1 (ha _ (List.getElem_mem hj))
      obtain ⟨_, _, cu, rfl, cl⟩ := u1.cells
      obtain ⟨_, _, cv, rfl, cl'⟩ := v1.cells
      refine ⟨_, ?_, rfl⟩
      simp (maxSteps := 4000000) [Zk4, Zf, Zd, Ze, Zl, Zn, Zo, TK.agg, Zb, zeroS, Zi, Zg, splice, Zx, Z5, Zk, Zja, clC, hln, hln', hj, u2, u3, v2, v3, cl, cl', k, hw])
    (fun M hI => by
      have m0 : M.blk M0.next = some [.agg (clC x N A)] := by rw [hI]; simp
      simp only [clC] at m0
      exact ⟨_, by simp (maxSteps := 4000000) [Zk4, Zf, Zd, Ze, Zl, Zn, Zo, TK.agg, Zb, zeroS, Zi, Zg, splice, Zx, Z5, Zk, Zja, m0, hln], by simp, M, rfl⟩) 0 _ (by omega) rfl
  simp [Zja] at g1
  simp only [clC] at g1 ⊢
  simp (maxSteps := 4000000) [Zq7, Zf, Zd, Ze, Zl, Zn, Zo, TK.agg, Zb, zeroS, Zi, Zg, splice, Zx, Z5, Zk, hln, hln', kg, Zrq, g1, Zz hN.sl, Zax hN.sl, Zz hA.sl, Zax hA.sl, Zz hN'.sl, Zax hN'.sl, Zz hA'.sl, Zax hA'.sl]
set_option maxHeartbeats 8000000 in
theorem Zsv (get) {y z : SV} {l : List Cel} (hy : Zv7 y l) (hz : Zv7 z l) (py : Sh.pv y = true) (pz : Sh.pv z = true) (hs : Short l) : Za0 (PCw ES) get Zdw [y, z] = some (.bool true) := by
  refine Z4 (Za4 (fun M0 => ?_) rfl) (by simp [Zac py, Zac pz])
  rw [Zze]
  have hly := hy.Zex Zav
  have hlz := hz.Zex Zav
  have hl1 := hs.1
  obtain ⟨r, g1, M', rfl⟩ := Zke (E := ES) (me := Zdw) (B := Zjp) (len := l.length) (T := fun j => Zia y z (.int .i64 j)) (I := fun _ _ => True)
    (Q := fun r => ∃ M', r = (.exit 0, ⟨(Zia y z (.int .i64 l.length)).set 14 (.bool false), M'⟩))
    (fun j M hj _ => by
      left
      have hw : IntKind.i64.wrap ((j : Int) + 1) = (j : Int) + 1 := i64_in (by omega) (by omega)
      obtain ⟨u, u1, u2, u3, _⟩ := hy.item Zav Zde Zwy hj
      obtain ⟨v, v1, v2, v3, _⟩ := hz.item Zav Zde Zwy hj
      obtain ⟨s1, s2, s3⟩ := hs.2 l[j] (List.getElem_mem hj)
      have k := fun get => Z3g get u1 v1 s1 s3 s2
      obtain ⟨N, A, rfl, _, _, _, _⟩ := u1
      obtain ⟨N', A', rfl, _, _, _, _⟩ := v1
      simp only [clC] at u2 v2 k
      refine ⟨M, ?_, trivial⟩
      simp (maxSteps := 4000000) [Zjp, Zf, Zd, Ze, Zl, Zn, Zo, TK.agg, Zb, zeroS, Zi, Zg, splice, Zx, Z5, Zk, Zia, hly, hj, u2, u3, v2, v3, k, hw])
    (fun M _ => ⟨_, by simp [Zjp, Zf, Zd, Ze, Zl, TK.agg, zeroS, Zx, Z5, Zia, hly], by simp, M, rfl⟩) 0 M0 (by omega) trivial
  simp [Zia] at g1
  simp [Zqh, Zf, Zd, Ze, Zl, TK.agg, zeroS, Zx, Z5, hly, hlz, Zqs, g1]

end Go.Proofs.YtfphjfbknphhjaaGreatDoor
