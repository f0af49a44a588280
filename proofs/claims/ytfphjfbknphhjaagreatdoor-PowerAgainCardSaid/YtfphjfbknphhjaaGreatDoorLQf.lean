/-
  Walks of the seat's functions: Qf.
-/
import Derived.Test.YtfphjfbknphhjaaGreatDoorEb2
import Derived.Test.YtfphjfbknphhjaaGreatDoorShMb
import Derived.Test.YtfphjfbknphhjaaGreatDoorLQc
import Derived.Test.YtfphjfbknphhjaaGreatDoorLQe
import Derived.Test.YtfphjfbknphhjaaGreatDoorLzMr
set_option linter.unusedVariables false
set_option linter.unusedSimpArgs false
set_option maxRecDepth 100000
namespace Go.Proofs.YtfphjfbknphhjaaGreatDoor
open Go.Proofs.YtfphjfbknphhjaaGreatDoor.Sh
/-! An event, and whether it may befall; which nodes it means; what a node becomes. -/
def evC (e : Evt) (B : SV) : List SV := [.int .i64 e.kind, .int .i64 e.a, .int .i64 e.b, .int .i64 e.v, B]
def EvR (y : SV) (e : Evt) : Prop := ∃ B, y = .agg (evC e B) ∧ Bytes B e.body ∧ Sh.pv B = true
theorem EvR.pv {y : SV} {e : Evt} (h : EvR y e) : Sh.pv y = true := by
  obtain ⟨B, rfl, _, hB⟩ := h
  simp [Sh.pv, pvs, evC, hB]
def Short (l : List Cel) : Prop := l.length ≤ 1000000 ∧ ∀ x ∈ l, x.nodes.length ≤ 1000000 ∧ x.ages.length ≤ 1000000 ∧ ∀ n ∈ x.nodes, n.ages.length ≤ 1000000
def Zno (q : Nat × Nat) : SV := .agg [.int .i64 q.1, .int .i64 q.2]
theorem Zw6 (get) {P L : SV} {c : Cfg} (hP : Zi2 c P L) (now : Int) : Za0 (PCw ES) get Zg5 [.agg (Z7 c P L), .int .i64 now] = some (.bool (Zsf c && Znu now)) := by
  refine Z4 (Za4 (fun M0 => ?_) rfl) (by simp [hP.npA])
  rw [Zabr]
  have k := fun get => Zv4 get hP
  have hlk : (Z7 c P L).length = 13 := rfl
  unfold Zsf Znu
  generalize Z7 c P L = K at *
  by_cases h1 : (Zsj c).1 = 0
  case neg => simp [Zqr, Zf, Zd, Ze, Zl, Zn, Zo, TK.agg, Zb, zeroS, Zi, Zg, splice, Zx, Z5, Zk, hlk, k, h1]
  by_cases h2 : 0 ≤ now <;> by_cases h3 : now ≤ 1000 <;> simp [Zqr, Zf, Zd, Ze, Zl, Zn, Zo, TK.agg, Zb, zeroS, Zi, Zg, splice, Zx, Z5, Zk, hlk, k, h1, h2, h3]
theorem Zhg (get) (n k : Int) : Za0 (PCw ES) get Zfc [.int .i64 n, .int .i64 k] = some (.bool (decide (Zam n k))) := by
  refine Z4 (Za4 (fun M0 => ?_) rfl) rfl
  rw [Z5v]
  unfold Zam
  by_cases h1 : 0 ≤ n <;> by_cases h2 : n < k <;> simp [Zr3, Zf, Zd, Ze, Zl, Zn, Zo, TK.agg, Zb, zeroS, Zi, Zg, splice, Zx, Z5, Zk, h1, h2]
theorem Zz9 (get) {n : Node} {A : SV} (hA : Ints A n.ages) (hpA : Sh.pv A = true) : Za0 (PCw ES) get Zj6 [.agg (ndC n A)] = some (.agg (ndC (Z2p n) .nilsl)) := by
  refine Z4 (Za4 (fun M0 => ?_) (Zt3 rfl)) (by simp [Zac (Zt3 (n := n) hpA)])
  rw [Zaer]
  simp (maxSteps := 4000000) [Zug, Zf, Zd, Ze, Zl, Zn, Zo, TK.agg, Zb, zeroS, Zi, Zg, splice, Zx, Z5, Zk, ndC, Z2p, Zny, placesOf, Zeb, Zz hA.sl, Zax hA.sl]
theorem Z4a (get) {P L : SV} {c : Cfg} (hP : Zi2 c P L) {n : Node} {A : SV} (hA : Ints A n.ages) (hpA : Sh.pv A = true) {now : Int} (hw : I64 (now * c.cycle)) : Za0 (PCw ES) get Zmd [.agg (Z7 c P L), .agg (ndC n A), .int .i64 now] = some (.agg (ndC (onN c n now) (if n.state = 0 then .nilsl else A))) := by
  refine Z4 (Za4 (fun M0 => ?_) (Zt3 (by split <;> first | rfl | exact hpA))) (by simp [hP.npA, Zac (Zt3 (n := n) hpA)])
  rw [Zajw]
  have hlk : (Z7 c P L).length = 13 := rfl
  have hK2 : (Z7 c P L)[2]? = some (.int .i64 c.cycle) := rfl
  generalize Z7 c P L = K at *
  have hK2' : K[2]'(by omega) = .int .i64 c.cycle := by simpa [hlk] using hK2
  have w := hw.wrap
  unfold onN
  by_cases h : n.state = 0
  · simp (maxSteps := 4000000) [Zts, Zf, Zd, Ze, Zl, Zn, Zo, TK.agg, Zb, zeroS, Zi, Zg, splice, Zx, Z5, Zk, ndC, h, hlk, hK2', w, Zny, placesOf, Zeb, Zz hA.sl, Zax hA.sl]
  · simp (maxSteps := 4000000) [Zts, Zf, Zd, Ze, Zl, Zn, Zo, TK.agg, Zb, zeroS, Zi, Zg, splice, Zx, Z5, Zk, ndC, h, hlk, hK2', Zz hA.sl, Zax hA.sl]
set_option maxHeartbeats 8000000 in
theorem Z3w {P L : SV} {c : Cfg} (hP : Zi2 c P L) {n : Node} {A : SV} (hA : Ints A n.ages) (hpA : Sh.pv A = true) {now : Int} (hw : I64 (now * c.cycle)) {e : Evt} {ey : SV} (he : EvR ey e) (hk : 1 ≤ e.kind ∧ e.kind ≤ 7) :
    ∃ y, (∀ get, Za0 (PCw ES) get Zej [.agg (Z7 c P L), .agg (ndC n A), .int .i64 now, ey] = some y) ∧ NdR y (Zjm c n now e) := by
  have hpe := he.pv
  obtain ⟨B, rfl, hB, hpB⟩ := he
  have k1 := fun get => Z4a get hP hA hpA hw
  have k2 := fun get => Zz9 get hA hpA
  have hlk : (Z7 c P L).length = 13 := rfl
  have hnK := hP.npA
  have hnn := Zac (Zt3 (n := n) hpA) Zar
  generalize Z7 c P L = K at *
  have run : ∀ (y : SV), Sh.pv y = true → (∀ M0, ∃ M', ICw ES Zej [.agg K, .agg (ndC n A), .int .i64 now, .agg (evC e B)] M0 = some (y, M')) → ∀ get, Za0 (PCw ES) get Zej [.agg K, .agg (ndC n A), .int .i64 now, .agg (evC e B)] = some y := fun y hy h get => by
    refine Z4 ?_ (by simp [hnK, hnn, Zac hpe])
    obtain ⟨M', hM⟩ := h .empty
    exact Zal9 hM hy
  unfold Zjm Z1v
  by_cases c1 : e.kind = 1
  · rw [if_pos c1]
    refine ⟨.agg (ndC { n with drift := e.v } A), run _ (Zt3 hpA) (fun M0 => ?_), ⟨A, rfl, hA, hpA⟩⟩
    rw [Zq5]
    simp (maxSteps := 4000000) [Zhr, Zf, Zd, Ze, Zl, Zn, Zo, TK.agg, Zb, zeroS, Zi, Zg, splice, Zx, Z5, Zk, ndC, evC, c1, Zz hA.sl, Zax hA.sl, Zz hB.sl, Zax hB.sl]
  rw [if_neg c1]
  have hbC := Zz hB.sl
  have hbS := Zax hB.sl
  by_cases c2 : e.kind = 2 ∨ e.kind = 5 ∨ e.kind = 7
  · rw [if_pos (by simpa using c2)]
    have hv : Sh.pv (.agg (ndC (onN c n now) (if n.state = 0 then .nilsl else A))) = true := Zt3 (by split <;> first | rfl | exact hpA)
    refine ⟨.agg (ndC (onN c n now) (if n.state = 0 then .nilsl else A)), run _ hv (fun M0 => ?_), ⟨_, rfl, ?_, ?_⟩⟩
    · rw [Zq5]
      have f1 : ¬ e.kind = 6 := by omega
      have f2 : ¬ e.kind = 4 := by omega
      have f3 : ¬ e.kind = 3 := by omega
      generalize hn2 : ndC (onN c n now) (if n.state = 0 then SV.nilsl else A) = N2 at *
      have hl2 : N2.length = 8 := by rw [← hn2]; rfl
      simp only [ndC] at k1
      simp (maxSteps := 4000000) [Zhr, Zf, Zd, Ze, Zl, Zn, Zo, TK.agg, Zb, zeroS, Zi, Zg, splice, Zx, Z5, Zk, ndC, evC, c1, f1, f2, f3, k1, hlk, hl2, Zz hA.sl, Zax hA.sl, hbC, hbS]
    · unfold onN
      split
      · exact RSl.nil _
      · exact hA
    · split <;> first | rfl | exact hpA
  · rw [if_neg (by simpa using c2)]
    refine ⟨.agg (ndC (Z2p n) .nilsl), run _ (Zt3 rfl) (fun M0 => ?_), ⟨_, rfl, RSl.nil _, rfl⟩⟩
    rw [Zq5]
    simp only [ndC] at k2
    rcases (show e.kind = 3 ∨ e.kind = 4 ∨ e.kind = 6 by omega) with f | f | f
    · simp (maxSteps := 4000000) [Zhr, Zf, Zd, Ze, Zl, Zn, Zo, TK.agg, Zb, zeroS, Zi, Zg, splice, Zx, Z5, Zk, ndC, evC, f, k2, Z2p, Zz hA.sl, Zax hA.sl, hbC, hbS]
    · simp (maxSteps := 4000000) [Zhr, Zf, Zd, Ze, Zl, Zn, Zo, TK.agg, Zb, zeroS, Zi, Zg, splice, Zx, Z5, Zk, ndC, evC, f, k2, Z2p, Zz hA.sl, Zax hA.sl, hbC, hbS]
    · simp (maxSteps := 4000000) [Zhr, Zf, Zd, Ze, Zl, Zn, Zo, TK.agg, Zb, zeroS, Zi, Zg, splice, Zx, Z5, Zk, ndC, evC, f, k2, Z2p, Zz hA.sl, Zax hA.sl, hbC, hbS]
set_option maxHeartbeats 16000000 in
theorem Zadn (get) {P L : SV} {c : Cfg} (hP : Zi2 c P L) (hpv : Sh.pv (.agg (Z7 c P L)) = true) {x : SV} {l : List Cel} (hx : Zv7 x l) (hpx : Sh.pv x = true) (hs : Short l) (now : Int) {e : Evt} {ey : SV} (he : EvR ey e) :
    Za0 (PCw ES) get Zhv [.agg (Z7 c P L), x, .int .i64 now, ey] = some (.bool (Zxt c l now e)) := by
  have hpe := he.pv
  refine Z4 (Za4 (fun M0 => ?_) rfl) (by simp [hP.npA, Zac hpe, Zac hpx])
  rw [Zaeb]
  obtain ⟨B, rfl, hB, hpB⟩ := he
  have k1 := fun get => Zw6 get hP now
  have hlx := hx.Zex Zav
  have hlp := hP.p.Zex Za1
  have hlk : (Z7 c P L).length = 13 := rfl
  have hK0 : (Z7 c P L)[0]? = some P := rfl
  have hK6 : (Z7 c P L)[6]? = some (.int .i64 c.drift) := rfl
  have hOf := fun (j : Nat) (h : Zaee c j = true) => Zaam hP hpv h
  have hvw := fun (j : Nat) (hj : j < c.parts.length) (hd : 0 ≤ c.drift ∧ c.drift ≤ 500) (S Q : SV) (h : Sh.pv (.agg (Zuh c P L j S Q)) = true) => VwP.of (S := S) (Q := Q) hP hj hd h
  have hvl : ∀ (j : Nat) (S Q : SV), (Zuh c P L j S Q).length = 23 := fun _ _ _ => rfl
  generalize hKe : Z7 c P L = K at *
  have g0 : K[0]'(by omega) = P := by simpa [hlk] using hK0
  have g6 : K[6]'(by omega) = .int .i64 c.drift := by simpa [hlk] using hK6
  have hbC := Zz hB.sl
  have hbS := Zax hB.sl
  cases h1 : (Zsf c && Znu now) with
  | false =>
    rw [h1] at k1
    have : Zxt c l now e = false := by unfold Zxt; rw [h1]; simp
    rw [this]
    simp (maxSteps := 4000000) [Zir, Zf, Zd, Ze, Zl, Zn, Zo, TK.agg, Zb, zeroS, Zi, Zg, splice, Zx, Z5, Zk, evC, hlk, k1, hbC, hbS]
  | true =>
    rw [h1] at k1
    have hm : Zxt c l now e = (Zjn c l && decide (1 ≤ e.kind ∧ e.kind ≤ 7) && (decide (e.kind ≠ 1) || decide (-c.drift ≤ e.v ∧ e.v ≤ c.drift))) := by unfold Zxt; rw [h1]; simp
    simp only [Bool.and_eq_true] at h1
    obtain ⟨hfit, hnow⟩ := h1
    have hir := Zg7 (Zec.1 hfit).2.1
    have hrf := Zgp (Zec.1 hfit).1
    by_cases c1 : l.length = c.parts.length
    case neg =>
      have c1' : ¬ (l.length : Int) = c.parts.length := by omega
      have : Zjn c l = false := by simp [Zjn, c1]
      rw [hm, this]
      simp (maxSteps := 4000000) [Zir, Zf, Zd, Ze, Zl, Zn, Zo, TK.agg, Zb, zeroS, Zi, Zg, splice, Zx, Z5, Zk, evC, hlk, g0, k1, hlx, hlp, c1', hbC, hbS]
    by_cases c2 : e.kind < 1
    · have : ¬ (1 ≤ e.kind ∧ e.kind ≤ 7) := by omega
      rw [hm]
      rw [c1] at hlx
      simp (maxSteps := 4000000) [Zir, Zf, Zd, Ze, Zl, Zn, Zo, TK.agg, Zb, zeroS, Zi, Zg, splice, Zx, Z5, Zk, evC, hlk, g0, k1, hlx, hlp, c2, this, hbC, hbS]
    by_cases c3 : 7 < e.kind
    · have : ¬ (1 ≤ e.kind ∧ e.kind ≤ 7) := by omega
      rw [hm]
      rw [c1] at hlx
      simp (maxSteps := 4000000) [Zir, Zf, Zd, Ze, Zl, Zn, Zo, TK.agg, Zb, zeroS, Zi, Zg, splice, Zx, Z5, Zk, evC, hlk, g0, k1, hlx, hlp, c2, c3, this, hbC, hbS]
    have ck : 1 ≤ e.kind ∧ e.kind ≤ 7 := by omega
    rw [c1] at hlx
    have turn : ∀ (j : Nat) (hj : j < c.parts.length), ∃ (y : SV) (N A S Q : SV) (hjl : j < l.length), its x = its x ∧ (its x)[j]? = some (.agg (clC l[j] N A)) ∧ Z9 ES.P Zt x (.int .i64 j) = some (.rptr (its x) j 0 (Zwi x)) ∧ Ztp N = true ∧ Ztp A = true ∧
        (∀ get, Za0 (PCw ES) get Zif [.agg K, .int .i64 j] = some (.tup [.agg (Zuh c P L j S Q), .bool true])) ∧ (∀ get, Za0 (PCw ES) get Zgw [.agg (Zuh c P L j S Q), .agg (clC l[j] N A)] = some (.bool (Zvc c c.parts[j].nodes l[j]))) := fun j hj => by
      have hjl : j < l.length := by omega
      obtain ⟨y, ⟨N, A, rfl, hN, hA, q1, q2⟩, hy, ha, _⟩ := hx.item Zav Zde Zwy hjl
      have hin : Zaee c j = true := by
        have : Zam (j : Int) c.parts.length := by unfold Zam; omega
        simp [Zaee, hfit, this]
      obtain ⟨S, Q, o1, o2, o3, o4, o5⟩ := hOf j hin
      have hv : Sh.pv (.agg (Zuh c P L j S Q)) = true := by
        obtain ⟨u1, u2⟩ := Z4s (hKe ▸ hpv)
        simp [Sh.pv, pvs, Zuh, u1, u2, o4, o5]
      obtain ⟨s1, s2, s3⟩ := hs.2 l[j] (List.getElem_mem hjl)
      exact ⟨.nilsl, N, A, S, Q, hjl, rfl, hy, ha, hN.sl, hA.sl, o1, fun get => Zacs get (hvw j hj hir.dr S Q hv) hN hA q1 q2 s1 s3 s2⟩
    obtain ⟨r, g1, Mb, hMb, g2⟩ := Zdc (E := ES) (me := Zhv) (B := Zlf) (len := c.parts.length) (T := fun j => Zhl (.ptr M0.next 0 0) (.ptr (M0.next + 1) 0 0) x (.int .i64 c.parts.length) (.int .i64 j)) (I := fun _ M => M.blk M0.next = some [.agg K] ∧ M.blk (M0.next + 1) = some [.agg (evC e B)] ∧ M0.next + 2 ≤ M.next) (p := Znq c l)
      (Q := fun o r => ∃ M', (M'.blk M0.next = some [.agg K] ∧ M'.blk (M0.next + 1) = some [.agg (evC e B)]) ∧ r = match o with
        | some _ => (.ret, ⟨(Zhl .Z .Z .Z .Z .Z).set 8 (.bool false), M'⟩)
        | none => (.exit 0, ⟨(Zhl (.ptr M0.next 0 0) (.ptr (M0.next + 1) 0 0) x (.int .i64 c.parts.length) (.int .i64 c.parts.length)).set 38 (.bool false), M'⟩))
      (fun j M hj ⟨i1, i2, i3⟩ hpj => by
        have hw : IntKind.i64.wrap ((j : Int) + 1) = (j : Int) + 1 := i64_in (by omega) (by omega)
        obtain ⟨y, N, A, S, Q, hjl, _, hy, ha, sN, sA, o1, o2⟩ := turn j hj
        simp only [Znq, List.getElem?_eq_getElem hj, List.getElem?_eq_getElem hjl, Bool.not_eq_false'] at hpj
        rw [hpj] at o2
        have d1 : ¬ M0.next = M.next + 3 := by omega
        have d2 : ¬ M0.next + 1 = M.next + 3 := by omega
        have d3 : ¬ M0.next = M.next + 6 + 6 := by omega
        have d4 : ¬ M0.next + 1 = M.next + 6 + 6 := by omega
        have d5 : ¬ M0.next = M.next + 12 := by omega
        have d6 : ¬ M0.next + 1 = M.next + 12 := by omega
        have d7 : ¬ M0.next = M.next + 2 := by omega
        have d8 : ¬ M0.next = M.next + 11 := by omega
        have hvj := hvl j S Q
        refine ⟨((((M.bump 6).set (M.next + 3) (some [.agg (clC l[j] N A)])).bump 9).set (M.next + 6 + 6) (some [.agg (Zuh c P L j S Q)])), ?_, by simp [d1, d3, d5, i1], by simp [d2, d4, d6, d7, d8, i2], by show M0.next + 2 ≤ M.next + 6 + 9; omega⟩
        generalize Zuh c P L j S Q = V at *
        simp only [clC] at hy o2 ⊢
        simp (maxSteps := 4000000) [Zlf, Zf, Zd, Ze, Zl, Zn, Zo, TK.agg, Zb, zeroS, Zi, Zg, splice, Zx, Z5, Zk, Zhl, hj, ha, hy, i1, hlk, hvj, o1, o2, hw, d1, d3, d5, Zz sN, Zz sA, Zax sN, Zax sA])
      (fun j M hj ⟨i1, i2, i3⟩ hpj => by
        obtain ⟨y, N, A, S, Q, hjl, _, hy, ha, sN, sA, o1, o2⟩ := turn j hj
        simp only [Znq, List.getElem?_eq_getElem hj, List.getElem?_eq_getElem hjl, Bool.not_eq_true'] at hpj
        rw [hpj] at o2
        have d1 : ¬ M0.next = M.next + 3 := by omega
        have d2 : ¬ M0.next + 1 = M.next + 3 := by omega
        have d3 : ¬ M0.next = M.next + 6 + 6 := by omega
        have d4 : ¬ M0.next + 1 = M.next + 6 + 6 := by omega
        have d5 : ¬ M0.next = M.next + 12 := by omega
        have d6 : ¬ M0.next + 1 = M.next + 12 := by omega
        have d7 : ¬ M0.next = M.next + 2 := by omega
        have d8 : ¬ M0.next = M.next + 11 := by omega
        have hvj := hvl j S Q
        refine ⟨_, ?_, by simp, ((((M.bump 6).set (M.next + 3) (some [.agg (clC l[j] N A)])).bump 9).set (M.next + 6 + 6) (some [.agg (Zuh c P L j S Q)])), ⟨by simp [d1, d3, d5, i1], by simp [d2, d4, d6, d7, d8, i2]⟩, rfl⟩
        generalize Zuh c P L j S Q = V at *
        simp only [clC] at hy o2 ⊢
        simp (maxSteps := 4000000) [Zlf, Zf, Zd, Ze, Zl, Zn, Zo, TK.agg, Zb, zeroS, Zi, Zg, splice, Zx, Z5, Zk, Zhl, hj, ha, hy, i1, hlk, hvj, o1, o2, d1, d3, d5, Zz sN, Zz sA, Zax sN, Zax sA])
      (fun M ⟨i1, i2, i3⟩ => ⟨_, by simp [Zlf, Zf, Zd, Ze, Zl, TK.agg, zeroS, Zx, Z5, Zhl], by simp, M, ⟨i1, i2⟩, rfl⟩) (((M0.bump 3).set M0.next (some [.agg K])).set (M0.next + 1) (some [.agg (evC e B)])) ⟨by simp, by simp, by show M0.next + 2 ≤ M0.next + 3; omega⟩
    have hcg : Zjn c l = ((List.range c.parts.length).find? (Znq c l)).isNone := by simp [Zjn, c1]
    rw [hm, hcg]
    obtain ⟨j1, j2⟩ := hMb
    cases hf : (List.range c.parts.length).find? (Znq c l) with
    | some j =>
      rw [hf] at g2
      subst g2
      simp [Zhl] at g1
      simp only [evC] at g1
      simp (maxSteps := 4000000) [Zir, Zf, Zd, Ze, Zl, Zn, Zo, TK.agg, Zb, zeroS, Zi, Zg, splice, Zx, Z5, Zk, evC, hlk, g0, k1, hlx, hlp, c2, c3, hbC, hbS, Zn2, g1]
    | none =>
      rw [hf] at g2
      subst g2
      simp [Zhl] at g1
      simp only [evC] at g1 j2
      have hw : IntKind.i64.wrap (0 - c.drift) = -c.drift := by rw [show (0 : Int) - c.drift = -c.drift by omega]; exact i64_in (by have := hir.dr; omega) (by have := hir.dr; omega)
      have hw2 : IntKind.i64.wrap (-c.drift) = -c.drift := i64_in (by have := hir.dr; omega) (by have := hir.dr; omega)
      by_cases c4 : e.kind = 1
      · simp only [c4] at g1 j2
        by_cases c5 : -c.drift ≤ e.v <;> by_cases c6 : e.v ≤ c.drift <;> simp (maxSteps := 4000000) [Zir, Zf, Zd, Ze, Zl, Zn, Zo, TK.agg, Zb, zeroS, Zi, Zg, splice, Zx, Z5, Zk, evC, hlk, g0, g6, k1, hlx, hlp, ck, c2, c3, c4, c5, c6, hw, hw2, hbC, hbS, Zn2, g1, j1, j2]
      · simp (maxSteps := 4000000) [Zir, Zf, Zd, Ze, Zl, Zn, Zo, TK.agg, Zb, zeroS, Zi, Zg, splice, Zx, Z5, Zk, evC, hlk, g0, k1, hlx, hlp, ck, c2, c3, c4, hbC, hbS, Zn2, g1, j1, j2]

end Go.Proofs.YtfphjfbknphhjaaGreatDoor
