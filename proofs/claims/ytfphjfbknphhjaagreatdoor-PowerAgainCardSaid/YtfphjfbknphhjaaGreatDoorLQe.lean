/-
  Walks of the seat's functions: Qe.
-/
import Derived.Test.YtfphjfbknphhjaaGreatDoorEb2
import Derived.Test.YtfphjfbknphhjaaGreatDoorShMb
import Derived.Test.YtfphjfbknphhjaaGreatDoorLzMs
import Derived.Test.YtfphjfbknphhjaaGreatDoorLzMv
set_option linter.unusedVariables false
set_option linter.unusedSimpArgs false
set_option maxRecDepth 100000
namespace Go.Proofs.YtfphjfbknphhjaaGreatDoor
open Go.Proofs.YtfphjfbknphhjaaGreatDoor.Sh
/-! Is a cell right? The program's own. -/
/-- A part's view, as far as this looks at it. -/
structure VwP (c : Cfg) (V : List SV) (P : SV) (part : Nat) : Prop where
  len : V.length = 23
  v0 : V[0]? = some P
  v6 : V[6]? = some (.int .i64 c.drift)
  v13 : V[13]? = some (.int .i64 part)
  v22 : V[22]? = some (.int .i64 (Zsa c))
  hP : Parts P c.parts
  hp : part < c.parts.length
  dr : 0 ≤ c.drift ∧ c.drift ≤ 500
  pv : Sh.pv (.agg V) = true
theorem VwP.of {c : Cfg} {P L S Q : SV} {part : Nat} (hP : Zi2 c P L) (hp : part < c.parts.length) (dr : 0 ≤ c.drift ∧ c.drift ≤ 500) (hv : Sh.pv (.agg (Zuh c P L part S Q)) = true) : VwP c (Zuh c P L part S Q) P part :=
  ⟨rfl, rfl, rfl, rfl, rfl, hP.p, hp, dr, hv⟩
theorem Zge (get) (x y : Int) : Za0 (PCw ES) get Zff [.int .i64 x, .int .i64 y] = some (.bool (decide (0 ≤ x ∧ x ≤ y))) := by
  refine Z4 (Za4 (fun M0 => ?_) rfl) rfl
  rw [Z72]
  by_cases h1 : 0 ≤ x <;> by_cases h2 : x ≤ y <;> simp [Zrs, Zf, Zd, Ze, Zl, Zn, Zo, TK.agg, Zb, zeroS, Zi, Zg, splice, Zx, Z5, Zk, h1, h2]
theorem Z3l {c : Cfg} {V : List SV} {P : SV} {part : Nat} (hV : VwP c V P part) (x : Int) (s : Bool) : PCw ES Zfg [.int .i64 x, .rptr [.agg V] 0 0 s] = some (.bool (decide (x < 0 ∨ Zsa c < x))) := by
  refine Za4 (fun M => ?_) rfl
  rw [Z5j]
  have hlen := hV.len
  have h22 : V[22]'(by omega) = .int .i64 (Zsa c) := by simpa [hlen] using hV.v22
  by_cases h1 : x < 0
  · simp [Zpb, Zf, Zd, Ze, Zl, Zn, Zo, TK.agg, Zb, zeroS, Zi, Zg, splice, Zx, Z5, Zk, h1]
  · by_cases h2 : Zsa c < x <;> simp [Zpb, Zf, Zd, Ze, Zl, Zn, Zo, TK.agg, Zb, zeroS, Zi, Zg, splice, Zx, Z5, Zk, h1, h2, hlen, h22]
theorem npV {V : List SV} (h : Sh.pv (.agg V) = true) (s : Bool) : Sh.np Zar (.rptr [.agg V] 0 0 s) = true := by
  show (Sh.pv _ || ([SV.agg V].all (Sh.np 11))) = true
  simp [Zac h]
theorem Zald {c : Cfg} {V : List SV} {P : SV} {part : Nat} (hV : VwP c V P part) {x : SV} {l : List Int} (hx : Ints x l) (hb : l.length ≤ 1000000) (b : Nat) (get : Nat → Option (List SV)) (hg : get b = some [.agg V]) :
    Za0 (PCw ES) get Za6 [x, .fn Zfg [] [.ptr b 0 0]] = some (.bool (l.any fun v => decide (v < 0 ∨ Zsa c < v))) := by
  have p1 : pic get false 11 (.ptr b 0 0) = some (.rptr [.agg V] 0 0 false) := Zwo hg (by simpa using hV.pv)
  have hnl := npV hV.pv false
  rw [Zm7 (ys := [x, .fn Zfg [] [.rptr [.agg V] 0 0 false]])]
  · exact Zml Elm.int Zes hx (by omega) (npF (by rfl)) (fun v => decide (v < 0 ∨ Zsa c < v)) (fun get y v hy _ => by
      subst hy
      exact Z4 (Z3l hV v false) (by
        simp only [List.all_append, List.all_cons, List.all_nil, Bool.and_true, Bool.and_eq_true, List.cons_append, List.nil_append]
        exact ⟨by simp, hnl⟩)) (by
        show (Sh.pv _ || (([] : List SV).all (Sh.np 11) && [SV.rptr [.agg V] 0 0 false].all (Sh.np 11))) = true
        have : Sh.np 11 (.rptr [.agg V] 0 0 false) = true := by
          show (Sh.pv _ || ([SV.agg V].all (Sh.np 10))) = true
          simp [Zac hV.pv]
        simp [this])
  · have q : pic get false Zar (.fn Zfg [] [.ptr b 0 0]) = some (.fn Zfg [] [.rptr [.agg V] 0 0 false]) := Zafv (by simp [p1]) rfl
    simp [Zd3 hx.Z2q, q]
set_option maxHeartbeats 4000000 in
theorem Z01 (get) {c : Cfg} {V : List SV} {P : SV} {part : Nat} (hV : VwP c V P part) (b : Bool) {x : SV} {l : List Int} (hx : Ints x l) (hb : l.length ≤ 1000000) : Za0 (PCw ES) get Zhw [.agg V, .bool b, x] = some (.bool (Zqc c b l)) := by
  refine Z4 (Za4 (fun M0 => ?_) rfl) (by simp [Zac hV.pv, hx.Z2q])
  rw [Zacx]
  have hlx := hx.Zex Zb3
  have hf := Zald hV hx hb M0.next
  have hlp := hV.hP.Zex Za1
  have hlen := hV.len
  have h0 : V[0]'(by omega) = P := by simpa [hlen] using hV.v0
  unfold Zqc
  cases b with
  | false => simp [Zpx, Zf, Zd, Ze, Zl, Zn, Zo, TK.agg, Zb, zeroS, Zi, Zg, splice, Zx, Z5, Zk, hlx]
  | true =>
    by_cases c1 : l.length = c.parts.length
    · have c1' : (l.length : Int) = c.parts.length := by omega
      simp [Zpx, Zf, Zd, Ze, Zl, Zn, Zo, TK.agg, Zb, zeroS, Zi, Zg, splice, Zx, Z5, Zk, hlx, hlen, h0, hlp, c1, c1', hf]
    · have c1' : ¬ (l.length : Int) = c.parts.length := by omega
      simp [Zpx, Zf, Zd, Ze, Zl, Zn, Zo, TK.agg, Zb, zeroS, Zi, Zg, splice, Zx, Z5, Zk, hlx, hlen, h0, hlp, c1, c1']
set_option maxHeartbeats 16000000 in
theorem Zae2 (get) {c : Cfg} {V : List SV} {P : SV} {part : Nat} (hV : VwP c V P part) {n : Node} {A : SV} (hA : Ints A n.ages) (hpA : Sh.pv A = true) (hb : n.ages.length ≤ 1000000) : Za0 (PCw ES) get Ziz [.agg V, .agg (ndC n A)] = some (.bool (Zi6 c n)) := by
  refine Z4 (Za4 (fun M0 => ?_) rfl) (by simp [Zac hV.pv, Zac (Zt3 (n := n) hpA)])
  rw [Zadf]
  have ha := fun get => Z01 get hV (decide (n.state = 2)) hA hb
  have hlen := hV.len
  have h6 : V[6]'(by omega) = .int .i64 c.drift := by simpa [hlen] using hV.v6
  have hd := hV.dr
  have hw : IntKind.i64.wrap (0 - c.drift) = -c.drift := by rw [show (0 : Int) - c.drift = -c.drift by omega]; exact i64_in (by omega) (by omega)
  have hw2 : IntKind.i64.wrap (-c.drift) = -c.drift := i64_in (by omega) (by omega)
  unfold Zi6
  generalize Zqc c (decide (n.state = 2)) n.ages = ag at *
  by_cases k1 : 0 ≤ n.state ∧ n.state ≤ 2
  case neg => simp (maxSteps := 4000000) [Zgq, Zf, Zd, Ze, Zl, Zn, Zo, TK.agg, Zb, zeroS, Zi, Zg, splice, Zx, Z5, Zk, ndC, Zge, k1]
  by_cases k2 : -c.drift ≤ n.drift
  case neg => simp (maxSteps := 4000000) [Zgq, Zf, Zd, Ze, Zl, Zn, Zo, TK.agg, Zb, zeroS, Zi, Zg, splice, Zx, Z5, Zk, ndC, Zge, k1, hlen, h6, hw, hw2, k2]
  by_cases k3 : n.drift ≤ c.drift
  case neg => simp (maxSteps := 4000000) [Zgq, Zf, Zd, Ze, Zl, Zn, Zo, TK.agg, Zb, zeroS, Zi, Zg, splice, Zx, Z5, Zk, ndC, Zge, k1, hlen, h6, hw, hw2, k2, k3]
  by_cases k4 : Zk8 n.start
  case neg => simp (maxSteps := 4000000) [Zgq, Zf, Zd, Ze, Zl, Zn, Zo, TK.agg, Zb, zeroS, Zi, Zg, splice, Zx, Z5, Zk, ndC, Zge, k1, hlen, h6, hw, hw2, k2, k3, k4]
  by_cases k5 : 0 ≤ n.wait ∧ n.wait ≤ 60000
  case neg => simp (maxSteps := 4000000) [Zgq, Zf, Zd, Ze, Zl, Zn, Zo, TK.agg, Zb, zeroS, Zi, Zg, splice, Zx, Z5, Zk, ndC, Zge, k1, hlen, h6, hw, hw2, k2, k3, k4, k5]
  by_cases k6 : 0 ≤ n.cycle ∧ n.cycle ≤ 1099511627776
  case neg => simp (maxSteps := 4000000) [Zgq, Zf, Zd, Ze, Zl, Zn, Zo, TK.agg, Zb, zeroS, Zi, Zg, splice, Zx, Z5, Zk, ndC, Zge, k1, hlen, h6, hw, hw2, k2, k3, k4, k5, k6]
  by_cases k7 : 0 ≤ n.mask ∧ n.mask ≤ 4095
  case neg => simp (maxSteps := 4000000) [Zgq, Zf, Zd, Ze, Zl, Zn, Zo, TK.agg, Zb, zeroS, Zi, Zg, splice, Zx, Z5, Zk, ndC, Zge, k1, hlen, h6, hw, hw2, k2, k3, k4, k5, k6, k7]
  by_cases k8 : 0 ≤ n.Z ∧ n.Z ≤ 1099511627776
  case neg => simp (maxSteps := 4000000) [Zgq, Zf, Zd, Ze, Zl, Zn, Zo, TK.agg, Zb, zeroS, Zi, Zg, splice, Zx, Z5, Zk, ndC, Zge, k1, hlen, h6, hw, hw2, k2, k3, k4, k5, k6, k7, k8]
  simp (maxSteps := 4000000) [Zgq, Zf, Zd, Ze, Zl, Zn, Zo, TK.agg, Zb, zeroS, Zi, Zg, splice, Zx, Z5, Zk, ndC, Zge, k1, hlen, h6, hw, hw2, k2, k3, k4, k5, k6, k7, k8, ha]
theorem Z2z {c : Cfg} {V : List SV} {P : SV} {part : Nat} (hV : VwP c V P part) {y : SV} {n : Node} (hy : NdR y n) (hb : n.ages.length ≤ 1000000) (s : Bool) : PCw ES Zet [y, .rptr [.agg V] 0 0 s] = some (.bool (!Zi6 c n)) := by
  refine Za4 (fun M => ?_) rfl
  obtain ⟨A, rfl, hA, hpA⟩ := hy
  rw [Z6i]
  have h := fun get => Zae2 get hV hA hpA hb
  have hlen := hV.len
  have hl1 : ∀ get, Zn ES.P get Za5 (.rptr [.agg V] 0 0 s) = some (.agg V) := fun get => by simp [Zn, Zo, TK.agg, hlen]
  generalize hn : SV.agg (ndC n A) = yy at *
  have hl2 : ∀ (get : Nat → Option (List SV)) (b : Nat), get b = some [yy] → Zn ES.P get Zh (.ptr b 0 0) = some yy := fun get b hg => by
    subst hn
    simp [Zn, hg, Zo, TK.agg, ndC]
  have hys : yy.sto = true := by rw [← hn]; rfl
  simp [Zry, Zf, Zd, Ze, Zl, TK.agg, zeroS, Zx, Z5, hl1, hl2, hys, h]
theorem Zan2 {c : Cfg} {V : List SV} {P : SV} {part : Nat} (hV : VwP c V P part) {x : SV} {l : List Node} (hx : Nds x l) (hb : l.length ≤ 1000000) (ha : ∀ n ∈ l, n.ages.length ≤ 1000000) (b : Nat) (get : Nat → Option (List SV)) (hg : get b = some [.agg V]) :
    Za0 (PCw ES) get Zai [x, .fn Zet [] [.ptr b 0 0]] = some (.bool (l.any fun n => !Zi6 c n)) := by
  have p1 : pic get false 11 (.ptr b 0 0) = some (.rptr [.agg V] 0 0 false) := Zwo hg (by simpa using hV.pv)
  have hnl := npV hV.pv false
  rw [Zm7 (ys := [x, .fn Zet [] [.rptr [.agg V] 0 0 false]])]
  · exact Zis Zty Zb8 hx (by omega) (npF (by rfl)) (fun n => !Zi6 c n) (fun get y v hy hv => by
      exact Z4 (Z2z hV hy (ha v hv) false) (by
        simp only [List.all_append, List.all_cons, List.all_nil, Bool.and_true, Bool.and_eq_true, List.cons_append, List.nil_append]
        exact ⟨Zty.Z2q hy, hnl⟩)) (by
        show (Sh.pv _ || (([] : List SV).all (Sh.np 11) && [SV.rptr [.agg V] 0 0 false].all (Sh.np 11))) = true
        have : Sh.np 11 (.rptr [.agg V] 0 0 false) = true := by
          show (Sh.pv _ || ([SV.agg V].all (Sh.np 10))) = true
          simp [Zac hV.pv]
        simp [this])
  · have q : pic get false Zar (.fn Zet [] [.ptr b 0 0]) = some (.fn Zet [] [.rptr [.agg V] 0 0 false]) := Zafv (by simp [p1]) rfl
    simp [Zd3 (hx.npE Zty), q]
set_option maxHeartbeats 8000000 in
theorem Zacs (get) {c : Cfg} {V : List SV} {P : SV} {part : Nat} (hV : VwP c V P part) {x : Cel} {N A : SV} (hN : Nds N x.nodes) (hA : Ints A x.ages) (hpN : Sh.pv N = true) (hpA : Sh.pv A = true) (hb : x.nodes.length ≤ 1000000) (ha : ∀ n ∈ x.nodes, n.ages.length ≤ 1000000) (hb2 : x.ages.length ≤ 1000000) :
    Za0 (PCw ES) get Zgw [.agg V, .agg (clC x N A)] = some (.bool (Zvc c (c.parts[part]'hV.hp).nodes x)) := by
  refine Z4 (Za4 (fun M0 => ?_) rfl) (by simp [Zac hV.pv, Zac (clPv (x := x) hpN hpA)])
  rw [Zad9]
  have hln := hN.Zex Zae
  have hf := Zan2 hV hN hb ha M0.next
  have hg := fun get => Z01 get hV x.on hA hb2
  have ap := Parts.at hV.hP hV.hp
  have ap2 : (c.parts.map Zc9)[part]? = some (.agg [.int .i64 (c.parts[part]'hV.hp).nodes, .int .i64 (c.parts[part]'hV.hp).faults]) := by rw [List.getElem?_map, List.getElem?_eq_getElem hV.hp]; rfl
  have hlen := hV.len
  have h0 : V[0]'(by omega) = P := by simpa [hlen] using hV.v0
  have h13 : V[13]'(by omega) = .int .i64 part := by simpa [hlen] using hV.v13
  generalize c.parts.map Zc9 = ps at ap ap2
  generalize (c.parts[part]'hV.hp).nodes = k at *
  unfold Zvc
  generalize (x.nodes.any fun n => !Zi6 c n) = q at *
  generalize Zqc c x.on x.ages = ag at *
  by_cases c1 : (x.nodes.length : Int) = k
  case neg => simp (maxSteps := 4000000) [Zpn, Zf, Zd, Ze, Zl, Zn, Zo, TK.agg, Zb, zeroS, Zi, Zg, splice, Zx, Z5, Zk, clC, hln, hlen, h0, h13, ap, ap2, c1]
  cases q with
  | true => simp (maxSteps := 4000000) [Zpn, Zf, Zd, Ze, Zl, Zn, Zo, TK.agg, Zb, zeroS, Zi, Zg, splice, Zx, Z5, Zk, clC, hln, hlen, h0, h13, ap, ap2, c1, hf]
  | false =>
    by_cases c2 : Zk8 x.start <;> simp (maxSteps := 4000000) [Zpn, Zf, Zd, Ze, Zl, Zn, Zo, TK.agg, Zb, zeroS, Zi, Zg, splice, Zx, Z5, Zk, clC, hln, hlen, h0, h13, ap, ap2, c1, c2, hf, hg, Zz hA.sl, Zz hN.sl, Zax hA.sl, Zax hN.sl]

end Go.Proofs.YtfphjfbknphhjaaGreatDoor
