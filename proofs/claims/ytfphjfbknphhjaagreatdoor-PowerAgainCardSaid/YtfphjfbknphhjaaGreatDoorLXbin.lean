/-
  PowerAgain: part 2.
-/
import Derived.Test.YtfphjfbknphhjaaGreatDoorLXain
set_option linter.unusedVariables false
set_option linter.unusedSimpArgs false
set_option maxRecDepth 100000
namespace Go.Proofs.YtfphjfbknphhjaaGreatDoor
open Go.Proofs.YtfphjfbknphhjaaGreatDoor.Sh
/-! The law PowerAgain. -/
def evP (kd : Int) (p : Nat) : Evt := ⟨kd, p, 0, 0, []⟩
theorem Zx14 {c : Cfg} {l : List Cel} {now kd : Int} {p : Nat} (hf : Zsf c = true) (hl : Zjn c l = true) (hn : 0 ≤ now ∧ now ≤ 1000) (hk : kd = 4 ∨ kd = 5) (hp : p < c.parts.length) : Zxt c l now (evP kd p) = true ∧ Ze8 c (evP kd p) = true := by
  have h1 : Znu now = true := by simp [Znu, hn]
  have h2 : ¬ (kd = 6 ∨ kd = 7) := by omega
  have h3 : Zam (p : Int) c.parts.length := by unfold Zam; omega
  have h4 : 1 ≤ kd ∧ kd ≤ 7 := by omega
  have h5 : kd ≠ 1 := by omega
  constructor
  · simp [Zxt, evP, hf, hl, h1, h4, h5]
  · simp only [Ze8, evP, h2, if_false, h3, decide_true, hk, Bool.true_or, Bool.and_self]
theorem Zx20 {c : Cfg} {kd : Int} {p : Nat} (hk : kd = 4 ∨ kd = 5) (k : Int) : Zxl c (evP kd p) p k = true := by
  have h2 : ¬ (kd = 6 ∨ kd = 7) := by omega
  simp only [Zxl, evP, h2, if_false, decide_true, hk, Bool.true_or, Bool.and_self]
theorem rem_in {v : Int} (h : 0 ≤ v) {k : Nat} (hk : 0 < k) : ∃ p : Nat, p < k ∧ v.tmod k = p := by
  refine ⟨(v.tmod k).toNat, ?_, ?_⟩
  · have := Int.tmod_lt_of_pos v (show 0 < (k : Int) by omega)
    have := Int.tmod_nonneg k h
    omega
  · have := Int.tmod_nonneg k h
    omega
/-- What the law looks at, node by node. -/
theorem again_at {c : Cfg} {cs : List Cel} {now : Int} {p k : Nat} (hp : p < cs.length) (hk : k < cs[p].nodes.length) :
    ∃ (xa xd : Cel) (na nd : Node), (doL c cs now (evP 4 p))[p]? = some xa ∧ xa.nodes[k]? = some na ∧ (doL c (doL c cs now (evP 4 p)) now (evP 5 p))[p]? = some xd ∧ xd.nodes[k]? = some nd ∧ na.state = 0 ∧ nd.state = 1 ∧ nd.drift = cs[p].nodes[k].drift ∧ nd.Z = cs[p].nodes[k].Z ∧ nd.start = now * c.cycle := by
  have hp2 : p < (doL c cs now (evP 4 p)).length := by rw [Zr9]; exact hp
  have e1 := Zal7 (c := c) (now := now) (e := evP 4 p) hp
  have e2 : (Zma c now (evP 4 p) p cs[p].nodes)[k]? = _ := Zzh hk
  rw [Zx20 (.inl rfl)] at e2
  have e3 := Zal7 (c := c) (now := now) (e := evP 5 p) hp2
  have e1' : (doL c cs now (evP 4 p))[p] = { cs[p] with nodes := Zma c now (evP 4 p) p cs[p].nodes } := by
    rw [List.getElem?_eq_getElem hp2] at e1
    exact Option.some.inj e1
  rw [e1'] at e3
  have hk2 : k < (Zma c now (evP 4 p) p cs[p].nodes).length := by rw [Zk1]; exact hk
  have e4 : (Zma c now (evP 5 p) p (Zma c now (evP 4 p) p cs[p].nodes))[k]? = _ := Zzh hk2
  rw [Zx20 (.inr rfl)] at e4
  have e2' : (Zma c now (evP 4 p) p cs[p].nodes)[k] = Zjm c cs[p].nodes[k] now (evP 4 p) := by
    rw [List.getElem?_eq_getElem hk2] at e2
    simpa using e2
  rw [e2'] at e4
  refine ⟨_, _, _, _, e1, e2, e3, e4, ?_⟩
  simp [Zjm, Z1v, evP, Z2p, onN]
set_option maxHeartbeats 16000000 in
theorem Zx27 {K : List SV} {c : Cfg} {z za zd : SV} {cs A D : List Cel} (hz : Zv7 z cs) (hza : Zv7 za A) (hzd : Zv7 zd D) {now : Int} (hwn : IntKind.i64.wrap now = now) (hlk : K.length = 13) (hcy : K[2]? = some (.int .i64 c.cycle)) (hw1 : I64 (now * c.cycle)) {p : Nat} (hp : p < cs.length) (hnl : cs[p].nodes.length ≤ 1000000)
    {k : Nat} (hk : k < cs[p].nodes.length) {xa xd : Cel} {na nd : Node} (h1 : A[p]? = some xa) (h2 : xa.nodes[k]? = some na) (h3 : D[p]? = some xd) (h4 : xd.nodes[k]? = some nd) (f1 : na.state = 0) (f2 : nd.state = 1) (f3 : nd.drift = cs[p].nodes[k].drift) (f4 : nd.Z = cs[p].nodes[k].Z) (f5 : nd.start = now * c.cycle) {M : Mem} (hM : M.blk 2 = some [.agg K]) :
    evW ES Zakg Zx11 ⟨Zx10 (.int .u8 now) (.ptr 2 0 0) (.int .i64 p) za zd z (.int .i64 k), M⟩ = some (.normal, ⟨Zx10 (.int .u8 now) (.ptr 2 0 0) (.int .i64 p) za zd z (.int .i64 ((k + 1 : Nat) : Int)), M⟩) := by
  have hw : IntKind.i64.wrap ((k : Int) + 1) = (k : Int) + 1 := i64_in (by omega) (by omega)
  have hcy' : K[2]'(by omega) = .int .i64 c.cycle := by simpa [hlk] using hcy
  have w1 := hw1.wrap
  obtain ⟨y, ⟨N, Ag, rfl, hN, hA, _, _⟩, y2, y3, _⟩ := hz.item Zav Zde Zwy hp
  have hln := hN.Zex Zae
  obtain ⟨u, ⟨B, rfl, hB, _⟩, u2, u3, _⟩ := hN.item Zae Zb8 Zty hk
  obtain ⟨hpA, rfl⟩ := List.getElem?_eq_some_iff.1 h1
  obtain ⟨hkA, rfl⟩ := List.getElem?_eq_some_iff.1 h2
  obtain ⟨hpD, rfl⟩ := List.getElem?_eq_some_iff.1 h3
  obtain ⟨hkD, rfl⟩ := List.getElem?_eq_some_iff.1 h4
  obtain ⟨ya, ⟨Na, Aa, rfl, hNa, _, _, _⟩, ya2, ya3, _⟩ := hza.item Zav Zde Zwy hpA
  obtain ⟨ua, ⟨Ba, rfl, _, _⟩, ua2, ua3, _⟩ := hNa.item Zae Zb8 Zty hkA
  obtain ⟨yd, ⟨Nd, Ad, rfl, hNd, _, _, _⟩, yd2, yd3, _⟩ := hzd.item Zav Zde Zwy hpD
  obtain ⟨ud, ⟨Bd, rfl, _, _⟩, ud2, ud3, _⟩ := hNd.item Zae Zb8 Zty hkD
  simp only [clC] at y2 ya2 yd2
  simp only [ndC] at u2 ua2 ud2
  rw [f1] at ua2
  rw [f2, f3, f4, f5] at ud2
  generalize cs[p].nodes[k] = nw at *
  simp (maxSteps := 4000000) [Zx11, Zf, Zd, Ze, Zl, Zn, Zo, TK.agg, Zb, zeroS, Zi, Zg, splice, Zx, Z5, Zk, Zz8, Zx10, hln, hk, y2, y3, u2, u3, ya2, ya3, ua2, ua3, yd2, yd3, ud2, ud3, hM, hlk, hcy', hwn, w1, hw]
set_option maxHeartbeats 16000000 in
theorem Zx17 (xs0 xs1 xs2 xs3 : List SV) (h0 : WT ES.P 8 Zc xs0) (h1 : WT ES.P 8 Zt xs1) (h2 : WT ES.P 8 Zud xs2) (h3 : WT ES.P 8 Zud xs3) :
    ∃ M', ICw ES Zakg [mkV ES.P Zc xs0, mkV ES.P Zt xs1, mkV ES.P Zud xs2, mkV ES.P Zud xs3] .empty = some (.bool true, M') := by
  obtain ⟨n, _, e0, _⟩ := Zl9 Zes h0
  obtain ⟨l, hx, hpv⟩ := Zagv h1
  obtain ⟨part, _, e2, hpw⟩ := Zl9 Z76 h2
  obtain ⟨⟨hpart, _⟩, hwp⟩ := Zx29 hpw
  obtain ⟨now, _, e3, hnw⟩ := Zl9 Z76 h3
  obtain ⟨⟨hnow, hnow2⟩, hwn⟩ := Zx29 hnw
  rw [e0, e2, e3, Zx16]
  generalize mkV ES.P Zt xs1 = x at *
  have hsm := fun get => Zz3 get hx (Zac hpv Zar)
  obtain ⟨P, L, hm, hP⟩ := Zaly n
  have hpK := Zamn hm
  have hfit := Zaff n
  have hr := Z4k hfit
  cases hsb : Z1n l with
  | false =>
    rw [hsb] at hsm
    simp (maxSteps := 4000000) [Zx12, Zf, Zd, Ze, Zl, Zn, Zo, TK.agg, Zb, zeroS, Zi, Zg, splice, Zx, Z5, Zk, hsm]
  | true =>
  rw [hsb] at hsm
  have hs20 : ∀ y ∈ l, y.nodes.length ≤ 1000 := fun y hy => by
    simp only [Z1n, Bool.and_eq_true, decide_eq_true_eq, Bool.not_eq_true', List.any_eq_false] at hsb
    have h1 := hsb.2 y hy
    simp only [bigC, Bool.or_eq_true, not_or, decide_eq_true_eq] at h1
    omega
  have hrf := Zgp hr
  obtain ⟨z, cs, k1, k2, k3, k4⟩ := Zac1 hP hfit hx hpv hs20
  have hcl := (Zrc.1 k4).1
  obtain ⟨p, hp, hpm⟩ := rem_in hpart (show 0 < (Zck n).parts.length by omega)
  have hlp := hP.p.Zex Za1
  have hw1 : I64 (now * (Zck n).cycle) := Zafk (by simp [Znu]; omega)
  have hwn1 : IntKind.i64.wrap (now + 1) = now + 1 := i64_in (by omega) (by omega)
  have rP : ∀ q, Zoq ES.P .rem Zc q (.int .i64 part) (.int .i64 (Zck n).parts.length) = some (.int .i64 p) := fun q => by
    rw [Zapl (by omega), hpm]
  have hDo := fun {y : SV} {l : List Cel} (t : Int) (h1 : Zv7 y l) (h2 : Sh.pv y = true) (h3 : Short l) {e : Evt} {ev : SV} (h4 : EvR ev e) => Zv9 hP hpK h1 h2 h3 t h4
  have hR : ∀ kd, EvR (.agg [.int .i64 kd, .int .i64 p, .int .i64 0, .int .i64 0, .nilsl]) (evP kd p) := fun kd => ⟨.nilsl, rfl, RSl.nil _, rfl⟩
  have hlk : (Z7 (Zck n) P L).length = 13 := rfl
  have hK0 : (Z7 (Zck n) P L)[0]? = some P := rfl
  have hcy : (Z7 (Zck n) P L)[2]? = some (.int .i64 (Zck n).cycle) := rfl
  generalize Z7 (Zck n) P L = K at *
  have g0 : K[0]'(by omega) = P := by simpa [hlk] using hK0
  generalize Zck n = c at *
  have hA := Zx14 (kd := 4) (now := now) hfit k4 (by omega) (.inl rfl) hp
  have dA := Zalg hA.1 hA.2
  have rA := Zann hA.1
  have sA := Zae1 hr rA
  obtain ⟨za, a1, a2, a3⟩ := hDo now k2 k3 (Zae1 hr k4) (hR 4)
  rw [dA] at a1 a2
  have hB := Zx14 (kd := 4) (now := now) hfit rA (by omega) (.inl rfl) hp
  have dB := Zalg hB.1 hB.2
  have tw : doL c (doL c cs now (evP 4 p)) now (evP 4 p) = doL c cs now (evP 4 p) := Zx19 fun m => Zx26 c m now now rfl
  rw [tw] at dB
  obtain ⟨zb, b1, b2, b3⟩ := hDo now a2 a3 sA (hR 4)
  rw [dB] at b1 b2
  have hD := Zx14 (kd := 5) (now := now) hfit rA (by omega) (.inr rfl) hp
  have dD := Zalg hD.1 hD.2
  have rD := Zann hD.1
  have sD := Zae1 hr rD
  obtain ⟨zd, d1, d2, d3⟩ := hDo now b2 b3 sA (hR 5)
  rw [dD] at d1 d2
  have hH := Zx14 (kd := 5) (now := now + 1) hfit rD (by omega) (.inr rfl) hp
  have dH := Zalg hH.1 hH.2
  have th : doL c (doL c (doL c cs now (evP 4 p)) now (evP 5 p)) (now + 1) (evP 5 p) = doL c (doL c cs now (evP 4 p)) now (evP 5 p) := Zx19 fun m => Zx28 c m now (now + 1) rfl
  rw [th] at dH
  obtain ⟨zh, e1, e2, e3⟩ := hDo (now + 1) d2 d3 sD (hR 5)
  rw [dH] at e1 e2
  have q1 := fun get => Zsv get a2 b2 a3 b3 sA
  have q2 := fun get => Zsv get d2 e2 d3 e3 sD
  have hld := d2.Zex Zav
  rw [Zr9, Zr9, hcl] at hld
  have hp' : p < cs.length := by omega
  have hns := ((Zae1 hr k4).2 cs[p] (List.getElem_mem hp')).1
  obtain ⟨yz, ⟨Nz, Az, rfl, hNz, _, _, _⟩, yz2, yz3, _⟩ := k2.item Zav Zde Zwy hp'
  have hlnz := hNz.Zex Zae
  simp only [clC] at yz2
  have be4 : ∀ kd : Int, Zny ES.P Zu [(0, .int .i64 kd), (1, .int .i64 p)] = some (.agg [.int .i64 kd, .int .i64 p, .int .i64 0, .int .i64 0, .nilsl]) := fun kd => by simp [Zny, placesOf, Zeb, splice]
  obtain ⟨r, g1, M', rfl⟩ := Zke (E := ES) (me := Zakg) (B := Zx11) (len := cs[p].nodes.length) (T := fun k => Zx10 (.int .u8 now) (.ptr 2 0 0) (.int .i64 p) za zd z (.int .i64 k)) (I := fun _ M => M.blk 2 = some [.agg K])
    (Q := fun r => ∃ M', r = (.exit 0, ⟨(Zx10 (.int .u8 now) (.ptr 2 0 0) (.int .i64 p) za zd z (.int .i64 cs[p].nodes.length)).set 124 (.bool false), M'⟩))
    (fun k M hk hM => by
      left
      obtain ⟨xa, xd, na, nd, t1, t2, t3, t4, f1, f2, f3, f4, f5⟩ := again_at (c := c) (now := now) hp' hk
      exact ⟨M, Zx27 k2 a2 d2 hwn hlk hcy hw1 hp' hns hk t1 t2 t3 t4 f1 f2 f3 f4 f5 hM, hM⟩)
    (fun M hM => by
      refine ⟨_, ?_, ?_, M, rfl⟩
      · simp [Zx11, Zf, Zd, Ze, Zl, Zn, Zo, TK.agg, Zb, zeroS, Zi, Zg, splice, Zx, Z5, Zk, Zx10, yz2, yz3, hlnz]
      · simp) 0 ((Mem.empty.bump 4).set 2 (some [.agg K])) (by omega) (by simp)
  simp [Zx10] at g1
  simp (maxSteps := 4000000) [Zx12, Zf, Zd, Ze, Zl, Zn, Zo, TK.agg, Zb, zeroS, Zi, Zg, splice, Zx, Z5, Zk, Zz8, hsm, hm, hlk, g0, hlp, rP, hwp, hwn, hwn1, k1, be4, a1, b1, d1, e1, q1, q2, hld, Zx13, g1]

end Go.Proofs.YtfphjfbknphhjaaGreatDoor
