/-
  Walks of the seat's functions: Qn.
-/
import Derived.Test.YtfphjfbknphhjaaGreatDoorEb2
import Derived.Test.YtfphjfbknphhjaaGreatDoorShMb
import Derived.Test.YtfphjfbknphhjaaGreatDoorLzMx
import Derived.Test.YtfphjfbknphhjaaGreatDoorLzMv
import Derived.Test.YtfphjfbknphhjaaGreatDoorLzMn
import Derived.Test.YtfphjfbknphhjaaGreatDoorLzMk
set_option linter.unusedVariables false
set_option linter.unusedSimpArgs false
set_option maxRecDepth 100000
namespace Go.Proofs.YtfphjfbknphhjaaGreatDoor
open Go.Proofs.YtfphjfbknphhjaaGreatDoor.Sh
/-! The laws PowerTells, PowerRaw. -/
theorem Zamt : PCw ES Ze7 [.agg (Z7 xC xP xL), .nilsl] = some (Zaab 0) := Zeu 200 (by kernel_rfl)
theorem x24 : doG xC [xCel 0, xCel 0] 3 ⟨5, 1, 0, 0, []⟩ = ([xCel 0, ⟨List.replicate 6 ⟨1, 0, 0, 60000, 0, [], 0, 0⟩, false, 0, []⟩], 0) := by kernel_rfl
theorem Zauw (s : Int) : Short [xCel s, xCel s] := ⟨by simp, fun x hx => by
  have : x = xCel s := by simpa using hx
  subst this
  refine ⟨by simp [xCel], by simp [xCel], fun n hn => ?_⟩
  have : n = xN s := by simpa [xCel] using hn
  subst this
  simp [xN]⟩
set_option maxHeartbeats 8000000 in
theorem Zaaf : PCw ES Zdd [] = some (.bool true) := by
  refine Za4 (fun M => ?_) rfl
  rw [Zads]
  have h0 := fun get => Z4 (get := get) Zaut rfl
  have h1 := fun get => Z4 (get := get) Zamt rfl
  obtain ⟨z, z1, z2, _⟩ := Zv9 xCfg rfl (Zavv 0) (Zakz 0) (Zauw 0) 3 (e := ⟨5, 1, 0, 0, []⟩) (ey := .agg [.int .i64 5, .int .i64 1, .int .i64 0, .int .i64 0, .nilsl]) ⟨.nilsl, rfl, RSl.nil _, rfl⟩
  rw [x24] at z1 z2
  have hlz := z2.Zex Zav
  simp only [List.length_cons, List.length_nil] at hlz
  obtain ⟨y, ⟨N, A, rfl, hN, hA, _, _⟩, y2, y3, _⟩ := z2.item Zav Zde Zwy (j := 1) (by simp)
  obtain ⟨w, ⟨N', A', rfl, hN', hA', _, _⟩, w2, w3, _⟩ := z2.item Zav Zde Zwy (j := 0) (by simp)
  simp only [List.getElem_cons_zero, List.getElem_cons_succ] at hN hN' y2 w2
  have hln := hN.Zex Zae
  rw [List.length_replicate] at hln
  obtain ⟨u, ⟨B, rfl, hB, _⟩, u2, u3, _⟩ := hN.item Zae Zb8 Zty (j := 5) (by simp)
  obtain ⟨v, ⟨B', rfl, hB', _⟩, v2, v3, _⟩ := hN'.item Zae Zb8 Zty (j := 0) (by simp [xCel])
  simp only [List.getElem_replicate, ndC, xCel, xN, clC] at u2 v2 y2 w2
  have y3' : Z9 ES.P Zt z (.int .i64 1) = some (.rptr (its z) 1 0 (Zwi z)) := y3
  have w3' : Z9 ES.P Zt z (.int .i64 0) = some (.rptr (its z) 0 0 (Zwi z)) := w3
  have u3' : Z9 ES.P Zj N (.int .i64 5) = some (.rptr (its N) 5 0 (Zwi N)) := u3
  have v3' : Z9 ES.P Zj N' (.int .i64 0) = some (.rptr (its N') 0 0 (Zwi N')) := v3
  have hlk : (Z7 xC xP xL).length = 13 := rfl
  have hcy : (Z7 xC xP xL)[2]? = some (.int .i64 20000) := rfl
  generalize Z7 xC xP xL = K at *
  have hcy' : K[2]'(by omega) = .int .i64 20000 := by simpa [hlk] using hcy
  generalize Zaab 0 = u0 at *
  have be : Zny ES.P Zu [(0, .int .i64 5), (1, .int .i64 1)] = some (.agg [.int .i64 5, .int .i64 1, .int .i64 0, .int .i64 0, .nilsl]) := by simp [Zny, placesOf, Zeb, splice]
  have hw : IntKind.i64.wrap 60000 = 60000 := i64_in (by omega) (by omega)
  simp (maxSteps := 4000000) [Zup, Zf, Zd, Ze, Zl, Zn, Zo, TK.agg, Zb, zeroS, Zi, Zg, splice, Zx, Z5, Zk, h0, h1, hlk, hcy', be, z1, hlz, y2, y3', w2, w3', hln, u2, u3', v2, v3', hw]
@[simp] theorem Zasx (get) : Za0 (PCw ES) get Zdd [] = some (.bool true) := Z4 Zaaf rfl
theorem Zanr {n : Nat} {xs : List SV} (h : WT ES.P (n + 2) Zgo xs) : ∃ l : List Int, Bytes (mkV ES.P Zgo xs) l ∧ xs = [mkV ES.P Zgo xs] := by
  rcases Zv2 Zuk Z76 h with ⟨e1, e⟩ | ⟨items, e1, e, hl, hi⟩
  · rw [e]; exact ⟨[], RSl.nil _, e1⟩
  · rw [e]
    obtain ⟨l, hl2⟩ := RSl.exists (R := fun y (v : Int) => y = .int .u8 v) (tl := .ro) (items := items) fun y hy => by
      obtain ⟨ys, rfl, hw⟩ := hi y hy
      obtain ⟨v, _, e, _⟩ := Zl9 Z76 hw
      exact ⟨v, e⟩
    exact ⟨l, hl2, e1⟩
theorem Zafh {n : Nat} {xs : List SV} (h : WT ES.P (n + 3) Zu xs) : ∃ o, EvR (mkV ES.P Zu xs) o := by
  obtain ⟨e, parts, rfl, hl, hp⟩ := Zvp Zqm h
  match parts, hl with
  | [p0, p1, p2, p3, p4], _ =>
    obtain ⟨a0, rfl, _, _⟩ := Zl9 Zes (hp 0 _ p0 rfl rfl)
    obtain ⟨a1, rfl, _, _⟩ := Zl9 Zes (hp 1 _ p1 rfl rfl)
    obtain ⟨a2, rfl, _, _⟩ := Zl9 Zes (hp 2 _ p2 rfl rfl)
    obtain ⟨a3, rfl, _, _⟩ := Zl9 Zes (hp 3 _ p3 rfl rfl)
    obtain ⟨b, h4, e4⟩ := Zanr (hp 4 _ p4 rfl rfl)
    have hB : Sh.pv (mkV ES.P Zgo p4) = true := Z4j (Z7a _ _ _ (hp 4 _ p4 rfl rfl))
    rw [e]
    refine ⟨⟨a0, a1, a2, a3, b⟩, mkV ES.P Zgo p4, ?_, h4, hB⟩
    conv => lhs; rw [e4]
    rfl
theorem Zafk {n now : Int} (h : Znu now = true) : I64 (now * (Zck n).cycle) := by
  have hcy := (Zg7 (Zec.1 (Zaff n)).2.1).cy
  simp only [Znu, decide_eq_true_eq] at h
  have h1 : 0 ≤ now * (Zck n).cycle := Int.mul_nonneg h.1 (by omega)
  have h2 : now * (Zck n).cycle ≤ 1000 * 1000000 := Int.mul_le_mul h.2 hcy.2 (by omega) (by decide)
  unfold I64
  omega
theorem Zamn {n : Int} {P L : SV} (hm : ∀ get, Za0 (PCw ES) get Zb9 [.int .i64 n] = some (.agg (Z7 (Zck n) P L))) : Sh.pv (.agg (Z7 (Zck n) P L)) = true := Zavt (hm fun _ => none)
set_option maxHeartbeats 8000000 in
theorem Z0i (xs0 xs1 xs2 : List SV) (h0 : WT ES.P 8 Zc xs0) (h1 : WT ES.P 8 Zh xs1) (h2 : WT ES.P 8 Zc xs2) :
    ∃ M', ICw ES Zcu [mkV ES.P Zc xs0, mkV ES.P Zh xs1, mkV ES.P Zc xs2] .empty = some (.bool true, M') := by
  obtain ⟨n, _, e0, _⟩ := Zl9 Zes h0
  obtain ⟨nd, hx⟩ := Zamp h1
  obtain ⟨now, _, e2, _⟩ := Zl9 Zes h2
  rw [e0, e2, Zx3]
  generalize mkV ES.P Zh xs1 = x at *
  obtain ⟨A, rfl, hA, hpA⟩ := hx
  have hla := hA.Zex Zb3
  by_cases c1 : nd.ages.length ≤ 30
  case neg =>
    have c1' : 30 < (nd.ages.length : Int) := by omega
    simp (maxSteps := 4000000) [Zls, Zf, Zd, Ze, Zl, Zn, Zo, TK.agg, Zb, zeroS, Zi, Zg, splice, Zx, Z5, Zk, ndC, hla, c1', Zz hA.sl, Zax hA.sl]
  have c1' : ¬ 30 < (nd.ages.length : Int) := by omega
  obtain ⟨P, L, hm, hP⟩ := Zaly n
  obtain ⟨y, y1, y2⟩ := Zaix hP hA hpA (by omega) (now := now) Zafk
  obtain ⟨w, w1, w2⟩ := Zaf6 hP hA hpA (by omega) (now := now) Zafk
  have hag : (if Zsf (Zck n) && Znu now then onN (Zck n) nd now else nd).ages.length ≤ 1000000 := by
    split
    · unfold onN
      split
      · simp
      · omega
    · omega
  have k := fun get => Zwq get y2 w2 hag
  have f1 := fun get => Zadw get hA hpA
  have f2 := fun get => Zaa2 get hA hpA
  have f3 := fun get => Zwq get (y := .agg (ndC (Z2p nd) .nilsl)) (z := .agg (ndC (Z2p nd) .nilsl)) ⟨.nilsl, rfl, RSl.nil _, rfl⟩ ⟨.nilsl, rfl, RSl.nil _, rfl⟩ (by simp [Z2p])
  have hlk : (Z7 (Zck n) P L).length = 13 := rfl
  generalize Z7 (Zck n) P L = K at *
  generalize ndC (Z2p nd) .nilsl = off at *
  simp only [ndC] at y1 w1 f1 f2 ⊢
  simp (maxSteps := 4000000) [Zls, Zf, Zd, Ze, Zl, Zn, Zo, TK.agg, Zb, zeroS, Zi, Zg, splice, Zx, Z5, Zk, hla, c1', hm, hlk, y1, w1, k, f1, f2, f3, Zz hA.sl, Zax hA.sl]
set_option maxHeartbeats 8000000 in
theorem Z70 (xs0 xs1 xs2 xs3 : List SV) (h0 : WT ES.P 8 Zc xs0) (h1 : WT ES.P 8 Zt xs1) (h2 : WT ES.P 8 Zc xs2) (h3 : WT ES.P 8 Zu xs3) :
    ∃ M', ICw ES Zdx [mkV ES.P Zc xs0, mkV ES.P Zt xs1, mkV ES.P Zc xs2, mkV ES.P Zu xs3] .empty = some (.bool true, M') := by
  obtain ⟨n, _, e0, _⟩ := Zl9 Zes h0
  obtain ⟨l, hx, hpv⟩ := Zagv h1
  obtain ⟨now, _, e2, _⟩ := Zl9 Zes h2
  obtain ⟨e, he⟩ := Zafh h3
  rw [e0, e2, Z2x]
  generalize mkV ES.P Zt xs1 = x at *
  generalize mkV ES.P Zu xs3 = ey at *
  have hsm := fun get => Zz3 get hx (Zac hpv Zar)
  obtain ⟨P, L, hm, hP⟩ := Zaly n
  have hpK := Zamn hm
  have hDo := fun (hs : Short l) => Zv9 hP hpK hx hpv hs now he
  have hDo2 := fun (hs : Short l) => Zagb hP hx hpv hs now he
  obtain ⟨B, rfl, hB, hpB⟩ := he
  have hlb := hB.Zex Zuk
  have hbC := Zz hB.sl
  have hbS := Zax hB.sl
  cases hsb : Z1n l with
  | false =>
    rw [hsb] at hsm
    simp (maxSteps := 4000000) [Zle, Zf, Zd, Ze, Zl, Zn, Zo, TK.agg, Zb, zeroS, Zi, Zg, splice, Zx, Z5, Zk, evC, hsm, hbC, hbS]
  | true =>
    rw [hsb] at hsm
    by_cases c1 : e.body.length ≤ 100
    case neg =>
      have c1' : 100 < (e.body.length : Int) := by omega
      simp (maxSteps := 4000000) [Zle, Zf, Zd, Ze, Zl, Zn, Zo, TK.agg, Zb, zeroS, Zi, Zg, splice, Zx, Z5, Zk, evC, hsm, hlb, c1', hbC, hbS]
    have c1' : ¬ 100 < (e.body.length : Int) := by omega
    have hs := Zaqt hsb
    obtain ⟨z1, a1, a2, a3⟩ := hDo hs
    obtain ⟨z2, b1, b2, b3⟩ := hDo2 hs
    have k := fun get => Zsv get a2 b2 a3 b3 (Zaal hs now e)
    have hn2 : I64 (doG (Zck n) l now e).2 := by
      rcases Z1k (Zck n) l now e with ⟨h1, _⟩ | h1 <;> rw [h1] <;> unfold I64 <;> omega
    have kn := fun get => Zyy get _ hn2
    have hlk : (Z7 (Zck n) P L).length = 13 := rfl
    generalize Z7 (Zck n) P L = K at *
    generalize (doG (Zck n) l now e).2 = r at *
    simp only [evC] at a1 b1 ⊢
    simp (maxSteps := 4000000) [Zle, Zf, Zd, Ze, Zl, Zn, Zo, TK.agg, Zb, zeroS, Zi, Zg, splice, Zx, Z5, Zk, hsm, hlb, c1', hm, hlk, a1, b1, k, kn, hbC, hbS]

end Go.Proofs.YtfphjfbknphhjaaGreatDoor

/-
  Walks of the seat's functions: Qo.
-/
set_option linter.unusedVariables false
set_option linter.unusedSimpArgs false
set_option maxRecDepth 100000
namespace Go.Proofs.YtfphjfbknphhjaaGreatDoor
open Go.Proofs.YtfphjfbknphhjaaGreatDoor.Sh
/-! The laws PowerDoes, PowerAgain. -/
theorem elmEv : Elm EvR ⟨.struct [(Zc, 0), (Zc, 1), (Zc, 2), (Zc, 3), (Zgo, 4)], 5, 56, some (.agg [.int .i64 0, .int .i64 0, .int .i64 0, .int .i64 0, .nilsl])⟩ :=
  ⟨fun ⟨B, h, _⟩ => by rw [h]; rfl, fun ⟨B, h, _⟩ => by rw [h]; rfl, fun h => Zac h.pv 10, fun ⟨B, h, _⟩ => by rw [h]; rfl⟩
theorem Zaoa {n : Nat} {xs : List SV} (h : WT ES.P (n + 4) Zdv xs) : ∃ os, RSl EvR (mkV ES.P Zdv xs) os := by
  rcases Zv2 Zpk Zqm h with ⟨e1, h⟩ | ⟨items, e1, h, hl, hi⟩
  · rw [h]; exact ⟨[], RSl.nil _⟩
  · rw [h]
    exact RSl.exists (R := EvR) (tl := .ro) (items := items) fun y hy => by
      obtain ⟨ys, rfl, hw⟩ := hi y hy
      exact Zafh hw
theorem u8_id {v : Int} (h : (Lit.int .u8 v).wf = true) : (0 ≤ v ∧ v ≤ 255) ∧ IntKind.i64.wrap v = v := by
  have : 0 ≤ v ∧ v ≤ 255 := by
    simp [Lit.wf, IntKind.min, IntKind.max, IntKind.bits, IntKind.signed] at h
    omega
  exact ⟨this, i64_in (by omega) (by omega)⟩
theorem Zatl (n : Int) : I64 (1 + Ztw .i64 n 7) := by
  have h : 0 ≤ Ztw .i64 n 7 ∧ Ztw .i64 n 7 ≤ 7 := Zv8 n 7 (by decide)
  unfold I64
  omega
/-- The event as the law means it. -/
def Z0e (e : Evt) : Evt := { e with kind := 1 + Ztw .i64 e.kind 7 }
set_option maxHeartbeats 16000000 in
theorem Z2w (xs0 xs1 xs2 xs3 : List SV) (h0 : WT ES.P 8 Zc xs0) (h1 : WT ES.P 8 Zt xs1) (h2 : WT ES.P 8 Zud xs2) (h3 : WT ES.P 8 Zdv xs3) :
    ∃ M', ICw ES Zcg [mkV ES.P Zc xs0, mkV ES.P Zt xs1, mkV ES.P Zud xs2, mkV ES.P Zdv xs3] .empty = some (.bool true, M') := by
  obtain ⟨n, _, e0, _⟩ := Zl9 Zes h0
  obtain ⟨l, hx, hpv⟩ := Zagv h1
  obtain ⟨now, _, e2, hnw⟩ := Zl9 Z76 h2
  obtain ⟨⟨hnow, _⟩, hwn⟩ := u8_id hnw
  obtain ⟨evs, he⟩ := Zaoa h3
  rw [e0, e2, Zzi]
  generalize mkV ES.P Zt xs1 = x at *
  generalize mkV ES.P Zdv xs3 = ey at *
  have hsm := fun get => Zz3 get hx (Zac hpv Zar)
  have hle := he.Zex Zpk
  obtain ⟨P, L, hm, hP⟩ := Zaly n
  have hpK := Zamn hm
  have hfit := Zaff n
  have hr := Z4k hfit
  cases hsb : Z1n l with
  | false =>
    rw [hsb] at hsm
    simp (maxSteps := 4000000) [Zh8, Zf, Zd, Ze, Zl, Zn, Zo, TK.agg, Zb, zeroS, Zi, Zg, splice, Zx, Z5, Zk, hsm]
  | true =>
  rw [hsb] at hsm
  by_cases c40 : evs.length ≤ 40
  case neg =>
    have c40' : 40 < (evs.length : Int) := by omega
    simp (maxSteps := 4000000) [Zh8, Zf, Zd, Ze, Zl, Zn, Zo, TK.agg, Zb, zeroS, Zi, Zg, splice, Zx, Z5, Zk, hsm, hle, c40']
  have c40' : ¬ 40 < (evs.length : Int) := by omega
  have hs20 : ∀ y ∈ l, y.nodes.length ≤ 1000 := fun y hy => by
    simp only [Z1n, Bool.and_eq_true, decide_eq_true_eq, Bool.not_eq_true', List.any_eq_false] at hsb
    have h1 := hsb.2 y hy
    simp only [bigC, Bool.or_eq_true, not_or, decide_eq_true_eq] at h1
    omega
  obtain ⟨z, cs, k1, k2, k3, k4⟩ := Zac1 hP hfit hx hpv hs20
  have hDo := fun {y : SV} {l : List Cel} (h1 : Zv7 y l) (h2 : Sh.pv y = true) (h3 : Short l) {e : Evt} {ev : SV} (h4 : EvR ev e) => Zv9 hP hpK h1 h2 h3 now h4
  have hDo2 := fun {y : SV} {l : List Cel} (h1 : Zv7 y l) (h2 : Sh.pv y = true) (h3 : Short l) {e : Evt} {ev : SV} (h4 : EvR ev e) => Zagb hP h1 h2 h3 now h4
  have hlk : (Z7 (Zck n) P L).length = 13 := rfl
  generalize Z7 (Zck n) P L = K at *
  generalize Zck n = c at *
  obtain ⟨r, g1, hQ⟩ := Zr0 (E := ES) (me := Zcg) (B := Zfz) (β := SV × List Cel) (len := evs.length) (T := fun j b => Zdj (.int .u8 now) ey (.ptr 2 0 0) b.1 (.int .i64 j))
    (I := fun _ b M => Zv7 b.1 b.2 ∧ Sh.pv b.1 = true ∧ Zjn c b.2 = true ∧ M.blk 2 = some [.agg K] ∧ 4 ≤ M.next)
    (Q := fun r => (∃ M' b, r = (.exit 0, ⟨(Zdj (.int .u8 now) ey (.ptr 2 0 0) b (.int .i64 evs.length)).set 38 (.bool false), M'⟩)) ∨ ∃ M', r = (.ret, ⟨(Zdj .Z .Z .Z .Z .Z).set 8 (.bool true), M'⟩))
    (fun j b M hj ⟨i1, i2, i3, i4, i5⟩ => by
      have hw : IntKind.i64.wrap ((j : Int) + 1) = (j : Int) + 1 := i64_in (by omega) (by omega)
      obtain ⟨y, l⟩ := b
      dsimp only at i1 i2 i3 ⊢
      obtain ⟨u, ⟨B, rfl, hB, hpB⟩, hu, hui, _⟩ := he.item Zpk Zqm elmEv hj
      have hlb := hB.Zex Zuk
      generalize evs[j] = e at *
      have hbC := Zz hB.sl
      have hbS := Zax hB.sl
      by_cases cb : e.body.length ≤ 100
      case neg =>
        right
        have cb' : 100 < (e.body.length : Int) := by omega
        simp only [evC] at hu
        exact ⟨_, by simp (maxSteps := 4000000) [Zfz, Zf, Zd, Ze, Zl, Zn, Zo, TK.agg, Zb, zeroS, Zi, Zg, splice, Zx, Z5, Zk, Zdj, hle, hj, hu, hui, hlb, cb'], by simp, .inr ⟨M, rfl⟩⟩
      left
      have cb' : ¬ 100 < (e.body.length : Int) := by omega
      have hs := Zae1 hr i3
      have hke : EvR (.agg (evC (Z0e e) B)) (Z0e e) := ⟨B, rfl, hB, hpB⟩
      obtain ⟨z1, a1, a2, a3⟩ := hDo i1 i2 hs hke
      obtain ⟨z2, b1, b2, b3⟩ := hDo2 i1 i2 hs hke
      have k := fun get => Zsv get a2 b2 a3 b3 (Zaal hs now (Z0e e))
      have hwk := (Zatl e.kind).wrap
      have d1 : ¬ 2 = M.next + 4 := by omega
      have fin : ((M.bump 6).set (M.next + 4) (some [.agg (evC (Z0e e) B)])).blk 2 = some [.agg K] ∧ 4 ≤ ((M.bump 6).set (M.next + 4) (some [.agg (evC (Z0e e) B)])).next := ⟨by simp only [Mem.Ziy, if_neg d1, Mem.Zaov, i4], by show 4 ≤ M.next + 6; omega⟩
      rcases Z1k c l now (Z0e e) with ⟨h1, hmay, hth⟩ | h1
      · rw [h1] at a1 a2 b1 b2
        have kn := fun get => Zyy get 0 (by unfold I64; omega)
        refine ⟨(z2, doL c l now (Z0e e)), ((M.bump 6).set (M.next + 4) (some [.agg (evC (Z0e e) B)])), ?_, b2, b3, Zann hmay, fin⟩
        simp only [evC, Z0e] at hu a1 b1 ⊢
        simp (maxSteps := 4000000) [Zfz, Zf, Zd, Ze, Zl, Zn, Zo, TK.agg, Zb, zeroS, Zi, Zg, splice, Zx, Z5, Zk, Zz8, Zdj, Mem.set2, hle, hj, hu, hui, hlb, cb', hwk, hwn, i4, hlk, d1, a1, b1, k, kn, hw, hbC, hbS]
      · rw [h1] at a1 a2 b1 b2
        have kn := fun get => Zyy get 1 (by unfold I64; omega)
        refine ⟨(y, l), ((M.bump 6).set (M.next + 4) (some [.agg (evC (Z0e e) B)])), ?_, i1, i2, i3, fin⟩
        simp only [evC, Z0e] at hu a1 b1 ⊢
        simp (maxSteps := 4000000) [Zfz, Zf, Zd, Ze, Zl, Zn, Zo, TK.agg, Zb, zeroS, Zi, Zg, splice, Zx, Z5, Zk, Zz8, Zdj, Mem.set2, hle, hj, hu, hui, hlb, cb', hwk, hwn, i4, hlk, d1, a1, b1, k, kn, hw, hbC, hbS])
    (fun b M ⟨i1, i2, i3, i4, i5⟩ => ⟨_, by simp [Zfz, Zf, Zd, Ze, Zl, TK.agg, zeroS, Zx, Z5, Zdj, hle], by simp, .inl ⟨M, b.1, rfl⟩⟩) 0 (z, cs) ((Mem.empty.bump 4).set 2 (some [.agg K])) (by omega)
    ⟨k2, k3, k4, by simp, by simp⟩
  rcases hQ with ⟨M', b, rfl⟩ | ⟨M', rfl⟩
  · simp [Zdj] at g1
    simp (maxSteps := 4000000) [Zh8, Zf, Zd, Ze, Zl, Zn, Zo, TK.agg, Zb, zeroS, Zi, Zg, splice, Zx, Z5, Zk, hsm, hle, c40', hm, hlk, k1, Zmy, g1]
  · simp [Zdj] at g1
    simp (maxSteps := 4000000) [Zh8, Zf, Zd, Ze, Zl, Zn, Zo, TK.agg, Zb, zeroS, Zi, Zg, splice, Zx, Z5, Zk, hsm, hle, c40', hm, hlk, k1, Zmy, g1]

end Go.Proofs.YtfphjfbknphhjaaGreatDoor
