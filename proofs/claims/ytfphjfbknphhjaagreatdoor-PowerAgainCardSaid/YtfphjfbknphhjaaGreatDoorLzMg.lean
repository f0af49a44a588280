/-
  Walks of the seat's functions: Pn.
-/
import Derived.Test.YtfphjfbknphhjaaGreatDoorEb2
import Derived.Test.YtfphjfbknphhjaaGreatDoorShMb
import Derived.Test.YtfphjfbknphhjaaGreatDoorLzMc
set_option linter.unusedVariables false
set_option linter.unusedSimpArgs false
set_option maxRecDepth 100000
namespace Go.Proofs.YtfphjfbknphhjaaGreatDoor
open Go.Proofs.YtfphjfbknphhjaaGreatDoor.Sh
/-! plan.parts. -/
theorem Zrx (p : Part) : Znt p = (decide (p.nodes < 1) || decide (12 < p.nodes) || decide (p.faults < 0) || decide (3 < p.faults) || decide (p.nodes < 3 * p.faults + 1)) := by
  simp [Znt, Bool.or_assoc]
set_option maxHeartbeats 4000000 in
theorem Z6c {y : SV} {c : Cfg} (hc : CfgR y c) : PCw ES Zhi [y] = some (Z1x (Zfu c)) := by
  obtain ⟨P, L, rfl, hP⟩ := hc
  refine Za4 (fun M0 => ?_) (Zaej _)
  rw [Zabe]
  have hlen := hP.p.Zex Za1
  by_cases h1 : c.parts.length < 1
  · have h1' : (c.parts.length : Int) < 1 := by omega
    have e : Zfu c = some (7, 0) := by simp [Zfu, h1]
    simp [Zme, Zf, Zd, Ze, Zl, Zn, Zo, TK.agg, Zb, zeroS, Zi, Zg, splice, Zx, Z5, Zk, Z7, hlen, h1, h1', e, Z1x]
  by_cases h2 : 6 < c.parts.length
  · have h2' : 6 < (c.parts.length : Int) := by omega
    have h1' : ¬ (c.parts.length : Int) < 1 := by omega
    have e : Zfu c = some (7, 0) := by simp [Zfu, h2]
    simp [Zme, Zf, Zd, Ze, Zl, Zn, Zo, TK.agg, Zb, zeroS, Zi, Zg, splice, Zx, Z5, Zk, Z7, hlen, h1, h1', h2, h2', e, Z1x]
  have h1' : ¬ (c.parts.length : Int) < 1 := by omega
  have h2' : ¬ 6 < (c.parts.length : Int) := by omega
  obtain ⟨r, g1, M', g2⟩ := Zdc (E := ES) (me := Zhi) (B := Zel) (len := c.parts.length) (T := fun j => Zdh P (.int .i64 c.parts.length) (.int .i64 j)) (I := fun _ _ => True)
    (p := fun j => (c.parts[j]?.map Znt).getD false)
    (Q := fun o r => ∃ M', r = match o with
      | some j => (.ret, ⟨(Zdh .Z .Z .Z).set 2 (Zxy 8 j), M'⟩)
      | none => (.exit 0, ⟨(Zdh P (.int .i64 c.parts.length) (.int .i64 c.parts.length)).set 20 (.bool false), M'⟩))
    (fun j M hj _ hpj => by
      have ha := Parts.at hP.p hj
      have hw : IntKind.i64.wrap ((j : Int) + 1) = (j : Int) + 1 := i64_in (by omega) (by omega)
      simp [hj, Zrx] at hpj
      obtain ⟨⟨⟨⟨q1, q2⟩, q3⟩, q4⟩, q5⟩ := hpj
      have w1 : IntKind.i64.wrap (3 * c.parts[j].faults) = 3 * c.parts[j].faults := i64_in (by omega) (by omega)
      have w2 : IntKind.i64.wrap (3 * c.parts[j].faults + 1) = 3 * c.parts[j].faults + 1 := i64_in (by omega) (by omega)
      have r1 : ¬ c.parts[j].nodes < 1 := by omega
      have r2 : ¬ 12 < c.parts[j].nodes := by omega
      have r3 : ¬ c.parts[j].faults < 0 := by omega
      have r4 : ¬ 3 < c.parts[j].faults := by omega
      have r5 : ¬ c.parts[j].nodes < 3 * c.parts[j].faults + 1 := by omega
      simp [Zel, Zf, Zd, Ze, Zl, Zn, Zo, TK.agg, Zb, zeroS, Zi, Zg, splice, Zx, Z5, Zk, Zdh, hj, ha, r1, r2, r3, r4, r5, w1, w2, hw])
    (fun j M hj _ hpj => by
      have ha := Parts.at hP.p hj
      simp only [hj, List.getElem?_eq_getElem, Option.map_some, Option.getD_some, Zrx] at hpj
      by_cases r1 : c.parts[j].nodes < 1
      · simp [Zel, Zf, Zd, Ze, Zl, Zn, Zo, TK.agg, Zb, zeroS, Zi, Zg, splice, Zx, Z5, Zk, Zdh, hj, ha, r1]
      by_cases r2 : 12 < c.parts[j].nodes
      · simp [Zel, Zf, Zd, Ze, Zl, Zn, Zo, TK.agg, Zb, zeroS, Zi, Zg, splice, Zx, Z5, Zk, Zdh, hj, ha, r1, r2]
      by_cases r3 : c.parts[j].faults < 0
      · simp [Zel, Zf, Zd, Ze, Zl, Zn, Zo, TK.agg, Zb, zeroS, Zi, Zg, splice, Zx, Z5, Zk, Zdh, hj, ha, r1, r2, r3]
      by_cases r4 : 3 < c.parts[j].faults
      · simp [Zel, Zf, Zd, Ze, Zl, Zn, Zo, TK.agg, Zb, zeroS, Zi, Zg, splice, Zx, Z5, Zk, Zdh, hj, ha, r1, r2, r3, r4]
      have r5 : c.parts[j].nodes < 3 * c.parts[j].faults + 1 := by simpa [r1, r2, r3, r4] using hpj
      have w1 : IntKind.i64.wrap (3 * c.parts[j].faults) = 3 * c.parts[j].faults := i64_in (by omega) (by omega)
      have w2 : IntKind.i64.wrap (3 * c.parts[j].faults + 1) = 3 * c.parts[j].faults + 1 := i64_in (by omega) (by omega)
      simp [Zel, Zf, Zd, Ze, Zl, Zn, Zo, TK.agg, Zb, zeroS, Zi, Zg, splice, Zx, Z5, Zk, Zdh, hj, ha, r1, r2, r3, r4, r5, w1, w2])
    (fun M _ => by simp [Zel, Zf, Zd, Ze, Zl, Zn, Zo, TK.agg, Zb, zeroS, Zi, Zg, splice, Zx, Z5, Zk, Zdh]) ((M0.bump 2).set M0.next (some [.agg (Z7 c P L)])) trivial
  have e : Zfu c = match (List.range c.parts.length).find? (fun j => (c.parts[j]?.map Znt).getD false) with
    | some i => some (8, (i : Int))
    | none => none := by simp [Zfu, h1, h2]; rfl
  rw [e]
  cases hf : (List.range c.parts.length).find? (fun j => (c.parts[j]?.map Znt).getD false) with
  | none =>
    rw [hf] at g2
    subst g2
    simp [Zdh, Z7] at g1
    simp [Zme, Zf, Zd, Ze, Zl, Zn, Zo, TK.agg, Zb, zeroS, Zi, Zg, splice, Zx, Z5, Zk, Z7, hlen, h1, h1', h2, h2', Zp1, g1, Z1x]
  | some j =>
    rw [hf] at g2
    subst g2
    simp [Zdh, Z7] at g1
    simp [Zme, Zf, Zd, Ze, Zl, Zn, Zo, TK.agg, Zb, zeroS, Zi, Zg, splice, Zx, Z5, Zk, Z7, hlen, h1, h1', h2, h2', Zp1, g1, Z1x]
theorem Zabc (get) {y : SV} {c : Cfg} (hc : CfgR y c) : Za0 (PCw ES) get Zhi [y] = some (Z1x (Zfu c)) := Z4 (Z6c hc) (by simp [hc.Z2q])

end Go.Proofs.YtfphjfbknphhjaaGreatDoor

/-
  Walks of the seat's functions: Po.
-/
set_option linter.unusedVariables false
set_option linter.unusedSimpArgs false
set_option maxRecDepth 100000
namespace Go.Proofs.YtfphjfbknphhjaaGreatDoor
open Go.Proofs.YtfphjfbknphhjaaGreatDoor.Sh
/-! plan.links. -/
theorem Z0f (get : Nat → Option (List SV)) {x : SV} {ls : List Link} (hx : Links x ls) (hb : ls.length < 4611686018427387904) (l : Link) {q : Nat} (hq : get q = some [Za2 l]) :
    Za0 (PCw ES) get Z8 [x, .fn Zeg [] [.ptr q 0 0]] = some (.bool (twice ls l)) := by
  have p1 : pic get false 11 (.ptr q 0 0) = some (.rptr [Za2 l] 0 0 false) := Zwo hq (by simp; exact Zais l)
  rw [Zm7 (ys := [x, .fn Zeg [] [.rptr [Za2 l] 0 0 false]])]
  · exact Zek Z50 Zlw hx hb (npF (by rfl)) (fun x => decide (x.a = l.a ∧ x.b = l.b)) (fun get y v hy _ => by
      subst hy
      exact Z4 (Zzn v l false) (by simp [Zri, Zap1])) (Zanq l)
  · have q2 : pic get false Zar (.fn Zeg [] [.ptr q 0 0]) = some (.fn Zeg [] [.rptr [Za2 l] 0 0 false]) := Zafv (by simp [p1]) rfl
    simp [Zd3 hx.Z2q, q2]
theorem Znn {c : Cfg} {i : Nat} {l : Link} (h : Zix c l = true) : Zbs c i l = 10 := by simp [Zbs, h]
set_option maxHeartbeats 4000000 in
theorem Z56 {y : SV} {c : Cfg} (hc : CfgR y c) : PCw ES Zdp [y] = some (Z1x (Zhf c)) := by
  have hcy := hc
  obtain ⟨P, L, rfl, hP⟩ := hc
  refine Za4 (fun M0 => ?_) (Zaej _)
  rw [Z90]
  have hlen := hP.l.Zex Zbi
  have hlenp := hP.p.Zex Za1
  by_cases h1 : 10 < c.links.length
  · have h1' : 10 < (c.links.length : Int) := by omega
    have e : Zhf c = some (9, 0) := by simp [Zhf, h1]
    simp [Zol, Zf, Zd, Ze, Zl, Zn, Zo, TK.agg, Zb, zeroS, Zi, Zg, splice, Zx, Z5, Zk, Z7, hlen, h1', e, Z1x]
  have h1' : ¬ 10 < (c.links.length : Int) := by omega
  have body : ∀ (p j : Nat) (M : Mem) (hj : j < c.links.length), M.blk p = some [.agg (Z7 c P L)] → p < M.next → ∃ M', M'.blk p = some [.agg (Z7 c P L)] ∧ p < M'.next ∧
      evW ES Zdp Zdr ⟨Zb7 (.ptr p 0 0) L (.int .i64 c.links.length) (.int .i64 j), M⟩ =
        some (if Zbs c j c.links[j] = 0 then (.normal, ⟨Zb7 (.ptr p 0 0) L (.int .i64 c.links.length) (.int .i64 ((j : Int) + 1)), M'⟩)
          else (.ret, ⟨(Zb7 .Z .Z .Z .Z).set 2 (Zxy (Zbs c j c.links[j]) j), M'⟩)) := by
    intro p j M hj hb hlt
    have ha := Links.at hP.l hj
    have hw : IntKind.i64.wrap ((j : Int) + 1) = (j : Int) + 1 := i64_in (by omega) (by omega)
    have hne : ∀ k, (p = M.next + k) = False := fun k => by simp; omega
    have hb0 := hb
    simp only [Z7] at hb0
    by_cases q1 : Zam c.links[j].a c.parts.length
    case neg =>
      have e : Zbs c j c.links[j] = 10 := Znn (by simp [Zix, q1])
      rw [e]
      simp [Zdr, Zf, Zd, Ze, Zl, Zn, Zo, TK.agg, Zb, zeroS, Zi, Zg, splice, Zx, Z5, Zk, Zb7, hj, hb0, ha, hlenp, hne, q1]
      exact ⟨rfl, by omega⟩
    by_cases q2 : Zam c.links[j].b c.parts.length
    case neg =>
      have e : Zbs c j c.links[j] = 10 := Znn (by simp [Zix, q2])
      rw [e]
      simp [Zdr, Zf, Zd, Ze, Zl, Zn, Zo, TK.agg, Zb, zeroS, Zi, Zg, splice, Zx, Z5, Zk, Zb7, hj, hb0, ha, hlenp, hne, q1, q2]
      exact ⟨rfl, by omega⟩
    by_cases q3 : c.links[j].b ≤ c.links[j].a
    case pos =>
      have e : Zbs c j c.links[j] = 10 := Znn (by simp [Zix, q3])
      rw [e]
      simp [Zdr, Zf, Zd, Ze, Zl, Zn, Zo, TK.agg, Zb, zeroS, Zi, Zg, splice, Zx, Z5, Zk, Zb7, hj, hb0, ha, hlenp, hne, q1, q2, q3]
      exact ⟨rfl, by omega⟩
    have hbe : Zix c c.links[j] = false := by simp [Zix, q1, q2, q3]
    obtain ⟨y, hs, hy⟩ := RSl.pre hP.l Zbi Zlw Z50 (n := j) (by omega)
    have hcf := fun (get : Nat → Option (List SV)) (q : Nat) (hq : get q = some [Za2 c.links[j]]) => Z0f get hy (by have := hP.ll; simp; omega) c.links[j] (q := q) hq
    cases q4 : twice (c.links.take j) c.links[j] with
    | true =>
      have e : Zbs c j c.links[j] = 11 := by simp [Zbs, hbe, q4]
      rw [e]
      rw [q4] at hcf
      simp [Zdr, Zf, Zd, Ze, Zl, Zn, Zo, TK.agg, Zb, zeroS, Zi, Zg, splice, Zx, Z5, Zk, Zb7, hj, hb0, ha, hlenp, hne, q1, q2, q3, hs, hcf]
      exact ⟨rfl, by omega⟩
    | false =>
      rw [q4] at hcf
      have hpo := fun get => Z8v get (y := .agg (Z7 c P L)) ⟨P, L, rfl, hP⟩ hj hbe
      simp only [Z7] at hpo
      cases q5 : (endBad c j c.links[j].a c.links[j].pa0 c.links[j].pa1 || endBad c j c.links[j].b c.links[j].pb0 c.links[j].pb1) with
      | true =>
        have e : Zbs c j c.links[j] = 12 := by simp only [Zbs, hbe, q4, q5]; rfl
        rw [e]
        rw [q5] at hpo
        simp [Zdr, Zf, Zd, Ze, Zl, Zn, Zo, TK.agg, Zb, zeroS, Zi, Zg, splice, Zx, Z5, Zk, Zb7, hj, hb0, ha, hlenp, hne, q1, q2, q3, hs, hcf, hpo]
        exact ⟨rfl, by omega⟩
      | false =>
        have e : Zbs c j c.links[j] = 0 := by simp only [Zbs, hbe, q4, q5]; rfl
        rw [e]
        rw [q5] at hpo
        simp [Zdr, Zf, Zd, Ze, Zl, Zn, Zo, TK.agg, Zb, zeroS, Zi, Zg, splice, Zx, Z5, Zk, Zb7, hj, hb0, ha, hlenp, hne, q1, q2, q3, hs, hcf, hpo, hw]
        exact ⟨rfl, by omega⟩
  obtain ⟨r, g1, M', g2⟩ := Zdc (E := ES) (me := Zdp) (B := Zdr) (len := c.links.length) (T := fun j => Zb7 (.ptr M0.next 0 0) L (.int .i64 c.links.length) (.int .i64 j)) (I := fun _ M => M.blk M0.next = some [.agg (Z7 c P L)] ∧ M0.next < M.next)
    (p := fun j => (c.links[j]?.map fun l => Zbs c j l != 0).getD false)
    (Q := fun o r => ∃ M', r = match o with
      | some j => (.ret, ⟨(Zb7 .Z .Z .Z .Z).set 2 (Zxy ((c.links[j]?.map fun l => Zbs c j l).getD 0) j), M'⟩)
      | none => (.exit 0, ⟨(Zb7 (.ptr M0.next 0 0) L (.int .i64 c.links.length) (.int .i64 c.links.length)).set 14 (.bool false), M'⟩))
    (fun j M hj ⟨hb, hlt⟩ hpj => by
      obtain ⟨M', a1, a2, a3⟩ := body M0.next j M hj hb hlt
      simp [hj] at hpj
      rw [if_pos hpj] at a3
      exact ⟨M', a3, a1, a2⟩)
    (fun j M hj ⟨hb, hlt⟩ hpj => by
      obtain ⟨M', a1, a2, a3⟩ := body M0.next j M hj hb hlt
      simp [hj] at hpj
      rw [if_neg hpj] at a3
      exact ⟨_, a3, by simp, M', by simp [hj]⟩)
    (fun M _ => by simp [Zdr, Zf, Zd, Ze, Zl, Zn, Zo, TK.agg, Zb, zeroS, Zi, Zg, splice, Zx, Z5, Zk, Zb7]) ((M0.bump 2).set M0.next (some [.agg (Z7 c P L)])) ⟨by simp, by simp⟩
  have e : Zhf c = match (List.range c.links.length).find? (fun j => (c.links[j]?.map fun l => Zbs c j l != 0).getD false) with
    | some i => some ((c.links[i]?.map fun l => Zbs c i l).getD 0, (i : Int))
    | none => none := by simp [Zhf, h1]; rfl
  rw [e]
  cases hf : (List.range c.links.length).find? (fun j => (c.links[j]?.map fun l => Zbs c j l != 0).getD false) with
  | none =>
    rw [hf] at g2
    subst g2
    simp [Zb7, Z7] at g1
    simp [Zol, Zf, Zd, Ze, Zl, Zn, Zo, TK.agg, Zb, zeroS, Zi, Zg, splice, Zx, Z5, Zk, Z7, hlen, h1', Zpz, g1, Z1x]
  | some j =>
    rw [hf] at g2
    subst g2
    simp [Zb7, Z7] at g1
    simp [Zol, Zf, Zd, Ze, Zl, Zn, Zo, TK.agg, Zb, zeroS, Zi, Zg, splice, Zx, Z5, Zk, Z7, hlen, h1', Zpz, g1, Z1x]
theorem Zabo (get) {y : SV} {c : Cfg} (hc : CfgR y c) : Za0 (PCw ES) get Zdp [y] = some (Z1x (Zhf c)) := Z4 (Z56 hc) (by simp [hc.Z2q])

end Go.Proofs.YtfphjfbknphhjaaGreatDoor
