/-
  Walks of the seat's functions: Rb.
-/
import Derived.Test.YtfphjfbknphhjaaGreatDoorEb2
import Derived.Test.YtfphjfbknphhjaaGreatDoorShMb
import Derived.Test.YtfphjfbknphhjaaGreatDoorLRa
import Derived.Test.YtfphjfbknphhjaaGreatDoorLzMg
set_option linter.unusedVariables false
set_option linter.unusedSimpArgs false
set_option maxRecDepth 100000
namespace Go.Proofs.YtfphjfbknphhjaaGreatDoor
open Go.Proofs.YtfphjfbknphhjaaGreatDoor.Sh
/-! The document's own: ends, link. -/
theorem np_i2 (p0 p1 : Int) (n : Nat) : np n (.agg [.int .i64 p0, .int .i64 p1]) = true := Zac rfl _
set_option maxHeartbeats 4000000 in
theorem Zabw (get) {P L : SV} {c : Cfg} (hP : Zi2 c P L) {i : Nat} (hi : i ≤ c.links.length) {part : Int} (hp : Zam part c.parts.length) (p0 p1 : Int) :
    Za0 (PCw ES) get Zhm [.agg (Z7 c P L), .int .i64 i, .int .i64 part, .agg [.int .i64 p0, .int .i64 p1]] = some (.bool (endBad c i part p0 p1)) := by
  have hpl : part.toNat < c.parts.length := by obtain ⟨h1, h2⟩ := hp; omega
  have hix := hP.p.atI hp.1 hpl
  have hn := Z34 hpl
  have step : ∀ (p q k : Nat) (n : Int) (M : Mem), (k = 0 ∧ n = p0) ∨ (k = 1 ∧ n = p1) → M.blk p = some [.agg (Z7 c P L)] → M.blk q = some [.agg [.int .i64 p0, .int .i64 p1]] → p < M.next → q < M.next →
      ∃ M', M'.blk p = some [.agg (Z7 c P L)] ∧ M'.blk q = some [.agg [.int .i64 p0, .int .i64 p1]] ∧ M.next ≤ M'.next ∧
        evW ES Zhm Zka ⟨Zc3 (.int .i64 i) (.int .i64 part) (.ptr p 0 0) (.ptr q 0 0) (.int .i64 k), M⟩ =
          some (if Zfl c i part n then (.ret, ⟨(Zc3 .Z .Z .Z .Z .Z).set 8 (.bool true), M'⟩)
            else (.normal, ⟨Zc3 (.int .i64 i) (.int .i64 part) (.ptr p 0 0) (.ptr q 0 0) (.int .i64 ((k + 1 : Nat) : Int)), M'⟩)) := by
    intro p q k n M hk hb hq hlp hlq
    have hnp : ∀ z, (p = M.next + z) = False := fun z => by simp; omega
    have hnq : ∀ z, (q = M.next + z) = False := fun z => by simp; omega
    have hpo := fun get => Zakl get hP part n hi
    have hft := Zv1 (c.links.take i) part n
    refine ⟨(M.bump 13).set (M.next + 10) (some [Zap ((Zkz (c.links.take i) part n).getD ⟨0, 0, 0, 0⟩)]), by simp [hnp, hb], by simp [hnq, hq], by simp, ?_⟩
    simp only [Z7] at hb hpo
    have hel : Z9 ES.P Zaq (.ptr q 0 0) (.int .i64 k) = some (.ptr q 0 k) := by
      rcases hk with ⟨rfl, _⟩ | ⟨rfl, _⟩
      · exact Zav8 _ _ _
      · exact Zawo _ _ _
    have hk2 : k < 2 := by omega
    have hcell : [SV.int .i64 p0, SV.int .i64 p1][k] = .int .i64 n := by
      rcases hk with ⟨rfl, rfl⟩ | ⟨rfl, rfl⟩ <;> rfl
    have hk2' : (k : Int) < 2 := by omega
    have hw : IntKind.i64.wrap ((k : Int) + 1) = (k : Int) + 1 := i64_in (by omega) (by omega)
    cases h1 : decide (Zam n c.parts[part.toNat].nodes) with
    | false =>
      have hbad : Zfl c i part n = true := by simp [Zfl, hn, h1]
      simp [Zka, Zf, Zd, Ze, Zl, Zn, Zo, TK.agg, Zb, zeroS, Zi, Zg, splice, Zx, Z5, Zk, Zc3, hk2, hk2', hel, hcell, hb, hq, hlp, hlq, hnp, hnq, hpo, Zaiz, hix, hpl, h1, hbad]
    | true =>
      have hbad : Zfl c i part n = (Zkz (c.links.take i) part n).isSome := by simp [Zfl, hn, h1, hft]
      cases h2 : (Zkz (c.links.take i) part n).isSome
      · simp [Zka, Zf, Zd, Ze, Zl, Zn, Zo, TK.agg, Zb, zeroS, Zi, Zg, splice, Zx, Z5, Zk, Zc3, hk2, hk2', hel, hcell, hb, hq, hlp, hlq, hnp, hnq, hpo, Zaiz, hix, hpl, h1, hbad, h2, hw]
      · simp [Zka, Zf, Zd, Ze, Zl, Zn, Zo, TK.agg, Zb, zeroS, Zi, Zg, splice, Zx, Z5, Zk, Zc3, hk2, hk2', hel, hcell, hb, hq, hlp, hlq, hnp, hnq, hpo, Zaiz, hix, hpl, h1, hbad, h2, hw]
  refine Z4 (Za4 (fun M0 => ?_) rfl) (by simp [hP.npA, np_i2])
  rw [Zako]
  by_cases h0 : p0 = p1
  · have e : endBad c i part p0 p1 = true := by simp [endBad, h0]
    rw [e]
    simp [Zrf, Zf, Zd, Ze, Zl, Zn, Zo, TK.agg, Zb, zeroS, Zi, Zg, splice, Zx, Z5, Zk, Z7, h0]
  obtain ⟨M1, a1, a2, a3, a4⟩ := step M0.next (M0.next + 1) 0 p0 (((M0.bump 3).set M0.next (some [.agg (Z7 c P L)])).set (M0.next + 1) (some [.agg [.int .i64 p0, .int .i64 p1]])) (by simp) (by simp) (by simp) (by simp) (by simp)
  have h1' : M0.next + 3 ≤ M1.next := by simpa using a3
  obtain ⟨M2, b1, b2, b3, b4⟩ := step M0.next (M0.next + 1) 1 p1 M1 (by simp) a1 a2 (by omega) (by omega)
  have e : endBad c i part p0 p1 = (Zfl c i part p0 || Zfl c i part p1) := by simp [endBad, h0]
  cases q1 : Zfl c i part p0 with
  | true =>
    rw [q1] at a4 e
    simp only [Bool.true_or] at e
    have hl : evW ES Zhm Zkp ⟨Zc3 (.int .i64 i) (.int .i64 part) (.ptr M0.next 0 0) (.ptr (M0.next + 1) 0 0) (.int .i64 ((0 : Nat) : Int)), ((M0.bump 3).set M0.next (some [.agg (Z7 c P L)])).set (M0.next + 1) (some [.agg [.int .i64 p0, .int .i64 p1]])⟩ = some (.ret, ⟨(Zc3 .Z .Z .Z .Z .Z).set 8 (.bool true), M1⟩) := (by unfold Zkp; rw [Zbl, a4]; rfl)
    simp [Zc3, Z7] at hl
    simp [Zrf, Zf, Zd, Ze, Zl, Zn, Zo, TK.agg, Zb, zeroS, Zi, Zg, splice, Zx, Z5, Zk, Z7, h0, e, hl]
  | false =>
    rw [q1] at a4 e
    simp only [Bool.false_or] at e
    cases q2 : Zfl c i part p1 with
    | true =>
      rw [q2] at b4 e
      have hl : evW ES Zhm Zkp ⟨Zc3 (.int .i64 i) (.int .i64 part) (.ptr M0.next 0 0) (.ptr (M0.next + 1) 0 0) (.int .i64 ((0 : Nat) : Int)), ((M0.bump 3).set M0.next (some [.agg (Z7 c P L)])).set (M0.next + 1) (some [.agg [.int .i64 p0, .int .i64 p1]])⟩ = some (.ret, ⟨(Zc3 .Z .Z .Z .Z .Z).set 8 (.bool true), M2⟩) := (by unfold Zkp; rw [Zbl, a4]; simp only [Bool.false_eq_true, if_false]; rw [Zbl, b4]; rfl)
      simp [Zc3, Z7] at hl
      simp [Zrf, Zf, Zd, Ze, Zl, Zn, Zo, TK.agg, Zb, zeroS, Zi, Zg, splice, Zx, Z5, Zk, Z7, h0, e, hl]
    | false =>
      rw [q2] at b4 e
      have b5 : evW ES Zhm Zka ⟨Zc3 (.int .i64 i) (.int .i64 part) (.ptr M0.next 0 0) (.ptr (M0.next + 1) 0 0) (.int .i64 ((1 + 1 : Nat) : Int)), M2⟩ = some (.exit 0, ⟨(Zc3 (.int .i64 i) (.int .i64 part) (.ptr M0.next 0 0) (.ptr (M0.next + 1) 0 0) (.int .i64 2)).set 18 (.bool false), M2⟩) := by simp [Zka, Zf, Zd, Ze, Zl, Zn, Zo, TK.agg, Zb, zeroS, Zi, Zg, splice, Zx, Z5, Zk, Zc3]
      have hl : evW ES Zhm Zkp ⟨Zc3 (.int .i64 i) (.int .i64 part) (.ptr M0.next 0 0) (.ptr (M0.next + 1) 0 0) (.int .i64 ((0 : Nat) : Int)), ((M0.bump 3).set M0.next (some [.agg (Z7 c P L)])).set (M0.next + 1) (some [.agg [.int .i64 p0, .int .i64 p1]])⟩ = some (.exit 0, ⟨(Zc3 (.int .i64 i) (.int .i64 part) (.ptr M0.next 0 0) (.ptr (M0.next + 1) 0 0) (.int .i64 2)).set 18 (.bool false), M2⟩) := (by unfold Zkp; rw [Zbl, a4]; simp only [Bool.false_eq_true, if_false]; rw [Zbl, b4]; simp only [Bool.false_eq_true, if_false]; rw [Zbl, b5])
      simp [Zc3, Z7] at hl
      simp [Zrf, Zf, Zd, Ze, Zl, Zn, Zo, TK.agg, Zb, zeroS, Zi, Zg, splice, Zx, Z5, Zk, Z7, h0, e, hl]
set_option maxHeartbeats 4000000 in
theorem Z9t (get) {P L : SV} {c : Cfg} (hP : Zi2 c P L) {i : Nat} (hi : i < c.links.length) :
    Za0 (PCw ES) get Zmm [.agg (Z7 c P L), .int .i64 i] = some (.int .i64 (Zbs c i c.links[i])) := by
  refine Z4 (Za4 (fun M0 => ?_) rfl) (by simp [hP.npA])
  rw [Zalt]
  have hlenp := hP.p.Zex Za1
  have ha := Links.at hP.l hi
  generalize hl : c.links[i] = l
  have h7 : M0.next + 2 + 5 = M0.next + 7 := rfl
  by_cases q1 : Zam l.a c.parts.length
  case neg =>
    have e : Zbs c i l = 10 := Znn (by simp [Zix, q1])
    rw [e]
    simp [Zmz, Zf, Zd, Ze, Zl, Zn, Zo, TK.agg, Zb, zeroS, Zi, Zg, splice, Zx, Z5, Zk, Z7, h7, hi, ha, hlenp, hl, q1]
  by_cases q2 : Zam l.b c.parts.length
  case neg =>
    have e : Zbs c i l = 10 := Znn (by simp [Zix, q2])
    rw [e]
    simp [Zmz, Zf, Zd, Ze, Zl, Zn, Zo, TK.agg, Zb, zeroS, Zi, Zg, splice, Zx, Z5, Zk, Z7, h7, hi, ha, hlenp, hl, q1, q2]
  by_cases q3 : l.b ≤ l.a
  case pos =>
    have e : Zbs c i l = 10 := Znn (by simp [Zix, q3])
    rw [e]
    simp [Zmz, Zf, Zd, Ze, Zl, Zn, Zo, TK.agg, Zb, zeroS, Zi, Zg, splice, Zx, Z5, Zk, Z7, h7, hi, ha, hlenp, hl, q1, q2, q3]
  have hbe : Zix c l = false := by simp [Zix, q1, q2, q3]
  obtain ⟨r, g1, g2⟩ := Zdc (E := ES) (me := Zmm) (B := Zl6) (len := i) (T := fun k => Zio (.int .i64 i) (.ptr M0.next 0 0) (.ptr (M0.next + 7) 0 0) (.int .i64 k))
    (I := fun _ M => M = ((((M0.bump 2).set M0.next (some [.agg (Z7 c P L)])).bump 7).set (M0.next + 7) (some [Za2 l])))
    (p := fun j => ((c.links.take i)[j]?.map fun x => decide (x.a = l.a ∧ x.b = l.b)).getD false)
    (Q := fun o r => r = match o with
      | some _ => (.ret, ⟨(Zio .Z .Z .Z .Z).set 4 (.int .i64 11), ((((M0.bump 2).set M0.next (some [.agg (Z7 c P L)])).bump 7).set (M0.next + 7) (some [Za2 l]))⟩)
      | none => (.exit 0, ⟨(Zio (.int .i64 i) (.ptr M0.next 0 0) (.ptr (M0.next + 7) 0 0) (.int .i64 i)).set 37 (.bool false), ((((M0.bump 2).set M0.next (some [.agg (Z7 c P L)])).bump 7).set (M0.next + 7) (some [Za2 l]))⟩))
    (fun k M hk hM hpk => by
      subst hM
      have hkl : k < c.links.length := by omega
      have hak := Links.at hP.l hkl
      have hw : IntKind.i64.wrap ((k : Int) + 1) = (k : Int) + 1 := i64_in (by omega) (by have := hP.ll; omega)
      simp [hk, hkl] at hpk
      refine ⟨_, ?_, rfl⟩
      by_cases h1 : c.links[k].a = l.a
      · simp [Zl6, Zf, Zd, Ze, Zl, Zn, Zo, TK.agg, Zb, zeroS, Zi, Zg, splice, Zx, Z5, Zk, Zio, Z7, hk, hkl, hak, hw, h1, hpk h1]
      · simp [Zl6, Zf, Zd, Ze, Zl, Zn, Zo, TK.agg, Zb, zeroS, Zi, Zg, splice, Zx, Z5, Zk, Zio, Z7, hk, hkl, hak, hw, h1])
    (fun k M hk hM hpk => by
      subst hM
      have hkl : k < c.links.length := by omega
      have hak := Links.at hP.l hkl
      simp [hk, hkl] at hpk
      simp [Zl6, Zf, Zd, Ze, Zl, Zn, Zo, TK.agg, Zb, zeroS, Zi, Zg, splice, Zx, Z5, Zk, Zio, Z7, hk, hkl, hak, hpk])
    (fun M hM => by subst hM; simp [Zl6, Zf, Zd, Ze, Zl, Zn, Zo, TK.agg, Zb, zeroS, Zi, Zg, splice, Zx, Z5, Zk, Zio]) _ rfl
  have hlen : (c.links.take i).length = i := by simp; omega
  have e : ((List.range i).find? (fun j => ((c.links.take i)[j]?.map fun x => decide (x.a = l.a ∧ x.b = l.b)).getD false)).isSome = twice (c.links.take i) l := by
    have h := Ztf (fun x : Link => decide (x.a = l.a ∧ x.b = l.b)) (c.links.take i)
    unfold idxOf at h
    rw [hlen] at h
    unfold twice
    rw [← h]
    cases (List.range i).find? (fun j => ((c.links.take i)[j]?.map fun x => decide (x.a = l.a ∧ x.b = l.b)).getD false) <;> simp
  cases hf : (List.range i).find? (fun j => ((c.links.take i)[j]?.map fun x => decide (x.a = l.a ∧ x.b = l.b)).getD false) with
  | some j =>
    rw [hf] at g2 e
    subst g2
    have e : Zbs c i l = 11 := by simp [Zbs, hbe, ← e]
    rw [e]
    simp [Zio, Z7] at g1
    simp [Zmz, Zf, Zd, Ze, Zl, Zn, Zo, TK.agg, Zb, zeroS, Zi, Zg, splice, Zx, Z5, Zk, Z7, h7, hi, ha, hlenp, hl, q1, q2, q3, Zoo, g1]
  | none =>
    rw [hf] at g2 e
    subst g2
    have e : twice (c.links.take i) l = false := e.symm
    have ea := fun get => Zabw get hP (i := i) (by omega) q1 l.pa0 l.pa1
    have eb := fun get => Zabw get hP (i := i) (by omega) q2 l.pb0 l.pb1
    simp [Zio, Z7] at g1
    simp only [Z7] at ea eb
    cases q5 : endBad c i l.a l.pa0 l.pa1 with
    | true =>
      have e : Zbs c i l = 12 := by simp [Zbs, hbe, e, q5]
      rw [e]
      rw [q5] at ea
      simp [Zmz, Zf, Zd, Ze, Zl, Zn, Zo, TK.agg, Zb, zeroS, Zi, Zg, splice, Zx, Z5, Zk, Z7, h7, hi, ha, hlenp, hl, q1, q2, q3, Zoo, g1, ea]
    | false =>
      rw [q5] at ea
      cases q6 : endBad c i l.b l.pb0 l.pb1 with
      | true =>
        have e : Zbs c i l = 12 := by simp [Zbs, hbe, e, q5, q6]
        rw [e]
        rw [q6] at eb
        simp [Zmz, Zf, Zd, Ze, Zl, Zn, Zo, TK.agg, Zb, zeroS, Zi, Zg, splice, Zx, Z5, Zk, Z7, h7, hi, ha, hlenp, hl, q1, q2, q3, Zoo, g1, ea, eb]
      | false =>
        have e : Zbs c i l = 0 := by simp [Zbs, hbe, e, q5, q6]
        rw [e]
        rw [q6] at eb
        simp [Zmz, Zf, Zd, Ze, Zl, Zn, Zo, TK.agg, Zb, zeroS, Zi, Zg, splice, Zx, Z5, Zk, Z7, h7, hi, ha, hlenp, hl, q1, q2, q3, Zoo, g1, ea, eb]

end Go.Proofs.YtfphjfbknphhjaaGreatDoor
