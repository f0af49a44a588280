/-
  Walks of the seat's functions: Bj.
-/
import Derived.Test.YtfphjfbknphhjaaGreatDoorEb2
import Derived.Test.YtfphjfbknphhjaaGreatDoorShMb
import Derived.Test.YtfphjfbknphhjaaGreatDoorLzMn
set_option linter.unusedVariables false
set_option linter.unusedSimpArgs false
set_option maxRecDepth 100000
namespace Go.Proofs.YtfphjfbknphhjaaGreatDoor
open Go.Proofs.YtfphjfbknphhjaaGreatDoor.Sh
/-! The document's fits. -/
set_option maxHeartbeats 8000000 in
theorem Zamq (get) {P L : SV} {c : Cfg} (hP : Zi2 c P L) (hr : Zcq c = true) (hin : Zgz c) : Za0 (PCw ES) get Zkb [.agg (Z7 c P L)] = some (.int .i64 (Zng c)) := by
  refine Z4 (Za4 (fun M0 => ?_) rfl) (by simp [hP.npA])
  rw [Zalz]
  have hlenp := hP.p.Zex Za1
  have hf := Zgp hr
  have hlo := hin.lo
  have hn := hin.nums
  have he := hn.e
  have hj := hn.j
  have hrc := Zau6 hin
  have k1 := fun get => Zvt get hP hin
  have k2 := fun get => Zam8 get hP hin
  simp only [Z7] at k1 k2
  obtain ⟨k, hk⟩ : ∃ k : Nat, c.lost = k := ⟨c.lost.toNat, by omega⟩
  have hm1 : (c.parts.length : Int) * (c.lost + 1) = ((c.parts.length * (k + 1) : Nat) : Int) := by rw [hk]; push_cast; rfl
  have hm2 : ((c.parts.length : Int) - 1) * (c.lost + 1) = (((c.parts.length - 1) * (k + 1) : Nat) : Int) := by rw [hk]; push_cast; rw [Int.natCast_sub hf.1]; rfl
  have b1 : c.parts.length * (k + 1) ≤ 6 * 21 := Nat.mul_le_mul hf.2.1 (by omega)
  have b2 : (c.parts.length - 1) * (k + 1) ≤ 5 * 21 := Nat.mul_le_mul (by omega) (by omega)
  have v1 : IntKind.i64.wrap (c.lost + 1) = c.lost + 1 := i64_in (by omega) (by omega)
  have v2 : IntKind.i64.wrap (c.parts.length * (c.lost + 1)) = c.parts.length * (c.lost + 1) := i64_in (by omega) (by omega)
  have v3 : IntKind.i64.wrap (c.parts.length * (c.lost + 1) + 2) = Zew c := i64_in (by omega) (by omega)
  have v4 : IntKind.i64.wrap ((c.parts.length : Int) - 1) = (c.parts.length : Int) - 1 := i64_in (by omega) (by omega)
  have v5 : IntKind.i64.wrap (((c.parts.length : Int) - 1) * (c.lost + 1)) = ((c.parts.length : Int) - 1) * (c.lost + 1) := i64_in (by omega) (by omega)
  have v6 : IntKind.i64.wrap (((c.parts.length : Int) - 1) * (c.lost + 1) + 1) = ((c.parts.length : Int) - 1) * (c.lost + 1) + 1 := i64_in (by omega) (by omega)
  have v7 : IntKind.i64.wrap ((c.parts.length : Int) + 2) = (c.parts.length : Int) + 2 := i64_in (by omega) (by omega)
  have v8 : IntKind.i64.wrap (3 * Zdb c) = 3 * Zdb c := i64_in (by omega) (by omega)
  have v9 : IntKind.i64.wrap (c.rate * c.cycle) = c.rate * c.cycle := i64_in (by omega) (by omega)
  have v10 : IntKind.i64.wrap (Zp3 c * 1000000) = Zp3 c * 1000000 := by unfold Zp3; exact i64_in (by omega) (by omega)
  have hle : 0 ≤ Zew c := by unfold Zew; omega
  have hfive : ∀ {w : Int}, Zfe c = w → w ≠ 0 → Zng c = w := fun {w} h h0 => by unfold Zng; rw [h, if_pos h0]
  by_cases h6a : c.window < 3 * Zdb c
  · rw [hfive (w := 6) (by simp [Zfe, h6a]) (by decide)]
    simp (maxSteps := 4000000) [Zep, Zf, Zd, Ze, Zl, Zn, Zo, TK.agg, Zb, zeroS, Zi, Zg, splice, Zx, Z5, Zk, Z7, hlenp, v1, v2, v3, k1, v8, h6a]
  by_cases h6b : 20000 < c.window
  · rw [hfive (w := 6) (by simp [Zfe, h6b]) (by decide)]
    simp (maxSteps := 4000000) [Zep, Zf, Zd, Ze, Zl, Zn, Zo, TK.agg, Zb, zeroS, Zi, Zg, splice, Zx, Z5, Zk, Z7, hlenp, v1, v2, v3, k1, v8, h6a, h6b]
  have v11 : IntKind.i64.wrap (2 * c.window) = 2 * c.window := i64_in (by omega) (by omega)
  have v12 : IntKind.i64.wrap (2 * c.window + 1) = 2 * c.window + 1 := i64_in (by omega) (by omega)
  by_cases h7a : c.slot < 2 * c.window + 1
  · rw [hfive (w := 7) (by simp [Zfe, h6a, h6b, h7a]) (by decide)]
    simp (maxSteps := 4000000) [Zep, Zf, Zd, Ze, Zl, Zn, Zo, TK.agg, Zb, zeroS, Zi, Zg, splice, Zx, Z5, Zk, Z7, hlenp, v1, v2, v3, k1, v8, h6a, h6b, v11, v12, h7a]
  by_cases h7b : 1000000 < c.slot
  · rw [hfive (w := 7) (by simp [Zfe, h6a, h6b, h7b]) (by decide)]
    simp (maxSteps := 4000000) [Zep, Zf, Zd, Ze, Zl, Zn, Zo, TK.agg, Zb, zeroS, Zi, Zg, splice, Zx, Z5, Zk, Z7, hlenp, v1, v2, v3, k1, v8, h6a, h6b, v11, v12, h7a, h7b]
  by_cases h8a : c.lead < c.window
  · rw [hfive (w := 8) (by simp [Zfe, h6a, h6b, h7a, h7b, h8a]) (by decide)]
    simp (maxSteps := 4000000) [Zep, Zf, Zd, Ze, Zl, Zn, Zo, TK.agg, Zb, zeroS, Zi, Zg, splice, Zx, Z5, Zk, Z7, hlenp, v1, v2, v3, k1, v8, h6a, h6b, v11, v12, h7a, h7b, h8a]
  by_cases h8b : 1000000 < c.lead
  · rw [hfive (w := 8) (by simp [Zfe, h6a, h6b, h7a, h7b, h8b]) (by decide)]
    simp (maxSteps := 4000000) [Zep, Zf, Zd, Ze, Zl, Zn, Zo, TK.agg, Zb, zeroS, Zi, Zg, splice, Zx, Z5, Zk, Z7, hlenp, v1, v2, v3, k1, v8, h6a, h6b, v11, v12, h7a, h7b, h8a, h8b]
  have hs : Z7c c := ⟨by omega, by omega, by omega⟩
  have hw0 : Zfe c = if Zku c then 9 else if c.rate * c.cycle < Zp3 c * 1000000 then 10 else 0 := by simp [Zfe, h6a, h6b, h7a, h7b, h8a, h8b]
  have body : ∀ (j : Nat) (M : Mem) (hj : j < c.parts.length), M.blk M0.next = some [.agg (Z7 c P L)] →
      evW ES Zkb Zl5 ⟨Zgs (.ptr M0.next 0 0) (.int .i64 c.parts.length) (.int .i64 (Zew c)) (.int .i64 j), M⟩ =
        some (if Zlr c j then (.ret, ⟨(Zgs .Z .Z .Z .Z).set 2 (.int .i64 9), M⟩)
          else (.normal, ⟨Zgs (.ptr M0.next 0 0) (.int .i64 c.parts.length) (.int .i64 (Zew c)) (.int .i64 ((j + 1 : Nat) : Int)), M⟩)) := by
    intro j M hj hb
    have hb0 := hb
    have ha := Parts.at hP.p hj
    have kp := fun get => Zai8 get hP (by omega) j
    simp only [Z7] at hb0 kp
    have hw : IntKind.i64.wrap ((j : Int) + 1) = (j : Int) + 1 := i64_in (by omega) (by omega)
    obtain ⟨q1, q2, q3, q4⟩ := Z4z hs hr j
    obtain ⟨x1, x2⟩ := hs.w
    obtain ⟨l1, l2⟩ := hs.l
    have hpn := Zn8 c.links j
    have hsb : Zlr c j = decide (c.cycle < c.lead + (3 * (Zbj c.links j : Int) + Zbx c j) * c.slot + c.window) := rfl
    rw [Zk2 hj] at q1 q2 q3 q4 hsb
    have w1 : IntKind.i64.wrap (3 * (Zbj c.links j : Int)) = 3 * (Zbj c.links j : Int) := i64_in (by omega) (by omega)
    have w2 : IntKind.i64.wrap (3 * (Zbj c.links j : Int) + c.parts[j].nodes) = 3 * (Zbj c.links j : Int) + c.parts[j].nodes := i64_in (by omega) (by omega)
    have w3 : IntKind.i64.wrap ((3 * (Zbj c.links j : Int) + c.parts[j].nodes) * c.slot) = (3 * (Zbj c.links j : Int) + c.parts[j].nodes) * c.slot := i64_in (by omega) (by omega)
    generalize hX : (3 * (Zbj c.links j : Int) + c.parts[j].nodes) * c.slot = X at *
    have w4 : IntKind.i64.wrap (c.lead + X) = c.lead + X := i64_in (by omega) (by omega)
    have w5 : IntKind.i64.wrap (c.lead + X + c.window) = c.lead + X + c.window := i64_in (by omega) (by omega)
    by_cases h : c.cycle < c.lead + X + c.window
    · rw [hsb]
      simp [Zl5, Zf, Zd, Ze, Zl, Zn, Zo, TK.agg, Zb, zeroS, Zi, Zg, splice, Zx, Z5, Zk, Zgs, hj, ha, hb0, kp, w1, w2, w3, hX, w4, w5, h]
    · rw [hsb]
      simp [Zl5, Zf, Zd, Ze, Zl, Zn, Zo, TK.agg, Zb, zeroS, Zi, Zg, splice, Zx, Z5, Zk, Zgs, hj, ha, hb0, kp, w1, w2, w3, hX, w4, w5, h, hw]
  obtain ⟨r, g1, g2⟩ := Zdc (E := ES) (me := Zkb) (B := Zl5) (len := c.parts.length) (T := fun j => Zgs (.ptr M0.next 0 0) (.int .i64 c.parts.length) (.int .i64 (Zew c)) (.int .i64 j))
    (I := fun _ M => M = (M0.bump 2).set M0.next (some [.agg (Z7 c P L)])) (p := Zlr c)
    (Q := fun o r => r = match o with
      | some _ => (.ret, ⟨(Zgs .Z .Z .Z .Z).set 2 (.int .i64 9), (M0.bump 2).set M0.next (some [.agg (Z7 c P L)])⟩)
      | none => (.exit 1, ⟨(Zgs (.ptr M0.next 0 0) (.int .i64 c.parts.length) (.int .i64 (Zew c)) (.int .i64 c.parts.length)).set 53 (.bool false), (M0.bump 2).set M0.next (some [.agg (Z7 c P L)])⟩))
    (fun j M hj hM hp => by
      subst hM
      have := body j ((M0.bump 2).set M0.next (some [.agg (Z7 c P L)])) hj (by simp)
      rw [hp] at this
      exact ⟨_, this, rfl⟩)
    (fun j M hj hM hp => by
      subst hM
      have := body j ((M0.bump 2).set M0.next (some [.agg (Z7 c P L)])) hj (by simp)
      rw [hp] at this
      exact ⟨_, this, by simp, rfl⟩)
    (fun M hM => by
      subst hM
      exact ⟨_, by simp [Zl5, Zf, Zd, Ze, Zl, Zn, Zo, TK.agg, Zb, zeroS, Zi, Zg, splice, Zx, Z5, Zk, Zgs], by simp, rfl⟩) ((M0.bump 2).set M0.next (some [.agg (Z7 c P L)])) rfl
  have ea : (List.range c.parts.length).find? (Zlr c) = Zaii c := rfl
  rw [ea] at g2
  rw [Z0w] at hw0
  simp only [Z7] at g1 g2
  cases hany : Zaii c with
  | some j =>
    rw [hany] at g2 hw0
    subst g2
    simp [Zgs] at g1
    rw [hfive (w := 9) (by rw [hw0]; rfl) (by decide)]
    simp (maxSteps := 4000000) [Zep, Zf, Zd, Ze, Zl, Zn, Zo, TK.agg, Zb, zeroS, Zi, Zg, splice, Zx, Z5, Zk, Z7, hlenp, v1, v2, v3, k1, v8, h6a, h6b, v11, v12, h7a, h7b, h8a, h8b, Zez, g1]
  | none =>
    rw [hany] at g2 hw0
    subst g2
    simp [Zgs] at g1
    simp only [Option.isSome_none, Bool.false_eq_true, if_false] at hw0
    by_cases h10 : c.rate * c.cycle < Zp3 c * 1000000
    · rw [hfive (w := 10) (by rw [hw0, if_pos h10]) (by decide)]
      simp (maxSteps := 4000000) [Zep, Zf, Zd, Ze, Zl, Zn, Zo, TK.agg, Zb, zeroS, Zi, Zg, splice, Zx, Z5, Zk, Z7, hlenp, v1, v2, v3, k1, v8, h6a, h6b, v11, v12, h7a, h7b, h8a, h8b, Zez, g1, k2, v9, v10, h10]
    rw [if_neg h10] at hw0
    have hl : Zng c = Zte c := by unfold Zng; rw [hw0]; rfl
    rw [hl]
    unfold Zte
    by_cases h11 : c.ages < ((c.parts.length : Int) - 1) * (c.lost + 1) + 1
    · simp (maxSteps := 4000000) [Zep, Zf, Zd, Ze, Zl, Zn, Zo, TK.agg, Zb, zeroS, Zi, Zg, splice, Zx, Z5, Zk, Z7, hlenp, v1, v2, v3, k1, v8, h6a, h6b, v11, v12, h7a, h7b, h8a, h8b, Zez, g1, k2, v9, v10, h10, v4, v5, v6, h11]
    by_cases h12a : c.listen < Zew c
    · simp (maxSteps := 4000000) [Zep, Zf, Zd, Ze, Zl, Zn, Zo, TK.agg, Zb, zeroS, Zi, Zg, splice, Zx, Z5, Zk, Z7, hlenp, v1, v2, v3, k1, v8, h6a, h6b, v11, v12, h7a, h7b, h8a, h8b, Zez, g1, k2, v9, v10, h10, v4, v5, v6, h11, h12a]
    by_cases h12b : 60000 < c.listen
    · simp (maxSteps := 4000000) [Zep, Zf, Zd, Ze, Zl, Zn, Zo, TK.agg, Zb, zeroS, Zi, Zg, splice, Zx, Z5, Zk, Z7, hlenp, v1, v2, v3, k1, v8, h6a, h6b, v11, v12, h7a, h7b, h8a, h8b, Zez, g1, k2, v9, v10, h10, v4, v5, v6, h11, h12a, h12b]
    by_cases h13a : c.span < Zew c
    · simp (maxSteps := 4000000) [Zep, Zf, Zd, Ze, Zl, Zn, Zo, TK.agg, Zb, zeroS, Zi, Zg, splice, Zx, Z5, Zk, Z7, hlenp, v1, v2, v3, k1, v8, h6a, h6b, v11, v12, h7a, h7b, h8a, h8b, Zez, g1, k2, v9, v10, h10, v4, v5, v6, h11, h12a, h12b, h13a]
    by_cases h13b : 60000 < c.span
    · simp (maxSteps := 4000000) [Zep, Zf, Zd, Ze, Zl, Zn, Zo, TK.agg, Zb, zeroS, Zi, Zg, splice, Zx, Z5, Zk, Z7, hlenp, v1, v2, v3, k1, v8, h6a, h6b, v11, v12, h7a, h7b, h8a, h8b, Zez, g1, k2, v9, v10, h10, v4, v5, v6, h11, h12a, h12b, h13a, h13b]
    have hm3 : 0 ≤ (c.parts.length : Int) * c.span ∧ (c.parts.length : Int) * c.span ≤ 6 * 60000 := ⟨Int.mul_nonneg (by omega) (by omega), Int.mul_le_mul (by omega) (by omega) (by omega) (by omega)⟩
    have v13 : IntKind.i64.wrap ((c.parts.length : Int) * c.span) = (c.parts.length : Int) * c.span := i64_in (by omega) (by omega)
    have v14 : IntKind.i64.wrap (c.listen + (c.parts.length : Int) * c.span) = c.listen + (c.parts.length : Int) * c.span := i64_in (by omega) (by omega)
    by_cases h14 : 60000 < c.listen + (c.parts.length : Int) * c.span
    · simp (maxSteps := 4000000) [Zep, Zf, Zd, Ze, Zl, Zn, Zo, TK.agg, Zb, zeroS, Zi, Zg, splice, Zx, Z5, Zk, Z7, hlenp, v1, v2, v3, k1, v8, h6a, h6b, v11, v12, h7a, h7b, h8a, h8b, Zez, g1, k2, v9, v10, h10, v4, v5, v6, h11, h12a, h12b, h13a, h13b, v13, v14, h14]
    by_cases h15a : c.room < (c.parts.length : Int) + 2
    · simp (maxSteps := 4000000) [Zep, Zf, Zd, Ze, Zl, Zn, Zo, TK.agg, Zb, zeroS, Zi, Zg, splice, Zx, Z5, Zk, Z7, hlenp, v1, v2, v3, k1, v8, h6a, h6b, v11, v12, h7a, h7b, h8a, h8b, Zez, g1, k2, v9, v10, h10, v4, v5, v6, v7, h11, h12a, h12b, h13a, h13b, v13, v14, h14, h15a]
    by_cases h15b : 64 < c.room
    · simp (maxSteps := 4000000) [Zep, Zf, Zd, Ze, Zl, Zn, Zo, TK.agg, Zb, zeroS, Zi, Zg, splice, Zx, Z5, Zk, Z7, hlenp, v1, v2, v3, k1, v8, h6a, h6b, v11, v12, h7a, h7b, h8a, h8b, Zez, g1, k2, v9, v10, h10, v4, v5, v6, v7, h11, h12a, h12b, h13a, h13b, v13, v14, h14, h15a, h15b]
    simp (maxSteps := 4000000) [Zep, Zf, Zd, Ze, Zl, Zn, Zo, TK.agg, Zb, zeroS, Zi, Zg, splice, Zx, Z5, Zk, Z7, hlenp, v1, v2, v3, k1, v8, h6a, h6b, v11, v12, h7a, h7b, h8a, h8b, Zez, g1, k2, v9, v10, h10, v4, v5, v6, v7, h11, h12a, h12b, h13a, h13b, v13, v14, h14, h15a, h15b]

end Go.Proofs.YtfphjfbknphhjaaGreatDoor

/-
  Walks of the seat's functions: Bk.
-/
set_option linter.unusedVariables false
set_option linter.unusedSimpArgs false
set_option maxRecDepth 100000
namespace Go.Proofs.YtfphjfbknphhjaaGreatDoor
open Go.Proofs.YtfphjfbknphhjaaGreatDoor.Sh
/-! The document's Fits, Fit, First. -/
set_option maxHeartbeats 4000000 in
theorem Z8w (get) {P L : SV} {c : Cfg} (hP : Zi2 c P L) : Za0 (PCw ES) get Zkg [.agg (Z7 c P L)] = some (.tup [.int .i64 (Zsj c).1, .int .i64 (Zsj c).2]) := by
  refine Z4 (Za4 (fun M0 => ?_) rfl) (by simp [hP.npA])
  rw [Zalp]
  have h1 := fun get => Z4e get hP
  have h2 := fun get => Zagn get hP
  simp only [Z7] at h1 h2
  unfold Zsj
  by_cases h : (Zem c).1 = 0
  · have hr : Zcq c = true := by simpa [Zcq] using h
    by_cases ho : Z1s c = 0
    · have h3 := fun get => Zamq get hP hr (Zg7 ho)
      simp only [Z7] at h3
      by_cases hl : Zng c = 0
      · simp [Zrp, Zf, Zd, Ze, Zl, Zn, Zo, TK.agg, Zb, zeroS, Zi, Zg, splice, Zx, Z5, Zk, Z7, h1, h2, h3, h, ho, hl]
      · simp [Zrp, Zf, Zd, Ze, Zl, Zn, Zo, TK.agg, Zb, zeroS, Zi, Zg, splice, Zx, Z5, Zk, Z7, h1, h2, h3, h, ho, hl]
    · simp [Zrp, Zf, Zd, Ze, Zl, Zn, Zo, TK.agg, Zb, zeroS, Zi, Zg, splice, Zx, Z5, Zk, Z7, h1, h2, h, ho]
  · simp [Zrp, Zf, Zd, Ze, Zl, Zn, Zo, TK.agg, Zb, zeroS, Zi, Zg, splice, Zx, Z5, Zk, Z7, h1, h]
theorem Zyr (get) {P L : SV} {c : Cfg} (hP : Zi2 c P L) (part : Int) : Za0 (PCw ES) get Zjo [.agg (Z7 c P L), .int .i64 part] = some (.bool (Zsf c && decide (Zam part c.parts.length))) := by
  refine Z4 (Za4 (fun M0 => ?_) rfl) (by simp [hP.npA])
  rw [Zao9]
  have h1 := fun get => Z8w get hP
  have hlenp := hP.p.Zex Za1
  simp only [Z7] at h1
  unfold Zsf
  by_cases h : (Zsj c).1 = 0
  · simp [Zyw, Zf, Zd, Ze, Zl, Zn, Zo, TK.agg, Zb, zeroS, Zi, Zg, splice, Zx, Z5, Zk, Z7, h1, h, hlenp]
  · simp [Zyw, Zf, Zd, Ze, Zl, Zn, Zo, TK.agg, Zb, zeroS, Zi, Zg, splice, Zx, Z5, Zk, Z7, h1, h, hlenp]

end Go.Proofs.YtfphjfbknphhjaaGreatDoor
