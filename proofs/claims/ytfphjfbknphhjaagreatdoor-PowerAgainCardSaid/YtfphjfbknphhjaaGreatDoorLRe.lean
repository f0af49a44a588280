/-
  Walks of the seat's functions: Re.
-/
import Derived.Test.YtfphjfbknphhjaaGreatDoorEb2
import Derived.Test.YtfphjfbknphhjaaGreatDoorShMb
import Derived.Test.YtfphjfbknphhjaaGreatDoorLzMh
import Derived.Test.YtfphjfbknphhjaaGreatDoorLCk
set_option linter.unusedVariables false
set_option linter.unusedSimpArgs false
set_option maxRecDepth 100000
namespace Go.Proofs.YtfphjfbknphhjaaGreatDoor
open Go.Proofs.YtfphjfbknphhjaaGreatDoor.Sh
/-! The document's own: Check. -/
theorem Zagd {n : Int} (hn : 0 ≤ n) {d : List Int} {x y : Int} (h : ∀ z ∈ d, -1 ≤ z) : ∀ z ∈ relax n d x y, -1 ≤ z := by
  unfold relax
  split
  · intro z hz
    rcases List.mem_or_eq_of_mem_set hz with h1 | h1
    · exact h z h1
    · omega
  · exact h
theorem Zafw {n : Int} (hn : 0 ≤ n) : ∀ {ls : List Link} {d : List Int}, (∀ z ∈ d, -1 ≤ z) → ∀ z ∈ Zkv n ls d, -1 ≤ z
  | [], _, h => h
  | _ :: r, _, h => Zafw hn (ls := r) (Zagd hn (Zagd hn h))
theorem Zafp (ls : List Link) (len : Nat) (fr : Int) : ∀ k : Nat, ∀ z ∈ Zlc ls len fr k, -1 ≤ z
  | 0 => by
    intro z hz
    rcases List.mem_or_eq_of_mem_set hz with h | h
    · have := List.eq_of_mem_replicate h; omega
    · omega
  | k + 1 => Zafw (by omega) (Zafp ls len fr k)
/-- The first entry below 0. -/
theorem Zaml (ls : List Link) (len : Nat) (fr : Int) : idxI (Zlx ls len fr) (-1) = match (List.range len).find? (fun j => ((Zlx ls len fr)[j]?.map fun x => decide (x < 0)).getD false) with
  | some i => (i : Int)
  | none => -1 := by
  have hl : (Zlx ls len fr).length = len := by simp [Zlx]
  have e : (fun j : Nat => ((Zlx ls len fr)[j]?.map fun x => decide (-1 = x)).getD false) = (fun j : Nat => ((Zlx ls len fr)[j]?.map fun x => decide (x < 0)).getD false) := by
    funext j
    cases h : (Zlx ls len fr)[j]? with
    | none => rfl
    | some x =>
      have := Zafp ls len fr len x (List.mem_of_getElem? h)
      simp only [Option.map_some, Option.getD_some, decide_eq_decide]
      omega
  unfold idxI
  rw [e, hl]
  cases (List.range len).find? (fun j : Nat => ((Zlx ls len fr)[j]?.map fun x => decide (x < 0)).getD false) <;> rfl
set_option maxHeartbeats 4000000 in
theorem Zaj3 {c : Cfg} {P L : SV} (hP : Zi2 c P L) {p : Nat} (hll : c.parts.length ≤ 6) (M0 : Mem) (hb : M0.blk p = some [.agg (Z7 c P L)]) (hlt : p < M0.next) :
    ∃ r, evW ES Zee Zvk ⟨Zcl (.ptr p 0 0) (.int .i64 0), M0⟩ = some r ∧ ∃ M', M'.blk p = some [.agg (Z7 c P L)] ∧ p < M'.next ∧
      r = match (List.range c.parts.length).find? (fun j => (c.parts[j]?.map Znt).getD false) with
      | some j => (.ret, ⟨((Zcl .Z .Z).set 2 (.int .i64 8)).set 3 (.int .i64 j), M'⟩)
      | none => (.exit 0, ⟨(Zcl (.ptr p 0 0) (.int .i64 c.parts.length)).set 24 (.bool false), M'⟩) := by
  have hlen := hP.p.Zex Za1
  obtain ⟨r, g1, M', g2, g3, g4⟩ := Zdc (E := ES) (me := Zee) (B := Zfj) (len := c.parts.length) (T := fun j => Zcl (.ptr p 0 0) (.int .i64 j)) (I := fun _ M => M.blk p = some [.agg (Z7 c P L)] ∧ p < M.next)
    (p := fun j => (c.parts[j]?.map Znt).getD false)
    (Q := fun o r => ∃ M', M'.blk p = some [.agg (Z7 c P L)] ∧ p < M'.next ∧ r = match o with
      | some j => (.ret, ⟨((Zcl .Z .Z).set 2 (.int .i64 8)).set 3 (.int .i64 j), M'⟩)
      | none => (.exit 0, ⟨(Zcl (.ptr p 0 0) (.int .i64 c.parts.length)).set 24 (.bool false), M'⟩))
    (fun j M hj ⟨hb, hlt⟩ hpj => by
      have hb0 := hb
      simp only [Z7] at hb0
      have hnp : ∀ z, (p = M.next + z) = False := fun z => by simp; omega
      have ha := Parts.at hP.p hj
      have hw : IntKind.i64.wrap ((j : Int) + 1) = (j : Int) + 1 := i64_in (by omega) (by omega)
      simp [hj, Zrx] at hpj
      obtain ⟨⟨⟨⟨q1, q2⟩, q3⟩, q4⟩, q5⟩ := hpj
      have w1 : IntKind.i64.wrap (3 * c.parts[j].faults) = 3 * c.parts[j].faults := i64_in (by omega) (by omega)
      have w2 : IntKind.i64.wrap (3 * c.parts[j].faults + 1) = 3 * c.parts[j].faults + 1 := i64_in (by omega) (by omega)
      have r1 : ¬ c.parts[j].nodes < 1 := by omega
      have r2 : ¬ 12 < c.parts[j].nodes := by omega
      have r3 : ¬ c.parts[j].faults < 0 := by omega
      have r4 : ¬ 3 < c.parts[j].faults := by omega
      have r5 : ¬ c.parts[j].nodes < 3 * c.parts[j].faults + 1 := by omega
      refine ⟨(M.bump 7).set (M.next + 5) (some [Zc9 c.parts[j]]), ?_, by simp [hnp, hb], by simp; omega⟩
      simp [Zfj, Zf, Zd, Ze, Zl, Zn, Zo, TK.agg, Zb, zeroS, Zi, Zg, splice, Zx, Z5, Zk, Zcl, hlen, hb0, hlt, hnp, hj, ha, r1, r2, r3, r4, r5, w1, w2, hw])
    (fun j M hj ⟨hb, hlt⟩ hpj => by
      have hb0 := hb
      simp only [Z7] at hb0
      have hnp : ∀ z, (p = M.next + z) = False := fun z => by simp; omega
      have ha := Parts.at hP.p hj
      simp only [hj, List.getElem?_eq_getElem, Option.map_some, Option.getD_some, Zrx] at hpj
      have key : evW ES Zee Zfj ⟨Zcl (.ptr p 0 0) (.int .i64 j), M⟩ = some (.ret, ⟨((Zcl .Z .Z).set 2 (.int .i64 8)).set 3 (.int .i64 j), (M.bump 7).set (M.next + 5) (some [Zc9 c.parts[j]])⟩) := by
        by_cases r1 : c.parts[j].nodes < 1
        · simp [Zfj, Zf, Zd, Ze, Zl, Zn, Zo, TK.agg, Zb, zeroS, Zi, Zg, splice, Zx, Z5, Zk, Zcl, hlen, hb0, hlt, hnp, hj, ha, r1]
        by_cases r2 : 12 < c.parts[j].nodes
        · simp [Zfj, Zf, Zd, Ze, Zl, Zn, Zo, TK.agg, Zb, zeroS, Zi, Zg, splice, Zx, Z5, Zk, Zcl, hlen, hb0, hlt, hnp, hj, ha, r1, r2]
        by_cases r3 : c.parts[j].faults < 0
        · simp [Zfj, Zf, Zd, Ze, Zl, Zn, Zo, TK.agg, Zb, zeroS, Zi, Zg, splice, Zx, Z5, Zk, Zcl, hlen, hb0, hlt, hnp, hj, ha, r1, r2, r3]
        by_cases r4 : 3 < c.parts[j].faults
        · simp [Zfj, Zf, Zd, Ze, Zl, Zn, Zo, TK.agg, Zb, zeroS, Zi, Zg, splice, Zx, Z5, Zk, Zcl, hlen, hb0, hlt, hnp, hj, ha, r1, r2, r3, r4]
        have r5 : c.parts[j].nodes < 3 * c.parts[j].faults + 1 := by simpa [r1, r2, r3, r4] using hpj
        have w1 : IntKind.i64.wrap (3 * c.parts[j].faults) = 3 * c.parts[j].faults := i64_in (by omega) (by omega)
        have w2 : IntKind.i64.wrap (3 * c.parts[j].faults + 1) = 3 * c.parts[j].faults + 1 := i64_in (by omega) (by omega)
        simp [Zfj, Zf, Zd, Ze, Zl, Zn, Zo, TK.agg, Zb, zeroS, Zi, Zg, splice, Zx, Z5, Zk, Zcl, hlen, hb0, hlt, hnp, hj, ha, r1, r2, r3, r4, r5, w1, w2]
      exact ⟨_, key, by simp, _, by simp [hnp, hb], by simp; omega, rfl⟩)
    (fun M ⟨hb, hlt⟩ => by
      have hb0 := hb
      simp only [Z7] at hb0
      exact ⟨_, by simp [Zfj, Zf, Zd, Ze, Zl, Zn, Zo, TK.agg, Zb, zeroS, Zi, Zg, splice, Zx, Z5, Zk, Zcl, hlen, hb0], by simp, M, hb, hlt, rfl⟩) M0 ⟨hb, hlt⟩
  refine ⟨r, g1, M', g2, g3, ?_⟩
  rw [g4]
  cases (List.range c.parts.length).find? (fun j => (c.parts[j]?.map Znt).getD false) <;> rfl
set_option maxHeartbeats 4000000 in
theorem Zaip {c : Cfg} {P L : SV} (hP : Zi2 c P L) {p : Nat} (M0 : Mem) (hb : M0.blk p = some [.agg (Z7 c P L)]) :
    ∃ r, evW ES Zee Zuz ⟨Zft (.ptr p 0 0) (.int .i64 0), M0⟩ = some r ∧
      r = match (List.range c.links.length).find? (fun j => (c.links[j]?.map fun l => Zbs c j l != 0).getD false) with
      | some j => (.ret, ⟨((Zft .Z .Z).set 2 (.int .i64 ((c.links[j]?.map fun l => Zbs c j l).getD 0))).set 3 (.int .i64 j), M0⟩)
      | none => (.exit 2, ⟨(Zft (.ptr p 0 0) (.int .i64 c.links.length)).set 68 (.bool false), M0⟩) := by
  have hlen := hP.l.Zex Zbi
  have hb0 := hb
  simp only [Z7] at hb0
  exact Zdc (E := ES) (me := Zee) (B := Zm3) (len := c.links.length) (T := fun j => Zft (.ptr p 0 0) (.int .i64 j)) (I := fun _ M => M = M0)
    (p := fun j => (c.links[j]?.map fun l => Zbs c j l != 0).getD false)
    (Q := fun o r => r = match o with
      | some j => (.ret, ⟨((Zft .Z .Z).set 2 (.int .i64 ((c.links[j]?.map fun l => Zbs c j l).getD 0))).set 3 (.int .i64 j), M0⟩)
      | none => (.exit 2, ⟨(Zft (.ptr p 0 0) (.int .i64 c.links.length)).set 68 (.bool false), M0⟩))
    (fun j M hj hM hpj => by
      subst hM
      have hw : IntKind.i64.wrap ((j : Int) + 1) = (j : Int) + 1 := i64_in (by omega) (by have := hP.ll; omega)
      have hk := fun get => Z9t get hP hj
      simp only [Z7] at hk
      simp [hj] at hpj
      simp [Zm3, Zf, Zd, Ze, Zl, Zn, Zo, TK.agg, Zb, zeroS, Zi, Zg, splice, Zx, Z5, Zk, Zft, hlen, hb0, hj, hk, hpj, hw])
    (fun j M hj hM hpj => by
      subst hM
      have hk := fun get => Z9t get hP hj
      simp only [Z7] at hk
      simp [hj] at hpj
      simp [Zm3, Zf, Zd, Ze, Zl, Zn, Zo, TK.agg, Zb, zeroS, Zi, Zg, splice, Zx, Z5, Zk, Zft, hlen, hb0, hj, hk, hpj])
    (fun M hM => by subst hM; simp [Zm3, Zf, Zd, Ze, Zl, Zn, Zo, TK.agg, Zb, zeroS, Zi, Zg, splice, Zx, Z5, Zk, Zft, hlen, hb0]) M0 rfl
theorem ixI {d : List Int} {j : Nat} (hj : j < d.length) : Z9 ES.P Zv (.sl (iL d) .ro) (.int .i64 j) = some (.rptr (iL d) j 0 (Zwi (.sl (iL d) .ro))) := RSl.at (Zad8 d .ro) Zb3 Zes (fun _ => rfl) hj
theorem Zaq4 (d : List Int) : (iL d).length = d.length := by simp [iL]
theorem Zakx {d : List Int} {j : Nat} (h : j < (iL d).length) : (iL d)[j] = .int .i64 (d[j]'(by simpa [iL] using h)) := by simp [iL]
set_option maxHeartbeats 4000000 in
theorem Zapn {d : List Int} (hd : d.length ≤ 50) (M0 : Mem) :
    ∃ r, evW ES Zee Zvw ⟨Zfq (.sl (iL d) .ro) (.int .i64 0), M0⟩ = some r ∧
      r = match (List.range d.length).find? (fun j => (d[j]?.map fun x => decide (x < 0)).getD false) with
      | some j => (.ret, ⟨((Zfq .Z .Z).set 2 (.int .i64 13)).set 3 (.int .i64 j), M0⟩)
      | none => (.exit 4, ⟨(Zfq (.sl (iL d) .ro) (.int .i64 d.length)).set 83 (.bool false), M0⟩) := by
  have hi := Zad8 d .ro
  have hlen := hi.Zex Zb3
  exact Zdc (E := ES) (me := Zee) (B := Zm9) (len := d.length) (T := fun j => Zfq (.sl (iL d) .ro) (.int .i64 j)) (I := fun _ M => M = M0)
    (p := fun j => (d[j]?.map fun x => decide (x < 0)).getD false)
    (Q := fun o r => r = match o with
      | some j => (.ret, ⟨((Zfq .Z .Z).set 2 (.int .i64 13)).set 3 (.int .i64 j), M0⟩)
      | none => (.exit 4, ⟨(Zfq (.sl (iL d) .ro) (.int .i64 d.length)).set 83 (.bool false), M0⟩))
    (fun j M hj hM hpj => by
      subst hM
      have hw : IntKind.i64.wrap ((j : Int) + 1) = (j : Int) + 1 := i64_in (by omega) (by omega)
      have hat := ixI hj
      simp [hj] at hpj
      have hpj' : ¬ (d[j] < 0) := by omega
      simp [Zm9, Zf, Zd, Ze, Zl, Zn, Zo, TK.agg, Zb, zeroS, Zi, Zg, splice, Zx, Z5, Zk, Zfq, hlen, hj, hat, Zaq4, Zakx, hpj', hw])
    (fun j M hj hM hpj => by
      subst hM
      have hat := ixI hj
      simp [hj] at hpj
      simp [Zm9, Zf, Zd, Ze, Zl, Zn, Zo, TK.agg, Zb, zeroS, Zi, Zg, splice, Zx, Z5, Zk, Zfq, hlen, hj, hat, Zaq4, Zakx, hpj])
    (fun M hM => by subst hM; simp [Zm9, Zf, Zd, Ze, Zl, Zn, Zo, TK.agg, Zb, zeroS, Zi, Zg, splice, Zx, Z5, Zk, Zfq, hlen]) M0 rfl
set_option maxHeartbeats 4000000 in
theorem Z4e (get) {c : Cfg} {P L : SV} (hP : Zi2 c P L) : Za0 (PCw ES) get Zee [.agg (Z7 c P L)] = some (.tup [.int .i64 (Zem c).1, .int .i64 (Zem c).2]) := by
  refine Z4 (Za4 (fun M0 => ?_) rfl) (by simp [hP.npA])
  rw [Zai3]
  have hlenp := hP.p.Zex Za1
  have hlen := hP.l.Zex Zbi
  by_cases h1 : c.parts.length < 1
  · have h1' : (c.parts.length : Int) < 1 := by omega
    have e : Zem c = (7, 0) := by simp [Zem, Zcn, Zfu, h1]
    rw [e]
    simp [Zk5, Zf, Zd, Ze, Zl, Zn, Zo, TK.agg, Zb, zeroS, Zi, Zg, splice, Zx, Z5, Zk, Z7, hlenp, h1, h1']
  have h1' : ¬ (c.parts.length : Int) < 1 := by omega
  by_cases h2 : 6 < c.parts.length
  · have h2' : 6 < (c.parts.length : Int) := by omega
    have e : Zem c = (7, 0) := by simp [Zem, Zcn, Zfu, h2]
    rw [e]
    simp [Zk5, Zf, Zd, Ze, Zl, Zn, Zo, TK.agg, Zb, zeroS, Zi, Zg, splice, Zx, Z5, Zk, Z7, hlenp, h1, h1', h2, h2']
  have h2' : ¬ 6 < (c.parts.length : Int) := by omega
  have ep : Zfu c = match (List.range c.parts.length).find? (fun j => (c.parts[j]?.map Znt).getD false) with
    | some i => some (8, (i : Int))
    | none => none := by simp [Zfu, h1, h2]; rfl
  obtain ⟨r, g1, M1, g2, g3, g4⟩ := Zaj3 hP (p := M0.next) (by omega) ((M0.bump 3).set M0.next (some [.agg (Z7 c P L)])) (by simp) (by simp)
  cases hf : (List.range c.parts.length).find? (fun j => (c.parts[j]?.map Znt).getD false) with
  | some j =>
    rw [hf] at g4 ep
    subst g4
    have e : Zem c = (8, (j : Int)) := by simp [Zem, Zcn, ep]
    rw [e]
    simp [Zcl, Z7] at g1
    simp [Zk5, Zf, Zd, Ze, Zl, Zn, Zo, TK.agg, Zb, zeroS, Zi, Zg, splice, Zx, Z5, Zk, Z7, hlenp, h1, h1', h2, h2', g1]
  | none =>
    rw [hf] at g4 ep
    subst g4
    simp [Zcl, Z7] at g1
    have g2' := g2
    simp only [Z7] at g2'
    by_cases h3 : 10 < c.links.length
    · have h3' : 10 < (c.links.length : Int) := by omega
      have e : Zem c = (9, 0) := by simp [Zem, Zcn, ep, Zhf, h3]
      rw [e]
      simp [Zk5, Zf, Zd, Ze, Zl, Zn, Zo, TK.agg, Zb, zeroS, Zi, Zg, splice, Zx, Z5, Zk, Z7, hlenp, h1, h1', h2, h2', g1, g2', hlen, h3, h3']
    have h3' : ¬ 10 < (c.links.length : Int) := by omega
    have el : Zhf c = match (List.range c.links.length).find? (fun j => (c.links[j]?.map fun l => Zbs c j l != 0).getD false) with
      | some i => some ((c.links[i]?.map fun l => Zbs c i l).getD 0, (i : Int))
      | none => none := by simp [Zhf, h3]; rfl
    obtain ⟨r, k1, k2⟩ := Zaip hP (p := M0.next) M1 g2
    cases hf2 : (List.range c.links.length).find? (fun j => (c.links[j]?.map fun l => Zbs c j l != 0).getD false) with
    | some j =>
      rw [hf2] at k2 el
      subst k2
      have e : Zem c = ((c.links[j]?.map fun l => Zbs c j l).getD 0, (j : Int)) := by simp only [Zem, Zcn, ep, el, Option.getD_some]
      rw [e]
      simp [Zft] at k1
      simp [Zk5, Zf, Zd, Ze, Zl, Zn, Zo, TK.agg, Zb, zeroS, Zi, Zg, splice, Zx, Z5, Zk, Z7, hlenp, h1, h1', h2, h2', g1, g2', hlen, h3, h3', k1]
    | none =>
      rw [hf2] at k2 el
      subst k2
      simp [Zft] at k1
      have hd := fun get => Zajn get hP (fr := 0) (by omega) ⟨by omega, by omega⟩ (Zy5 el)
      simp only [Z7] at hd
      have hl : (Zlx c.links c.parts.length 0).length = c.parts.length := by simp [Zlx]
      have ei := Zaml c.links c.parts.length 0
      obtain ⟨r, m1, m2⟩ := Zapn (d := Zlx c.links c.parts.length 0) (by omega) M1
      rw [hl] at m2
      cases hf3 : (List.range c.parts.length).find? (fun j => ((Zlx c.links c.parts.length 0)[j]?.map fun x => decide (x < 0)).getD false) with
      | some j =>
        rw [hf3] at m2 ei
        subst m2
        have e : Zem c = (13, (j : Int)) := by simp [Zem, Zcn, ep, el, ei]
        rw [e]
        simp [Zfq] at m1
        simp [Zk5, Zf, Zd, Ze, Zl, Zn, Zo, TK.agg, Zb, zeroS, Zi, Zg, splice, Zx, Z5, Zk, Z7, hlenp, h1, h1', h2, h2', g1, g2', hlen, h3, h3', k1, hd, m1]
      | none =>
        rw [hf3] at m2 ei
        subst m2
        have e : Zem c = (0, 0) := by simp [Zem, Zcn, ep, el, ei]
        rw [e]
        simp [Zfq, hl] at m1
        simp [Zk5, Zf, Zd, Ze, Zl, Zn, Zo, TK.agg, Zb, zeroS, Zi, Zg, splice, Zx, Z5, Zk, Z7, hlenp, h1, h1', h2, h2', g1, g2', hlen, h3, h3', k1, hd, m1]

end Go.Proofs.YtfphjfbknphhjaaGreatDoor
