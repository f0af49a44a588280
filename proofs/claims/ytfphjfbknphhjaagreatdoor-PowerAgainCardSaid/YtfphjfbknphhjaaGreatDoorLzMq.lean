/-
  Walks of the seat's functions: Ok.
-/
import Derived.Test.YtfphjfbknphhjaaGreatDoorEb2
import Derived.Test.YtfphjfbknphhjaaGreatDoorShMb
import Derived.Test.YtfphjfbknphhjaaGreatDoorLzMp
import Derived.Test.YtfphjfbknphhjaaGreatDoorLzMo
set_option linter.unusedVariables false
set_option linter.unusedSimpArgs false
set_option maxRecDepth 100000
namespace Go.Proofs.YtfphjfbknphhjaaGreatDoor
open Go.Proofs.YtfphjfbknphhjaaGreatDoor.Sh
/-! A cell that is right, out of any. -/
def Zz2 : SV := .agg [.int .i64 0, .int .i64 0, .int .i64 0, .int .i64 0, .int .i64 0, .nilsl, .int .i64 0, .int .i64 0]
theorem Zauu : NdR Zz2 ⟨0, 0, 0, 0, 0, [], 0, 0⟩ := ⟨.nilsl, rfl, RSl.nil _, rfl⟩
theorem Zavg {P L : SV} {c : Cfg} (hP : Zi2 c P L) (hfit : Zsf c = true) {p : Nat} (hp : p < c.parts.length) {N : Nat} (hN : c.parts[p].nodes = N) (hN2 : N ≤ 1000) (M : Mem) :
    ∃ M', ICw ES Zpl [.agg (Z7 c P L), .int .i64 p] M = some (.agg [.own (M.next + 8) 8 0 N, .bool false, .int .i64 0, .nilsl], M') ∧ M'.blk (M.next + 8) = some (List.replicate N Zz2) ∧ Old M M' ∧ M'.next = M.next + 11 := by
  rw [Zal8]
  have h1 := fun get => Zyr get hP p
  have hin : (Zsf c && decide (Zam (p : Int) c.parts.length)) = true := by
    have : Zam (p : Int) c.parts.length := by unfold Zam; omega
    simp [hfit, this]
  rw [hin] at h1
  have ap := Parts.at hP.p hp
  have ap2 : (c.parts.map Zc9)[p]? = some (.agg [.int .i64 N, .int .i64 c.parts[p].faults]) := by rw [List.getElem?_map, List.getElem?_eq_getElem hp, ← hN]; rfl
  have hlk : (Z7 c P L).length = 13 := rfl
  have hK0 : (Z7 c P L)[0]? = some P := rfl
  generalize Z7 c P L = K at *
  have hK0' : K[0]'(by omega) = P := by simpa [hlk] using hK0
  generalize c.parts.map Zc9 = ps at ap ap2
  have b1 : (N : Int) * 80 ≤ 281474976710656 := by omega
  have b2 : (N : Int) ≤ 281474976710656 := by omega
  have hmk : ∀ a, mkSl ES.P Zj a (.int .i64 N) (.int .i64 N) = some (.own a 8 0 N, List.replicate N Zz2) := fun a => by
    have z0 : (0 : Int) ≤ N := by omega
    simp [mkSl, Zz2, b1, b2]
  refine ⟨(((((M.bump 2).set M.next (some [.agg K])).set (M.next + 1) (some [.agg [.nilsl, .bool false, .int .i64 0, .nilsl]])).bump 9).set (M.next + 2 + 6) (some (List.replicate N Zz2))).set (M.next + 1) (some [.agg [.own (M.next + 8) 8 0 N, .bool false, .int .i64 0, .nilsl]]), ?_, ?_, ?_, ?_⟩
  · simp (maxSteps := 4000000) [Z1m, Zf, Zd, Ze, Zl, Zn, Zo, TK.agg, Zb, zeroS, Zi, Zg, splice, Zx, Z5, Zk, h1, hlk, hK0', ap, ap2, hmk, Zny, placesOf, Zeb]
  · simp
  · intro id hid
    have q1 : ¬ id = M.next := by omega
    have q2 : ¬ id = M.next + 1 := by omega
    have q3 : ¬ id = M.next + 2 + 6 := by omega
    have q4 : ¬ id = M.next + 8 := by omega
    simp [q1, q2, q3, q4]
  · rfl
structure MdI (Pn : Node → Prop) (m : Nat) (K : List SV) (X : SV) (n : Nat) (items : List SV) (M0 M : Mem) : Prop where
  hc : M.blk m = some [.agg K]
  hx : M.blk (m + 1) = some [X]
  h8 : M.blk (m + 2) = some [.agg [.nilsl, .bool false, .int .i64 0, .nilsl]]
  h9 : M.blk (m + 6) = some [.agg [.own (m + 16) 8 0 n, .bool false, .int .i64 0, .nilsl]]
  hq : M.blk (m + 16) = some items
  hl : items.length = n
  hi : ∀ y ∈ items, ∃ nd, NdR y nd ∧ Pn nd
  lt : m + 19 ≤ M.next
  old : ∀ id, id < m → M.blk id = M0.blk id
theorem MdI.step {Pn : Node → Prop} {m : Nat} {K : List SV} {X : SV} {n : Nat} {items : List SV} {M0 M : Mem} (h : MdI Pn m K X n items M0 M) (v : SV) {j : Nat} {y : SV} (hy : ∃ nd, NdR y nd ∧ Pn nd) :
    MdI Pn m K X n (items.set j y) M0 (((M.bump 3).set (M.next + 1) (some [v])).set (m + 16) (some (items.set j y))) := by
  have hlt := h.lt
  refine ⟨?_, ?_, ?_, ?_, by simp, by rw [List.length_set]; exact h.hl, fun z hz => ?_, by show m + 19 ≤ M.next + 3; omega, fun id hid => ?_⟩
  · have a : ¬ m = m + 16 := by omega
    have b : ¬ m = M.next + 1 := by omega
    simp [a, b, h.hc]
  · have a : ¬ m + 1 = m + 16 := by omega
    have b : ¬ m = M.next := by omega
    simp [a, b, h.hx]
  · have a : ¬ m + 2 = m + 16 := by omega
    have b : ¬ m + 2 = M.next + 1 := by omega
    simp [a, b, h.h8]
  · have a : ¬ m + 6 = m + 16 := by omega
    have b : ¬ m + 6 = M.next + 1 := by omega
    simp [a, b, h.h9]
  · rcases List.mem_or_eq_of_mem_set hz with h1 | h1
    · exact h.hi z h1
    · rw [h1]; exact hy
  · have a : ¬ id = m + 16 := by omega
    have b : ¬ id = M.next + 1 := by omega
    simp [a, b, h.old id hid]
set_option maxHeartbeats 16000000 in
theorem Zas9 (al : Bool) {Pn : Node → Prop} {m : Nat} {K : List SV} (hlk : K.length = 13) (hHeld : ∀ (n : Node) (A : SV), Ints A n.ages → Sh.pv A = true → ∃ y n', (∀ get, Za0 (PCw ES) get Zkw [.agg K, .agg (ndC n A)] = some y) ∧ NdR y n' ∧ Pn n')
    {xc : Cel} {NX AX : SV} (hN : Nds NX xc.nodes) (hxl : xc.nodes.length ≤ 1000) (hpN : Sh.pv NX = true) {n : Nat} (hn : n ≤ 1000) {items : List SV} {M0 M : Mem} (h : MdI Pn m K (.agg (clC xc NX AX)) n items M0 M) {j : Nat} (hj : j < n) :
    ∃ M' items', evW ES Zie Zgf ⟨Zfk (.bool al) (.ptr m 0 0) (.ptr (m + 1) 0 0) (.ptr (m + 2) 0 0) (.ptr (m + 6) 0 0) (.int .i64 j), M⟩ = some (.normal, ⟨Zfk (.bool al) (.ptr m 0 0) (.ptr (m + 1) 0 0) (.ptr (m + 2) 0 0) (.ptr (m + 6) 0 0) (.int .i64 ((j + 1 : Nat) : Int)), M'⟩) ∧ MdI Pn m K (.agg (clC xc NX AX)) n items' M0 M' := by
  have hw : IntKind.i64.wrap ((j : Int) + 1) = (j : Int) + 1 := i64_in (by omega) (by omega)
  have hln := hN.Zex Zae
  have hc := h.hc
  have hx := h.hx
  have h9 := h.h9
  have hq := h.hq
  have hl := h.hl
  have hlt := h.lt
  have d1 : ¬ m = M.next + 1 := by omega
  have d2 : ¬ m + 1 = M.next + 1 := by omega
  have d3 : ¬ m + 6 = M.next + 1 := by omega
  have d4 : ¬ m + 16 = M.next + 1 := by omega
  have d5 : ¬ M.next + 1 = m + 1 := by omega
  have d6 : ¬ m = M.next := by omega
  have d7 : ¬ M.next = m := by omega
  have hji : j < items.length := by omega
  have hlo : Zex ES.P Zj (.own (m + 16) 8 0 n) = some (.int .i64 n) := by simp [Zex]
  have hj0 : ¬ (j : Int) < 0 := by omega
  simp only [clC] at hx
  have own : Z9 ES.P Zj (.own (m + 16) 8 0 n) (.int .i64 j) = some (.ptr (m + 16) j 0) := by simp [Z9, Zs4, hj]
  have hyj : ∃ nd A, items[j] = .agg (ndC nd A) := by
    obtain ⟨nd, ⟨A, e, _, _⟩, _⟩ := h.hi items[j] (List.getElem_mem hji)
    exact ⟨nd, A, e⟩
  obtain ⟨ndj, Aj, ej⟩ := hyj
  have hgj : items[j]? = some (.agg (ndC ndj Aj)) := by rw [List.getElem?_eq_getElem hji, ej]
  cases al with
  | false =>
    by_cases c1 : j < xc.nodes.length
    · obtain ⟨u1, ⟨A1, rfl, hA1, hpA1⟩, g1, gi1, _⟩ := hN.item Zae Zb8 Zty c1
      generalize xc.nodes[j] = n1 at *
      obtain ⟨y, n', y1, ⟨A', rfl, y2, y3⟩, y4⟩ := hHeld n1 A1 hA1 hpA1
      refine ⟨_, _, ?_, h.step (.agg (ndC n1 A1)) (j := j) ⟨n', ⟨A', rfl, y2, y3⟩, y4⟩⟩
      simp only [ndC] at y1 hgj g1 ⊢
      simp (maxSteps := 4000000) [Zgf, Zf, Zd, Ze, Zl, Zn, Zo, TK.agg, Zb, zeroS, Zi, Zg, splice, Zx, Z5, Zk, Zfk, Z2y, Zalc, hc, hx, h9, hq, hlk, hlo, hln, hj, hj0, c1, d1, d2, d3, d4, d5, d6, d7, own, hgj, gi1, g1, y1, hw, Zny, placesOf, Zeb, Zz y2.sl, Zax y2.sl, Zz hA1.sl, Zax hA1.sl]
    · obtain ⟨y, n', y1, ⟨A', rfl, y2, y3⟩, y4⟩ := hHeld ⟨0, 0, 0, 0, 0, [], 0, 0⟩ .nilsl (RSl.nil _) rfl
      refine ⟨_, _, ?_, h.step Zz2 (j := j) ⟨n', ⟨A', rfl, y2, y3⟩, y4⟩⟩
      simp only [ndC] at y1 hgj ⊢
      simp (maxSteps := 4000000) [Zgf, Zf, Zd, Ze, Zl, Zn, Zo, TK.agg, Zb, zeroS, Zi, Zg, splice, Zx, Z5, Zk, Zfk, hc, hx, h9, hq, hlk, hlo, hln, hj, hj0, c1, d1, d2, d3, d4, d5, d6, d7, own, hgj, y1, hw, Zz2, Zny, placesOf, Zeb, Zz y2.sl, Zax y2.sl]
  | true =>
  by_cases c0 : xc.nodes.length = 0
  · have c0' : ¬ j < xc.nodes.length := by omega
    rw [c0] at hln
    obtain ⟨y, n', y1, ⟨A', rfl, y2, y3⟩, y4⟩ := hHeld ⟨0, 0, 0, 0, 0, [], 0, 0⟩ .nilsl (RSl.nil _) rfl
    refine ⟨_, _, ?_, h.step Zz2 (j := j) ⟨n', ⟨A', rfl, y2, y3⟩, y4⟩⟩
    simp only [ndC] at y1 hgj ⊢
    simp (maxSteps := 4000000) [Zgf, Zf, Zd, Ze, Zl, Zn, Zo, TK.agg, Zb, zeroS, Zi, Zg, splice, Zx, Z5, Zk, Zfk, hc, hx, h9, hq, hlk, hlo, hln, hj, hj0, d1, d2, d3, d4, d5, d6, d7, own, hgj, y1, hw, Zz2, Zny, placesOf, Zeb, Zz y2.sl, Zax y2.sl]
  · have hp0 : 0 < xc.nodes.length := by omega
    have hp0' : 0 < (xc.nodes.length : Int) := by omega
    obtain ⟨u0, ⟨A0, rfl, hA0, hpA0⟩, g0, gi0, _⟩ := hN.item Zae Zb8 Zty hp0
    have gi0' : Z9 ES.P Zj NX (.int .i64 0) = some (.rptr (its NX) 0 0 (Zwi NX)) := gi0
    by_cases c1 : j < xc.nodes.length
    · obtain ⟨u1, ⟨A1, rfl, hA1, hpA1⟩, g1, gi1, _⟩ := hN.item Zae Zb8 Zty c1
      generalize xc.nodes[0] = n0 at *
      generalize xc.nodes[j] = n1 at *
      obtain ⟨y, n', y1, ⟨A', rfl, y2, y3⟩, y4⟩ := hHeld ⟨n1.state, n1.wait, n1.drift, IntKind.i64.wrap (n0.start.tmod 1073741824 + n1.start.tmod 5), n0.cycle, n0.ages, n0.mask, n1.Z⟩ A0 hA0 hpA0
      refine ⟨_, _, ?_, h.step (.agg (ndC ⟨n1.state, n1.wait, n1.drift, IntKind.i64.wrap (n0.start.tmod 1073741824 + n1.start.tmod 5), n0.cycle, n0.ages, n0.mask, n1.Z⟩ A0)) (j := j) ⟨n', ⟨A', rfl, y2, y3⟩, y4⟩⟩
      simp only [ndC] at y1 hgj g0 g1 ⊢
      simp (maxSteps := 4000000) [Zgf, Zf, Zd, Ze, Zl, Zn, Zo, TK.agg, Zb, zeroS, Zi, Zg, splice, Zx, Z5, Zk, Zfk, Z2y, Zalc, hc, hx, h9, hq, hlk, hlo, hln, hj, hj0, c1, hp0, hp0', d1, d2, d3, d4, d5, d6, d7, own, hgj, gi0', g0, gi1, g1, y1, hw, Zny, placesOf, Zeb, Zz y2.sl, Zax y2.sl, Zz hA0.sl, Zax hA0.sl, Zz hA1.sl, Zax hA1.sl]
    · generalize xc.nodes[0] = n0 at *
      obtain ⟨y, n', y1, ⟨A', rfl, y2, y3⟩, y4⟩ := hHeld ⟨0, 0, 0, IntKind.i64.wrap (n0.start.tmod 1073741824), n0.cycle, n0.ages, n0.mask, 0⟩ A0 hA0 hpA0
      refine ⟨_, _, ?_, h.step (.agg (ndC ⟨0, 0, 0, IntKind.i64.wrap (n0.start.tmod 1073741824), n0.cycle, n0.ages, n0.mask, 0⟩ A0)) (j := j) ⟨n', ⟨A', rfl, y2, y3⟩, y4⟩⟩
      simp only [ndC] at y1 hgj g0 ⊢
      simp (maxSteps := 4000000) [Zgf, Zf, Zd, Ze, Zl, Zn, Zo, TK.agg, Zb, zeroS, Zi, Zg, splice, Zx, Z5, Zk, Zfk, Z2y, Zalc, hc, hx, h9, hq, hlk, hlo, hln, hj, hj0, c1, hp0, hp0', d1, d2, d3, d4, d5, d6, d7, own, hgj, gi0', g0, y1, hw, Zny, placesOf, Zeb, Zz y2.sl, Zax y2.sl, Zz hA0.sl, Zax hA0.sl]

end Go.Proofs.YtfphjfbknphhjaaGreatDoor

/-
  Walks of the seat's functions: Ol.
-/
set_option linter.unusedVariables false
set_option linter.unusedSimpArgs false
set_option maxRecDepth 100000
namespace Go.Proofs.YtfphjfbknphhjaaGreatDoor
open Go.Proofs.YtfphjfbknphhjaaGreatDoor.Sh
/-! A cell that is right, out of any: the whole. -/
set_option maxHeartbeats 16000000 in
theorem Zag6 (al : Bool) {P L : SV} {c : Cfg} (hP : Zi2 c P L) (hfit : Zsf c = true) {p : Nat} (hp : p < c.parts.length) {xc : Cel} {NX AX : SV} (hN : Nds NX xc.nodes) (hA : Ints AX xc.ages) (hxl : xc.nodes.length ≤ 1000) (hpN : Sh.pv NX = true) (hpA : Sh.pv AX = true) (M : Mem) :
    ∃ M' on st Ag w items, ICw ES Zie [.agg (Z7 c P L), .int .i64 p, .agg (clC xc NX AX), .bool al] M = some (.agg [.own (M.next + 16) 8 0 items.length, .bool on, .int .i64 st, Ag], M') ∧ M'.blk (M.next + 16) = some items ∧ (items.length : Int) = c.parts[p].nodes ∧
      (∀ y ∈ items, ∃ nd, NdR y nd ∧ Zi6 c nd = true) ∧ Ints Ag w ∧ Zqc c on w = true ∧ Zk8 st ∧ Sh.pv Ag = true ∧ Old M M' ∧ M.next + 19 ≤ M'.next := by
  have hfr := Zgp (Zec.1 hfit).1
  have hir := Zg7 (Zec.1 hfit).2.1
  have hnb := Zks (Ze5 (by simpa [Zcq] using (Zec.1 hfit).1)) p
  have hna := Zk2 hp
  obtain ⟨N, hNN⟩ : ∃ N : Nat, c.parts[p].nodes = N := ⟨c.parts[p].nodes.toNat, by omega⟩
  rw [Zahs]
  have hrg : (if Zf3 c then Zo0 c else 0) = Zsa c := by
    have : Zf3 c = true := by simp [Zf3, (Zec.1 hfit).1, (Zec.1 hfit).2.1]
    rw [if_pos this]
    rfl
  have hg1 : 1 ≤ Zsa c := by have := hir.ag; unfold Zsa; omega
  have hHeld : ∀ (n : Node) (A : SV), Ints A n.ages → Sh.pv A = true → ∃ y n', (∀ get, Za0 (PCw ES) get Zkw [.agg (Z7 c P L), .agg (ndC n A)] = some y) ∧ NdR y n' ∧ Zi6 c n' = true := fun n A h1 h2 => by
    obtain ⟨y, w, y1, y2, y3, y4⟩ := Zavm hP (by omega) hir.dr n h1 h2
    rw [hrg] at y4
    exact ⟨y, _, y1, y2, Zah1 hir.dr.1 n (Zalm y3 y4 hg1)⟩
  have hWh : ∀ {x : SV} {l : List Int} (h1 : Ints x l) (h2 : Sh.pv x = true), ∃ z w, (∀ get, Za0 (PCw ES) get Zeo [.agg (Z7 c P L), x] = some z) ∧ Ints z w ∧ Zqc c true w = true ∧ Sh.pv z = true := fun h1 h2 => by
    obtain ⟨z, w, z1, z2, z3, z4, z5⟩ := Zalq hP (by omega) h1 (Zac h2 _)
    rw [hrg] at z5
    exact ⟨z, w, z1, z2, Zalm z3 z5 hg1, z4⟩
  have hz0 : Zi6 c ⟨0, 0, 0, 0, 0, [], 0, 0⟩ = true := by
    have := hir.dr
    have e : -c.drift ≤ 0 ∧ 0 ≤ c.drift := by omega
    simp [Zi6, Zqc, Zk8, e]
  have ht : ∀ v : Int, Zk8 (v.tmod 1073741824) := fun v => by
    have := Zyo v (show (0 : Int) < 1073741824 by omega)
    unfold Zk8
    omega
  have hNew := Zavg hP hfit hp hNN (by omega)
  have hlk : (Z7 c P L).length = 13 := rfl
  generalize Z7 c P L = K at *
  obtain ⟨M2, n1, n2, n3, n4⟩ := hNew (((((M.bump 3).set M.next (some [.agg K])).set (M.next + 1) (some [.agg (clC xc NX AX)])).set (M.next + 2) (some [.agg [.nilsl, .bool false, .int .i64 0, .nilsl]])).bump 5)
  have e8 : (((((M.bump 3).set M.next (some [.agg K])).set (M.next + 1) (some [.agg (clC xc NX AX)])).set (M.next + 2) (some [.agg [.nilsl, .bool false, .int .i64 0, .nilsl]])).bump 5).next = M.next + 8 := rfl
  rw [e8] at n1 n2 n4
  have hM2 : ∀ id, id < M.next + 8 → M2.blk id = (((((M.bump 3).set M.next (some [.agg K])).set (M.next + 1) (some [.agg (clC xc NX AX)])).set (M.next + 2) (some [.agg [.nilsl, .bool false, .int .i64 0, .nilsl]])).bump 5).blk id := fun id hid => n3 id (by rw [e8]; exact hid)
  have hinit : MdI (fun nd => Zi6 c nd = true) M.next K (.agg (clC xc NX AX)) N (List.replicate N Zz2) M (M2.set (M.next + 6) (some [.agg [.own (M.next + 16) 8 0 N, .bool false, .int .i64 0, .nilsl]])) := by
    refine ⟨?_, ?_, ?_, by simp, ?_, by simp, fun y hy => ?_, by show M.next + 19 ≤ M2.next; omega, fun id hid => ?_⟩
    · have a : ¬ M.next = M.next + 6 := by omega
      have b : ¬ M.next = M.next + 1 := by omega
      have c' : ¬ M.next = M.next + 2 := by omega
      simp [hM2 M.next (by omega)]
    · simp [hM2 (M.next + 1) (by omega)]
    · simp [hM2 (M.next + 2) (by omega)]
    · simp
      exact n2
    · rw [List.eq_of_mem_replicate hy]
      exact ⟨_, Zauu, hz0⟩
    · have a : ¬ id = M.next + 6 := by omega
      have b : ¬ id = M.next + 1 := by omega
      have c' : ¬ id = M.next + 2 := by omega
      have d : ¬ id = M.next := by omega
      simp [a, hM2 id (by omega), b, c', d]
  obtain ⟨r, g1, Ma, items, rfl, hI⟩ := Zr0 (E := ES) (me := Zie) (B := Zgf) (β := List SV) (len := N) (T := fun j _ => Zfk (.bool al) (.ptr M.next 0 0) (.ptr (M.next + 1) 0 0) (.ptr (M.next + 2) 0 0) (.ptr (M.next + 6) 0 0) (.int .i64 j))
    (I := fun j o M' => MdI (fun nd => Zi6 c nd = true) M.next K (.agg (clC xc NX AX)) N o M M')
    (Q := fun r => ∃ M' items, r = (.exit 0, ⟨(Zfk (.bool al) (.ptr M.next 0 0) (.ptr (M.next + 1) 0 0) (.ptr (M.next + 2) 0 0) (.ptr (M.next + 6) 0 0) (.int .i64 N)).set 19 (.bool false), M'⟩) ∧ MdI (fun nd => Zi6 c nd = true) M.next K (.agg (clC xc NX AX)) N items M M')
    (fun j o M' hj hI => by
      left
      obtain ⟨M'', items', a1, a2⟩ := Zas9 al hlk hHeld hN hxl hpN (by omega) hI hj
      exact ⟨items', M'', a1, a2⟩)
    (fun o M' hI => by
      have h9 := hI.h9
      have hlo : Zex ES.P Zj (.own (M.next + 16) 8 0 N) = some (.int .i64 N) := by simp [Zex]
      exact ⟨_, by simp [Zgf, Zf, Zd, Ze, Zl, Zn, Zo, TK.agg, Zb, zeroS, Zi, Zg, splice, Zx, Z5, Zk, Zfk, h9, hlo], by simp, M', o, rfl, hI⟩) 0 (List.replicate N Zz2) _ (by omega) hinit
  simp [Zfk] at g1
  have hc := hI.hc
  have hx := hI.hx
  have h9 := hI.h9
  have h8 := hI.h8
  have hln := hN.Zex Zae
  have hpos : (items.length : Int) = c.parts[p].nodes := by rw [hNN, hI.hl]
  have hlt := hI.lt
  obtain ⟨z1, w1, k1, k2, k3, k4⟩ := hWh hA hpA
  have fin : ∀ v : SV, ((Ma.set (M.next + 6) (some [v])).set (M.next + 2) (some [v])).blk (M.next + 16) = some items ∧ Old M ((Ma.set (M.next + 6) (some [v])).set (M.next + 2) (some [v])) ∧ M.next + 19 ≤ ((Ma.set (M.next + 6) (some [v])).set (M.next + 2) (some [v])).next := fun v => by
    refine ⟨by simp [hI.hq], fun id hid => ?_, hlt⟩
    have a : ¬ id = M.next + 6 := by omega
    have b : ¬ id = M.next + 2 := by omega
    simp [a, b, hI.old id hid]
  have hil := hI.hl
  simp only [clC] at hx n1
  rw [show M.next + 8 + 8 = M.next + 16 by omega] at n1
  have q1 : ¬ M.next + 6 = M.next + 2 := by omega
  cases hon : xc.on with
  | false =>
    rw [hon] at hx n1
    refine ⟨(Ma.set (M.next + 6) (some [.agg [.own (M.next + 16) 8 0 N, .bool false, .int .i64 (xc.start.tmod 1073741824), .nilsl]])).set (M.next + 2) (some [.agg [.own (M.next + 16) 8 0 N, .bool false, .int .i64 (xc.start.tmod 1073741824), .nilsl]]), false, xc.start.tmod 1073741824, .nilsl, [], items, ?_, (fin (.agg [.own (M.next + 16) 8 0 N, .bool false, .int .i64 (xc.start.tmod 1073741824), .nilsl])).1, hpos, hI.hi, RSl.nil _, rfl, ht _, rfl, (fin _).2.1, (fin _).2.2⟩
    rw [hil]
    simp (maxSteps := 4000000) [Zpe, Zf, Zd, Ze, Zl, Zn, Zo, TK.agg, Zb, zeroS, Zi, Zg, splice, Zx, Z5, Zk, clC, hon, hlk, n1, Zm5, g1, hc, hx, h9, h8, q1, Zz hN.sl, Zax hN.sl, Zz hA.sl, Zax hA.sl]
  | true =>
    rw [hon] at hx n1
    cases al with
    | false =>
      refine ⟨(Ma.set (M.next + 6) (some [.agg [.own (M.next + 16) 8 0 N, .bool true, .int .i64 (xc.start.tmod 1073741824), z1]])).set (M.next + 2) (some [.agg [.own (M.next + 16) 8 0 N, .bool true, .int .i64 (xc.start.tmod 1073741824), z1]]), true, xc.start.tmod 1073741824, z1, w1, items, ?_, (fin (.agg [.own (M.next + 16) 8 0 N, .bool true, .int .i64 (xc.start.tmod 1073741824), z1])).1, hpos, hI.hi, k2, k3, ht _, k4, (fin _).2.1, (fin _).2.2⟩
      rw [hil]
      simp (maxSteps := 4000000) [Zpe, Zf, Zd, Ze, Zl, Zn, Zo, TK.agg, Zb, zeroS, Zi, Zg, splice, Zx, Z5, Zk, clC, hon, hlk, n1, Zm5, g1, hc, hx, h9, h8, q1, k1, hln, Zz hN.sl, Zax hN.sl, Zz hA.sl, Zax hA.sl, Zz k2.sl, Zax k2.sl]
    | true =>
    by_cases c0 : xc.nodes.length = 0
    · rw [c0] at hln
      refine ⟨(Ma.set (M.next + 6) (some [.agg [.own (M.next + 16) 8 0 N, .bool true, .int .i64 (xc.start.tmod 1073741824), z1]])).set (M.next + 2) (some [.agg [.own (M.next + 16) 8 0 N, .bool true, .int .i64 (xc.start.tmod 1073741824), z1]]), true, xc.start.tmod 1073741824, z1, w1, items, ?_, (fin (.agg [.own (M.next + 16) 8 0 N, .bool true, .int .i64 (xc.start.tmod 1073741824), z1])).1, hpos, hI.hi, k2, k3, ht _, k4, (fin _).2.1, (fin _).2.2⟩
      rw [hil]
      simp (maxSteps := 4000000) [Zpe, Zf, Zd, Ze, Zl, Zn, Zo, TK.agg, Zb, zeroS, Zi, Zg, splice, Zx, Z5, Zk, clC, hon, hlk, n1, Zm5, g1, hc, hx, h9, h8, q1, k1, hln, Zz hN.sl, Zax hN.sl, Zz hA.sl, Zax hA.sl, Zz k2.sl, Zax k2.sl]
    · have hp0 : 0 < xc.nodes.length := by omega
      have hp0' : 0 < (xc.nodes.length : Int) := by omega
      obtain ⟨u0, ⟨A0, rfl, hA0, hpA0⟩, g0, gi0, _⟩ := hN.item Zae Zb8 Zty hp0
      have gi0' : Z9 ES.P Zj NX (.int .i64 0) = some (.rptr (its NX) 0 0 (Zwi NX)) := gi0
      obtain ⟨z2, w2, j1, j2, j3, j4⟩ := hWh hA0 hpA0
      generalize xc.nodes[0] = n0 at *
      simp only [ndC] at g0
      refine ⟨(Ma.set (M.next + 6) (some [.agg [.own (M.next + 16) 8 0 N, .bool true, .int .i64 (n0.start.tmod 1073741824), z2]])).set (M.next + 2) (some [.agg [.own (M.next + 16) 8 0 N, .bool true, .int .i64 (n0.start.tmod 1073741824), z2]]), true, n0.start.tmod 1073741824, z2, w2, items, ?_, (fin (.agg [.own (M.next + 16) 8 0 N, .bool true, .int .i64 (n0.start.tmod 1073741824), z2])).1, hpos, hI.hi, j2, j3, ht _, j4, (fin _).2.1, (fin _).2.2⟩
      rw [hil]
      simp (maxSteps := 4000000) [Zpe, Zf, Zd, Ze, Zl, Zn, Zo, TK.agg, Zb, zeroS, Zi, Zg, splice, Zx, Z5, Zk, clC, hon, hlk, n1, Zm5, g1, hc, hx, h9, h8, q1, k1, j1, hln, hp0, hp0', gi0', g0, Zz hN.sl, Zax hN.sl, Zz hA.sl, Zax hA.sl, Zz k2.sl, Zax k2.sl, Zz j2.sl, Zax j2.sl]

end Go.Proofs.YtfphjfbknphhjaaGreatDoor
