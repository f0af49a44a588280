/-
  Walks of the seat's functions: Qc.
-/
import Derived.Test.YtfphjfbknphhjaaGreatDoorEb2
import Derived.Test.YtfphjfbknphhjaaGreatDoorShMb
import Derived.Test.YtfphjfbknphhjaaGreatDoorLzMp
import Derived.Test.YtfphjfbknphhjaaGreatDoorLzMs
import Derived.Test.YtfphjfbknphhjaaGreatDoorLzMa
import Derived.Test.YtfphjfbknphhjaaGreatDoorLzMr
set_option linter.unusedVariables false
set_option linter.unusedSimpArgs false
set_option maxRecDepth 100000
namespace Go.Proofs.YtfphjfbknphhjaaGreatDoor
open Go.Proofs.YtfphjfbknphhjaaGreatDoor.Sh
/-! Cells in memory of their own. -/
set_option maxHeartbeats 4000000 in
theorem Zae4 {x : SV} {l : List Node} (hx : Nds x l) (hb : l.length ≤ 1000000) (M : Mem) :
    ∃ o M', ICw ES Za7 [x] M = some (o, M') ∧ Zg1 8 o M' (its x) ∧ Old M M' ∧ M.next ≤ M'.next ∧ (∀ id e a b, o = .own id e a b → M.next ≤ id) := by
  rw [Zl3]
  have hlen : (its x).length = l.length := hx.len
  have hu := RSl.Zv5 hx (n := 8) fun y a h => by obtain ⟨A, e, _⟩ := h; rw [e]; rfl
  have hit : ∀ get, Zkn get x = some (its x) := fun get => Z0m hx.sl
  have hsf := Zw0 (e := Zh) (n := 8) hx.sl
  by_cases hn : x = .nilsl
  · subst hn
    refine ⟨.nilsl, M, ?_, .inl ⟨rfl, rfl⟩, by simp, Nat.le_refl _, by simp⟩
    simp [Zbw, Zf, Zd, Ze, Zl, Zn, Zo, TK.agg, Zb, zeroS, Zi, Zg, splice, Zx, Z5, Zk, Zoq, eqS]
  · have he : ∀ (q : Bool), Zoq ES.P .eql Zj q x .nilsl = some (.bool false) := by
      intro q
      have hs := hx.sl
      cases x <;> simp [Ztp] at hs
      · exact absurd rfl hn
      · simp [Zoq, eqS]
    have b : Zf7 ES.P Zj 0 M.next [] = some (.own M.next 8 0 0, []) := by simp [Zf7, Zb4]
    by_cases h0 : its x = []
    · have ha : Zef ES.P ((M.bump 4).set M.next (some [])).blk (M.next + 2) Zj Zj (.own M.next 8 0 0) x = some (.own M.next 8 0 0, []) := by
        rw [Zlv (te := ⟨.struct [(Zc, 0), (Zc, 1), (Zc, 2), (Zp, 3), (Zp, 4), (Zv, 5), (Zc, 6), (Zc, 7)], 8, 80, some (.agg [.int .i64 0, .int .i64 0, .int .i64 0, .int .i64 0, .int .i64 0, .nilsl, .int .i64 0, .int .i64 0])⟩) (ys := its x) (xs := []) Zae Zae Zb8 rfl (hit _) (by decide) hu hsf rfl rfl (by simp) (by simp) (by show (0 + (its x).length) * 80 ≤ 140737488355328; omega) (by show 0 + (its x).length ≤ _; omega), h0]
        rfl
      refine ⟨.own M.next 8 0 0, (M.bump 4).set M.next (some []), ?_, .inr ⟨M.next, by simp [h0], by simp [h0], by show M.next < M.next + 4; omega⟩, by simp, by show M.next ≤ M.next + 4; omega, fun id e a b hh => by cases hh; omega⟩
      simp [Zbw, Zf, Zd, Ze, Zl, Zn, Zo, TK.agg, Zb, zeroS, Zi, Zg, splice, Zx, Z5, Zk, he, b, ha]
    · have hem : (its x).isEmpty = false := by cases hh : its x with | nil => exact absurd hh h0 | cons _ _ => rfl
      have ha : Zef ES.P ((M.bump 4).set M.next (some [])).blk (M.next + 2) Zj Zj (.own M.next 8 0 0) x = some (.own (M.next + 2) 8 0 (its x).length, [(M.next, none), (M.next + 2, some (its x))]) := by
        rw [Zlv (te := ⟨.struct [(Zc, 0), (Zc, 1), (Zc, 2), (Zp, 3), (Zp, 4), (Zv, 5), (Zc, 6), (Zc, 7)], 8, 80, some (.agg [.int .i64 0, .int .i64 0, .int .i64 0, .int .i64 0, .int .i64 0, .nilsl, .int .i64 0, .int .i64 0])⟩) (ys := its x) (xs := []) Zae Zae Zb8 rfl (hit _) (by decide) hu hsf rfl rfl (by simp) (by simp) (by show (0 + (its x).length) * 80 ≤ 140737488355328; omega) (by show 0 + (its x).length ≤ _; omega), hem]
        simp
      refine ⟨.own (M.next + 2) 8 0 (its x).length, (((M.bump 4).set M.next (some [])).set M.next none).set (M.next + 2) (some (its x)), ?_, .inr ⟨M.next + 2, rfl, by simp, by show M.next + 2 < M.next + 4; omega⟩, ?_, by show M.next ≤ M.next + 4; omega, fun id e a b hh => by cases hh; omega⟩
      · simp [Zbw, Zf, Zd, Ze, Zl, Zn, Zo, TK.agg, Zb, zeroS, Zi, Zg, splice, Zx, Z5, Zk, he, b, ha]
      · intro id hid
        have q1 : ¬ id = M.next := by omega
        have q2 : ¬ id = M.next + 2 := by omega
        simp [q1, q2]
/-- No block of the one is a block of the other. -/
def Zark (o p : SV) : Prop := ∀ i e a b i' e' a' b', o = .own i e a b → p = .own i' e' a' b' → i ≠ i'
theorem RSl.setN {α : Type} {R : SV → α → Prop} {ns : List SV} {l : List α} (h : RSl R (.sl ns .ro) l) {j : Nat} {y : SV} {a : α} (hy : R y a) : RSl R (.sl (ns.set j y) .ro) (l.set j a) := by
  have hlen : ns.length = l.length := h.len
  refine ⟨rfl, by show (ns.set j y).length = (l.set j a).length; simp [hlen], fun i u b hu hb => ?_⟩
  have hu' : (ns.set j y)[i]? = some u := hu
  rw [List.getElem?_set] at hu' hb
  by_cases e : j = i
  · rw [if_pos e] at hu' hb
    split at hu'
    · split at hb
      · simp only [Option.some.injEq] at hu' hb
        rw [← hu', ← hb]
        exact hy
      · cases hb
    · cases hu'
  · rw [if_neg e] at hu' hb
    exact h.at' i u b hu' hb
theorem Z36 : ∀ l : List Int, Z10 (l.map (SV.int .i64)) (l.map (SV.int .i64)) = true
  | [] => rfl
  | n :: l => by simp [Z10, Zx8, Z36 l]
theorem Ints.same {x : SV} {l : List Int} (h : Ints x l) : Zx8 x x = true := by
  have hs := h.sl
  have hm := RSl.map (enc := SV.int .i64) h
  cases x <;> simp [Ztp] at hs
  · rfl
  · rename_i items tl
    simp only [its] at hm
    rw [hm]
    simp [Zx8, Z36]
/-- The nodes of a cell of the call's own. -/
def NdsO (M : Mem) (N : SV) (l : List Node) : Prop := ∃ ns, Zg1 8 N M ns ∧ RSl NdR (.sl ns .ro) l
structure CnI (m : Nat) (on : Bool) (st : Int) (o A' : SV) (l : List Node) (M0 M : Mem) : Prop where
  hx : M.blk m = some [.agg [o, .bool on, .int .i64 st, A']]
  h2 : M.blk (m + 1) = some [.agg [.nilsl, .bool false, .int .i64 0, .nilsl]]
  hs : NdsO M o l
  ge : ∀ id e a b, o = .own id e a b → m + 2 ≤ id
  lt : m + 2 ≤ M.next
  old : ∀ id, id < m → M.blk id = M0.blk id
theorem NdsO.own {M : Mem} {o : SV} {l : List Node} (h : NdsO M o l) {j : Nat} (hj : j < l.length) : ∃ q ns, o = .own q 8 0 ns.length ∧ M.blk q = some ns ∧ q < M.next ∧ RSl NdR (.sl ns .ro) l := by
  obtain ⟨ns, ho, hr⟩ := h
  have hln : ns.length = l.length := hr.len
  rcases ho with ⟨e, _⟩ | ⟨q, e1, e2, e3⟩
  · rw [e] at hln
    simp at hln
    omega
  · exact ⟨q, ns, e1, e2, e3, hr⟩
set_option maxHeartbeats 8000000 in
theorem Zao7 {m : Nat} {on : Bool} {st : Int} {o A' : SV} {l : List Node} (hb : l.length ≤ 1000000) (ha : ∀ n ∈ l, n.ages.length ≤ 1000000) {M0 M : Mem} (h : CnI m on st o A' l M0 M) {j : Nat} (hj : j < l.length) :
    ∃ M', evW ES Zdm Zjz ⟨Zhp (.ptr m 0 0) (.ptr (m + 1) 0 0) (.int .i64 l.length) (.int .i64 j), M⟩ = some (.normal, ⟨Zhp (.ptr m 0 0) (.ptr (m + 1) 0 0) (.int .i64 l.length) (.int .i64 ((j + 1 : Nat) : Int)), M'⟩) ∧ CnI m on st o A' l M0 M' := by
  have hw : IntKind.i64.wrap ((j : Int) + 1) = (j : Int) + 1 := i64_in (by omega) (by omega)
  obtain ⟨q, ns, rfl, hq, hlt, hr⟩ := h.hs.own hj
  have hln : ns.length = l.length := hr.len
  have hj' : j < ns.length := by omega
  obtain ⟨B, ej, hB, hpB⟩ := hr.at' j ns[j] l[j] (by show ns[j]? = _; simp [hj']) (by simp [hj])
  obtain ⟨B', b1, b2, b3⟩ := Z9i hB (ha _ (List.getElem_mem hj))
  have hgj : ns[j]? = some (.agg (ndC l[j] B)) := by rw [List.getElem?_eq_getElem hj', ej]
  have hqm := h.ge q 8 0 _ rfl
  have d1 : ¬ q = m := by omega
  have d2 : ¬ m = q := by omega
  have d3 : ¬ m + 1 = q := by omega
  have ix : Z9 ES.P Zj (.own q 8 0 ns.length) (.int .i64 j) = some (.ptr q j 0) := by simp [Z9, Zs4, hj']
  have hx := h.hx
  refine ⟨M.set q (some (ns.set j (.agg (ndC l[j] B')))), ?_, ⟨by simp [d2, hx], by simp [d3, h.h2], ⟨ns.set j (.agg (ndC l[j] B')), .inr ⟨q, by simp, by simp, hlt⟩, ?_⟩, h.ge, h.lt, fun id hid => ?_⟩⟩
  · simp only [ndC] at hgj ⊢
    simp (maxSteps := 4000000) [Zjz, Zf, Zd, Ze, Zl, Zn, Zo, TK.agg, Zb, zeroS, Zi, Zg, splice, Zx, Z5, Zk, Zhp, hx, hq, ix, hgj, b1, hw, hj, d1, d2, Zz hB.sl, Zax hB.sl, Zz b2.sl, Zax b2.sl]
  · have := RSl.setN hr (j := j) (show NdR (.agg (ndC l[j] B')) l[j] from ⟨B', rfl, b2, b3⟩)
    simpa using this
  · have e : ¬ id = q := by omega
    simp [e, h.old id hid]
set_option maxHeartbeats 16000000 in
theorem Zvy {x : Cel} {N A : SV} (hN : Nds N x.nodes) (hA : Ints A x.ages) (hb : x.nodes.length ≤ 1000000) (ha : ∀ n ∈ x.nodes, n.ages.length ≤ 1000000) (hb2 : x.ages.length ≤ 1000000) (M : Mem) :
    ∃ o A' M', ICw ES Zdm [.agg (clC x N A)] M = some (.agg (clC x o A'), M') ∧ NdsO M' o x.nodes ∧ Ints A' x.ages ∧ Sh.pv A' = true ∧ Old M M' ∧ M.next ≤ M'.next ∧ (∀ id e a b, o = .own id e a b → M.next ≤ id) := by
  obtain ⟨A', a1, a2, a3⟩ := Z9i hA hb2
  obtain ⟨o, M2, k1, k2, k3, k4, k5⟩ := Zae4 hN hb ((((M.bump 2).set M.next (some [.agg (clC x N A)])).set (M.next + 1) (some [.agg [.nilsl, .bool false, .int .i64 0, .nilsl]])).bump 12)
  have e14 : ((((M.bump 2).set M.next (some [.agg (clC x N A)])).set (M.next + 1) (some [.agg [.nilsl, .bool false, .int .i64 0, .nilsl]])).bump 12).next = M.next + 14 := rfl
  rw [e14] at k4 k5
  have m0 : M2.blk M.next = some [.agg (clC x N A)] := by
    rw [k3 M.next (by rw [e14]; omega)]
    simp
  have m1 : M2.blk (M.next + 1) = some [.agg [.nilsl, .bool false, .int .i64 0, .nilsl]] := by
    rw [k3 (M.next + 1) (by rw [e14]; omega)]
    simp
  have hr : RSl NdR (.sl (its N) .ro) x.nodes := ⟨rfl, hN.len, fun j y a hy ha => hN.at' j y a hy ha⟩
  have hI : CnI M.next x.on x.start o A' x.nodes M (M2.set M.next (some [.agg [o, .bool x.on, .int .i64 x.start, A']])) := by
    refine ⟨by simp, by simp [m1], ⟨its N, ?_, hr⟩, fun id e a b hh => by have := k5 id e a b hh; omega, by show M.next + 2 ≤ M2.next; omega, fun id hid => ?_⟩
    · rcases k2 with ⟨e1, e2⟩ | ⟨q, e1, e2, e3⟩
      · exact .inl ⟨e1, e2⟩
      · have := k5 q 8 0 _ e1
        have e : ¬ q = M.next := by omega
        exact .inr ⟨q, e1, by simp [e, e2], e3⟩
    · have e : ¬ id = M.next := by omega
      have e2 : ¬ id = M.next + 1 := by omega
      simp only [Mem.Ziy, e, if_false]
      rw [k3 id (by rw [e14]; omega)]
      simp [e, e2]
  have hlo : Zex ES.P Zj o = some (.int .i64 x.nodes.length) := by
    rcases k2 with ⟨e1, e2⟩ | ⟨q, e1, e2, e3⟩
    · have : x.nodes.length = 0 := by rw [← hN.len, e1]; rfl
      rw [e2, this]
      simp [Zex]
    · rw [e1, hN.len]
      simp [Zex]
  have hoc : o.cells.length = 1 ∧ o.cells = [o] ∧ o.sto = true := by
    rcases k2 with ⟨e1, e2⟩ | ⟨q, e1, e2, e3⟩
    · rw [e2]; exact ⟨rfl, rfl, rfl⟩
    · rw [e1]; exact ⟨rfl, rfl, rfl⟩
  obtain ⟨_, ho1, ho2⟩ := hoc
  obtain ⟨r, g1, Ma, rfl, hL⟩ := Zke (E := ES) (me := Zdm) (B := Zjz) (len := x.nodes.length) (T := fun j => Zhp (.ptr M.next 0 0) (.ptr (M.next + 1) 0 0) (.int .i64 x.nodes.length) (.int .i64 j)) (I := fun _ M' => CnI M.next x.on x.start o A' x.nodes M M')
    (Q := fun r => ∃ M', r = (.exit 0, ⟨(Zhp (.ptr M.next 0 0) (.ptr (M.next + 1) 0 0) (.int .i64 x.nodes.length) (.int .i64 x.nodes.length)).set 18 (.bool false), M'⟩) ∧ CnI M.next x.on x.start o A' x.nodes M M')
    (fun j M' hj hI => .inl (Zao7 hb ha hI hj))
    (fun M' hI => ⟨_, by simp [Zjz, Zf, Zd, Ze, Zl, TK.agg, zeroS, Zx, Z5, Zhp], by simp, M', rfl, hI⟩) 0 _ (by omega) hI
  simp [Zhp] at g1
  have hx := hL.hx
  have h2 := hL.h2
  have sA := hA.same
  refine ⟨o, A', Ma.set (M.next + 1) (some [.agg (clC x o A')]), ?_, ?_, a2, a3, fun id hid => ?_, by show M.next ≤ Ma.next; have := hL.lt; omega, fun id e a b hh => by have := k5 id e a b hh; omega⟩
  · rw [Zaav]
    simp only [clC] at k1 m0 ⊢
    simp (maxSteps := 4000000) [Ztg, Zf, Zd, Ze, Zl, Zn, Zo, TK.agg, Zb, zeroS, Zi, Zg, splice, Zx, Z5, Zk, Mem.set2, Z2y, oldS, sA, k1, m0, m1, a1, hlo, Zs5, g1, hx, h2, ho1, ho2, Zz hN.sl, Zax hN.sl, Zz hA.sl, Zax hA.sl, Zz a2.sl, Zax a2.sl]
  · obtain ⟨ns, o1, o2⟩ := hL.hs
    refine ⟨ns, ?_, o2⟩
    rcases o1 with ⟨e1, e2⟩ | ⟨q, e1, e2, e3⟩
    · exact .inl ⟨e1, e2⟩
    · have := hL.ge q 8 0 _ e1
      have e : ¬ q = M.next + 1 := by omega
      exact .inr ⟨q, e1, by simp [e, e2], e3⟩
  · have e : ¬ id = M.next + 1 := by omega
    simp [e, hL.old id hid]

end Go.Proofs.YtfphjfbknphhjaaGreatDoor
