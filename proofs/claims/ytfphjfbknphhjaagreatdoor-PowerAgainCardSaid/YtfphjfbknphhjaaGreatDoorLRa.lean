/-
  Walks of the seat's functions: Ra.
-/
import Derived.Test.YtfphjfbknphhjaaGreatDoorEb2
import Derived.Test.YtfphjfbknphhjaaGreatDoorShMb
import Derived.Test.YtfphjfbknphhjaaGreatDoorLzMc
set_option linter.unusedVariables false
set_option linter.unusedSimpArgs false
set_option maxRecDepth 100000
namespace Go.Proofs.YtfphjfbknphhjaaGreatDoor
open Go.Proofs.YtfphjfbknphhjaaGreatDoor.Sh
/-! The document's own: port, ends. -/
@[simp] theorem Mem.Zavh (M : Mem) (a : Nat) (x y : Option (List SV)) : (M.set a x).set a y = M.set a y := by
  simp only [Mem.set, Mem.mk.injEq, true_and, and_true]
  funext j
  by_cases h : j = a <;> simp [h]
def Zg4 (i : Nat) (l : Link) (part node : Int) : Option Port :=
  if l.a = part ∧ l.pa0 = node then some ⟨node, i, 0, 0⟩ else if l.b = part ∧ l.pb0 = node then some ⟨node, i, 0, 1⟩
  else if l.a = part ∧ l.pa1 = node then some ⟨node, i, 1, 0⟩ else if l.b = part ∧ l.pb1 = node then some ⟨node, i, 1, 1⟩ else none
theorem Zms (i : Nat) (l : Link) (part node : Int) : (Zg4 i l part node).isSome = Zgu l part node := by
  unfold Zg4 Zgu
  by_cases h1 : l.a = part <;> by_cases h2 : l.b = part <;> by_cases h3 : l.pa0 = node <;> by_cases h4 : l.pa1 = node <;> by_cases h5 : l.pb0 = node <;> by_cases h6 : l.pb1 = node <;> simp [h1, h2, h3, h4, h5, h6]
def Zkz (ls : List Link) (part node : Int) : Option Port := match (List.range ls.length).find? (fun j => (ls[j]?.map fun l => Zgu l part node).getD false) with
  | some j => ls[j]?.bind fun l => Zg4 j l part node
  | none => none
theorem Zv1 (ls : List Link) (part node : Int) : (Zkz ls part node).isSome = Zn7 ls part node := by
  have h := Ztf (fun l : Link => Zgu l part node) ls
  unfold idxOf at h
  unfold Zkz Zn7
  rw [← h]
  cases hf : (List.range ls.length).find? (fun j => (ls[j]?.map fun l => Zgu l part node).getD false) with
  | none => simp
  | some j =>
    rw [List.find?_range_eq_some] at hf
    obtain ⟨h1, h2, _⟩ := hf
    have hlt : j < ls.length := by simpa using h2
    simp [hlt] at h1
    simp [hlt, Zms, h1]
def Zaiz (o : Option Port) : SV := .tup [Zap (o.getD ⟨0, 0, 0, 0⟩), .bool o.isSome]
@[simp] theorem r5_is_c (get) (n m : Int) : Za0 (PCw ES) get Znx [.int .i64 n, .int .i64 m] = some (.bool (decide (Zam n m))) := by
  refine Z4 (Za4 (fun M => ?_) rfl) rfl
  rw [Zasv]
  by_cases h : 0 ≤ n <;> simp [Zadr, Zf, Zd, Ze, Zl, Zn, Zo, TK.agg, Zb, zeroS, Zi, Zg, splice, Zx, Z5, Zk, Zam, h]
set_option maxHeartbeats 4000000 in
theorem Zaih {part node : Int} {p q : Nat} (i : Nat) (l : Link) (lk : SV) (M : Mem) {s : Nat} (hs : M.blk s = some [Za2 l]) {v : SV} (hq : M.blk q = some [v]) (hv : v.cells.length = 4) :
    ∃ M', (∀ id, id ≠ q → M'.blk id = M.blk id) ∧ M'.next = M.next ∧ match Zg4 i l part node with
      | some r => M'.blk q = some [Zap r] ∧ evW ES Zhn Zqo ⟨Zbp lk (.int .i64 part) (.int .i64 node) (.ptr p 0 0) (.ptr q 0 0) (.int .i64 i) (.ptr s 0 0) (.int .i64 0), M⟩ =
          some (.ret, ⟨((Zbp .Z .Z .Z .Z .Z .Z .Z .Z).set 8 (.ptr q 0 0)).set 9 (.bool true), M'⟩)
      | none => M'.blk q = some [v] ∧ evW ES Zhn Zqo ⟨Zbp lk (.int .i64 part) (.int .i64 node) (.ptr p 0 0) (.ptr q 0 0) (.int .i64 i) (.ptr s 0 0) (.int .i64 0), M⟩ =
          some (.exit 2, ⟨(Zbp lk (.int .i64 part) (.int .i64 node) (.ptr p 0 0) (.ptr q 0 0) (.int .i64 i) (.ptr s 0 0) (.int .i64 2)).set 24 (.bool false), M'⟩) := by
  have ex : ∀ (e : Ex) (T : List SV) (M' : Mem), (∀ id, id ≠ q → M'.blk id = M.blk id) → True := fun _ _ _ _ => trivial
  have sets : ∀ x : SV, (∀ id, id ≠ q → (M.set q (some [x])).blk id = M.blk id) := fun x id h => by simp [h]
  have b0 : Zny ES.P Zad [(0, .int .i64 node), (1, .int .i64 i), (2, .int .i64 0)] = some (Zap ⟨node, i, 0, 0⟩) := by simp [Zny, placesOf, Zeb, splice, Zap]
  have b1 : Zny ES.P Zad [(0, .int .i64 node), (1, .int .i64 i), (2, .int .i64 1)] = some (Zap ⟨node, i, 1, 0⟩) := by simp [Zny, placesOf, Zeb, splice, Zap]
  have b2 : Zny ES.P Zad [(0, .int .i64 node), (1, .int .i64 i), (2, .int .i64 0), (3, .int .i64 1)] = some (Zap ⟨node, i, 0, 1⟩) := by simp [Zny, placesOf, Zeb, splice, Zap]
  have b3 : Zny ES.P Zad [(0, .int .i64 node), (1, .int .i64 i), (2, .int .i64 1), (3, .int .i64 1)] = some (Zap ⟨node, i, 1, 1⟩) := by simp [Zny, placesOf, Zeb, splice, Zap]
  have s0 : evW ES Zhn Zd9 ⟨Zbp lk (.int .i64 part) (.int .i64 node) (.ptr p 0 0) (.ptr q 0 0) (.int .i64 i) (.ptr s 0 0) (.int .i64 0), M⟩ =
      some (if l.a = part ∧ l.pa0 = node then (.ret, ⟨((Zbp .Z .Z .Z .Z .Z .Z .Z .Z).set 8 (.ptr q 0 0)).set 9 (.bool true), M.set q (some [Zap ⟨node, i, 0, 0⟩])⟩)
        else if l.b = part ∧ l.pb0 = node then (.ret, ⟨((Zbp .Z .Z .Z .Z .Z .Z .Z .Z).set 8 (.ptr q 0 0)).set 9 (.bool true), M.set q (some [Zap ⟨node, i, 0, 1⟩])⟩)
        else (.normal, ⟨Zbp lk (.int .i64 part) (.int .i64 node) (.ptr p 0 0) (.ptr q 0 0) (.int .i64 i) (.ptr s 0 0) (.int .i64 1), M⟩)) := by
    by_cases h1 : l.a = part ∧ l.pa0 = node
    · simp [Zd9, Zf, Zd, Ze, Zl, Zn, Zo, TK.agg, Zb, zeroS, Zi, Zg, splice, Zx, Z5, Zk, Zbp, hs, hq, hv, h1, b0, IntKind.wrap_i64]
    rw [if_neg h1]
    by_cases h3 : l.b = part ∧ l.pb0 = node
    · by_cases h5 : l.a = part
      · have h6 : ¬ l.pa0 = node := fun h => h1 ⟨h5, h⟩
        simp [Zd9, Zf, Zd, Ze, Zl, Zn, Zo, TK.agg, Zb, zeroS, Zi, Zg, splice, Zx, Z5, Zk, Zbp, hs, hq, hv, h5, h6, h3, b2, IntKind.wrap_i64]
      · simp [Zd9, Zf, Zd, Ze, Zl, Zn, Zo, TK.agg, Zb, zeroS, Zi, Zg, splice, Zx, Z5, Zk, Zbp, hs, hq, hv, h5, h3, b2, IntKind.wrap_i64]
    rw [if_neg h3]
    by_cases h5 : l.a = part <;> by_cases h7 : l.b = part <;> simp only [h5, h7, true_and, false_and, not_false_eq_true] at h1 h3 <;> simp [Zd9, Zf, Zd, Ze, Zl, Zn, Zo, TK.agg, Zb, zeroS, Zi, Zg, splice, Zx, Z5, Zk, Zbp, hs, hq, hv, h1, h3, h5, h7, IntKind.wrap_i64]
  have s1 : evW ES Zhn Zd9 ⟨Zbp lk (.int .i64 part) (.int .i64 node) (.ptr p 0 0) (.ptr q 0 0) (.int .i64 i) (.ptr s 0 0) (.int .i64 1), M⟩ =
      some (if l.a = part ∧ l.pa1 = node then (.ret, ⟨((Zbp .Z .Z .Z .Z .Z .Z .Z .Z).set 8 (.ptr q 0 0)).set 9 (.bool true), M.set q (some [Zap ⟨node, i, 1, 0⟩])⟩)
        else if l.b = part ∧ l.pb1 = node then (.ret, ⟨((Zbp .Z .Z .Z .Z .Z .Z .Z .Z).set 8 (.ptr q 0 0)).set 9 (.bool true), M.set q (some [Zap ⟨node, i, 1, 1⟩])⟩)
        else (.normal, ⟨Zbp lk (.int .i64 part) (.int .i64 node) (.ptr p 0 0) (.ptr q 0 0) (.int .i64 i) (.ptr s 0 0) (.int .i64 2), M⟩)) := by
    by_cases h1 : l.a = part ∧ l.pa1 = node
    · simp [Zd9, Zf, Zd, Ze, Zl, Zn, Zo, TK.agg, Zb, zeroS, Zi, Zg, splice, Zx, Z5, Zk, Zbp, hs, hq, hv, h1, b1, IntKind.wrap_i64]
    rw [if_neg h1]
    by_cases h3 : l.b = part ∧ l.pb1 = node
    · by_cases h5 : l.a = part
      · have h6 : ¬ l.pa1 = node := fun h => h1 ⟨h5, h⟩
        simp [Zd9, Zf, Zd, Ze, Zl, Zn, Zo, TK.agg, Zb, zeroS, Zi, Zg, splice, Zx, Z5, Zk, Zbp, hs, hq, hv, h5, h6, h3, b3, IntKind.wrap_i64]
      · simp [Zd9, Zf, Zd, Ze, Zl, Zn, Zo, TK.agg, Zb, zeroS, Zi, Zg, splice, Zx, Z5, Zk, Zbp, hs, hq, hv, h5, h3, b3, IntKind.wrap_i64]
    rw [if_neg h3]
    by_cases h5 : l.a = part <;> by_cases h7 : l.b = part <;> simp only [h5, h7, true_and, false_and, not_false_eq_true] at h1 h3 <;> simp [Zd9, Zf, Zd, Ze, Zl, Zn, Zo, TK.agg, Zb, zeroS, Zi, Zg, splice, Zx, Z5, Zk, Zbp, hs, hq, hv, h1, h3, h5, h7, IntKind.wrap_i64]
  have s2 : evW ES Zhn Zd9 ⟨Zbp lk (.int .i64 part) (.int .i64 node) (.ptr p 0 0) (.ptr q 0 0) (.int .i64 i) (.ptr s 0 0) (.int .i64 2), M⟩ =
      some (.exit 2, ⟨(Zbp lk (.int .i64 part) (.int .i64 node) (.ptr p 0 0) (.ptr q 0 0) (.int .i64 i) (.ptr s 0 0) (.int .i64 2)).set 24 (.bool false), M⟩) := by
    simp [Zd9, Zf, Zd, Ze, Zl, Zn, Zo, TK.agg, Zb, zeroS, Zi, Zg, splice, Zx, Z5, Zk, Zbp]
  unfold Zg4 Zqo
  by_cases h1 : l.a = part ∧ l.pa0 = node
  · rw [if_pos h1] at s0 ⊢
    refine ⟨M.set q (some [Zap ⟨node, i, 0, 0⟩]), sets _, rfl, ?_, ?_⟩
    · simp
    · rw [Zbl, s0]
  rw [if_neg h1] at s0 ⊢
  by_cases h2 : l.b = part ∧ l.pb0 = node
  · rw [if_pos h2] at s0 ⊢
    refine ⟨M.set q (some [Zap ⟨node, i, 0, 1⟩]), sets _, rfl, ?_, ?_⟩
    · simp
    · rw [Zbl, s0]
  rw [if_neg h2] at s0 ⊢
  by_cases h3 : l.a = part ∧ l.pa1 = node
  · rw [if_pos h3] at s1 ⊢
    refine ⟨M.set q (some [Zap ⟨node, i, 1, 0⟩]), sets _, rfl, ?_, ?_⟩
    · simp
    · rw [Zbl, s0]; simp only; rw [Zbl, s1]
  rw [if_neg h3] at s1 ⊢
  by_cases h4 : l.b = part ∧ l.pb1 = node
  · rw [if_pos h4] at s1 ⊢
    refine ⟨M.set q (some [Zap ⟨node, i, 1, 1⟩]), sets _, rfl, ?_, ?_⟩
    · simp
    · rw [Zbl, s0]; simp only; rw [Zbl, s1]
  rw [if_neg h4] at s1 ⊢
  exact ⟨M, fun _ _ => rfl, rfl, hq, by rw [Zbl, s0]; simp only; rw [Zbl, s1]; simp only; rw [Zbl, s2]⟩
set_option maxHeartbeats 4000000 in
theorem Zakl (get) {P L : SV} {g : Cfg} (hP : Zi2 g P L) (part node : Int) {k : Nat} (hk : k ≤ g.links.length) :
    Za0 (PCw ES) get Zhn [.agg (Z7 g P L), .int .i64 k, .int .i64 part, .int .i64 node] = some (Zaiz (Zkz (g.links.take k) part node)) := by
  refine Z4 (Za4 (fun M0 => ?_) rfl) (by simp [hP.npA])
  rw [Zakr]
  have body : ∀ (p q j : Nat) (M : Mem) (hj : j < k) (v : SV), v.cells.length = 4 → M.blk p = some [.agg (Z7 g P L)] → M.blk q = some [v] → p < M.next → q < M.next → p ≠ q →
      ∃ M', M'.blk p = some [.agg (Z7 g P L)] ∧ M.next ≤ M'.next ∧ match Zg4 j (g.links[j]'(by omega)) part node with
        | some r => M'.blk q = some [Zap r] ∧ evW ES Zhn Zkq ⟨Zf6 (.int .i64 k) (.int .i64 part) (.int .i64 node) (.ptr p 0 0) (.ptr q 0 0) (.int .i64 j), M⟩ =
            some (.ret, ⟨((Zf6 .Z .Z .Z .Z .Z .Z).set 8 (.ptr q 0 0)).set 9 (.bool true), M'⟩)
        | none => M'.blk q = some [v] ∧ evW ES Zhn Zkq ⟨Zf6 (.int .i64 k) (.int .i64 part) (.int .i64 node) (.ptr p 0 0) (.ptr q 0 0) (.int .i64 j), M⟩ =
            some (.normal, ⟨Zf6 (.int .i64 k) (.int .i64 part) (.int .i64 node) (.ptr p 0 0) (.ptr q 0 0) (.int .i64 ((j + 1 : Nat) : Int)), M'⟩) := by
    intro p q j M hj v hv hp hq hlp hlq hpq
    have hjl : j < g.links.length := by omega
    have ha := Links.at hP.l hjl
    have hw : IntKind.i64.wrap ((j : Int) + 1) = (j : Int) + 1 := i64_in (by omega) (by have := hP.ll; omega)
    have hnp : ∀ z, (p = M.next + z) = False := fun z => by simp; omega
    have hnq : ∀ z, (q = M.next + z) = False := fun z => by simp; omega
    have hb0 := hp
    simp only [Z7] at hb0
    obtain ⟨M', i1, i2, i3⟩ := Zaih (part := part) (node := node) (p := p) (q := q) j g.links[j] (.int .i64 k) ((M.bump 7).set (M.next + 5) (some [Za2 g.links[j]])) (s := M.next + 5) (by simp) (v := v) (by simp [hnq, hq]) hv
    refine ⟨M', by rw [i1 p hpq]; simp [hnp, hp], by rw [i2]; simp, ?_⟩
    cases hf : Zg4 j g.links[j] part node with
    | none =>
      rw [hf] at i3
      obtain ⟨i3, i4⟩ := i3
      refine ⟨i3, ?_⟩
      simp [Zbp] at i4
      simp [Zkq, Zf, Zd, Ze, Zl, Zn, Zo, TK.agg, Zb, zeroS, Zi, Zg, splice, Zx, Z5, Zk, Zf6, hj, hjl, hb0, ha, i4, hw]
    | some r =>
      rw [hf] at i3
      obtain ⟨i3, i4⟩ := i3
      refine ⟨i3, ?_⟩
      simp [Zbp] at i4
      simp [Zkq, Zf, Zd, Ze, Zl, Zn, Zo, TK.agg, Zb, zeroS, Zi, Zg, splice, Zx, Z5, Zk, Zf6, hj, hjl, hb0, ha, i4]
  have hz : ∃ z : SV, z.cells.length = 4 ∧ z = .agg [.int .i64 0, .int .i64 0, .int .i64 0, .int .i64 0] := ⟨_, rfl, rfl⟩
  obtain ⟨z, hz1, hz2⟩ := hz
  obtain ⟨r, g1, M', g0, g2⟩ := Zdc (E := ES) (me := Zhn) (B := Zkq) (len := k) (T := fun j => Zf6 (.int .i64 k) (.int .i64 part) (.int .i64 node) (.ptr M0.next 0 0) (.ptr (M0.next + 1) 0 0) (.int .i64 j))
    (I := fun _ M => M.blk M0.next = some [.agg (Z7 g P L)] ∧ M.blk (M0.next + 1) = some [z] ∧ M0.next + 1 < M.next)
    (p := fun j => ((g.links.take k)[j]?.map fun l => Zgu l part node).getD false)
    (Q := fun o r => ∃ M', M'.blk (M0.next + 1) = some [match o with | some j => Zap (((g.links.take k)[j]?.bind fun l => Zg4 j l part node).getD ⟨0, 0, 0, 0⟩) | none => z] ∧ r = match o with
      | some j => (.ret, ⟨((Zf6 .Z .Z .Z .Z .Z .Z).set 8 (.ptr (M0.next + 1) 0 0)).set 9 (.bool true), M'⟩)
      | none => (.exit 0, ⟨(Zf6 (.int .i64 k) (.int .i64 part) (.int .i64 node) (.ptr M0.next 0 0) (.ptr (M0.next + 1) 0 0) (.int .i64 k)).set 15 (.bool false), M'⟩))
    (fun j M hj ⟨hp, hq, hlt⟩ hpj => by
      obtain ⟨M', a1, a2, a3⟩ := body M0.next (M0.next + 1) j M hj z hz1 hp hq (by omega) hlt (by omega)
      simp [hj, show j < g.links.length by omega, ← Zms j] at hpj
      rw [hpj] at a3
      exact ⟨M', a3.2, a1, a3.1, by omega⟩)
    (fun j M hj ⟨hp, hq, hlt⟩ hpj => by
      obtain ⟨M', a1, a2, a3⟩ := body M0.next (M0.next + 1) j M hj z hz1 hp hq (by omega) hlt (by omega)
      simp [hj, show j < g.links.length by omega, ← Zms j] at hpj
      obtain ⟨r, hr⟩ := Option.isSome_iff_exists.1 hpj
      rw [hr] at a3
      exact ⟨_, a3.2, by simp, M', by simp [hj, show j < g.links.length by omega, hr, a3.1], rfl⟩)
    (fun M ⟨_, hq, _⟩ => ⟨_, by simp [Zkq, Zf, Zd, Ze, Zl, Zn, Zo, TK.agg, Zb, zeroS, Zi, Zg, splice, Zx, Z5, Zk, Zf6], by simp, M, hq, rfl⟩)
    (((M0.bump 3).set M0.next (some [.agg (Z7 g P L)])).set (M0.next + 1) (some [z])) ⟨by simp, by simp, by simp⟩
  have hlen : (g.links.take k).length = k := by simp; omega
  have e : Zkz (g.links.take k) part node = match (List.range k).find? (fun j => ((g.links.take k)[j]?.map fun l => Zgu l part node).getD false) with
    | some j => (g.links.take k)[j]?.bind fun l => Zg4 j l part node
    | none => none := by unfold Zkz; rw [hlen]
  rw [e]
  cases hf : (List.range k).find? (fun j => ((g.links.take k)[j]?.map fun l => Zgu l part node).getD false) with
  | none =>
    rw [hf] at g2 g0
    subst g2 hz2
    simp [Zf6, Z7] at g1 g0
    have b : Zny ES.P Zad [] = some (Zap ⟨0, 0, 0, 0⟩) := by simp [Zny, placesOf, Zeb, Zap]
    simp [Zvv, Zf, Zd, Ze, Zl, Zn, Zo, TK.agg, Zb, zeroS, Zi, Zg, splice, Zx, Z5, Zk, Z7, Zs2, g1, g0, Zaiz, b]
    rfl
  | some j =>
    rw [hf] at g2 g0
    subst g2 hz2
    simp [Zf6, Z7] at g1 g0
    have hs : ((g.links.take k)[j]?.bind fun l => Zg4 j l part node).isSome = true := by
      rw [List.find?_range_eq_some] at hf
      obtain ⟨h1, h2, _⟩ := hf
      have hlt : j < k := by simpa using h2
      simp [hlt, show j < g.links.length by omega] at h1
      simp [hlt, show j < g.links.length by omega, Zms, h1]
    simp [Zvv, Zf, Zd, Ze, Zl, Zn, Zo, TK.agg, Zb, zeroS, Zi, Zg, splice, Zx, Z5, Zk, Z7, Zs2, g1, g0, Zaiz, hs]

end Go.Proofs.YtfphjfbknphhjaaGreatDoor
