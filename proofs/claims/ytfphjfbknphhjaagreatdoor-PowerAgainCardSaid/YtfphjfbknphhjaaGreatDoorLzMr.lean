/-
  Walks of the seat's functions: Va.
-/
import Derived.Test.YtfphjfbknphhjaaGreatDoorEb2
import Derived.Test.YtfphjfbknphhjaaGreatDoorShMb
import Derived.Test.YtfphjfbknphhjaaGreatDoorLzMm
import Derived.Test.YtfphjfbknphhjaaGreatDoorLzMa
set_option linter.unusedVariables false
set_option linter.unusedSimpArgs false
set_option maxRecDepth 100000
namespace Go.Proofs.YtfphjfbknphhjaaGreatDoor
open Go.Proofs.YtfphjfbknphhjaaGreatDoor.Sh
/-! Votes: contents, which are the same, how often one is there, which wins. -/
theorem Mem.set2 (M : Mem) (a : Nat) (u v : Option (List SV)) : (M.set a u).set a v = M.set a v := by
  simp only [Mem.set, Mem.mk.injEq, and_true]
  funext i
  by_cases hi : i = a <;> simp [hi]
theorem ints_at' {x : SV} {l : List Int} (hx : Ints x l) {j : Nat} (hj : j < l.length) : Z9 ES.P Zv x (.int .i64 j) = some (.rptr (l.map (SV.int .i64)) j 0 (Zwi x)) := RSl.at (enc := SV.int .i64) hx Zb3 Zes (fun _ => rfl) hj
set_option maxHeartbeats 4000000 in
theorem Zuu (get) {x y : SV} {l m : List Int} (hx : Ints x l) (hy : Ints y m) (hb : l.length ≤ 1000000) : Za0 (PCw ES) get Zgc [x, y] = some (.bool (decide (l = m))) := by
  refine Z4 (Za4 (fun M0 => ?_) rfl) (by simp [Nums.np (show Nums x l from hx), Nums.np (show Nums y m from hy)])
  rw [Z5w]
  have l1 := hx.Zex Zb3
  have l2 := hy.Zex Zb3
  by_cases hl : l.length = m.length
  case neg =>
    have hc : ¬ l = m := fun h => hl (by rw [h])
    have hl' : ¬ (l.length : Int) = m.length := by omega
    simp [Zmq, Zf, Zd, Ze, Zl, TK.agg, zeroS, Zx, Z5, l1, l2, hl, hl', hc]
  obtain ⟨r, g1, g2⟩ := Zdc (E := ES) (me := Zgc) (B := Zi5) (len := l.length) (T := fun k => Zfr x y (.int .i64 k)) (I := fun _ M' => M' = M0) (p := fun k => !decide (l[k]? = m[k]?))
    (Q := fun o r => r = (match o with | some _ => (.ret, ⟨(Zfr .Z .Z .Z).set 4 (.bool false), M0⟩) | none => (.exit 0, ⟨(Zfr x y (.int .i64 l.length)).set 14 (.bool false), M0⟩)))
    (fun j M' hj hM hp => by
      subst hM
      have hw : IntKind.i64.wrap ((j : Int) + 1) = (j : Int) + 1 := i64_in (by omega) (by omega)
      have a1 := ints_at' hx hj
      have a2 := ints_at' hy (show j < m.length by omega)
      have e : l[j] = m[j]'(by omega) := by simpa [hj, show j < m.length by omega] using hp
      have g1 : (l.map (SV.int .i64))[j]? = some (.int .i64 l[j]) := by simp [hj]
      have g2 : (m.map (SV.int .i64))[j]? = some (.int .i64 l[j]) := by simp [e, show j < m.length by omega]
      generalize l.map (SV.int .i64) = us at a1 g1
      generalize m.map (SV.int .i64) = vs at a2 g2
      exact ⟨M', by simp [Zi5, Zf, Zd, Ze, Zl, Zn, Zo, TK.agg, Zb, zeroS, Zi, Zg, splice, Zx, Z5, Zk, Zfr, l1, l2, hj, a1, a2, g1, g2, hw], rfl⟩)
    (fun j M' hj hM hp => by
      subst hM
      have a1 := ints_at' hx hj
      have a2 := ints_at' hy (show j < m.length by omega)
      have e : ¬ l[j] = m[j]'(by omega) := by simpa [hj, show j < m.length by omega] using hp
      have g1 : (l.map (SV.int .i64))[j]? = some (.int .i64 l[j]) := by simp [hj]
      have g2 : (m.map (SV.int .i64))[j]? = some (.int .i64 (m[j]'(by omega))) := by simp [show j < m.length by omega]
      generalize l.map (SV.int .i64) = us at a1 g1
      generalize m.map (SV.int .i64) = vs at a2 g2
      simp [Zi5, Zf, Zd, Ze, Zl, Zn, Zo, TK.agg, Zb, zeroS, Zi, Zg, splice, Zx, Z5, Zk, Zfr, l1, l2, hj, a1, a2, g1, g2, e])
    (fun M' hM => by
      subst hM
      simp [Zi5, Zf, Zd, Ze, Zl, TK.agg, zeroS, Zx, Z5, Zfr, l1, l2]) M0 rfl
  subst g2
  rw [hl] at l1
  cases hh : (List.range l.length).find? (fun k => !decide (l[k]? = m[k]?)) with
  | none =>
    rw [hh] at g1
    have e : l = m := by
      refine List.ext_getElem? fun k => ?_
      by_cases hk : k < l.length
      · have := List.find?_eq_none.1 hh k (by simp [hk])
        simpa using this
      · rw [List.getElem?_eq_none (by omega), List.getElem?_eq_none (by omega)]
    simp [Zfr, hl] at g1
    simp [Zmq, Zf, Zd, Ze, Zl, TK.agg, zeroS, Zx, Z5, l1, l2, Zor, g1, e]
  | some k =>
    rw [hh] at g1
    have e : ¬ l = m := fun e => by
      subst e
      have := List.find?_some hh
      simp at this
    simp [Zfr, hl] at g1
    simp [Zmq, Zf, Zd, Ze, Zl, TK.agg, zeroS, Zx, Z5, l1, l2, Zor, g1, e]
/-- A content: its cycle, its ages. -/
abbrev Cn := Int × List Int
def Con (y : SV) (c : Cn) : Prop := ∃ a, y = .agg [.int .i64 c.1, a] ∧ Ints a c.2 ∧ c.2.length ≤ 1000000
def Cons (x : SV) (l : List Cn) : Prop := RSl Con x l
theorem Con.np {y : SV} {c : Cn} (h : Con y c) : Sh.np 10 y = true := by
  obtain ⟨a, rfl, h1, _⟩ := h
  exact npAgg (by simp only [List.all_cons, List.all_nil, Zaun, h1.npn, Bool.and_true])
theorem Zavf : Elm Con ⟨.struct [(Zp, 0), (Zv, 1)], 2, 32, some (.agg [.int .i64 0, .nilsl])⟩ :=
  ⟨fun ⟨A, h, _⟩ => by rw [h]; rfl, fun ⟨A, h, _⟩ => by rw [h]; rfl, fun h => h.np, fun ⟨A, h, _⟩ => by rw [h]; rfl⟩
theorem Cons.npE {x : SV} {l : List Cn} (h : Cons x l) : Sh.np Zar x = true := RSl.npE h Zavf

end Go.Proofs.YtfphjfbknphhjaaGreatDoor

/-
  Walks of the seat's functions: Vb.
-/
set_option linter.unusedVariables false
set_option linter.unusedSimpArgs false
set_option maxRecDepth 100000
namespace Go.Proofs.YtfphjfbknphhjaaGreatDoor
open Go.Proofs.YtfphjfbknphhjaaGreatDoor.Sh
/-! Frames that were heard, in memory of their own. -/
set_option maxHeartbeats 4000000 in
theorem Z9i {x : SV} {l : List Int} (hx : Ints x l) (hb : l.length ≤ 1000000) : ∃ y, (∀ get, Za0 (PCw ES) get Zbt [x] = some y) ∧ Ints y l ∧ Sh.pv y = true := by
  have hi := hx.len
  have hu := RSl.Zv5 hx (n := 1) fun y a h => by rw [h]; rfl
  have hp := RSl.pvs hx fun y a h => by rw [h]; rfl
  have hnp : Sh.np Zar x = true := Zwn (by decide) (RSl.np hx (n := 9) fun y a h => by rw [h]; rfl)
  have hap : ∀ (get : Nat → Option (List SV)) (a id : Nat), get id = some [] → Zef ES.P get a Zv Zv (.own id 1 0 0) x = _ := fun get a id hg =>
    Zlv (te := ⟨.int .i64, 1, 8, some (.int .i64 0)⟩) (xs := []) Zb3 Zb3 Zes rfl (Z0m hx.sl) (by simp) hu (Zw0 hx.sl) rfl rfl hg (by simp) (by simp; omega) (by simp; omega)
  by_cases hn : x = .nilsl
  · subst hn
    have hl : l = [] := by simpa [its] using hi.symm
    subst hl
    refine ⟨.nilsl, fun get => Z4 (Za4 (fun M => ?_) rfl) rfl, hx, rfl⟩
    rw [Zlm]
    simp [Zdu, Zf, Zd, Ze, Zl, Zn, Zo, TK.agg, Zb, zeroS, Zi, Zg, splice, Zx, Z5, Zk, Zoq, eqS]
  · have he : ∀ (q : Bool), Zoq ES.P .eql Zv q x .nilsl = some (.bool false) := by
      intro q
      have hs := hx.sl
      cases x <;> simp [Ztp] at hs
      · exact absurd rfl hn
      · simp [Zoq, eqS]
    have b : ∀ q, Zf7 ES.P Zv 0 q [] = some (.own q 1 0 0, []) := fun q => by simp [Zf7, Zb4]
    refine ⟨.sl (its x) .ro, fun get => Z4 (Z6l (esz := 1) (fun M => ?_) hp) (by simp [hnp]), hx.Zaru rfl rfl, by simp [Sh.pv, Zvo hp]⟩
    rw [Zlm]
    by_cases h0 : its x = []
    · have hap' : ∀ (get : Nat → Option (List SV)) (a id : Nat), get id = some [] → Zef ES.P get a Zv Zv (.own id 1 0 0) x = some (.own id 1 0 0, []) := fun get a id hg => by rw [hap get a id hg, h0]; rfl
      rw [h0]
      refine ⟨(M.bump 4).set M.next (some []), M.next, ?_, by simp⟩
      simp [Zdu, Zf, Zd, Ze, Zl, Zn, Zo, TK.agg, Zb, zeroS, Zi, Zg, splice, Zx, Z5, Zk, he, b, hap']
    · have hap' : ∀ (get : Nat → Option (List SV)) (a id : Nat), get id = some [] → Zef ES.P get a Zv Zv (.own id 1 0 0) x = some (.own a 1 0 (its x).length, [(id, none), (a, some (its x))]) := fun get a id hg => by
        rw [hap get a id hg]
        simp [h0]
      refine ⟨(((M.bump 4).set M.next (some [])).set M.next none).set (M.next + 2) (some (its x)), M.next + 2, ?_, by simp⟩
      simp [Zdu, Zf, Zd, Ze, Zl, Zn, Zo, TK.agg, Zb, zeroS, Zi, Zg, splice, Zx, Z5, Zk, he, b, hap']
set_option maxHeartbeats 4000000 in
theorem Z6o {x : SV} {l : List Int} (hx : Ints x l) (hb : l.length ≤ 1000000) : ∃ y, (∀ get, Za0 (PCw ES) get Zmk [x] = some y) ∧ Ints y l ∧ Sh.pv y = true := by
  have hi := hx.len
  have hu := RSl.Zv5 hx (n := 1) fun y a h => by rw [h]; rfl
  have hp := RSl.pvs hx fun y a h => by rw [h]; rfl
  have hnp : Sh.np Zar x = true := Zwn (by decide) (RSl.np hx (n := 9) fun y a h => by rw [h]; rfl)
  have hap : ∀ (get : Nat → Option (List SV)) (a : Nat), Zef ES.P get a Zv Zv .nilsl x = _ := fun get a =>
    Zpr (te := ⟨.int .i64, 1, 8, some (.int .i64 0)⟩) Zb3 Zb3 Zes rfl (Z0m hx.sl) (by simp) hu (Zw0 hx.sl) rfl rfl (by simp; omega) (by omega)
  by_cases h0 : its x = []
  · have hl : l = [] := by
      rw [h0] at hi
      exact List.length_eq_zero_iff.1 hi.symm
    subst hl
    refine ⟨.nilsl, fun get => Z4 (Za4 (fun M => ?_) rfl) (by simp [hnp]), RSl.nil _, rfl⟩
    rw [Zabt]
    simp [Zvd, Zf, Zd, Ze, Zl, Zn, Zo, TK.agg, Zb, zeroS, Zi, Zg, splice, Zx, Z5, Zk, hap, h0]
  · have hap' : ∀ (get : Nat → Option (List SV)) (a : Nat), Zef ES.P get a Zv Zv .nilsl x = some (.own a 1 0 (its x).length, [(a, some (its x))]) := fun get a => by
      rw [hap get a]
      simp [h0]
    refine ⟨.sl (its x) .ro, fun get => Z4 (Z6l (esz := 1) (fun M => ?_) hp) (by simp [hnp]), hx.Zaru rfl rfl, by simp [Sh.pv, Zvo hp]⟩
    rw [Zabt]
    refine ⟨(M.bump 3).set (M.next + 1) (some (its x)), M.next + 1, ?_, by simp⟩
    simp [Zvd, Zf, Zd, Ze, Zl, Zn, Zo, TK.agg, Zb, zeroS, Zi, Zg, splice, Zx, Z5, Zk, hap']
def HdO (y : SV) (h : Zak1) : Prop := ∃ A B, y = .agg (hdC h A B) ∧ Ints A h.f.ages ∧ Bytes B h.f.body ∧ Sh.pv A = true ∧ Sh.pv B = true
theorem HdO.r {y : SV} {h : Zak1} (hy : HdO y h) : HdR y h := by
  obtain ⟨A, B, e, hA, hB, _, _⟩ := hy
  exact ⟨A, B, e, hA, hB⟩
theorem HdO.pv {y : SV} {h : Zak1} (hy : HdO y h) : Sh.pv y = true := by
  obtain ⟨A, B, rfl, _, _, h1, h2⟩ := hy
  simp [Sh.pv, pvs, hdC, h1, h2]

end Go.Proofs.YtfphjfbknphhjaaGreatDoor

/-
  Walks of the seat's functions: Vc.
-/
set_option linter.unusedVariables false
set_option linter.unusedSimpArgs false
set_option maxRecDepth 100000
namespace Go.Proofs.YtfphjfbknphhjaaGreatDoor
open Go.Proofs.YtfphjfbknphhjaaGreatDoor.Sh
/-! Frames of a kind. -/
theorem RSl.snoc {α : Type} {R : SV → α → Prop} {items : List SV} {tl : Tl} {l : List α} {y : SV} {h : α} (hl : RSl R (.sl items tl) l) (hy : R y h) : RSl R (.sl (items ++ [y]) tl) (l ++ [h]) := by
  refine ⟨rfl, by have := hl.len; simp [its] at this ⊢; exact this, fun j u a hu ha => ?_⟩
  have hlen := hl.len
  simp only [its] at hlen hu
  rw [List.getElem?_append] at hu ha
  rw [← hlen] at ha
  split at hu
  · rename_i hlt
    rw [if_pos hlt] at ha
    exact hl.at' j u a hu ha
  · rename_i hlt
    rw [if_neg hlt] at ha
    have : j - items.length = 0 := by
      have := (List.getElem?_eq_some_iff.1 hu).1
      simp at this
      omega
    rw [this] at hu ha
    simp at hu ha
    subst hu ha
    exact hy
theorem RSl.nil' {α : Type} {R : SV → α → Prop} {tl : Tl} : RSl R (.sl [] tl) [] := ⟨rfl, rfl, fun j u a hu ha => by simp at ha⟩
theorem RSl.out {α : Type} {R : SV → α → Prop} {y : SV} {items : List SV} {l : List α} (h : RSl R (.sl items .ro) l) (h1 : Ztp y = true) (h2 : its y = items) : RSl R y l :=
  ⟨h1, by rw [h2]; exact h.len, fun j u a hu ha => h.at' j u a (by show items[j]? = _; rw [← h2]; exact hu) ha⟩
theorem RSl.mem {α : Type} {R : SV → α → Prop} {items : List SV} {l : List α} (h : RSl R (.sl items .ro) l) {y : SV} (hy : y ∈ items) : ∃ a, a ∈ l ∧ R y a := by
  obtain ⟨j, hj, rfl⟩ := List.mem_iff_getElem.1 hy
  have hlen : items.length = l.length := h.len
  exact ⟨l[j], List.getElem_mem (by omega), h.at' j items[j] l[j] (by show items[j]? = _; simp [hj]) (by simp [show j < l.length by omega])⟩
/-- One item more behind a list of the call's own. -/
theorem Zatf {T e s1 b1 : Nat} {z1 : Option SV} {te : TI} {z : SV} (ht : Zbz ES.P T = some ⟨.slice e, s1, b1, z1⟩) (hte : Zbz ES.P e = some te) (hz : te.zero = some z) (h0 : 0 < te.size) (hsz : z.sto = true) (hc : z.cells.length = te.size)
    {o : SV} {M X : Mem} {items : List SV} {y : SV} (hI : Zg1 te.size o M items) (hy : y.cells.length = te.size) (hb : te.bytes ≤ 1000) (h1 : items.length ≤ 1000000) (hX : Old M X) (hn : M.next ≤ X.next) (A s t : Nat) (ht2 : t < A) (hst : s ≤ t) {get : Nat → Option (List SV)} (hg : ∀ id, id < X.next → get id = X.blk id) (hgs : get (X.next + s) = some [y]) :
    ∃ o' k M1, Zef ES.P get (X.next + t) T T o (.own (X.next + s) te.size 0 1) = some (o', k) ∧ ((X.bump A).set (X.next + s) (some [y])).sets k = M1 ∧ Zg1 te.size o' M1 (items ++ [y]) ∧ Keeps o X M1 ∧ M1.next = X.next + A ∧ (∀ id e a b, o' = .own id e a b → X.next ≤ id ∨ o' = o) := by
  have hmul : (items.length + 1) * te.bytes ≤ 140737488355328 := by
    have := Nat.mul_le_mul (show items.length + 1 ≤ 1000001 by omega) hb
    omega
  obtain ⟨o', k, p1, p2, p3, p4, p5⟩ := Zg1.Zas8 (P := ES.P) (te := te) (get := get) (o := o) (x := .own (X.next + s) te.size 0 1) (M := X) (items := items) (ys := [y]) (X := (X.bump A).set (X.next + s) (some [y])) (a := X.next + t) ht hte hz h0 hsz hc (hI.old hX hn) hmul (by show items.length + 1 ≤ _; omega)
    hg (by simp [Zkn, hgs]) (by simp [Zj0]) (by simp [Sh.Zv5, hy]) (fun id hid => by
      have e : ¬ id = X.next + s := by omega
      simp [e]) (by show X.next + t < X.next + A; omega) (by show X.next ≤ X.next + A; omega) (by omega)
  exact ⟨o', k, _, p1, rfl, p2, p3, by rw [p4]; rfl, p5⟩
theorem Zarn {T e s1 b1 : Nat} {z1 : Option SV} {te : TI} {z : SV} (ht : Zbz ES.P T = some ⟨.slice e, s1, b1, z1⟩) (hte : Zbz ES.P e = some te) (hz : te.zero = some z) (h0 : 0 < te.size) (hsz : z.sto = true) (hc : z.cells.length = te.size)
    {o : SV} {M X : Mem} {items : List SV} {y : SV} (hI : Zg1 te.size o M items) (hy : y.cells.length = te.size) (hb : te.bytes ≤ 1000) (h1 : items.length ≤ 1000000) (hX : Old M X) (hn : M.next ≤ X.next) (A s t : Nat) (ht2 : t < A) (hst : s ≤ t) :
    ∃ o' k M1, Zef ES.P ((X.bump A).set (X.next + s) (some [y])).blk (X.next + t) T T o (.own (X.next + s) te.size 0 1) = some (o', k) ∧ ((X.bump A).set (X.next + s) (some [y])).sets k = M1 ∧ Zg1 te.size o' M1 (items ++ [y]) ∧ Keeps o X M1 ∧ M1.next = X.next + A ∧ (∀ id e a b, o' = .own id e a b → X.next ≤ id ∨ o' = o) :=
  Zatf ht hte hz h0 hsz hc hI hy hb h1 hX hn A s t ht2 hst (fun id hid => by
      have e : ¬ id = X.next + s := by omega
      simp [e]) (by simp)
end Go.Proofs.YtfphjfbknphhjaaGreatDoor
