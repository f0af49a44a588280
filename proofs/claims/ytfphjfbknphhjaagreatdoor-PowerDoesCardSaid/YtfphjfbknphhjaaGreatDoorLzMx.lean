/-
  Walks of the seat's functions: Ql.
-/
import Derived.Test.YtfphjfbknphhjaaGreatDoorEb2
import Derived.Test.YtfphjfbknphhjaaGreatDoorShMb
import Derived.Test.YtfphjfbknphhjaaGreatDoorLzMw
import Derived.Test.YtfphjfbknphhjaaGreatDoorLQk
import Derived.Test.YtfphjfbknphhjaaGreatDoorLQp
set_option linter.unusedVariables false
set_option linter.unusedSimpArgs false
set_option maxRecDepth 100000
namespace Go.Proofs.YtfphjfbknphhjaaGreatDoor
open Go.Proofs.YtfphjfbknphhjaaGreatDoor.Sh
/-! The document's own Do. -/
theorem OwC.old {b : Nat} {M M' : Mem} {o : SV} {items : List SV} {cs : List Cel} (h : OwC b M o items cs) (ho : Old M M') (hn : M.next ≤ M'.next) : OwC b M' o items cs :=
  ⟨h.ho.old ho hn, h.go, h.ln, fun j y x hy hx => by
    obtain ⟨N, A, e1, e2, e3, e4, e5, e6⟩ := h.at' j y x hy hx
    exact ⟨N, A, e1, e2.keep (fun id e a q hh hid => ho id hid) hn, e3, e4, e5, e6⟩, h.ap⟩
/-- A node, as the document's own Do makes it. -/
def Z3t (c : Cfg) (now : Int) (e : Evt) (p k : Int) (n : Node) : Node := if Zxl c e p k then Zjm c n now e else n
structure RnI (b : Nat) (on : Bool) (st : Int) (A' : SV) (ns : List Node) (M1 M : Mem) (No : SV) : Prop where
  old : Old M1 M
  lt : b + 2 ≤ M.next
  lb : M1.next ≤ b
  hb : M.blk b = some [.agg [No, .bool on, .int .i64 st, A']]
  hs : NdsO M No ns
  ge : ∀ id e a q, No = .own id e a q → M1.next ≤ id ∧ id ≠ b
set_option maxHeartbeats 16000000 in
theorem Zav7 {P L : SV} {c : Cfg} (hP : Zi2 c P L) {e : Evt} {B : SV} (hB : Bytes B e.body) (hpB : Sh.pv B = true) (ht : Ze8 c e = true) {now : Int} (hw1 : I64 (now * c.cycle)) (hfn : (Zsf c && Znu now) = true) {m : Nat} {x : SV} {l : List Cel} (hx : Zv7 x l) (hs : Short l) (out : SV) {p : Nat} (hp : p < l.length)
    {b : Nat} {on : Bool} {st : Int} {A' : SV} (hA' : Ztp A' = true) {M1 M : Mem} (hm : M1.blk m = some [.agg (Z7 c P L)]) (hev : M1.blk (m + 1) = some [.agg (evC e B)]) (hlt : m + 2 ≤ M1.next) {k : Nat} (hk : k < l[p].nodes.length)
    (h : ∃ No, RnI b on st A' ((Zma c now e p l[p].nodes).take k) M1 M No) :
    ∃ M', evW ES Ze2 Zly ⟨Zkr x (.int .i64 now) (.ptr m 0 0) (.ptr (m + 1) 0 0) (.bool (Z1v e)) out (.int .i64 p) (.ptr b 0 0) (.int .i64 k), M⟩ = some (.normal, ⟨Zkr x (.int .i64 now) (.ptr m 0 0) (.ptr (m + 1) 0 0) (.bool (Z1v e)) out (.int .i64 p) (.ptr b 0 0) (.int .i64 ((k + 1 : Nat) : Int)), M'⟩) ∧
      ∃ No, RnI b on st A' ((Zma c now e p l[p].nodes).take (k + 1)) M1 M' No := by
  obtain ⟨No, h⟩ := h
  obtain ⟨s1, s2, s3⟩ := hs.2 l[p] (List.getElem_mem hp)
  have hw : IntKind.i64.wrap ((k : Int) + 1) = (k : Int) + 1 := i64_in (by omega) (by omega)
  obtain ⟨y, ⟨N, A, rfl, hN, hA, q1, q2⟩, hy, ha, _⟩ := hx.item Zav Zde Zwy hp
  have hln := hN.Zex Zae
  obtain ⟨u, ⟨Bn, rfl, hBn, hpBn⟩, hu, hui, _⟩ := hN.item Zae Zb8 Zty hk
  have hag := s3 _ (List.getElem_mem hk)
  obtain ⟨B', b1, b2, b3⟩ := Z6o hBn hag
  have kme := fun get => Zadl get hP (ey := .agg (evC e B)) ⟨B, rfl, hB, hpB⟩ ht p k
  obtain ⟨yt, t1, t2⟩ := Zab8 hP b2 b3 hag hw1 hfn (Z1v e)
  have hnat : (Zma c now e p l[p].nodes)[k]? = some (Z3t c now e p k l[p].nodes[k]) := by
    rw [Zzh hk]; rfl
  have hkl : k < (Zma c now e p l[p].nodes).length := by rw [Zk1]; exact hk
  have htk : (Zma c now e p l[p].nodes).take (k + 1) = (Zma c now e p l[p].nodes).take k ++ [Z3t c now e p k l[p].nodes[k]] := by
    rw [List.take_succ_eq_append_getElem hkl]
    rw [List.getElem?_eq_getElem hkl] at hnat
    rw [Option.some.inj hnat]
  rw [htk]
  have hlk : (Z7 c P L).length = 13 := rfl
  have hmb := (h.old m (by omega)).trans hm
  have heb := (h.old (m + 1) (by omega)).trans hev
  have hbb := h.hb
  have hb1 := h.lt
  have hb2 := h.lb
  obtain ⟨ns, ho, hr⟩ := h.hs
  have hnl : ns.length ≤ 1000000 := by
    have e : ns.length = _ := hr.len
    rw [List.length_take, Zk1] at e
    omega
  generalize hn : l[p].nodes[k] = n at *
  generalize Z7 c P L = K at *
  -- what is gathered, whatever the node is
  have fin : ∀ (yn : SV), NdR yn (Z3t c now e p k n) → ∃ o' kl M4, Zef ES.P ((((M.bump 10).set (M.next + 8) (some [yn])).bump 7).set (M.next + 10 + 3) (some [yn])).blk (M.next + 10 + 4) Zj Zj No (.own (M.next + 10 + 3) 8 0 1) = some (o', kl) ∧ ((((M.bump 10).set (M.next + 8) (some [yn])).bump 7).set (M.next + 10 + 3) (some [yn])).sets kl = M4 ∧
      M4.blk b = some [.agg [No, .bool on, .int .i64 st, A']] ∧ (Ztp o' = true ∨ ∃ id e u q, o' = .own id e u q) ∧ RnI b on st A' ((Zma c now e p l[p].nodes).take k ++ [Z3t c now e p k n]) M1 (M4.set b (some [.agg [o', .bool on, .int .i64 st, A']])) o' := fun yn hyn => by
    obtain ⟨cl, _, _⟩ := hyn.cells
    obtain ⟨o', kl, M4, p1, p2, p3, p4, p5, p6⟩ := Zarn (T := Zj) (te := ⟨.struct [(Zc, 0), (Zc, 1), (Zc, 2), (Zp, 3), (Zp, 4), (Zv, 5), (Zc, 6), (Zc, 7)], 8, 80, some (.agg [.int .i64 0, .int .i64 0, .int .i64 0, .int .i64 0, .int .i64 0, .nilsl, .int .i64 0, .int .i64 0])⟩) (y := yn) (M := M) (X := (M.bump 10).set (M.next + 8) (some [yn])) Zae Zb8 rfl (by decide) rfl rfl ho cl (by decide) hnl (fun id hid => by
      have e : ¬ id = M.next + 8 := by omega
      simp [e]) (by show M.next ≤ M.next + 10; omega) 7 3 4 (by omega) (by omega)
    have en : ((M.bump 10).set (M.next + 8) (some [yn])).next = M.next + 10 := rfl
    rw [en] at p1 p2 p5 p6
    have nob : ∀ e a q, No ≠ .own b e a q := fun e a q hh => (h.ge b e a q hh).2 rfl
    have k1 : ∀ id, id < M.next → (∀ e a q, No ≠ .own id e a q) → M4.blk id = M.blk id := fun id hid hne => by
      rw [p4 id (by rw [en]; omega) hne]
      have e : ¬ id = M.next + 8 := by omega
      simp [e]
    refine ⟨o', kl, M4, p1, p2, (k1 b (by omega) nob).trans hbb, ?_, ⟨fun id hid => ?_, by show b + 2 ≤ M4.next; omega, hb2, by simp, ⟨ns ++ [yn], ?_, RSl.snoc hr hyn⟩, fun id e a q hh => ?_⟩⟩
    · rcases p3 with ⟨_, e⟩ | ⟨q, e, _⟩
      · exact .inl (by rw [e]; rfl)
      · exact .inr ⟨_, _, _, _, e⟩
    · have e : ¬ id = b := by omega
      simp only [Mem.Ziy, if_neg e]
      rw [k1 id (by omega) (fun e a q hh => by have := (h.ge id e a q hh).1; omega)]
      exact h.old id hid
    · rcases p3 with ⟨e1, e2⟩ | ⟨q, e1, e2, e3⟩
      · exact .inl ⟨e1, e2⟩
      · have : q ≠ b := by
          rcases p6 q 8 0 _ e1 with h1 | h1
          · omega
          · exact fun hh => nob _ _ _ (hh ▸ (h1 ▸ e1))
        exact .inr ⟨q, e1, by simp [this, e2], e3⟩
    · rcases p6 id e a q hh with h1 | h1
      · exact ⟨by omega, by omega⟩
      · exact h.ge id e a q (h1 ▸ hh)
  have bs : ∀ (q : Nat) (yn : SV), yn.cells.length = 8 → yn.sto = true → Zf7 ES.P Zj 1 q [(0, yn)] = some (.own q 8 0 1, [yn]) := fun q yn h1 h2 => by simp [Zf7, Zb4, h1, h2]
  have hNo : No.cells = [No] ∧ No.sto = true := by rcases ho with ⟨_, e⟩ | ⟨q, e, _⟩ <;> rw [e] <;> exact ⟨rfl, rfl⟩
  have d1 : ¬ m = M.next + 8 := by omega
  have d2 : ¬ m + 1 = M.next + 8 := by omega
  have d3 : ¬ b = M.next + 8 := by omega
  have d4 : ¬ m = M.next + 7 := by omega
  have d5 : ¬ b = M.next + 10 + 3 := by omega
  have d6 : ¬ b = M.next + 13 := by omega
  have cA := Zz hA'
  have sA := Zax hA'
  have cB := Zz hBn.sl
  have sB := Zax hBn.sl
  have cB' := Zz b2.sl
  have sB' := Zax b2.sl
  have cE := Zz hB.sl
  have sE := Zax hB.sl
  simp only [clC] at hy
  cases hme : Zxl c e p k with
  | false =>
    rw [hme] at kme
    have hD : Z3t c now e p k n = n := by simp [Z3t, hme]
    rw [hD] at fin ⊢
    obtain ⟨o', kl, M4, p1, p2, p3, p4, p5⟩ := fin (.agg (ndC n B')) ⟨B', rfl, b2, b3⟩
    have ho' : o'.cells = [o'] ∧ o'.sto = true := by
      rcases p4 with h1 | ⟨_, _, _, _, h1⟩
      · exact ⟨Zz h1, Zax h1⟩
      · rw [h1]; exact ⟨rfl, rfl⟩
    refine ⟨_, ?_, _, p5⟩
    have bs1 := bs (M.next + 10 + 3) (.agg (ndC n B')) rfl rfl
    simp only [ndC, evC] at hu p1 p2 kme heb bs1 ⊢
    simp (maxSteps := 4000000) [Zly, Zf, Zd, Ze, Zl, Zn, Zo, TK.agg, Zb, zeroS, Zi, Zg, splice, Zx, Z5, Zk, Zkr, ha, hy, hln, hk, hui, hu, b1, kme, hmb, heb, hbb, hlk, bs1, p1, p2, p3, hw, d1, d2, d3, d4, d5, d6, hNo.1, hNo.2, ho'.1, ho'.2, cA, sA, cB, sB, cB', sB', cE, sE]
  | true =>
    rw [hme] at kme
    by_cases c1 : e.kind = 1
    · have hD : Z3t c now e p k n = { n with drift := e.v } := by simp [Z3t, hme, Zjm, c1]
      rw [hD] at fin ⊢
      obtain ⟨o', kl, M4, p1, p2, p3, p4, p5⟩ := fin (.agg (ndC { n with drift := e.v } B')) ⟨B', rfl, b2, b3⟩
      have ho' : o'.cells = [o'] ∧ o'.sto = true := by
        rcases p4 with h1 | ⟨_, _, _, _, h1⟩
        · exact ⟨Zz h1, Zax h1⟩
        · rw [h1]; exact ⟨rfl, rfl⟩
      refine ⟨_, ?_, _, p5⟩
      have bs1 := bs (M.next + 10 + 3) (.agg (ndC { n with drift := e.v } B')) rfl rfl
      simp only [ndC, evC, c1] at hu p1 p2 kme heb bs1 ⊢
      simp (maxSteps := 4000000) [Zly, Zf, Zd, Ze, Zl, Zn, Zo, TK.agg, Zb, zeroS, Zi, Zg, splice, Zx, Z5, Zk, Zkr, ha, hy, hln, hk, hui, hu, b1, kme, hmb, heb, hbb, hlk, bs1, p1, p2, p3, hw, d1, d2, d3, d4, d5, d6, hNo.1, hNo.2, ho'.1, ho'.2, cA, sA, cB, sB, cB', sB', cE, sE]
    · have hD : Z3t c now e p k n = if Z1v e then onN c n now else Z2p n := by simp [Z3t, hme, Zjm, c1]
      rw [hD] at fin ⊢
      obtain ⟨o', kl, M4, p1, p2, p3, p4, p5⟩ := fin yt t2
      have ho' : o'.cells = [o'] ∧ o'.sto = true := by
        rcases p4 with h1 | ⟨_, _, _, _, h1⟩
        · exact ⟨Zz h1, Zax h1⟩
        · rw [h1]; exact ⟨rfl, rfl⟩
      refine ⟨_, ?_, _, p5⟩
      obtain ⟨y1, y2, cs, rfl, y3⟩ := t2.cells
      have bs1 := bs (M.next + 10 + 3) (.agg cs) y1 y2
      simp only [ndC, evC] at hu kme t1 heb bs1 ⊢
      simp (maxSteps := 4000000) [Zly, Zf, Zd, Ze, Zl, Zn, Zo, TK.agg, Zb, zeroS, Zi, Zg, splice, Zx, Z5, Zk, Zkr, ha, hy, hln, hk, hui, hu, b1, kme, t1, hmb, heb, hbb, hlk, bs1, p1, p2, p3, hw, c1, y3, d1, d2, d3, d4, d5, d6, hNo.1, hNo.2, ho'.1, ho'.2, cA, sA, cB, sB, cB', sB', cE, sE]
set_option maxHeartbeats 16000000 in
theorem Zavy {P L : SV} {c : Cfg} (hP : Zi2 c P L) {e : Evt} {B : SV} (hB : Bytes B e.body) (hpB : Sh.pv B = true) (ht : Ze8 c e = true) {now : Int} (hw1 : I64 (now * c.cycle)) (hfn : (Zsf c && Znu now) = true) {m : Nat} {x : SV} {l : List Cel} (hx : Zv7 x l) (hs : Short l) {o : SV} {items : List SV} {M : Mem} {p : Nat} (hp : p < l.length)
    (h : DoI (Z7 c P L) (.agg (evC e B)) m o items ((doL c l now e).take p) M) :
    ∃ M' o' items', evW ES Ze2 Zqa ⟨Znj x (.int .i64 now) (.ptr m 0 0) (.ptr (m + 1) 0 0) (.bool (Z1v e)) o (.int .i64 p), M⟩ = some (.normal, ⟨Znj x (.int .i64 now) (.ptr m 0 0) (.ptr (m + 1) 0 0) (.bool (Z1v e)) o' (.int .i64 ((p + 1 : Nat) : Int)), M'⟩) ∧ DoI (Z7 c P L) (.agg (evC e B)) m o' items' ((doL c l now e).take (p + 1)) M' := by
  have hl1 := hs.1
  obtain ⟨s1, s2, s3⟩ := hs.2 l[p] (List.getElem_mem hp)
  have hw : IntKind.i64.wrap ((p : Int) + 1) = (p : Int) + 1 := i64_in (by omega) (by omega)
  obtain ⟨y, ⟨N, A, rfl, hN, hA, q1, q2⟩, hy, ha, _⟩ := hx.item Zav Zde Zwy hp
  have hln := hN.Zex Zae
  obtain ⟨A', a1, a2, a3⟩ := Z6o hA s2
  have hlt := h.lt
  have hc := h.hc
  have he := h.he
  have dpl : p < (doL c l now e).length := by rw [Zr9]; exact hp
  have hdo : (doL c l now e)[p] = { l[p] with nodes := Zma c now e p l[p].nodes } := by
    have := Zal7 (c := c) (now := now) (e := e) hp
    rw [List.getElem?_eq_getElem dpl] at this
    exact Option.some.inj this
  rw [List.take_succ_eq_append_getElem dpl, hdo]
  have step := fun {M' : Mem} {k : Nat} (hk : k < l[p].nodes.length) (hI : ∃ No, RnI (M.next + 6) l[p].on l[p].start A' ((Zma c now e p l[p].nodes).take k) M M' No) => Zav7 hP hB hpB ht hw1 hfn hx hs o hp a2.sl hc he (by omega) hk hI
  have hlk : (Z7 c P L).length = 13 := rfl
  generalize Z7 c P L = K at *
  obtain ⟨r, g1, Ma, No, rfl, hI⟩ := Zke (E := ES) (me := Ze2) (B := Zly) (len := l[p].nodes.length) (T := fun k => Zkr x (.int .i64 now) (.ptr m 0 0) (.ptr (m + 1) 0 0) (.bool (Z1v e)) o (.int .i64 p) (.ptr (M.next + 6) 0 0) (.int .i64 k)) (I := fun k M' => ∃ No, RnI (M.next + 6) l[p].on l[p].start A' ((Zma c now e p l[p].nodes).take k) M M' No)
    (Q := fun r => ∃ M' No, r = (.exit 2, ⟨(Zkr x (.int .i64 now) (.ptr m 0 0) (.ptr (m + 1) 0 0) (.bool (Z1v e)) o (.int .i64 p) (.ptr (M.next + 6) 0 0) (.int .i64 l[p].nodes.length)).set 108 (.bool false), M'⟩) ∧ RnI (M.next + 6) l[p].on l[p].start A' (Zma c now e p l[p].nodes) M M' No)
    (fun k M' hk hI => .inl (step hk hI))
    (fun M' ⟨No, hI⟩ => by
      rw [List.take_of_length_le (by rw [Zk1]; exact Nat.le_refl _)] at hI
      simp only [clC] at hy
      exact ⟨_, by simp [Zly, Zf, Zd, Ze, Zl, Zn, Zo, TK.agg, Zb, zeroS, Zi, Zg, splice, Zx, Z5, Zk, Zkr, ha, hy, hln], by simp, M', No, rfl, hI⟩) 0 ((M.bump 8).set (M.next + 6) (some [.agg [.nilsl, .bool l[p].on, .int .i64 l[p].start, A']])) (by omega)
    ⟨.nilsl, fun id hid => by
      have e : ¬ id = M.next + 6 := by omega
      simp [e], by show M.next + 6 + 2 ≤ M.next + 8; omega, by omega, by simp, ⟨[], .inl ⟨rfl, rfl⟩, by simp [RSl.nil']⟩, fun _ _ _ _ h => (by cases h)⟩
  simp [Zkr] at g1
  have hbb := hI.hb
  have hlt2 := hI.lt
  have hit : items.length ≤ 1000000 := by
    have := h.ow.ln
    rw [List.length_take, Zr9] at this
    omega
  obtain ⟨o', k, M4, p1, p2, p3, p4, p5⟩ := h.ow.app (M2 := Ma.bump 5) (fun id hid => by simp [hI.old id hid]) (by omega) (s := Ma.next + 2) (a := Ma.next + 3) (by omega) (by omega) (by show Ma.next + 3 < Ma.next + 5; omega) (by omega) (x := { l[p] with nodes := Zma c now e p l[p].nodes }) (N := No) (Ag := A') (hI.hs.keep (fun _ _ _ _ _ _ => rfl) (by show Ma.next ≤ Ma.next + 5; omega)) (fun id e' u q hh => by
      have h1 := (hI.ge id e' u q hh).1
      obtain ⟨ns, ho, _⟩ := hI.hs
      rcases ho with ⟨_, e2⟩ | ⟨q', e2, _, h9⟩
      · rw [e2] at hh; cases hh
      · rw [e2] at hh; cases hh; exact ⟨h1, by omega, by omega⟩) a2 a3 hit
  have hNo : No.cells = [No] ∧ No.sto = true := by
    obtain ⟨ns, ho, _⟩ := hI.hs
    rcases ho with ⟨_, e2⟩ | ⟨q', e2, _⟩ <;> rw [e2] <;> exact ⟨rfl, rfl⟩
  have bs : ∀ (q : Nat), Zf7 ES.P Zt 1 q [(0, .agg [No, .bool l[p].on, .int .i64 l[p].start, A'])] = some (.own q 4 0 1, [.agg [No, .bool l[p].on, .int .i64 l[p].start, A']]) := fun q => by simp [Zf7, Zb4]
  refine ⟨M4, o', items ++ [.agg (clC { l[p] with nodes := Zma c now e p l[p].nodes } No A')], ?_, ⟨(p5 m (by omega)).trans hc, (p5 (m + 1) (by omega)).trans he, by rw [p4]; show m + 4 ≤ Ma.next + 5; omega, p3⟩⟩
  simp only [clC] at hy p1 p2
  simp (maxSteps := 4000000) [Zqa, Zf, Zd, Ze, Zl, Zn, Zo, TK.agg, Zb, zeroS, Zi, Zg, splice, Zx, Z5, Zk, Znj, Mem.set2, hp, ha, hy, hx.Zex Zav, Zny, placesOf, Zeb, a1, Z1p, g1, hbb, bs, p1, p2, hw, hNo.1, hNo.2, Zz hA.sl, Zax hA.sl, Zz a2.sl, Zax a2.sl]
set_option maxHeartbeats 16000000 in
theorem Zagb {P L : SV} {c : Cfg} (hP : Zi2 c P L) {x : SV} {l : List Cel} (hx : Zv7 x l) (hpx : Sh.pv x = true) (hs : Short l) (now : Int) {e : Evt} {ey : SV} (hey : EvR ey e) :
    ∃ z, (∀ get, Za0 (PCw ES) get Ze2 [.agg (Z7 c P L), x, .int .i64 now, ey] = some (.tup [z, .int .i64 (doG c l now e).2])) ∧ Zv7 z (doG c l now e).1 ∧ Sh.pv z = true := by
  have hpe := hey.pv
  have kth := fun get => Zad4 get hP hey
  have kfit := fun get => Zyr get hP 0
  have hlx := hx.Zex Zav
  have hnK := hP.npA
  have hfit0 : (Zsf c && decide (Zam (0 : Int) c.parts.length)) = Zsf c := by
    cases hf : Zsf c with
    | false => rfl
    | true =>
      have := Zgp (Zec.1 hf).1
      have : Zam (0 : Int) c.parts.length := by unfold Zam; omega
      simp [this]
  rw [hfit0] at kfit
  have kr := fun (hf : Zsf c = true) get => Zaey get hP hf hx hpx hs
  have run : ∀ (n : Int) (cs : List Cel), (∀ M, ∃ o M' b items, ICw ES Ze2 [.agg (Z7 c P L), x, .int .i64 now, ey] M = some (.tup [o, .int .i64 n], M') ∧ OwC b M' o items cs) → ∃ z, (∀ get, Za0 (PCw ES) get Ze2 [.agg (Z7 c P L), x, .int .i64 now, ey] = some (.tup [z, .int .i64 n])) ∧ Zv7 z cs ∧ Sh.pv z = true := fun n cs h => by
    obtain ⟨z, z1, z2, z3⟩ := Zaap h
    exact ⟨z, fun get => Z4 z1 (by simp [hnK, Zac hpe, Zac hpx]), z2, z3⟩
  obtain ⟨B, rfl, hB, hpB⟩ := hey
  have hbC := Zz hB.sl
  have hbS := Zax hB.sl
  have step := fun (ht : Ze8 c e = true) (hw1 : I64 (now * c.cycle)) (hfn : (Zsf c && Znu now) = true) {o : SV} {items : List SV} {m : Nat} {M : Mem} {p : Nat} (hp : p < l.length) => @Zavy P L c hP e B hB hpB ht now hw1 hfn m x l hx hs o items M p hp
  have hlk : (Z7 c P L).length = 13 := rfl
  have hK6 : (Z7 c P L)[6]? = some (.int .i64 c.drift) := rfl
  generalize Z7 c P L = K at *
  have h6 : K[6]'(by omega) = .int .i64 c.drift := by simpa [hlk] using hK6
  have no : (Zxt c l now e && Ze8 c e) = false → (∀ M, ∃ M', ICw ES Ze2 [.agg K, x, .int .i64 now, .agg (evC e B)] M = some (.tup [.nilsl, .int .i64 1], M')) → ∃ z, (∀ get, Za0 (PCw ES) get Ze2 [.agg K, x, .int .i64 now, .agg (evC e B)] = some (.tup [z, .int .i64 (doG c l now e).2])) ∧ Zv7 z (doG c l now e).1 ∧ Sh.pv z = true := fun h1 h2 => by
    rw [Zafq h1]
    exact run 1 [] (fun M => by
      obtain ⟨M', hM⟩ := h2 M
      exact ⟨_, M', 0, [], hM, OwC.nil 0 M'⟩)
  cases hf : Zsf c with
  | false =>
    rw [hf] at kfit
    refine no (by simp [Zxt, hf]) (fun M => ?_)
    rw [Zo5]
    simp (maxSteps := 4000000) [Zh6, Zf, Zd, Ze, Zl, Zn, Zo, TK.agg, Zb, zeroS, Zi, Zg, splice, Zx, Z5, Zk, evC, hlk, kfit, hbC, hbS]
  | true =>
  rw [hf] at kfit
  have kr := kr hf
  have hir := Zg7 (Zec.1 hf).2.1
  have hwd : IntKind.i64.wrap (0 - c.drift) = -c.drift := by rw [show (0 : Int) - c.drift = -c.drift by omega]; exact i64_in (by have := hir.dr; omega) (by have := hir.dr; omega)
  have hwd2 : IntKind.i64.wrap (-c.drift) = -c.drift := i64_in (by have := hir.dr; omega) (by have := hir.dr; omega)
  by_cases c1 : now < 0
  · have : Znu now = false := by simp [Znu]; omega
    refine no (by simp [Zxt, this]) (fun M => ?_)
    rw [Zo5]
    simp (maxSteps := 4000000) [Zh6, Zf, Zd, Ze, Zl, Zn, Zo, TK.agg, Zb, zeroS, Zi, Zg, splice, Zx, Z5, Zk, evC, hlk, kfit, c1, hbC, hbS]
  by_cases c2 : 1000 < now
  · have : Znu now = false := by simp [Znu]; omega
    refine no (by simp [Zxt, this]) (fun M => ?_)
    rw [Zo5]
    simp (maxSteps := 4000000) [Zh6, Zf, Zd, Ze, Zl, Zn, Zo, TK.agg, Zb, zeroS, Zi, Zg, splice, Zx, Z5, Zk, evC, hlk, kfit, c1, c2, hbC, hbS]
  have hnow : Znu now = true := by simp [Znu]; omega
  cases hcl : Zjn c l with
  | false =>
    rw [hcl] at kr
    refine no (by simp [Zxt, hcl]) (fun M => ?_)
    rw [Zo5]
    simp (maxSteps := 4000000) [Zh6, Zf, Zd, Ze, Zl, Zn, Zo, TK.agg, Zb, zeroS, Zi, Zg, splice, Zx, Z5, Zk, evC, hlk, kfit, c1, c2, kr, hbC, hbS]
  | true =>
  rw [hcl] at kr
  by_cases c3 : e.kind < 1
  · have : ¬ (1 ≤ e.kind ∧ e.kind ≤ 7) := by omega
    refine no (by simp [Zxt, this]) (fun M => ?_)
    rw [Zo5]
    simp (maxSteps := 4000000) [Zh6, Zf, Zd, Ze, Zl, Zn, Zo, TK.agg, Zb, zeroS, Zi, Zg, splice, Zx, Z5, Zk, evC, hlk, kfit, c1, c2, c3, kr, hbC, hbS]
  by_cases c4 : 7 < e.kind
  · have : ¬ (1 ≤ e.kind ∧ e.kind ≤ 7) := by omega
    refine no (by simp [Zxt, this]) (fun M => ?_)
    rw [Zo5]
    simp (maxSteps := 4000000) [Zh6, Zf, Zd, Ze, Zl, Zn, Zo, TK.agg, Zb, zeroS, Zi, Zg, splice, Zx, Z5, Zk, evC, hlk, kfit, c1, c2, c3, c4, kr, hbC, hbS]
  have hkk : 1 ≤ e.kind ∧ e.kind ≤ 7 := by omega
  cases ht : Ze8 c e with
  | false =>
    rw [ht] at kth
    refine no (by simp [ht]) (fun M => ?_)
    rw [Zo5]
    simp only [evC] at kth ⊢
    simp (maxSteps := 4000000) [Zh6, Zf, Zd, Ze, Zl, Zn, Zo, TK.agg, Zb, zeroS, Zi, Zg, splice, Zx, Z5, Zk, hlk, kfit, c1, c2, c3, c4, kr, kth, hbC, hbS]
  | true =>
  rw [ht] at kth
  by_cases c5 : e.kind = 1 ∧ (e.v < -c.drift ∨ c.drift < e.v)
  · have : Zxt c l now e = false := by
      have h1 : ¬ (-c.drift ≤ e.v ∧ e.v ≤ c.drift) := by omega
      simp [Zxt, c5.1, h1]
    refine no (by simp [this]) (fun M => ?_)
    rw [Zo5]
    simp only [evC] at kth ⊢
    by_cases c6 : e.v < -c.drift
    · rw [c5.1] at kth ⊢
      simp (maxSteps := 4000000) [Zh6, Zf, Zd, Ze, Zl, Zn, Zo, TK.agg, Zb, zeroS, Zi, Zg, splice, Zx, Z5, Zk, hlk, h6, hwd, hwd2, kfit, c1, c2, c6, kr, kth, hbC, hbS]
    · have c7 : c.drift < e.v := by omega
      rw [c5.1] at kth ⊢
      simp (maxSteps := 4000000) [Zh6, Zf, Zd, Ze, Zl, Zn, Zo, TK.agg, Zb, zeroS, Zi, Zg, splice, Zx, Z5, Zk, hlk, h6, hwd, hwd2, kfit, c1, c2, c6, c7, kr, kth, hbC, hbS]
  have hmay : Zxt c l now e = true := by
    simp only [Zxt, hf, hnow, hcl, hkk, Bool.true_and, and_self, decide_true]
    by_cases h1 : e.kind = 1
    · have : -c.drift ≤ e.v ∧ e.v ≤ c.drift := by omega
      simp [this]
    · simp [h1]
  rw [Zalg hmay ht]
  refine run 0 _ (fun M => ?_)
  have hw1 : I64 (now * c.cycle) := by
    have hcy := hir.cy
    have h1 : 0 ≤ now * c.cycle := Int.mul_nonneg (by omega) (by omega)
    have h2 : now * c.cycle ≤ 1000 * 1000000 := Int.mul_le_mul (by omega) hcy.2 (by omega) (by decide)
    unfold I64
    omega
  obtain ⟨r1, g1, Ma, o, items, rfl, hI⟩ := Zr0 (E := ES) (me := Ze2) (B := Zqa) (β := SV × List SV) (len := l.length) (T := fun j o => Znj x (.int .i64 now) (.ptr M.next 0 0) (.ptr (M.next + 1) 0 0) (.bool (Z1v e)) o.1 (.int .i64 j))
    (I := fun j o M' => DoI K (.agg (evC e B)) M.next o.1 o.2 ((doL c l now e).take j) M')
    (Q := fun r => ∃ M' o items, r = (.exit 0, ⟨(Znj x (.int .i64 now) (.ptr M.next 0 0) (.ptr (M.next + 1) 0 0) (.bool (Z1v e)) o (.int .i64 l.length)).set 83 (.bool false), M'⟩) ∧ DoI K (.agg (evC e B)) M.next o items (doL c l now e) M')
    (fun j o M' hj hI => by
      left
      obtain ⟨M2, o', items', q1, q2⟩ := step ht hw1 (by rw [hf, hnow]; rfl) hj hI
      exact ⟨(o', items'), M2, q1, q2⟩)
    (fun o M' hI => by
      rw [List.take_of_length_le (by rw [Zr9]; exact Nat.le_refl _)] at hI
      exact ⟨_, by simp [Zqa, Zf, Zd, Ze, Zl, TK.agg, zeroS, Zx, Z5, Znj, hlx], by simp, M', o.1, o.2, rfl, hI⟩) 0 (.nilsl, []) (((M.bump 4).set M.next (some [.agg K])).set (M.next + 1) (some [.agg (evC e B)])) (by omega)
    ⟨by simp, by simp, by show M.next + 4 ≤ M.next + 4; omega, by simpa using OwC.nil _ _⟩
  simp [Znj] at g1
  refine ⟨o, Ma, _, items, ?_, hI.ow⟩
  rw [Zo5]
  simp only [evC] at kth g1 ⊢
  by_cases k1 : e.kind = 1
  · have n1 : ¬ e.v < -c.drift := fun h => c5 ⟨k1, .inl h⟩
    have n2 : ¬ c.drift < e.v := fun h => c5 ⟨k1, .inr h⟩
    have hon : Z1v e = false := by simp [Z1v, k1]
    rw [hon] at g1
    rw [k1] at kth g1 ⊢
    simp (maxSteps := 4000000) [Zh6, Zf, Zd, Ze, Zl, Zn, Zo, TK.agg, Zb, zeroS, Zi, Zg, splice, Zx, Z5, Zk, hlk, h6, hwd, hwd2, kfit, c1, c2, kr, kth, n1, n2, Znk, g1, hbC, hbS]
  · by_cases k2 : e.kind = 2
    · have hon : Z1v e = true := by simp [Z1v, k2]
      rw [hon] at g1
      rw [k2] at kth g1 ⊢
      simp (maxSteps := 4000000) [Zh6, Zf, Zd, Ze, Zl, Zn, Zo, TK.agg, Zb, zeroS, Zi, Zg, splice, Zx, Z5, Zk, hlk, kfit, c1, c2, kr, kth, Znk, g1, hbC, hbS]
    by_cases k3 : e.kind = 5
    · have hon : Z1v e = true := by simp [Z1v, k3]
      rw [hon] at g1
      rw [k3] at kth g1 ⊢
      simp (maxSteps := 4000000) [Zh6, Zf, Zd, Ze, Zl, Zn, Zo, TK.agg, Zb, zeroS, Zi, Zg, splice, Zx, Z5, Zk, hlk, kfit, c1, c2, kr, kth, Znk, g1, hbC, hbS]
    by_cases k4 : e.kind = 7
    · have hon : Z1v e = true := by simp [Z1v, k4]
      rw [hon] at g1
      rw [k4] at kth g1 ⊢
      simp (maxSteps := 4000000) [Zh6, Zf, Zd, Ze, Zl, Zn, Zo, TK.agg, Zb, zeroS, Zi, Zg, splice, Zx, Z5, Zk, hlk, kfit, c1, c2, kr, kth, Znk, g1, hbC, hbS]
    have hon : Z1v e = false := by simp [Z1v, k2, k3, k4]
    rw [hon] at g1
    simp (maxSteps := 4000000) [Zh6, Zf, Zd, Ze, Zl, Zn, Zo, TK.agg, Zb, zeroS, Zi, Zg, splice, Zx, Z5, Zk, hlk, kfit, c1, c2, c3, c4, kr, kth, k1, k2, k3, k4, Znk, g1, hbC, hbS]

end Go.Proofs.YtfphjfbknphhjaaGreatDoor

/-
  Walks of the seat's functions: Qm.
-/
set_option linter.unusedVariables false
set_option linter.unusedSimpArgs false
set_option maxRecDepth 100000
namespace Go.Proofs.YtfphjfbknphhjaaGreatDoor
open Go.Proofs.YtfphjfbknphhjaaGreatDoor.Sh
/-! Chapter 24: its cells, its example; the laws PowerTells and PowerRaw. -/
theorem Zaqt {l : List Cel} (h : Z1n l = true) : Short l := by
  simp only [Z1n, Bool.and_eq_true, decide_eq_true_eq, Bool.not_eq_true', List.any_eq_false] at h
  refine ⟨by omega, fun x hx => ?_⟩
  have h1 := h.2 x hx
  simp only [bigC, Bool.or_eq_true, not_or, decide_eq_true_eq, List.any_eq_true, not_exists, not_and] at h1
  obtain ⟨⟨h2, h3⟩, h4⟩ := h1
  refine ⟨by omega, by omega, fun n hn => ?_⟩
  have := h4 n hn
  simp only [Z07, decide_eq_true_eq] at this
  omega
theorem Zab5 {c : Cfg} {n : Node} {now : Int} {e : Evt} {K : Nat} (h : n.ages.length ≤ K) : (Zjm c n now e).ages.length ≤ K := by
  unfold Zjm onN Z2p
  split
  · exact h
  · split
    · split
      · simp
      · exact h
    · simp
theorem Zaal {c : Cfg} {l : List Cel} (h : Short l) (now : Int) (e : Evt) : Short (doG c l now e).1 := by
  rcases Z1k c l now e with ⟨h1, _⟩ | h1
  · rw [h1]
    refine ⟨by rw [Zr9]; exact h.1, fun x hx => ?_⟩
    obtain ⟨p, hp, rfl⟩ := List.mem_iff_getElem.1 hx
    rw [Zr9] at hp
    have e1 := Zal7 (c := c) (now := now) (e := e) hp
    rw [List.getElem?_eq_getElem (by rw [Zr9]; exact hp)] at e1
    rw [Option.some.inj e1]
    obtain ⟨s1, s2, s3⟩ := h.2 l[p] (List.getElem_mem hp)
    refine ⟨by rw [Zk1]; exact s1, s2, fun n hn => ?_⟩
    obtain ⟨k, hk, rfl⟩ := List.mem_iff_getElem.1 hn
    rw [Zk1] at hk
    have e2 := Zzh (c := c) (now := now) (e := e) (p := p) hk
    rw [List.getElem?_eq_getElem (by rw [Zk1]; exact hk)] at e2
    rw [Option.some.inj e2]
    have := s3 _ (List.getElem_mem hk)
    split
    · exact Zab5 this
    · exact this
  · rw [h1]
    exact ⟨by simp, fun x hx => by simp at hx⟩
theorem Zae1 {c : Cfg} (hr : Zcq c = true) {l : List Cel} (h : Zjn c l = true) : Short l := by
  have hrf := Zgp hr
  obtain ⟨h1, h2⟩ := Zrc.1 h
  refine ⟨by omega, fun x hx => ?_⟩
  obtain ⟨p, hp, rfl⟩ := List.mem_iff_getElem.1 hx
  obtain ⟨f1, f2, f3, f4⟩ := Zsx.1 (h2 p hp (by omega))
  have hnb := Zks (Ze5 (by simpa [Zcq] using hr)) p
  have hna := Zk2 (c := c) (p := p) (by omega)
  have := Zagp f4
  refine ⟨by omega, by omega, fun n hn => ?_⟩
  have := Zag3 (f2 n hn)
  omega
structure C24I (K : List SV) (c : Cfg) (m : Nat) (o : SV) (items : List SV) (cs : List Cel) (M : Mem) : Prop where
  hc : M.blk m = some [.agg K]
  lt : m + 2 ≤ M.next
  ow : OwC (m + 2) M o items cs
  fine : ∀ (j : Nat) (hj : j < cs.length) (hp : j < c.parts.length), Zvc c c.parts[j].nodes cs[j] = true
set_option maxHeartbeats 16000000 in
theorem Zai5 {P L : SV} {c : Cfg} (hP : Zi2 c P L) (hfit : Zsf c = true) {xl : SV} {l : List Cel} (hx : Zv7 xl l) (hsm : ∀ x ∈ l, x.nodes.length ≤ 1000) {m : Nat} {o : SV} {items : List SV} {cs : List Cel} {M : Mem} {i : Nat} (hi : i < c.parts.length) (h : C24I (Z7 c P L) c m o items cs M) (hl : cs.length = i) :
    ∃ M' o' items' cs', evW ES Ze7 Zjb ⟨Zhd xl (.ptr m 0 0) o (.int .i64 i), M⟩ = some (.normal, ⟨Zhd xl (.ptr m 0 0) o' (.int .i64 ((i + 1 : Nat) : Int)), M'⟩) ∧ C24I (Z7 c P L) c m o' items' cs' M' ∧ cs'.length = i + 1 := by
  have hfr := Zgp (Zec.1 hfit).1
  have hw : IntKind.i64.wrap ((i : Int) + 1) = (i : Int) + 1 := i64_in (by omega) (by omega)
  have hlx := hx.Zex Zav
  have hlp := hP.p.Zex Za1
  have hlk : (Z7 c P L).length = 13 := rfl
  have hK0 : (Z7 c P L)[0]? = some P := rfl
  have hMade := fun {xc : Cel} {NX AX : SV} (h1 : Nds NX xc.nodes) (h2 : Ints AX xc.ages) (h3 : xc.nodes.length ≤ 1000) (h4 : Sh.pv NX = true) (h5 : Sh.pv AX = true) M => Zag6 false hP hfit hi h1 h2 h3 h4 h5 M
  have hcb := h.hc
  have hlt := h.lt
  generalize Z7 c P L = K at *
  have hK0' : K[0]'(by omega) = P := by simpa [hlk] using hK0
  obtain ⟨xc, NX, AX, hN, hA, hpN, hpA, hsz, hcell⟩ : ∃ (xc : Cel) (NX AX : SV), Nds NX xc.nodes ∧ Ints AX xc.ages ∧ Sh.pv NX = true ∧ Sh.pv AX = true ∧ xc.nodes.length ≤ 1000 ∧
      ((¬ i < l.length ∧ clC xc NX AX = [.nilsl, .bool false, .int .i64 0, .nilsl]) ∨ (i < l.length ∧ Z9 ES.P Zt xl (.int .i64 i) = some (.rptr (its xl) i 0 (Zwi xl)) ∧ (its xl)[i]? = some (.agg (clC xc NX AX)))) := by
    by_cases hil : i < l.length
    · obtain ⟨y, ⟨N, A, rfl, q1, q2, q3, q4⟩, hy, ha, _⟩ := hx.item Zav Zde Zwy hil
      exact ⟨l[i], N, A, q1, q2, q3, q4, hsm _ (List.getElem_mem hil), .inr ⟨hil, ha, hy⟩⟩
    · exact ⟨⟨[], false, 0, []⟩, .nilsl, .nilsl, RSl.nil _, RSl.nil _, rfl, rfl, by simp, .inl ⟨hil, rfl⟩⟩
  obtain ⟨M2, on, st, Ag, w, ns, m1, m2, m3, m4, m5, m6, m6b, m7, m8, m9⟩ := hMade hN hA hsz hpN hpA (((M.bump 3).set (M.next + 1) (some [.agg (clC xc NX AX)])).bump 8)
  have e11 : (((M.bump 3).set (M.next + 1) (some [.agg (clC xc NX AX)])).bump 8).next = M.next + 11 := rfl
  rw [e11] at m1 m2 m9
  rw [show M.next + 11 + 16 = M.next + 27 by omega] at m1 m2
  obtain ⟨nl, k1, k2, k3⟩ := Zapy m4
  have hOld : Old M M2 := fun id hid => by
    have q2 : ¬ id = M.next + 1 := by omega
    rw [m8 id (by rw [e11]; omega)]
    simp [q2]
  have hit : items.length ≤ 1000000 := by have := h.ow.ln; have := hfr.2; omega
  obtain ⟨o', k, M4, p1, p2, p3, p4, p5⟩ := h.ow.app (M2 := M2) hOld (by omega) (s := M.next + 3 + 5) (a := M.next + 3 + 6) (by omega) (by omega) (by omega) (by omega) (x := ⟨nl, on, st, w⟩) (N := .own (M.next + 27) 8 0 ns.length) (Ag := Ag) ⟨ns, .inr ⟨_, rfl, m2, by omega⟩, k1⟩ (fun id e u q hh => by cases hh; omega) m5 m7 hit
  have bs : ∀ (q : Nat) (u1 : SV) (u2 : Bool) (u3 : Int) (u4 : SV), Zf7 ES.P Zt 1 q [(0, .agg [u1, .bool u2, .int .i64 u3, u4])] = some (.own q 4 0 1, [.agg [u1, .bool u2, .int .i64 u3, u4]]) := fun q u1 u2 u3 u4 => by simp [Zf7, Zb4]
  have bz : Zny ES.P Zq [] = some (.agg [.nilsl, .bool false, .int .i64 0, .nilsl]) := by simp [Zny, placesOf, Zeb]
  have d1 : ¬ m = M.next + 1 := by omega
  have d2 : ¬ m = M.next := by omega
  refine ⟨M4, o', items ++ [.agg (clC ⟨nl, on, st, w⟩ (.own (M.next + 27) 8 0 ns.length) Ag)], cs ++ [⟨nl, on, st, w⟩], ?_, ⟨(p5 m (by omega)).trans hcb, by rw [p4]; omega, p3, fun j hj hp => ?_⟩, by simp [hl]⟩
  · by_cases hil2 : i < l.length
    · obtain ⟨_, e1, e2⟩ : i < l.length ∧ Z9 ES.P Zt xl (.int .i64 i) = some (.rptr (its xl) i 0 (Zwi xl)) ∧ (its xl)[i]? = some (.agg (clC xc NX AX)) := by
        rcases hcell with ⟨h1, _⟩ | h1
        · exact absurd hil2 h1
        · exact h1
      simp only [clC] at e2 m1 p1 p2
      simp (maxSteps := 4000000) [Zjb, Zf, Zd, Ze, Zl, Zn, Zo, TK.agg, Zb, zeroS, Zi, Zg, splice, Zx, Z5, Zk, Zhd, Mem.set2, hcb, hlk, hK0', hlp, hi, hlx, hil2, e1, e2, m1, bz, bs, p1, p2, hw, d1, d2, Zz hN.sl, Zax hN.sl, Zz hA.sl, Zax hA.sl, Zz m5.sl, Zax m5.sl]
    · have e1 : clC xc NX AX = [.nilsl, .bool false, .int .i64 0, .nilsl] := by
        rcases hcell with ⟨_, h2⟩ | ⟨h1, _⟩
        · exact h2
        · exact absurd h1 hil2
      rw [e1] at m1
      simp only [clC] at m1 p1 p2
      simp (maxSteps := 4000000) [Zjb, Zf, Zd, Ze, Zl, Zn, Zo, TK.agg, Zb, zeroS, Zi, Zg, splice, Zx, Z5, Zk, Zhd, Mem.set2, hcb, hlk, hK0', hlp, hi, hlx, hil2, m1, bz, bs, p1, p2, hw, d1, d2, Zz m5.sl, Zax m5.sl]
  · by_cases hjc : j < cs.length
    · rw [List.getElem_append_left hjc]
      exact h.fine j hjc hp
    · have hj2 : j = cs.length := by simp at hj; omega
      subst hj2
      rw [List.getElem_append_right (Nat.le_refl _)]
      simp only [Nat.sub_self, List.getElem_cons_zero]
      refine Zsx.2 ⟨?_, k2, m6b, m6⟩
      rw [show (Cel.nodes ⟨nl, on, st, w⟩) = nl from rfl, k3]
      have : c.parts[cs.length]'hp = c.parts[i] := by congr 1
      rw [this]
      exact m3
set_option maxHeartbeats 4000000 in
theorem Zac1 {P L : SV} {c : Cfg} (hP : Zi2 c P L) (hfit : Zsf c = true) {xl : SV} {l : List Cel} (hx : Zv7 xl l) (hpx : Sh.pv xl = true) (hsm : ∀ x ∈ l, x.nodes.length ≤ 1000) :
    ∃ z cs, (∀ get, Za0 (PCw ES) get Ze7 [.agg (Z7 c P L), xl] = some z) ∧ Zv7 z cs ∧ Sh.pv z = true ∧ Zjn c cs = true := by
  have hlk : (Z7 c P L).length = 13 := rfl
  have hlp := hP.p.Zex Za1
  have hK0 : (Z7 c P L)[0]? = some P := rfl
  have step := fun {m : Nat} {o : SV} {items : List SV} {cs : List Cel} {M : Mem} {i : Nat} (hi : i < c.parts.length) => @Zai5 P L c hP hfit xl l hx hsm m o items cs M i hi
  have hnK := hP.npA
  generalize Z7 c P L = K at *
  have hK0' : K[0]'(by omega) = P := by simpa [hlk] using hK0
  have all : ∀ M0 : Mem, ∃ o M' items cs, ICw ES Ze7 [.agg K, xl] M0 = some (o, M') ∧ C24I K c M0.next o items cs M' ∧ cs.length = c.parts.length := fun M0 => by
    rw [Zac9]
    obtain ⟨r, g1, Ma, o, items, cs, rfl, hI, hcs⟩ := Zr0 (E := ES) (me := Ze7) (B := Zjb) (β := SV × List SV × List Cel) (len := c.parts.length) (T := fun j o => Zhd xl (.ptr M0.next 0 0) o.1 (.int .i64 j))
      (I := fun j o M => C24I K c M0.next o.1 o.2.1 o.2.2 M ∧ o.2.2.length = j)
      (Q := fun r => ∃ M' o items cs, r = (.exit 0, ⟨(Zhd xl (.ptr M0.next 0 0) o (.int .i64 c.parts.length)).set 12 (.bool false), M'⟩) ∧ C24I K c M0.next o items cs M' ∧ cs.length = c.parts.length)
      (fun j o M hj ⟨i1, i2⟩ => by
        left
        obtain ⟨M', o', items', cs', a1, a2, a3⟩ := step hj i1 i2
        exact ⟨(o', items', cs'), M', a1, a2, a3⟩)
      (fun o M ⟨i1, i2⟩ => by
        have hcb := i1.hc
        exact ⟨_, by simp [Zjb, Zf, Zd, Ze, Zl, Zn, Zo, TK.agg, Zb, zeroS, Zi, Zg, splice, Zx, Z5, Zk, Zhd, hcb, hlk, hK0', hlp], by simp, M, o.1, o.2.1, o.2.2, rfl, i1, i2⟩) 0 (.nilsl, [], []) ((M0.bump 2).set M0.next (some [.agg K])) (by omega)
      ⟨⟨by simp, by show M0.next + 2 ≤ M0.next + 2; omega, OwC.nil _ _, fun j hj => by simp at hj⟩, rfl⟩
    simp [Zhd] at g1
    refine ⟨o, Ma, items, cs, ?_, hI, hcs⟩
    simp [Zuc, Zf, Zd, Ze, Zl, TK.agg, zeroS, Zx, Z5, Zt9, g1]
  obtain ⟨o, M', items, cs, h1, h2, h3⟩ := all .empty
  obtain ⟨z, z1, z2, z3⟩ := Zajr h1 h2.ow
  exact ⟨z, cs, fun get => Z4 z1 (by simp [hnK, Zac hpx]), z2, z3, Zrc.2 ⟨h3, h2.fine⟩⟩
theorem Zyy (get) (x : Int) (hx : I64 x) : Za0 (PCw ES) get Zon [.int .i64 x] = some (.int .i64 x) := by
  refine Z4 (Za4 (fun M0 => ?_) rfl) rfl
  rw [Zal1]
  have := hx.wrap
  simp [Zzm, Zf, Zd, Ze, Zl, Zn, Zo, TK.agg, Zb, zeroS, Zi, Zg, splice, Zx, Z5, Zk, Zz8, this]
set_option maxHeartbeats 8000000 in
theorem Zaix {P L : SV} {c : Cfg} (hP : Zi2 c P L) {n : Node} {A : SV} (hA : Ints A n.ages) (hpA : Sh.pv A = true) (hb : n.ages.length ≤ 1000000) {now : Int} (hw : Znu now = true → I64 (now * c.cycle)) : ∃ y, (∀ get, Za0 (PCw ES) get Zig [.agg (Z7 c P L), .agg (ndC n A), .int .i64 now] = some y) ∧ NdR y (if Zsf c && Znu now then onN c n now else n) := by
  have hN : Nds (.sl [.agg (ndC n A)] .snap) [n] := ⟨rfl, rfl, fun j y a hy ha => by
    cases j with
    | zero =>
      have hy' : [SV.agg (ndC n A)][0]? = some y := hy
      simp at hy' ha
      subst hy' ha
      exact ⟨A, rfl, hA, hpA⟩
    | succ j => simp at ha⟩
  -- the node in memory of its own
  obtain ⟨z, B, z1, z2, z3, z4⟩ : ∃ z B, PCw ES Zdm [.agg [.sl [.agg (ndC n A)] .snap, .bool false, .int .i64 0, .nilsl]] = some (.agg [.sl [.agg (ndC n B)] .ro, .bool false, .int .i64 0, z]) ∧ Ints B n.ages ∧ Sh.pv B = true ∧ Ztp z = true := by
    obtain ⟨o, A', M', k1, k2, k3, k4, _⟩ := Zvy (x := ⟨[n], false, 0, []⟩) (N := .sl [.agg (ndC n A)] .snap) (A := .nilsl) hN (RSl.nil _) (by simp) (fun m hm => by simp at hm; rw [hm]; exact hb) (by simp) .empty
    obtain ⟨q, ns, e1, e2, e3, e4⟩ := k2.own (j := 0) (by simp)
    have hns : ns.length = 1 := e4.len
    obtain ⟨y0, hy0⟩ := List.length_eq_one_iff.1 hns
    subst hy0
    obtain ⟨B, rfl, hB, hpB⟩ := e4.at' 0 y0 n rfl rfl
    refine ⟨A', B, Zr8 k1 (v' := .agg [.sl [.agg (ndC n B)] .ro, .bool false, .int .i64 0, A']) ?_ (by simp [Sh.pv, pvs, ndC, hpB, k4]), hB, hpB, k3.sl⟩
    subst e1
    have p1 : Sh.pic M'.blk true 11 (.own q 8 0 1) = some (.sl [.agg (ndC n B)] .ro) := by
      unfold Sh.pic
      simp only [Sh.pv, Bool.false_eq_true, if_false, e2, Nat.zero_add, List.length_cons, List.length_nil, if_pos (Nat.le_refl _), List.drop_zero]
      rw [Zmn fun x hx => Zd3 (Zac (by simp at hx; rw [hx]; exact Zt3 hpB) _)]
      rfl
    have b1 : Sh.pic M'.blk true 11 (.bool false) = some (.bool false) := Zd3 (Zac rfl _)
    have b2 : Sh.pic M'.blk true 11 (.int .i64 0) = some (.int .i64 0) := Zd3 (Zac rfl _)
    have b3 : Sh.pic M'.blk true 11 A' = some A' := Zd3 (Zac k4 _)
    show Sh.pic M'.blk true (11 + 1) _ = _
    unfold Sh.pic
    simp only [Sh.pv, pvs, clC, Bool.false_and, Bool.false_eq_true, if_false, List.length_cons, List.length_nil]
    simp [p1, b1, b2, b3]
  have k1 := fun get => Zw6 get hP now
  have k2 := fun (h : Znu now = true) get => Z4a get hP z2 z3 (hw h)
  have hlk : (Z7 c P L).length = 13 := rfl
  have hnK := hP.npA
  generalize Z7 c P L = K at *
  have cl : ∀ (get : Nat → Option (List SV)) (q : Nat), get q = some [.agg (ndC n A)] → Za0 (PCw ES) get Zdm [.agg [.own q 8 0 1, .bool false, .int .i64 0, .nilsl]] = some (.agg [.sl [.agg (ndC n B)] .ro, .bool false, .int .i64 0, z]) := fun get q hg => by
    rw [Zm7 (ys := [.agg [.sl [.agg (ndC n A)] .snap, .bool false, .int .i64 0, .nilsl]])]
    · exact z1
    · have p1 : Sh.pic get false 11 (.own q 8 0 1) = some (.sl [.agg (ndC n A)] .snap) := by
        unfold Sh.pic
        simp only [Sh.pv, Bool.false_eq_true, if_false, hg, Nat.zero_add, List.length_cons, List.length_nil, if_pos (Nat.le_refl _), List.drop_zero]
        rw [Zmn fun x hx => Zd3 (Zac (by simp at hx; rw [hx]; exact Zt3 hpA) _)]
        rfl
      have b1 : Sh.pic get false 11 (.bool false) = some (.bool false) := Zd3 (Zac rfl _)
      have b2 : Sh.pic get false 11 (.int .i64 0) = some (.int .i64 0) := Zd3 (Zac rfl _)
      have b3 : Sh.pic get false 11 .nilsl = some .nilsl := Zd3 (Zac rfl _)
      have pt : Sh.pic get false Zar (.agg [.own q 8 0 1, .bool false, .int .i64 0, .nilsl]) = some (.agg [.sl [.agg (ndC n A)] .snap, .bool false, .int .i64 0, .nilsl]) := by
        show Sh.pic get false (11 + 1) _ = _
        unfold Sh.pic
        simp only [Sh.pv, pvs, Bool.false_and, Bool.false_eq_true, if_false]
        simp [p1, b1, b2, b3]
      simp [pt]
  have run : ∀ y, Sh.pv y = true → (∀ M0, ∃ M', ICw ES Zig [.agg K, .agg (ndC n A), .int .i64 now] M0 = some (y, M')) → ∀ get, Za0 (PCw ES) get Zig [.agg K, .agg (ndC n A), .int .i64 now] = some y := fun y hy h get => Z4 (Za4 h hy) (by simp [hnK, Zac (Zt3 (n := n) hpA)])
  have cA := Zz hA.sl
  have sA := Zax hA.sl
  have cB := Zz z2.sl
  have sB := Zax z2.sl
  have bs : ∀ q, Zf7 ES.P Zj 1 q [(0, .agg (ndC n A))] = some (.own q 8 0 1, [.agg (ndC n A)]) := fun q => by simp [Zf7, Zb4, ndC]
  have bc : ∀ q, Zny ES.P Zq [(0, .own q 8 0 1)] = some (.agg [.own q 8 0 1, .bool false, .int .i64 0, .nilsl]) := fun q => by simp [Zny, placesOf, Zeb, splice]
  cases hfn : (Zsf c && Znu now) with
  | false =>
    rw [hfn] at k1
    refine ⟨_, run _ (Zt3 z3) (fun M0 => ?_), ⟨B, rfl, z2, z3⟩⟩
    rw [Z32]
    simp only [ndC] at cl bs ⊢
    simp (maxSteps := 4000000) [Ztl, Zf, Zd, Ze, Zl, Zn, Zo, TK.agg, Zb, zeroS, Zi, Zg, splice, Zx, Z5, Zk, Nat.add_assoc, hlk, k1, bs, bc, cl, Z9, Zs4, cA, sA, cB, sB]
  | true =>
    rw [hfn] at k1
    have hn : Znu now = true := by simp only [Bool.and_eq_true] at hfn; exact hfn.2
    have k2 := k2 hn
    simp only [if_true]
    have hv : Sh.pv (.agg (ndC (onN c n now) (if n.state = 0 then .nilsl else B))) = true := Zt3 (by split <;> first | rfl | exact z3)
    refine ⟨_, run _ hv (fun M0 => ?_), ⟨_, rfl, ?_, ?_⟩⟩
    · rw [Z32]
      generalize hn2 : ndC (onN c n now) (if n.state = 0 then SV.nilsl else B) = N2 at *
      have hl2 : N2.length = 8 := by rw [← hn2]; rfl
      simp only [ndC] at cl bs k2 ⊢
      simp (maxSteps := 4000000) [Ztl, Zf, Zd, Ze, Zl, Zn, Zo, TK.agg, Zb, zeroS, Zi, Zg, splice, Zx, Z5, Zk, Nat.add_assoc, hlk, k1, k2, hl2, bs, bc, cl, Z9, Zs4, cA, sA, cB, sB]
    · unfold onN
      split
      · exact RSl.nil _
      · exact z2
    · split <;> first | rfl | exact z3
theorem Zadw (get) {n : Node} {A : SV} (hA : Ints A n.ages) (hpA : Sh.pv A = true) : Za0 (PCw ES) get Zl1 [.agg (ndC n A)] = some (.agg (ndC (Z2p n) .nilsl)) := by
  refine Z4 (Za4 (fun M0 => ?_) (Zt3 rfl)) (by simp [Zac (Zt3 (n := n) hpA)])
  rw [Zaef]
  have k := fun get => Zz9 get hA hpA
  simp only [ndC] at k
  simp (maxSteps := 4000000) [Zum, Zf, Zd, Ze, Zl, Zn, Zo, TK.agg, Zb, zeroS, Zi, Zg, splice, Zx, Z5, Zk, ndC, k, Z2p, Zz hA.sl, Zax hA.sl]

end Go.Proofs.YtfphjfbknphhjaaGreatDoor
