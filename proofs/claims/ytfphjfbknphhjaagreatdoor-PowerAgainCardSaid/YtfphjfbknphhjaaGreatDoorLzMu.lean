/-
  Walks of the seat's functions: Tb.
-/
import Derived.Test.YtfphjfbknphhjaaGreatDoorEb2
import Derived.Test.YtfphjfbknphhjaaGreatDoorShMb
import Derived.Test.YtfphjfbknphhjaaGreatDoorLzMt
import Derived.Test.YtfphjfbknphhjaaGreatDoorLzMj
set_option linter.unusedVariables false
set_option linter.unusedSimpArgs false
set_option maxRecDepth 100000
namespace Go.Proofs.YtfphjfbknphhjaaGreatDoor
open Go.Proofs.YtfphjfbknphhjaaGreatDoor.Sh
/-! table.list: a part's schedule, slot by slot. -/
theorem Z1l {E : Env} {me n0 sz k : Nat} {pc : PC} {ic : IC} {lm : Option (List Nat)} {r : List Ins} {d : Nat} {T : List SV} {M : Mem} {f : Nat} {a c args : List SV} (h : ((E.prim f).isSome || E.imp me f) = true) :
    Zah7 E me pc ic n0 sz k lm r d T M (.fn f a c) args = (ic f (a ++ args ++ c) M).bind fun q => exL E me pc ic n0 sz (k + 1) r ⟨T.set d q.1, q.2⟩ := by
  simp only [Zah7, h, if_true]
theorem Zg1.Zex {P : Program} {esz : Nat} {o : SV} {M : Mem} {items : List SV} (h : Zg1 esz o M items) {t e a b : Nat} {z : Option SV} (ht : Zbz P t = some ⟨.slice e, a, b, z⟩) : Sh.Zex P t o = some (.int .i64 items.length) := by
  rcases h with ⟨rfl, rfl⟩ | ⟨id, rfl, _⟩ <;> simp [Sh.Zex, ht]
theorem Zg1.cells {esz : Nat} {o : SV} {M : Mem} {items : List SV} (h : Zg1 esz o M items) : o.cells = [o] := by
  rcases h with ⟨_, rfl⟩ | ⟨id, rfl, _⟩ <;> rfl
theorem Zg1.sto {esz : Nat} {o : SV} {M : Mem} {items : List SV} (h : Zg1 esz o M items) : o.sto = true := by
  rcases h with ⟨_, rfl⟩ | ⟨id, rfl, _⟩ <;> rfl
/-- A cell of its own that holds a list: what a load says, what a store sets. -/
theorem Zg1.load {P : Program} {get : Nat → Option (List SV)} {esz b : Nat} {o : SV} {M : Mem} {items : List SV} (h : Zg1 esz o M items) {t e s1 s2 : Nat} {z : Option SV} (ht : Zbz P t = some ⟨.slice e, s1, s2, z⟩) (hg : get b = some [o]) : Zn P get t (.ptr b 0 0) = some o := by
  rcases h with ⟨_, rfl⟩ | ⟨id, rfl, _⟩ <;> simp [Zn, ht, hg, Zo, TK.agg]
theorem Zg1.store {P : Program} {get : Nat → Option (List SV)} {esz esz' b : Nat} {o o' : SV} {M M' : Mem} {items items' : List SV} (h : Zg1 esz o M items) (h' : Zg1 esz' o' M' items') {t e s2 : Nat} {z : Option SV} (ht : Zbz P t = some ⟨.slice e, 1, s2, z⟩) (hg : get b = some [o]) :
    Zi P get t (.ptr b 0 0) o' = some [(b, some [o'])] := by
  rcases h with ⟨_, rfl⟩ | ⟨id, rfl, _⟩ <;> rcases h' with ⟨_, rfl⟩ | ⟨id', rfl, _⟩ <;> simp [Zi, ht, hg, Zg]
/-- What the schedule's maker holds: the slots so far, and the network. -/
structure Z0r (C : List SV) (ob cb : Nat) (o : SV) (items : List SV) (M : Mem) : Prop where
  ho : M.blk ob = some [o]
  hc : M.blk cb = some [.agg C]
  lo : ob < M.next
  lc : cb < M.next
  hO : Zg1 3 o M items
  ne : ob ≠ cb
  no : ∀ e a b, o ≠ .own ob e a b
  nc : ∀ e a b, o ≠ .own cb e a b
theorem Z0r.old {C : List SV} {ob cb : Nat} {o : SV} {items : List SV} {M M' : Mem} (h : Z0r C ob cb o items M) (ho : Old M M') (hn : M.next ≤ M'.next) : Z0r C ob cb o items M' :=
  ⟨(ho ob h.lo).trans h.ho, (ho cb h.lc).trans h.hc, by have := h.lo; omega, by have := h.lc; omega, h.hO.old ho hn, h.ne, h.no, h.nc⟩
set_option maxHeartbeats 4000000 in
theorem Zam2 {c : Cfg} {P L o : SV} {ob cb : Nat} {items : List Slot} {M : Mem} (h : Z0r (Z7 c P L) ob cb o (Zgi items) M) (kind node : Int) (hlen : items.length ≤ 1000) (h1 : I64 (items.length * c.slot)) (h2 : I64 (c.lead + items.length * c.slot)) :
    ∃ M' o', ICw ES Zb1 [.int .i64 kind, .int .i64 node, .ptr ob 0 0, .ptr cb 0 0] M = some (.tup [], M') ∧ Z0r (Z7 c P L) ob cb o' (Zgi (items ++ [⟨kind, node, c.lead + items.length * c.slot⟩])) M' ∧ M.next ≤ M'.next ∧
      (∀ id, id < M.next → id ≠ ob → (∀ e a b, o ≠ .own id e a b) → M'.blk id = M.blk id) ∧ (∀ id e a b, o' = .own id e a b → M.next ≤ id) := by
  rw [Z29]
  have hc := h.hc
  have hl := fun (get : Nat → Option (List SV)) (hg : get ob = some [o]) => Zg1.load (P := ES.P) (get := get) h.hO Zlk hg
  have hn := Zg1.Zex (P := ES.P) h.hO Zlk
  have w1 := h1.wrap
  have w2 := h2.wrap
  have e1 : (Zgi items).length = items.length := by simp [Zgi]
  rw [e1] at hn
  have i1 := h.lo
  have i2 := h.lc
  generalize hv : Z6q ⟨kind, node, c.lead + items.length * c.slot⟩ = v
  have hv' : SV.agg [.int .i64 kind, .int .i64 node, .int .i64 (c.lead + items.length * c.slot)] = v := hv
  have hvc : v.cells.length = 3 := by rw [← hv]; rfl
  have hap := Zg1.next (P := ES.P) (o := o) (M := M) (X := (M.bump 15).set (M.next + 12) (some [v])) (items := Zgi items) (a := M.next + 13) (s := M.next + 12) (v := v) (get := ((M.bump 15).set (M.next + 12) (some [v])).blk)
    Zlk Zae8 rfl (by decide) rfl rfl h.hO (by rw [e1]; show (items.length + 1) * 24 ≤ _; omega) (by rw [e1]; omega)
    (fun id hid => by
      have h1 : ¬ (id = M.next + 12) := by omega
      simp [h1]) hvc (by simp) (by simp) (by simp) (by omega)
  obtain ⟨o', X', a1, a2, a3, a4, a5, a6⟩ := hap
  have hx : X'.blk ob = some [o] := (a4 ob h.lo h.no).trans h.ho
  have hxc : X'.blk cb = some [.agg (Z7 c P L)] := (a4 cb h.lc h.nc).trans h.hc
  have hst := Zg1.store (P := ES.P) (get := X'.blk) (b := ob) h.hO a3 Zlk hx
  have b : Zf7 ES.P Zdk 1 (M.next + 12) [(0, v)] = some (.own (M.next + 12) 3 0 1, [v]) := by simp [Zf7, Zb4, hvc]; rw [← hv]; rfl
  have eb : (M.bump 15).blk = M.blk := rfl
  have hnx : X'.next = M.next + 15 := by rw [a5]; simp
  have hfr : ∀ id e a b, o' = .own id e a b → M.next ≤ id := a6
  refine ⟨X'.set ob (some [o']), o', ?_, ⟨by simp, ?_, by simp [hnx]; omega, by simp [hnx]; omega, ?_, h.ne, fun e a b hh => ?_, fun e a b hh => ?_⟩, by simp [hnx], ?_, a6⟩
  · have hob : (M.bump 15).blk ob = some [o] := h.ho
    have hcb := h.hc
    simp only [Z7] at hcb
    simp at a1 a2
    have l1 := hl M.blk h.ho
    have bd : Zny ES.P Zrl [(0, .int .i64 kind), (1, .int .i64 node), (2, .int .i64 (c.lead + items.length * c.slot))] = some v := by simp [Zny, placesOf, Zeb, splice, hv']
    have q3 : Zn ES.P M.blk Zc (.ptr cb 0 3) = some (.int .i64 c.lead) := by simp [Zn, hcb, Zo, TK.agg]
    have q4 : Zn ES.P M.blk Zc (.ptr cb 0 4) = some (.int .i64 c.slot) := by simp [Zn, hcb, Zo, TK.agg]
    simp (maxSteps := 4000000) [Zq6, Zf, Zd, Zl, TK.agg, Zb, zeroS, Zx, Z5, eb, l1, q3, q4, hn, w1, w2, b, bd, a1, a2, hst]
  · have : cb ≠ ob := fun e => h.ne e.symm
    simp [this, hxc]
  · rw [Z5o]
    rw [show Zgi [(⟨kind, node, c.lead + items.length * c.slot⟩ : Slot)] = [v] from by rw [← hv]; rfl]
    rcases a3 with ⟨q1, q2⟩ | ⟨id, q1, q2, q3⟩
    · exact .inl ⟨q1, q2⟩
    · refine .inr ⟨id, q1, ?_, by simpa using q3⟩
      have : id ≠ ob := fun e => by have := a6 id _ _ _ q1; omega
      simp [this, q2]
  · have := a6 _ _ _ _ hh; omega
  · have := a6 _ _ _ _ hh; omega
  · intro id hid hne hno
    rw [Mem.Ziy, if_neg hne]
    exact a4 id hid hno
theorem Z3d {c : Cfg} (h1 : 0 ≤ c.lead ∧ c.lead ≤ 1000000) (h2 : 0 ≤ c.slot ∧ c.slot ≤ 1000000) {n : Nat} (hn : n ≤ 1000) : I64 (n * c.slot) ∧ I64 (c.lead + n * c.slot) := by
  have a1 : 0 ≤ (n : Int) * c.slot := Int.mul_nonneg (by omega) h2.1
  have a2 : (n : Int) * c.slot ≤ 1000 * 1000000 := Int.mul_le_mul (by omega) h2.2 h2.1 (by omega)
  unfold I64
  omega
/-- A slot more. -/
theorem Zto {c : Cfg} {P L o : SV} {ob cb : Nat} {ks : List (Int × Int)} {M : Mem} (h : Z0r (Z7 c P L) ob cb o (Zgi (stamp c.lead c.slot ks)) M) (kind node : Int) (hlen : ks.length ≤ 1000) (h1 : 0 ≤ c.lead ∧ c.lead ≤ 1000000) (h2 : 0 ≤ c.slot ∧ c.slot ≤ 1000000) :
    ∃ M' o', ICw ES Zb1 [.int .i64 kind, .int .i64 node, .ptr ob 0 0, .ptr cb 0 0] M = some (.tup [], M') ∧ Z0r (Z7 c P L) ob cb o' (Zgi (stamp c.lead c.slot (ks ++ [(kind, node)]))) M' ∧ M.next ≤ M'.next ∧
      (∀ id, id < M.next → id ≠ ob → (∀ e a b, o ≠ .own id e a b) → M'.blk id = M.blk id) ∧ (∀ id e a b, o' = .own id e a b → M.next ≤ id) := by
  have hb := Z3d h1 h2 hlen
  have := Zam2 h kind node (by simpa using hlen) (by simpa using hb.1) (by simpa using hb.2)
  rw [Zaig]
  simpa using this
theorem Zal3 : ((ES.prim Zb1).isSome || ES.imp Zc1 Zb1) = true := by rfl
theorem Zw2 {get : Nat → Option (List SV)} {b : Nat} {p : Port} (h : get b = some [Zap p]) : Zn ES.P get Zc (.ptr b 0 0) = some (.int .i64 p.node) := Zij Zes h (x := Zap p) rfl rfl
set_option maxHeartbeats 4000000 in
theorem Z7b {c : Cfg} {P L o : SV} {ob cb : Nat} {ks : List (Int × Int)} {M : Mem} (h : Z0r (Z7 c P L) ob cb o (Zgi (stamp c.lead c.slot ks)) M) (hlen : ks.length ≤ 900) (h1 : 0 ≤ c.lead ∧ c.lead ≤ 1000000) (h2 : 0 ≤ c.slot ∧ c.slot ≤ 1000000)
    {y : SV} {ps : List Port} (hy : Zsl y ps) (hps : ps.length ≤ 1000) {j : Nat} (hj : j < ps.length) (t1 : SV) :
    ∃ M' o', evW ES Zc1 Zkm ⟨Zhx t1 y (.ptr cb 0 0) (.ptr ob 0 0) (.fn Zb1 [] [.ptr ob 0 0, .ptr cb 0 0]) y (.int .i64 ps.length) (.int .i64 j), M⟩ =
        some (.normal, ⟨Zhx t1 y (.ptr cb 0 0) (.ptr ob 0 0) (.fn Zb1 [] [.ptr ob 0 0, .ptr cb 0 0]) y (.int .i64 ps.length) (.int .i64 ((j + 1 : Nat) : Int)), M'⟩) ∧
      Z0r (Z7 c P L) ob cb o' (Zgi (stamp c.lead c.slot (ks ++ [(3, ps[j].node)] ++ [(4, ps[j].node)]))) M' := by
  have hw : IntKind.i64.wrap ((j : Int) + 1) = (j : Int) + 1 := i64_in (by omega) (by omega)
  have ha := Zsl.at hy hj
  have hlo := h.lo
  have hld : ∀ get, Zn ES.P get Zad (.rptr (ps.map Zap) j 0 (Zwi y)) = some (Zap ps[j]) := fun get => Zl4 Znr (x := Zap ps[j]) (by simp [hj]) rfl
  have h0 : Z0r (Z7 c P L) ob cb o (Zgi (stamp c.lead c.slot ks)) (((M.bump 4).set (M.next + 2) (some [Zap ps[j]])).bump 4) := h.old (fun id hid => by
    have e : ¬ id = M.next + 2 := by omega
    show ((M.bump 4).set (M.next + 2) _).blk id = _
    rw [Mem.Ziy, if_neg e]
    rfl) (by show M.next ≤ M.next + 4 + 4; omega)
  obtain ⟨M1, o1, a1, a2, a3, a4, a5⟩ := Zto h0 3 ps[j].node (by omega) h1 h2
  have hno : ∀ e a b, o ≠ .own (M.next + 2) e a b := fun e a b hh => by
    rcases h.hO with ⟨_, q⟩ | ⟨id, q, _, q3⟩
    · rw [q] at hh; cases hh
    · rw [q] at hh; cases hh; omega
  have hp1 : M1.blk (M.next + 2) = some [Zap ps[j]] := by
    rw [a4 (M.next + 2) (by show M.next + 2 < M.next + 4 + 4; omega) (by omega) hno]
    show ((M.bump 4).set (M.next + 2) _).blk (M.next + 2) = _
    rw [Mem.Ziy, if_pos rfl]
  have h3 : Z0r (Z7 c P L) ob cb o1 (Zgi (stamp c.lead c.slot (ks ++ [(3, ps[j].node)]))) (M1.bump 4) := a2.old (fun id hid => rfl) (by show M1.next ≤ M1.next + 4; omega)
  obtain ⟨M2, o2, b1, b2, b3, b4, b5⟩ := Zto h3 4 ps[j].node (by simp; omega) h1 h2
  refine ⟨M2, o2, ?_, b2⟩
  have e1 : ∀ (X : Mem) (k : Nat), (X.bump k).blk = X.blk := fun _ _ => rfl
  have p1 := Zw2 (get := ((M.bump 4).set (M.next + 2) (some [Zap ps[j]])).blk) (b := M.next + 2) (p := ps[j]) (by simp)
  have p2 := Zw2 (get := M1.blk) hp1
  try simp at a1
  simp (maxSteps := 4000000) [Zkm, Zf, Zd, Zl, TK.agg, Zb, zeroS, Zx, Z5, Zhx, hj, ha, hld, Z1l Zal3, e1, p1, p2, a1, b1, hw, Zi, Zg]
set_option maxHeartbeats 4000000 in
theorem Z6e {c : Cfg} {P L o : SV} {ob cb : Nat} {ks : List (Int × Int)} {M : Mem} (h : Z0r (Z7 c P L) ob cb o (Zgi (stamp c.lead c.slot ks)) M) (hlen : ks.length ≤ 900) (h1 : 0 ≤ c.lead ∧ c.lead ≤ 1000000) (h2 : 0 ≤ c.slot ∧ c.slot ≤ 1000000)
    {y : SV} {n : Int} (hn : n ≤ 1000) {j : Nat} (hj : (j : Int) < n) :
    ∃ M' o', evW ES Zc1 Zj8 ⟨Zhs y (.ptr ob 0 0) (.fn Zb1 [] [.ptr ob 0 0, .ptr cb 0 0]) (.int .i64 n) (.int .i64 j), M⟩ =
        some (.normal, ⟨Zhs y (.ptr ob 0 0) (.fn Zb1 [] [.ptr ob 0 0, .ptr cb 0 0]) (.int .i64 n) (.int .i64 ((j + 1 : Nat) : Int)), M'⟩) ∧
      Z0r (Z7 c P L) ob cb o' (Zgi (stamp c.lead c.slot (ks ++ [(2, (j : Int))]))) M' := by
  have hw : IntKind.i64.wrap ((j : Int) + 1) = (j : Int) + 1 := i64_in (by omega) (by omega)
  have h0 : Z0r (Z7 c P L) ob cb o (Zgi (stamp c.lead c.slot ks)) (M.bump 3) := h.old (fun id hid => rfl) (by show M.next ≤ M.next + 3; omega)
  obtain ⟨M1, o1, a1, a2, a3, a4, a5⟩ := Zto h0 2 j (by omega) h1 h2
  refine ⟨M1, o1, ?_, a2⟩
  have e1 : ∀ (X : Mem) (k : Nat), (X.bump k).blk = X.blk := fun _ _ => rfl
  simp (maxSteps := 4000000) [Zj8, Zf, Zd, Zl, TK.agg, Zb, zeroS, Zx, Z5, Zhs, hj, Z1l Zal3, e1, a1, hw]
set_option maxHeartbeats 4000000 in
theorem Z49 {c : Cfg} {P L o : SV} {ob cb : Nat} {ks : List (Int × Int)} {M : Mem} (h : Z0r (Z7 c P L) ob cb o (Zgi (stamp c.lead c.slot ks)) M) (hlen : ks.length ≤ 900) (h1 : 0 ≤ c.lead ∧ c.lead ≤ 1000000) (h2 : 0 ≤ c.slot ∧ c.slot ≤ 1000000)
    {y : SV} {ps : List Port} (hy : Zsl y ps) (hps : ps.length ≤ 1000) {j : Nat} (hj : j < ps.length) :
    ∃ M' o', evW ES Zc1 Zj4 ⟨Zh0 (.ptr ob 0 0) (.fn Zb1 [] [.ptr ob 0 0, .ptr cb 0 0]) y (.int .i64 ps.length) (.int .i64 j), M⟩ =
        some (.normal, ⟨Zh0 (.ptr ob 0 0) (.fn Zb1 [] [.ptr ob 0 0, .ptr cb 0 0]) y (.int .i64 ps.length) (.int .i64 ((j + 1 : Nat) : Int)), M'⟩) ∧
      Z0r (Z7 c P L) ob cb o' (Zgi (stamp c.lead c.slot (ks ++ [(5, ps[j].node)]))) M' := by
  have hw : IntKind.i64.wrap ((j : Int) + 1) = (j : Int) + 1 := i64_in (by omega) (by omega)
  have ha := Zsl.at hy hj
  have hld : ∀ get, Zn ES.P get Zad (.rptr (ps.map Zap) j 0 (Zwi y)) = some (Zap ps[j]) := fun get => Zl4 Znr (x := Zap ps[j]) (by simp [hj]) rfl
  have h0 : Z0r (Z7 c P L) ob cb o (Zgi (stamp c.lead c.slot ks)) (((M.bump 4).set (M.next + 2) (some [Zap ps[j]])).bump 4) := h.old (fun id hid => by
    have e : ¬ id = M.next + 2 := by omega
    show ((M.bump 4).set (M.next + 2) _).blk id = _
    rw [Mem.Ziy, if_neg e]
    rfl) (by show M.next ≤ M.next + 4 + 4; omega)
  obtain ⟨M1, o1, a1, a2, a3, a4, a5⟩ := Zto h0 5 ps[j].node (by omega) h1 h2
  refine ⟨M1, o1, ?_, a2⟩
  have e1 : ∀ (X : Mem) (k : Nat), (X.bump k).blk = X.blk := fun _ _ => rfl
  have p1 := Zw2 (get := ((M.bump 4).set (M.next + 2) (some [Zap ps[j]])).blk) (b := M.next + 2) (p := ps[j]) (by simp)
  try simp at a1
  simp (maxSteps := 4000000) [Zj4, Zf, Zd, Zl, TK.agg, Zb, zeroS, Zx, Z5, Zh0, hj, ha, hld, Z1l Zal3, e1, p1, a1, hw, Zi, Zg]

end Go.Proofs.YtfphjfbknphhjaaGreatDoor

/-
  Walks of the seat's functions: Tc.
-/
set_option linter.unusedVariables false
set_option linter.unusedSimpArgs false
set_option maxRecDepth 100000
namespace Go.Proofs.YtfphjfbknphhjaaGreatDoor
open Go.Proofs.YtfphjfbknphhjaaGreatDoor.Sh
/-! table.list, table.Of: contracts. -/
theorem Zatn (l : List Slot) : ∀ y ∈ Zgi l, Sh.pv y = true := fun y hy => by
  simp only [Zgi, List.mem_map] at hy
  obtain ⟨x, _, rfl⟩ := hy
  rfl
set_option maxHeartbeats 4000000 in
theorem Z5n {P L : SV} {c : Cfg} (hP : Zi2 c P L) {p : Nat} (hp : p < c.parts.length) (h1 : 0 ≤ c.lead ∧ c.lead ≤ 1000000) (h2 : 0 ≤ c.slot ∧ c.slot ≤ 1000000) {y : SV} {ps : List Port} (hy : Zsl y ps) (hps : ps.length ≤ 100) {K : Nat} (hK : c.parts[p].nodes = (K : Int)) (hK2 : K ≤ 100) :
    ∃ z, PCw ES Zc1 [.agg (Z7 c P L), .int .i64 p, y] = some z ∧ Slots z (stamp c.lead c.slot (Zaa7 ps K)) ∧ Sh.pv z = true := by
  obtain ⟨z, items, k1, k2, k5, k6, k7⟩ := Zad5 (E := ES) (f := Zc1) (esz := 3) (args := [.agg (Z7 c P L), .int .i64 p, y]) (Pr := fun items => items = Zgi (stamp c.lead c.slot (Zaa7 ps K))) (fun M0 => by
    rw [Zabj]
    have hlen := hy.Zex Zh1
    have ha := Parts.at hP.p hp
    generalize hfn : SV.fn Zb1 [] [.ptr (M0.next + 2) 0 0, .ptr M0.next 0 0] = fn
    obtain ⟨r1, g1, Ma, rfl, oa, ia⟩ := Zke (E := ES) (me := Zc1) (B := Zkm) (len := ps.length) (T := fun j => Zhx (.int .i64 p) y (.ptr M0.next 0 0) (.ptr (M0.next + 2) 0 0) fn y (.int .i64 ps.length) (.int .i64 j))
      (I := fun j M => ∃ o, Z0r (Z7 c P L) (M0.next + 2) M0.next o (Zgi (stamp c.lead c.slot (gates (ps.take j)))) M)
      (Q := fun r => ∃ M', r = (.exit 0, ⟨(Zhx (.int .i64 p) y (.ptr M0.next 0 0) (.ptr (M0.next + 2) 0 0) fn y (.int .i64 ps.length) (.int .i64 ps.length)).set 18 (.bool false), M'⟩) ∧ ∃ o, Z0r (Z7 c P L) (M0.next + 2) M0.next o (Zgi (stamp c.lead c.slot (gates ps))) M')
      (fun j M hj ⟨o, hI⟩ => by
        left
        have hg : (gates (ps.take j)).length ≤ 900 := by rw [Z0q, List.length_take]; omega
        obtain ⟨M', o', a1, a2⟩ := Z7b hI hg h1 h2 hy (by omega) hj (.int .i64 p)
        rw [hfn] at a1
        rw [← Zajh hj] at a2
        exact ⟨M', a1, o', a2⟩)
      (fun M ⟨o, hI⟩ => ⟨_, by simp [Zkm, Zf, Zd, Ze, Zl, TK.agg, zeroS, Zx, Z5, Zhx], by simp, M, rfl, o, by rw [List.take_length] at hI; exact hI⟩) 0
      ((((M0.bump 2).set M0.next (some [.agg (Z7 c P L)])).bump 1).set (M0.next + 2) (some [.nilsl])) (by omega)
      ⟨.nilsl, by simp, by simp, by show M0.next + 2 < M0.next + 2 + 1; omega, by show M0.next < M0.next + 2 + 1; omega, .inl ⟨by simp [gates, stamp, Zgi], rfl⟩, by omega, by simp, by simp⟩
    obtain ⟨r2, g2, Mb, rfl, ob, ib⟩ := Zke (E := ES) (me := Zc1) (B := Zj8) (len := K) (T := fun j => Zhs y (.ptr (M0.next + 2) 0 0) fn (.int .i64 K) (.int .i64 j))
      (I := fun j M => ∃ o, Z0r (Z7 c P L) (M0.next + 2) M0.next o (Zgi (stamp c.lead c.slot (gates ps ++ Zyc j))) M)
      (Q := fun r => ∃ M', r = (.exit 2, ⟨(Zhs y (.ptr (M0.next + 2) 0 0) fn (.int .i64 K) (.int .i64 K)).set 37 (.bool false), M'⟩) ∧ ∃ o, Z0r (Z7 c P L) (M0.next + 2) M0.next o (Zgi (stamp c.lead c.slot (gates ps ++ Zyc K))) M')
      (fun j M hj ⟨o, hI⟩ => by
        left
        have hg : (gates ps ++ Zyc j).length ≤ 900 := by rw [List.length_append, Z0q, Z9v]; omega
        obtain ⟨M', o', a1, a2⟩ := Z6e hI hg h1 h2 (y := y) (n := K) (by omega) (j := j) (by omega)
        rw [hfn] at a1
        rw [List.append_assoc, ← Zah8] at a2
        exact ⟨M', a1, o', a2⟩)
      (fun M ⟨o, hI⟩ => ⟨_, by simp [Zj8, Zf, Zd, Ze, Zl, TK.agg, zeroS, Zx, Z5, Zhs], by simp, M, rfl, o, hI⟩) 0 Ma (by omega) ⟨oa, by simpa [Zyc] using ia⟩
    obtain ⟨r3, g3, Mc, rfl, oc, ic⟩ := Zke (E := ES) (me := Zc1) (B := Zj4) (len := ps.length) (T := fun j => Zh0 (.ptr (M0.next + 2) 0 0) fn y (.int .i64 ps.length) (.int .i64 j))
      (I := fun j M => ∃ o, Z0r (Z7 c P L) (M0.next + 2) M0.next o (Zgi (stamp c.lead c.slot (gates ps ++ Zyc K ++ Z3e (ps.take j)))) M)
      (Q := fun r => ∃ M', r = (.exit 4, ⟨(Zh0 (.ptr (M0.next + 2) 0 0) fn y (.int .i64 ps.length) (.int .i64 ps.length)).set 46 (.bool false), M'⟩) ∧ ∃ o, Z0r (Z7 c P L) (M0.next + 2) M0.next o (Zgi (stamp c.lead c.slot (Zaa7 ps K))) M')
      (fun j M hj ⟨o, hI⟩ => by
        left
        have hg : (gates ps ++ Zyc K ++ Z3e (ps.take j)).length ≤ 900 := by rw [List.length_append, List.length_append, Z0q, Z9v, Zamy, List.length_take]; omega
        obtain ⟨M', o', a1, a2⟩ := Z49 hI hg h1 h2 hy (by omega) hj
        rw [hfn] at a1
        rw [List.append_assoc _ (Z3e _), ← Zahq hj] at a2
        exact ⟨M', a1, o', a2⟩)
      (fun M ⟨o, hI⟩ => ⟨_, by simp [Zj4, Zf, Zd, Ze, Zl, TK.agg, zeroS, Zx, Z5, Zh0], by simp, M, rfl, o, by rw [List.take_length] at hI; exact hI⟩) 0 Mb (by omega) ⟨ob, by simpa [Z3e] using ib⟩
    have hcb := ia.hc
    have hld := Zg1.load (P := ES.P) (get := Mc.blk) ic.hO Zlk ic.ho
    simp [Zhx, Z7] at g1
    simp [Zhs] at g2
    simp [Zh0] at g3
    simp only [Z7] at hcb
    refine ⟨oc, Mc, _, ?_, ic.hO, rfl⟩
    have q1 : Zn ES.P Ma.blk Zm (.ptr M0.next 0 0) = some P := by simp [Zn, hcb, Zo, TK.agg]
    have q2 : ∀ get, Zn ES.P get Zc (.rptr (c.parts.map Zc9) p 0 (Zwi P)) = some (.int .i64 K) := fun get => Zl4 Zes (x := Zc9 c.parts[p]) (by simp [hp]) (by rw [← hK]; rfl)
    simp (maxSteps := 4000000) [Zsu, Zf, Zd, Zl, TK.agg, Zb, zeroS, Zx, Z5, Z7, hfn, hlen, Zs7, g1, q1, ha, q2, Zs8, g2, Zsw, g3, hld]) (fun items h y hy => by
      subst h
      exact Zatn _ y hy)
  subst k2
  exact ⟨z, k1, RSl.of_map k5 k6, k7⟩

end Go.Proofs.YtfphjfbknphhjaaGreatDoor
