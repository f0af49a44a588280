/-
  Walks of the seat's functions: Qg.
-/
import Derived.Test.YtfphjfbknphhjaaGreatDoorEb2
import Derived.Test.YtfphjfbknphhjaaGreatDoorShMb
import Derived.Test.YtfphjfbknphhjaaGreatDoorLQf
set_option linter.unusedVariables false
set_option linter.unusedSimpArgs false
set_option maxRecDepth 100000
namespace Go.Proofs.YtfphjfbknphhjaaGreatDoor
open Go.Proofs.YtfphjfbknphhjaaGreatDoor.Sh
/-! What an event does: the program's own. -/
theorem Zaqk {E : Env} {f esz : Nat} {b : SV} (hb : Sh.pv b = true) {args items : List SV} (hp : ∀ y ∈ items, Sh.pv y = true) (h : ∀ M, ∃ o M', ICw E f args M = some (.tup [o, b], M') ∧ Zg1 esz o M' items) : ∃ z, PCw E f args = some (.tup [z, b]) ∧ Ztp z = true ∧ its z = items ∧ Sh.pv z = true := by
  obtain ⟨o, M', h1, h2⟩ := h .empty
  have key : ∀ z, Sh.pv z = true → pic M'.blk true 11 o = some z → PCw E f args = some (.tup [z, b]) := fun z hz hq => by
    refine Zr8 h1 (v' := .tup [z, b]) ?_ (by simp [Sh.pv, pvs, hz, hb])
    show pic M'.blk true (11 + 1) (.tup [o, b]) = _
    unfold Sh.pic
    have e : [o, b].mapM (pic M'.blk true 11) = some [z, b] := by simp [hq, Zd3 (Zac hb _)]
    split
    · rename_i hpv
      have : Sh.pv o = true := by simp [Sh.pv, pvs] at hpv; exact hpv.1
      rw [Zd3 (Zac this _)] at hq
      simp only [Option.some.injEq] at hq
      rw [hq]
    · simp only [e]
  rcases h2 with ⟨rfl, rfl⟩ | ⟨id, rfl, h3, _⟩
  · exact ⟨.nilsl, key _ rfl rfl, rfl, rfl, rfl⟩
  · have hz : Sh.pv (.sl items .ro) = true := by simp [Sh.pv, Zkf.2 hp]
    refine ⟨.sl items .ro, key _ hz ?_, rfl, rfl, hz⟩
    unfold Sh.pic
    simp only [Sh.pv, Bool.false_eq_true, if_false, h3, Nat.zero_add, if_pos (Nat.le_refl _), List.drop_zero, List.take_length]
    rw [Zmn fun x hx => Zd3 (Zac (hp x hx) _)]
    rfl
structure PlI (m : Nat) (ev : SV) (o : SV) (items : List SV) (M : Mem) : Prop where
  he : M.blk (m + 1) = some [ev]
  ho : Zg1 2 o M items
  ge : ∀ id e a b, o = .own id e a b → m + 4 ≤ id
  lt : m + 4 ≤ M.next
theorem Zani {e : Evt} {B : SV} {N : Nat} (hN : N ≤ 1000) {a : Nat} (ha : e.a = a) {m : Nat} {o : SV} {M : Mem} {j : Nat} (hj : j < N) (h : PlI m (.agg (evC e B)) o ((List.range j).map fun i => Zno (a, i)) M) :
    ∃ M' o', evW ES Zb0 Zic ⟨Zf4 (.ptr (m + 1) 0 0) o (.int .i64 N) (.int .i64 j), M⟩ = some (.normal, ⟨Zf4 (.ptr (m + 1) 0 0) o' (.int .i64 N) (.int .i64 ((j + 1 : Nat) : Int)), M'⟩) ∧ PlI m (.agg (evC e B)) o' ((List.range (j + 1)).map fun i => Zno (a, i)) M' := by
  have hw : IntKind.i64.wrap ((j : Int) + 1) = (j : Int) + 1 := i64_in (by omega) (by omega)
  obtain ⟨he, ho, ge, lt⟩ := h
  obtain ⟨o', k, M1, p1, p2, p3, p4, p5, p6⟩ := Zarn (T := Zbv) (te := ⟨.struct [(Zc, 0), (Zc, 1)], 2, 16, some (.agg [.int .i64 0, .int .i64 0])⟩) (y := Zno (a, j)) Znh Zn6 rfl (by decide) rfl rfl ho rfl (by decide) (by simp; omega) (fun _ _ => rfl) (Nat.le_refl _) 8 5 6 (by omega) (by omega)
  have d1 : ¬ m + 1 = M.next + 5 := by omega
  have bs : ∀ q u v, Zf7 ES.P Zbv 1 q [(0, .agg [.int .i64 u, .int .i64 v])] = some (.own q 2 0 1, [.agg [.int .i64 u, .int .i64 v]]) := fun q u v => by simp [Zf7, Zb4]
  refine ⟨M1, o', ?_, ?_, ?_, fun id e a b hh => ?_, by omega⟩
  · simp only [Zno] at p1 p2
    simp only [evC] at he
    simp (maxSteps := 4000000) [Zic, Zf, Zd, Ze, Zl, Zn, Zo, TK.agg, Zb, zeroS, Zi, Zg, splice, Zx, Z5, Zk, Zf4, hj, he, ha, Zny, placesOf, Zeb, bs, p1, p2, hw, d1]
  · rw [p4 (m + 1) (by omega) (fun e a b hh => by have := ge _ e a b hh; omega)]
    exact he
  · rw [List.range_succ, List.map_append]
    exact p3
  · rcases p6 id e a b hh with h1 | h1
    · omega
    · exact ge id e a b (h1 ▸ hh)
set_option maxHeartbeats 16000000 in
theorem Z3j {P L : SV} {c : Cfg} (hP : Zi2 c P L) (hr : Zcq c = true) {e : Evt} {ey : SV} (he : EvR ey e) (hk : 1 ≤ e.kind ∧ e.kind ≤ 7) :
    ∃ z, (∀ get, Za0 (PCw ES) get Zb0 [.agg (Z7 c P L), ey] = some (.tup [z, .bool (Ze8 c e)])) ∧ (Ze8 c e = true → RSl (fun y q => y = Zno q) z (Zcp c e)) ∧ Sh.pv z = true := by
  have hpe := he.pv
  obtain ⟨B, rfl, hB, hpB⟩ := he
  have hlp := hP.p.Zex Za1
  have hll := hP.l.Zex Zbi
  have hlk : (Z7 c P L).length = 13 := rfl
  have hK0 : (Z7 c P L)[0]? = some P := rfl
  have hK1 : (Z7 c P L)[1]? = some L := rfl
  have hnK := hP.npA
  have apP := fun {j : Nat} (hj : j < c.parts.length) => Parts.at hP.p hj
  have apL := fun {j : Nat} (hj : j < c.links.length) => Links.at hP.l hj
  have hLs := hP.l.sl
  generalize Z7 c P L = K at *
  have g0 : K[0]'(by omega) = P := by simpa [hlk] using hK0
  have g1 : K[1]'(by omega) = L := by simpa [hlk] using hK1
  have hbC := Zz hB.sl
  have hbS := Zax hB.sl
  have out : ∀ (items : List SV) (b : Bool), (∀ y ∈ items, Sh.pv y = true) → (∀ M, ∃ o M', ICw ES Zb0 [.agg K, .agg (evC e B)] M = some (.tup [o, .bool b], M') ∧ Zg1 2 o M' items) →
      ∃ z, (∀ get, Za0 (PCw ES) get Zb0 [.agg K, .agg (evC e B)] = some (.tup [z, .bool b])) ∧ Ztp z = true ∧ its z = items ∧ Sh.pv z = true := fun items b hp h => by
    obtain ⟨z, z1, z2, z3, z4⟩ := Zaqk rfl hp h
    exact ⟨z, fun get => Z4 z1 (by simp [hnK, Zac hpe]), z2, z3, z4⟩
  have nil : ∀ b : Bool, (∀ M, ∃ M', ICw ES Zb0 [.agg K, .agg (evC e B)] M = some (.tup [.nilsl, .bool b], M')) → ∃ z, (∀ get, Za0 (PCw ES) get Zb0 [.agg K, .agg (evC e B)] = some (.tup [z, .bool b])) ∧ Sh.pv z = true := fun b h => by
    obtain ⟨z, z1, _, _, z4⟩ := out [] b (by simp) (fun M => by
      obtain ⟨M', hM⟩ := h M
      exact ⟨.nilsl, M', hM, .inl ⟨rfl, rfl⟩⟩)
    exact ⟨z, z1, z4⟩
  by_cases hkl : e.kind = 6 ∨ e.kind = 7
  · have f4 : ¬ e.kind = 4 := by omega
    by_cases i1 : Zam e.a c.links.length
    case neg =>
      have ht : Ze8 c e = false := by simp [Ze8, hkl, i1]
      rw [ht]
      obtain ⟨z, z1, z2⟩ := nil false (fun M => by
        rw [Zh3]
        rcases hkl with f | f <;> simp (maxSteps := 4000000) [Zei, Zf, Zd, Ze, Zl, Zn, Zo, TK.agg, Zb, zeroS, Zi, Zg, splice, Zx, Z5, Zk, evC, f, hlk, g1, hll, Zhg, i1, hbC, hbS])
      exact ⟨z, z1, (fun h => by cases h), z2⟩
    by_cases i2 : Zam e.b 2
    case neg =>
      have ht : Ze8 c e = false := by simp [Ze8, hkl, i2]
      rw [ht]
      obtain ⟨z, z1, z2⟩ := nil false (fun M => by
        rw [Zh3]
        rcases hkl with f | f <;> simp (maxSteps := 4000000) [Zei, Zf, Zd, Ze, Zl, Zn, Zo, TK.agg, Zb, zeroS, Zi, Zg, splice, Zx, Z5, Zk, evC, f, hlk, g1, hll, Zhg, i1, i2, hbC, hbS])
      exact ⟨z, z1, (fun h => by cases h), z2⟩
    have ht : Ze8 c e = true := by simp [Ze8, hkl, i1, i2]
    rw [ht]
    obtain ⟨j, hja⟩ : ∃ j : Nat, e.a = j := ⟨e.a.toNat, by unfold Zam at i1; omega⟩
    have hj : j < c.links.length := by unfold Zam at i1; omega
    obtain ⟨n1, n2, n3, n4, n5, n6⟩ := Zwl hr hj
    have ap := apL hj
    have ap2 : (c.links.map Za2)[j]? = some (.agg [.int .i64 c.links[j].a, .int .i64 c.links[j].b, .int .i64 c.links[j].pa0, .int .i64 c.links[j].pa1, .int .i64 c.links[j].pb0, .int .i64 c.links[j].pb1]) := by rw [List.getElem?_map, List.getElem?_eq_getElem hj]; rfl
    have hpl : Zcp c e = [(c.links[j].a.toNat, (Zd5 c.links[j].pa0 c.links[j].pa1 e.b).toNat), (c.links[j].b.toNat, (Zd5 c.links[j].pb0 c.links[j].pb1 e.b).toNat)] := by
      have : c.links[e.a.toNat]? = some c.links[j] := by rw [hja]; simp [hj]
      simp only [Zcp, hkl, if_true, this]
    generalize c.links.map Za2 = ls at ap ap2
    generalize c.links[j] = k at *
    have bs : ∀ (q : Nat) (u v w x : Int), Zf7 ES.P Zbv 2 q [(0, .agg [.int .i64 u, .int .i64 v]), (1, .agg [.int .i64 w, .int .i64 x])] = some (.own q 2 0 2, [.agg [.int .i64 u, .int .i64 v], .agg [.int .i64 w, .int .i64 x]]) := fun q u v w x => by simp [Zf7, Zb4]
    have hi1 : Zam (j : Int) c.links.length := by rw [← hja]; exact i1
    obtain ⟨z, z1, z2, z3, z4⟩ := out [.agg [.int .i64 k.a, .int .i64 (Zd5 k.pa0 k.pa1 e.b)], .agg [.int .i64 k.b, .int .i64 (Zd5 k.pb0 k.pb1 e.b)]] true (by simp [Sh.pv, pvs]) (fun M => by
      refine ⟨.own (M.next + 4 + 8 + 16) 2 0 2, ?_⟩
      have : ∃ M', ICw ES Zb0 [.agg K, .agg (evC e B)] M = some (.tup [.own (M.next + 4 + 8 + 16) 2 0 2, .bool true], M') ∧ M'.blk (M.next + 4 + 8 + 16) = some [.agg [.int .i64 k.a, .int .i64 (Zd5 k.pa0 k.pa1 e.b)], .agg [.int .i64 k.b, .int .i64 (Zd5 k.pb0 k.pb1 e.b)]] ∧ M.next + 4 + 8 + 16 < M'.next := by
        rw [Zh3]
        unfold Zd5
        have hb : e.b = 0 ∨ e.b = 1 := by unfold Zam at i2; omega
        rcases hkl with f | f <;> rcases hb with g | g <;> simp (maxSteps := 4000000) [Zei, Zf, Zd, Ze, Zl, Zn, Zo, TK.agg, Zb, zeroS, Zi, Zg, splice, Zx, Z5, Zk, evC, f, g, hja, hlk, g1, hll, Zhg, hi1, Zam, ap, ap2, Zny, placesOf, Zeb, bs, hbC, hbS, show (j : Int) < c.links.length by omega]
      obtain ⟨M', q1, q2, q3⟩ := this
      exact ⟨M', q1, .inr ⟨_, rfl, q2, q3⟩⟩)
    refine ⟨z, z1, fun _ => ?_, z4⟩
    rw [hpl]
    refine RSl.of_map z2 ?_
    rw [z3]
    have m3 : 0 ≤ Zd5 k.pa0 k.pa1 e.b := by unfold Zd5 Zam at *; split <;> omega
    have m4 : 0 ≤ Zd5 k.pb0 k.pb1 e.b := by unfold Zd5 Zam at *; split <;> omega
    unfold Zam at n1 n2
    simp only [List.map_cons, List.map_nil, Zno]
    rw [show ((k.a.toNat : Nat) : Int) = k.a by omega, show ((k.b.toNat : Nat) : Int) = k.b by omega, show (((Zd5 k.pa0 k.pa1 e.b).toNat : Nat) : Int) = Zd5 k.pa0 k.pa1 e.b by omega, show (((Zd5 k.pb0 k.pb1 e.b).toNat : Nat) : Int) = Zd5 k.pb0 k.pb1 e.b by omega]
  have f6 : ¬ e.kind = 6 := by omega
  have f7 : ¬ e.kind = 7 := by omega
  by_cases i1 : Zam e.a c.parts.length
  case neg =>
    have ht : Ze8 c e = false := by simp [Ze8, hkl, i1]
    rw [ht]
    by_cases hk4 : e.kind = 4 ∨ e.kind = 5
    · obtain ⟨z, z1, z2⟩ := nil false (fun M => by
        rw [Zh3]
        rcases hk4 with f | f <;> simp (maxSteps := 4000000) [Zei, Zf, Zd, Ze, Zl, Zn, Zo, TK.agg, Zb, zeroS, Zi, Zg, splice, Zx, Z5, Zk, evC, f, hlk, g0, hlp, Zhg, i1, hbC, hbS])
      exact ⟨z, z1, (fun h => by cases h), z2⟩
    · have f4 : ¬ e.kind = 4 := by omega
      have f5 : ¬ e.kind = 5 := by omega
      have bs : ∀ (q : Nat) (u v : Int), Zf7 ES.P Zbv 1 q [(0, .agg [.int .i64 u, .int .i64 v])] = some (.own q 2 0 1, [.agg [.int .i64 u, .int .i64 v]]) := fun q u v => by simp [Zf7, Zb4]
      obtain ⟨z, z1, z2, z3, z4⟩ := out [.agg [.int .i64 e.a, .int .i64 e.b]] false (by simp [Sh.pv, pvs]) (fun M => by
        refine ⟨.own (M.next + 4 + 5) 2 0 1, ?_⟩
        have : ∃ M', ICw ES Zb0 [.agg K, .agg (evC e B)] M = some (.tup [.own (M.next + 4 + 5) 2 0 1, .bool false], M') ∧ M'.blk (M.next + 4 + 5) = some [.agg [.int .i64 e.a, .int .i64 e.b]] ∧ M.next + 4 + 5 < M'.next := by
          rw [Zh3]
          simp (maxSteps := 4000000) [Zei, Zf, Zd, Ze, Zl, Zn, Zo, TK.agg, Zb, zeroS, Zi, Zg, splice, Zx, Z5, Zk, Nat.add_assoc, evC, f4, f5, f6, f7, hlk, g0, hlp, Zhg, i1, Zny, placesOf, Zeb, bs, hbC, hbS]
        obtain ⟨M', q1, q2, q3⟩ := this
        exact ⟨M', q1, .inr ⟨_, rfl, q2, q3⟩⟩)
      exact ⟨z, z1, (fun h => by cases h), z4⟩
  obtain ⟨p, hpa⟩ : ∃ p : Nat, e.a = p := ⟨e.a.toNat, by unfold Zam at i1; omega⟩
  have hp : p < c.parts.length := by unfold Zam at i1; omega
  have hnb := Zks (Ze5 (by simpa [Zcq] using hr)) p
  have hna := Zk2 hp
  obtain ⟨N, hNN⟩ : ∃ N : Nat, c.parts[p].nodes = N := ⟨c.parts[p].nodes.toNat, by omega⟩
  have hna2 : Zbx c e.a = N := by rw [hpa, hna, hNN]
  have hN1 : N ≤ 1000 := by omega
  have ap := apP hp
  have ap2 : (c.parts.map Zc9)[p]? = some (.agg [.int .i64 N, .int .i64 c.parts[p].faults]) := by rw [List.getElem?_map, List.getElem?_eq_getElem hp, ← hNN]; rfl
  have hi1 : Zam (p : Int) c.parts.length := by rw [← hpa]; exact i1
  generalize c.parts.map Zc9 = ps at ap ap2
  by_cases hk4 : e.kind = 4 ∨ e.kind = 5
  · have ht : Ze8 c e = true := by simp [Ze8, hkl, i1, hk4]
    rw [ht]
    have hpl : Zcp c e = (List.range N).map fun i => (p, i) := by
      have : ((Zbx c e.a).toNat : Nat) = N := by omega
      simp only [Zcp, hkl, if_false, hk4, if_true, this]
      rw [hpa]
      simp
    obtain ⟨z, z1, z2, z3, z4⟩ := out ((List.range N).map fun i => Zno (p, i)) true (fun y hy => by
      simp only [List.mem_map] at hy
      obtain ⟨i, _, rfl⟩ := hy
      rfl) (fun M => by
      obtain ⟨r, g2, Ma, o, rfl, hI⟩ := Zr0 (E := ES) (me := Zb0) (B := Zic) (β := SV) (len := N) (T := fun j o => Zf4 (.ptr (M.next + 1) 0 0) o (.int .i64 N) (.int .i64 j))
        (I := fun j o M' => PlI M.next (.agg (evC e B)) o ((List.range j).map fun i => Zno (p, i)) M')
        (Q := fun r => ∃ M' o, r = (.exit 1, ⟨(Zf4 (.ptr (M.next + 1) 0 0) o (.int .i64 N) (.int .i64 N)).set 68 (.bool false), M'⟩) ∧ PlI M.next (.agg (evC e B)) o ((List.range N).map fun i => Zno (p, i)) M')
        (fun j o M' hj hI => by
          left
          obtain ⟨M2, o', q1, q2⟩ := Zani hN1 hpa hj hI
          exact ⟨o', M2, q1, q2⟩)
        (fun o M' hI => ⟨_, by simp [Zic, Zf, Zd, Ze, Zl, TK.agg, zeroS, Zx, Z5, Zf4], by simp, M', o, rfl, hI⟩) 0 .nilsl (((M.bump 4).set M.next (some [.agg K])).set (M.next + 1) (some [.agg (evC e B)])) (by omega)
        ⟨by simp, .inl ⟨rfl, rfl⟩, fun _ _ _ _ h => (by cases h), by show M.next + 4 ≤ M.next + 4; omega⟩
      simp [Zf4] at g2
      refine ⟨o, Ma, ?_, hI.ho⟩
      rw [Zh3]
      simp only [evC] at g2 ⊢
      rcases hk4 with f | f
      · simp only [f, hpa] at g2
        simp (maxSteps := 4000000) [Zei, Zf, Zd, Ze, Zl, Zn, Zo, TK.agg, Zb, zeroS, Zi, Zg, splice, Zx, Z5, Zk, f, hpa, hlk, g0, hlp, Zhg, hi1, ap, ap2, hbC, hbS, Znz, g2]
      · simp only [f, hpa] at g2
        simp (maxSteps := 4000000) [Zei, Zf, Zd, Ze, Zl, Zn, Zo, TK.agg, Zb, zeroS, Zi, Zg, splice, Zx, Z5, Zk, f, hpa, hlk, g0, hlp, Zhg, hi1, ap, ap2, hbC, hbS, Znz, g2])
    refine ⟨z, z1, fun _ => ?_, z4⟩
    rw [hpl]
    refine RSl.of_map z2 ?_
    rw [z3, List.map_map]
    rfl
  · have f4 : ¬ e.kind = 4 := by omega
    have f5 : ¬ e.kind = 5 := by omega
    have bs : ∀ (q : Nat) (u v : Int), Zf7 ES.P Zbv 1 q [(0, .agg [.int .i64 u, .int .i64 v])] = some (.own q 2 0 1, [.agg [.int .i64 u, .int .i64 v]]) := fun q u v => by simp [Zf7, Zb4]
    have ht : Ze8 c e = decide (Zam e.b N) := by
      simp only [Ze8, hkl, if_false, i1, decide_true, Bool.true_and, hk4, decide_false, Bool.false_or, hna2]
    rw [ht]
    obtain ⟨z, z1, z2, z3, z4⟩ := out [.agg [.int .i64 p, .int .i64 e.b]] (decide (Zam e.b N)) (by simp [Sh.pv, pvs]) (fun M => by
      refine ⟨.own (M.next + 4 + 5) 2 0 1, ?_⟩
      have : ∃ M', ICw ES Zb0 [.agg K, .agg (evC e B)] M = some (.tup [.own (M.next + 4 + 5) 2 0 1, .bool (decide (Zam e.b N))], M') ∧ M'.blk (M.next + 4 + 5) = some [.agg [.int .i64 p, .int .i64 e.b]] ∧ M.next + 4 + 5 < M'.next := by
        rw [Zh3]
        simp (maxSteps := 4000000) [Zei, Zf, Zd, Ze, Zl, Zn, Zo, TK.agg, Zb, zeroS, Zi, Zg, splice, Zx, Z5, Zk, Nat.add_assoc, evC, f4, f5, f6, f7, hpa, hlk, g0, hlp, Zhg, hi1, ap, ap2, Zny, placesOf, Zeb, bs, hbC, hbS]
      obtain ⟨M', q1, q2, q3⟩ := this
      exact ⟨M', q1, .inr ⟨_, rfl, q2, q3⟩⟩)
    refine ⟨z, z1, fun hin => ?_, z4⟩
    have hin' : Zam e.b N := by simpa using hin
    unfold Zam at hin'
    have hpl : Zcp c e = [(p, e.b.toNat)] := by
      simp only [Zcp, hkl, if_false, hk4, hpa]
      simp
    rw [hpl]
    refine RSl.of_map z2 ?_
    rw [z3]
    simp only [List.map_cons, List.map_nil, Zno]
    rw [show ((e.b.toNat : Nat) : Int) = e.b by omega]

end Go.Proofs.YtfphjfbknphhjaaGreatDoor

/-
  Walks of the seat's functions: Qi.
-/
set_option linter.unusedVariables false
set_option linter.unusedSimpArgs false
set_option maxRecDepth 100000
namespace Go.Proofs.YtfphjfbknphhjaaGreatDoor
open Go.Proofs.YtfphjfbknphhjaaGreatDoor.Sh
/-! power.Do. -/
/-- Cells of the call's own, each with nodes of its own. -/
structure OwC (b : Nat) (M : Mem) (o : SV) (items : List SV) (cs : List Cel) : Prop where
  ho : Zg1 4 o M items
  go : ∀ id e a q, o = .own id e a q → b ≤ id
  ln : items.length = cs.length
  at' : ∀ (j : Nat) (y : SV) (x : Cel), items[j]? = some y → cs[j]? = some x → ∃ N Ag, y = .agg (clC x N Ag) ∧ NdsO M N x.nodes ∧ Ints Ag x.ages ∧ Sh.pv Ag = true ∧ (∀ id e a q, N = .own id e a q → b ≤ id) ∧ Zark N o
  ap : ∀ (i j : Nat) (y z : SV), i < j → items[i]? = some y → items[j]? = some z → Zark (y.cells.headD .Z) (z.cells.headD .Z)
theorem NdsO.keep {M M' : Mem} {N : SV} {l : List Node} (h : NdsO M N l) (hk : ∀ id e a q, N = .own id e a q → id < M.next → M'.blk id = M.blk id) (hn : M.next ≤ M'.next) : NdsO M' N l := by
  obtain ⟨ns, ho, hr⟩ := h
  refine ⟨ns, ?_, hr⟩
  rcases ho with h1 | ⟨q, rfl, h2, h3⟩
  · exact .inl h1
  · exact .inr ⟨q, rfl, (hk q 8 0 _ rfl h3).trans h2, by omega⟩
theorem OwC.nil (b : Nat) (M : Mem) : OwC b M .nilsl [] [] := ⟨.inl ⟨rfl, rfl⟩, fun _ _ _ _ h => (by cases h), rfl, fun j y x h => by simp at h, fun i j y z _ h => by simp at h⟩
theorem OwC.app {b : Nat} {M M2 : Mem} {o : SV} {items : List SV} {cs : List Cel} (h : OwC b M o items cs) (hM : Old M M2) (hb : b ≤ M.next) {s a : Nat} (hs : M.next ≤ s) (ha : M.next ≤ a) (hal : a < M2.next) (has : a ≠ s) {x : Cel} {N Ag : SV} (hN : NdsO M2 N x.nodes) (hNg : ∀ id e u q, N = .own id e u q → M.next ≤ id ∧ id ≠ s ∧ id ≠ a)
    (hAg : Ints Ag x.ages) (hpA : Sh.pv Ag = true) (hl : items.length ≤ 1000000) :
    ∃ o' k M4, Zef ES.P (M2.set s (some [.agg (clC x N Ag)])).blk a Zt Zt o (.own s 4 0 1) = some (o', k) ∧ (M2.set s (some [.agg (clC x N Ag)])).sets k = M4 ∧ OwC b M4 o' (items ++ [.agg (clC x N Ag)]) (cs ++ [x]) ∧ M4.next = M2.next ∧ (∀ id, id < b → M4.blk id = M.blk id) := by
  have hNs : Ztp N = true ∨ ∃ id e u q, N = .own id e u q := by
    obtain ⟨ns, ho, _⟩ := hN
    rcases ho with ⟨_, e⟩ | ⟨q, e, _⟩
    · exact .inl (by rw [e]; rfl)
    · exact .inr ⟨_, _, _, _, e⟩
  have happ := Zg1.app (P := ES.P) (get := (M2.set s (some [.agg (clC x N Ag)])).blk) (o := o) (M := M) (items := items) (a := a) (s := s) (te := ⟨.struct [(Zj, 0), (Zan, 1)], 4, 64, some (.agg [.nilsl, .bool false, .int .i64 0, .nilsl])⟩) (v := .agg (clC x N Ag)) Zav Zde rfl (by decide) rfl rfl h.ho (by show (items.length + 1) * 64 ≤ 140737488355328; omega) (by omega)
    (fun id hid => by
      have e : ¬ id = s := by omega
      simp [e, hM id hid]) rfl (by simp)
  refine ⟨_, _, _, happ, rfl, ?_, by simp, fun id hid => ?_⟩
  case refine_2 =>
    have e : ¬ id = s := by omega
    have e2 : ¬ id = a := by omega
    rw [Mem.Zr6]
    simp only [Mem.Zaak, Mem.Zaf5, Mem.Ziy, if_neg e2]
    rw [Z1a (fun e' a' q' hh => by have := h.go _ e' a' q' hh; omega)]
    simp [e, hM id (by omega)]
  have hin : ((M2.set s (some [.agg (clC x N Ag)])).sets (Zrd o ++ [(a, some (items ++ [.agg (clC x N Ag)]))])).next = M2.next := by simp
  have hold : ∀ id, id ≠ a → id ≠ s → (∀ e u q, o ≠ .own id e u q) → ((M2.set s (some [.agg (clC x N Ag)])).sets (Zrd o ++ [(a, some (items ++ [.agg (clC x N Ag)]))])).blk id = M2.blk id := fun id h1 h2 h3 => by
    rw [Mem.Zr6]
    simp only [Mem.Zaak, Mem.Zaf5, Mem.Ziy, if_neg h1]
    rw [Z1a h3]
    simp [h2]
  have olt : ∀ id e u q, o = .own id e u q → id < M.next := fun id e u q hh => by
    rcases h.ho with ⟨_, h2⟩ | ⟨q', h2, _, h4⟩
    · rw [h2] at hh; cases hh
    · rw [h2] at hh; cases hh; exact h4
  refine ⟨.inr ⟨a, by simp, ?_, by rw [hin]; exact hal⟩, fun id e u q hh => by cases hh; omega, by simp [h.ln], fun j y z hy hz => ?_, fun i j y z hij hy hz => ?_⟩
  · rw [Mem.Zr6]
    simp
  · by_cases hj : j < items.length
    · rw [List.getElem?_append_left hj] at hy
      rw [List.getElem?_append_left (by have := h.ln; omega)] at hz
      obtain ⟨N1, A1, e1, e2, e3, e4, e5, e6⟩ := h.at' j y z hy hz
      refine ⟨N1, A1, e1, (e2.keep (M' := M2) (fun id e u q hh hid => hM id hid) ?_).keep (fun id e u q hh hid => ?_) (by rw [hin]; exact Nat.le_refl _), e3, e4, e5, fun i1 ea aa qa i2 eb ab qb h1 h2 => ?_⟩
      · omega
      · have hid2 : id < M.next := by
          obtain ⟨ns, ho, _⟩ := e2
          rcases ho with ⟨_, e⟩ | ⟨q', e, _, h9⟩
          · rw [e] at hh; cases hh
          · rw [e] at hh; cases hh; exact h9
        refine hold id (by omega) (by omega) (fun e' u' q' h8 => ?_)
        exact e6 id e u q id e' u' q' hh h8 rfl
      · cases h2
        obtain ⟨ns, ho, _⟩ := e2
        rcases ho with ⟨_, e⟩ | ⟨q', e, _, h9⟩
        · rw [e] at h1; cases h1
        · rw [e] at h1; cases h1; omega
    · have hj2 : j < (items ++ [SV.agg (clC x N Ag)]).length := (List.getElem?_eq_some_iff.1 hy).1
      obtain rfl : j = items.length := by simp at hj2; omega
      rw [List.getElem?_append_right (Nat.le_refl _)] at hy
      rw [h.ln, List.getElem?_append_right (Nat.le_refl _)] at hz
      simp at hy hz
      subst hy hz
      refine ⟨N, Ag, rfl, hN.keep (fun id e u q hh hid => hold id (hNg _ _ _ _ hh).2.2 (hNg _ _ _ _ hh).2.1 (fun e' u' q' h8 => ?_)) (by rw [hin]; exact Nat.le_refl _), hAg, hpA, fun id e u q hh => by have := (hNg _ _ _ _ hh).1; omega, fun i1 ea aa qa i2 eb ab qb h1 h2 => ?_⟩
      · have := olt _ _ _ _ h8
        have := (hNg _ _ _ _ hh).1
        omega
      · cases h2
        exact (hNg _ _ _ _ h1).2.2
  · by_cases hj : j < items.length
    · rw [List.getElem?_append_left hj] at hz
      rw [List.getElem?_append_left (by omega)] at hy
      exact h.ap i j y z hij hy hz
    · have hj2 : j < (items ++ [SV.agg (clC x N Ag)]).length := (List.getElem?_eq_some_iff.1 hz).1
      obtain rfl : j = items.length := by simp at hj2; omega
      rw [List.getElem?_append_right (Nat.le_refl _)] at hz
      rw [List.getElem?_append_left hij] at hy
      simp at hz
      subst hz
      obtain ⟨N1, A1, e1, e2, e3, e4, e5, e6⟩ := h.at' i y (cs[i]'(by have := h.ln; omega)) hy (by simp)
      subst e1
      intro i1 ea aa qa i2 eb ab qb h1 h2
      have h1' : N1 = .own i1 ea aa qa := h1
      have h2' : N = .own i2 eb ab qb := h2
      obtain ⟨ns, ho, _⟩ := e2
      rcases ho with ⟨_, e⟩ | ⟨q', e, _, h9⟩
      · rw [e] at h1'; cases h1'
      · rw [e] at h1'
        cases h1'
        have := (hNg _ _ _ _ h2').1
        omega
/-- A node is set. -/
theorem OwC.put {b : Nat} {M X : Mem} {o : SV} {items : List SV} {cs : List Cel} (h : OwC b M o items cs) (hX : Old M X) (hn : M.next ≤ X.next) {p : Nat} (hp : p < cs.length) {k : Nat} (hk : k < cs[p].nodes.length) :
    ∃ oid q ns Ag, o = .own oid 4 0 items.length ∧ M.blk oid = some items ∧ oid < M.next ∧ items[p]? = some (.agg (clC cs[p] (.own q 8 0 ns.length) Ag)) ∧ M.blk q = some ns ∧ q < M.next ∧ b ≤ q ∧ RSl NdR (.sl ns .ro) cs[p].nodes ∧
      ∀ y n', NdR y n' → OwC b (X.set q (some (ns.set k y))) o items (cs.set p { cs[p] with nodes := cs[p].nodes.set k n' }) := by
  have hpi : p < items.length := by have := h.ln; omega
  obtain ⟨oid, ho1, ho2, ho3⟩ : ∃ oid, o = .own oid 4 0 items.length ∧ M.blk oid = some items ∧ oid < M.next := by
    rcases h.ho with ⟨e, _⟩ | h1
    · rw [e] at hpi; simp at hpi
    · exact h1
  obtain ⟨N, Ag, e1, e2, e3, e4, e5, e6⟩ := h.at' p items[p] cs[p] (by simp [hpi]) (by simp [hp])
  obtain ⟨q, ns, rfl, hq, hlt, hr⟩ := e2.own hk
  have hbq := e5 q 8 0 _ rfl
  have hoq : oid ≠ q := fun hh => e6 q 8 0 _ oid 4 0 _ rfl ho1 hh.symm
  refine ⟨oid, q, ns, Ag, ho1, ho2, ho3, by rw [List.getElem?_eq_getElem hpi, e1], hq, hlt, hbq, hr, fun y n' hy => ⟨.inr ⟨oid, ho1, by simp [hoq, hX oid ho3, ho2], by show oid < X.next; omega⟩, h.go, by simp [h.ln], fun j u x hu hx => ?_, h.ap⟩⟩
  by_cases hj : p = j
  · subst hj
    rw [List.getElem?_set] at hx
    simp only [if_true, hp] at hx
    simp only [Option.some.injEq] at hx
    subst hx
    rw [List.getElem?_eq_getElem hpi, e1] at hu
    simp only [Option.some.injEq] at hu
    subst hu
    refine ⟨.own q 8 0 ns.length, Ag, rfl, ⟨ns.set k y, .inr ⟨q, by simp, by simp, by show q < X.next; omega⟩, RSl.setN hr hy⟩, e3, e4, e5, e6⟩
  · rw [List.getElem?_set] at hx
    simp only [hj, if_false] at hx
    obtain ⟨N2, A2, d1, d2, d3, d4, d5, d6⟩ := h.at' j u x hu hx
    refine ⟨N2, A2, d1, (d2.keep (M' := X) (fun id e a w hh hid => hX id hid) hn).keep (fun id e a w hh hid => ?_) (Nat.le_refl _), d3, d4, d5, d6⟩
    have hne : id ≠ q := by
      have hu0 : items[p]? = some (.agg (clC cs[p] (.own q 8 0 ns.length) Ag)) := by rw [List.getElem?_eq_getElem hpi, e1]
      subst d1 hh
      rcases Nat.lt_or_gt_of_ne hj with hlt2 | hlt2
      · intro he
        exact h.ap p j _ _ hlt2 hu0 hu q 8 0 _ id e a w rfl rfl he.symm
      · intro he
        exact h.ap j p _ _ hlt2 hu hu0 id e a w q 8 0 _ rfl rfl he
    simp [hne]
/-- What such cells look like from outside. -/
theorem OwC.out {b : Nat} {M : Mem} {o : SV} {items : List SV} {cs : List Cel} (h : OwC b M o items cs) (n : Nat) : ∃ z, Sh.pic M.blk true (n + 3) o = some z ∧ Zv7 z cs ∧ Sh.pv z = true := by
  have one : ∀ (y : SV) (x : Cel) (N Ag : SV), y = .agg (clC x N Ag) → NdsO M N x.nodes → Ints Ag x.ages → Sh.pv Ag = true → ∃ y', Sh.pic M.blk true (n + 2) y = some y' ∧ ClR y' x ∧ Sh.pv y' = true := fun y x N Ag e1 e2 e3 e4 => by
    subst e1
    obtain ⟨ns, ho, hr⟩ := e2
    have hns : ∀ z ∈ ns, Sh.pv z = true := fun z hz => by
      obtain ⟨j, hj, rfl⟩ := List.mem_iff_getElem.1 hz
      have hlen : ns.length = x.nodes.length := hr.len
      exact (hr.at' j ns[j] x.nodes[j] (by show ns[j]? = _; simp [hj]) (by simp [show j < x.nodes.length by omega])).pv
    obtain ⟨N', p1, p2, p3⟩ : ∃ N', Sh.pic M.blk true (n + 1) N = some N' ∧ Nds N' x.nodes ∧ Sh.pv N' = true := by
      rcases ho with ⟨rfl, rfl⟩ | ⟨q, rfl, h1, _⟩
      · have : x.nodes = [] := List.length_eq_zero_iff.1 hr.len.symm
        rw [this]
        exact ⟨.nilsl, rfl, RSl.nil _, rfl⟩
      · refine ⟨.sl ns .ro, ?_, hr, by simp [Sh.pv, Zkf.2 hns]⟩
        unfold Sh.pic
        simp only [Sh.pv, Bool.false_eq_true, if_false, h1, Nat.zero_add, if_pos (Nat.le_refl _), List.drop_zero, List.take_length]
        rw [Zmn fun x hx => Zd3 (Zac (hns x hx) _)]
        rfl
    have b1 : Sh.pic M.blk true (n + 1) (.bool x.on) = some (.bool x.on) := Zd3 (Zac rfl _)
    have b2 : Sh.pic M.blk true (n + 1) (.int .i64 x.start) = some (.int .i64 x.start) := Zd3 (Zac rfl _)
    have b3 : Sh.pic M.blk true (n + 1) Ag = some Ag := Zd3 (Zac e4 _)
    refine ⟨.agg (clC x N' Ag), ?_, ⟨N', Ag, rfl, p2, e3, p3, e4⟩, clPv p3 e4⟩
    by_cases hpv : Sh.pv (.agg (clC x N Ag)) = true
    · have hN : Sh.pv N = true := by
        simp only [Sh.pv, clC, pvs, Bool.and_eq_true] at hpv
        exact hpv.1
      rw [Zd3 (Zac hN _)] at p1
      simp only [Option.some.injEq] at p1
      rw [← p1]
      exact Zd3 (Zac hpv _)
    · show Sh.pic M.blk true ((n + 1) + 1) _ = _
      unfold Sh.pic
      rw [if_neg hpv]
      simp [clC, p1, b1, b2, b3]
  rcases h.ho with ⟨rfl, rfl⟩ | ⟨id, rfl, h1, h2⟩
  · have : cs = [] := List.length_eq_zero_iff.1 h.ln.symm
    subst this
    exact ⟨.nilsl, rfl, RSl.nil _, rfl⟩
  · have hln := h.ln
    obtain ⟨items', e1, e2, e3⟩ := mapM_some (f := Sh.pic M.blk true (n + 2)) (items := items) fun y hy => by
      obtain ⟨j, hj, rfl⟩ := List.mem_iff_getElem.1 hy
      obtain ⟨N, Ag, d1, d2, d3, d4, _, _⟩ := h.at' j items[j] cs[j] (by simp [hj]) (by simp [show j < cs.length by omega])
      obtain ⟨y', q1, _, _⟩ := one _ _ N Ag d1 d2 d3 d4
      rw [q1]; rfl
    have key : ∀ (j : Nat) (y : SV) (a : Cel), items'[j]? = some y → cs[j]? = some a → ClR y a ∧ Sh.pv y = true := fun j y a hy ha => by
      have hj : j < items.length := by have := (List.getElem?_eq_some_iff.1 hy).1; omega
      obtain ⟨N, Ag, d1, d2, d3, d4, _, _⟩ := h.at' j items[j] a (by simp [hj]) ha
      obtain ⟨y', q1, q2, q3⟩ := one _ _ N Ag d1 d2 d3 d4
      have := e3 j items[j] y (by simp [hj]) hy
      rw [q1] at this
      cases this
      exact ⟨q2, q3⟩
    have hpv : ∀ y ∈ items', Sh.pv y = true := fun y hy => by
      obtain ⟨j, hj, rfl⟩ := List.mem_iff_getElem.1 hy
      exact (key j items'[j] cs[j] (by simp [hj]) (by simp [show j < cs.length by omega])).2
    refine ⟨.sl items' .ro, ?_, ⟨rfl, by show items'.length = _; omega, fun j y a hy ha => (key j y a hy ha).1⟩, by simp [Sh.pv, Zkf.2 hpv]⟩
    show Sh.pic M.blk true ((n + 2) + 1) _ = _
    unfold Sh.pic
    simp only [Sh.pv, Bool.false_eq_true, if_false, h1, Nat.zero_add, if_pos (Nat.le_refl _), List.drop_zero, List.take_length, e1]
    rfl
/-- A call that hands such cells back, and an errno. -/
theorem Zaap {E : Env} {f : Nat} {n : Int} {args : List SV} {cs : List Cel} (h : ∀ M, ∃ o M' b items, ICw E f args M = some (.tup [o, .int .i64 n], M') ∧ OwC b M' o items cs) : ∃ z, PCw E f args = some (.tup [z, .int .i64 n]) ∧ Zv7 z cs ∧ Sh.pv z = true := by
  obtain ⟨o, M', b, items, h1, h2⟩ := h .empty
  obtain ⟨z, z1, z2, z3⟩ := h2.out 8
  refine ⟨z, Zr8 h1 (v' := .tup [z, .int .i64 n]) ?_ (by simp [Sh.pv, pvs, z3]), z2, z3⟩
  show Sh.pic M'.blk true (11 + 1) (.tup [o, .int .i64 n]) = _
  unfold Sh.pic
  have e : [o, SV.int .i64 n].mapM (Sh.pic M'.blk true 11) = some [z, .int .i64 n] := by simp [z1, Zd3 (Zac (x := .int .i64 n) rfl _)]
  split
  · rename_i hpv
    have : Sh.pv o = true := by simp [Sh.pv, pvs] at hpv; exact hpv
    rw [Zd3 (Zac this _)] at z1
    simp only [Option.some.injEq] at z1
    rw [z1]
  · simp only [e]
/-- A call that hands such cells back, alone. -/
theorem Zajr {E : Env} {f : Nat} {args : List SV} {o : SV} {M' : Mem} {b : Nat} {items : List SV} {cs : List Cel} (h1 : ICw E f args .empty = some (o, M')) (h2 : OwC b M' o items cs) : ∃ z, PCw E f args = some z ∧ Zv7 z cs ∧ Sh.pv z = true := by
  obtain ⟨z, z1, z2, z3⟩ := h2.out 9
  exact ⟨z, Zr8 h1 z1 z3, z2, z3⟩

end Go.Proofs.YtfphjfbknphhjaaGreatDoor

/-
  Walks of the seat's functions: Qj.
-/
set_option linter.unusedVariables false
set_option linter.unusedSimpArgs false
set_option maxRecDepth 100000
namespace Go.Proofs.YtfphjfbknphhjaaGreatDoor
open Go.Proofs.YtfphjfbknphhjaaGreatDoor.Sh
/-! power.Do: its walk. -/
structure DoI (K : List SV) (ev : SV) (m : Nat) (o : SV) (items : List SV) (cs : List Cel) (M : Mem) : Prop where
  hc : M.blk m = some [.agg K]
  he : M.blk (m + 1) = some [ev]
  lt : m + 4 ≤ M.next
  ow : OwC (m + 4) M o items cs
set_option maxHeartbeats 16000000 in
theorem Do_B0 {K : List SV} {e : Evt} {B z : SV} (now : SV) {m : Nat} {x : SV} {l : List Cel} (hx : Zv7 x l) (hs : Short l) {o : SV} {items : List SV} {M : Mem} {j : Nat} (hj : j < l.length) (h : DoI K (.agg (evC e B)) m o items (l.take j) M) :
    ∃ M' o' items', evW ES Zcm Zm2 ⟨Zkc now (.ptr m 0 0) (.ptr (m + 1) 0 0) z o x (.int .i64 l.length) (.int .i64 j), M⟩ = some (.normal, ⟨Zkc now (.ptr m 0 0) (.ptr (m + 1) 0 0) z o' x (.int .i64 l.length) (.int .i64 ((j + 1 : Nat) : Int)), M'⟩) ∧ DoI K (.agg (evC e B)) m o' items' (l.take (j + 1)) M' := by
  have hl1 := hs.1
  have hw : IntKind.i64.wrap ((j : Int) + 1) = (j : Int) + 1 := i64_in (by omega) (by omega)
  obtain ⟨y, ⟨N, A, rfl, hN, hA, q1, q2⟩, hy, ha, _⟩ := hx.item Zav Zde Zwy hj
  obtain ⟨s1, s2, s3⟩ := hs.2 l[j] (List.getElem_mem hj)
  have hlt := h.lt
  obtain ⟨N', A', M2, k1, k2, k3, k4, k5, k6, k7⟩ := Zvy hN hA s1 s3 s2 (((M.bump 4).set (M.next + 2) (some [.agg (clC l[j] N A)])).bump 6)
  have e10 : (((M.bump 4).set (M.next + 2) (some [.agg (clC l[j] N A)])).bump 6).next = M.next + 10 := rfl
  rw [e10] at k6 k7
  have hOld : Old M M2 := fun id hid => by
    have e : ¬ id = M.next + 2 := by omega
    rw [k5 id (by rw [e10]; omega)]
    simp [e]
  have hit : items.length ≤ 1000000 := by
    have := h.ow.ln
    rw [List.length_take] at this
    omega
  obtain ⟨o', k, M4, p1, p2, p3, p4, p5⟩ := h.ow.app (M2 := M2) hOld (by omega) (s := M.next + 4 + 3) (a := M.next + 4 + 4) (by omega) (by omega) (by omega) (by omega) (x := l[j]) (N := N') (Ag := A') k2 (fun id e u q hh => by have := k7 id e u q hh; omega) k3 k4 hit
  have hN' : N'.cells = [N'] ∧ N'.sto = true := by
    obtain ⟨ns, ho, _⟩ := k2
    rcases ho with ⟨_, e⟩ | ⟨q, e, _⟩ <;> rw [e] <;> exact ⟨rfl, rfl⟩
  have bs : ∀ (q : Nat), Zf7 ES.P Zt 1 q [(0, .agg [N', .bool l[j].on, .int .i64 l[j].start, A'])] = some (.own q 4 0 1, [.agg [N', .bool l[j].on, .int .i64 l[j].start, A']]) := fun q => by simp [Zf7, Zb4]
  refine ⟨M4, o', items ++ [.agg (clC l[j] N' A')], ?_, ⟨(p5 m (by omega)).trans h.hc, (p5 (m + 1) (by omega)).trans h.he, by rw [p4]; omega, ?_⟩⟩
  · simp only [clC] at hy k1 p1 p2 ⊢
    simp (maxSteps := 4000000) [Zm2, Zf, Zd, Ze, Zl, Zn, Zo, TK.agg, Zb, zeroS, Zi, Zg, splice, Zx, Z5, Zk, Zkc, hj, ha, hy, k1, bs, p1, p2, hw, hN'.1, hN'.2, Zz hN.sl, Zax hN.sl, Zz hA.sl, Zax hA.sl, Zz k3.sl, Zax k3.sl]
  · rw [List.take_succ_eq_append_getElem hj]
    exact p3
set_option maxHeartbeats 16000000 in
theorem Do_B1 {P L : SV} {c : Cfg} (hP : Zi2 c P L) (hr : Zcq c = true) {l : List Cel} (hl : Zjn c l = true) {e : Evt} {B : SV} (hB : Bytes B e.body) (hpB : Sh.pv B = true) (hk : 1 ≤ e.kind ∧ e.kind ≤ 7) (ht : Ze8 c e = true) {now : Int} (hw1 : I64 (now * c.cycle)) {z : SV} (hz : RSl (fun y q => y = Zno q) z (Zcp c e)) (hzl : (Zcp c e).length ≤ 1000)
    {m : Nat} {o : SV} {items : List SV} {M : Mem} {j : Nat} (hj : j < (Zcp c e).length) (h : DoI (Z7 c P L) (.agg (evC e B)) m o items (((Zcp c e).take j).foldl (upd fun n => Zjm c n now e) l) M) :
    ∃ M', evW ES Zcm Zm0 ⟨Zj3 (.int .i64 now) (.ptr m 0 0) (.ptr (m + 1) 0 0) o z (.int .i64 (Zcp c e).length) (.int .i64 j), M⟩ = some (.normal, ⟨Zj3 (.int .i64 now) (.ptr m 0 0) (.ptr (m + 1) 0 0) o z (.int .i64 (Zcp c e).length) (.int .i64 ((j + 1 : Nat) : Int)), M'⟩) ∧
      DoI (Z7 c P L) (.agg (evC e B)) m o items (((Zcp c e).take (j + 1)).foldl (upd fun n => Zjm c n now e) l) M' := by
  have hw : IntKind.i64.wrap ((j : Int) + 1) = (j : Int) + 1 := i64_in (by omega) (by omega)
  have hmem : (Zcp c e)[j] ∈ Zcp c e := List.getElem_mem hj
  rw [Zwe hj]
  have hq1 := RSl.at hz Znh Zn6 (fun _ => rfl) hj
  have hq2 : ((Zcp c e).map Zno)[j]? = some (Zno (Zcp c e)[j]) := by simp [hj]
  generalize (Zcp c e).map Zno = zs at hq1 hq2
  generalize hcs : ((Zcp c e).take j).foldl (upd fun n => Zjm c n now e) l = cs at *
  have hul := Zatp (fun n => Zjm c n now e) ((Zcp c e).take j) l
  rw [hcs] at hul
  generalize (Zcp c e)[j] = pk at *
  obtain ⟨p, k⟩ := pk
  obtain ⟨hp, hkk⟩ := Zaic hr hl ht hmem
  have hp' : p < cs.length := by omega
  have hk' : k < cs[p].nodes.length := by rw [hul.2 p hp' hp]; exact hkk
  rw [Zav9 hp' hk']
  have hlt := h.lt
  have hc := h.hc
  have he := h.he
  obtain ⟨oid, q, ns, Ag, r1, r2, r3, r4, r5, r6, r7, r8, r9⟩ := h.ow.put (X := (M.bump 4).set (M.next + 2) (some [Zno (p, k)])) (fun id hid => by
    have e : ¬ id = M.next + 2 := by omega
    simp [e]) (by show M.next ≤ M.next + 4; omega) hp' hk'
  have hln : ns.length = cs[p].nodes.length := r8.len
  have hkn : k < ns.length := by omega
  obtain ⟨A, ej, hA, hpA⟩ := r8.at' k ns[k] cs[p].nodes[k] (by show ns[k]? = _; simp [hkn]) (by simp [hk'])
  have hgk : ns[k]? = some (.agg (ndC cs[p].nodes[k] A)) := by rw [List.getElem?_eq_getElem hkn, ej]
  obtain ⟨y, y1, y2⟩ := Z3w hP hA hpA hw1 (ey := .agg (evC e B)) ⟨B, rfl, hB, hpB⟩ hk
  have hlk : (Z7 c P L).length = 13 := rfl
  generalize Z7 c P L = K at *
  have hpi : p < items.length := by have := h.ow.ln; omega
  have ix1 : Z9 ES.P Zt (.own oid 4 0 items.length) (.int .i64 p) = some (.ptr oid p 0) := by simp [Z9, Zs4, hpi]
  have ix2 : Z9 ES.P Zj (.own q 8 0 ns.length) (.int .i64 k) = some (.ptr q k 0) := by simp [Z9, Zs4, hkn]
  have d1 : ¬ oid = M.next + 2 := by omega
  have d2 : ¬ q = M.next + 2 := by omega
  have d3 : ¬ m = M.next + 2 := by omega
  have d4 : ¬ m + 1 = M.next + 2 := by omega
  have d5 : ¬ m = q := by omega
  have d6 : ¬ m + 1 = q := by omega
  have d7 : ¬ m = M.next + 1 := by omega
  have hyc : y.cells.length = 8 ∧ y.sto = true ∧ Zg (.agg (ndC cs[p].nodes[k] A)) 0 y = some y := by
    obtain ⟨A2, rfl, _, _⟩ := y2
    exact ⟨rfl, rfl, rfl⟩
  refine ⟨((M.bump 4).set (M.next + 2) (some [Zno (p, k)])).set q (some (ns.set k y)), ?_, ⟨by simp [d3, d5, hc], by simp [d4, d6, d7, he], by show m + 4 ≤ M.next + 4; omega, r9 y _ y2⟩⟩
  have st : ∀ get : Nat → Option (List SV), get q = some ns → Zi ES.P get Zh (.ptr q k 0) y = some [(q, some (ns.set k y))] := fun get hg => Z4q Zb8 hg hgk hyc.2.1 hyc.1 hyc.2.2
  subst r1
  simp only [clC] at r4
  have ld1 : ∀ get : Nat → Option (List SV), get oid = some items → Zn ES.P get Zj (.ptr oid p 0) = some (.own q 8 0 ns.length) := fun get hg => Zij Zae hg r4 (by simp [Zo, TK.agg])
  have ld2 : ∀ get : Nat → Option (List SV), get q = some ns → Zn ES.P get Zh (.ptr q k 0) = some (.agg (ndC cs[p].nodes[k] A)) := fun get hg => Zij Zb8 hg hgk (by simp [Zo, TK.agg, ndC])
  have ld3 : ∀ get : Nat → Option (List SV), get (m + 1) = some [.agg (evC e B)] → Zn ES.P get Zu (.ptr (m + 1) 0 0) = some (.agg (evC e B)) := fun get hg => Zij Zqm hg (x := .agg (evC e B)) rfl (by simp [Zo, TK.agg, evC])
  have ld4 : ∀ get : Nat → Option (List SV), get m = some [.agg K] → Zn ES.P get Za (.ptr m 0 0) = some (.agg K) := fun get hg => Zij Z71 hg (x := .agg K) rfl (by simp [Zo, TK.agg, hlk])
  have ld5 : ∀ get : Nat → Option (List SV), get (M.next + 2) = some [Zno (p, k)] → Zn ES.P get Zc (.ptr (M.next + 2) 0 0) = some (.int .i64 p) := fun get hg => Zij Zes hg (x := Zno (p, k)) rfl (by simp [Zo, TK.agg, Zno])
  have ld6 : ∀ get : Nat → Option (List SV), get (M.next + 2) = some [Zno (p, k)] → Zn ES.P get Zc (.ptr (M.next + 2) 0 1) = some (.int .i64 k) := fun get hg => Zij Zes hg (x := Zno (p, k)) rfl (by simp [Zo, TK.agg, Zno])
  have ld7 : ∀ get st, Zn ES.P get Zc7 (.rptr zs j 0 st) = some (Zno (p, k)) := fun get st => Zl4 Zn6 hq2 (by simp [Zo, TK.agg, Zno])
  have stp : ∀ (get : Nat → Option (List SV)), get (M.next + 2) = some [.agg [.int .i64 0, .int .i64 0]] → Zi ES.P get Zc7 (.ptr (M.next + 2) 0 0) (Zno (p, k)) = some [(M.next + 2, some [Zno (p, k)])] := fun get hg => Z4q Zn6 hg (x := .agg [.int .i64 0, .int .i64 0]) rfl rfl rfl (by simp [Zg, Zno])
  simp (maxSteps := 4000000) [Zm0, Zf, Zd, Ze, Zl, TK.agg, Zb, zeroS, Zx, Z5, Zj3, hj, hq1, ix1, ix2, ld1, ld2, ld3, ld4, ld5, ld6, ld7, stp, st, r2, r5, hc, he, y1, hw, d1, d2, d3, d4, d5, d6, d7, Mem.set2]
theorem Zaio {c : Cfg} (hr : Zcq c = true) {e : Evt} (ht : Ze8 c e = true) : (Zcp c e).length ≤ 1000 := by
  unfold Zcp
  split
  · split <;> simp
  split
  · simp only [List.length_map, List.length_range]
    have := Zks (Ze5 (by simpa [Zcq] using hr)) e.a
    omega
  · simp
set_option maxHeartbeats 16000000 in
theorem Zv9 {P L : SV} {c : Cfg} (hP : Zi2 c P L) (hpv : Sh.pv (.agg (Z7 c P L)) = true) {x : SV} {l : List Cel} (hx : Zv7 x l) (hpx : Sh.pv x = true) (hs : Short l) (now : Int) {e : Evt} {ey : SV} (hey : EvR ey e) :
    ∃ z, (∀ get, Za0 (PCw ES) get Zcm [.agg (Z7 c P L), x, .int .i64 now, ey] = some (.tup [z, .int .i64 (doG c l now e).2])) ∧ Zv7 z (doG c l now e).1 ∧ Sh.pv z = true := by
  have hpe := hey.pv
  have km := fun get => Zadn get hP hpv hx hpx hs now hey
  have hlx := hx.Zex Zav
  have hnK := hP.npA
  have run : ∀ (n : Int) (cs : List Cel), (∀ M, ∃ o M' b items, ICw ES Zcm [.agg (Z7 c P L), x, .int .i64 now, ey] M = some (.tup [o, .int .i64 n], M') ∧ OwC b M' o items cs) → ∃ z, (∀ get, Za0 (PCw ES) get Zcm [.agg (Z7 c P L), x, .int .i64 now, ey] = some (.tup [z, .int .i64 n])) ∧ Zv7 z cs ∧ Sh.pv z = true := fun n cs h => by
    obtain ⟨z, z1, z2, z3⟩ := Zaap h
    exact ⟨z, fun get => Z4 z1 (by simp [hnK, Zac hpe, Zac hpx]), z2, z3⟩
  cases hm : Zxt c l now e with
  | false =>
    rw [hm] at km
    rw [Zafq (by rw [hm]; rfl)]
    refine run 1 [] (fun M => ?_)
    have : ∃ M', ICw ES Zcm [.agg (Z7 c P L), x, .int .i64 now, ey] M = some (.tup [.nilsl, .int .i64 1], M') := by
      obtain ⟨B, rfl, hB, hpB⟩ := hey
      have hlk : (Z7 c P L).length = 13 := rfl
      generalize Z7 c P L = K at *
      rw [Zwh]
      simp only [evC] at km ⊢
      simp (maxSteps := 4000000) [Zrj, Zf, Zd, Ze, Zl, Zn, Zo, TK.agg, Zb, zeroS, Zi, Zg, splice, Zx, Z5, Zk, hlk, km, Zz hB.sl, Zax hB.sl]
    obtain ⟨M', hM⟩ := this
    exact ⟨_, M', 0, [], hM, OwC.nil 0 M'⟩
  | true =>
  rw [hm] at km
  obtain ⟨hfit, hnow, hcl, hk, hv⟩ := Zabp hm
  have hr := Z4k hfit
  have hir := Zg7 (Zec.1 hfit).2.1
  have hw1 : I64 (now * c.cycle) := by
    have hcy := hir.cy
    have h1 : 0 ≤ now * c.cycle := Int.mul_nonneg hnow.1 (by omega)
    have h2 : now * c.cycle ≤ 1000 * 1000000 := Int.mul_le_mul hnow.2 hcy.2 (by omega) (by decide)
    unfold I64
    omega
  obtain ⟨z, z1, z2, z3⟩ := Z3j hP hr hey hk
  cases ht : Ze8 c e with
  | false =>
    rw [ht] at z1
    rw [Zafq (by rw [ht]; simp)]
    refine run 1 [] (fun M => ?_)
    have : ∃ M', ICw ES Zcm [.agg (Z7 c P L), x, .int .i64 now, ey] M = some (.tup [.nilsl, .int .i64 1], M') := by
      obtain ⟨B, rfl, hB, hpB⟩ := hey
      have hlk : (Z7 c P L).length = 13 := rfl
      generalize Z7 c P L = K at *
      rw [Zwh]
      simp only [evC] at km z1 ⊢
      simp (maxSteps := 4000000) [Zrj, Zf, Zd, Ze, Zl, Zn, Zo, TK.agg, Zb, zeroS, Zi, Zg, splice, Zx, Z5, Zk, hlk, km, z1, Zz hB.sl, Zax hB.sl]
    obtain ⟨M', hM⟩ := this
    exact ⟨_, M', 0, [], hM, OwC.nil 0 M'⟩
  | true =>
  rw [ht] at z1
  have hz := z2 ht
  have hlz := hz.Zex Znh
  have hpl := Zaio hr ht
  rw [Zalg hm ht]
  refine run 0 _ (fun M => ?_)
  rw [← Zar3 hr hcl ht]
  obtain ⟨B, rfl, hB, hpB⟩ := hey
  have step2 := fun {o : SV} {items : List SV} {M' : Mem} {j : Nat} (hj : j < (Zcp c e).length) => @Do_B1 P L c hP hr l hcl e B hB hpB hk ht now hw1 z hz hpl M.next o items M' j hj
  have hlk : (Z7 c P L).length = 13 := rfl
  generalize Z7 c P L = K at *
  obtain ⟨r1, g1, Ma, o, items, rfl, hI⟩ := Zr0 (E := ES) (me := Zcm) (B := Zm2) (β := SV × List SV) (len := l.length) (T := fun j o => Zkc (.int .i64 now) (.ptr M.next 0 0) (.ptr (M.next + 1) 0 0) z o.1 x (.int .i64 l.length) (.int .i64 j))
    (I := fun j o M' => DoI K (.agg (evC e B)) M.next o.1 o.2 (l.take j) M')
    (Q := fun r => ∃ M' o items, r = (.exit 0, ⟨(Zkc (.int .i64 now) (.ptr M.next 0 0) (.ptr (M.next + 1) 0 0) z o x (.int .i64 l.length) (.int .i64 l.length)).set 35 (.bool false), M'⟩) ∧ DoI K (.agg (evC e B)) M.next o items l M')
    (fun j o M' hj hI => by
      left
      obtain ⟨M2, o', items', q1, q2⟩ := Do_B0 (z := z) (.int .i64 now) hx hs hj hI
      exact ⟨(o', items'), M2, q1, q2⟩)
    (fun o M' hI => ⟨_, by simp [Zm2, Zf, Zd, Ze, Zl, TK.agg, zeroS, Zx, Z5, Zkc], by simp, M', o.1, o.2, rfl, by simpa using hI⟩) 0 (.nilsl, []) (((M.bump 4).set M.next (some [.agg K])).set (M.next + 1) (some [.agg (evC e B)])) (by omega)
    ⟨by simp, by simp, by show M.next + 4 ≤ M.next + 4; omega, OwC.nil _ _⟩
  obtain ⟨r2, g2, Mb, rfl, hJ⟩ := Zke (E := ES) (me := Zcm) (B := Zm0) (len := (Zcp c e).length) (T := fun j => Zj3 (.int .i64 now) (.ptr M.next 0 0) (.ptr (M.next + 1) 0 0) o z (.int .i64 (Zcp c e).length) (.int .i64 j))
    (I := fun j M' => DoI K (.agg (evC e B)) M.next o items (((Zcp c e).take j).foldl (upd fun n => Zjm c n now e) l) M')
    (Q := fun r => ∃ M', r = (.exit 2, ⟨(Zj3 (.int .i64 now) (.ptr M.next 0 0) (.ptr (M.next + 1) 0 0) o z (.int .i64 (Zcp c e).length) (.int .i64 (Zcp c e).length)).set 47 (.bool false), M'⟩) ∧ DoI K (.agg (evC e B)) M.next o items ((Zcp c e).foldl (upd fun n => Zjm c n now e) l) M')
    (fun j M' hj hI => .inl (step2 hj hI))
    (fun M' hI => ⟨_, by simp [Zm0, Zf, Zd, Ze, Zl, TK.agg, zeroS, Zx, Z5, Zj3], by simp, M', rfl, by simpa using hI⟩) 0 Ma (by omega) (by simpa using hI)
  simp [Zkc] at g1
  simp [Zj3] at g2
  refine ⟨o, Mb, _, items, ?_, hJ.ow⟩
  rw [Zwh]
  simp only [evC] at km z1 g1 g2 ⊢
  simp (maxSteps := 4000000) [Zrj, Zf, Zd, Ze, Zl, Zn, Zo, TK.agg, Zb, zeroS, Zi, Zg, splice, Zx, Z5, Zk, hlk, km, z1, hlx, hlz, Zu2, Zvb, g1, g2, Zz hB.sl, Zax hB.sl]

end Go.Proofs.YtfphjfbknphhjaaGreatDoor
