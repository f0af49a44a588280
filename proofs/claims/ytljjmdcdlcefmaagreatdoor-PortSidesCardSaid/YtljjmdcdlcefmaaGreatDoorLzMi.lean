/-
  Walks of the seat's functions: Ob.
-/
import Derived.Test.YtljjmdcdlcefmaaGreatDoorEbMa
import Derived.Test.YtljjmdcdlcefmaaGreatDoorShMb
import Derived.Test.YtljjmdcdlcefmaaGreatDoorLOa
import Derived.Test.YtljjmdcdlcefmaaGreatDoorLHa
set_option linter.unusedVariables false
set_option linter.unusedSimpArgs false
set_option maxRecDepth 100000
namespace Go.Proofs.YtljjmdcdlcefmaaGreatDoor
open Go.Proofs.YtljjmdcdlcefmaaGreatDoor.Sh
/-! port.Up, port.Pair and the document's own; other sides. -/
def upG (c : Cfg) (l : List Cel) (link gate : Int) : Bool :=
  shapedB c l && decide (0 ≤ link ∧ link < c.links.length) && decide (gate = 0 ∨ gate = 1) && (match c.links[link.toNat]? with | some k => litG l k gate | none => false)
set_option maxHeartbeats 8000000 in
theorem port_Up_c (get) {P L : SV} {c : Cfg} (hP : CfgP c P L) {x : SV} {l : List Cel} (hx : Cels x l) (hnp : Sh.np picDepth x = true) (hl : l.length ≤ 17592186044416) (link gate : Int) :
    callP (PCw ES) get n_port_Up [.agg (cfgC c P L), .int .i64 link, .int .i64 gate, x] = some (.bool (upG c l link gate)) := by
  refine callP_of (PCw_ex (fun M0 => ?_) rfl) (by simp [hP.npA, hnp])
  rw [b_port_Up]
  have h1 := fun get => port_right_c get hP hx hnp hl
  have hlenl := hP.l.lenS ti_sl_api_Link
  have hLit := fun (hs : shapedB c l = true) (j : Nat) (hj : j < c.links.length) (hg : gate = 0 ∨ gate = 1) get => port_Lit_c get hP hx hnp hs hj hg
  have hlk : (cfgC c P L).length = 13 := rfl
  have hK1' : (cfgC c P L)[1]? = some L := rfl
  generalize cfgC c P L = K at *
  have hK1 : K[1]'(by omega) = L := by simpa [hlk] using hK1'
  unfold upG
  cases hs : shapedB c l with
  | false =>
    rw [hs] at h1
    simp [c_port_Up, evW_reg, evW_chkr, evW_chfr, isCst, loadS, partS, TK.agg, fieldAddrS, zeroS, storeS, setPart, splice, endS, resS, fieldS, h1, hlk, hK1, hlenl]
  | true =>
    rw [hs] at h1
    by_cases c1 : 0 ≤ link
    case neg =>
      simp [c_port_Up, evW_reg, evW_chkr, evW_chfr, isCst, loadS, partS, TK.agg, fieldAddrS, zeroS, storeS, setPart, splice, endS, resS, fieldS, h1, hlk, hK1, hlenl, c1]
    by_cases c2 : link < c.links.length
    case neg =>
      simp [c_port_Up, evW_reg, evW_chkr, evW_chfr, isCst, loadS, partS, TK.agg, fieldAddrS, zeroS, storeS, setPart, splice, endS, resS, fieldS, h1, hlk, hK1, hlenl, c1, c2]
    obtain ⟨j, rfl⟩ : ∃ j : Nat, link = j := ⟨link.toNat, by omega⟩
    have hj : j < c.links.length := by omega
    have hlit := hLit hs j hj
    by_cases g0 : gate = 0
    · subst g0
      have k1 := hlit (.inl rfl)
      simp [c_port_Up, evW_reg, evW_chkr, evW_chfr, isCst, loadS, partS, TK.agg, fieldAddrS, zeroS, storeS, setPart, splice, endS, resS, fieldS, h1, hlk, hK1, hlenl, hj, k1]
    · by_cases g1 : gate = 1
      · subst g1
        have k1 := hlit (.inr rfl)
        simp [c_port_Up, evW_reg, evW_chkr, evW_chfr, isCst, loadS, partS, TK.agg, fieldAddrS, zeroS, storeS, setPart, splice, endS, resS, fieldS, h1, hlk, hK1, hlenl, hj, k1]
      · have hg : ¬ (gate = 0 ∨ gate = 1) := by omega
        by_cases g2 : 0 ≤ gate
        · have g3 : ¬ gate < 2 := by omega
          simp [c_port_Up, evW_reg, evW_chkr, evW_chfr, isCst, loadS, partS, TK.agg, fieldAddrS, zeroS, storeS, setPart, splice, endS, resS, fieldS, h1, hlk, hK1, hlenl, hj, g2, g3, g0, g1]
        · simp [c_port_Up, evW_reg, evW_chkr, evW_chfr, isCst, loadS, partS, TK.agg, fieldAddrS, zeroS, storeS, setPart, splice, endS, resS, fieldS, h1, hlk, hK1, hlenl, hj, g2, g0, g1]
set_option maxHeartbeats 8000000 in
theorem r17_Up_c (get) {P L : SV} {c : Cfg} (hP : CfgP c P L) {x : SV} {l : List Cel} (hx : Cels x l) (hnp : Sh.np picDepth x = true) (hl : l.length ≤ 17592186044416) (link gate : Int) :
    callP (PCw ES) get n_r17_Up [.agg (cfgC c P L), .int .i64 link, .int .i64 gate, x] = some (.bool (upG c l link gate)) := by
  refine callP_of (PCw_ex (fun M0 => ?_) rfl) (by simp [hP.npA, hnp])
  rw [b_r17_Up]
  have h1 := fun get => r17_shaped_c get hP hx hnp hl
  have hlenl := hP.l.lenS ti_sl_api_Link
  have hla := fun (j : Nat) (hj : j < c.links.length) => Links.at hP.l hj
  have hlk : (cfgC c P L).length = 13 := rfl
  have hK1' : (cfgC c P L)[1]? = some L := rfl
  generalize cfgC c P L = K at *
  have hK1 : K[1]'(by omega) = L := by simpa [hlk] using hK1'
  unfold upG
  cases hs : shapedB c l with
  | false =>
    rw [hs] at h1
    simp [c_r17_Up, evW_reg, evW_chkr, evW_chfr, isCst, loadS, partS, TK.agg, fieldAddrS, zeroS, storeS, setPart, splice, endS, resS, fieldS, h1, hlk, hK1, hlenl]
  | true =>
    rw [hs] at h1
    by_cases c1 : link < 0
    · have : ¬ 0 ≤ link := by omega
      simp [c_r17_Up, evW_reg, evW_chkr, evW_chfr, isCst, loadS, partS, TK.agg, fieldAddrS, zeroS, storeS, setPart, splice, endS, resS, fieldS, h1, hlk, hK1, hlenl, c1, this]
    by_cases c2 : (c.links.length : Int) ≤ link
    · have : ¬ link < c.links.length := by omega
      simp [c_r17_Up, evW_reg, evW_chkr, evW_chfr, isCst, loadS, partS, TK.agg, fieldAddrS, zeroS, storeS, setPart, splice, endS, resS, fieldS, h1, hlk, hK1, hlenl, c1, c2, this]
    obtain ⟨j, rfl⟩ : ∃ j : Nat, link = j := ⟨link.toNat, by omega⟩
    have hj : j < c.links.length := by omega
    have ha := hla j hj
    have ha2 : (c.links.map encLink)[j]? = some (.agg [.int .i64 c.links[j].a, .int .i64 c.links[j].b, .int .i64 c.links[j].pa0, .int .i64 c.links[j].pa1, .int .i64 c.links[j].pb0, .int .i64 c.links[j].pb1]) := by rw [List.getElem?_map, List.getElem?_eq_getElem hj]; rfl
    obtain ⟨i1, i2, i3, i4, i5, i6⟩ := link_nodes (shaped_spec hs).1 hj
    have hc2 : ¬ c.links.length ≤ j := by omega
    generalize c.links.map encLink = ls at ha ha2
    by_cases g0 : gate = 0
    · subst g0
      simp only [Int.toNat_natCast, List.getElem?_eq_getElem hj, litG, gateEnd, if_true]
      generalize c.links[j] = k at *
      obtain ⟨N1, o1, s1, A1, z1, w1, B1, p1, p2, p3, p4, _, _, p5⟩ := cell_at hx (shaped_node hs i1 i3).1 (shaped_node hs i1 i3).2
      obtain ⟨N2, o2, s2, A2, z2, w2, B2, q1, q2, q3, q4, _, _, q5⟩ := cell_at hx (shaped_node hs i2 i5).1 (shaped_node hs i2 i5).2
      simp only [ndC] at p4 q4
      by_cases e1 : (nodeAt l k.a k.pa0).state = 0 <;> simp (maxSteps := 4000000) [c_r17_Up, evW_reg, evW_chkr, evW_chfr, isCst, loadS, partS, TK.agg, fieldAddrS, zeroS, storeS, setPart, splice, endS, resS, fieldS, h1, hlk, hK1, hlenl, hj, c1, hc2, ha, ha2, p1, p2, p3, p4, q1, q2, q3, q4, e1]
    · by_cases g1 : gate = 1
      · subst g1
        simp only [Int.toNat_natCast, List.getElem?_eq_getElem hj, litG, gateEnd]
        generalize c.links[j] = k at *
        obtain ⟨N1, o1, s1, A1, z1, w1, B1, p1, p2, p3, p4, _, _, p5⟩ := cell_at hx (shaped_node hs i1 i4).1 (shaped_node hs i1 i4).2
        obtain ⟨N2, o2, s2, A2, z2, w2, B2, q1, q2, q3, q4, _, _, q5⟩ := cell_at hx (shaped_node hs i2 i6).1 (shaped_node hs i2 i6).2
        simp only [ndC] at p4 q4
        by_cases e1 : (nodeAt l k.a k.pa1).state = 0 <;> simp (maxSteps := 4000000) [c_r17_Up, evW_reg, evW_chkr, evW_chfr, isCst, loadS, partS, TK.agg, fieldAddrS, zeroS, storeS, setPart, splice, endS, resS, fieldS, h1, hlk, hK1, hlenl, hj, c1, hc2, ha, ha2, p1, p2, p3, p4, q1, q2, q3, q4, e1]
      · by_cases g2 : gate < 0
        · simp [c_r17_Up, evW_reg, evW_chkr, evW_chfr, isCst, loadS, partS, TK.agg, fieldAddrS, zeroS, storeS, setPart, splice, endS, resS, fieldS, h1, hlk, hK1, hlenl, hj, c1, hc2, g2, g0, g1]
        · have g3 : 1 < gate := by omega
          simp [c_r17_Up, evW_reg, evW_chkr, evW_chfr, isCst, loadS, partS, TK.agg, fieldAddrS, zeroS, storeS, setPart, splice, endS, resS, fieldS, h1, hlk, hK1, hlenl, hj, c1, hc2, g2, g3, g0, g1]
theorem port_Pair_c (get) {P L : SV} {c : Cfg} (hP : CfgP c P L) {x : SV} {l : List Cel} (hx : Cels x l) (hnp : Sh.np picDepth x = true) (hl : l.length ≤ 17592186044416) (link : Int) :
    callP (PCw ES) get n_port_Pair [.agg (cfgC c P L), .int .i64 link, x] = some (.bool (upG c l link 0 || upG c l link 1)) := by
  refine callP_of (PCw_ex (fun M0 => ?_) rfl) (by simp [hP.npA, hnp])
  rw [b_port_Pair]
  have h1 := fun get g => port_Up_c get hP hx hnp hl link g
  have hlk : (cfgC c P L).length = 13 := rfl
  generalize cfgC c P L = K at *
  cases hu : upG c l link 0 <;> simp [c_port_Pair, evW_reg, evW_chkr, evW_chfr, isCst, loadS, partS, TK.agg, fieldAddrS, zeroS, storeS, setPart, splice, endS, resS, fieldS, h1, hlk, hu]
theorem r17_Pair_c (get) {P L : SV} {c : Cfg} (hP : CfgP c P L) {x : SV} {l : List Cel} (hx : Cels x l) (hnp : Sh.np picDepth x = true) (hl : l.length ≤ 17592186044416) (link : Int) :
    callP (PCw ES) get n_r17_Pair [.agg (cfgC c P L), .int .i64 link, x] = some (.bool (upG c l link 0 || upG c l link 1)) := by
  refine callP_of (PCw_ex (fun M0 => ?_) rfl) (by simp [hP.npA, hnp])
  rw [b_r17_Pair]
  have h1 := fun get g => r17_Up_c get hP hx hnp hl link g
  have hlk : (cfgC c P L).length = 13 := rfl
  generalize cfgC c P L = K at *
  cases hu : upG c l link 0 <;> simp [c_r17_Pair, evW_reg, evW_chkr, evW_chfr, isCst, loadS, partS, TK.agg, fieldAddrS, zeroS, storeS, setPart, splice, endS, resS, fieldS, h1, hlk, hu]

end Go.Proofs.YtljjmdcdlcefmaaGreatDoor

/-
  Walks of the seat's functions: Oc.
-/
set_option linter.unusedVariables false
set_option linter.unusedSimpArgs false
set_option maxRecDepth 100000
namespace Go.Proofs.YtljjmdcdlcefmaaGreatDoor
open Go.Proofs.YtljjmdcdlcefmaaGreatDoor.Sh
/-! Other sides of ports: port.Fars, the document's Fars. -/
structure FarV where
  on : Bool
  start : Int
  cycle : Int
  ages : List Int
def FrR (y : SV) (f : FarV) : Prop := ∃ A, y = .agg [.bool f.on, .int .i64 f.start, .int .i64 f.cycle, A] ∧ Ints A f.ages ∧ Sh.pv A = true
def FarsR (x : SV) (l : List FarV) : Prop := RSl FrR x l
def seeG (l : List Cel) (q : Int × Int) : FarV := if (nodeAt l q.1 q.2).state = 2 then ⟨true, (nodeAt l q.1 q.2).start, (nodeAt l q.1 q.2).cycle, (nodeAt l q.1 q.2).ages⟩ else ⟨false, 0, 0, []⟩
def farsG (c : Cfg) (part : Int) (l : List Cel) : List FarV := if shapedB c l then (portsG c part).map fun p => seeG l (farOf c.links p) else []
theorem FarsR.snoc {items : List SV} {l : List FarV} {tl : Tl} (h : RSl FrR (.sl items tl) l) {y : SV} {f : FarV} (hy : FrR y f) : RSl FrR (.sl (items ++ [y]) tl) (l ++ [f]) := by
  have hlen : items.length = l.length := h.len
  refine ⟨rfl, by show (items ++ [y]).length = _; simp [hlen], fun j u a hu ha => ?_⟩
  have hu' : (items ++ [y])[j]? = some u := hu
  by_cases hj : j < items.length
  · rw [List.getElem?_append_left hj] at hu'
    rw [List.getElem?_append_left (by omega)] at ha
    exact h.at' j u a hu' ha
  · have hj2 : j < (items ++ [y]).length := (List.getElem?_eq_some_iff.1 hu').1
    obtain rfl : j = items.length := by simp at hj2; omega
    rw [List.getElem?_append_right (Nat.le_refl _)] at hu'
    rw [hlen, List.getElem?_append_right (Nat.le_refl _)] at ha
    simp at hu' ha
    rw [← hu', ← ha]
    exact hy
/-- The other side of a port is a node that there is to be. -/
theorem ports_far {c : Cfg} {part : Int} {p : Port} (h : p ∈ portsG c part) : PortIn c.links p ∧ inMany (farOf c.links p).1 c.parts.length ∧ inMany (farOf c.links p).2 (nodesAt c (farOf c.links p).1) ∧ portG c part p.node = some p := by
  unfold portsG at h
  split at h
  case isFalse => simp at h
  rename_i hh
  simp only [Bool.and_eq_true, decide_eq_true_eq] at hh
  obtain ⟨hr, hin⟩ := hh
  have he : checkErr c = none := checkG_zero (by simpa [rightC] using hr)
  have hok := portsOk_of he part
  have h2 := (portsL_mem hok).1 h
  have hf := hok.find.2 ⟨h2, rfl⟩
  have hpi := findPort_in hf
  obtain ⟨⟨j, hj, e⟩, hg, hs⟩ := hpi
  obtain ⟨i1, i2, i3, i4, i5, i6⟩ := link_nodes hr hj
  refine ⟨⟨⟨j, hj, e⟩, hg, hs⟩, ?_⟩
  have key : inMany (farOf c.links p).1 c.parts.length ∧ inMany (farOf c.links p).2 (nodesAt c (farOf c.links p).1) := by
    unfold farOf
    rw [e]
    simp only [Int.toNat_natCast, List.getElem?_eq_getElem hj]
    rcases hg with hg | hg <;> rcases hs with hs | hs <;> simp [hg, hs, i1, i2, i3, i4, i5, i6]
  refine ⟨key.1, key.2, ?_⟩
  unfold portG
  simp [hr, hin, hf]
theorem int_sv (l : List Int) : ∀ y ∈ numSV l, Sh.pv y = true := fun y hy => by
  simp only [numSV, List.mem_map] at hy
  obtain ⟨v, _, rfl⟩ := hy
  rfl
theorem clone_c {x : SV} {l : List Int} (hx : Ints x l) (hb : l.length ≤ 1000000) : ∃ z, (∀ get, callP (PCw ES) get n_slices_Clone_sl_int_int [x] = some z) ∧ Ints z l ∧ Sh.pv z = true := by
  obtain ⟨z, items, h1, h2, h3, h4, h5⟩ := PCw_out (E := ES) (f := n_slices_Clone_sl_int_int) (esz := 1) (args := [x]) (Pr := fun items => items = numSV l) (fun M => by
    obtain ⟨o, M', q1, q2, _⟩ := clone_sl_int_int (x := x) (l := l) hx hb M
    exact ⟨o, M', _, q1, q2, rfl⟩) (fun items h y hy => int_sv l y (h ▸ hy))
  subst h2
  exact ⟨z, fun get => callP_of h1 (by simp [Nums.np (show Nums x l from hx)]), RSl.of_map h3 h4, h5⟩
theorem r1_Ints_c {x : SV} {l : List Int} (hx : Ints x l) (hb : l.length ≤ 1000000) : ∃ z, (∀ get, callP (PCw ES) get n_r1_Ints [x] = some z) ∧ Ints z l ∧ Sh.pv z = true := by
  have hm := hx.map
  have hs := hx.sl
  have hlen := hx.len
  obtain ⟨z, items, h1, h2, h3, h4, h5⟩ := PCw_out (E := ES) (f := n_r1_Ints) (esz := 1) (args := [x]) (Pr := fun items => items = numSV l) (fun M => by
    have hi : ∀ get, itemsS get x = some (numSV l) := fun get => by
      cases x <;> simp [isSl] at hs
      · have : l = [] := by simp [its] at hlen; exact List.length_eq_zero_iff.1 hlen.symm
        subst this
        rfl
      · simp only [its] at hm
        simp [itemsS, hm, numSV]
    have hf : srcFits (.slice T_int) 1 x = true := by cases x <;> simp [isSl] at hs <;> rfl
    have ha : ∀ get a, appendS ES.P get a T_sl_int T_sl_int .nilsl x = some (if (numSV l).isEmpty then (.nilsl, []) else (.own a 1 0 (numSV l).length, [(a, some (numSV l))])) := fun get a =>
      appendS_nil (te := ⟨.int .i64, 1, 8, some (.int .i64 0)⟩) (z := .int .i64 0) ti_sl_int ti_sl_int ti_int rfl (hi get) (by decide) (unif_num l) hf rfl rfl (by rw [numSV_len]; show l.length * 8 ≤ _; omega) (by rw [numSV_len]; omega)
    rw [b_r1_Ints]
    by_cases h0 : l = []
    · subst h0
      refine ⟨.nilsl, M.bump 3, [], ?_, .inl ⟨rfl, rfl⟩, rfl⟩
      simp only [numSV, List.map_nil, List.isEmpty_nil, if_true] at ha
      simp [c_r1_Ints, evW_reg, evW_chkr, evW_chfr, isCst, TK.agg, zeroS, endS, resS, ha]
    · have he : (numSV l).isEmpty = false := by cases l with | nil => exact absurd rfl h0 | cons _ _ => rfl
      rw [he] at ha
      simp only [Bool.false_eq_true, if_false] at ha
      refine ⟨.own (M.next + 1) 1 0 (numSV l).length, (M.bump 3).set (M.next + 1) (some (numSV l)), numSV l, ?_, .inr ⟨M.next + 1, rfl, by simp, by show M.next + 1 < M.next + 3; omega⟩, rfl⟩
      simp [c_r1_Ints, evW_reg, evW_chkr, evW_chfr, isCst, TK.agg, zeroS, endS, resS, ha]) (fun items h y hy => int_sv l y (h ▸ hy))
  subst h2
  exact ⟨z, fun get => callP_of h1 (by simp [Nums.np (show Nums x l from hx)]), RSl.of_map h3 h4, h5⟩
structure SeI (K : List SV) (b : Nat) (o : SV) (items : List SV) (M : Mem) : Prop where
  hc : M.blk b = some [.agg K]
  lt : b < M.next
  ho : OutR 4 o M items
  ne : ∀ e p q, o ≠ .own b e p q
theorem SeI.app {K : List SV} {b : Nat} {o : SV} {items : List SV} {M X : Mem} (h : SeI K b o items M) {y : SV} (hy : y.cells.length = 4) (hl : items.length ≤ 1000) (hX : Old M X) (hn : M.next ≤ X.next) :
    ∃ o' k M1, appendS ES.P ((X.bump 5).set (X.next + 2) (some [y])).blk (X.next + 3) T_sl_api_Far T_sl_api_Far o (.own (X.next + 2) 4 0 1) = some (o', k) ∧ ((X.bump 5).set (X.next + 2) (some [y])).sets k = M1 ∧ SeI K b o' (items ++ [y]) M1 := by
  obtain ⟨o', k, p1, p2, p3, p4, p5⟩ := OutR.nextS (P := ES.P) (te := ⟨.struct [(T_bool, 0), (T_int64, 1), (T_int64, 2), (T_sl_int, 3)], 4, 48, some (.agg [.bool false, .int .i64 0, .int .i64 0, .nilsl])⟩) (get := ((X.bump 5).set (X.next + 2) (some [y])).blk) (o := o) (x := .own (X.next + 2) 4 0 1) (M := M) (items := items) (ys := [y]) (X := (X.bump 5).set (X.next + 2) (some [y])) (a := X.next + 3) ti_sl_api_Far ti_api_Far rfl (by decide) rfl rfl h.ho (by show (items.length + 1) * 48 ≤ 140737488355328; omega) (by show items.length + 1 ≤ 140737488355328; omega)
    (fun id hid => by
      have e : ¬ id = X.next + 2 := by omega
      simp [e, hX id hid]) (by simp [itemsS]) (by simp [srcFits]) (by simp [Sh.unif, hy]) (fun id hid => by
      have e : ¬ id = X.next + 2 := by omega
      simp [e, hX id hid]) (by show X.next + 3 < X.next + 5; omega) (by show M.next ≤ X.next + 5; omega) (by omega)
  refine ⟨o', k, _, p1, rfl, (p3 b h.lt h.ne).trans h.hc, by rw [p4]; show b < X.next + 5; have := h.lt; omega, p2, fun e p q hh => ?_⟩
  rcases p5 b e p q hh with h1 | h1
  · have := h.lt; omega
  · exact h.ne e p q (h1 ▸ hh)
theorem elmPt : Elm (fun y a => y = encPort a) ⟨.struct [(T_int, 0), (T_int, 1), (T_int, 2), (T_int, 3)], 4, 32, some (.agg [.int .i64 0, .int .i64 0, .int .i64 0, .int .i64 0])⟩ :=
  ⟨fun h => by rw [h]; rfl, fun h => by rw [h]; rfl, fun h => by rw [h]; exact encPort_np _ _, fun h => by rw [h]; rfl⟩
def agesOk (l : List Cel) : Prop := ∀ x ∈ l, ∀ n ∈ x.nodes, n.ages.length ≤ 1000
theorem agesOk.node {l : List Cel} (h : agesOk l) (a b : Int) : (nodeAt l a b).ages.length ≤ 1000 := by
  unfold nodeAt
  by_cases ha : a.toNat < l.length
  · have e : l.getD a.toNat ⟨[], false, 0, []⟩ = l[a.toNat] := by simp [ha]
    rw [e]
    by_cases hb : b.toNat < l[a.toNat].nodes.length
    · have e2 : l[a.toNat].nodes.getD b.toNat ⟨0, 0, 0, 0, 0, [], 0, 0⟩ = l[a.toNat].nodes[b.toNat] := by simp [hb]
      rw [e2]
      exact h _ (List.getElem_mem ha) _ (List.getElem_mem hb)
    · have e2 : l[a.toNat].nodes.getD b.toNat ⟨0, 0, 0, 0, 0, [], 0, 0⟩ = ⟨0, 0, 0, 0, 0, [], 0, 0⟩ := by simp [show l[a.toNat].nodes.length ≤ b.toNat by omega]
      rw [e2]
      simp
  · have e : l.getD a.toNat ⟨[], false, 0, []⟩ = ⟨[], false, 0, []⟩ := by simp [show l.length ≤ a.toNat by omega]
    rw [e]
    simp
set_option maxHeartbeats 16000000 in
theorem See_B0 {K : List SV} (hlk : K.length = 13) {c : Cfg} {l : List Cel} {x y : SV} (hOther : ∀ get p, PortIn c.links p → callP (PCw ES) get n_plan_Other [.agg K, encPort p] = some (.tup [.int .i64 (farOf c.links p).1, .int .i64 (farOf c.links p).2]))
    (hx : Cels x l) (hs : shapedB c l = true) (hag : agesOk l) {ps : List Port} (hy : Ports y ps) (hps : ∀ p ∈ ps, PortIn c.links p ∧ inMany (farOf c.links p).1 c.parts.length ∧ inMany (farOf c.links p).2 (nodesAt c (farOf c.links p).1)) (h100 : ps.length ≤ 100)
    {b : Nat} {o : SV} {items : List SV} {M : Mem} {j : Nat} (hj : j < ps.length) (h : SeI K b o items M) (hit : RSl FrR (.sl items .ro) ((ps.take j).map fun p => seeG l (farOf c.links p))) :
    ∃ M' o' items', evW ES n_port_See c_port_See_B0 ⟨h_port_See_0 x (.ptr b 0 0) o y (.int .i64 ps.length) (.int .i64 j), M⟩ = some (.normal, ⟨h_port_See_0 x (.ptr b 0 0) o' y (.int .i64 ps.length) (.int .i64 ((j + 1 : Nat) : Int)), M'⟩) ∧ SeI K b o' items' M' ∧ RSl FrR (.sl items' .ro) ((ps.take (j + 1)).map fun p => seeG l (farOf c.links p)) := by
  have hw : IntKind.i64.wrap ((j : Int) + 1) = (j : Int) + 1 := i64_in (by omega) (by omega)
  have a1 := RSl.at (enc := encPort) hy ti_sl_api_Port ti_api_Port (fun _ => rfl) hj
  have a2 : (ps.map encPort)[j]? = some (encPort ps[j]) := by simp [hj]
  obtain ⟨hpi, f1, f2⟩ := hps _ (List.getElem_mem hj)
  have k1 := fun get => hOther get _ hpi
  have hil : items.length ≤ 1000 := by have := hit.len; simp [its] at this; omega
  rw [List.take_succ_eq_append_getElem hj, List.map_append]
  simp only [List.map_cons, List.map_nil]
  generalize ps.map encPort = es at a1 a2
  generalize ps[j] = p at *
  obtain ⟨n1, n2⟩ := shaped_node hs f1 f2
  obtain ⟨N, on, st, A, z, w, A2, c1, c2, c3, c4, c5, c6, c7⟩ := cell_at hx n1 n2
  have hcl := hag.node (farOf c.links p).1 (farOf c.links p).2
  unfold seeG
  generalize farOf c.links p = q at *
  obtain ⟨qa, qb⟩ := q
  simp only at *
  generalize nodeAt l qa qb = nd at *
  simp only [ndC] at c4
  obtain ⟨zc, z1, z2, z3⟩ := clone_c c5 (by omega)
  have hcb := h.hc
  have hlt := h.lt
  have b1 : ¬ b = M.next + 2 := by omega
  have b2 : ¬ b = M.next + 4 := by omega
  have b3 : ¬ b = M.next + 5 + 8 := by omega
  have b4 : ¬ b = M.next + 4 + 1 + 8 := by omega
  have hpc : (encPort p).cells = [.int .i64 p.node, .int .i64 p.link, .int .i64 p.gate, .int .i64 p.side] := rfl
  have hpt : (encPort p).sto = true := rfl
  have bs : ∀ (q : Nat) (u1 : Bool) (u2 u3 : Int) (u4 : SV), bldSl ES.P T_sl_api_Far 1 q [(0, .agg [.bool u1, .int .i64 u2, .int .i64 u3, u4])] = some (.own q 4 0 1, [.agg [.bool u1, .int .i64 u2, .int .i64 u3, u4]]) := fun q u1 u2 u3 u4 => by simp [bldSl, buildRow]
  obtain ⟨X, eX⟩ : ∃ X, X = ((((((M.bump 4).set (M.next + 2) (some [encPort p])).bump 1).set (M.next + 4) (some [.agg [.bool false, .int .i64 0, .int .i64 0, .nilsl]])).bump 10).set (M.next + 4 + 1 + 8) (some [.agg (ndC nd A2)])) := ⟨_, rfl⟩
  have hXn : X.next = M.next + 4 + 1 + 10 := by rw [eX]; rfl
  have hX : Old M X := fun id hid => by
    have q1 : ¬ id = M.next + 2 := by omega
    have q2 : ¬ id = M.next + 4 := by omega
    have q3 : ¬ id = M.next + 4 + 1 + 8 := by omega
    simp [eX, q1, q2, q3]
  by_cases e1 : nd.state = 2
  · rw [if_pos e1]
    have hX2 : Old M (X.set (M.next + 4) (some [.agg [.bool true, .int .i64 nd.start, .int .i64 nd.cycle, zc]])) := fun id hid => by
      have q2 : ¬ id = M.next + 4 := by omega
      simp [q2, hX id hid]
    obtain ⟨o', k, M1, p1, p2, p3⟩ := h.app (y := .agg [.bool true, .int .i64 nd.start, .int .i64 nd.cycle, zc]) rfl hil hX2 (by show M.next ≤ X.next; omega)
    have hn2 : (X.set (M.next + 4) (some [.agg [.bool true, .int .i64 nd.start, .int .i64 nd.cycle, zc]])).next = M.next + 4 + 1 + 10 := hXn
    rw [hn2] at p1 p2
    rw [eX] at p1 p2
    simp only [ndC, e1] at p1 p2
    refine ⟨M1, o', _, ?_, p3, FarsR.snoc hit ⟨zc, rfl, z2, z3⟩⟩
    simp (maxSteps := 4000000) [c_port_See_B0, evW_reg, evW_chkr, evW_chfr, isCst, loadS, partS, TK.agg, fieldAddrS, zeroS, storeS, setPart, splice, endS, resS, fieldS, h_port_See_0, hj, a1, a2, hpc, hpt, hcb, hlt, hlk, b1, b2, b3, b4, k1, c1, c2, c3, c4, e1, z1, bs, p1, p2, hw, bldS, placesOf, buildS, splice, sl_cells c5.sl, sl_sto c5.sl, sl_cells z2.sl, sl_sto z2.sl]
  · rw [if_neg e1]
    obtain ⟨o', k, M1, p1, p2, p3⟩ := h.app (y := .agg [.bool false, .int .i64 0, .int .i64 0, .nilsl]) rfl hil hX (by omega)
    rw [hXn, eX] at p1 p2
    simp only [ndC] at p1 p2
    refine ⟨M1, o', _, ?_, p3, FarsR.snoc hit ⟨.nilsl, rfl, RSl.nil _, rfl⟩⟩
    simp (maxSteps := 4000000) [c_port_See_B0, evW_reg, evW_chkr, evW_chfr, isCst, loadS, partS, TK.agg, fieldAddrS, zeroS, storeS, setPart, splice, endS, resS, fieldS, h_port_See_0, hj, a1, a2, hpc, hpt, hcb, hlt, hlk, b1, b2, b3, b4, k1, c1, c2, c3, c4, e1, bs, p1, p2, hw, sl_cells c5.sl, sl_sto c5.sl]

end Go.Proofs.YtljjmdcdlcefmaaGreatDoor
