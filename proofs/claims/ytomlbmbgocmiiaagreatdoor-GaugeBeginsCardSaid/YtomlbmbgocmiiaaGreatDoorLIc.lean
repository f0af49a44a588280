/-
  Walks of the seat's functions: Ic.
-/
import Derived.Test.YtomlbmbgocmiiaaGreatDoorEbMa
import Derived.Test.YtomlbmbgocmiiaaGreatDoorShMb
import Derived.Test.YtomlbmbgocmiiaaGreatDoorLIb
import Derived.Test.YtomlbmbgocmiiaaGreatDoorLzMl
set_option linter.unusedVariables false
set_option linter.unusedSimpArgs false
set_option maxRecDepth 100000
namespace Go.Proofs.YtomlbmbgocmiiaaGreatDoor
open Go.Proofs.YtomlbmbgocmiiaaGreatDoor.Sh
/-! The document's Begins; the law GaugeBegins. -/
set_option maxHeartbeats 8000000 in
theorem r10_Begins_B0 {s : SV} {sl : List Slot} (hS : Slots s sl) (hb : sl.length ≤ 1000) (hsi : ∀ s ∈ sl, I64 s.tick) {x : SV} {l : List Heard} (hx : Heards x l) (hl : l.length ≤ 1000) (ppm : Int) {o : SV} {M : Mem} {j : Nat} (hj : j < l.length)
    (h : OutR 1 o M (numSV (startsG sl ppm (l.take j)))) :
    ∃ M' o', evW ES n_r10_Begins c_r10_Begins_B0 ⟨h_r10_Begins_0 (.int .i64 ppm) x o s (.int .i64 j), M⟩ = some (.normal, ⟨h_r10_Begins_0 (.int .i64 ppm) x o' s (.int .i64 ((j + 1 : Nat) : Int)), M'⟩) ∧ OutR 1 o' M' (numSV (startsG sl ppm (l.take (j + 1)))) := by
  have hw : IntKind.i64.wrap ((j : Int) + 1) = (j : Int) + 1 := i64_in (by omega) (by omega)
  obtain ⟨y, ⟨A, B, rfl, hA, hB⟩, hy, ha, hld⟩ := hx.item ti_sl_api_Heard ti_api_Heard elmHd hj
  have hlx := hx.lenS ti_sl_api_Heard
  have hls := hS.lenS ti_sl_api_Slot
  rw [startsG_take sl ppm hj]
  have hg : (startsG sl ppm (l.take j)).length ≤ 1000000 := by have := startsG_len sl ppm (l.take j); rw [List.length_take] at this; omega
  generalize l[j] = hd at *
  generalize startsG sl ppm (l.take j) = cur at *
  simp only [hdC] at hy
  unfold startG
  by_cases c0 : hd.slot < 0
  · have c1 : ¬ (0 ≤ hd.slot ∧ hd.slot < sl.length) := by omega
    rw [if_neg c1]
    refine ⟨M, o, ?_, by simpa using h⟩
    simp (maxSteps := 4000000) [c_r10_Begins_B0, evW_reg, evW_chkr, isCst, loadS, partS, TK.agg, fieldAddrS, zeroS, storeS, setPart, splice, endS, resS, fieldS, h_r10_Begins_0, hlx, hls, hj, ha, hy, c0, hw]
  by_cases c2 : (sl.length : Int) ≤ hd.slot
  · have c1 : ¬ (0 ≤ hd.slot ∧ hd.slot < sl.length) := by omega
    rw [if_neg c1]
    refine ⟨M, o, ?_, by simpa using h⟩
    simp (maxSteps := 4000000) [c_r10_Begins_B0, evW_reg, evW_chkr, isCst, loadS, partS, TK.agg, fieldAddrS, zeroS, storeS, setPart, splice, endS, resS, fieldS, h_r10_Begins_0, hlx, hls, hj, ha, hy, c0, c2, hw]
  have c1 : 0 ≤ hd.slot ∧ hd.slot < sl.length := by omega
  rw [if_pos c1]
  obtain ⟨i, ei, hi, e2⟩ := slotAt_in c1.1 c1.2
  have hs64 := hsi _ (List.getElem_mem hi)
  have a1 := Slots.at hS hi
  have a2 : (sl.map encSlot)[i]? = some (.agg [.int .i64 sl[i].kind, .int .i64 sl[i].node, .int .i64 sl[i].tick]) := by simp [hi, encSlot]
  rw [e2]
  generalize sl.map encSlot = es at a1 a2
  generalize sl[i] = w at *
  have k2 := fun get => r10_Begin_c get hs64 ppm hd.tick
  rw [ei] at c0 c2 hy
  rw [← ei] at hy
  by_cases c3 : (beginG w.tick ppm hd.tick).2 = true
  · rw [if_pos c3]
    rw [c3] at k2
    generalize (beginG w.tick ppm hd.tick).1 = v at *
    obtain ⟨o', k, M1, p1, p2, p3, _⟩ := numApp v h hg (fun _ _ => rfl) (Nat.le_refl _)
    refine ⟨M1, o', ?_, by simpa using p3⟩
    have bs0 : ∀ (q : Nat) (v : Int), bldSl ES.P T_sl_int64 1 q [(0, .int .i64 v)] = some (.own q 1 0 1, [.int .i64 v]) := fun q v => by simp [bldSl, buildRow]
    rw [ei] at hy
    simp (maxSteps := 4000000) [c_r10_Begins_B0, evW_reg, evW_chkr, isCst, loadS, partS, TK.agg, fieldAddrS, zeroS, storeS, setPart, splice, endS, resS, fieldS, h_r10_Begins_0, hlx, hls, hj, ha, hy, c0, c2, hi, a1, a2, k2, bs0, p1, p2, hw]
  · rw [if_neg c3]
    have c3' : (beginG w.tick ppm hd.tick).2 = false := by simpa using c3
    rw [c3'] at k2
    refine ⟨M, o, ?_, by simpa using h⟩
    rw [ei] at hy
    simp (maxSteps := 4000000) [c_r10_Begins_B0, evW_reg, evW_chkr, isCst, loadS, partS, TK.agg, fieldAddrS, zeroS, storeS, setPart, splice, endS, resS, fieldS, h_r10_Begins_0, hlx, hls, hj, ha, hy, c0, c2, hi, a1, a2, k2, hw]
set_option maxHeartbeats 4000000 in
theorem r10_Begins_c {P L : SV} {c : Cfg} (hP : CfgP c P L) (part ppm : Int) {x : SV} {l : List Heard} (hx : Heards x l) (hl : l.length ≤ 1000) :
    ∃ z, (∀ get, callP (PCw ES) get n_r10_Begins [.agg (cfgC c P L), .int .i64 part, .int .i64 ppm, x] = some z) ∧ Nums z (startsG (slotsG c part) ppm l) := by
  have hlx := hx.lenS ti_sl_api_Heard
  obtain ⟨s, s1, s2, s3⟩ := r5_Slots_c hP part
  have hb := slotsG_le c part
  have hsi : ∀ s ∈ slotsG c part, I64 s.tick := by
    cases h : inFit c part with
    | true => simp only [slotsG, h, if_true]; exact slotsL_tick h
    | false => simp [slotsG, h]
  generalize slotsG c part = sl at *
  have hlk : (cfgC c P L).length = 13 := rfl
  have hnp := hP.npA
  generalize cfgC c P L = K at *
  obtain ⟨z, items, h1, h2, h3, h4, h5⟩ := PCw_out (E := ES) (f := n_r10_Begins) (esz := 1) (args := [.agg K, .int .i64 part, .int .i64 ppm, x]) (Pr := fun items => items = numSV (startsG sl ppm l)) (fun M0 => by
    rw [b_r10_Begins]
    obtain ⟨r, g1, Ma, o, rfl, hO⟩ := loop_st (E := ES) (me := n_r10_Begins) (B := c_r10_Begins_B0) (β := SV) (len := l.length) (T := fun j o => h_r10_Begins_0 (.int .i64 ppm) x o s (.int .i64 j))
      (I := fun j o M => OutR 1 o M (numSV (startsG sl ppm (l.take j))))
      (Q := fun r => ∃ M' o, r = (.exit 0, ⟨(h_r10_Begins_0 (.int .i64 ppm) x o s (.int .i64 l.length)).set 20 (.bool false), M'⟩) ∧ OutR 1 o M' (numSV (startsG sl ppm l)))
      (fun j o M hj hI => by
        left
        obtain ⟨M', o', a1, a2⟩ := r10_Begins_B0 s2 (by omega) hsi hx hl ppm hj hI
        exact ⟨o', M', a1, a2⟩)
      (fun o M hI => ⟨_, by simp [c_r10_Begins_B0, evW_reg, evW_chkr, isCst, TK.agg, zeroS, endS, resS, h_r10_Begins_0, hlx], by simp, M, o, rfl, by rwa [List.take_length] at hI⟩) 0 .nilsl ((M0.bump 2).set M0.next (some [.agg K])) (by omega)
      (.inl ⟨rfl, rfl⟩)
    simp [h_r10_Begins_0] at g1
    refine ⟨o, Ma, _, ?_, hO, rfl⟩
    simp [c_r10_Begins, evW_reg, evW_chkr, isCst, loadS, partS, TK.agg, fieldAddrS, zeroS, storeS, setPart, splice, endS, resS, fieldS, hlk, s1, c_r10_Begins_L0, g1]) (fun items h y hy => by
    rw [h] at hy
    simp only [numSV, List.mem_map] at hy
    obtain ⟨v, _, rfl⟩ := hy
    rfl)
  subst h2
  exact ⟨z, fun get => callP_of h1 (by simp [hnp, hx.npE elmHd]), RSl.of_map h3 h4⟩
theorem SameLongs_c (get) {x y : SV} {l : List Int} (hx : Nums x l) (hy : Nums y l) (hb : l.length ≤ 100000) : callP (PCw ES) get n_r1_SameLongs [x, y] = some (.bool true) := by
  refine callP_of (PCw_ex (fun M0 => ?_) rfl) (by simp [hx.np, hy.np])
  rw [b_r1_SameLongs]
  have l1 := hx.lenS ti_sl_int64
  have l2 := hy.lenS ti_sl_int64
  obtain ⟨r, g1, M', g2⟩ := loop_up (E := ES) (me := n_r1_SameLongs) (B := c_r1_SameLongs_B0) (len := l.length) (T := fun j => h_r1_SameLongs_0 x y (.int .i64 j)) (I := fun _ _ => True)
    (Q := fun r => ∃ M', r = (.exit 0, ⟨(h_r1_SameLongs_0 x y (.int .i64 l.length)).set 14 (.bool false), M'⟩))
    (fun j M hj _ => by
      left
      have hw : IntKind.i64.wrap ((j : Int) + 1) = (j : Int) + 1 := i64_in (by omega) (by omega)
      have a1 : indexAddrS ES.P T_sl_int64 x (.int .i64 j) = some (.rptr (l.map (SV.int .i64)) j 0 (stOf x)) := RSl.at hx ti_sl_int64 ti_int64 (fun _ => rfl) hj
      have a2 : indexAddrS ES.P T_sl_int64 y (.int .i64 j) = some (.rptr (l.map (SV.int .i64)) j 0 (stOf y)) := RSl.at hy ti_sl_int64 ti_int64 (fun _ => rfl) hj
      have a3 : ∀ get z, loadS ES.P get T_int64 (.rptr (l.map (SV.int .i64)) j 0 z) = some (.int .i64 l[j]) := fun get z => loadS_rptr ti_int64 (x := .int .i64 l[j]) (by simp [hj]) rfl
      exact ⟨M, by simp [c_r1_SameLongs_B0, evW_reg, evW_chkr, isCst, TK.agg, zeroS, endS, resS, h_r1_SameLongs_0, l1, l2, hj, a1, a2, a3, hw], trivial⟩)
    (fun M _ => ⟨_, by simp [c_r1_SameLongs_B0, evW_reg, evW_chkr, isCst, TK.agg, zeroS, endS, resS, h_r1_SameLongs_0, l1, l2], by simp, M, rfl⟩) 0 M0 (by omega) trivial
  subst g2
  simp [h_r1_SameLongs_0] at g1
  simp [c_r1_SameLongs, evW_reg, evW_chkr, isCst, TK.agg, zeroS, endS, resS, l1, l2, c_r1_SameLongs_L0, g1]
set_option maxHeartbeats 4000000 in
theorem GaugeBegins_walk (xs0 xs1 xs2 xs3 : List SV) (h0 : WT ES.P 8 T_int xs0) (h1 : WT ES.P 8 T_int xs1) (h2 : WT ES.P 8 T_int xs2) (h3 : WT ES.P 8 T_sl_api_Heard xs3) :
    ∃ M', ICw ES n_l12_GaugeBegins [mkV ES.P T_int xs0, mkV ES.P T_int xs1, mkV ES.P T_int xs2, mkV ES.P T_sl_api_Heard xs3] .empty = some (.bool true, M') := by
  obtain ⟨n, _, e0, _⟩ := WT_int ti_int h0
  obtain ⟨part, _, e1, _⟩ := WT_int ti_int h1
  obtain ⟨ppm, _, e2, _⟩ := WT_int ti_int h2
  obtain ⟨l, hx⟩ := heards_of h3
  rw [e0, e1, e2, b_l12_GaugeBegins]
  generalize mkV ES.P T_sl_api_Heard xs3 = x at *
  have hlx := hx.lenS ti_sl_api_Heard
  obtain ⟨P, L, hm, hP⟩ := Made_c n
  have hpv := callPv (hm fun _ => none)
  generalize madeC n = c at *
  by_cases c1 : 60 < (l.length : Int)
  · simp (maxSteps := 4000000) [c_l12_GaugeBegins, evW_reg, evW_chkr, isCst, loadS, partS, TK.agg, fieldAddrS, zeroS, storeS, setPart, splice, endS, resS, fieldS, hlx, c1]
  · obtain ⟨z1, a1, a2⟩ := gauge_Begins_c hP hpv part ppm hx (by omega)
    obtain ⟨z2, b1, b2⟩ := r10_Begins_c hP part ppm hx (by omega)
    have hs := fun get => SameLongs_c get a2 b2 (by have := startsG_len (slotsG c part) ppm l; omega)
    have hlk : (cfgC c P L).length = 13 := rfl
    generalize cfgC c P L = K at *
    simp (maxSteps := 4000000) [c_l12_GaugeBegins, evW_reg, evW_chkr, isCst, loadS, partS, TK.agg, fieldAddrS, zeroS, storeS, setPart, splice, endS, resS, fieldS, hlx, c1, hm, a1, b1, hs, hlk]

end Go.Proofs.YtomlbmbgocmiiaaGreatDoor
