/-
  Walks of the seat's functions: Ib.
-/
import Derived.Test.YtomlbmbgocmiiaaGreatDoorEbMa
import Derived.Test.YtomlbmbgocmiiaaGreatDoorShMb
import Derived.Test.YtomlbmbgocmiiaaGreatDoorLFr
import Derived.Test.YtomlbmbgocmiiaaGreatDoorLzMi
import Derived.Test.YtomlbmbgocmiiaaGreatDoorLzMj
import Derived.Test.YtomlbmbgocmiiaaGreatDoorLGs
set_option linter.unusedVariables false
set_option linter.unusedSimpArgs false
set_option maxRecDepth 100000
namespace Go.Proofs.YtomlbmbgocmiiaaGreatDoor
open Go.Proofs.YtomlbmbgocmiiaaGreatDoor.Sh
/-! gauge.Begins and the document's own. -/
theorem numSnoc (l : List Int) (v : Int) : numSV l ++ [.int .i64 v] = numSV (l ++ [v]) := by simp [numSV]
/-- A number more at the end of a list of one's own. -/
theorem numApp {o : SV} {M X : Mem} {l : List Int} (v : Int) (hI : OutR 1 o M (numSV l)) (hl : l.length ≤ 1000000) (hX : Old M X) (hn : M.next ≤ X.next) :
    ∃ o' k M1, appendS ES.P ((X.bump 5).set (X.next + 2) (some [.int .i64 v])).blk (X.next + 3) T_sl_int64 T_sl_int64 o (.own (X.next + 2) 1 0 1) = some (o', k) ∧ ((X.bump 5).set (X.next + 2) (some [.int .i64 v])).sets k = M1 ∧ OutR 1 o' M1 (numSV (l ++ [v])) ∧ Keeps o M M1 ∧ M.next ≤ M1.next ∧ (∀ id e a b, o' = .own id e a b → M.next ≤ id ∨ o' = o) := by
  obtain ⟨o', k, p1, p2, p3, p4, p5⟩ := OutR.nextS (P := ES.P) (te := ⟨.int .i64, 1, 8, some (.int .i64 0)⟩) (get := ((X.bump 5).set (X.next + 2) (some [.int .i64 v])).blk) (o := o) (x := .own (X.next + 2) 1 0 1) (M := M) (items := numSV l) (ys := [.int .i64 v]) (X := (X.bump 5).set (X.next + 2) (some [.int .i64 v])) (a := X.next + 3) ti_sl_int64 ti_int64 rfl (by decide) rfl rfl hI (by rw [numSV_len]; show (l.length + 1) * 8 ≤ _; omega) (by rw [numSV_len]; show l.length + 1 ≤ _; omega)
    (fun id hid => by
      have e : ¬ id = X.next + 2 := by omega
      simp [e, hX id hid]) (by simp [itemsS]) (by simp [srcFits]) rfl (fun id hid => by
      have e : ¬ id = X.next + 2 := by omega
      simp [e, hX id hid]) (by show X.next + 3 < X.next + 5; omega) (by show M.next ≤ X.next + 5; omega) (by omega)
  rw [numSnoc] at p2
  exact ⟨o', k, _, p1, rfl, p2, p3, by rw [p4]; show M.next ≤ X.next + 5; omega, p5⟩
def slotAt (l : List Slot) (i : Int) : Slot := if 0 ≤ i ∧ i < l.length then l.getD i.toNat ⟨0, 0, 0⟩ else ⟨0, 0, 0⟩
/-- When a frame's sender began. -/
def startG (sl : List Slot) (ppm : Int) (h : Heard) : Option Int :=
  if 0 ≤ h.slot ∧ h.slot < sl.length then (if (beginG (slotAt sl h.slot).tick ppm h.tick).2 then some (beginG (slotAt sl h.slot).tick ppm h.tick).1 else none) else none
def startsG (sl : List Slot) (ppm : Int) (l : List Heard) : List Int := l.filterMap (startG sl ppm)
theorem startsG_take (sl : List Slot) (ppm : Int) {l : List Heard} {j : Nat} (h : j < l.length) : startsG sl ppm (l.take (j + 1)) = startsG sl ppm (l.take j) ++ (startG sl ppm l[j]).toList := by
  unfold startsG
  rw [List.take_succ_eq_append_getElem h, List.filterMap_append]
  cases hh : startG sl ppm l[j] <;> simp [hh]
theorem startsG_len (sl : List Slot) (ppm : Int) (l : List Heard) : (startsG sl ppm l).length ≤ l.length := List.length_filterMap_le ..
theorem slotAt_in {l : List Slot} {i : Int} (h0 : 0 ≤ i) (h1 : i < l.length) : ∃ j : Nat, i = j ∧ ∃ hj : j < l.length, slotAt l i = l[j] := by
  refine ⟨i.toNat, by omega, by omega, ?_⟩
  unfold slotAt
  rw [if_pos ⟨h0, h1⟩]
  have : i.toNat < l.length := by omega
  simp [this]
set_option maxHeartbeats 4000000 in
theorem table_View_Slot_c (get) {V : List SV} {S : SV} {l : List Slot} (h14 : V[14]? = some S) (hS : Slots S l) (hb : l.length ≤ 1000) (hnp : np picDepth (.agg V) = true) (hlen : V.length = 23) (i : Int) :
    callP (PCw ES) get n_table_View_Slot [.agg V, .int .i64 i] = some (.tup [encSlot (slotAt l i), .bool (decide (0 ≤ i ∧ i < l.length))]) := by
  refine callP_of (PCw_ex (fun M0 => ?_) rfl) (by simp [hnp])
  rw [b_table_View_Slot]
  have h14' : V[14]'(by omega) = S := by simpa [hlen] using h14
  have hl := hS.lenS ti_sl_api_Slot
  have bz : bldS ES.P T_api_Slot [] = some (.agg [.int .i64 0, .int .i64 0, .int .i64 0]) := by simp [bldS, placesOf, buildS]
  by_cases h0 : i < 0
  · have e : ¬ (0 ≤ i ∧ i < l.length) := by omega
    have e2 : slotAt l i = ⟨0, 0, 0⟩ := by unfold slotAt; rw [if_neg e]
    rw [e2]
    simp [c_table_View_Slot, evW_reg, evW_chkr, isCst, loadS, partS, TK.agg, fieldAddrS, zeroS, storeS, setPart, splice, endS, resS, fieldS, h14', hlen, hl, h0, bz, e, encSlot]
  · by_cases h1 : (l.length : Int) ≤ i
    · have e : ¬ (0 ≤ i ∧ i < l.length) := by omega
      have e2 : slotAt l i = ⟨0, 0, 0⟩ := by unfold slotAt; rw [if_neg e]
      rw [e2]
      simp [c_table_View_Slot, evW_reg, evW_chkr, isCst, loadS, partS, TK.agg, fieldAddrS, zeroS, storeS, setPart, splice, endS, resS, fieldS, h14', hlen, hl, h0, h1, bz, e, encSlot]
    · obtain ⟨j, rfl, hj, e2⟩ := slotAt_in (l := l) (i := i) (by omega) (by omega)
      have ha := RSl.at (enc := encSlot) hS ti_sl_api_Slot ti_api_Slot (fun _ => rfl) hj
      have e : 0 ≤ (j : Int) ∧ (j : Int) < l.length := by omega
      rw [e2]
      have hg : (l.map encSlot)[j]? = some (encSlot l[j]) := by simp [hj]
      simp [c_table_View_Slot, evW_reg, evW_chkr, isCst, loadS, partS, TK.agg, fieldAddrS, zeroS, storeS, setPart, splice, endS, resS, fieldS, h14', hlen, hl, h0, h1, ha, hj, encSlot]
structure StI (V : List SV) (b : Nat) (o : SV) (l : List Int) (M : Mem) : Prop where
  hv : M.blk b = some [.agg V]
  lt : b < M.next
  ho : OutR 1 o M (numSV l)
  ne : ∀ e p q, o ≠ .own b e p q
theorem StI.app {V : List SV} {b : Nat} {o : SV} {l : List Int} {M X : Mem} (h : StI V b o l M) (v : Int) (hl : l.length ≤ 1000000) (hX : Old M X) (hn : M.next ≤ X.next) :
    ∃ o' k M1, appendS ES.P ((X.bump 5).set (X.next + 2) (some [.int .i64 v])).blk (X.next + 3) T_sl_int64 T_sl_int64 o (.own (X.next + 2) 1 0 1) = some (o', k) ∧ ((X.bump 5).set (X.next + 2) (some [.int .i64 v])).sets k = M1 ∧ StI V b o' (l ++ [v]) M1 := by
  obtain ⟨o', k, M1, p1, p2, p3, p4, p5, p6⟩ := numApp v h.ho hl hX hn
  refine ⟨o', k, M1, p1, p2, (p4 b h.lt h.ne).trans h.hv, by have := h.lt; omega, p3, fun e p q hh => ?_⟩
  rcases p6 b e p q hh with h1 | h1
  · have := h.lt; omega
  · exact h.ne e p q (h1 ▸ hh)
theorem StI.keep {V : List SV} {b : Nat} {o : SV} {l : List Int} {M X : Mem} (h : StI V b o l M) (hX : Old M X) (hn : M.next ≤ X.next) : StI V b o l X :=
  ⟨(hX b h.lt).trans h.hv, by have := h.lt; omega, h.ho.old hX hn, h.ne⟩
/-- Memory behind the two boxes of a turn. -/
def stX (M : Mem) (u v : SV) : Mem := ((((M.bump 4).set (M.next + 2) (some [u])).bump 10).set (M.next + 4 + 7) (some [v]))
theorem stX_old (M : Mem) (u v : SV) : Old M (stX M u v) := fun id hid => by
  have q1 : ¬ id = M.next + 2 := by omega
  have q2 : ¬ id = M.next + 4 + 7 := by omega
  simp [stX, q1, q2]
theorem stX_next (M : Mem) (u v : SV) : (stX M u v).next = M.next + 4 + 10 := rfl
set_option maxHeartbeats 8000000 in
theorem Starts_B0 {V : List SV} {S : SV} {sl : List Slot} (h14 : V[14]? = some S) (hS : Slots S sl) (hb : sl.length ≤ 1000) (hsi : ∀ s ∈ sl, I64 s.tick) (hnp : np picDepth (.agg V) = true) (hlen : V.length = 23) {x : SV} {l : List Heard} (hx : Heards x l) (hl : l.length ≤ 1000) (ppm : Int) {b : Nat} {o : SV} {M : Mem} {j : Nat} (hj : j < l.length)
    (h : StI V b o (startsG sl ppm (l.take j)) M) :
    ∃ M' o', evW ES n_gauge_Starts c_gauge_Starts_B0 ⟨h_gauge_Starts_0 (.int .i64 ppm) (.ptr b 0 0) o x (.int .i64 l.length) (.int .i64 j), M⟩ = some (.normal, ⟨h_gauge_Starts_0 (.int .i64 ppm) (.ptr b 0 0) o' x (.int .i64 l.length) (.int .i64 ((j + 1 : Nat) : Int)), M'⟩) ∧
      StI V b o' (startsG sl ppm (l.take (j + 1))) M' := by
  have hw : IntKind.i64.wrap ((j : Int) + 1) = (j : Int) + 1 := i64_in (by omega) (by omega)
  obtain ⟨y, ⟨A, B, rfl, hA, hB⟩, hy, ha, hld⟩ := hx.item ti_sl_api_Heard ti_api_Heard elmHd hj
  rw [startsG_take sl ppm hj]
  have hg : (startsG sl ppm (l.take j)).length ≤ 1000000 := by have := startsG_len sl ppm (l.take j); rw [List.length_take] at this; omega
  have k1 := fun get => table_View_Slot_c get h14 hS hb hnp hlen l[j].slot
  have hvb := h.hv
  have hlt := h.lt
  have nb1 : ¬ b = M.next + 2 := by omega
  have nb2 : ¬ b = M.next + 4 + 7 := by omega
  generalize l[j] = hd at *
  generalize startsG sl ppm (l.take j) = cur at *
  simp only [hdC] at hy
  unfold startG
  by_cases c1 : 0 ≤ hd.slot ∧ hd.slot < sl.length
  · rw [if_pos c1]
    obtain ⟨i, ei, hi, e2⟩ := slotAt_in c1.1 c1.2
    have c1' : decide (0 ≤ hd.slot ∧ hd.slot < sl.length) = true := by simpa using c1
    rw [c1'] at k1
    have hs64 := hsi _ (List.getElem_mem hi)
    rw [← e2] at hs64
    have k2 := fun get => gauge_Begin_c get hs64 ppm hd.tick
    generalize slotAt sl hd.slot = s at *
    by_cases c2 : (beginG s.tick ppm hd.tick).2 = true
    · rw [if_pos c2]
      rw [c2] at k2
      generalize (beginG s.tick ppm hd.tick).1 = v at *
      obtain ⟨o', k, M1, p1, p2, p3⟩ := h.app v hg (stX_old M (.agg (hdC hd A B)) (encSlot s)) (by rw [stX_next]; omega)
      refine ⟨M1, o', ?_, by simpa using p3⟩
      have bs0 : ∀ (q : Nat) (v : Int), bldSl ES.P T_sl_int64 1 q [(0, .int .i64 v)] = some (.own q 1 0 1, [.int .i64 v]) := fun q v => by simp [bldSl, buildRow]
      simp only [stX_next] at p1 p2
      simp only [stX, hdC, encSlot] at p1 p2
      simp (maxSteps := 4000000) [c_gauge_Starts_B0, evW_reg, evW_chkr, isCst, loadS, partS, TK.agg, fieldAddrS, zeroS, storeS, setPart, splice, endS, resS, fieldS, h_gauge_Starts_0, hj, ha, hy, k1, k2, hdC, hvb, nb1, nb2, hlen, sl_cells hA.sl, sl_cells hB.sl, sl_sto hA.sl, sl_sto hB.sl, encSlot, hw, bs0, p1, p2]
    · rw [if_neg c2]
      have c2' : (beginG s.tick ppm hd.tick).2 = false := by simpa using c2
      rw [c2'] at k2
      refine ⟨stX M (.agg (hdC hd A B)) (encSlot s), o, ?_, by simpa using h.keep (stX_old _ _ _) (by rw [stX_next]; omega)⟩
      simp (maxSteps := 4000000) [c_gauge_Starts_B0, evW_reg, evW_chkr, isCst, loadS, partS, TK.agg, fieldAddrS, zeroS, storeS, setPart, splice, endS, resS, fieldS, h_gauge_Starts_0, hj, ha, hy, k1, k2, hdC, hvb, nb1, nb2, hlen, sl_cells hA.sl, sl_cells hB.sl, sl_sto hA.sl, sl_sto hB.sl, encSlot, hw, stX]
  · rw [if_neg c1]
    have e2 : slotAt sl hd.slot = ⟨0, 0, 0⟩ := by unfold slotAt; rw [if_neg c1]
    rw [e2] at k1
    have c1' : decide (0 ≤ hd.slot ∧ hd.slot < sl.length) = false := by simpa using c1
    rw [c1'] at k1
    refine ⟨stX M (.agg (hdC hd A B)) (encSlot ⟨0, 0, 0⟩), o, ?_, by simpa using h.keep (stX_old _ _ _) (by rw [stX_next]; omega)⟩
    simp (maxSteps := 4000000) [c_gauge_Starts_B0, evW_reg, evW_chkr, isCst, loadS, partS, TK.agg, fieldAddrS, zeroS, storeS, setPart, splice, endS, resS, fieldS, h_gauge_Starts_0, hj, ha, hy, k1, hdC, hvb, nb1, nb2, hlen, sl_cells hA.sl, sl_cells hB.sl, sl_sto hA.sl, sl_sto hB.sl, encSlot, hw, stX]
theorem Starts_c {V : List SV} {S : SV} {sl : List Slot} (h14 : V[14]? = some S) (hS : Slots S sl) (hb : sl.length ≤ 1000) (hsi : ∀ s ∈ sl, I64 s.tick) (hnp : np picDepth (.agg V) = true) (hlen : V.length = 23) {x : SV} {l : List Heard} (hx : Heards x l) (hl : l.length ≤ 1000) (ppm : Int) :
    ∃ z, (∀ get, callP (PCw ES) get n_gauge_Starts [.agg V, .int .i64 ppm, x] = some z) ∧ Nums z (startsG sl ppm l) ∧ Sh.pv z = true := by
  have hlx := hx.lenS ti_sl_api_Heard
  obtain ⟨z, items, h1, h2, h3, h4, h5⟩ := PCw_out (E := ES) (f := n_gauge_Starts) (esz := 1) (args := [.agg V, .int .i64 ppm, x]) (Pr := fun items => items = numSV (startsG sl ppm l)) (fun M0 => by
    rw [b_gauge_Starts]
    obtain ⟨r, g1, Ma, o, rfl, hO⟩ := loop_st (E := ES) (me := n_gauge_Starts) (B := c_gauge_Starts_B0) (β := SV) (len := l.length) (T := fun j o => h_gauge_Starts_0 (.int .i64 ppm) (.ptr M0.next 0 0) o x (.int .i64 l.length) (.int .i64 j))
      (I := fun j o M => StI V M0.next o (startsG sl ppm (l.take j)) M)
      (Q := fun r => ∃ M' o, r = (.exit 0, ⟨(h_gauge_Starts_0 (.int .i64 ppm) (.ptr M0.next 0 0) o x (.int .i64 l.length) (.int .i64 l.length)).set 17 (.bool false), M'⟩) ∧ OutR 1 o M' (numSV (startsG sl ppm l)))
      (fun j o M hj hI => by
        left
        obtain ⟨M', o', a1, a2⟩ := Starts_B0 h14 hS hb hsi hnp hlen hx hl ppm hj hI
        exact ⟨o', M', a1, a2⟩)
      (fun o M hI => ⟨_, by simp [c_gauge_Starts_B0, evW_reg, evW_chkr, isCst, TK.agg, zeroS, endS, resS, h_gauge_Starts_0], by simp, M, o, rfl, by have := hI.ho; rwa [List.take_length] at this⟩) 0 .nilsl ((M0.bump 2).set M0.next (some [.agg V])) (by omega)
      ⟨by simp, by show M0.next < M0.next + 2; omega, .inl ⟨rfl, rfl⟩, fun _ _ _ h => by cases h⟩
    simp [h_gauge_Starts_0] at g1
    refine ⟨o, Ma, _, ?_, hO, rfl⟩
    simp [c_gauge_Starts, evW_reg, evW_chkr, isCst, TK.agg, zeroS, endS, resS, hlx, c_gauge_Starts_L0, g1]) (fun items h y hy => by
    rw [h] at hy
    simp only [numSV, List.mem_map] at hy
    obtain ⟨v, _, rfl⟩ := hy
    rfl)
  subst h2
  exact ⟨z, fun get => callP_of h1 (by simp [hnp, hx.npE elmHd]), RSl.of_map h3 h4, h5⟩
theorem slotsL_tick {c : Cfg} {part : Int} (h : inFit c part = true) : ∀ s ∈ slotsL c part, I64 s.tick := by
  obtain ⟨f1, f2, f3, f4⟩ := inFit_right h
  obtain ⟨t1, t2, t3, _⟩ := tabOk f2 f4
  have hk := kindsC_le f1 part
  intro s hs
  obtain ⟨i, hi, rfl⟩ := List.mem_iff_getElem.1 hs
  have hi' : i < (kindsC c part).length := by simpa [slotsL] using hi
  have e : (slotsL c part)[i].tick = c.lead + i * c.slot := by simp [slotsL, stamp]
  have h1 : 0 ≤ (i : Int) * c.slot := Int.mul_nonneg (by omega) (by omega)
  have h2 : (i : Int) * c.slot ≤ 48 * 1000000 := Int.mul_le_mul (by omega) (by omega) (by omega) (by omega)
  rw [e]
  unfold I64
  omega
set_option maxHeartbeats 4000000 in
theorem gauge_Begins_c {P L : SV} {c : Cfg} (hP : CfgP c P L) (hpv : Sh.pv (.agg (cfgC c P L)) = true) (part ppm : Int) {x : SV} {l : List Heard} (hx : Heards x l) (hl : l.length ≤ 1000) :
    ∃ z, (∀ get, callP (PCw ES) get n_gauge_Begins [.agg (cfgC c P L), .int .i64 part, .int .i64 ppm, x] = some z) ∧ Nums z (startsG (slotsG c part) ppm l) := by
  have hnx := hx.npE elmHd
  cases h : inFit c part with
  | true =>
    obtain ⟨S, Q, h1, h2, h3, h4, h5⟩ := table_Of_fit hP hpv h
    have hb := slotsG_le c part
    simp only [slotsG, h, if_true] at hb ⊢
    obtain ⟨z, k1, k2, k3⟩ := Starts_c (V := viewL c P L part S Q) rfl h2 (by omega) (slotsL_tick h) (np_of_pv (viewL_pv hpv h4 h5) _) rfl hx hl ppm
    have hlv : (viewL c P L part S Q).length = 23 := rfl
    have hlk : (cfgC c P L).length = 13 := rfl
    refine ⟨z, fun get => callP_of (PCw_ex (fun M0 => ?_) k3) (by simp [hP.npA, hnx]), k2⟩
    rw [b_gauge_Begins]
    generalize viewL c P L part S Q = V at *
    generalize cfgC c P L = K at *
    simp (maxSteps := 4000000) [c_gauge_Begins, evW_reg, evW_chkr, isCst, loadS, partS, TK.agg, fieldAddrS, zeroS, storeS, setPart, splice, endS, resS, fieldS, h1, k1, hlv, hlk]
  | false =>
    have h1 := fun get => table_Of_not get hP h
    have hlv : zeroV.length = 23 := rfl
    have hlk : (cfgC c P L).length = 13 := rfl
    refine ⟨.nilsl, fun get => callP_of (PCw_ex (fun M0 => ?_) rfl) (by simp [hP.npA, hnx]), ?_⟩
    · rw [b_gauge_Begins]
      generalize zeroV = V at *
      generalize cfgC c P L = K at *
      simp (maxSteps := 4000000) [c_gauge_Begins, evW_reg, evW_chkr, isCst, loadS, partS, TK.agg, fieldAddrS, zeroS, storeS, setPart, splice, endS, resS, fieldS, h1, hlv, hlk]
    · have e : startsG (slotsG c part) ppm l = [] := by
        simp only [slotsG, h, Bool.false_eq_true, if_false, startsG]
        rw [List.filterMap_eq_nil_iff]
        intro a _
        unfold startG
        rw [if_neg (by simp)]
      rw [e]
      exact RSl.nil _

end Go.Proofs.YtomlbmbgocmiiaaGreatDoor
