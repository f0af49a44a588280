/-
  Walks of the seat's functions: Sb.
-/
import Derived.Test.YtjhlibdiojepaaaGreatDoorEbMa
import Derived.Test.YtjhlibdiojepaaaGreatDoorShMb
import Derived.Test.YtjhlibdiojepaaaGreatDoorLSa
import Derived.Test.YtjhlibdiojepaaaGreatDoorLBl
import Derived.Test.YtjhlibdiojepaaaGreatDoorLzMi
import Derived.Test.YtjhlibdiojepaaaGreatDoorLBn
set_option linter.unusedVariables false
set_option linter.unusedSimpArgs false
set_option maxRecDepth 100000
namespace Go.Proofs.YtjhlibdiojepaaaGreatDoor
open Go.Proofs.YtjhlibdiojepaaaGreatDoor.Sh
/-! The laws SteerRates, SteerRaw, SteerClamps, SteerMeets. -/
theorem l16_alive_ok : PCw ES n_l16_alive [] = some (.bool true) := PCw_closed 200 (by kernel_rfl)
@[simp] theorem l16_alive_c (get) : callP (PCw ES) get n_l16_alive [] = some (.bool true) := callP_of l16_alive_ok rfl
set_option maxHeartbeats 4000000 in
theorem SteerRates_walk (xs0 xs1 : List SV) (h0 : WT ES.P 8 T_int xs0) (h1 : WT ES.P 8 T_int64 xs1) : ∃ M', ICw ES n_l16_SteerRates [mkV ES.P T_int xs0, mkV ES.P T_int64 xs1] .empty = some (.bool true, M') := by
  obtain ⟨n, _, e0, _⟩ := WT_int ti_int h0
  obtain ⟨off, _, e1, _⟩ := WT_int ti_int64 h1
  rw [e0, e1]
  obtain ⟨P, L, hm, hP⟩ := Made_c n
  rw [b_l16_SteerRates]
  have k1 := fun get => steer_Rate_c get hP off
  have k2 := fun get => r10_Rate_c get hP off
  simp only [cfgC] at hm k1 k2
  simp (maxSteps := 4000000) [c_l16_SteerRates, evW_reg, evW_chkr, isCst, loadS, partS, TK.agg, fieldAddrS, zeroS, storeS, setPart, splice, endS, resS, fieldS, cfgC, hm, k1, k2, Nat.add_assoc]
set_option maxHeartbeats 4000000 in
theorem SteerRaw_walk (xs0 xs1 : List SV) (h0 : WT ES.P 8 T_api_Config xs0) (h1 : WT ES.P 8 T_int64 xs1) : ∃ M', ICw ES n_l16_SteerRaw [mkV ES.P T_api_Config xs0, mkV ES.P T_int64 xs1] .empty = some (.bool true, M') := by
  obtain ⟨c, hc, _⟩ := cfg_of h0
  obtain ⟨off, _, e1, _⟩ := WT_int ti_int64 h1
  rw [e1]
  generalize mkV ES.P T_api_Config xs0 = y at hc ⊢
  obtain ⟨P, L, rfl, hP⟩ := hc
  rw [b_l16_SteerRaw]
  have k1 := fun get => steer_Rate_c get hP off
  have k2 := fun get => r10_Rate_c get hP off
  have hlenp := hP.p.lenS ti_sl_api_Part
  have hlenl := hP.l.lenS ti_sl_api_Link
  simp only [cfgC] at k1 k2
  by_cases h3 : 20 < (c.parts.length : Int)
  · simp (maxSteps := 4000000) [c_l16_SteerRaw, evW_reg, evW_chkr, isCst, loadS, partS, TK.agg, fieldAddrS, zeroS, storeS, setPart, splice, endS, resS, fieldS, cfgC, hlenp, hlenl, h3]
  · by_cases h4 : 30 < (c.links.length : Int)
    · simp (maxSteps := 4000000) [c_l16_SteerRaw, evW_reg, evW_chkr, isCst, loadS, partS, TK.agg, fieldAddrS, zeroS, storeS, setPart, splice, endS, resS, fieldS, cfgC, hlenp, hlenl, h3, h4]
    · simp (maxSteps := 4000000) [c_l16_SteerRaw, evW_reg, evW_chkr, isCst, loadS, partS, TK.agg, fieldAddrS, zeroS, storeS, setPart, splice, endS, resS, fieldS, cfgC, hlenp, hlenl, h3, h4, k1, k2]
set_option maxHeartbeats 4000000 in
theorem SteerClamps_walk (xs0 xs1 : List SV) (h0 : WT ES.P 8 T_int xs0) (h1 : WT ES.P 8 T_int64 xs1) : ∃ M', ICw ES n_l16_SteerClamps [mkV ES.P T_int xs0, mkV ES.P T_int64 xs1] .empty = some (.bool true, M') := by
  obtain ⟨n, _, e0, _⟩ := WT_int ti_int h0
  obtain ⟨off, _, e1, _⟩ := WT_int ti_int64 h1
  rw [e0, e1]
  obtain ⟨P, L, hm, hP⟩ := Made_c n
  rw [b_l16_SteerClamps]
  have hr := made_ranged n
  have hfit := made_fit n
  have hj := made_jump n
  obtain ⟨m, m1, _, m3, _⟩ := made_num' n
  have hcy : 20000 ≤ (madeC n).cycle ∧ (madeC n).cycle ≤ 27000 := by omega
  have hj2 : jumpN (madeC n) * 1000000 ≤ 300000 * (madeC n).cycle := by
    have := (fitG_spec.1 hfit).2.2
    have h2 := fitRC (outN_zero (made_inRange n)) this
    rw [m3] at h2
    exact h2
  generalize madeC n = c at *
  have k1 := fun get => steer_Rate_c get hP off
  have k2 := fun get => bounds_Jump_c get hP
  simp only [hr, if_true, val_Jump] at k2
  simp only [rateG, hfit, if_true] at k1
  simp only [cfgC] at hm k1 k2
  have w1 : IntKind.i64.wrap (-c.rate) = -c.rate := i64_in (by omega) (by omega)
  have r1 : ¬ 0 < -c.rate := by omega
  have r2 : ¬ c.rate < 0 := by omega
  have w2 : IntKind.i64.wrap (-jumpN c) = -jumpN c := i64_in (by omega) (by omega)
  unfold slowG at k1
  by_cases hs : off < -jumpN c ∨ jumpN c < off
  · rw [if_pos hs] at k1
    have hne : off ≠ 0 := by omega
    by_cases hs1 : off < -jumpN c
    · have x1 : ¬ -jumpN c ≤ off := by omega
      simp (maxSteps := 4000000) [c_l16_SteerClamps, evW_reg, evW_chkr, isCst, loadS, partS, TK.agg, fieldAddrS, zeroS, storeS, setPart, splice, endS, resS, fieldS, cfgC, hm, k1, k2, Nat.add_assoc, w1, w2, r1, r2, x1, hne]
    · have x1 : -jumpN c ≤ off := by omega
      have x2 : ¬ off ≤ jumpN c := by omega
      simp (maxSteps := 4000000) [c_l16_SteerClamps, evW_reg, evW_chkr, isCst, loadS, partS, TK.agg, fieldAddrS, zeroS, storeS, setPart, splice, endS, resS, fieldS, cfgC, hm, k1, k2, Nat.add_assoc, w1, w2, r1, r2, x1, x2, hne]
  · rw [if_neg hs] at k1
    have q1 : -300000 ≤ off * 1000000 / c.cycle := by
      rw [Int.le_ediv_iff_mul_le (by omega)]
      omega
    have q2 : off * 1000000 / c.cycle ≤ 300000 := by
      have : off * 1000000 / c.cycle < 300001 := by
        rw [Int.ediv_lt_iff_lt_mul (by omega)]
        omega
      omega
    have x1 : -jumpN c ≤ off := by omega
    have x2 : off ≤ jumpN c := by omega
    have y1 : ¬ off * 1000000 / c.cycle < -c.rate := by omega
    have y2 : ¬ c.rate < off * 1000000 / c.cycle := by omega
    by_cases hz : off * 1000000 / c.cycle = 0
    · simp (maxSteps := 4000000) [c_l16_SteerClamps, evW_reg, evW_chkr, isCst, loadS, partS, TK.agg, fieldAddrS, zeroS, storeS, setPart, splice, endS, resS, fieldS, cfgC, hm, k1, k2, Nat.add_assoc, w1, w2, r1, r2, x1, x2, hz]
    · simp (maxSteps := 4000000) [c_l16_SteerClamps, evW_reg, evW_chkr, isCst, loadS, partS, TK.agg, fieldAddrS, zeroS, storeS, setPart, splice, endS, resS, fieldS, cfgC, hm, k1, k2, Nat.add_assoc, w1, w2, r1, r2, x1, x2, y1, y2, hz]
set_option maxHeartbeats 4000000 in
theorem SteerMeets_walk (xs0 xs1 : List SV) (h0 : WT ES.P 8 T_int xs0) (h1 : WT ES.P 8 T_int16 xs1) : ∃ M', ICw ES n_l16_SteerMeets [mkV ES.P T_int xs0, mkV ES.P T_int16 xs1] .empty = some (.bool true, M') := by
  obtain ⟨n, _, e0, _⟩ := WT_int ti_int h0
  obtain ⟨late, _, e1, hl⟩ := WT_int ti_int16 h1
  rw [e0, e1]
  obtain ⟨P, L, hm, hP⟩ := Made_c n
  rw [b_l16_SteerMeets]
  have hl : -32768 ≤ late ∧ late ≤ 32767 := by
    simp [Lit.wf, IntKind.min, IntKind.max, IntKind.bits, IntKind.signed] at hl
    omega
  have hr := made_ranged n
  have hfit := made_fit n
  have hj := made_jump n
  obtain ⟨m, m1, _, m3, _⟩ := made_num' n
  have hcy : 20000 ≤ (madeC n).cycle ∧ (madeC n).cycle ≤ 27000 := by omega
  generalize madeC n = c at *
  have ht : -jumpN c ≤ late.tmod (jumpN c + 1) ∧ late.tmod (jumpN c + 1) ≤ jumpN c := by
    have h1 := Int.tmod_lt_of_pos late (show 0 < jumpN c + 1 by omega)
    have h2 := Int.lt_tmod_of_pos late (show 0 < jumpN c + 1 by omega)
    omega
  generalize hoff : late.tmod (jumpN c + 1) = off at ht
  have k1 := fun get => steer_Rate_c get hP off
  have k2 := fun get => bounds_Jump_c get hP
  simp only [hr, if_true, val_Jump] at k2
  simp only [rateG, hfit, if_true, slowG] at k1
  simp only [if_neg (show ¬ (off < -jumpN c ∨ jumpN c < off) by omega)] at k1
  simp only [cfgC] at hm k1 k2
  have hb : off * 1000000 / c.cycle * c.cycle ≤ off * 1000000 := Int.ediv_mul_le _ (by omega)
  have hb2 : off * 1000000 < (off * 1000000 / c.cycle + 1) * c.cycle := Int.lt_ediv_add_one_mul_self _ (by omega)
  have hb3 : (off * 1000000 / c.cycle + 1) * c.cycle = off * 1000000 / c.cycle * c.cycle + c.cycle := by rw [Int.add_mul]; omega
  generalize off * 1000000 / c.cycle = q at *
  have w1 : IntKind.i64.wrap late = late := i64_in (by omega) (by omega)
  have w2 : IntKind.i64.wrap (jumpN c + 1) = jumpN c + 1 := i64_in (by omega) (by omega)
  have w3 : IntKind.i64.wrap (q * c.cycle) = q * c.cycle := i64_in (by omega) (by omega)
  have w4 : IntKind.i64.wrap (off * 1000000) = off * 1000000 := i64_in (by omega) (by omega)
  have w5 : IntKind.i64.wrap (q * c.cycle - off * 1000000) = q * c.cycle - off * 1000000 := i64_in (by omega) (by omega)
  have w6 : IntKind.i64.wrap (-c.cycle) = -c.cycle := i64_in (by omega) (by omega)
  have w7 : ∀ x : Int, -3000000 ≤ x → x ≤ 3000000 → IntKind.i64.wrap x = x := fun x _ _ => i64_in (by omega) (by omega)
  have hz : jumpN c + 1 ≠ 0 := by omega
  have y1 : q * c.cycle - off * 1000000 ≤ 0 := by omega
  have y2 : -c.cycle < q * c.cycle - off * 1000000 := by omega
  have w8 : IntKind.i64.wrap c.cycle = c.cycle := i64_in (by omega) (by omega)
  have hq : -9000000000000000000 ≤ q ∧ q ≤ 9000000000000000000 := by
    constructor
    · apply Classical.byContradiction
      intro hh
      have := Int.mul_le_mul_of_nonneg_right (show q ≤ -9000000000000000000 by omega) (show 0 ≤ c.cycle by omega)
      omega
    · apply Classical.byContradiction
      intro hh
      have := Int.mul_le_mul_of_nonneg_right (show 9000000000000000000 ≤ q by omega) (show 0 ≤ c.cycle by omega)
      omega
  have w9 : IntKind.i64.wrap q = q := i64_in (by omega) (by omega)
  simp (maxSteps := 4000000) [c_l16_SteerMeets, evW_reg, evW_chkr, isCst, loadS, partS, TK.agg, fieldAddrS, zeroS, storeS, setPart, splice, endS, resS, fieldS, cfgC, hm, k1, k2, Nat.add_assoc, w1, w2, w3, w4, w5, w6, w8, w9, hz, hoff, y1, y2, convS]

end Go.Proofs.YtjhlibdiojepaaaGreatDoor

/-
  Walks of the seat's functions: Sc.
-/
set_option linter.unusedVariables false
set_option linter.unusedSimpArgs false
set_option maxRecDepth 100000
namespace Go.Proofs.YtjhlibdiojepaaaGreatDoor
open Go.Proofs.YtjhlibdiojepaaaGreatDoor.Sh
/-! Offers; whom a part follows. -/
structure Offer where
  node : Int
  link : Int
  slot : Int
  flag : Bool
  cycle : Int
  offset : Int
  tick : Int
  ages : List Int
def offC (o : Offer) (A : SV) : List SV := [.int .i64 o.node, .int .i64 o.link, .int .i64 o.slot, .bool o.flag, .int .i64 o.cycle, .int .i64 o.offset, .int .i64 o.tick, A]
def OffR (y : SV) (o : Offer) : Prop := ∃ A, y = .agg (offC o A) ∧ Ints A o.ages ∧ o.ages.length ≤ 17592186044416
def Offers (x : SV) (l : List Offer) : Prop := RSl OffR x l
theorem Ints.np9 {x : SV} {l : List Int} (h : Ints x l) : Sh.np 9 x = true := RSl.np h (n := 8) fun y a h => by rw [h]; rfl
theorem np_agg {n : Nat} {cs : List SV} (h : cs.all (Sh.np n) = true) : Sh.np (n + 1) (.agg cs) = true := by simp only [Sh.np, h, Bool.or_true]
theorem elmOff : Elm OffR ⟨.struct [(T_int, 0), (T_int, 1), (T_int, 2), (T_bool, 3), (T_int64, 4), (T_int64, 5), (T_int64, 6), (T_sl_int, 7)], 8, 80, some (.agg [.int .i64 0, .int .i64 0, .int .i64 0, .bool false, .int .i64 0, .int .i64 0, .int .i64 0, .nilsl])⟩ :=
  ⟨fun ⟨A, h, _⟩ => by rw [h]; rfl, fun ⟨A, h, _⟩ => by rw [h]; rfl, fun ⟨A, h, hA, _⟩ => by
    rw [h]
    have h9 := hA.np9
    have hb : ∀ b, Sh.np 9 (.bool b) = true := fun b => np_of_pv rfl 9
    exact np_agg (by simp only [offC, List.all_cons, List.all_nil, np_int, hb, h9, Bool.and_true]), fun ⟨A, h, _⟩ => by rw [h]; rfl⟩
theorem Ints.at {x : SV} {l : List Int} (h : Ints x l) {j : Nat} (hj : j < l.length) : indexAddrS ES.P T_sl_int x (.int .i64 j) = some (.rptr (l.map (SV.int .i64)) j 0 (stOf x)) := RSl.at h ti_sl_int ti_int (fun _ => rfl) hj
theorem Ints.ld {l : List Int} {j : Nat} (hj : j < l.length) (get : Nat → Option (List SV)) (z : Bool) : loadS ES.P get T_int (.rptr (l.map (SV.int .i64)) j 0 z) = some (.int .i64 l[j]) := loadS_rptr ti_int (x := .int .i64 l[j]) (by simp [hj]) rfl
/-- An age that may be. -/
def ageO (l : List Int) (i : Int) : Option Int := if 0 ≤ i then (l[i.toNat]?).bind fun x => if 0 ≤ x ∧ x ≤ 201 then some x else none else none
theorem ageO_nat (l : List Int) (i : Nat) : ageO l i = (l[i]?).bind fun x => if 0 ≤ x ∧ x ≤ 201 then some x else none := by simp [ageO]
theorem ageO_in {l : List Int} {i x : Int} (h : ageO l i = some x) : 0 ≤ x ∧ x ≤ 201 := by
  unfold ageO at h
  split at h
  case isFalse => cases h
  cases hl : l[i.toNat]? with
  | none => rw [hl] at h; cases h
  | some y =>
    rw [hl, Option.bind_some] at h
    split at h
    case isFalse => cases h
    rename_i hy
    cases h
    exact hy
def follows (os : List Offer) (root b : Int) : Int := idxOf (fun o : Offer => decide (ageO o.ages root = some (b - 1))) os
def parentG (was now : List Int) (os : List Offer) (root : Int) : Int := match ageO was root, ageO now root with
  | some a, some b => if a + 1 ≤ b then -1 else follows os root b
  | _, _ => -1
set_option maxHeartbeats 4000000 in
theorem steer_age_c (get) {x : SV} {l : List Int} (hx : Ints x l) (i : Int) : callP (PCw ES) get n_steer_age [x, .int .i64 i] = some (.tup [.int .i64 ((ageO l i).getD 0), .bool (ageO l i).isSome]) := by
  refine callP_of (PCw_ex (fun M0 => ?_) rfl) (by simp [hx.np12])
  rw [b_steer_age]
  have hl := hx.lenS ti_sl_int
  by_cases h0 : i < 0
  · have e : ageO l i = none := by unfold ageO; rw [if_neg (by omega)]
    simp [c_steer_age, evW_reg, evW_chkr, isCst, TK.agg, zeroS, endS, resS, h0, e]
  · obtain ⟨j, rfl⟩ : ∃ j : Nat, i = j := ⟨i.toNat, by omega⟩
    rw [ageO_nat]
    by_cases hj : j < l.length
    · have ha := Ints.at hx hj
      have hd := Ints.ld hj
      have h1 : ¬ (l.length : Int) ≤ j := by omega
      rw [List.getElem?_eq_getElem hj, Option.bind_some]
      by_cases h2 : l[j] < 0
      · have e : ¬ (0 ≤ l[j] ∧ l[j] ≤ 201) := by omega
        simp [c_steer_age, evW_reg, evW_chkr, isCst, TK.agg, zeroS, endS, resS, h0, hl, h1, ha, hd, h2, e]
      · by_cases h3 : 201 < l[j]
        · have e : ¬ (0 ≤ l[j] ∧ l[j] ≤ 201) := by omega
          simp [c_steer_age, evW_reg, evW_chkr, isCst, TK.agg, zeroS, endS, resS, h0, hl, h1, ha, hd, h2, h3, e]
        · have e : (0 ≤ l[j] ∧ l[j] ≤ 201) := by omega
          simp [c_steer_age, evW_reg, evW_chkr, isCst, TK.agg, zeroS, endS, resS, h0, hl, h1, ha, hd, h2, h3, e]
    · have h1 : (l.length : Int) ≤ j := by omega
      have e : l[j]? = none := by simp; omega
      simp [c_steer_age, evW_reg, evW_chkr, isCst, TK.agg, zeroS, endS, resS, h0, hl, h1, e]
set_option maxHeartbeats 4000000 in
theorem r10_at_c (get) {x : SV} {l : List Int} (hx : Ints x l) (i : Int) : callP (PCw ES) get n_r10_at [x, .int .i64 i] = some (.int .i64 ((ageO l i).getD (-1))) := by
  refine callP_of (PCw_ex (fun M0 => ?_) rfl) (by simp [hx.np12])
  rw [b_r10_at]
  have hl := hx.lenS ti_sl_int
  by_cases h0 : i < 0
  · have e : ageO l i = none := by unfold ageO; rw [if_neg (by omega)]
    simp [c_r10_at, evW_reg, evW_chkr, isCst, TK.agg, zeroS, endS, resS, h0, e]
  · obtain ⟨j, rfl⟩ : ∃ j : Nat, i = j := ⟨i.toNat, by omega⟩
    rw [ageO_nat]
    by_cases hj : j < l.length
    · have ha := Ints.at hx hj
      have hd := Ints.ld hj
      have h1 : ¬ (l.length : Int) ≤ j := by omega
      rw [List.getElem?_eq_getElem hj, Option.bind_some]
      by_cases h2 : l[j] < 0
      · have e : ¬ (0 ≤ l[j] ∧ l[j] ≤ 201) := by omega
        simp [c_r10_at, evW_reg, evW_chkr, isCst, TK.agg, zeroS, endS, resS, h0, hl, h1, ha, hd, h2, e]
      · by_cases h3 : 201 < l[j]
        · have e : ¬ (0 ≤ l[j] ∧ l[j] ≤ 201) := by omega
          simp [c_r10_at, evW_reg, evW_chkr, isCst, TK.agg, zeroS, endS, resS, h0, hl, h1, ha, hd, h2, h3, e]
        · have e : (0 ≤ l[j] ∧ l[j] ≤ 201) := by omega
          simp [c_r10_at, evW_reg, evW_chkr, isCst, TK.agg, zeroS, endS, resS, h0, hl, h1, ha, hd, h2, h3, e]
    · have h1 : (l.length : Int) ≤ j := by omega
      have e : l[j]? = none := by simp; omega
      simp [c_r10_at, evW_reg, evW_chkr, isCst, TK.agg, zeroS, endS, resS, h0, hl, h1, e]
set_option maxHeartbeats 4000000 in
theorem steer_Parent_1_ok {y : SV} {o : Offer} (hy : OffR y o) (root b : Int) (s1 s2 : Bool) : PCw ES n_steer_Parent_1 [y, .rptr [.int .i64 root] 0 0 s1, .rptr [.int .i64 b] 0 0 s2] = some (.bool (decide (ageO o.ages root = some (b - 1)))) := by
  refine PCw_ex (fun M => ?_) rfl
  obtain ⟨A, rfl, hA, _⟩ := hy
  rw [b_steer_Parent_1]
  have k := fun get => steer_age_c get hA root
  cases ha : ageO o.ages root with
  | none =>
    rw [ha] at k
    simp [c_steer_Parent_1, evW_reg, evW_chkr, isCst, loadS, partS, TK.agg, fieldAddrS, zeroS, storeS, setPart, splice, endS, resS, fieldS, offC, sl_cells hA.sl, k]
  | some n =>
    rw [ha] at k
    have hn := ageO_in ha
    have hw : IntKind.i64.wrap (n + 1) = n + 1 := i64_in (by omega) (by omega)
    have e : (n + 1 = b) ↔ (n = b - 1) := by omega
    simp [c_steer_Parent_1, evW_reg, evW_chkr, isCst, loadS, partS, TK.agg, fieldAddrS, zeroS, storeS, setPart, splice, endS, resS, fieldS, offC, sl_cells hA.sl, k, hw, e]
set_option maxHeartbeats 4000000 in
theorem steer_Parent_c (get) {x y z : SV} {was now : List Int} {os : List Offer} (hx : Ints x was) (hy : Ints y now) (hz : Offers z os) (hb : os.length ≤ 1000000) (root : Int) :
    callP (PCw ES) get n_steer_Parent [x, y, z, .int .i64 root] = some (.int .i64 (parentG was now os root)) := by
  refine callP_of (PCw_ex (fun M0 => ?_) rfl) (by simp [hx.np12, hy.np12, hz.npE elmOff])
  rw [b_steer_Parent]
  have k1 := fun get => steer_age_c get hx root
  have k2 := fun get => steer_age_c get hy root
  unfold parentG
  cases h1 : ageO was root with
  | none =>
    rw [h1] at k1
    cases h2 : ageO now root with
    | none => rw [h2] at k2; simp [c_steer_Parent, evW_reg, evW_chkr, isCst, loadS, partS, TK.agg, fieldAddrS, zeroS, storeS, setPart, splice, endS, resS, fieldS, k1, k2]
    | some v => rw [h2] at k2; simp [c_steer_Parent, evW_reg, evW_chkr, isCst, loadS, partS, TK.agg, fieldAddrS, zeroS, storeS, setPart, splice, endS, resS, fieldS, k1, k2]
  | some a =>
    rw [h1] at k1
    have ha := ageO_in h1
    have hw : IntKind.i64.wrap (a + 1) = a + 1 := i64_in (by omega) (by omega)
    cases h2 : ageO now root with
    | none => rw [h2] at k2; simp [c_steer_Parent, evW_reg, evW_chkr, isCst, loadS, partS, TK.agg, fieldAddrS, zeroS, storeS, setPart, splice, endS, resS, fieldS, k1, k2]
    | some v =>
      rw [h2] at k2
      by_cases h3 : a + 1 ≤ v
      · simp [c_steer_Parent, evW_reg, evW_chkr, isCst, loadS, partS, TK.agg, fieldAddrS, zeroS, storeS, setPart, splice, endS, resS, fieldS, k1, k2, hw, h3]
      · have hc : ∀ (get : Nat → Option (List SV)) p q, get p = some [.int .i64 root] → get q = some [.int .i64 v] →
            callP (PCw ES) get n_slices_IndexFunc_sl_api_Offer_api_Offer [z, .fn n_steer_Parent_1 [] [.ptr p 0 0, .ptr q 0 0]] = some (.int .i64 (follows os root v)) := by
          intro get p q hp hq
          have p1 : pic get false 11 (.ptr p 0 0) = some (.rptr [.int .i64 root] 0 0 false) := pic_ptr hp (by simp; rfl)
          have p2 : pic get false 11 (.ptr q 0 0) = some (.rptr [.int .i64 v] 0 0 false) := pic_ptr hq (by simp; rfl)
          rw [callP_pic (ys := [z, .fn n_steer_Parent_1 [] [.rptr [.int .i64 root] 0 0 false, .rptr [.int .i64 v] 0 0 false]])]
          · exact slices_IndexFunc_sl_api_Offer_api_Offer_ok elmOff ti_api_Offer hz (by omega) (npF (by rfl)) (fun o : Offer => decide (ageO o.ages root = some (v - 1))) (fun get y o hy _ =>
              callP_of (steer_Parent_1_ok hy root v false false) (by simp [elmOff.np12 hy]))
          · have q : pic get false picDepth (.fn n_steer_Parent_1 [] [.ptr p 0 0, .ptr q 0 0]) = some (.fn n_steer_Parent_1 [] [.rptr [.int .i64 root] 0 0 false, .rptr [.int .i64 v] 0 0 false]) := pic_fn (by simp [p1, p2]) rfl
            simp [pic_np (hz.npE elmOff), q]
        simp [c_steer_Parent, evW_reg, evW_chkr, isCst, loadS, partS, TK.agg, fieldAddrS, zeroS, storeS, setPart, splice, endS, resS, fieldS, k1, k2, hw, h3, hc, Nat.add_assoc]
theorem Offers.at {x : SV} {l : List Offer} (h : Offers x l) {j : Nat} (hj : j < l.length) : ∃ A, Ints A l[j].ages ∧ l[j].ages.length ≤ 17592186044416 ∧ indexAddrS ES.P T_sl_api_Offer x (.int .i64 j) = some (.rptr (its x) j 0 (stOf x)) ∧ ∀ get, loadS ES.P get T_sl_int (.rptr (its x) j 7 (stOf x)) = some A := by
  obtain ⟨y, ⟨A, rfl, hA, hl⟩, hy, ha, _⟩ := RSl.item h ti_sl_api_Offer ti_api_Offer elmOff hj
  exact ⟨A, hA, hl, ha, fun get => loadS_rptr ti_sl_int (x := .agg (offC l[j] A)) hy (by simp [partS, TK.agg, offC])⟩
set_option maxHeartbeats 4000000 in
theorem r10_Parent_c (get) {x y z : SV} {was now : List Int} {os : List Offer} (hx : Ints x was) (hy : Ints y now) (hz : Offers z os) (hb : os.length ≤ 1000000) (root : Int) :
    callP (PCw ES) get n_r10_Parent [x, y, z, .int .i64 root] = some (.int .i64 (parentG was now os root)) := by
  refine callP_of (PCw_ex (fun M0 => ?_) rfl) (by simp [hx.np12, hy.np12, hz.npE elmOff])
  rw [b_r10_Parent]
  have k1 := fun get => r10_at_c get hx root
  have k2 := fun get => r10_at_c get hy root
  unfold parentG
  cases h1 : ageO was root with
  | none =>
    rw [h1] at k1
    simp [c_r10_Parent, evW_reg, evW_chkr, isCst, TK.agg, zeroS, endS, resS, k1, k2]
  | some a =>
    rw [h1] at k1
    have ha := ageO_in h1
    have ha0 : ¬ a < 0 := by omega
    have hw : IntKind.i64.wrap (a + 1) = a + 1 := i64_in (by omega) (by omega)
    cases h2 : ageO now root with
    | none => rw [h2] at k2; simp [c_r10_Parent, evW_reg, evW_chkr, isCst, TK.agg, zeroS, endS, resS, k1, k2, ha0]
    | some v =>
      rw [h2] at k2
      have hv := ageO_in h2
      have hv0 : ¬ v < 0 := by omega
      by_cases h3 : a + 1 ≤ v
      · simp [c_r10_Parent, evW_reg, evW_chkr, isCst, TK.agg, zeroS, endS, resS, k1, k2, hw, h3, ha0, hv0]
      · have hl := hz.lenS ti_sl_api_Offer
        obtain ⟨r, g1, M', g0⟩ := loop_find (E := ES) (me := n_r10_Parent) (B := c_r10_Parent_B0) (len := os.length) (T := fun j => h_r10_Parent_0 z (.int .i64 root) (.int .i64 v) (.int .i64 j))
          (I := fun _ _ => True) (p := fun j => (os[j]?.map fun o : Offer => decide (ageO o.ages root = some (v - 1))).getD false)
          (Q := fun o r => ∃ M', r = match o with
            | some j => (.ret, ⟨(h_r10_Parent_0 .bad .bad .bad .bad).set 8 (.int .i64 j), M'⟩)
            | none => (.exit 0, ⟨(h_r10_Parent_0 z (.int .i64 root) (.int .i64 v) (.int .i64 os.length)).set 34 (.bool false), M'⟩))
          (fun j M hj _ hpj => by
            have hwj : IntKind.i64.wrap ((j : Int) + 1) = (j : Int) + 1 := i64_in (by omega) (by omega)
            obtain ⟨A, hA, _, q1, q2⟩ := Offers.at hz hj
            have k3 := fun get => r10_at_c get hA root
            simp [hj] at hpj
            cases h4 : ageO os[j].ages root with
            | none =>
              rw [h4] at k3
              exact ⟨M, by simp [c_r10_Parent_B0, evW_reg, evW_chkr, isCst, TK.agg, zeroS, endS, resS, fieldAddrS, h_r10_Parent_0, hl, hj, q1, q2, k3, hwj], trivial⟩
            | some n =>
              rw [h4] at k3 hpj
              have hn := ageO_in h4
              have hwn : IntKind.i64.wrap (n + 1) = n + 1 := i64_in (by omega) (by omega)
              have e0 : 0 ≤ n := hn.1
              have e1 : ¬ n + 1 = v := by simp at hpj; omega
              exact ⟨M, by simp [c_r10_Parent_B0, evW_reg, evW_chkr, isCst, TK.agg, zeroS, endS, resS, fieldAddrS, h_r10_Parent_0, hl, hj, q1, q2, k3, hwj, hwn, e0, e1], trivial⟩)
          (fun j M hj _ hpj => by
            obtain ⟨A, hA, _, q1, q2⟩ := Offers.at hz hj
            have k3 := fun get => r10_at_c get hA root
            simp [hj] at hpj
            rw [hpj] at k3
            have hn := ageO_in hpj
            have hwn : IntKind.i64.wrap v = v := i64_in (by omega) (by omega)
            have e0 : 1 ≤ v := by omega
            have e2 : 0 ≤ v - 1 := by omega
            exact ⟨_, by simp [c_r10_Parent_B0, evW_reg, evW_chkr, isCst, TK.agg, zeroS, endS, resS, fieldAddrS, h_r10_Parent_0, hl, hj, q1, q2, k3, hwn, e0, e2], by simp, M, rfl⟩)
          (fun M _ => ⟨_, by simp [c_r10_Parent_B0, evW_reg, evW_chkr, isCst, TK.agg, zeroS, endS, resS, h_r10_Parent_0, hl], by simp, M, rfl⟩) M0 trivial
        dsimp only
        rw [if_neg h3]
        unfold follows idxOf
        cases hf : (List.range os.length).find? (fun j => (os[j]?.map fun o : Offer => decide (ageO o.ages root = some (v - 1))).getD false) with
        | none =>
          rw [hf] at g0
          subst g0
          simp [h_r10_Parent_0] at g1
          simp [c_r10_Parent, evW_reg, evW_chkr, isCst, TK.agg, zeroS, endS, resS, k1, k2, hw, h3, ha0, hv0, c_r10_Parent_L0, g1]
        | some j =>
          rw [hf] at g0
          subst g0
          simp [h_r10_Parent_0] at g1
          simp [c_r10_Parent, evW_reg, evW_chkr, isCst, TK.agg, zeroS, endS, resS, k1, k2, hw, h3, ha0, hv0, c_r10_Parent_L0, g1]

end Go.Proofs.YtjhlibdiojepaaaGreatDoor
