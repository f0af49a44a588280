/-
  Walks of the seat's functions: Bf.
-/
import Derived.Test.YtbdliphlolajaaaGreatDoorEb2
import Derived.Test.YtbdliphlolajaaaGreatDoorShSv
import Derived.Test.YtbdliphlolajaaaGreatDoorLBe
set_option linter.unusedVariables false
set_option linter.unusedSimpArgs false
set_option maxRecDepth 100000
namespace Go.Proofs.YtbdliphlolajaaaGreatDoor
open Go.Proofs.YtbdliphlolajaaaGreatDoor.Sh
/-! bounds: reckoning; the first that is not so. -/
@[simp] theorem wrap_lit0 : IntKind.i64.wrap 0 = 0 := by decide
@[simp] theorem wrap_lit1 : IntKind.i64.wrap 1 = 1 := by decide
theorem ticks_Ceil_c (get) {n : Int} (h0 : 0 ≤ n) (h1 : n ≤ 9000000000000000000) : callP (PCw ES) get n_ticks_Ceil [.int .i64 n, .int .i64 1000000] = some (.tup [.int .i64 (upM n), .bool true]) := by
  refine callP_of (PCw_ex (fun M0 => ?_) rfl) (by simp)
  rw [b_ticks_Ceil]
  have hd := tdivM h0
  have hm := tmodM h0
  have hw : IntKind.i64.wrap (n / 1000000) = n / 1000000 := i64_in (by omega) (by omega)
  have hw1 : IntKind.i64.wrap (n / 1000000 + 1) = n / 1000000 + 1 := i64_in (by omega) (by omega)
  by_cases h : 0 < n % 1000000
  · have e : upM n = n / 1000000 + 1 := by unfold upM; omega
    simp [c_ticks_Ceil, evW_reg, evW_chkr, isCst, loadS, partS, TK.agg, fieldAddrS, zeroS, storeS, setPart, splice, endS, resS, fieldS, hd, hm, hw, hw1, h, e]
  · have e : upM n = n / 1000000 := by unfold upM; omega
    simp [c_ticks_Ceil, evW_reg, evW_chkr, isCst, loadS, partS, TK.agg, fieldAddrS, zeroS, storeS, setPart, splice, endS, resS, fieldS, hd, hm, hw, h, e]
theorem bounds_part_c (get) {n : Int} (h0 : 0 ≤ n) (h1 : n ≤ 9000000000000000000) : callP (PCw ES) get n_bounds_part [.int .i64 n] = some (.int .i64 (upM n)) := by
  refine callP_of (PCw_ex (fun M0 => ?_) rfl) (by simp)
  rw [b_bounds_part]
  have h := fun get => ticks_Ceil_c get h0 h1
  simp [c_bounds_part, evW_reg, evW_chkr, isCst, loadS, partS, TK.agg, fieldAddrS, zeroS, storeS, setPart, splice, endS, resS, fieldS, h]
def inB (n a b : Int) : Bool := decide (a ≤ n ∧ n ≤ b)
@[simp] theorem bounds_within_c (get) (n a b : Int) : callP (PCw ES) get n_bounds_within [.int .i64 n, .int .i64 a, .int .i64 b] = some (.bool (inB n a b)) := by
  refine callP_of (PCw_ex (fun M0 => ?_) rfl) (by simp)
  rw [b_bounds_within]
  unfold inB
  by_cases h : a ≤ n <;> simp [c_bounds_within, evW_reg, evW_chkr, isCst, loadS, partS, TK.agg, fieldAddrS, zeroS, storeS, setPart, splice, endS, resS, fieldS, h]
/-- The number of the first that is not so. -/
def firstF (n : Int) : List Bool → Int
  | [] => 0
  | b :: r => if b then firstF (n + 1) r else n
theorem firstF_find (n : Int) : ∀ l : List Bool, firstF n l = match (List.range l.length).find? (fun j => (l[j]?.map (!·)).getD false) with | some j => n + j | none => 0
  | [] => rfl
  | b :: r => by
    have ih := firstF_find (n + 1) r
    rw [firstF, ih, List.length_cons, List.range_succ_eq_map, List.find?_cons]
    cases b with
    | false => simp
    | true =>
      simp only [List.getElem?_cons_zero, Option.map_some, Option.getD_some, Bool.not_true, List.find?_map, if_true]
      have e : ((fun j => (((true :: r)[j]?).map (!·)).getD false) ∘ Nat.succ) = fun j => ((r[j]?).map (!·)).getD false := by funext j; simp
      rw [e]
      cases (List.range r.length).find? (fun j => ((r[j]?).map (!·)).getD false) with
      | none => rfl
      | some j =>
        show n + 1 + (j : Int) = n + ((j + 1 : Nat) : Int)
        omega
def Bools (x : SV) (l : List Bool) : Prop := RSl (fun y b => y = .bool b) x l
theorem bounds_first_ok {x : SV} {l : List Bool} (hx : Bools x l) (hl : l.length ≤ 100) (n : Int) (hn : 0 ≤ n ∧ n ≤ 100) : PCw ES n_bounds_first [.int .i64 n, x] = some (.int .i64 (firstF n l)) := by
  refine PCw_ex (fun M0 => ?_) rfl
  rw [b_bounds_first, firstF_find]
  have hlen := hx.lenS ti_sl_bool
  have at' : ∀ {j : Nat}, j < l.length → indexAddrS ES.P T_sl_bool x (.int .i64 j) = some (.rptr (l.map .bool) j 0 (stOf x)) := fun {j} hj => RSl.at (enc := SV.bool) hx ti_sl_bool ti_bool (fun _ => rfl) hj
  obtain ⟨r, g1, M', g2⟩ := loop_find (E := ES) (me := n_bounds_first) (B := c_bounds_first_B0) (len := l.length) (T := fun j => h_bounds_first_0 (.int .i64 n) x (.int .i64 l.length) (.int .i64 j))
    (I := fun _ _ => True) (p := fun j => (l[j]?.map (!·)).getD false)
    (Q := fun o r => ∃ M', r = match o with
      | some j => (.ret, ⟨(h_bounds_first_0 .bad .bad .bad .bad).set 4 (.int .i64 (n + j)), M'⟩)
      | none => (.exit 0, ⟨(h_bounds_first_0 (.int .i64 n) x (.int .i64 l.length) (.int .i64 l.length)).set 10 (.bool false), M'⟩))
    (fun j M hj _ hp => by
      have ha := at' hj
      have hw : IntKind.i64.wrap ((j : Int) + 1) = (j : Int) + 1 := i64_in (by omega) (by omega)
      simp [hj] at hp
      exact ⟨M, by simp [c_bounds_first_B0, evW_reg, evW_chkr, isCst, loadS, partS, TK.agg, fieldAddrS, zeroS, storeS, setPart, splice, endS, resS, fieldS, h_bounds_first_0, hj, ha, hp, hw], trivial⟩)
    (fun j M hj _ hp => by
      have ha := at' hj
      have hw : IntKind.i64.wrap (n + (j : Int)) = n + (j : Int) := i64_in (by omega) (by omega)
      simp [hj] at hp
      have hB : evW ES n_bounds_first c_bounds_first_B0 ⟨h_bounds_first_0 (.int .i64 n) x (.int .i64 l.length) (.int .i64 j), M⟩ = some (.ret, ⟨(h_bounds_first_0 .bad .bad .bad .bad).set 4 (.int .i64 (n + j)), M⟩) := by
        simp [c_bounds_first_B0, evW_reg, evW_chkr, isCst, loadS, partS, TK.agg, fieldAddrS, zeroS, storeS, setPart, splice, endS, resS, fieldS, h_bounds_first_0, hj, ha, hp, hw]
      exact ⟨_, hB, by simp, M, rfl⟩)
    (fun M _ => ⟨_, by simp [c_bounds_first_B0, evW_reg, evW_chkr, isCst, loadS, partS, TK.agg, fieldAddrS, zeroS, storeS, setPart, splice, endS, resS, fieldS, h_bounds_first_0], by simp, M, rfl⟩) M0 trivial
  cases hf : (List.range l.length).find? (fun j => (l[j]?.map (!·)).getD false) with
  | none =>
    rw [hf] at g2
    subst g2
    simp [h_bounds_first_0] at g1
    simp [c_bounds_first, evW_reg, evW_chkr, isCst, loadS, partS, TK.agg, fieldAddrS, zeroS, storeS, setPart, splice, endS, resS, fieldS, hlen, c_bounds_first_L0, g1]
  | some j =>
    rw [hf] at g2
    subst g2
    simp [h_bounds_first_0] at g1
    simp [c_bounds_first, evW_reg, evW_chkr, isCst, loadS, partS, TK.agg, fieldAddrS, zeroS, storeS, setPart, splice, endS, resS, fieldS, hlen, c_bounds_first_L0, g1]
theorem bounds_first_own {get : Nat → Option (List SV)} {id : Nat} (l : List Bool) (h : get id = some (l.map .bool)) (hl : l.length ≤ 100) (n : Int) (hn : 0 ≤ n ∧ n ≤ 100) : callP (PCw ES) get n_bounds_first [.int .i64 n, .own id 1 0 l.length] = some (.int .i64 (firstF n l)) := by
  have hi : pic get false picDepth (.int .i64 n) = some (.int .i64 n) := pic_np rfl
  have hp : ∀ x ∈ l.map SV.bool, Sh.pv x = true := fun x hx => by
    simp only [List.mem_map] at hx
    obtain ⟨b, _, rfl⟩ := hx
    rfl
  have ho : pic get false picDepth (.own id 1 0 l.length) = some (.sl (l.map .bool) .snap) := by
    unfold picDepth pic
    simp only [Sh.pv, Bool.false_eq_true, if_false, h, Nat.zero_add, List.length_map, Nat.le_refl, if_true, List.drop_zero]
    rw [show (l.map SV.bool).take l.length = l.map SV.bool by rw [List.take_of_length_le (by simp)]]
    rw [mapM_id fun x hx => pic_np (np_of_pv (hp x hx) _)]
  rw [callP_pic (ys := [.int .i64 n, .sl (l.map .bool) .snap]) (by simp [hi, ho])]
  exact bounds_first_ok (RSl.of_map rfl rfl) hl n hn
def numsC (c : Cfg) : List SV := [.int .i64 (edgeN c), .int .i64 (2 * edgeN c), .int .i64 (slewN c), .int .i64 (stepN c), .int .i64 (jumpN c), .int .i64 (tickN c), .int .i64 (c.ages + 1)]
def zeroNums : List SV := [.int .i64 0, .int .i64 0, .int .i64 0, .int .i64 0, .int .i64 0, .int .i64 0, .int .i64 0]
set_option maxHeartbeats 4000000 in
theorem bounds_Reckon_c (get) {P L : SV} {c : Cfg} (hP : CfgP c P L) (h : InRange c) : callP (PCw ES) get n_bounds_Reckon [.agg (cfgC c P L)] = some (.agg (numsC c)) := by
  refine callP_of (PCw_ex (fun M0 => ?_) rfl) (by simp [hP.npA])
  rw [b_bounds_Reckon]
  have h2 := h.dc2
  have h1 := h.dc
  obtain ⟨he, hs, hst, hj, ht⟩ := h.nums
  have hd := h.dr
  have hr := h.ra
  have hag := h.ag
  have u1 := fun get => bounds_part_c get h2.1 (by omega)
  have u2 := fun get => bounds_part_c get h1.1 (by omega)
  have u3 := fun get => bounds_part_c get ht.1 (by omega)
  have w1 : IntKind.i64.wrap (2 * c.drift) = 2 * c.drift := i64_in (by omega) (by omega)
  have w2 : IntKind.i64.wrap (2 * c.drift * c.cycle) = 2 * c.drift * c.cycle := i64_in (by omega) (by omega)
  have w3 : IntKind.i64.wrap (upM (2 * c.drift * c.cycle) + 1) = edgeN c := i64_in (by unfold edgeN at he; omega) (by unfold edgeN at he; omega)
  have w4 : IntKind.i64.wrap (c.drift * c.cycle) = c.drift * c.cycle := i64_in (by omega) (by omega)
  have w5 : IntKind.i64.wrap (c.ages + 1) = c.ages + 1 := i64_in (by omega) (by omega)
  have w6 : IntKind.i64.wrap (2 * edgeN c) = 2 * edgeN c := i64_in (by omega) (by omega)
  have w7 : IntKind.i64.wrap (2 * (2 * edgeN c)) = 4 * edgeN c := by rw [i64_in (by omega) (by omega)]; omega
  have w8 : IntKind.i64.wrap (2 * slewN c) = 2 * slewN c := i64_in (by omega) (by omega)
  have w9 : IntKind.i64.wrap (4 * edgeN c + 2 * slewN c) = 4 * edgeN c + 2 * slewN c := i64_in (by omega) (by omega)
  have w10 : IntKind.i64.wrap (4 * edgeN c + 2 * slewN c + 2) = stepN c := i64_in (by unfold stepN at hst; omega) (by unfold stepN at hst; omega)
  have w11 : IntKind.i64.wrap (2 * c.ages) = 2 * c.ages := i64_in (by omega) (by omega)
  have w12 : IntKind.i64.wrap (2 * c.ages * stepN c) = 2 * c.ages * stepN c := i64_in (by omega) (by omega)
  have w13 : IntKind.i64.wrap (2 * c.ages * stepN c + 4 * edgeN c) = jumpN c := i64_in (by omega) (by omega)
  have w14 : IntKind.i64.wrap (2 * edgeN c + edgeN c) = 3 * edgeN c := by rw [i64_in (by omega) (by omega)]; omega
  have w15 : IntKind.i64.wrap (c.rate + c.drift) = c.rate + c.drift := i64_in (by omega) (by omega)
  have w16 : IntKind.i64.wrap (2 * edgeN c * (c.rate + c.drift)) = 2 * edgeN c * (c.rate + c.drift) := i64_in (by omega) (by omega)
  have w17 : IntKind.i64.wrap (3 * edgeN c + upM (2 * edgeN c * (c.rate + c.drift))) = 3 * edgeN c + upM (2 * edgeN c * (c.rate + c.drift)) := by unfold upM; exact i64_in (by omega) (by omega)
  have w18 : IntKind.i64.wrap (3 * edgeN c + upM (2 * edgeN c * (c.rate + c.drift)) + 1) = tickN c := by unfold tickN upM; exact i64_in (by omega) (by omega)
  have b0 : ∀ a b d : Int, bldS ES.P T_bounds_Numbers [(0, .int .i64 a), (2, .int .i64 b), (6, .int .i64 d)] = some (.agg [.int .i64 a, .int .i64 0, .int .i64 b, .int .i64 0, .int .i64 0, .int .i64 0, .int .i64 d]) := fun a b d => by simp [bldS, placesOf, buildS, splice]
  have hsl : upM (c.drift * c.cycle) = slewN c := rfl
  simp [c_bounds_Reckon, evW_reg, evW_chkr, isCst, loadS, partS, TK.agg, fieldAddrS, zeroS, storeS, setPart, splice, endS, resS, fieldS, cfgC, numsC, u1, u2, u3, w1, w2, w3, w4, w5, w6, w7, w8, w9, w10, w11, w12, w13, w14, w15, w16, w17, w18, b0, hsl, Nat.add_assoc]
theorem ranged_firstF (c : Cfg) : firstF 1 [inB c.cycle 1000 1000000, inB c.drift 0 500, inB c.rate 0 400000, inB c.ages 1 200, inB c.lost 0 20] = outN c := by
  unfold outN inB
  by_cases h1 : c.cycle < 1000 ∨ 1000000 < c.cycle
  · rw [if_pos h1]; simp [firstF]; omega
  rw [if_neg h1]
  by_cases h2 : c.drift < 0 ∨ 500 < c.drift
  · rw [if_pos h2, firstF, if_pos (by simp; omega)]; simp [firstF]; omega
  rw [if_neg h2]
  by_cases h3 : c.rate < 0 ∨ 400000 < c.rate
  · rw [if_pos h3, firstF, if_pos (by simp; omega), firstF, if_pos (by simp; omega)]; simp [firstF]; omega
  rw [if_neg h3]
  by_cases h4 : c.ages < 1 ∨ 200 < c.ages
  · rw [if_pos h4, firstF, if_pos (by simp; omega), firstF, if_pos (by simp; omega), firstF, if_pos (by simp; omega)]; simp [firstF]; omega
  rw [if_neg h4]
  by_cases h5 : c.lost < 0 ∨ 20 < c.lost
  · rw [if_pos h5, firstF, if_pos (by simp; omega), firstF, if_pos (by simp; omega), firstF, if_pos (by simp; omega), firstF, if_pos (by simp; omega)]; simp [firstF]; omega
  rw [if_neg h5, firstF, if_pos (by simp; omega), firstF, if_pos (by simp; omega), firstF, if_pos (by simp; omega), firstF, if_pos (by simp; omega)]
  simp [firstF]
  omega
theorem bounds_ranged_c (get) {P L : SV} {c : Cfg} (hP : CfgP c P L) : callP (PCw ES) get n_bounds_ranged [.agg (cfgC c P L)] = some (.int .i64 (outN c)) := by
  refine callP_of (PCw_ex (fun M0 => ?_) rfl) (by simp [hP.npA])
  rw [b_bounds_ranged]
  have hf := fun (get : Nat → Option (List SV)) (id : Nat) (h : get id = some [.bool (inB c.cycle 1000 1000000), .bool (inB c.drift 0 500), .bool (inB c.rate 0 400000), .bool (inB c.ages 1 200), .bool (inB c.lost 0 20)]) =>
    bounds_first_own [inB c.cycle 1000 1000000, inB c.drift 0 500, inB c.rate 0 400000, inB c.ages 1 200, inB c.lost 0 20] (get := get) (id := id) h (by simp) 1 (by decide)
  rw [ranged_firstF] at hf
  simp only [List.length_cons, List.length_nil] at hf
  simp [c_bounds_ranged, evW_reg, evW_chkr, isCst, loadS, partS, TK.agg, fieldAddrS, zeroS, storeS, setPart, splice, endS, resS, fieldS, cfgC, hf, bldSl, buildRow]
theorem bounds_in_c (get) {P L : SV} {c : Cfg} (hP : CfgP c P L) : callP (PCw ES) get n_bounds_in [.agg (cfgC c P L)] = some (.agg (if rangedC c then numsC c else zeroNums)) := by
  refine callP_of (PCw_ex (fun M0 => ?_) (by split <;> rfl)) (by simp [hP.npA])
  rw [b_bounds_in]
  have h1 := fun get => plan_Right_c get hP
  have h2 := fun get => bounds_ranged_c get hP
  simp only [cfgC] at h1 h2
  have b0 : bldS ES.P T_bounds_Numbers [] = some (.agg zeroNums) := by simp [bldS, placesOf, buildS, zeroNums]
  have hc : (numsC c).length = 7 := rfl
  unfold rangedC
  cases hr : rightC c with
  | false =>
    rw [hr] at h1
    simp [c_bounds_in, evW_reg, evW_chkr, isCst, loadS, partS, TK.agg, fieldAddrS, zeroS, storeS, setPart, splice, endS, resS, fieldS, cfgC, h1, b0, zeroNums]
  | true =>
    rw [hr] at h1
    by_cases ho : outN c = 0
    · have h3 := fun get => bounds_Reckon_c get hP (outN_zero ho)
      simp only [cfgC] at h3
      simp [c_bounds_in, evW_reg, evW_chkr, isCst, loadS, partS, TK.agg, fieldAddrS, zeroS, storeS, setPart, splice, endS, resS, fieldS, cfgC, h1, h2, h3, ho, numsC]
    · simp [c_bounds_in, evW_reg, evW_chkr, isCst, loadS, partS, TK.agg, fieldAddrS, zeroS, storeS, setPart, splice, endS, resS, fieldS, cfgC, h1, h2, ho, b0, zeroNums]
def val_Edge (c : Cfg) : Int := edgeN c
def val_Near (c : Cfg) : Int := 2 * edgeN c
def val_Slew (c : Cfg) : Int := slewN c
def val_Step (c : Cfg) : Int := stepN c
def val_Jump (c : Cfg) : Int := jumpN c
def val_Tick (c : Cfg) : Int := tickN c
def val_Gone (c : Cfg) : Int := c.ages + 1
theorem bounds_Edge_c (get) {P L : SV} {c : Cfg} (hP : CfgP c P L) : callP (PCw ES) get n_bounds_Edge [.agg (cfgC c P L)] = some (.int .i64 (if rangedC c then val_Edge c else 0)) := by
  refine callP_of (PCw_ex (fun M0 => ?_) rfl) (by simp [hP.npA])
  rw [b_bounds_Edge]
  have h1 := fun get => bounds_in_c get hP
  simp only [cfgC] at h1
  unfold val_Edge
  cases hr : rangedC c with
  | false =>
    rw [hr] at h1
    simp [c_bounds_Edge, evW_reg, evW_chkr, isCst, loadS, partS, TK.agg, fieldAddrS, zeroS, storeS, setPart, splice, endS, resS, fieldS, cfgC, h1, zeroNums]
  | true =>
    rw [hr] at h1
    simp [c_bounds_Edge, evW_reg, evW_chkr, isCst, loadS, partS, TK.agg, fieldAddrS, zeroS, storeS, setPart, splice, endS, resS, fieldS, cfgC, h1, numsC]
theorem bounds_Near_c (get) {P L : SV} {c : Cfg} (hP : CfgP c P L) : callP (PCw ES) get n_bounds_Near [.agg (cfgC c P L)] = some (.int .i64 (if rangedC c then val_Near c else 0)) := by
  refine callP_of (PCw_ex (fun M0 => ?_) rfl) (by simp [hP.npA])
  rw [b_bounds_Near]
  have h1 := fun get => bounds_in_c get hP
  simp only [cfgC] at h1
  unfold val_Near
  cases hr : rangedC c with
  | false =>
    rw [hr] at h1
    simp [c_bounds_Near, evW_reg, evW_chkr, isCst, loadS, partS, TK.agg, fieldAddrS, zeroS, storeS, setPart, splice, endS, resS, fieldS, cfgC, h1, zeroNums]
  | true =>
    rw [hr] at h1
    simp [c_bounds_Near, evW_reg, evW_chkr, isCst, loadS, partS, TK.agg, fieldAddrS, zeroS, storeS, setPart, splice, endS, resS, fieldS, cfgC, h1, numsC]
theorem bounds_Slew_c (get) {P L : SV} {c : Cfg} (hP : CfgP c P L) : callP (PCw ES) get n_bounds_Slew [.agg (cfgC c P L)] = some (.int .i64 (if rangedC c then val_Slew c else 0)) := by
  refine callP_of (PCw_ex (fun M0 => ?_) rfl) (by simp [hP.npA])
  rw [b_bounds_Slew]
  have h1 := fun get => bounds_in_c get hP
  simp only [cfgC] at h1
  unfold val_Slew
  cases hr : rangedC c with
  | false =>
    rw [hr] at h1
    simp [c_bounds_Slew, evW_reg, evW_chkr, isCst, loadS, partS, TK.agg, fieldAddrS, zeroS, storeS, setPart, splice, endS, resS, fieldS, cfgC, h1, zeroNums]
  | true =>
    rw [hr] at h1
    simp [c_bounds_Slew, evW_reg, evW_chkr, isCst, loadS, partS, TK.agg, fieldAddrS, zeroS, storeS, setPart, splice, endS, resS, fieldS, cfgC, h1, numsC]
theorem bounds_Step_c (get) {P L : SV} {c : Cfg} (hP : CfgP c P L) : callP (PCw ES) get n_bounds_Step [.agg (cfgC c P L)] = some (.int .i64 (if rangedC c then val_Step c else 0)) := by
  refine callP_of (PCw_ex (fun M0 => ?_) rfl) (by simp [hP.npA])
  rw [b_bounds_Step]
  have h1 := fun get => bounds_in_c get hP
  simp only [cfgC] at h1
  unfold val_Step
  cases hr : rangedC c with
  | false =>
    rw [hr] at h1
    simp [c_bounds_Step, evW_reg, evW_chkr, isCst, loadS, partS, TK.agg, fieldAddrS, zeroS, storeS, setPart, splice, endS, resS, fieldS, cfgC, h1, zeroNums]
  | true =>
    rw [hr] at h1
    simp [c_bounds_Step, evW_reg, evW_chkr, isCst, loadS, partS, TK.agg, fieldAddrS, zeroS, storeS, setPart, splice, endS, resS, fieldS, cfgC, h1, numsC]
theorem bounds_Jump_c (get) {P L : SV} {c : Cfg} (hP : CfgP c P L) : callP (PCw ES) get n_bounds_Jump [.agg (cfgC c P L)] = some (.int .i64 (if rangedC c then val_Jump c else 0)) := by
  refine callP_of (PCw_ex (fun M0 => ?_) rfl) (by simp [hP.npA])
  rw [b_bounds_Jump]
  have h1 := fun get => bounds_in_c get hP
  simp only [cfgC] at h1
  unfold val_Jump
  cases hr : rangedC c with
  | false =>
    rw [hr] at h1
    simp [c_bounds_Jump, evW_reg, evW_chkr, isCst, loadS, partS, TK.agg, fieldAddrS, zeroS, storeS, setPart, splice, endS, resS, fieldS, cfgC, h1, zeroNums]
  | true =>
    rw [hr] at h1
    simp [c_bounds_Jump, evW_reg, evW_chkr, isCst, loadS, partS, TK.agg, fieldAddrS, zeroS, storeS, setPart, splice, endS, resS, fieldS, cfgC, h1, numsC]
theorem bounds_Tick_c (get) {P L : SV} {c : Cfg} (hP : CfgP c P L) : callP (PCw ES) get n_bounds_Tick [.agg (cfgC c P L)] = some (.int .i64 (if rangedC c then val_Tick c else 0)) := by
  refine callP_of (PCw_ex (fun M0 => ?_) rfl) (by simp [hP.npA])
  rw [b_bounds_Tick]
  have h1 := fun get => bounds_in_c get hP
  simp only [cfgC] at h1
  unfold val_Tick
  cases hr : rangedC c with
  | false =>
    rw [hr] at h1
    simp [c_bounds_Tick, evW_reg, evW_chkr, isCst, loadS, partS, TK.agg, fieldAddrS, zeroS, storeS, setPart, splice, endS, resS, fieldS, cfgC, h1, zeroNums]
  | true =>
    rw [hr] at h1
    simp [c_bounds_Tick, evW_reg, evW_chkr, isCst, loadS, partS, TK.agg, fieldAddrS, zeroS, storeS, setPart, splice, endS, resS, fieldS, cfgC, h1, numsC]
theorem bounds_Gone_c (get) {P L : SV} {c : Cfg} (hP : CfgP c P L) : callP (PCw ES) get n_bounds_Gone [.agg (cfgC c P L)] = some (.int .i64 (if rangedC c then val_Gone c else 0)) := by
  refine callP_of (PCw_ex (fun M0 => ?_) rfl) (by simp [hP.npA])
  rw [b_bounds_Gone]
  have h1 := fun get => bounds_in_c get hP
  simp only [cfgC] at h1
  unfold val_Gone
  cases hr : rangedC c with
  | false =>
    rw [hr] at h1
    simp [c_bounds_Gone, evW_reg, evW_chkr, isCst, loadS, partS, TK.agg, fieldAddrS, zeroS, storeS, setPart, splice, endS, resS, fieldS, cfgC, h1, zeroNums]
  | true =>
    rw [hr] at h1
    simp [c_bounds_Gone, evW_reg, evW_chkr, isCst, loadS, partS, TK.agg, fieldAddrS, zeroS, storeS, setPart, splice, endS, resS, fieldS, cfgC, h1, numsC]

end Go.Proofs.YtbdliphlolajaaaGreatDoor
