/-
  Walks of the seat's functions: Bh.
-/
import Derived.Test.YtomlbmbgocmiiaaGreatDoorEbMa
import Derived.Test.YtomlbmbgocmiiaaGreatDoorShMb
import Derived.Test.YtomlbmbgocmiiaaGreatDoorLzMf
set_option linter.unusedVariables false
set_option linter.unusedSimpArgs false
set_option maxRecDepth 100000
namespace Go.Proofs.YtomlbmbgocmiiaaGreatDoor
open Go.Proofs.YtomlbmbgocmiiaaGreatDoor.Sh
/-! bounds.Fits, bounds.First. -/
def rangeN (c : Cfg) : Int := if outN c ≠ 0 then outN c else laterN c
def errB (at' : Int) : SV := .iface T_p_bounds_fault (.rptr [.agg [.int .i64 at', .iface sentT (.rptr [] 0 0 true)]] 0 0 true)
def errBO (v : Int) : SV := if v = 0 then .nili else errB v
set_option maxHeartbeats 4000000 in
theorem fits_body {P L : SV} {c : Cfg} (j f : Nat) (v : Int) (M : Mem) (s q : Nat) {fns : List SV} (hj : j < 3) (hf : fns[j]? = some (.fn f [] [])) (hc : ∀ get, callP (PCw ES) get f [.agg (cfgC c P L)] = some (.int .i64 v))
    (hn : ((ES.prim f).isSome || ES.imp n_bounds_fits f) = false) (h1 : M.blk s = some [.agg (cfgC c P L)]) (h2 : M.blk q = some fns) (hs : s < M.next) (hq : q < M.next) :
    evW ES n_bounds_fits c_bounds_fits_B0 ⟨h_bounds_fits_0 (.ptr s 0 0) (.own q 1 0 3) (.int .i64 3) (.int .i64 j), M⟩ =
      some (if v = 0 then (.normal, ⟨h_bounds_fits_0 (.ptr s 0 0) (.own q 1 0 3) (.int .i64 3) (.int .i64 ((j + 1 : Nat) : Int)), M.bump 4⟩)
        else (.ret, ⟨(h_bounds_fits_0 .bad .bad .bad .bad).set 2 (.iface T_p_bounds_fault (.ptr (M.next + 7) 0 0)), ((M.bump 4).bump 6).set (M.next + 7) (some [.agg [.int .i64 v, .iface sentT (.rptr [] 0 0 true)]])⟩)) := by
  have hw : IntKind.i64.wrap ((j : Int) + 1) = (j : Int) + 1 := i64_in (by omega) (by omega)
  have hj' : (j : Int) < 3 := by omega
  have hix : indexAddrS ES.P T_sl_func_api_Config_int (.own q 1 0 3) (.int .i64 j) = some (.ptr q j 0) := by simp [indexAddrS, natS, hj]
  have b0 : bldS ES.P T_bounds_fault [(0, .int .i64 v), (1, .iface sentT (.rptr [] 0 0 true))] = some (.agg [.int .i64 v, .iface sentT (.rptr [] 0 0 true)]) := by simp [bldS, placesOf, buildS, splice]
  have e1 : ∀ k, (s = M.next + k) = False := fun k => by simp; omega
  simp only [cfgC] at h1 hc
  have hT := fun (n0 sz k : Nat) lm r d T M args => callT_fn (E := ES) (me := n_bounds_fits) (pc := PCw ES) (ic := ICw ES) (n0 := n0) (sz := sz) (k := k) (lm := lm) (r := r) (d := d) (T := T) (M := M) (a := []) (c := []) (args := args) hn
  by_cases hv : v = 0
  · simp [c_bounds_fits_B0, evW_reg, evW_chkr, isCst, loadS, partS, TK.agg, fieldAddrS, zeroS, storeS, setPart, splice, endS, resS, fieldS, h_bounds_fits_0, hj, hj', hix, h1, h2, hf, hT, hc, hv, hw, Nat.add_assoc]
  · simp [c_bounds_fits_B0, evW_reg, evW_chkr, isCst, loadS, partS, TK.agg, fieldAddrS, zeroS, storeS, setPart, splice, endS, resS, fieldS, h_bounds_fits_0, hj, hj', hix, h1, h2, hf, hT, hc, hv, b0, e1, makeIS, Nat.add_assoc]
set_option maxHeartbeats 4000000 in
theorem bounds_fits_ok {P L : SV} {c : Cfg} (hP : CfgP c P L) (hr : rightC c = true) : PCw ES n_bounds_fits [.agg (cfgC c P L)] = some (errBO (rangeN c)) := by
  have key : ∃ v M, ICw ES n_bounds_fits [.agg (cfgC c P L)] .empty = some (v, M) ∧ pic M.blk true picDepth v = some (errBO (rangeN c)) := by
    rw [b_bounds_fits]
    have fn : (((((Mem.empty.bump 2).set 0 (some [.agg (cfgC c P L)])).bump 3).set 2 (some [SV.fn n_bounds_ranged [] [], .fn n_bounds_windows [] [], .fn n_bounds_waits [] []]))).next = 5 := rfl
    have hpic : ∀ (v : Int) (M : Mem) (id : Nat), pic (M.set id (some [.agg [.int .i64 v, .iface sentT (.rptr [] 0 0 true)]])).blk true picDepth (.iface T_p_bounds_fault (.ptr id 0 0)) = some (errB v) := by
      intro v M id
      have h1 : pic (M.set id (some [.agg [.int .i64 v, .iface sentT (.rptr [] 0 0 true)]])).blk true 11 (.ptr id 0 0) = some (.rptr [.agg [.int .i64 v, .iface sentT (.rptr [] 0 0 true)]] 0 0 true) := pic_ptr (by simp) (by simp; rfl)
      unfold picDepth pic
      rw [if_neg (by simp [Sh.pv])]
      simp only [h1]
      rfl
    have hsl : ∀ a, bldSl ES.P T_sl_func_api_Config_int 3 a [(0, .fn n_bounds_ranged [] []), (1, .fn n_bounds_windows [] []), (2, .fn n_bounds_waits [] [])] = some (.own a 1 0 3, [SV.fn n_bounds_ranged [] [], .fn n_bounds_windows [] [], .fn n_bounds_waits [] []]) := fun a => by simp [bldSl, buildRow]
    have k0 := fits_body (P := P) (L := L) (c := c) 0 n_bounds_ranged (outN c) ((((Mem.empty.bump 2).set 0 (some [.agg (cfgC c P L)])).bump 3).set 2 (some [SV.fn n_bounds_ranged [] [], .fn n_bounds_windows [] [], .fn n_bounds_waits [] []])) 0 2 (fns := [SV.fn n_bounds_ranged [] [], .fn n_bounds_windows [] [], .fn n_bounds_waits [] []]) (by decide) rfl (fun get => bounds_ranged_c get hP) (npF (by rfl) _) (by simp) (by simp) (by simp) (by simp)
    have stop : ∀ {s s' : St} {e : Ex}, evW ES n_bounds_fits c_bounds_fits_B0 s = some (e, s') → e ≠ .normal → evW ES n_bounds_fits c_bounds_fits_L0 s = some (e, s') := fun {s s' e} h he => insStop h he
    have next : ∀ {s s' : St} {r}, evW ES n_bounds_fits c_bounds_fits_B0 s = some (.normal, s') → evW ES n_bounds_fits c_bounds_fits_L0 s' = r → evW ES n_bounds_fits c_bounds_fits_L0 s = r := fun {s s' r} h hr => by
      unfold c_bounds_fits_L0 at hr ⊢
      rw [evW_loop, h]
      exact hr
    by_cases h0 : outN c = 0
    · rw [if_pos h0] at k0
      have hin := outN_zero h0
      have k1 := fits_body (P := P) (L := L) (c := c) 1 n_bounds_windows (windowsN c) (((((Mem.empty.bump 2).set 0 (some [.agg (cfgC c P L)])).bump 3).set 2 (some [SV.fn n_bounds_ranged [] [], .fn n_bounds_windows [] [], .fn n_bounds_waits [] []])).bump 4) 0 2 (fns := [SV.fn n_bounds_ranged [] [], .fn n_bounds_windows [] [], .fn n_bounds_waits [] []]) (by decide) rfl (fun get => bounds_windows_c get hP hr hin) (npF (by rfl) _) (by simp) (by simp) (by simp) (by simp)
      by_cases h1 : windowsN c = 0
      · rw [if_pos h1] at k1
        have k2 := fits_body (P := P) (L := L) (c := c) 2 n_bounds_waits (waitsN c) ((((((Mem.empty.bump 2).set 0 (some [.agg (cfgC c P L)])).bump 3).set 2 (some [SV.fn n_bounds_ranged [] [], .fn n_bounds_windows [] [], .fn n_bounds_waits [] []])).bump 4).bump 4) 0 2 (fns := [SV.fn n_bounds_ranged [] [], .fn n_bounds_windows [] [], .fn n_bounds_waits [] []]) (by decide) rfl (fun get => bounds_waits_c get hP hr hin) (npF (by rfl) _) (by simp) (by simp) (by simp) (by simp)
        by_cases h2 : waitsN c = 0
        · rw [if_pos h2] at k2
          have e : rangeN c = 0 := by simp [rangeN, laterN, h0, h1, h2]
          have kend : evW ES n_bounds_fits c_bounds_fits_B0 ⟨h_bounds_fits_0 (.ptr 0 0 0) (.own 2 1 0 3) (.int .i64 3) (.int .i64 ((2 + 1 : Nat) : Int)), (((((((Mem.empty.bump 2).set 0 (some [.agg (cfgC c P L)])).bump 3).set 2 (some [SV.fn n_bounds_ranged [] [], .fn n_bounds_windows [] [], .fn n_bounds_waits [] []])).bump 4).bump 4).bump 4)⟩ =
              some (.exit 0, ⟨(h_bounds_fits_0 (.ptr 0 0 0) (.own 2 1 0 3) (.int .i64 3) (.int .i64 3)).set 9 (.bool false), (((((((Mem.empty.bump 2).set 0 (some [.agg (cfgC c P L)])).bump 3).set 2 (some [SV.fn n_bounds_ranged [] [], .fn n_bounds_windows [] [], .fn n_bounds_waits [] []])).bump 4).bump 4).bump 4)⟩) := by
            simp [c_bounds_fits_B0, evW_reg, evW_chkr, isCst, loadS, partS, TK.agg, fieldAddrS, zeroS, storeS, setPart, splice, endS, resS, fieldS, h_bounds_fits_0]
          have g := next k0 (next k1 (next k2 (stop kend (by simp))))
          simp [h_bounds_fits_0, cfgC] at g
          generalize hr : endS ES _ _ = r
          simp [c_bounds_fits, evW_reg, evW_chkr, isCst, loadS, partS, TK.agg, fieldAddrS, zeroS, storeS, setPart, splice, endS, resS, fieldS, cfgC, hsl, lenS, g] at hr
          subst hr
          exact ⟨_, _, rfl, by rw [e]; rfl⟩
        · rw [if_neg h2] at k2
          have e : rangeN c = waitsN c := by simp [rangeN, laterN, h0, h1]
          have g := next k0 (next k1 (stop k2 (by simp)))
          simp [h_bounds_fits_0, cfgC] at g
          generalize hr : endS ES _ _ = r
          simp [c_bounds_fits, evW_reg, evW_chkr, isCst, loadS, partS, TK.agg, fieldAddrS, zeroS, storeS, setPart, splice, endS, resS, fieldS, cfgC, hsl, lenS, g] at hr
          subst hr
          refine ⟨_, _, rfl, ?_⟩
          rw [e, errBO, if_neg h2]
          exact hpic _ _ _
      · rw [if_neg h1] at k1
        have e : rangeN c = windowsN c := by simp [rangeN, laterN, h0, h1]
        have g := next k0 (stop k1 (by simp))
        simp [h_bounds_fits_0, cfgC] at g
        generalize hr : endS ES _ _ = r
        simp [c_bounds_fits, evW_reg, evW_chkr, isCst, loadS, partS, TK.agg, fieldAddrS, zeroS, storeS, setPart, splice, endS, resS, fieldS, cfgC, hsl, lenS, g] at hr
        subst hr
        refine ⟨_, _, rfl, ?_⟩
        rw [e, errBO, if_neg h1]
        exact hpic _ _ _
    · rw [if_neg h0] at k0
      have e : rangeN c = outN c := by simp [rangeN, h0]
      have g := stop k0 (by simp)
      simp [h_bounds_fits_0, cfgC] at g
      generalize hr : endS ES _ _ = r
      simp [c_bounds_fits, evW_reg, evW_chkr, isCst, loadS, partS, TK.agg, fieldAddrS, zeroS, storeS, setPart, splice, endS, resS, fieldS, cfgC, hsl, lenS, g] at hr
      subst hr
      refine ⟨_, _, rfl, ?_⟩
      rw [e, errBO, if_neg h0]
      exact hpic _ _ _
  obtain ⟨v, M, h1, h2⟩ := key
  exact PCw_pic h1 h2 (by unfold errBO; split <;> rfl)
theorem As_B {items : List SV} {i o id : Nat} {st : Bool} {y : SV} {M : Mem} (hb : M.blk id = some [y]) (hy : y.cells.length = 1) :
    ICw ES n_errors_As [.iface T_p_bounds_fault (.rptr items i o st), .iface T_p_p_bounds_fault (.ptr id 0 0)] M = some (.bool true, M.set id (some [.rptr items i o st])) := by
  rw [ICw_prim (p := prim_errors_As) rfl]
  have : asPairs.contains (T_p_bounds_fault, T_p_p_bounds_fault) = true := by rfl
  simp only [prim_errors_As, this, if_true, hb, hy]
theorem Is_B (a : Int) (x y : SV) (st : Bool) (M : Mem) : ICw ES n_errors_Is [.iface T_p_bounds_fault (.rptr [.agg [.int .i64 a, .iface sentT x]] 0 0 st), .iface sentT y] M = some (.bool true, M) := by
  rw [ICw_prim (p := prim_errors_Is) rfl]
  have h1 : ¬ (T_p_bounds_fault = T_p_plan_fault ∧ sentT = T_plan_code ∧ sentT = T_plan_code) := by decide
  have h2 : T_p_bounds_fault = bfT ∧ sentT = sentT ∧ sentT = sentT := by decide
  simp only [prim_errors_Is]
  rw [if_neg h1, if_pos (show T_p_bounds_fault = bfT ∧ True ∧ True from ⟨by decide, trivial, trivial⟩)]
theorem bounds_fits_c (get) {P L : SV} {c : Cfg} (hP : CfgP c P L) (hr : rightC c = true) : callP (PCw ES) get n_bounds_fits [.agg (cfgC c P L)] = some (errBO (rangeN c)) := callP_of (bounds_fits_ok hP hr) (by simp [hP.npA])
theorem fitsG_eq (c : Cfg) : fitsG c = if (checkG c).1 ≠ 0 then checkG c else if rangeN c ≠ 0 then (14, rangeN c) else (0, 0) := by
  unfold fitsG rangeN
  by_cases h1 : (checkG c).1 = 0
  · by_cases h2 : outN c = 0
    · simp [h1, h2]
    · simp [h1, h2]
  · simp [h1]
set_option maxHeartbeats 4000000 in
theorem bounds_Fits_c (get) {P L : SV} {c : Cfg} (hP : CfgP c P L) : callP (PCw ES) get n_bounds_Fits [.agg (cfgC c P L)] = some (.tup [.int .i64 (fitsG c).1, .int .i64 (fitsG c).2]) := by
  refine callP_of (PCw_ex (fun M0 => ?_) rfl) (by simp [hP.npA])
  rw [b_bounds_Fits, fitsG_eq]
  have h1 := fun get => plan_Check_c get (y := .agg (cfgC c P L)) ⟨P, L, rfl, hP⟩
  simp only [cfgC] at h1
  by_cases h : (checkG c).1 = 0
  · have hr : rightC c = true := by simpa [rightC] using h
    have h2 := fun get => bounds_fits_c get hP hr
    simp only [cfgC] at h2
    unfold errBO at h2
    by_cases hv : rangeN c = 0
    · simp only [hv, if_true] at h2
      have hA := fun v M => As_nil T_p_p_bounds_fault v M
      simp [c_bounds_Fits, evW_reg, evW_chkr, isCst, loadS, partS, TK.agg, fieldAddrS, zeroS, storeS, setPart, splice, endS, resS, fieldS, cfgC, h1, h2, hA, h, hv, makeIS, Nat.add_assoc]
    · simp only [hv, if_false, errB] at h2
      have hA := fun id (M : Mem) (hb : M.blk id = some [.nilp]) => As_B (items := [.agg [.int .i64 (rangeN c), .iface sentT (.rptr [] 0 0 true)]]) (i := 0) (o := 0) (st := true) (y := .nilp) (id := id) (M := M) hb rfl
      have hI := fun M => Is_B (rangeN c) (.rptr [] 0 0 true) (.rptr [] 0 0 true) true M
      simp [c_bounds_Fits, evW_reg, evW_chkr, isCst, loadS, partS, TK.agg, fieldAddrS, zeroS, storeS, setPart, splice, endS, resS, fieldS, cfgC, h1, h2, hA, hI, h, hv, makeIS, Nat.add_assoc]
  · simp [c_bounds_Fits, evW_reg, evW_chkr, isCst, loadS, partS, TK.agg, fieldAddrS, zeroS, storeS, setPart, splice, endS, resS, fieldS, cfgC, h1, h]
theorem fit_facts {c : Cfg} (h : fitG c = true) : 0 ≤ c.listen ∧ c.listen ≤ 60000 ∧ 0 ≤ c.span ∧ c.span ≤ 60000 := by
  obtain ⟨h1, h2, h3⟩ := fitG_spec.1 h
  have hf := right_facts h1
  have hlo := (outN_zero h2).lo
  have hl : 0 ≤ leastN c := by
    unfold leastN
    have := Int.mul_nonneg (show 0 ≤ (c.parts.length : Int) by omega) (show 0 ≤ c.lost + 1 by omega)
    omega
  have hw : waitsN c = 0 := by
    unfold laterN at h3
    split at h3
    · rename_i h4; exact absurd h3 h4
    · exact h3
  unfold waitsN at hw
  split at hw
  · omega
  split at hw
  · omega
  split at hw
  · omega
  omega
theorem bounds_Patience_c (get) {P L : SV} {c : Cfg} (hP : CfgP c P L) (hf : fitG c = true) {part : Int} (hp : inMany part c.parts.length) : callP (PCw ES) get n_bounds_Patience [.agg (cfgC c P L), .int .i64 part] = some (.int .i64 (c.listen + part * c.span)) := by
  refine callP_of (PCw_ex (fun M0 => ?_) rfl) (by simp [hP.npA])
  rw [b_bounds_Patience]
  have h1 := fit_facts hf
  have h2 := right_facts (fitG_spec.1 hf).1
  unfold inMany at hp
  have h3 : 0 ≤ part * c.span := Int.mul_nonneg hp.1 (by omega)
  have h4 : part * c.span ≤ 6 * 60000 := Int.mul_le_mul (by omega) (by omega) (by omega) (by omega)
  have w1 : IntKind.i64.wrap (part * c.span) = part * c.span := i64_in (by omega) (by omega)
  have w2 : IntKind.i64.wrap (c.listen + part * c.span) = c.listen + part * c.span := i64_in (by omega) (by omega)
  simp [c_bounds_Patience, evW_reg, evW_chkr, isCst, loadS, partS, TK.agg, fieldAddrS, zeroS, storeS, setPart, splice, endS, resS, fieldS, cfgC, w1, w2]
set_option maxHeartbeats 4000000 in
theorem bounds_First_c (get) {P L : SV} {c : Cfg} (hP : CfgP c P L) (part : Int) : callP (PCw ES) get n_bounds_First [.agg (cfgC c P L), .int .i64 part] = some (.int .i64 (firstG c part)) := by
  refine callP_of (PCw_ex (fun M0 => ?_) rfl) (by simp [hP.npA])
  rw [b_bounds_First]
  have h1 := fun get => bounds_Fits_c get hP
  have hlenp := hP.p.lenS ti_sl_api_Part
  simp only [cfgC] at h1
  unfold firstG
  by_cases h : (fitsG c).1 = 0
  · have hf : fitG c = true := by simpa [fitG] using h
    rw [hf]
    by_cases h0 : part < 0
    · have hn : ¬ inMany part c.parts.length := by unfold inMany; omega
      simp [c_bounds_First, evW_reg, evW_chkr, isCst, loadS, partS, TK.agg, fieldAddrS, zeroS, storeS, setPart, splice, endS, resS, fieldS, cfgC, h1, h, h0, hn, hlenp]
    · by_cases h2 : (c.parts.length : Int) ≤ part
      · have hn : ¬ inMany part c.parts.length := by unfold inMany; omega
        simp [c_bounds_First, evW_reg, evW_chkr, isCst, loadS, partS, TK.agg, fieldAddrS, zeroS, storeS, setPart, splice, endS, resS, fieldS, cfgC, h1, h, h0, h2, hn, hlenp]
      · have hn : inMany part c.parts.length := by unfold inMany; omega
        have h3 := fun get => bounds_Patience_c get hP hf hn
        simp only [cfgC] at h3
        simp [c_bounds_First, evW_reg, evW_chkr, isCst, loadS, partS, TK.agg, fieldAddrS, zeroS, storeS, setPart, splice, endS, resS, fieldS, cfgC, h1, h, h0, h2, hn, hlenp, h3]
  · have hf : fitG c = false := by simpa [fitG] using h
    rw [hf]
    simp [c_bounds_First, evW_reg, evW_chkr, isCst, loadS, partS, TK.agg, fieldAddrS, zeroS, storeS, setPart, splice, endS, resS, fieldS, cfgC, h1, h]

end Go.Proofs.YtomlbmbgocmiiaaGreatDoor
