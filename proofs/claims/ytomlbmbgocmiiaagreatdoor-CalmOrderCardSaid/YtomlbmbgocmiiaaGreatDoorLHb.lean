/-
  Walks of the seat's functions: Hb.
-/
import Derived.Test.YtomlbmbgocmiiaaGreatDoorEbMa
import Derived.Test.YtomlbmbgocmiiaaGreatDoorShMb
import Derived.Test.YtomlbmbgocmiiaaGreatDoorLHa
import Derived.Test.YtomlbmbgocmiiaaGreatDoorLzMi
set_option linter.unusedVariables false
set_option linter.unusedSimpArgs false
set_option maxRecDepth 100000
namespace Go.Proofs.YtomlbmbgocmiiaaGreatDoor
open Go.Proofs.YtomlbmbgocmiiaaGreatDoor.Sh
/-! Calm: what its functions answer, and the document's own. -/
theorem r5w_in {d : List Int} (hd : d.length ≤ 1000) (p a : SV) (m : Int) (M : Mem) :
    evW ES n_r5_Width c_r5_Width_L0 ⟨h_r5_Width_0 p (.int .i64 m) a (.sl (iL d) .ro) (.int .i64 0), M⟩ = some (.exit 2, ⟨(h_r5_Width_0 p (.int .i64 (d.foldl max m)) a (.sl (iL d) .ro) (.int .i64 d.length)).set 23 (.bool false), M⟩) := by
  have hlen : lenS ES.P T_sl_int (.sl (iL d) .ro) = some (.int .i64 d.length) := (iL_ints d .ro).lenS ti_sl_int
  obtain ⟨r, g1, g2⟩ := loop_up (E := ES) (me := n_r5_Width) (B := c_r5_Width_B0) (len := d.length) (T := fun j => h_r5_Width_0 p (.int .i64 ((d.take j).foldl max m)) a (.sl (iL d) .ro) (.int .i64 j)) (I := fun _ M' => M' = M)
    (Q := fun r => r = (.exit 2, ⟨(h_r5_Width_0 p (.int .i64 (d.foldl max m)) a (.sl (iL d) .ro) (.int .i64 d.length)).set 23 (.bool false), M⟩))
    (fun j M' hj hM => by
      left
      subst hM
      have hw : IntKind.i64.wrap ((j : Int) + 1) = (j : Int) + 1 := i64_in (by omega) (by omega)
      have a1 := ints_at (iL_ints d .ro) hj
      have q0 := ints_ld hj
      have e : (d.take (j + 1)).foldl max m = max ((d.take j).foldl max m) d[j] := by
        rw [List.take_succ_eq_append_getElem hj, List.foldl_append]
        rfl
      refine ⟨M', ?_, rfl⟩
      rw [e]
      generalize (d.take j).foldl max m = u at *
      simp [c_r5_Width_B0, evW_reg, evW_chkr, isCst, TK.agg, zeroS, endS, resS, h_r5_Width_0, hlen, hj, a1, q0, mx2, hw])
    (fun M' hM => by
      subst hM
      refine ⟨_, by simp [c_r5_Width_B0, evW_reg, evW_chkr, isCst, TK.agg, zeroS, endS, resS, h_r5_Width_0, hlen], by simp, rfl⟩) 0 M (by omega) rfl
  subst g2
  exact g1
set_option maxHeartbeats 4000000 in
theorem r5_Width_c (get) {P L : SV} {c : Cfg} (hP : CfgP c P L) : callP (PCw ES) get n_r5_Width [.agg (cfgC c P L)] = some (.int .i64 (widthG c)) := by
  refine callP_of (PCw_ex (fun M0 => ?_) rfl) (by simp [hP.npA])
  rw [b_r5_Width]
  have h1 := fun get part => r5_Good_c get hP part
  have hlenp := hP.p.lenS ti_sl_api_Part
  simp only [cfgC] at h1
  unfold widthG
  cases hr : rightC c with
  | false =>
    simp only [hr] at h1
    simp [c_r5_Width, evW_reg, evW_chkr, isCst, loadS, partS, TK.agg, fieldAddrS, zeroS, storeS, setPart, splice, endS, resS, fieldS, cfgC, h1]
  | true =>
    simp only [hr] at h1
    obtain ⟨k1, k6, kl⟩ := right_ok hr
    have hin0 : inMany 0 c.parts.length := by unfold inMany; omega
    obtain ⟨r, g1, M', g2⟩ := loop_up (E := ES) (me := n_r5_Width) (B := c_r5_Width_B1) (len := c.parts.length) (T := fun j => h_r5_Width_1 (.ptr M0.next 0 0) (.int .i64 (mostK c j)) (.int .i64 j)) (I := fun _ M => M.blk M0.next = some [.agg (cfgC c P L)])
      (Q := fun r => ∃ M', r = (.exit 0, ⟨(h_r5_Width_1 (.ptr M0.next 0 0) (.int .i64 (mostK c c.parts.length)) (.int .i64 c.parts.length)).set 14 (.bool false), M'⟩))
      (fun j M hj hI => by
        left
        have hw : IntKind.i64.wrap ((j : Int) + 1) = (j : Int) + 1 := i64_in (by omega) (by omega)
        have h2 := fun get => r5_dists_c get hP (fr := j) (by omega) ⟨by omega, by omega⟩ kl
        have h3 := r5w_in (d := distL c.links c.parts.length j) (by rw [distL_len]; omega) (.ptr M0.next 0 0) (.int .i64 j) (mostK c j) M
        rw [foldl_maxL (by rw [distL_len]; omega)] at h3
        simp only [cfgC] at h2 hI
        simp [h_r5_Width_0] at h3
        refine ⟨M, ?_, hI⟩
        simp [c_r5_Width_B1, evW_reg, evW_chkr, isCst, loadS, partS, TK.agg, fieldAddrS, zeroS, storeS, setPart, splice, endS, resS, fieldS, h_r5_Width_1, hlenp, hj, hI, h2, h3, hw, mostK, cfgC])
      (fun M hI => by
        simp only [cfgC] at hI
        exact ⟨_, by simp [c_r5_Width_B1, evW_reg, evW_chkr, isCst, loadS, partS, TK.agg, fieldAddrS, zeroS, storeS, setPart, splice, endS, resS, fieldS, h_r5_Width_1, hlenp, hI, cfgC], by simp, M, rfl⟩) 0 ((M0.bump 2).set M0.next (some [.agg (cfgC c P L)])) (by omega) (by simp)
    subst g2
    simp [h_r5_Width_1, cfgC, mostK] at g1
    simp [c_r5_Width, evW_reg, evW_chkr, isCst, loadS, partS, TK.agg, fieldAddrS, zeroS, storeS, setPart, splice, endS, resS, fieldS, cfgC, h1, hin0, c_r5_Width_L1, g1]
def hopG (c : Cfg) : Int := if fitG c then c.lost + 1 else 0
def waveG (c : Cfg) : Int := if fitG c then widthG c * (c.lost + 1) + 1 else 0
def settleG (c : Cfg) : Int := if fitG c then 2 * waveG c + 1 else 0
def coldG (c : Cfg) (p : Int) : Int := if fitG c && decide (inMany p c.parts.length) then firstG c p + 1 else 0
def deliverG (c : Cfg) (a b : Int) : Int := if fitG c && decide (inMany a c.parts.length) && decide (inMany b c.parts.length) then distG c a b * (c.lost + 1) else 0
def envG (c : Cfg) (age : Int) : Int := if fitG c && decide (0 ≤ age ∧ age ≤ c.ages) then age * stepN c + 2 * edgeN c else 0
structure FitN (c : Cfg) : Prop where
  lo : 0 ≤ c.lost ∧ c.lost ≤ 20
  wi : 0 ≤ widthG c ∧ widthG c ≤ 6
  ww : 0 ≤ widthG c * (c.lost + 1) ∧ widthG c * (c.lost + 1) ≤ 126
  rg : rangedC c = true
  ir : InRange c
  rt : rightC c = true
  le : 1 ≤ c.parts.length ∧ c.parts.length ≤ 6
theorem fitN {c : Cfg} (h : fitG c = true) : FitN c := by
  obtain ⟨g1, g2, g3⟩ := fitG_spec.1 h
  have hi := outN_zero g2
  obtain ⟨k1, k6, _⟩ := right_ok g1
  have hm := mostK_le c k1 c.parts.length
  have hw : widthG c = mostK c c.parts.length := by unfold widthG; rw [g1]; rfl
  have hlo := hi.lo
  refine ⟨hlo, by omega, ⟨Int.mul_nonneg (by omega) (by omega), ?_⟩, by simp [rangedC, g1, g2], hi, g1, k1, k6⟩
  have := Int.mul_le_mul (show widthG c ≤ 6 by omega) (show c.lost + 1 ≤ 21 by omega) (by omega) (by omega)
  omega
theorem distG_le {c : Cfg} (h : fitG c = true) (a b : Int) : -1 ≤ distG c a b ∧ distG c a b ≤ 6 := by
  have hf := fitN h
  unfold distG
  split
  · rename_i hh
    simp only [Bool.and_eq_true, decide_eq_true_eq] at hh
    obtain ⟨⟨_, h2⟩, h3⟩ := hh
    obtain ⟨_, _, kl⟩ := right_ok hf.rt
    have hle := hf.le
    unfold distL
    rcases distK_spec kl (show inR c.parts.length b from h3) c.parts.length a h2 with ⟨e, _⟩ | ⟨m, hm, e, _⟩ <;> rw [e] <;> omega
  · omega
theorem calm_fits_c (get) {P L : SV} {c : Cfg} (hP : CfgP c P L) : callP (PCw ES) get n_calm_fits [.agg (cfgC c P L)] = some (.bool (fitG c)) := by
  refine callP_of (PCw_ex (fun M0 => ?_) rfl) (by simp [hP.npA])
  rw [b_calm_fits]
  have h1 := fun get => bounds_Fits_c get hP
  simp only [cfgC] at h1
  unfold fitG
  by_cases h : (fitsG c).1 = 0 <;> simp [c_calm_fits, evW_reg, evW_chkr, isCst, loadS, partS, TK.agg, fieldAddrS, zeroS, storeS, setPart, splice, endS, resS, fieldS, cfgC, h1, h]
theorem r26_fit_c (get) {P L : SV} {c : Cfg} (hP : CfgP c P L) : callP (PCw ES) get n_r26_fit [.agg (cfgC c P L)] = some (.bool (fitG c)) := by
  refine callP_of (PCw_ex (fun M0 => ?_) rfl) (by simp [hP.npA])
  rw [b_r26_fit]
  have h1 := fun get => r5_Fit_c get hP 0
  have e : (fitG c && decide (inMany 0 c.parts.length)) = fitG c := by
    cases h : fitG c with
    | false => rfl
    | true =>
      have := (fitN h).le
      have : inMany 0 c.parts.length := by unfold inMany; omega
      simp [this]
  rw [e] at h1
  simp only [cfgC] at h1
  simp [c_r26_fit, evW_reg, evW_chkr, isCst, loadS, partS, TK.agg, fieldAddrS, zeroS, storeS, setPart, splice, endS, resS, fieldS, cfgC, h1]
theorem calm_part_c (get) {P L : SV} {c : Cfg} (hP : CfgP c P L) (p : Int) : callP (PCw ES) get n_calm_part [.agg (cfgC c P L), .int .i64 p] = some (.bool (fitG c && decide (inMany p c.parts.length))) := by
  refine callP_of (PCw_ex (fun M0 => ?_) rfl) (by simp [hP.npA])
  rw [b_calm_part]
  have h1 := fun get => calm_fits_c get hP
  have hlenp := hP.p.lenS ti_sl_api_Part
  simp only [cfgC] at h1
  unfold inMany
  cases hf : fitG c with
  | false =>
    rw [hf] at h1
    simp [c_calm_part, evW_reg, evW_chkr, isCst, loadS, partS, TK.agg, fieldAddrS, zeroS, storeS, setPart, splice, endS, resS, fieldS, cfgC, h1, hlenp]
  | true =>
    rw [hf] at h1
    by_cases a1 : 0 ≤ p <;> simp [c_calm_part, evW_reg, evW_chkr, isCst, loadS, partS, TK.agg, fieldAddrS, zeroS, storeS, setPart, splice, endS, resS, fieldS, cfgC, h1, hlenp, a1]
theorem calm_Hop_c (get) {P L : SV} {c : Cfg} (hP : CfgP c P L) : callP (PCw ES) get n_calm_Hop [.agg (cfgC c P L)] = some (.int .i64 (hopG c)) := by
  refine callP_of (PCw_ex (fun M0 => ?_) rfl) (by simp [hP.npA])
  rw [b_calm_Hop]
  have h1 := fun get => calm_fits_c get hP
  simp only [cfgC] at h1
  unfold hopG
  cases hf : fitG c with
  | false =>
    rw [hf] at h1
    simp [c_calm_Hop, evW_reg, evW_chkr, isCst, loadS, partS, TK.agg, fieldAddrS, zeroS, storeS, setPart, splice, endS, resS, fieldS, cfgC, h1]
  | true =>
    rw [hf] at h1
    have hlo := (fitN hf).lo
    have w : IntKind.i64.wrap (c.lost + 1) = c.lost + 1 := i64_in (by omega) (by omega)
    simp [c_calm_Hop, evW_reg, evW_chkr, isCst, loadS, partS, TK.agg, fieldAddrS, zeroS, storeS, setPart, splice, endS, resS, fieldS, cfgC, h1, w]
theorem r26_Hop_c (get) {P L : SV} {c : Cfg} (hP : CfgP c P L) : callP (PCw ES) get n_r26_Hop [.agg (cfgC c P L)] = some (.int .i64 (hopG c)) := by
  refine callP_of (PCw_ex (fun M0 => ?_) rfl) (by simp [hP.npA])
  rw [b_r26_Hop]
  have h1 := fun get => r26_fit_c get hP
  simp only [cfgC] at h1
  unfold hopG
  cases hf : fitG c with
  | false =>
    rw [hf] at h1
    simp [c_r26_Hop, evW_reg, evW_chkr, isCst, loadS, partS, TK.agg, fieldAddrS, zeroS, storeS, setPart, splice, endS, resS, fieldS, cfgC, h1]
  | true =>
    rw [hf] at h1
    have hlo := (fitN hf).lo
    have w : IntKind.i64.wrap (c.lost + 1) = c.lost + 1 := i64_in (by omega) (by omega)
    simp [c_r26_Hop, evW_reg, evW_chkr, isCst, loadS, partS, TK.agg, fieldAddrS, zeroS, storeS, setPart, splice, endS, resS, fieldS, cfgC, h1, w]
theorem calm_Wave_c (get) {P L : SV} {c : Cfg} (hP : CfgP c P L) : callP (PCw ES) get n_calm_Wave [.agg (cfgC c P L)] = some (.int .i64 (waveG c)) := by
  refine callP_of (PCw_ex (fun M0 => ?_) rfl) (by simp [hP.npA])
  rw [b_calm_Wave]
  have h1 := fun get => calm_fits_c get hP
  have h2 := fun get => hops_Width_c get hP
  have h3 := fun get => calm_Hop_c get hP
  simp only [cfgC] at h1 h2 h3
  unfold waveG
  cases hf : fitG c with
  | false =>
    rw [hf] at h1
    simp [c_calm_Wave, evW_reg, evW_chkr, isCst, loadS, partS, TK.agg, fieldAddrS, zeroS, storeS, setPart, splice, endS, resS, fieldS, cfgC, h1]
  | true =>
    rw [hf] at h1
    unfold hopG at h3
    rw [hf] at h3
    have hn := fitN hf
    obtain ⟨n1, n2⟩ := hn.ww
    have w1 : IntKind.i64.wrap (widthG c * (c.lost + 1)) = widthG c * (c.lost + 1) := i64_in (by omega) (by omega)
    have w2 : IntKind.i64.wrap (widthG c * (c.lost + 1) + 1) = widthG c * (c.lost + 1) + 1 := i64_in (by omega) (by omega)
    simp [c_calm_Wave, evW_reg, evW_chkr, isCst, loadS, partS, TK.agg, fieldAddrS, zeroS, storeS, setPart, splice, endS, resS, fieldS, cfgC, h1, h2, h3, w1, w2]
theorem r26_Wave_c (get) {P L : SV} {c : Cfg} (hP : CfgP c P L) : callP (PCw ES) get n_r26_Wave [.agg (cfgC c P L)] = some (.int .i64 (waveG c)) := by
  refine callP_of (PCw_ex (fun M0 => ?_) rfl) (by simp [hP.npA])
  rw [b_r26_Wave]
  have h1 := fun get => r26_fit_c get hP
  have h2 := fun get => r5_Width_c get hP
  have h3 := fun get => r26_Hop_c get hP
  simp only [cfgC] at h1 h2 h3
  unfold waveG
  cases hf : fitG c with
  | false =>
    rw [hf] at h1
    simp [c_r26_Wave, evW_reg, evW_chkr, isCst, loadS, partS, TK.agg, fieldAddrS, zeroS, storeS, setPart, splice, endS, resS, fieldS, cfgC, h1]
  | true =>
    rw [hf] at h1
    unfold hopG at h3
    rw [hf] at h3
    have hn := fitN hf
    obtain ⟨n1, n2⟩ := hn.ww
    have w1 : IntKind.i64.wrap (widthG c * (c.lost + 1)) = widthG c * (c.lost + 1) := i64_in (by omega) (by omega)
    have w2 : IntKind.i64.wrap (widthG c * (c.lost + 1) + 1) = widthG c * (c.lost + 1) + 1 := i64_in (by omega) (by omega)
    simp [c_r26_Wave, evW_reg, evW_chkr, isCst, loadS, partS, TK.agg, fieldAddrS, zeroS, storeS, setPart, splice, endS, resS, fieldS, cfgC, h1, h2, h3, w1, w2]
theorem calm_Settle_c (get) {P L : SV} {c : Cfg} (hP : CfgP c P L) : callP (PCw ES) get n_calm_Settle [.agg (cfgC c P L)] = some (.int .i64 (settleG c)) := by
  refine callP_of (PCw_ex (fun M0 => ?_) rfl) (by simp [hP.npA])
  rw [b_calm_Settle]
  have h1 := fun get => calm_fits_c get hP
  have h2 := fun get => calm_Wave_c get hP
  simp only [cfgC] at h1 h2
  unfold settleG
  cases hf : fitG c with
  | false =>
    rw [hf] at h1
    simp [c_calm_Settle, evW_reg, evW_chkr, isCst, loadS, partS, TK.agg, fieldAddrS, zeroS, storeS, setPart, splice, endS, resS, fieldS, cfgC, h1]
  | true =>
    rw [hf] at h1
    have hn := fitN hf
    obtain ⟨n1, n2⟩ := hn.ww
    have hw : 1 ≤ waveG c ∧ waveG c ≤ 127 := by unfold waveG; rw [hf]; simp only [if_true]; omega
    have w1 : IntKind.i64.wrap (2 * waveG c) = 2 * waveG c := i64_in (by omega) (by omega)
    have w2 : IntKind.i64.wrap (2 * waveG c + 1) = 2 * waveG c + 1 := i64_in (by omega) (by omega)
    simp [c_calm_Settle, evW_reg, evW_chkr, isCst, loadS, partS, TK.agg, fieldAddrS, zeroS, storeS, setPart, splice, endS, resS, fieldS, cfgC, h1, h2, w1, w2]
theorem r26_Settle_c (get) {P L : SV} {c : Cfg} (hP : CfgP c P L) : callP (PCw ES) get n_r26_Settle [.agg (cfgC c P L)] = some (.int .i64 (settleG c)) := by
  refine callP_of (PCw_ex (fun M0 => ?_) rfl) (by simp [hP.npA])
  rw [b_r26_Settle]
  have h1 := fun get => r26_fit_c get hP
  have h2 := fun get => r26_Wave_c get hP
  simp only [cfgC] at h1 h2
  unfold settleG
  cases hf : fitG c with
  | false =>
    rw [hf] at h1
    simp [c_r26_Settle, evW_reg, evW_chkr, isCst, loadS, partS, TK.agg, fieldAddrS, zeroS, storeS, setPart, splice, endS, resS, fieldS, cfgC, h1]
  | true =>
    rw [hf] at h1
    have hn := fitN hf
    obtain ⟨n1, n2⟩ := hn.ww
    have hw : 1 ≤ waveG c ∧ waveG c ≤ 127 := by unfold waveG; rw [hf]; simp only [if_true]; omega
    have w1 : IntKind.i64.wrap (2 * waveG c) = 2 * waveG c := i64_in (by omega) (by omega)
    have w2 : IntKind.i64.wrap (2 * waveG c + 1) = 2 * waveG c + 1 := i64_in (by omega) (by omega)
    simp [c_r26_Settle, evW_reg, evW_chkr, isCst, loadS, partS, TK.agg, fieldAddrS, zeroS, storeS, setPart, splice, endS, resS, fieldS, cfgC, h1, h2, w1, w2]
theorem firstG_le {c : Cfg} (h : fitG c = true) (p : Int) : 0 ≤ firstG c p ∧ firstG c p ≤ 500000 := by
  have h1 := fit_facts h
  have h2 := (fitN h).le
  unfold firstG
  split
  · rename_i hh
    simp only [h, Bool.true_and, decide_eq_true_eq] at hh
    unfold inMany at hh
    have h3 : 0 ≤ p * c.span := Int.mul_nonneg hh.1 (by omega)
    have h4 : p * c.span ≤ 6 * 60000 := Int.mul_le_mul (by omega) (by omega) (by omega) (by omega)
    omega
  · omega
theorem calm_Cold_c (get) {P L : SV} {c : Cfg} (hP : CfgP c P L) (p : Int) : callP (PCw ES) get n_calm_Cold [.agg (cfgC c P L), .int .i64 p] = some (.int .i64 (coldG c p)) := by
  refine callP_of (PCw_ex (fun M0 => ?_) rfl) (by simp [hP.npA])
  rw [b_calm_Cold]
  have h1 := fun get => calm_part_c get hP p
  have h2 := fun get => bounds_First_c get hP p
  simp only [cfgC] at h1 h2
  unfold coldG
  cases hf : (fitG c && decide (inMany p c.parts.length)) with
  | false =>
    rw [hf] at h1
    simp [c_calm_Cold, evW_reg, evW_chkr, isCst, loadS, partS, TK.agg, fieldAddrS, zeroS, storeS, setPart, splice, endS, resS, fieldS, cfgC, h1]
  | true =>
    rw [hf] at h1
    have hn := firstG_le (Bool.and_eq_true_iff.1 hf).1 p
    have w1 : IntKind.i64.wrap (firstG c p + 1) = firstG c p + 1 := i64_in (by omega) (by omega)
    simp [c_calm_Cold, evW_reg, evW_chkr, isCst, loadS, partS, TK.agg, fieldAddrS, zeroS, storeS, setPart, splice, endS, resS, fieldS, cfgC, h1, h2, w1]
theorem r26_Cold_c (get) {P L : SV} {c : Cfg} (hP : CfgP c P L) (p : Int) : callP (PCw ES) get n_r26_Cold [.agg (cfgC c P L), .int .i64 p] = some (.int .i64 (coldG c p)) := by
  refine callP_of (PCw_ex (fun M0 => ?_) rfl) (by simp [hP.npA])
  rw [b_r26_Cold]
  have h1 := fun get => r5_Fit_c get hP p
  have h2 := fun get => r5_First_c get hP p
  simp only [cfgC] at h1 h2
  unfold coldG
  cases hf : (fitG c && decide (inMany p c.parts.length)) with
  | false =>
    rw [hf] at h1
    simp [c_r26_Cold, evW_reg, evW_chkr, isCst, loadS, partS, TK.agg, fieldAddrS, zeroS, storeS, setPart, splice, endS, resS, fieldS, cfgC, h1]
  | true =>
    rw [hf] at h1
    have hn := firstG_le (Bool.and_eq_true_iff.1 hf).1 p
    have w1 : IntKind.i64.wrap (firstG c p + 1) = firstG c p + 1 := i64_in (by omega) (by omega)
    simp [c_r26_Cold, evW_reg, evW_chkr, isCst, loadS, partS, TK.agg, fieldAddrS, zeroS, storeS, setPart, splice, endS, resS, fieldS, cfgC, h1, h2, w1]
theorem calm_Deliver_c (get) {P L : SV} {c : Cfg} (hP : CfgP c P L) (a b : Int) : callP (PCw ES) get n_calm_Deliver [.agg (cfgC c P L), .int .i64 a, .int .i64 b] = some (.int .i64 (deliverG c a b)) := by
  refine callP_of (PCw_ex (fun M0 => ?_) rfl) (by simp [hP.npA])
  rw [b_calm_Deliver]
  have h1 := fun get p => calm_part_c get hP p
  have h2 := fun get => hops_Dist_c get hP a b
  have h3 := fun get => calm_Hop_c get hP
  simp only [cfgC] at h1 h2 h3
  unfold deliverG
  cases hf : fitG c with
  | false =>
    simp only [hf] at h1
    simp [c_calm_Deliver, evW_reg, evW_chkr, isCst, loadS, partS, TK.agg, fieldAddrS, zeroS, storeS, setPart, splice, endS, resS, fieldS, cfgC, h1]
  | true =>
    simp only [hf] at h1
    unfold hopG at h3
    rw [hf] at h3
    have hn := fitN hf
    have hlo := hn.lo
    have hd := distG_le hf a b
    have b1 : distG c a b * (c.lost + 1) ≤ 126 := by
      rcases Int.lt_or_le (distG c a b) 0 with h | h
      · have : distG c a b = -1 := by omega
        rw [this]; omega
      · have := Int.mul_le_mul hd.2 (show c.lost + 1 ≤ 21 by omega) (by omega) (by omega)
        omega
    have b2 : -21 ≤ distG c a b * (c.lost + 1) := by
      rcases Int.lt_or_le (distG c a b) 0 with h | h
      · have : distG c a b = -1 := by omega
        rw [this]; omega
      · have := Int.mul_nonneg h (show 0 ≤ c.lost + 1 by omega)
        omega
    have w1 : IntKind.i64.wrap (distG c a b * (c.lost + 1)) = distG c a b * (c.lost + 1) := i64_in (by omega) (by omega)
    by_cases ha : inMany a c.parts.length
    · by_cases hb : inMany b c.parts.length <;> simp [c_calm_Deliver, evW_reg, evW_chkr, isCst, loadS, partS, TK.agg, fieldAddrS, zeroS, storeS, setPart, splice, endS, resS, fieldS, cfgC, h1, h2, h3, ha, hb, w1]
    · simp [c_calm_Deliver, evW_reg, evW_chkr, isCst, loadS, partS, TK.agg, fieldAddrS, zeroS, storeS, setPart, splice, endS, resS, fieldS, cfgC, h1, ha]
theorem r26_Deliver_c (get) {P L : SV} {c : Cfg} (hP : CfgP c P L) (a b : Int) : callP (PCw ES) get n_r26_Deliver [.agg (cfgC c P L), .int .i64 a, .int .i64 b] = some (.int .i64 (deliverG c a b)) := by
  refine callP_of (PCw_ex (fun M0 => ?_) rfl) (by simp [hP.npA])
  rw [b_r26_Deliver]
  have h1 := fun get p => r5_Fit_c get hP p
  have h2 := fun get => r5_Dist_c get hP a b
  have h3 := fun get => r26_Hop_c get hP
  simp only [cfgC] at h1 h2 h3
  unfold deliverG
  cases hf : fitG c with
  | false =>
    simp only [hf] at h1
    simp [c_r26_Deliver, evW_reg, evW_chkr, isCst, loadS, partS, TK.agg, fieldAddrS, zeroS, storeS, setPart, splice, endS, resS, fieldS, cfgC, h1]
  | true =>
    simp only [hf] at h1
    unfold hopG at h3
    rw [hf] at h3
    have hn := fitN hf
    have hlo := hn.lo
    have hd := distG_le hf a b
    have b1 : distG c a b * (c.lost + 1) ≤ 126 := by
      rcases Int.lt_or_le (distG c a b) 0 with h | h
      · have : distG c a b = -1 := by omega
        rw [this]; omega
      · have := Int.mul_le_mul hd.2 (show c.lost + 1 ≤ 21 by omega) (by omega) (by omega)
        omega
    have b2 : -21 ≤ distG c a b * (c.lost + 1) := by
      rcases Int.lt_or_le (distG c a b) 0 with h | h
      · have : distG c a b = -1 := by omega
        rw [this]; omega
      · have := Int.mul_nonneg h (show 0 ≤ c.lost + 1 by omega)
        omega
    have w1 : IntKind.i64.wrap (distG c a b * (c.lost + 1)) = distG c a b * (c.lost + 1) := i64_in (by omega) (by omega)
    by_cases ha : inMany a c.parts.length
    · by_cases hb : inMany b c.parts.length <;> simp [c_r26_Deliver, evW_reg, evW_chkr, isCst, loadS, partS, TK.agg, fieldAddrS, zeroS, storeS, setPart, splice, endS, resS, fieldS, cfgC, h1, h2, h3, ha, hb, w1]
    · simp [c_r26_Deliver, evW_reg, evW_chkr, isCst, loadS, partS, TK.agg, fieldAddrS, zeroS, storeS, setPart, splice, endS, resS, fieldS, cfgC, h1, ha]
theorem calm_Envelope_c (get) {P L : SV} {c : Cfg} (hP : CfgP c P L) (age : Int) : callP (PCw ES) get n_calm_Envelope [.agg (cfgC c P L), .int .i64 age] = some (.int .i64 (envG c age)) := by
  refine callP_of (PCw_ex (fun M0 => ?_) rfl) (by simp [hP.npA])
  rw [b_calm_Envelope]
  have h1 := fun get => calm_fits_c get hP
  have h2 := fun get => bounds_Step_c get hP
  have h3 := fun get => bounds_Near_c get hP
  simp only [cfgC] at h1 h2 h3
  unfold envG
  cases hf : fitG c with
  | false =>
    rw [hf] at h1
    simp [c_calm_Envelope, evW_reg, evW_chkr, isCst, loadS, partS, TK.agg, fieldAddrS, zeroS, storeS, setPart, splice, endS, resS, fieldS, cfgC, h1]
  | true =>
    rw [hf] at h1
    have hn := fitN hf
    simp only [hn.rg, if_true, val_Step, val_Near] at h2 h3
    have hag := hn.ir.ag
    have hnn := hn.ir.nums
    have hst := hnn.st
    have he := hnn.e
    by_cases a1 : age < 0
    · have : ¬ (0 ≤ age ∧ age ≤ c.ages) := by omega
      simp [c_calm_Envelope, evW_reg, evW_chkr, isCst, loadS, partS, TK.agg, fieldAddrS, zeroS, storeS, setPart, splice, endS, resS, fieldS, cfgC, h1, a1, this]
    · by_cases a2 : c.ages < age
      · have : ¬ (0 ≤ age ∧ age ≤ c.ages) := by omega
        simp [c_calm_Envelope, evW_reg, evW_chkr, isCst, loadS, partS, TK.agg, fieldAddrS, zeroS, storeS, setPart, splice, endS, resS, fieldS, cfgC, h1, a1, a2, this]
      · have hin : 0 ≤ age ∧ age ≤ c.ages := by omega
        have b1 : 0 ≤ age * stepN c := Int.mul_nonneg (by omega) (by omega)
        have b2 : age * stepN c ≤ 200 * 5006 := Int.mul_le_mul (by omega) (by omega) (by omega) (by omega)
        have w0 : IntKind.i64.wrap age = age := i64_in (by omega) (by omega)
        have w1 : IntKind.i64.wrap (age * stepN c) = age * stepN c := i64_in (by omega) (by omega)
        have w2 : IntKind.i64.wrap (age * stepN c + 2 * edgeN c) = age * stepN c + 2 * edgeN c := i64_in (by omega) (by omega)
        simp [c_calm_Envelope, evW_reg, evW_chkr, isCst, loadS, partS, TK.agg, fieldAddrS, zeroS, storeS, setPart, splice, endS, resS, fieldS, cfgC, h1, h2, h3, a1, a2, hin, w0, w1, w2]
theorem r26_Envelope_c (get) {P L : SV} {c : Cfg} (hP : CfgP c P L) (age : Int) : callP (PCw ES) get n_r26_Envelope [.agg (cfgC c P L), .int .i64 age] = some (.int .i64 (envG c age)) := by
  refine callP_of (PCw_ex (fun M0 => ?_) rfl) (by simp [hP.npA])
  rw [b_r26_Envelope]
  have h1 := fun get => r26_fit_c get hP
  have h2 := fun get => r5_Step_c get hP
  have h3 := fun get => r5_Near_c get hP
  simp only [cfgC] at h1 h2 h3
  unfold envG
  cases hf : fitG c with
  | false =>
    rw [hf] at h1
    simp [c_r26_Envelope, evW_reg, evW_chkr, isCst, loadS, partS, TK.agg, fieldAddrS, zeroS, storeS, setPart, splice, endS, resS, fieldS, cfgC, h1]
  | true =>
    rw [hf] at h1
    have hn := fitN hf
    simp only [hn.rg, if_true, val_Step, val_Near] at h2 h3
    have hag := hn.ir.ag
    have hnn := hn.ir.nums
    have hst := hnn.st
    have he := hnn.e
    by_cases a1 : age < 0
    · have : ¬ (0 ≤ age ∧ age ≤ c.ages) := by omega
      simp [c_r26_Envelope, evW_reg, evW_chkr, isCst, loadS, partS, TK.agg, fieldAddrS, zeroS, storeS, setPart, splice, endS, resS, fieldS, cfgC, h1, a1, this]
    · by_cases a2 : c.ages < age
      · have : ¬ (0 ≤ age ∧ age ≤ c.ages) := by omega
        simp [c_r26_Envelope, evW_reg, evW_chkr, isCst, loadS, partS, TK.agg, fieldAddrS, zeroS, storeS, setPart, splice, endS, resS, fieldS, cfgC, h1, a1, a2, this]
      · have hin : 0 ≤ age ∧ age ≤ c.ages := by omega
        have b1 : 0 ≤ age * stepN c := Int.mul_nonneg (by omega) (by omega)
        have b2 : age * stepN c ≤ 200 * 5006 := Int.mul_le_mul (by omega) (by omega) (by omega) (by omega)
        have w0 : IntKind.i64.wrap age = age := i64_in (by omega) (by omega)
        have w1 : IntKind.i64.wrap (age * stepN c) = age * stepN c := i64_in (by omega) (by omega)
        have w2 : IntKind.i64.wrap (age * stepN c + 2 * edgeN c) = age * stepN c + 2 * edgeN c := i64_in (by omega) (by omega)
        simp [c_r26_Envelope, evW_reg, evW_chkr, isCst, loadS, partS, TK.agg, fieldAddrS, zeroS, storeS, setPart, splice, endS, resS, fieldS, cfgC, h1, h2, h3, a1, a2, hin, w0, w1, w2]

end Go.Proofs.YtomlbmbgocmiiaaGreatDoor
