/-
  Walks of the seat's functions: Bo.
-/
import Derived.Test.YtbdliphlolajaaaGreatDoorEb2
import Derived.Test.YtbdliphlolajaaaGreatDoorShSv
import Derived.Test.YtbdliphlolajaaaGreatDoorLBk
import Derived.Test.YtbdliphlolajaaaGreatDoorLBn
import Derived.Test.YtbdliphlolajaaaGreatDoorLWe
set_option linter.unusedVariables false
set_option linter.unusedSimpArgs false
set_option maxRecDepth 100000
namespace Go.Proofs.YtbdliphlolajaaaGreatDoor
open Go.Proofs.YtbdliphlolajaaaGreatDoor.Sh
/-! The law BoundsSet. -/
/-- A network of which one number was set otherwise. -/
def setC (c : Cfg) (k v : Int) : Cfg :=
  if k = 0 then { c with cycle := v } else if k = 1 then { c with lead := v } else if k = 2 then { c with slot := v } else if k = 3 then { c with window := v } else if k = 4 then { c with drift := v } else if k = 5 then { c with rate := v }
  else if k = 6 then { c with ages := v } else if k = 7 then { c with lost := v } else if k = 8 then { c with listen := v } else if k = 9 then { c with span := v } else { c with room := v }
theorem setC_parts (c : Cfg) (k v : Int) : (setC c k v).parts = c.parts ∧ (setC c k v).links = c.links := by
  unfold setC
  repeat' split
  all_goals exact ⟨rfl, rfl⟩
theorem CfgP.set {c : Cfg} {P L : SV} (h : CfgP c P L) (k v : Int) : CfgP (setC c k v) P L := by
  obtain ⟨e1, e2⟩ := setC_parts c k v
  exact ⟨by rw [e1]; exact h.p, by rw [e2]; exact h.l, by rw [e1]; exact h.lp, by rw [e2]; exact h.ll⟩
theorem callP_pv {E : Env} {get : Nat → Option (List SV)} {f : Nat} {xs : List SV} {v : SV} (h : callP (PCw E) get f xs = some v) : Sh.pv v = true := by
  unfold callP at h
  split at h
  case h_2 => cases h
  unfold PCw pcOf at h
  split at h
  case h_2 => cases h
  split at h
  case h_2 => cases h
  split at h
  case isFalse => cases h
  rename_i hp
  simp only [Option.some.injEq] at h
  exact h ▸ hp
theorem pv_cfg {c d : Cfg} {P L : SV} (h : Sh.pv (.agg (cfgC c P L)) = true) : Sh.pv (.agg (cfgC d P L)) = true := by
  simp only [Sh.pv, cfgC, pvs, Bool.and_eq_true] at h ⊢
  exact ⟨h.1, h.2.1, by simp⟩
set_option maxHeartbeats 4000000 in
theorem l7_set_c (get) {P L : SV} {c : Cfg} (hP : CfgP c P L) (hpv : Sh.pv (.agg (cfgC c P L)) = true) (w v : Int) (hw : 0 ≤ w ∧ w ≤ 255) : callP (PCw ES) get n_l7_set [.agg (cfgC c P L), .int .u8 w, .int .i64 v] = some (.agg (cfgC (setC c (w % 11) v) P L)) := by
  refine callP_of (PCw_ex (fun M0 => ?_) (pv_cfg hpv)) (by simp [hP.npA])
  have hmod : w.tmod 11 = w % 11 := Int.tmod_eq_emod_of_nonneg hw.1
  have hk : 0 ≤ w % 11 ∧ w % 11 < 11 := by omega
  generalize w % 11 = k at hmod hk ⊢
  rw [b_l7_set]
  have h : k = 0 ∨ k = 1 ∨ k = 2 ∨ k = 3 ∨ k = 4 ∨ k = 5 ∨ k = 6 ∨ k = 7 ∨ k = 8 ∨ k = 9 ∨ k = 10 := by omega
  rcases h with rfl | rfl | rfl | rfl | rfl | rfl | rfl | rfl | rfl | rfl | rfl <;> simp (maxSteps := 4000000) [c_l7_set, evW_reg, evW_chkr, isCst, loadS, partS, TK.agg, fieldAddrS, zeroS, storeS, setPart, splice, endS, resS, fieldS, cfgC, hmod, setC, Nat.add_assoc]
theorem a2u_of {n : Nat} {xs : List SV} (h : WT ES.P (n + 2) T_a2_uint8 xs) : ∃ u v, mkV ES.P T_a2_uint8 xs = .agg [.int .u8 u, .int .u8 v] ∧ (0 ≤ u ∧ u ≤ 255) ∧ (0 ≤ v ∧ v ≤ 255) := by
  obtain ⟨e, parts, rfl, hl, hp⟩ := WT_arr ti_a2_uint8 h
  match parts, hl with
  | [p0, p1], _ =>
    obtain ⟨u, rfl, _, hu⟩ := WT_int ti_uint8 (hp p0 (by simp))
    obtain ⟨v, rfl, _, hv⟩ := WT_int ti_uint8 (hp p1 (by simp))
    exact ⟨u, v, e, wf8 hu, wf8 hv⟩
theorem a2i_of {n : Nat} {xs : List SV} (h : WT ES.P (n + 2) T_a2_int xs) : ∃ u v, mkV ES.P T_a2_int xs = .agg [.int .i64 u, .int .i64 v] := by
  obtain ⟨e, parts, rfl, hl, hp⟩ := WT_arr ti_a2_int h
  match parts, hl with
  | [p0, p1], _ =>
    obtain ⟨u, rfl, _, hu⟩ := WT_int ti_int (hp p0 (by simp))
    obtain ⟨v, rfl, _, hv⟩ := WT_int ti_int (hp p1 (by simp))
    exact ⟨u, v, e⟩
@[simp] theorem ixu2_0 (id i o : Nat) : indexAddrS ES.P T_a2_uint8 (.ptr id i o) (.int .i64 0) = some (.ptr id i o) := by simp [indexAddrS, natS]
@[simp] theorem ixu2_1 (id i o : Nat) : indexAddrS ES.P T_a2_uint8 (.ptr id i o) (.int .i64 1) = some (.ptr id i (o + 1)) := by simp [indexAddrS, natS]
set_option maxHeartbeats 8000000 in
theorem BoundsSet_walk (xs0 xs1 xs2 xs3 : List SV) (h0 : WT ES.P 8 T_int xs0) (h1 : WT ES.P 8 T_a2_uint8 xs1) (h2 : WT ES.P 8 T_a2_int xs2) (h3 : WT ES.P 8 T_int xs3) :
    ∃ M', ICw ES n_l7_BoundsSet [mkV ES.P T_int xs0, mkV ES.P T_a2_uint8 xs1, mkV ES.P T_a2_int xs2, mkV ES.P T_int xs3] .empty = some (.bool true, M') := by
  obtain ⟨n, _, e0, _⟩ := WT_int ti_int h0
  obtain ⟨w0, w1, e1, hw0, hw1⟩ := a2u_of h1
  obtain ⟨v0, v1, e2⟩ := a2i_of h2
  obtain ⟨part, _, e3, _⟩ := WT_int ti_int h3
  rw [e0, e1, e2, e3]
  obtain ⟨P, L, hm, hP⟩ := Made_c n
  have hpv := callP_pv (hm fun _ => none)
  generalize madeC n = c0 at *
  have s1 := fun get => l7_set_c get hP hpv w0 v0 hw0
  have hP1 := hP.set (w0 % 11) v0
  have hpv1 := pv_cfg (d := setC c0 (w0 % 11) v0) hpv
  generalize setC c0 (w0 % 11) v0 = c1 at *
  have s2 := fun get => l7_set_c get hP1 hpv1 w1 v1 hw1
  have hP2 := hP1.set (w1 % 11) v1
  generalize setC c1 (w1 % 11) v1 = c at *
  have k1 := fun get => bounds_Fits_c get hP2
  have k2 := fun get => r5_Fits_c get hP2
  have k3 := fun get => bounds_Jump_c get hP2
  have k4 := fun get => r5_Jump_c get hP2
  have k5 := fun get => bounds_Tick_c get hP2
  have k6 := fun get => r5_Tick_c get hP2
  have k7 := fun get => bounds_First_c get hP2 part
  have k8 := fun get => r5_First_c get hP2 part
  generalize (if rangedC c then val_Jump c else 0) = x1 at *
  generalize (if rangedC c then val_Tick c else 0) = x2 at *
  rw [b_l7_BoundsSet]
  simp only [cfgC] at hm s1 s2 k1 k2 k3 k4 k5 k6 k7 k8
  simp (maxSteps := 4000000) [c_l7_BoundsSet, evW_reg, evW_chkr, isCst, loadS, partS, TK.agg, fieldAddrS, zeroS, storeS, setPart, splice, endS, resS, fieldS, hm, s1, s2, k1, k2, k3, k4, k5, k6, k7, k8, Nat.add_assoc]

end Go.Proofs.YtbdliphlolajaaaGreatDoor
