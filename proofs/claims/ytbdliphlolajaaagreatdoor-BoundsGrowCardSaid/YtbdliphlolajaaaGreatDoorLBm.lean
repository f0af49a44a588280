/-
  Walks of the seat's functions: Bm.
-/
import Derived.Test.YtbdliphlolajaaaGreatDoorEb2
import Derived.Test.YtbdliphlolajaaaGreatDoorShSv
import Derived.Test.YtbdliphlolajaaaGreatDoorLBl
import Derived.Test.YtbdliphlolajaaaGreatDoorLBh
import Derived.Test.YtbdliphlolajaaaGreatDoorLBn
import Derived.Test.YtbdliphlolajaaaGreatDoorLWf
set_option linter.unusedVariables false
set_option linter.unusedSimpArgs false
set_option maxRecDepth 100000
namespace Go.Proofs.YtbdliphlolajaaaGreatDoor
open Go.Proofs.YtbdliphlolajaaaGreatDoor.Sh
/-! The laws BoundsEdge, BoundsFirst, BoundsGrow. -/
theorem wf8 {v : Int} (h : (Lit.int .u8 v).wf = true) : 0 ≤ v ∧ v ≤ 255 := by
  simp [Lit.wf, IntKind.min, IntKind.max, IntKind.bits, IntKind.signed] at h
  omega
theorem wf16 {v : Int} (h : (Lit.int .u16 v).wf = true) : 0 ≤ v ∧ v ≤ 65535 := by
  simp [Lit.wf, IntKind.min, IntKind.max, IntKind.bits, IntKind.signed] at h
  omega
@[simp] theorem conv_u8 (get : Nat → Option (List SV)) (v : Int) : convS ES.P get T_uint8 T_int (.int .u8 v) = some (.int .i64 (IntKind.i64.wrap v)) := by simp [convS]
@[simp] theorem conv_u16 (get : Nat → Option (List SV)) (v : Int) : convS ES.P get T_uint16 T_int (.int .u16 v) = some (.int .i64 (IntKind.i64.wrap v)) := by simp [convS]
set_option maxHeartbeats 8000000 in
theorem BoundsEdge_walk (xs0 : List SV) (h0 : WT ES.P 8 T_int xs0) : ∃ M', ICw ES n_l7_BoundsEdge [mkV ES.P T_int xs0] .empty = some (.bool true, M') := by
  obtain ⟨n, _, e0, _⟩ := WT_int ti_int h0
  rw [e0]
  obtain ⟨P, L, hm, hP⟩ := Made_c n
  have hr := made_ranged n
  have hfit := made_fit n
  have he := made_edge n
  have hj := made_jump n
  have hw := made_window n
  have hs := made_small n
  have hin : InRange (madeC n) := outN_zero (made_inRange n)
  have hrc : 6000000000 ≤ (madeC n).rate * (madeC n).cycle := by
    obtain ⟨m, h1, _, h3, _⟩ := made_num' n
    rw [h3]
    omega
  have hsl : (madeC n).slot = 100 := by
    obtain ⟨m, _, _, _, _, _, h6, _⟩ := made_num' n
    exact h6
  generalize madeC n = c at *
  have k0 := fun get => bounds_Fits_c get hP
  have hf0 : fitsG c = (0, 0) := by
    obtain ⟨f1, f2, f3⟩ := fitG_spec.1 hfit
    unfold fitsG
    rw [if_neg (by simpa [rightC] using f1), if_neg (by simp [f2]), if_neg (by simp [f3])]
  rw [hf0] at k0
  have k1 := fun get => bounds_Edge_c get hP
  have k2 := fun get => bounds_Near_c get hP
  have k3 := fun get => bounds_Slew_c get hP
  have k4 := fun get => bounds_Step_c get hP
  have k5 := fun get => bounds_Jump_c get hP
  simp only [hr, if_true, val_Edge, val_Near, val_Slew, val_Step, val_Jump] at k1 k2 k3 k4 k5
  rw [b_l7_BoundsEdge]
  have hn := hin.nums
  have hst := hn.st
  have hjj := hn.j
  have hd := hin.dr
  have hag := hin.ag
  have hd2 := hin.dc2
  have hrc2 := rc_le hin
  have w1 : IntKind.i64.wrap (2 * edgeN c) = 2 * edgeN c := i64_in (by omega) (by omega)
  have w2 : IntKind.i64.wrap (2 * (2 * edgeN c)) = 4 * edgeN c := by rw [i64_in (by omega) (by omega)]; omega
  have w3 : IntKind.i64.wrap (2 * slewN c) = 2 * slewN c := i64_in (by omega) (by omega)
  have w4 : IntKind.i64.wrap (4 * edgeN c + 2 * slewN c) = 4 * edgeN c + 2 * slewN c := i64_in (by omega) (by omega)
  have w5 : IntKind.i64.wrap (4 * edgeN c + 2 * slewN c + 2) = stepN c := i64_in (by omega) (by omega)
  have w6 : IntKind.i64.wrap (2 * c.ages) = 2 * c.ages := i64_in (by omega) (by omega)
  have w7 : IntKind.i64.wrap (2 * c.ages * stepN c) = 2 * c.ages * stepN c := i64_in (by omega) (by omega)
  have w8 : IntKind.i64.wrap (2 * c.ages * stepN c + 4 * edgeN c) = jumpN c := i64_in (by omega) (by omega)
  have w9 : IntKind.i64.wrap (2 * c.drift) = 2 * c.drift := i64_in (by omega) (by omega)
  have w10 : IntKind.i64.wrap (2 * c.drift * c.cycle) = 2 * c.drift * c.cycle := i64_in (by omega) (by omega)
  have w11 : IntKind.i64.wrap (edgeN c - 1) = edgeN c - 1 := i64_in (by omega) (by omega)
  have w12 : IntKind.i64.wrap ((edgeN c - 1) * 1000000) = (edgeN c - 1) * 1000000 := i64_in (by omega) (by omega)
  have w13 : IntKind.i64.wrap (edgeN c - 2) = edgeN c - 2 := i64_in (by omega) (by omega)
  have w14 : IntKind.i64.wrap ((edgeN c - 2) * 1000000) = (edgeN c - 2) * 1000000 := i64_in (by omega) (by omega)
  have w15 : IntKind.i64.wrap (2 * slewN c * 1000000) = 2 * slewN c * 1000000 := i64_in (by omega) (by omega)
  have w16 : IntKind.i64.wrap (c.rate * c.cycle) = c.rate * c.cycle := i64_in (by omega) (by omega)
  have w17 : IntKind.i64.wrap (jumpN c * 1000000) = jumpN c * 1000000 := i64_in (by omega) (by omega)
  have w18 : IntKind.i64.wrap (2 * edgeN c + edgeN c) = 3 * edgeN c := by rw [i64_in (by omega) (by omega)]; omega
  have w19 : IntKind.i64.wrap (2 * c.window) = 2 * c.window := i64_in (by omega) (by omega)
  have p1 : 2 * c.drift * c.cycle ≤ (edgeN c - 1) * 1000000 := by unfold edgeN upM; omega
  have p2 : (edgeN c - 2) * 1000000 < 2 * c.drift * c.cycle := by unfold edgeN upM; omega
  have p3 : 2 * c.drift * c.cycle ≤ 2 * slewN c * 1000000 := by
    have e : 2 * c.drift * c.cycle = 2 * (c.drift * c.cycle) := by rw [Int.mul_assoc]
    rw [e]
    unfold slewN upM
    omega
  have p4 : jumpN c * 1000000 ≤ c.rate * c.cycle := by omega
  have p5 : 3 * edgeN c ≤ c.window := by omega
  have p6 : 2 * c.window < c.slot := by omega
  simp only [cfgC] at k0 k1 k2 k3 k4 k5 hm
  simp (maxSteps := 4000000) [c_l7_BoundsEdge, evW_reg, evW_chkr, isCst, loadS, partS, TK.agg, fieldAddrS, zeroS, storeS, setPart, splice, endS, resS, fieldS, hm, k0, k1, k2, k3, k4, k5, w1, w2, w3, w4, w5, w6, w7, w8, w9, w10, w11, w12, w13, w14, w15, w16, w17, w18, w19, p1, p2, p3, p4, p5, p6]
theorem fit_waits {c : Cfg} (h : fitG c = true) : leastN c ≤ c.listen ∧ leastN c ≤ c.span ∧ c.listen + c.parts.length * c.span ≤ 60000 := by
  obtain ⟨h1, h2, h3⟩ := fitG_spec.1 h
  have hw : waitsN c = 0 := by
    unfold laterN at h3
    split at h3
    · rename_i h4; exact absurd h3 h4
    · exact h3
  unfold waitsN at hw
  split at hw
  · omega
  split at hw
  · omega
  split at hw
  · omega
  split at hw
  · omega
  omega
set_option maxHeartbeats 8000000 in
theorem BoundsFirst_walk (xs0 xs1 : List SV) (h0 : WT ES.P 8 T_int xs0) (h1 : WT ES.P 8 T_uint8 xs1) : ∃ M', ICw ES n_l7_BoundsFirst [mkV ES.P T_int xs0, mkV ES.P T_uint8 xs1] .empty = some (.bool true, M') := by
  obtain ⟨n, _, e0, _⟩ := WT_int ti_int h0
  obtain ⟨u, _, e1, hu⟩ := WT_int ti_uint8 h1
  rw [e0, e1]
  obtain ⟨P, L, hm, hP⟩ := Made_c n
  have hfit := made_fit n
  generalize madeC n = c at *
  have hu8 := wf8 hu
  obtain ⟨k, rfl⟩ : ∃ k : Nat, u = k := ⟨u.toNat, by omega⟩
  have hlenp := hP.p.lenS ti_sl_api_Part
  obtain ⟨g1, g2, g3⟩ := fitG_spec.1 hfit
  have hf := right_facts g1
  have hw := fit_waits hfit
  have hfc := fit_facts hfit
  have hlo := (outN_zero g2).lo
  obtain ⟨lo, hlo2⟩ : ∃ l : Nat, c.lost = l := ⟨c.lost.toNat, by omega⟩
  have hm1 : (c.parts.length : Int) * (c.lost + 1) = ((c.parts.length * (lo + 1) : Nat) : Int) := by rw [hlo2]; push_cast; rfl
  have b1 : c.parts.length * (lo + 1) ≤ 6 * 21 := Nat.mul_le_mul hf.2.1 (by omega)
  have w1 : IntKind.i64.wrap (k : Int) = k := i64_in (by omega) (by omega)
  have w2 : IntKind.i64.wrap (c.lost + 1) = c.lost + 1 := i64_in (by omega) (by omega)
  have w3 : IntKind.i64.wrap (c.parts.length * (c.lost + 1)) = c.parts.length * (c.lost + 1) := i64_in (by omega) (by omega)
  have hle : leastN c = c.parts.length * (c.lost + 1) + 2 := rfl
  have hmod : (k : Int).tmod c.parts.length = ((k % c.parts.length : Nat) : Int) := by
    rw [Int.tmod_eq_emod_of_nonneg (by omega)]
    rfl
  have hpl : k % c.parts.length < c.parts.length := Nat.mod_lt _ (by omega)
  have hne : ¬ ((c.parts.length : Int) = 0) := by omega
  have hbr : binS ES.P .rem T_int false (.int .i64 k) (.int .i64 c.parts.length) = some (.int .i64 ((k : Int).tmod c.parts.length)) := binS_rem hne
  have kf := fun get part => bounds_First_c get hP part
  have q1 : c.parts.length * (c.lost + 1) < c.listen := by omega
  have q2 : c.parts.length * (c.lost + 1) < c.span := by omega
  rw [b_l7_BoundsFirst]
  rw [hmod] at hbr
  generalize hp : k % c.parts.length = p at hbr hpl
  simp only [cfgC] at hm kf
  by_cases hp0 : p = 0
  · subst hp0
    have hf0 : firstG c 0 = c.listen := by
      unfold firstG
      rw [hfit]
      have : inMany 0 c.parts.length := by unfold inMany; omega
      simp [this]
    simp (maxSteps := 4000000) [c_l7_BoundsFirst, evW_reg, evW_chkr, isCst, loadS, partS, TK.agg, fieldAddrS, zeroS, storeS, setPart, splice, endS, resS, fieldS, cfgC, hm, hlenp, w1, hbr, kf, hf0, w2, w3, q1]
  · obtain ⟨i, rfl⟩ : ∃ i, p = i + 1 := ⟨p - 1, by omega⟩
    have hps : ((i : Int) + 1) * c.span ≤ c.parts.length * c.span := Int.mul_le_mul_of_nonneg_right (by omega) (by omega)
    have hps0 : 0 ≤ (i : Int) * c.span := Int.mul_nonneg (by omega) (by omega)
    have hex : ((i : Int) + 1) * c.span = (i : Int) * c.span + c.span := by rw [Int.add_mul]; omega
    have hf1 : firstG c ((i : Int) + 1) = c.listen + (i : Int) * c.span + c.span := by
      unfold firstG
      rw [hfit]
      have : inMany ((i : Int) + 1) c.parts.length := by unfold inMany; omega
      simp [this]
      omega
    have hf2 : firstG c (i : Int) = c.listen + (i : Int) * c.span := by
      unfold firstG
      rw [hfit]
      have : inMany (i : Int) c.parts.length := by unfold inMany; omega
      simp [this]
    have w4 : IntKind.i64.wrap (i : Int) = i := i64_in (by omega) (by omega)
    have w5 : IntKind.i64.wrap (c.listen + (i : Int) * c.span + c.span) = c.listen + (i : Int) * c.span + c.span := i64_in (by omega) (by omega)
    have q3 : c.listen + (i : Int) * c.span + c.span ≤ 60000 := by omega
    have hi0 : ¬ ((i : Int) + 1 = 0) := by omega
    have e1 : ((i + 1 : Nat) : Int) = (i : Int) + 1 := by omega
    rw [e1] at hbr
    simp (maxSteps := 4000000) [c_l7_BoundsFirst, evW_reg, evW_chkr, isCst, loadS, partS, TK.agg, fieldAddrS, zeroS, storeS, setPart, splice, endS, resS, fieldS, cfgC, hm, hlenp, w1, hbr, hi0, kf, hf1, hf2, w2, w3, w4, w5, q2, q3]
theorem upM_mono {a b : Int} (h : a ≤ b) : upM a ≤ upM b := by unfold upM; omega
structure Grows (c d : Cfg) : Prop where
  rc : InRange c
  rd : InRange d
  dr : c.drift ≤ d.drift
  cy : c.cycle ≤ d.cycle
  ra : c.rate = d.rate
  ag : c.ages = d.ages
theorem Grows.all {c d : Cfg} (h : Grows c d) : edgeN c ≤ edgeN d ∧ slewN c ≤ slewN d ∧ stepN c ≤ stepN d ∧ jumpN c ≤ jumpN d ∧ tickN c ≤ tickN d := by
  have hd1 := h.rc.dr
  have hc1 := h.rc.cy
  have hm : c.drift * c.cycle ≤ d.drift * d.cycle := Int.mul_le_mul h.dr h.cy (by omega) (by have := h.rd.dr; omega)
  have hs : slewN c ≤ slewN d := upM_mono hm
  have he : edgeN c ≤ edgeN d := by
    have e1 : 2 * c.drift * c.cycle = 2 * (c.drift * c.cycle) := by rw [Int.mul_assoc]
    have e2 : 2 * d.drift * d.cycle = 2 * (d.drift * d.cycle) := by rw [Int.mul_assoc]
    have := upM_mono (show 2 * c.drift * c.cycle ≤ 2 * d.drift * d.cycle by omega)
    unfold edgeN
    omega
  have hst : stepN c ≤ stepN d := by unfold stepN; omega
  have nc := h.rc.nums
  have nd := h.rd.nums
  have hag := h.rc.ag
  have hj : 2 * c.ages * stepN c ≤ 2 * d.ages * stepN d := by
    rw [← h.ag]
    exact Int.mul_le_mul_of_nonneg_left hst (by omega)
  have ht : 2 * edgeN c * (c.rate + c.drift) ≤ 2 * edgeN d * (d.rate + d.drift) := by
    have := h.ra
    have := h.dr
    have := nc.e
    have := nd.e
    have := h.rc.ra
    exact Int.mul_le_mul (by omega) (by omega) (by omega) (by omega)
  refine ⟨he, hs, hst, ?_, ?_⟩
  · unfold jumpN; omega
  · have := upM_mono ht
    unfold tickN
    omega
set_option maxHeartbeats 8000000 in
theorem BoundsGrow_walk (xs0 xs1 xs2 : List SV) (h0 : WT ES.P 8 T_int xs0) (h1 : WT ES.P 8 T_uint16 xs1) (h2 : WT ES.P 8 T_uint16 xs2) : ∃ M', ICw ES n_l7_BoundsGrow [mkV ES.P T_int xs0, mkV ES.P T_uint16 xs1, mkV ES.P T_uint16 xs2] .empty = some (.bool true, M') := by
  obtain ⟨n, _, e0, _⟩ := WT_int ti_int h0
  obtain ⟨u, _, e1, hu⟩ := WT_int ti_uint16 h1
  obtain ⟨v, _, e2, hv⟩ := WT_int ti_uint16 h2
  rw [e0, e1, e2]
  obtain ⟨P, L, hm, hP⟩ := Made_c n
  have hr := made_ranged n
  have hcy : (madeC n).cycle ≤ 27000 ∧ (madeC n).drift ≤ 140 := by
    obtain ⟨m, h1, h2, _⟩ := made_num' n
    omega
  generalize madeC n = c at *
  have hin : InRange c := outN_zero (by simp [rangedC] at hr; exact hr.2)
  have hu16 := wf16 hu
  have hv16 := wf16 hv
  have hd := hin.dr
  have hc := hin.cy
  have hmod : u.tmod 300 = u % 300 := Int.tmod_eq_emod_of_nonneg hu16.1
  have w1 : IntKind.i64.wrap u = u := i64_in (by omega) (by omega)
  have w2 : IntKind.i64.wrap v = v := i64_in (by omega) (by omega)
  have w3 : IntKind.i64.wrap (c.drift + u % 300) = c.drift + u % 300 := i64_in (by omega) (by omega)
  have w4 : IntKind.i64.wrap (c.cycle + v) = c.cycle + v := i64_in (by omega) (by omega)
  have hin2 : InRange { c with drift := c.drift + u % 300, cycle := c.cycle + v } := ⟨by show 1000 ≤ c.cycle + v ∧ c.cycle + v ≤ 1000000; omega, by show 0 ≤ c.drift + u % 300 ∧ c.drift + u % 300 ≤ 500; omega, hin.ra, hin.ag, hin.lo⟩
  have hg : Grows c { c with drift := c.drift + u % 300, cycle := c.cycle + v } := ⟨hin, hin2, by show c.drift ≤ c.drift + u % 300; omega, by show c.cycle ≤ c.cycle + v; omega, rfl, rfl⟩
  have hP2 : CfgP { c with drift := c.drift + u % 300, cycle := c.cycle + v } P L := ⟨hP.p, hP.l, hP.lp, hP.ll⟩
  have ho2 : outN { c with drift := c.drift + u % 300, cycle := c.cycle + v } = 0 := by
    have := hin2
    have q1 := this.cy
    have q2 := this.dr
    have q3 := this.ra
    have q4 := this.ag
    have q5 := this.lo
    unfold outN
    rw [if_neg (by omega), if_neg (by omega), if_neg (by omega), if_neg (by omega), if_neg (by omega)]
  have hr2 : rangedC { c with drift := c.drift + u % 300, cycle := c.cycle + v } = true := by
    have e : rightC { c with drift := c.drift + u % 300, cycle := c.cycle + v } = rightC c := by
      unfold rightC
      rw [checkG_pl (c := { c with drift := c.drift + u % 300, cycle := c.cycle + v }) (d := c) rfl rfl]
    have h3 : rightC c = true := by simp [rangedC] at hr; exact hr.1
    simp [rangedC, e, h3, ho2]
  obtain ⟨a1, a2, a3, a4, a5⟩ := hg.all
  have k1 := fun get => bounds_Edge_c get hP
  have k2 := fun get => bounds_Near_c get hP
  have k3 := fun get => bounds_Slew_c get hP
  have k4 := fun get => bounds_Step_c get hP
  have k5 := fun get => bounds_Jump_c get hP
  have k6 := fun get => bounds_Tick_c get hP
  have j1 := fun get => bounds_Edge_c get hP2
  have j2 := fun get => bounds_Near_c get hP2
  have j3 := fun get => bounds_Slew_c get hP2
  have j4 := fun get => bounds_Step_c get hP2
  have j5 := fun get => bounds_Jump_c get hP2
  have j6 := fun get => bounds_Tick_c get hP2
  simp only [hr, hr2, if_true, val_Edge, val_Near, val_Slew, val_Step, val_Jump, val_Tick] at k1 k2 k3 k4 k5 k6 j1 j2 j3 j4 j5 j6
  generalize hd2 : ({ c with drift := c.drift + u % 300, cycle := c.cycle + v } : Cfg) = d at *
  have hdc : cfgC d P L = [P, L, .int .i64 (c.cycle + v), .int .i64 c.lead, .int .i64 c.slot, .int .i64 c.window, .int .i64 (c.drift + u % 300), .int .i64 c.rate, .int .i64 c.ages, .int .i64 c.lost, .int .i64 c.listen, .int .i64 c.span, .int .i64 c.room] := by rw [← hd2]; rfl
  rw [hdc] at j1 j2 j3 j4 j5 j6
  have a6 : 2 * edgeN c ≤ 2 * edgeN d := by omega
  rw [b_l7_BoundsGrow]
  simp only [cfgC] at hm k1 k2 k3 k4 k5 k6
  simp (maxSteps := 4000000) [c_l7_BoundsGrow, evW_reg, evW_chkr, isCst, loadS, partS, TK.agg, fieldAddrS, zeroS, storeS, setPart, splice, endS, resS, fieldS, hm, w1, w2, w3, w4, hmod, k1, k2, k3, k4, k5, k6, j1, j2, j3, j4, j5, j6, a1, a2, a3, a4, a5, a6, Nat.add_assoc]

end Go.Proofs.YtbdliphlolajaaaGreatDoor
