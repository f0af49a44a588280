/-
  Walks of the seat's functions: Hc.
-/
import Derived.Test.YtomlbmbgocmiiaaGreatDoorEbMa
import Derived.Test.YtomlbmbgocmiiaaGreatDoorShMb
import Derived.Test.YtomlbmbgocmiiaaGreatDoorLHb
import Derived.Test.YtomlbmbgocmiiaaGreatDoorLBl
import Derived.Test.YtomlbmbgocmiiaaGreatDoorLBn
import Derived.Test.YtomlbmbgocmiiaaGreatDoorLzMh
set_option linter.unusedVariables false
set_option linter.unusedSimpArgs false
set_option maxRecDepth 100000
namespace Go.Proofs.YtomlbmbgocmiiaaGreatDoor
open Go.Proofs.YtomlbmbgocmiiaaGreatDoor.Sh
/-! The laws CalmTells, CalmMade, CalmOrder. -/
theorem le_maxL {d : List Int} {x : Int} (h : x ∈ d) : x ≤ maxL d := by
  have key : ∀ (r : List Int) (m : Int), m ≤ r.foldl max m ∧ ∀ y ∈ r, y ≤ r.foldl max m := by
    intro r
    induction r with
    | nil => intro m; simp
    | cons z r ih =>
      intro m
      simp only [List.foldl_cons]
      obtain ⟨a1, a2⟩ := ih (max m z)
      refine ⟨by omega, fun y hy => ?_⟩
      rcases List.mem_cons.1 hy with rfl | hy
      · omega
      · exact a2 y hy
  exact (key d _).2 x h
theorem mostK_mono (c : Cfg) {k n : Nat} (h : k < n) : maxL (distL c.links c.parts.length k) ≤ mostK c n := by
  induction n with
  | zero => omega
  | succ n ih =>
    simp only [mostK]
    by_cases e : k = n
    · subst e; omega
    · have := ih (by omega)
      omega
theorem distG_width {c : Cfg} {a b : Int} (hr : rightC c = true) (ha : inMany a c.parts.length) (hb : inMany b c.parts.length) : distG c a b ≤ widthG c := by
  unfold distG widthG
  rw [hr]
  simp only [ha, hb, decide_true, Bool.and_self, if_true]
  unfold inMany at ha hb
  have hl := distL_len c.links c.parts.length b
  have hlt : a.toNat < (distL c.links c.parts.length b).length := by omega
  have h1 : dget (distL c.links c.parts.length b) a ≤ maxL (distL c.links c.parts.length b) := by
    unfold dget
    rw [List.getElem?_eq_getElem hlt]
    exact le_maxL (List.getElem_mem hlt)
  have h2 := mostK_mono c (k := b.toNat) (n := c.parts.length) (by omega)
  rw [show ((b.toNat : Nat) : Int) = b by omega] at h2
  omega
theorem fit_leasts {c : Cfg} (h : fitG c = true) : leastN c ≤ c.listen ∧ leastN c ≤ c.span := by
  obtain ⟨h1, h2, h3⟩ := fitG_spec.1 h
  have hw : waitsN c = 0 := by
    unfold laterN at h3
    split at h3
    · rename_i h4; exact absurd h3 h4
    · exact h3
  unfold waitsN at hw
  split at hw
  · omega
  split at hw
  · omega
  split at hw
  · omega
  omega
theorem wave_least {c : Cfg} (h : fitG c = true) : waveG c < leastN c := by
  have hn := fitN h
  have hw : widthG c ≤ c.parts.length := by
    unfold widthG
    rw [hn.rt]
    exact (mostK_le c hn.le.1 _).2
  have hlo := hn.lo
  have := Int.mul_le_mul_of_nonneg_right hw (show 0 ≤ c.lost + 1 by omega)
  unfold waveG leastN
  rw [h]
  simp only [if_true]
  omega
def exC : Cfg := { parts := [⟨4, 1⟩, ⟨4, 1⟩, ⟨4, 1⟩], links := [⟨0, 1, 0, 1, 0, 1⟩, ⟨1, 2, 2, 3, 0, 1⟩], cycle := 20000, lead := 60, slot := 100, window := 15, drift := 100, rate := 300000, ages := 7, lost := 2, listen := 11, span := 11, room := 5 }
def exP : SV := .sl (exC.parts.map encPart) .ro
def exL9 : SV := .sl (exC.links.map encLink) .ro
theorem l29_row_ok : PCw ES n_l29_row [] = some (.agg (cfgC exC exP exL9)) := PCw_closed 100 (by kernel_rfl)
theorem rowCfg : CfgP exC exP exL9 := ⟨RSl.of_map rfl rfl, RSl.of_map rfl rfl, by decide, by decide⟩
theorem row_calm : hopG exC = 3 ∧ waveG exC = 7 ∧ settleG exC = 15 := by decide +kernel
theorem l29_alive_ok : PCw ES n_l29_alive [] = some (.bool true) := by
  refine PCw_ex (fun M => ?_) rfl
  rw [b_l29_alive]
  have h0 := fun get => callP_of (get := get) l29_row_ok rfl
  have h1 := fun get => calm_Hop_c get rowCfg
  have h2 := fun get => calm_Wave_c get rowCfg
  have h3 := fun get => calm_Settle_c get rowCfg
  rw [row_calm.1] at h1
  rw [row_calm.2.1] at h2
  rw [row_calm.2.2] at h3
  generalize cfgC exC exP exL9 = K at *
  simp [c_l29_alive, evW_reg, evW_chkr, isCst, loadS, partS, TK.agg, fieldAddrS, zeroS, storeS, setPart, splice, endS, resS, fieldS, h0, h1, h2, h3]
@[simp] theorem l29_alive_c (get) : callP (PCw ES) get n_l29_alive [] = some (.bool true) := callP_of l29_alive_ok rfl
set_option maxHeartbeats 8000000 in
theorem CalmTells_walk (xs0 xs1 xs2 xs3 : List SV) (h0 : WT ES.P 8 T_api_Config xs0) (h1 : WT ES.P 8 T_int xs1) (h2 : WT ES.P 8 T_int xs2) (h3 : WT ES.P 8 T_int xs3) :
    ∃ M', ICw ES n_l29_CalmTells [mkV ES.P T_api_Config xs0, mkV ES.P T_int xs1, mkV ES.P T_int xs2, mkV ES.P T_int xs3] .empty = some (.bool true, M') := by
  obtain ⟨c, hc, _⟩ := cfg_of h0
  obtain ⟨a, _, e1, _⟩ := WT_int ti_int h1
  obtain ⟨b, _, e2, _⟩ := WT_int ti_int h2
  obtain ⟨g, _, e3, _⟩ := WT_int ti_int h3
  rw [e1, e2, e3]
  generalize mkV ES.P T_api_Config xs0 = y at hc ⊢
  obtain ⟨P, L, rfl, hP⟩ := hc
  rw [b_l29_CalmTells]
  have k1 := fun get => calm_Hop_c get hP
  have k2 := fun get => calm_Wave_c get hP
  have k3 := fun get => calm_Settle_c get hP
  have k4 := fun get => calm_Cold_c get hP a
  have k5 := fun get => calm_Deliver_c get hP a b
  have k6 := fun get => calm_Envelope_c get hP g
  have j1 := fun get => r26_Hop_c get hP
  have j2 := fun get => r26_Wave_c get hP
  have j3 := fun get => r26_Settle_c get hP
  have j4 := fun get => r26_Cold_c get hP a
  have j5 := fun get => r26_Deliver_c get hP a b
  have j6 := fun get => r26_Envelope_c get hP g
  have hlenp := hP.p.lenS ti_sl_api_Part
  have hlenl := hP.l.lenS ti_sl_api_Link
  have hl : (cfgC c P L).length = 13 := rfl
  have f0 : (cfgC c P L)[0]? = some P := rfl
  have f1 : (cfgC c P L)[1]? = some L := rfl
  generalize cfgC c P L = K at *
  have g0 : K[0]'(by omega) = P := by simpa [hl] using f0
  have g1 : K[1]'(by omega) = L := by simpa [hl] using f1
  by_cases h3 : 20 < (c.parts.length : Int)
  · simp (maxSteps := 4000000) [c_l29_CalmTells, evW_reg, evW_chkr, isCst, loadS, partS, TK.agg, fieldAddrS, zeroS, storeS, setPart, splice, endS, resS, fieldS, hl, g0, g1, hlenp, hlenl, h3]
  · by_cases h4 : 30 < (c.links.length : Int)
    · simp (maxSteps := 4000000) [c_l29_CalmTells, evW_reg, evW_chkr, isCst, loadS, partS, TK.agg, fieldAddrS, zeroS, storeS, setPart, splice, endS, resS, fieldS, hl, g0, g1, hlenp, hlenl, h3, h4]
    · simp (maxSteps := 4000000) [c_l29_CalmTells, evW_reg, evW_chkr, isCst, loadS, partS, TK.agg, fieldAddrS, zeroS, storeS, setPart, splice, endS, resS, fieldS, hl, g0, g1, hlenp, hlenl, h3, h4, k1, k2, k3, k4, k5, k6, j1, j2, j3, j4, j5, j6]
set_option maxHeartbeats 8000000 in
theorem CalmMade_walk (xs0 xs1 xs2 xs3 : List SV) (h0 : WT ES.P 8 T_int xs0) (h1 : WT ES.P 8 T_int xs1) (h2 : WT ES.P 8 T_int xs2) (h3 : WT ES.P 8 T_int xs3) :
    ∃ M', ICw ES n_l29_CalmMade [mkV ES.P T_int xs0, mkV ES.P T_int xs1, mkV ES.P T_int xs2, mkV ES.P T_int xs3] .empty = some (.bool true, M') := by
  obtain ⟨n, _, e0, _⟩ := WT_int ti_int h0
  obtain ⟨a, _, e1, _⟩ := WT_int ti_int h1
  obtain ⟨b, _, e2, _⟩ := WT_int ti_int h2
  obtain ⟨g, _, e3, _⟩ := WT_int ti_int h3
  rw [e0, e1, e2, e3]
  obtain ⟨P, L, hm, hP⟩ := Made_c n
  generalize madeC n = c at *
  rw [b_l29_CalmMade]
  have k1 := fun get => calm_Hop_c get hP
  have k2 := fun get => calm_Wave_c get hP
  have k3 := fun get => calm_Settle_c get hP
  have k4 := fun get => calm_Cold_c get hP a
  have k5 := fun get => calm_Deliver_c get hP a b
  have k6 := fun get => calm_Envelope_c get hP g
  have j1 := fun get => r26_Hop_c get hP
  have j2 := fun get => r26_Wave_c get hP
  have j3 := fun get => r26_Settle_c get hP
  have j4 := fun get => r26_Cold_c get hP a
  have j5 := fun get => r26_Deliver_c get hP a b
  have j6 := fun get => r26_Envelope_c get hP g
  have hl : (cfgC c P L).length = 13 := rfl
  generalize cfgC c P L = K at *
  simp (maxSteps := 4000000) [c_l29_CalmMade, evW_reg, evW_chkr, isCst, loadS, partS, TK.agg, fieldAddrS, zeroS, storeS, setPart, splice, endS, resS, fieldS, hl, hm, k1, k2, k3, k4, k5, k6, j1, j2, j3, j4, j5, j6]
set_option maxHeartbeats 8000000 in
theorem CalmOrder_walk (xs0 xs1 xs2 : List SV) (h0 : WT ES.P 8 T_int xs0) (h1 : WT ES.P 8 T_uint8 xs1) (h2 : WT ES.P 8 T_uint8 xs2) :
    ∃ M', ICw ES n_l29_CalmOrder [mkV ES.P T_int xs0, mkV ES.P T_uint8 xs1, mkV ES.P T_uint8 xs2] .empty = some (.bool true, M') := by
  obtain ⟨n, _, e0, _⟩ := WT_int ti_int h0
  obtain ⟨u, _, e1, hu⟩ := WT_int ti_uint8 h1
  obtain ⟨v, _, e2, hv⟩ := WT_int ti_uint8 h2
  rw [e0, e1, e2]
  obtain ⟨P, L, hm, hP⟩ := Made_c n
  have hfit := made_fit n
  generalize madeC n = c at *
  have hu8 := wf8 hu
  have hv8 := wf8 hv
  have hn := fitN hfit
  have hle := hn.le
  have hlo := hn.lo
  have hag := hn.ir.ag
  have hls := fit_leasts hfit
  have hwl := wave_least hfit
  have hff := fit_facts hfit
  have hst := hn.ir.nums.st
  have hed := hn.ir.nums.e
  have hlenp := hP.p.lenS ti_sl_api_Part
  have x1 : IntKind.i64.wrap u = u := i64_in (by omega) (by omega)
  have x2 : IntKind.i64.wrap v = v := i64_in (by omega) (by omega)
  obtain ⟨p, hp1, hp2⟩ : ∃ p : Int, u.tmod c.parts.length = p ∧ 0 ≤ p ∧ p < c.parts.length := ⟨_, rfl, Int.tmod_nonneg _ hu8.1, Int.tmod_lt_of_pos _ (by omega)⟩
  obtain ⟨a, ha1, ha2⟩ : ∃ a : Int, v.tmod c.ages = a ∧ 0 ≤ a ∧ a < c.ages := ⟨_, rfl, Int.tmod_nonneg _ hv8.1, Int.tmod_lt_of_pos _ (by omega)⟩
  have hb1 : binS ES.P .rem T_int false (.int .i64 u) (.int .i64 c.parts.length) = some (.int .i64 p) := by rw [← hp1]; exact binS_rem (by omega)
  have hb2 : binS ES.P .rem T_int false (.int .i64 v) (.int .i64 c.ages) = some (.int .i64 a) := by rw [← ha1]; exact binS_rem (by omega)
  have hin : inMany p c.parts.length := hp2
  have hin0 : inMany 0 c.parts.length := by unfold inMany; omega
  have ww : 1 ≤ waveG c ∧ waveG c ≤ 127 := by
    have := hn.ww
    unfold waveG; rw [hfit]; simp only [if_true]; omega
  have kw := fun get => calm_Wave_c get hP
  have ks := fun get => calm_Settle_c get hP
  have kc := fun get q => calm_Cold_c get hP q
  have kd := fun get => calm_Deliver_c get hP 0 p
  have ke := fun get g => calm_Envelope_c get hP g
  simp only [cfgC] at hm kw ks kc kd ke
  have hdl : deliverG c 0 p < waveG c := by
    have h1 := distG_width hn.rt hin0 hin
    have h2 := Int.mul_le_mul_of_nonneg_right h1 (show 0 ≤ c.lost + 1 by omega)
    unfold deliverG waveG
    rw [hfit]
    simp only [hin0, hin, decide_true, Bool.and_self, if_true]
    omega
  have s1 : settleG c = 2 * waveG c + 1 := by unfold settleG; rw [hfit]; rfl
  have e0 : envG c 0 = 2 * edgeN c := by
    unfold envG; rw [hfit]
    have : (0 : Int) ≤ 0 ∧ 0 ≤ c.ages := by omega
    simp [this]
  have ea : envG c a < envG c (a + 1) := by
    unfold envG; rw [hfit]
    have q1 : 0 ≤ a ∧ a ≤ c.ages := by omega
    have q2 : 0 ≤ a + 1 ∧ a + 1 ≤ c.ages := by omega
    simp only [q1, q2, and_self, decide_true, Bool.and_self, if_true]
    have : (a + 1) * stepN c = a * stepN c + stepN c := by rw [Int.add_mul]; omega
    omega
  have y1 : IntKind.i64.wrap (a + 1) = a + 1 := i64_in (by omega) (by omega)
  have y2 : IntKind.i64.wrap (2 * waveG c) = 2 * waveG c := i64_in (by omega) (by omega)
  have y3 : IntKind.i64.wrap (2 * waveG c + 1) = 2 * waveG c + 1 := i64_in (by omega) (by omega)
  have y4 : IntKind.i64.wrap (p - 1) = p - 1 := i64_in (by omega) (by omega)
  have hwl2 : waveG c < c.listen := by omega
  have he0 : 0 < envG c 0 := by omega
  rw [b_l29_CalmOrder]
  by_cases hp0 : 0 < p
  · have hinm : inMany (p - 1) c.parts.length := by unfold inMany; omega
    have hcp : coldG c p = coldG c (p - 1) + c.span := by
      unfold coldG firstG
      rw [hfit]
      simp only [hin, hinm, decide_true, Bool.and_self, if_true]
      have : (p - 1) * c.span = p * c.span - c.span := by rw [Int.sub_mul]; omega
      omega
    have hcb : 0 ≤ coldG c (p - 1) ∧ coldG c (p - 1) ≤ 500001 := by
      have := firstG_le hfit (p - 1)
      unfold coldG
      split <;> omega
    have y5 : IntKind.i64.wrap (coldG c (p - 1) + waveG c) = coldG c (p - 1) + waveG c := i64_in (by omega) (by omega)
    have y6 : ¬ coldG c p ≤ coldG c (p - 1) + waveG c := by omega
    simp (maxSteps := 4000000) [c_l29_CalmOrder, evW_reg, evW_chkr, isCst, loadS, partS, TK.agg, fieldAddrS, zeroS, storeS, setPart, splice, endS, resS, fieldS, cfgC, hm, hlenp, x1, x2, hb1, hb2, hp0, kw, ks, kc, kd, ke, y1, y2, y3, y4, y5, y6, hwl2, hdl, ea, he0, s1]
  · have hp00 : p = 0 := by omega
    subst hp00
    simp (maxSteps := 4000000) [c_l29_CalmOrder, evW_reg, evW_chkr, isCst, loadS, partS, TK.agg, fieldAddrS, zeroS, storeS, setPart, splice, endS, resS, fieldS, cfgC, hm, hlenp, x1, x2, hb1, hb2, kw, ks, kc, kd, ke, y1, y2, y3, hwl2, hdl, ea, he0, s1]

end Go.Proofs.YtomlbmbgocmiiaaGreatDoor
