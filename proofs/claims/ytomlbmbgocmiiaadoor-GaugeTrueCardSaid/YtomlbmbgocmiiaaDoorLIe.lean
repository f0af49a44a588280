/-
  Walks of the seat's functions: Ie.
-/
import Derived.Test.YtomlbmbgocmiiaaDoorEb0
import Derived.Test.YtomlbmbgocmiiaaDoorShMb
import Derived.Test.YtomlbmbgocmiiaaDoorLzMa
import Derived.Test.YtomlbmbgocmiiaaDoorLBl
import Derived.Test.YtomlbmbgocmiiaaDoorLBn
import Derived.Test.YtomlbmbgocmiiaaDoorLzMi
set_option linter.unusedVariables false
set_option linter.unusedSimpArgs false
set_option maxRecDepth 100000
namespace Go.Proofs.YtomlbmbgocmiiaaDoor
open Go.Proofs.YtomlbmbgocmiiaaDoor.Sh
/-! The law GaugeTrue. -/
theorem realG_val {t p : Int} (ht : 0 ≤ t ∧ t ≤ 1000000) (hp : -1000000 ≤ p ∧ p ≤ 1000000) : realG t p = t - t * p / 1000000 := by
  have hm := mul_abs (x := t) (p := p) (a := 1000000) (b := 1000000) (by omega) (by omega) (by omega) (by omega)
  have e1 : scaleG t p = (t * p / 1000000, true) := by
    unfold scaleG isTime
    rw [if_neg (by omega)]
  unfold realG w64
  rw [e1]
  exact i64_in (by omega) (by omega)
theorem beginG_val {t p a : Int} (ht : 0 ≤ t ∧ t ≤ 1000000) (hp : -1000000 ≤ p ∧ p ≤ 1000000) (ha : -1099511627776 ≤ a ∧ a ≤ 1099511627776) : beginG t p a = (a - t + t * p / 1000000, true) := by
  have hm := mul_abs (x := t) (p := p) (a := 1000000) (b := 1000000) (by omega) (by omega) (by omega) (by omega)
  unfold beginG isTime w64
  rw [if_neg (by omega), realG_val ht hp]
  congr 1
  rw [i64_in (by omega) (by omega)]
  omega
theorem ppm_diff {t p q D C : Int} (ht : 0 ≤ t ∧ t ≤ C) (h : p - q ≤ 2 * D) (hD : 0 ≤ D) : t * p / 1000000 - t * q / 1000000 ≤ upM (2 * D * C) := by
  have h1 : t * (p - q) ≤ t * (2 * D) := Int.mul_le_mul_of_nonneg_left h ht.1
  have h2 : t * (2 * D) ≤ C * (2 * D) := Int.mul_le_mul_of_nonneg_right ht.2 (by omega)
  have h3 : t * (p - q) = t * p - t * q := by rw [Int.mul_sub]
  have h4 : C * (2 * D) = 2 * D * C := Int.mul_comm _ _
  unfold upM
  omega
set_option maxHeartbeats 16000000 in
theorem GaugeTrue_walk (xs0 xs1 xs2 xs3 xs4 : List SV) (h0 : WT ES.P 8 T_int xs0) (h1 : WT ES.P 8 T_int64 xs1) (h2 : WT ES.P 8 T_a2_int xs2) (h3 : WT ES.P 8 T_int xs3) (h4 : WT ES.P 8 T_uint16 xs4) :
    ∃ M', ICw ES n_l12_GaugeTrue [mkV ES.P T_int xs0, mkV ES.P T_int64 xs1, mkV ES.P T_a2_int xs2, mkV ES.P T_int xs3, mkV ES.P T_uint16 xs4] .empty = some (.bool true, M') := by
  obtain ⟨n, _, e0, _⟩ := WT_int ti_int h0
  obtain ⟨st, _, e1, _⟩ := WT_int ti_int64 h1
  have e2 := (WT_arr ti_a2_int h2).1
  obtain ⟨p, q, rfl, _, _⟩ := a2_of h2
  obtain ⟨r, _, e3, _⟩ := WT_int ti_int h3
  obtain ⟨u, _, e4, hu⟩ := WT_int ti_uint16 h4
  have hu16 := wf16 hu
  rw [e0, e1, e2, e3, e4, b_l12_GaugeTrue]
  obtain ⟨P, L, hm, hP⟩ := Made_c n
  have hfit := made_fit n
  have hrg := made_ranged n
  generalize madeC n = c at *
  obtain ⟨g1, g2, g3⟩ := fitG_spec.1 hfit
  have hin := outN_zero g2
  have hd := hin.dr
  have hcy := hin.cy
  have hra := hin.ra
  have x1 : IntKind.i64.wrap u = u := i64_in (by omega) (by omega)
  have x2 : IntKind.i64.wrap (-c.drift) = -c.drift := i64_in (by omega) (by omega)
  have x3 : IntKind.i64.wrap (-c.rate) = -c.rate := i64_in (by omega) (by omega)
  have hlk : (cfgC c P L).length = 13 := rfl
  have hK6' : (cfgC c P L)[6]? = some (.int .i64 c.drift) := rfl
  have hK7' : (cfgC c P L)[7]? = some (.int .i64 c.rate) := rfl
  have hK2' : (cfgC c P L)[2]? = some (.int .i64 c.cycle) := rfl
  have hEdge := fun get => bounds_Edge_c get hP
  simp only [hrg, if_true, val_Edge] at hEdge
  generalize cfgC c P L = K at *
  have hK6 : K[6]'(by omega) = .int .i64 c.drift := by simpa [hlk] using hK6'
  have hK7 : K[7]'(by omega) = .int .i64 c.rate := by simpa [hlk] using hK7'
  have hK2 : K[2]'(by omega) = .int .i64 c.cycle := by simpa [hlk] using hK2'
  by_cases s1 : st < -549755813888
  · simp (maxSteps := 4000000) [c_l12_GaugeTrue, evW_reg, evW_chkr, isCst, loadS, partS, TK.agg, fieldAddrS, zeroS, storeS, setPart, splice, endS, resS, fieldS, s1]
  by_cases s2 : 549755813888 < st
  · simp (maxSteps := 4000000) [c_l12_GaugeTrue, evW_reg, evW_chkr, isCst, loadS, partS, TK.agg, fieldAddrS, zeroS, storeS, setPart, splice, endS, resS, fieldS, s1, s2]
  by_cases c2 : p < -c.drift
  · simp (maxSteps := 4000000) [c_l12_GaugeTrue, evW_reg, evW_chkr, isCst, loadS, partS, TK.agg, fieldAddrS, zeroS, storeS, setPart, splice, endS, resS, fieldS, s1, s2, hm, hlk, hK6, hK7, x2, x3, c2]
  by_cases c3 : c.drift < p
  · simp (maxSteps := 4000000) [c_l12_GaugeTrue, evW_reg, evW_chkr, isCst, loadS, partS, TK.agg, fieldAddrS, zeroS, storeS, setPart, splice, endS, resS, fieldS, s1, s2, hm, hlk, hK6, hK7, x2, x3, c2, c3]
  by_cases c4 : q < -c.drift
  · simp (maxSteps := 4000000) [c_l12_GaugeTrue, evW_reg, evW_chkr, isCst, loadS, partS, TK.agg, fieldAddrS, zeroS, storeS, setPart, splice, endS, resS, fieldS, s1, s2, hm, hlk, hK6, hK7, x2, x3, c2, c3, c4]
  by_cases c5 : c.drift < q
  · simp (maxSteps := 4000000) [c_l12_GaugeTrue, evW_reg, evW_chkr, isCst, loadS, partS, TK.agg, fieldAddrS, zeroS, storeS, setPart, splice, endS, resS, fieldS, s1, s2, hm, hlk, hK6, hK7, x2, x3, c2, c3, c4, c5]
  by_cases c6 : r < -c.rate
  · simp (maxSteps := 4000000) [c_l12_GaugeTrue, evW_reg, evW_chkr, isCst, loadS, partS, TK.agg, fieldAddrS, zeroS, storeS, setPart, splice, endS, resS, fieldS, s1, s2, hm, hlk, hK6, hK7, x2, x3, c2, c3, c4, c5, c6]
  by_cases c7 : c.rate < r
  · simp (maxSteps := 4000000) [c_l12_GaugeTrue, evW_reg, evW_chkr, isCst, loadS, partS, TK.agg, fieldAddrS, zeroS, storeS, setPart, splice, endS, resS, fieldS, s1, s2, hm, hlk, hK6, hK7, x2, x3, c2, c3, c4, c5, c6, c7]
  obtain ⟨x, hx1, hx2⟩ : ∃ x : Int, u.tmod c.cycle = x ∧ 0 ≤ x ∧ x < c.cycle := ⟨_, rfl, Int.tmod_nonneg _ hu16.1, Int.tmod_lt_of_pos _ (by omega)⟩
  have hbr : binS ES.P .rem T_int false (.int .i64 u) (.int .i64 c.cycle) = some (.int .i64 x) := by rw [← hx1]; exact binS_rem (by omega)
  have y1 : IntKind.i64.wrap (p + r) = p + r := i64_in (by omega) (by omega)
  have y2 : IntKind.i64.wrap (q + r) = q + r := i64_in (by omega) (by omega)
  have r1 := realG_val (t := x) (p := p + r) (by omega) (by omega)
  have m1 := mul_abs (x := x) (p := p + r) (a := 1000000) (b := 1000000) (by omega) (by omega) (by omega) (by omega)
  have m2 := mul_abs (x := x) (p := q + r) (a := 1000000) (b := 1000000) (by omega) (by omega) (by omega) (by omega)
  have d1 := ppm_diff (t := x) (p := p + r) (q := q + r) (D := c.drift) (C := c.cycle) (by omega) (by omega) hd.1
  have d2 := ppm_diff (t := x) (p := q + r) (q := p + r) (D := c.drift) (C := c.cycle) (by omega) (by omega) hd.1
  generalize hA : x * (p + r) / 1000000 = A at *
  have y0 : IntKind.i64.wrap x = x := i64_in (by omega) (by omega)
  have y3 : IntKind.i64.wrap (st + (x - A)) = st + (x - A) := i64_in (by omega) (by omega)
  have hb := beginG_val (t := x) (p := q + r) (a := st + (x - A)) (by omega) (by omega) (by omega)
  generalize hB : x * (q + r) / 1000000 = B at *
  have kb := fun get => gauge_Begin_c get (x := x) (by unfold I64; omega) (q + r) (st + (x - A))
  rw [hb] at kb
  have hed : edgeN c = upM (2 * c.drift * c.cycle) + 1 := rfl
  have y4 : IntKind.i64.wrap (st + (x - A) - x + B - st) = B - A := by rw [i64_in (by omega) (by omega)]; omega
  have y5 : IntKind.i64.wrap (st - (st + (x - A) - x + B)) = A - B := by rw [i64_in (by omega) (by omega)]; omega
  have z1 : B - A < edgeN c := by omega
  have z2 : A - B < edgeN c := by omega
  simp (maxSteps := 4000000) [c_l12_GaugeTrue, evW_reg, evW_chkr, isCst, loadS, partS, TK.agg, fieldAddrS, zeroS, storeS, setPart, splice, endS, resS, fieldS, s1, s2, hm, hlk, hK6, hK7, hK2, x1, x2, x3, c2, c3, c4, c5, c6, c7, hbr, y0, y1, y2, y3, r1, kb, hEdge, y4, y5, z1, z2]

end Go.Proofs.YtomlbmbgocmiiaaDoor
