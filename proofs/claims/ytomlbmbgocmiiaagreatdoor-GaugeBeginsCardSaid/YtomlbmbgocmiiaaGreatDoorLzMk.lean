/-
  Walks of the seat's functions: Tk.
-/
import Derived.Test.YtomlbmbgocmiiaaGreatDoorEbMa
import Derived.Test.YtomlbmbgocmiiaaGreatDoorShMb
set_option linter.unusedVariables false
set_option linter.unusedSimpArgs false
set_option maxRecDepth 100000
namespace Go.Proofs.YtomlbmbgocmiiaaGreatDoor
open Go.Proofs.YtomlbmbgocmiiaaGreatDoor.Sh
/-! ticks, clock, and the document's own. -/

def isTime (x : Int) : Prop := -1099511627776 ≤ x ∧ x ≤ 1099511627776
instance (x : Int) : Decidable (isTime x) := inferInstanceAs (Decidable (_ ∧ _))

theorem ticks_Time_ok (x : Int) : PCw ES n_ticks_Time [.int .i64 x] = some (.bool (decide (isTime x))) := by
  refine PCw_ex (fun M => ?_) rfl
  rw [b_ticks_Time]
  by_cases h : -1099511627776 ≤ x <;> simp [c_ticks_Time, evW_reg, evW_chkr, isCst, loadS, partS, TK.agg, fieldAddrS, zeroS, storeS, setPart, splice, endS, resS, fieldS, isTime, h]
@[simp] theorem ticks_Time_c (get) (x : Int) : callP (PCw ES) get n_ticks_Time [.int .i64 x] = some (.bool (decide (isTime x))) := callP_of (ticks_Time_ok x) rfl
theorem r1_Time_ok (x : Int) : PCw ES n_r1_Time [.int .i64 x] = some (.bool (decide (isTime x))) := by
  refine PCw_ex (fun M => ?_) rfl
  rw [b_r1_Time]
  by_cases h : -1099511627776 ≤ x <;> simp [c_r1_Time, evW_reg, evW_chkr, isCst, loadS, partS, TK.agg, fieldAddrS, zeroS, storeS, setPart, splice, endS, resS, fieldS, isTime, h]
@[simp] theorem r1_Time_c (get) (x : Int) : callP (PCw ES) get n_r1_Time [.int .i64 x] = some (.bool (decide (isTime x))) := callP_of (r1_Time_ok x) rfl
theorem tdiv_floor {a b : Int} (hb : 1 ≤ b) (h : a.tmod b < 0) : a.tdiv b - 1 = a / b := by
  have h1 := Int.tmod_add_mul_tdiv a b
  have h2 := Int.tmod_lt_of_pos a (show 0 < b by omega)
  have h3 : -b < a.tmod b := by
    have := Int.tmod_add_mul_tdiv a b
    have h4 : (-a).tmod b < b := Int.tmod_lt_of_pos _ (by omega)
    rw [Int.neg_tmod] at h4
    omega
  symm
  rw [Int.ediv_eq_iff_of_pos (by omega)]
  constructor
  · rw [Int.sub_mul, Int.one_mul, Int.mul_comm]; omega
  · rw [Int.sub_mul, Int.one_mul, Int.mul_comm]; omega
theorem tdiv_floor' {a b : Int} (hb : 1 ≤ b) (h : ¬ a.tmod b < 0) : a.tdiv b = a / b := by
  have h1 := Int.tmod_add_mul_tdiv a b
  have h2 := Int.tmod_lt_of_pos a (show 0 < b by omega)
  symm
  rw [Int.ediv_eq_iff_of_pos (by omega)]
  constructor <;> rw [Int.mul_comm] <;> omega
theorem ediv_abs {a b : Int} (hb : 1 ≤ b) : (0 ≤ a → 0 ≤ a / b ∧ a / b ≤ a) ∧ (a < 0 → a ≤ a / b ∧ a / b < 0) := by
  constructor
  · intro h
    exact ⟨Int.ediv_nonneg h (by omega), Int.ediv_le_self _ h⟩
  · intro h
    have h1 : a / b < 0 := Int.ediv_neg_of_neg_of_pos h (by omega)
    refine ⟨?_, h1⟩
    rw [Int.le_ediv_iff_mul_le (by omega)]
    have : a * b ≤ a * 1 := Int.mul_le_mul_of_nonpos_left (by omega) (by omega)
    omega
theorem tdiv_abs {a b : Int} (hb : 1 ≤ b) : (0 ≤ a → 0 ≤ a.tdiv b ∧ a.tdiv b ≤ a) ∧ (a < 0 → a ≤ a.tdiv b ∧ a.tdiv b ≤ 0) := by
  obtain ⟨h1, h2⟩ := ediv_abs (a := a) hb
  by_cases h : a.tmod b < 0
  · have := tdiv_floor hb h
    refine ⟨fun h0 => ?_, fun h0 => ?_⟩
    · have := Int.tmod_nonneg b h0; omega
    · have := h2 h0; omega
  · have := tdiv_floor' hb h
    refine ⟨fun h0 => ?_, fun h0 => ?_⟩
    · have := h1 h0; omega
    · have := h2 h0; omega

/-- The greatest whole number that is not above a part. -/
def floorG (a b : Int) : Int × Bool := if b < 1 then (0, false) else (a / b, true)
theorem ticks_Floor_ok {a b : Int} (ha : I64 a) : PCw ES n_ticks_Floor [.int .i64 a, .int .i64 b] = some (.tup [.int .i64 (floorG a b).1, .bool (floorG a b).2]) := by
  refine PCw_ex (fun M => ?_) rfl
  rw [b_ticks_Floor]
  obtain ⟨ha1, ha2⟩ := ha
  by_cases h : b < 1
  · simp [c_ticks_Floor, evW_reg, evW_chkr, isCst, loadS, partS, TK.agg, fieldAddrS, zeroS, storeS, setPart, splice, endS, resS, fieldS, floorG, h]
  · obtain ⟨q1, q2⟩ := tdiv_abs (a := a) (b := b) (by omega)
    have hw : IntKind.i64.wrap (a.tdiv b) = a.tdiv b := i64_in (by omega) (by omega)
    have hb0 : b ≠ 0 := by omega
    obtain ⟨r1, r2⟩ := ediv_abs (a := a) (b := b) (by omega)
    have hwq : IntKind.i64.wrap (a / b) = a / b := i64_in (by omega) (by omega)
    by_cases h2 : a.tmod b < 0
    · have h3 := tdiv_floor (a := a) (b := b) (by omega) h2
      simp [c_ticks_Floor, evW_reg, evW_chkr, isCst, loadS, partS, TK.agg, fieldAddrS, zeroS, storeS, setPart, splice, endS, resS, fieldS, floorG, h, h2, hb0, hw, hwq, h3]
    · have h3 := tdiv_floor' (a := a) (b := b) (by omega) h2
      simp [c_ticks_Floor, evW_reg, evW_chkr, isCst, loadS, partS, TK.agg, fieldAddrS, zeroS, storeS, setPart, splice, endS, resS, fieldS, floorG, h, h2, hb0, hwq, h3]
theorem ticks_Floor_c (get) {a b : Int} (ha : I64 a) : callP (PCw ES) get n_ticks_Floor [.int .i64 a, .int .i64 b] = some (.tup [.int .i64 (floorG a b).1, .bool (floorG a b).2]) := callP_of (ticks_Floor_ok ha) rfl
theorem r1_Floor_ok {a b : Int} (ha : I64 a) : PCw ES n_r1_Floor [.int .i64 a, .int .i64 b] = some (.tup [.int .i64 (floorG a b).1, .bool (floorG a b).2]) := by
  refine PCw_ex (fun M => ?_) rfl
  rw [b_r1_Floor]
  obtain ⟨ha1, ha2⟩ := ha
  by_cases h : b < 1
  · simp [c_r1_Floor, evW_reg, evW_chkr, isCst, loadS, partS, TK.agg, fieldAddrS, zeroS, storeS, setPart, splice, endS, resS, fieldS, floorG, h]
  · obtain ⟨q1, q2⟩ := tdiv_abs (a := a) (b := b) (by omega)
    have hw : IntKind.i64.wrap (a.tdiv b) = a.tdiv b := i64_in (by omega) (by omega)
    have hb0 : b ≠ 0 := by omega
    obtain ⟨r1, r2⟩ := ediv_abs (a := a) (b := b) (by omega)
    have hwq : IntKind.i64.wrap (a / b) = a / b := i64_in (by omega) (by omega)
    by_cases h2 : a.tmod b < 0
    · have h3 := tdiv_floor (a := a) (b := b) (by omega) h2
      simp [c_r1_Floor, evW_reg, evW_chkr, isCst, loadS, partS, TK.agg, fieldAddrS, zeroS, storeS, setPart, splice, endS, resS, fieldS, floorG, h, h2, hb0, hw, hwq, h3]
    · have h3 := tdiv_floor' (a := a) (b := b) (by omega) h2
      simp [c_r1_Floor, evW_reg, evW_chkr, isCst, loadS, partS, TK.agg, fieldAddrS, zeroS, storeS, setPart, splice, endS, resS, fieldS, floorG, h, h2, hb0, hwq, h3]
theorem r1_Floor_c (get) {a b : Int} (ha : I64 a) : callP (PCw ES) get n_r1_Floor [.int .i64 a, .int .i64 b] = some (.tup [.int .i64 (floorG a b).1, .bool (floorG a b).2]) := callP_of (r1_Floor_ok ha) rfl
/-- So many parts of a million. -/
def scaleG (x ppm : Int) : Int × Bool := if ¬ isTime x ∨ ppm < -1000000 ∨ 1000000 < ppm then (0, false) else (x * ppm / 1000000, true)
theorem mul_abs {x p a b : Int} (h1 : -a ≤ x) (h2 : x ≤ a) (h3 : -b ≤ p) (h4 : p ≤ b) : -(a * b) ≤ x * p ∧ x * p ≤ a * b := by
  have hx : x.natAbs ≤ a.toNat := by omega
  have hp : p.natAbs ≤ b.toNat := by omega
  have h := Nat.mul_le_mul hx hp
  rw [← Int.natAbs_mul] at h
  have e : ((a.toNat * b.toNat : Nat) : Int) = a * b := by
    rw [Int.natCast_mul, Int.toNat_of_nonneg (by omega), Int.toNat_of_nonneg (by omega)]
  omega
theorem ticks_Scale_ok (x ppm : Int) : PCw ES n_ticks_Scale [.int .i64 x, .int .i64 ppm] = some (.tup [.int .i64 (scaleG x ppm).1, .bool (scaleG x ppm).2]) := by
  refine PCw_ex (fun M => ?_) rfl
  rw [b_ticks_Scale]
  by_cases h : isTime x
  · by_cases h2 : ppm < -1000000
    · simp [c_ticks_Scale, evW_reg, evW_chkr, isCst, loadS, partS, TK.agg, fieldAddrS, zeroS, storeS, setPart, splice, endS, resS, fieldS, scaleG, h, h2]
    by_cases h3 : 1000000 < ppm
    · simp [c_ticks_Scale, evW_reg, evW_chkr, isCst, loadS, partS, TK.agg, fieldAddrS, zeroS, storeS, setPart, splice, endS, resS, fieldS, scaleG, h, h2, h3]
    have hm := mul_abs (x := x) (p := ppm) (a := 1099511627776) (b := 1000000) h.1 h.2 (by omega) (by omega)
    have hi : I64 (x * ppm) := ⟨by omega, by omega⟩
    simp [c_ticks_Scale, evW_reg, evW_chkr, isCst, loadS, partS, TK.agg, fieldAddrS, zeroS, storeS, setPart, splice, endS, resS, fieldS, scaleG, h, h2, h3, hi.wrap, ticks_Floor_c _ hi, floorG]
  · simp [c_ticks_Scale, evW_reg, evW_chkr, isCst, loadS, partS, TK.agg, fieldAddrS, zeroS, storeS, setPart, splice, endS, resS, fieldS, scaleG, h]
@[simp] theorem ticks_Scale_c (get) (x ppm : Int) : callP (PCw ES) get n_ticks_Scale [.int .i64 x, .int .i64 ppm] = some (.tup [.int .i64 (scaleG x ppm).1, .bool (scaleG x ppm).2]) := callP_of (ticks_Scale_ok x ppm) rfl
theorem r1_Scale_ok (x ppm : Int) : PCw ES n_r1_Scale [.int .i64 x, .int .i64 ppm] = some (.tup [.int .i64 (scaleG x ppm).1, .bool (scaleG x ppm).2]) := by
  refine PCw_ex (fun M => ?_) rfl
  rw [b_r1_Scale]
  by_cases h : isTime x
  · by_cases h2 : ppm < -1000000
    · simp [c_r1_Scale, evW_reg, evW_chkr, isCst, loadS, partS, TK.agg, fieldAddrS, zeroS, storeS, setPart, splice, endS, resS, fieldS, scaleG, h, h2]
    by_cases h3 : 1000000 < ppm
    · simp [c_r1_Scale, evW_reg, evW_chkr, isCst, loadS, partS, TK.agg, fieldAddrS, zeroS, storeS, setPart, splice, endS, resS, fieldS, scaleG, h, h2, h3]
    have hm := mul_abs (x := x) (p := ppm) (a := 1099511627776) (b := 1000000) h.1 h.2 (by omega) (by omega)
    have hi : I64 (x * ppm) := ⟨by omega, by omega⟩
    simp [c_r1_Scale, evW_reg, evW_chkr, isCst, loadS, partS, TK.agg, fieldAddrS, zeroS, storeS, setPart, splice, endS, resS, fieldS, scaleG, h, h2, h3, hi.wrap, r1_Floor_c _ hi, floorG]
  · simp [c_r1_Scale, evW_reg, evW_chkr, isCst, loadS, partS, TK.agg, fieldAddrS, zeroS, storeS, setPart, splice, endS, resS, fieldS, scaleG, h]
@[simp] theorem r1_Scale_c (get) (x ppm : Int) : callP (PCw ES) get n_r1_Scale [.int .i64 x, .int .i64 ppm] = some (.tup [.int .i64 (scaleG x ppm).1, .bool (scaleG x ppm).2]) := callP_of (r1_Scale_ok x ppm) rfl
def realG (x ppm : Int) : Int := w64 (x - (scaleG x ppm).1)
def localG (x ppm : Int) : Int := w64 (x + (scaleG x ppm).1)
theorem clock_Real_ok (x ppm : Int) : PCw ES n_clock_Real [.int .i64 x, .int .i64 ppm] = some (.int .i64 (realG x ppm)) := by
  refine PCw_ex (fun M => ?_) rfl
  rw [b_clock_Real]
  simp [c_clock_Real, evW_reg, evW_chkr, isCst, loadS, partS, TK.agg, fieldAddrS, zeroS, storeS, setPart, splice, endS, resS, fieldS, realG, w64]
@[simp] theorem clock_Real_c (get) (x ppm : Int) : callP (PCw ES) get n_clock_Real [.int .i64 x, .int .i64 ppm] = some (.int .i64 (realG x ppm)) := callP_of (clock_Real_ok x ppm) rfl
theorem r5_Real_ok (x ppm : Int) : PCw ES n_r5_Real [.int .i64 x, .int .i64 ppm] = some (.int .i64 (realG x ppm)) := by
  refine PCw_ex (fun M => ?_) rfl
  rw [b_r5_Real]
  simp [c_r5_Real, evW_reg, evW_chkr, isCst, loadS, partS, TK.agg, fieldAddrS, zeroS, storeS, setPart, splice, endS, resS, fieldS, realG, w64]
@[simp] theorem r5_Real_c (get) (x ppm : Int) : callP (PCw ES) get n_r5_Real [.int .i64 x, .int .i64 ppm] = some (.int .i64 (realG x ppm)) := callP_of (r5_Real_ok x ppm) rfl

end Go.Proofs.YtomlbmbgocmiiaaGreatDoor

/-
  Walks of the seat's functions: Gg.
-/
set_option linter.unusedVariables false
set_option linter.unusedSimpArgs false
set_option maxRecDepth 100000
namespace Go.Proofs.YtomlbmbgocmiiaaGreatDoor
open Go.Proofs.YtomlbmbgocmiiaaGreatDoor.Sh
/-! gauge, and the document's own. -/
def beginG (at' ppm arr : Int) : Int × Bool := if ¬ isTime at' ∨ ¬ isTime arr then (0, false) else (w64 (arr - realG at' ppm), true)
def lateG (start at' ppm arr : Int) : Int × Bool := if ¬ (beginG at' ppm arr).2 ∨ ¬ isTime start then (0, false) else (w64 ((beginG at' ppm arr).1 - start), true)
theorem wrap_id64 {x : Int} (h : I64 x) : IntKind.i64.wrap x = x := h.wrap
theorem gauge_Begin_ok {x : Int} (hx : I64 x) (ppm arr : Int) : PCw ES n_gauge_Begin [.int .i64 x, .int .i64 ppm, .int .i64 arr] = some (.tup [.int .i64 (beginG x ppm arr).1, .bool (beginG x ppm arr).2]) := by
  refine PCw_ex (fun M => ?_) rfl
  rw [b_gauge_Begin]
  by_cases h : isTime x
  · by_cases h2 : isTime arr <;> simp [c_gauge_Begin, evW_reg, evW_chkr, isCst, loadS, partS, TK.agg, fieldAddrS, zeroS, storeS, setPart, splice, endS, resS, fieldS, beginG, h, h2, w64, hx.wrap, convS]
  · simp [c_gauge_Begin, evW_reg, evW_chkr, isCst, loadS, partS, TK.agg, fieldAddrS, zeroS, storeS, setPart, splice, endS, resS, fieldS, beginG, h, hx.wrap, convS]
theorem gauge_Begin_c (get) {x : Int} (hx : I64 x) (ppm arr : Int) : callP (PCw ES) get n_gauge_Begin [.int .i64 x, .int .i64 ppm, .int .i64 arr] = some (.tup [.int .i64 (beginG x ppm arr).1, .bool (beginG x ppm arr).2]) := callP_of (gauge_Begin_ok hx ppm arr) rfl
theorem r10_Begin_ok {x : Int} (hx : I64 x) (ppm arr : Int) : PCw ES n_r10_Begin [.int .i64 x, .int .i64 ppm, .int .i64 arr] = some (.tup [.int .i64 (beginG x ppm arr).1, .bool (beginG x ppm arr).2]) := by
  refine PCw_ex (fun M => ?_) rfl
  rw [b_r10_Begin]
  by_cases h : isTime x
  · by_cases h2 : isTime arr <;> simp [c_r10_Begin, evW_reg, evW_chkr, isCst, loadS, partS, TK.agg, fieldAddrS, zeroS, storeS, setPart, splice, endS, resS, fieldS, beginG, h, h2, w64, hx.wrap, convS]
  · simp [c_r10_Begin, evW_reg, evW_chkr, isCst, loadS, partS, TK.agg, fieldAddrS, zeroS, storeS, setPart, splice, endS, resS, fieldS, beginG, h, hx.wrap, convS]
theorem r10_Begin_c (get) {x : Int} (hx : I64 x) (ppm arr : Int) : callP (PCw ES) get n_r10_Begin [.int .i64 x, .int .i64 ppm, .int .i64 arr] = some (.tup [.int .i64 (beginG x ppm arr).1, .bool (beginG x ppm arr).2]) := callP_of (r10_Begin_ok hx ppm arr) rfl
theorem gauge_Late_ok (s : Int) {x : Int} (hx : I64 x) (ppm arr : Int) : PCw ES n_gauge_Late [.int .i64 s, .int .i64 x, .int .i64 ppm, .int .i64 arr] = some (.tup [.int .i64 (lateG s x ppm arr).1, .bool (lateG s x ppm arr).2]) := by
  refine PCw_ex (fun M => ?_) rfl
  rw [b_gauge_Late]
  by_cases h : (beginG x ppm arr).2 = true
  · by_cases h2 : isTime s <;> simp [c_gauge_Late, evW_reg, evW_chkr, isCst, loadS, partS, TK.agg, fieldAddrS, zeroS, storeS, setPart, splice, endS, resS, fieldS, lateG, gauge_Begin_c _ hx, h, h2, w64]
  · simp [c_gauge_Late, evW_reg, evW_chkr, isCst, loadS, partS, TK.agg, fieldAddrS, zeroS, storeS, setPart, splice, endS, resS, fieldS, lateG, gauge_Begin_c _ hx, h]
theorem gauge_Late_c (get) (s : Int) {x : Int} (hx : I64 x) (ppm arr : Int) : callP (PCw ES) get n_gauge_Late [.int .i64 s, .int .i64 x, .int .i64 ppm, .int .i64 arr] = some (.tup [.int .i64 (lateG s x ppm arr).1, .bool (lateG s x ppm arr).2]) := callP_of (gauge_Late_ok s hx ppm arr) rfl
theorem l12_alive_ok : PCw ES n_l12_alive [] = some (.bool true) := PCw_closed 60 (by kernel_rfl)
@[simp] theorem l12_alive_c (get) : callP (PCw ES) get n_l12_alive [] = some (.bool true) := callP_of l12_alive_ok rfl

end Go.Proofs.YtomlbmbgocmiiaaGreatDoor
