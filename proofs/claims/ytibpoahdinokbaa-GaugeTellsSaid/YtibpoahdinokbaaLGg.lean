/-
  Walks of the seat's functions: Gg.
-/
import Derived.Test.YtibpoahdinokbaaEb1
import Derived.Test.YtibpoahdinokbaaShSv
import Derived.Test.YtibpoahdinokbaaLTk
import Derived.Test.YtibpoahdinokbaaShSt
set_option linter.unusedVariables false
set_option linter.unusedSimpArgs false
set_option maxRecDepth 100000
namespace Go.Proofs.Ytibpoahdinokbaa
open Go.Proofs.Ytibpoahdinokbaa.Sh
/-! gauge, and the document's own. -/
def beginG (at' ppm arr : Int) : Int × Bool := if ¬ isTime at' ∨ ¬ isTime arr then (0, false) else (w64 (arr - realG at' ppm), true)
def lateG (start at' ppm arr : Int) : Int × Bool := if ¬ (beginG at' ppm arr).2 ∨ ¬ isTime start then (0, false) else (w64 ((beginG at' ppm arr).1 - start), true)
theorem wrap_id64 {x : Int} (h : I64 x) : IntKind.i64.wrap x = x := h.wrap
theorem gauge_Begin_ok {x : Int} (hx : I64 x) (ppm arr : Int) : PCw ES n_gauge_Begin [.int .i64 x, .int .i64 ppm, .int .i64 arr] = some (.tup [.int .i64 (beginG x ppm arr).1, .bool (beginG x ppm arr).2]) := by
  refine PCw_ex (fun M => ?_) rfl
  rw [b_gauge_Begin]
  by_cases h : isTime x
  · by_cases h2 : isTime arr <;> simp [c_gauge_Begin, evW_reg, loadS, partS, TK.agg, SV.cells, SV.sto, fieldAddrS, zeroS, storeS, setPart, splice, endS, resS, fieldS, beginG, h, h2, w64, hx.wrap, convS]
  · simp [c_gauge_Begin, evW_reg, loadS, partS, TK.agg, SV.cells, SV.sto, fieldAddrS, zeroS, storeS, setPart, splice, endS, resS, fieldS, beginG, h, hx.wrap, convS]
theorem gauge_Begin_c (get) {x : Int} (hx : I64 x) (ppm arr : Int) : callP (PCw ES) get n_gauge_Begin [.int .i64 x, .int .i64 ppm, .int .i64 arr] = some (.tup [.int .i64 (beginG x ppm arr).1, .bool (beginG x ppm arr).2]) := callP_of (gauge_Begin_ok hx ppm arr) rfl
theorem r10_Begin_ok {x : Int} (hx : I64 x) (ppm arr : Int) : PCw ES n_r10_Begin [.int .i64 x, .int .i64 ppm, .int .i64 arr] = some (.tup [.int .i64 (beginG x ppm arr).1, .bool (beginG x ppm arr).2]) := by
  refine PCw_ex (fun M => ?_) rfl
  rw [b_r10_Begin]
  by_cases h : isTime x
  · by_cases h2 : isTime arr <;> simp [c_r10_Begin, evW_reg, loadS, partS, TK.agg, SV.cells, SV.sto, fieldAddrS, zeroS, storeS, setPart, splice, endS, resS, fieldS, beginG, h, h2, w64, hx.wrap, convS]
  · simp [c_r10_Begin, evW_reg, loadS, partS, TK.agg, SV.cells, SV.sto, fieldAddrS, zeroS, storeS, setPart, splice, endS, resS, fieldS, beginG, h, hx.wrap, convS]
theorem r10_Begin_c (get) {x : Int} (hx : I64 x) (ppm arr : Int) : callP (PCw ES) get n_r10_Begin [.int .i64 x, .int .i64 ppm, .int .i64 arr] = some (.tup [.int .i64 (beginG x ppm arr).1, .bool (beginG x ppm arr).2]) := callP_of (r10_Begin_ok hx ppm arr) rfl
theorem gauge_Late_ok (s : Int) {x : Int} (hx : I64 x) (ppm arr : Int) : PCw ES n_gauge_Late [.int .i64 s, .int .i64 x, .int .i64 ppm, .int .i64 arr] = some (.tup [.int .i64 (lateG s x ppm arr).1, .bool (lateG s x ppm arr).2]) := by
  refine PCw_ex (fun M => ?_) rfl
  rw [b_gauge_Late]
  by_cases h : (beginG x ppm arr).2 = true
  · by_cases h2 : isTime s <;> simp [c_gauge_Late, evW_reg, loadS, partS, TK.agg, SV.cells, SV.sto, fieldAddrS, zeroS, storeS, setPart, splice, endS, resS, fieldS, lateG, gauge_Begin_c _ hx, h, h2, w64]
  · simp [c_gauge_Late, evW_reg, loadS, partS, TK.agg, SV.cells, SV.sto, fieldAddrS, zeroS, storeS, setPart, splice, endS, resS, fieldS, lateG, gauge_Begin_c _ hx, h]
theorem gauge_Late_c (get) (s : Int) {x : Int} (hx : I64 x) (ppm arr : Int) : callP (PCw ES) get n_gauge_Late [.int .i64 s, .int .i64 x, .int .i64 ppm, .int .i64 arr] = some (.tup [.int .i64 (lateG s x ppm arr).1, .bool (lateG s x ppm arr).2]) := callP_of (gauge_Late_ok s hx ppm arr) rfl
theorem r10_Behind_ok (s : Int) {x : Int} (hx : I64 x) (ppm arr : Int) : PCw ES n_r10_Behind [.int .i64 s, .int .i64 x, .int .i64 ppm, .int .i64 arr] = some (.tup [.int .i64 (lateG s x ppm arr).1, .bool (lateG s x ppm arr).2]) := by
  refine PCw_ex (fun M => ?_) rfl
  rw [b_r10_Behind]
  by_cases h : (beginG x ppm arr).2 = true
  · by_cases h2 : isTime s <;> simp [c_r10_Behind, evW_reg, loadS, partS, TK.agg, SV.cells, SV.sto, fieldAddrS, zeroS, storeS, setPart, splice, endS, resS, fieldS, lateG, r10_Begin_c _ hx, h, h2, w64]
  · simp [c_r10_Behind, evW_reg, loadS, partS, TK.agg, SV.cells, SV.sto, fieldAddrS, zeroS, storeS, setPart, splice, endS, resS, fieldS, lateG, r10_Begin_c _ hx, h]
theorem r10_Behind_c (get) (s : Int) {x : Int} (hx : I64 x) (ppm arr : Int) : callP (PCw ES) get n_r10_Behind [.int .i64 s, .int .i64 x, .int .i64 ppm, .int .i64 arr] = some (.tup [.int .i64 (lateG s x ppm arr).1, .bool (lateG s x ppm arr).2]) := callP_of (r10_Behind_ok s hx ppm arr) rfl
theorem l12_alive_ok : PCw ES n_l12_alive [] = some (.bool true) := PCw_closed 60 (by kernel_rfl)
@[simp] theorem l12_alive_c (get) : callP (PCw ES) get n_l12_alive [] = some (.bool true) := callP_of l12_alive_ok rfl
theorem GaugeTells_ok (s : Int) {x : Int} (hx : I64 x) (ppm arr : Int) (M : Mem) : ∃ M', ICw ES n_l12_GaugeTells [.int .i64 s, .int .i64 x, .int .i64 ppm, .int .i64 arr] M = some (.bool true, M') := by
  rw [b_l12_GaugeTells]
  simp [c_l12_GaugeTells, evW_reg, loadS, partS, TK.agg, SV.cells, SV.sto, fieldAddrS, zeroS, storeS, setPart, splice, endS, resS, fieldS, gauge_Begin_c _ hx, r10_Begin_c _ hx, gauge_Late_c _ _ hx, r10_Behind_c _ _ hx, binS_eqlB ti_bool]
theorem GaugeTells_walk (xs0 xs1 xs2 xs3 : List SV) (h0 : WT ES.P 8 T_int64 xs0) (h1 : WT ES.P 8 T_int xs1) (h2 : WT ES.P 8 T_int xs2) (h3 : WT ES.P 8 T_int64 xs3) :
    ∃ M', ICw ES n_l12_GaugeTells [mkV ES.P T_int64 xs0, mkV ES.P T_int xs1, mkV ES.P T_int xs2, mkV ES.P T_int64 xs3] .empty = some (.bool true, M') := by
  obtain ⟨a, _, ha, _⟩ := WT_int ti_int64 h0
  obtain ⟨b, _, hb, hw⟩ := WT_int ti_int h1
  obtain ⟨c, _, hc, _⟩ := WT_int ti_int h2
  obtain ⟨d, _, hd, _⟩ := WT_int ti_int64 h3
  rw [ha, hb, hc, hd]
  exact GaugeTells_ok a (wf64 hw) c d _

end Go.Proofs.Ytibpoahdinokbaa
