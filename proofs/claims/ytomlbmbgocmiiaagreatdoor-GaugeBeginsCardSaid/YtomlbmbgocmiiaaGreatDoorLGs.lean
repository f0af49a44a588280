/-
  Walks of the seat's functions: Gs.
-/
import Derived.Test.YtomlbmbgocmiiaaGreatDoorEbMa
import Derived.Test.YtomlbmbgocmiiaaGreatDoorShMb
import Derived.Test.YtomlbmbgocmiiaaGreatDoorLzMk
import Derived.Test.YtomlbmbgocmiiaaGreatDoorLSl
set_option linter.unusedVariables false
set_option linter.unusedSimpArgs false
set_option maxRecDepth 100000
namespace Go.Proofs.YtomlbmbgocmiiaaGreatDoor
open Go.Proofs.YtomlbmbgocmiiaaGreatDoor.Sh
/-! gauge.Spread and the document's own. -/
def timesL (l : List Int) : Bool := l.all fun x => decide (isTime x)
def spreadG (l : List Int) : Int × Bool := if l = [] ∨ timesL l = false then (0, false) else (w64 (maxL l - minL l), true)
theorem timesL_any (l : List Int) : (l.any fun x => !decide (isTime x)) = !timesL l := by
  unfold timesL; rw [List.not_all_eq_any_not]
theorem gauge_Spread_1_c (get : Nat → Option (List SV)) (x : Int) : callP (PCw ES) get n_gauge_Spread_1 [.int .i64 x] = some (.bool (!decide (isTime x))) := by
  refine callP_of (PCw_ex (fun M => ?_) rfl) rfl
  rw [b_gauge_Spread_1]
  simp [c_gauge_Spread_1, evW_reg, evW_chkr, isCst, loadS, partS, TK.agg, fieldAddrS, zeroS, storeS, setPart, splice, endS, resS, fieldS]
theorem gauge_Spread_ok {x : SV} {l : List Int} (hx : RSl (fun y n => y = .int .i64 n) x l) (hb : l.length < 4611686018427387904) : PCw ES n_gauge_Spread [x] = some (.tup [.int .i64 (spreadG l).1, .bool (spreadG l).2]) := by
  refine PCw_ex (fun M => ?_) rfl
  rw [b_gauge_Spread]
  have hc := fun get => slices_ContainsFunc_sl_int64_int64_c get Elm.int ti_int64 hx hb (f := n_gauge_Spread_1) (a := []) (c := []) (npF (by rfl)) (fun x => !decide (isTime x)) (fun get y v hy _ => by subst hy; exact gauge_Spread_1_c get v) rfl
  rw [timesL_any] at hc
  by_cases h0 : l = []
  · subst h0
    have hlen := hx.lenS ti_sl_int64
    simp at hlen
    simp [c_gauge_Spread, evW_reg, evW_chkr, isCst, TK.agg, zeroS, endS, resS, hlen, spreadG]
  · have h1 : 0 < l.length := List.length_pos_iff.2 h0
    cases ht : timesL l <;> rw [ht] at hc
    · simp [c_gauge_Spread, evW_reg, evW_chkr, isCst, TK.agg, zeroS, endS, resS, hx.lenS ti_sl_int64, h0, hc, spreadG, ht]
    · simp [c_gauge_Spread, evW_reg, evW_chkr, isCst, TK.agg, zeroS, endS, resS, hx.lenS ti_sl_int64, h0, hc, spreadG, ht, slices_Max_sl_int64_int64_c _ hx hb h1, slices_Min_sl_int64_int64_c _ hx hb h1, w64]
theorem gauge_Spread_c (get : Nat → Option (List SV)) {x : SV} {l : List Int} (hx : RSl (fun y n => y = .int .i64 n) x l) (hb : l.length < 4611686018427387904) : callP (PCw ES) get n_gauge_Spread [x] = some (.tup [.int .i64 (spreadG l).1, .bool (spreadG l).2]) :=
  callP_of (gauge_Spread_ok hx hb) (by simp [hx.npE (Elm.int (b := 8) (z := none))])

end Go.Proofs.YtomlbmbgocmiiaaGreatDoor
