/-
  Walks of the seat's functions: Gs.
-/
import Derived.Test.YtedmidpnfnhnlaaEb0
import Derived.Test.YtedmidpnfnhnlaaShMb
import Derived.Test.YtedmidpnfnhnlaaLzMb
import Derived.Test.YtedmidpnfnhnlaaLSl
set_option linter.unusedVariables false
set_option linter.unusedSimpArgs false
set_option maxRecDepth 100000
namespace Go.Proofs.Ytedmidpnfnhnlaa
open Go.Proofs.Ytedmidpnfnhnlaa.Sh
/-! gauge.Spread and the document's own. -/
def timesL (l : List Int) : Bool := l.all fun x => decide (isTime x)
def spreadG (l : List Int) : Int × Bool := if l = [] ∨ timesL l = false then (0, false) else (w64 (maxL l - minL l), true)
theorem timesL_any (l : List Int) : (l.any fun x => !decide (isTime x)) = !timesL l := by
  unfold timesL; rw [List.not_all_eq_any_not]
theorem r10_times_ok {x : SV} {l : List Int} (hx : RSl (fun y n => y = .int .i64 n) x l) (hb : l.length < 4611686018427387904) : PCw ES n_r10_times [x] = some (.bool (timesL l)) := by
  refine PCw_ex (fun M => ?_) rfl
  rw [b_r10_times]
  obtain ⟨r, h1, h2⟩ := loop_find (E := ES) (me := n_r10_times) (B := c_r10_times_B0) (len := l.length) (T := fun j => h_r10_times_0 x (.int .i64 j)) (I := fun _ _ => True) (p := fun j => (l[j]?.map fun x => !decide (isTime x)).getD false)
    (Q := fun o r => ∃ M', r = match o with
      | some j => (.ret, ⟨(h_r10_times_0 .bad .bad).set 2 (.bool false), M'⟩)
      | none => (.exit 0, ⟨(h_r10_times_0 x (.int .i64 l.length)).set 7 (.bool false), M'⟩))
    (fun j M hj _ hpj => by
      obtain ⟨y, hy, _, ha, hl⟩ := hx.item ti_sl_int64 ti_int64 Elm.int hj
      subst hy
      have hw : IntKind.i64.wrap ((j : Int) + 1) = (j : Int) + 1 := i64_in (by omega) (by omega)
      simp [hj] at hpj
      simp [c_r10_times_B0, evW_reg, evW_chkr, isCst, TK.agg, zeroS, endS, resS, h_r10_times_0, hx.lenS ti_sl_int64, hj, ha, hl, hpj, hw])
    (fun j M hj _ hpj => by
      obtain ⟨y, hy, _, ha, hl⟩ := hx.item ti_sl_int64 ti_int64 Elm.int hj
      subst hy
      simp [hj] at hpj
      simp [c_r10_times_B0, evW_reg, evW_chkr, isCst, TK.agg, zeroS, endS, resS, h_r10_times_0, hx.lenS ti_sl_int64, hj, ha, hl, hpj])
    (fun M _ => by simp [c_r10_times_B0, evW_reg, evW_chkr, isCst, TK.agg, zeroS, endS, resS, h_r10_times_0, hx.lenS ti_sl_int64]) M trivial
  have he := idxOf_any (fun x => !decide (isTime x)) l
  rw [timesL_any] at he
  unfold idxOf at he
  cases hf : (List.range l.length).find? (fun j => (l[j]?.map fun x => !decide (isTime x)).getD false) with
  | none =>
    rw [hf] at h2 he
    obtain ⟨M', rfl⟩ := h2
    have he' : timesL l = true := by simpa using he
    simp [h_r10_times_0] at h1
    simp [c_r10_times, evW_reg, evW_chkr, isCst, TK.agg, zeroS, endS, resS, hx.lenS ti_sl_int64, c_r10_times_L0, h1, he']
  | some j =>
    rw [hf] at h2 he
    obtain ⟨M', rfl⟩ := h2
    have he' : timesL l = false := by simpa using he
    simp [h_r10_times_0] at h1
    simp [c_r10_times, evW_reg, evW_chkr, isCst, TK.agg, zeroS, endS, resS, hx.lenS ti_sl_int64, c_r10_times_L0, h1, he']
theorem r10_times_c (get : Nat → Option (List SV)) {x : SV} {l : List Int} (hx : RSl (fun y n => y = .int .i64 n) x l) (hb : l.length < 4611686018427387904) : callP (PCw ES) get n_r10_times [x] = some (.bool (timesL l)) :=
  callP_of (r10_times_ok hx hb) (by simp [hx.npE (Elm.int (b := 8) (z := none))])

end Go.Proofs.Ytedmidpnfnhnlaa
