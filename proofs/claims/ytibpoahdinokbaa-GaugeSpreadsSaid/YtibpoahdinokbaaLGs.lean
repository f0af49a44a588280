/-
  Walks of the seat's functions: Gs.
-/
import Derived.Test.YtibpoahdinokbaaEb1
import Derived.Test.YtibpoahdinokbaaShSv
import Derived.Test.YtibpoahdinokbaaLGg
import Derived.Test.YtibpoahdinokbaaLSl
import Derived.Test.YtibpoahdinokbaaShSt
set_option linter.unusedVariables false
set_option linter.unusedSimpArgs false
set_option maxRecDepth 100000
namespace Go.Proofs.Ytibpoahdinokbaa
open Go.Proofs.Ytibpoahdinokbaa.Sh
/-! gauge.Spread and the document's own. -/
def timesL (l : List Int) : Bool := l.all fun x => decide (isTime x)
def spreadG (l : List Int) : Int × Bool := if l = [] ∨ timesL l = false then (0, false) else (w64 (maxL l - minL l), true)
theorem timesL_any (l : List Int) : (l.any fun x => !decide (isTime x)) = !timesL l := by
  unfold timesL; rw [List.not_all_eq_any_not]
theorem gauge_Spread_1_c (get : Nat → Option (List SV)) (x : Int) : callP (PCw ES) get n_gauge_Spread_1 [.int .i64 x] = some (.bool (!decide (isTime x))) := by
  refine callP_of (PCw_ex (fun M => ?_) rfl) rfl
  rw [b_gauge_Spread_1]
  simp [c_gauge_Spread_1, evW_reg, loadS, partS, TK.agg, SV.cells, SV.sto, fieldAddrS, zeroS, storeS, setPart, splice, endS, resS, fieldS]
theorem gauge_Spread_ok {x : SV} {l : List Int} (hx : RSl (fun y n => y = .int .i64 n) x l) (hb : l.length < 4611686018427387904) : PCw ES n_gauge_Spread [x] = some (.tup [.int .i64 (spreadG l).1, .bool (spreadG l).2]) := by
  refine PCw_ex (fun M => ?_) rfl
  rw [b_gauge_Spread]
  have hc := fun get => slices_ContainsFunc_sl_int64_int64_c get Elm.int ti_int64 hx hb (f := n_gauge_Spread_1) (a := []) (c := []) (fun _ => rfl) (fun x => !decide (isTime x)) (fun get y v hy _ => by subst hy; exact gauge_Spread_1_c get v) rfl
  rw [timesL_any] at hc
  by_cases h0 : l = []
  · subst h0
    have hlen := hx.lenS ti_sl_int64
    simp at hlen
    simp [c_gauge_Spread, evW_reg, TK.agg, SV.cells, SV.sto, zeroS, endS, resS, hlen, spreadG]
  · have h1 : 0 < l.length := List.length_pos_iff.2 h0
    cases ht : timesL l <;> rw [ht] at hc
    · simp [c_gauge_Spread, evW_reg, TK.agg, SV.cells, SV.sto, zeroS, endS, resS, hx.lenS ti_sl_int64, h0, hc, spreadG, ht]
    · simp [c_gauge_Spread, evW_reg, TK.agg, SV.cells, SV.sto, zeroS, endS, resS, hx.lenS ti_sl_int64, h0, hc, spreadG, ht, slices_Max_sl_int64_int64_c _ hx hb h1, slices_Min_sl_int64_int64_c _ hx hb h1, w64]
theorem gauge_Spread_c (get : Nat → Option (List SV)) {x : SV} {l : List Int} (hx : RSl (fun y n => y = .int .i64 n) x l) (hb : l.length < 4611686018427387904) : callP (PCw ES) get n_gauge_Spread [x] = some (.tup [.int .i64 (spreadG l).1, .bool (spreadG l).2]) :=
  callP_of (gauge_Spread_ok hx hb) (by simp [hx.npE (Elm.int (b := 8) (z := none))])
theorem r10_times_ok {x : SV} {l : List Int} (hx : RSl (fun y n => y = .int .i64 n) x l) (hb : l.length < 4611686018427387904) : PCw ES n_r10_times [x] = some (.bool (timesL l)) := by
  refine PCw_ex (fun M => ?_) rfl
  rw [b_r10_times]
  obtain ⟨r, h1, h2⟩ := loop_find (E := ES) (me := n_r10_times) (B := c_r10_times_B0) (len := l.length) (T := fun j => h_r10_times_0 x (.int .i64 j)) (I := fun _ _ => True) (p := fun j => (l[j]?.map fun x => !decide (isTime x)).getD false)
    (Q := fun o r => ∃ M', r = match o with
      | some j => (.ret, ⟨(h_r10_times_0 .bad .bad).set 2 (.bool false), M'⟩)
      | none => (.exit 0, ⟨(h_r10_times_0 x (.int .i64 l.length)).set 7 (.bool false), M'⟩))
    (fun j M hj _ hpj => by
      obtain ⟨y, hy, _, ha, hl⟩ := hx.item ti_sl_int64 ti_int64 Elm.int hj
      subst hy
      have hw : IntKind.i64.wrap ((j : Int) + 1) = (j : Int) + 1 := i64_in (by omega) (by omega)
      simp [hj] at hpj
      simp [c_r10_times_B0, evW_reg, TK.agg, SV.cells, SV.sto, zeroS, endS, resS, h_r10_times_0, hx.lenS ti_sl_int64, hj, ha, hl, hpj, hw])
    (fun j M hj _ hpj => by
      obtain ⟨y, hy, _, ha, hl⟩ := hx.item ti_sl_int64 ti_int64 Elm.int hj
      subst hy
      simp [hj] at hpj
      simp [c_r10_times_B0, evW_reg, TK.agg, SV.cells, SV.sto, zeroS, endS, resS, h_r10_times_0, hx.lenS ti_sl_int64, hj, ha, hl, hpj])
    (fun M _ => by simp [c_r10_times_B0, evW_reg, TK.agg, SV.cells, SV.sto, zeroS, endS, resS, h_r10_times_0, hx.lenS ti_sl_int64]) M trivial
  have he := idxOf_any (fun x => !decide (isTime x)) l
  rw [timesL_any] at he
  unfold idxOf at he
  cases hf : (List.range l.length).find? (fun j => (l[j]?.map fun x => !decide (isTime x)).getD false) with
  | none =>
    rw [hf] at h2 he
    obtain ⟨M', rfl⟩ := h2
    have he' : timesL l = true := by simpa using he
    simp [h_r10_times_0] at h1
    simp [c_r10_times, evW_reg, TK.agg, SV.cells, SV.sto, zeroS, endS, resS, hx.lenS ti_sl_int64, c_r10_times_L0, h1, he']
  | some j =>
    rw [hf] at h2 he
    obtain ⟨M', rfl⟩ := h2
    have he' : timesL l = false := by simpa using he
    simp [h_r10_times_0] at h1
    simp [c_r10_times, evW_reg, TK.agg, SV.cells, SV.sto, zeroS, endS, resS, hx.lenS ti_sl_int64, c_r10_times_L0, h1, he']
theorem r10_times_c (get : Nat → Option (List SV)) {x : SV} {l : List Int} (hx : RSl (fun y n => y = .int .i64 n) x l) (hb : l.length < 4611686018427387904) : callP (PCw ES) get n_r10_times [x] = some (.bool (timesL l)) :=
  callP_of (r10_times_ok hx hb) (by simp [hx.npE (Elm.int (b := 8) (z := none))])
theorem r10_Spread_ok {x : SV} {l : List Int} (hx : RSl (fun y n => y = .int .i64 n) x l) (hb : l.length < 4611686018427387904) : PCw ES n_r10_Spread [x] = some (.tup [.int .i64 (spreadG l).1, .bool (spreadG l).2]) := by
  refine PCw_ex (fun M => ?_) rfl
  rw [b_r10_Spread]
  have hc := fun get => r10_times_c get hx hb
  by_cases h0 : l = []
  · subst h0
    have hlen := hx.lenS ti_sl_int64
    simp at hlen
    simp [c_r10_Spread, evW_reg, TK.agg, SV.cells, SV.sto, zeroS, endS, resS, hlen, spreadG]
  · have h1 : 0 < l.length := List.length_pos_iff.2 h0
    cases ht : timesL l <;> rw [ht] at hc
    · simp [c_r10_Spread, evW_reg, TK.agg, SV.cells, SV.sto, zeroS, endS, resS, hx.lenS ti_sl_int64, h0, hc, spreadG, ht]
    have e0 : l.headD 0 = l[0] := by cases l with | nil => simp at h1 | cons a r => rfl
    obtain ⟨y0, hy0, _, ha0, hl0⟩ := hx.item ti_sl_int64 ti_int64 Elm.int h1
    subst hy0
    obtain ⟨r, h2, M', rfl⟩ := loop_up (E := ES) (me := n_r10_Spread) (B := c_r10_Spread_B0) (len := l.length) (T := fun j => h_r10_Spread_0 x (.int .i64 ((l.take j).foldl min (l.headD 0))) (.int .i64 ((l.take j).foldl max (l.headD 0))) (.int .i64 j))
      (I := fun _ _ => True) (Q := fun r => ∃ M', r = (.exit 0, ⟨(h_r10_Spread_0 x (.int .i64 (minL l)) (.int .i64 (maxL l)) (.int .i64 l.length)).set 24 (.bool false), M'⟩))
      (fun j M hj _ => by
        left
        obtain ⟨y, hy, _, ha, hl⟩ := hx.item ti_sl_int64 ti_int64 Elm.int hj
        subst hy
        have hw : IntKind.i64.wrap ((j : Int) + 1) = (j : Int) + 1 := i64_in (by omega) (by omega)
        simp [c_r10_Spread_B0, evW_reg, TK.agg, SV.cells, SV.sto, zeroS, endS, resS, h_r10_Spread_0, hx.lenS ti_sl_int64, hj, ha, hl, hw, foldl_take hj])
      (fun M _ => by simp [c_r10_Spread_B0, evW_reg, TK.agg, SV.cells, SV.sto, zeroS, endS, resS, h_r10_Spread_0, hx.lenS ti_sl_int64, minL, maxL]) 0 M (by omega) trivial
    simp only [List.take_zero, List.foldl_nil, e0] at h2
    simp [h_r10_Spread_0] at h2
    simp at ha0
    simp [c_r10_Spread, evW_reg, TK.agg, SV.cells, SV.sto, zeroS, endS, resS, hx.lenS ti_sl_int64, h0, hc, spreadG, ht, ha0, hl0, c_r10_Spread_L0, h2, w64]
theorem r10_Spread_c (get : Nat → Option (List SV)) {x : SV} {l : List Int} (hx : RSl (fun y n => y = .int .i64 n) x l) (hb : l.length < 4611686018427387904) : callP (PCw ES) get n_r10_Spread [x] = some (.tup [.int .i64 (spreadG l).1, .bool (spreadG l).2]) :=
  callP_of (r10_Spread_ok hx hb) (by simp [hx.npE (Elm.int (b := 8) (z := none))])
theorem GaugeSpreads_ok {x : SV} {l : List Int} (hx : RSl (fun y n => y = .int .i64 n) x l) (hb : l.length < 4611686018427387904) (M : Mem) : ∃ M', ICw ES n_l12_GaugeSpreads [x] M = some (.bool true, M') := by
  rw [b_l12_GaugeSpreads]
  by_cases h : l.length ≤ 100
  · have h' : ¬ (100 < (l.length : Int)) := by omega
    simp [c_l12_GaugeSpreads, evW_reg, TK.agg, SV.cells, SV.sto, zeroS, endS, resS, hx.lenS ti_sl_int64, h', gauge_Spread_c _ hx hb, r10_Spread_c _ hx hb, binS_eqlB ti_bool]
  · have h' : (100 < (l.length : Int)) := by omega
    simp [c_l12_GaugeSpreads, evW_reg, TK.agg, SV.cells, SV.sto, zeroS, endS, resS, hx.lenS ti_sl_int64, h']
/-- A slice of whole numbers that came in. -/
theorem longs_of {n : Nat} {xs : List SV} (h : WT ES.P (n + 2) T_sl_int64 xs) : ∃ l : List Int, RSl (fun y n => y = .int .i64 n) (mkV ES.P T_sl_int64 xs) l ∧ l.length < 4611686018427387904 ∧ ∀ v ∈ l, I64 v := by
  rcases WT_slice ti_sl_int64 ti_int64 h with ⟨_, h⟩ | ⟨items, _, h, hl, hi⟩
  · rw [h]; exact ⟨[], RSl.nil _, by simp, by simp⟩
  · rw [h]
    obtain ⟨l, hl2⟩ := RSl.exists (R := fun y (n : Int) => y = .int .i64 n ∧ I64 n) (tl := .ro) (items := items) fun y hy => by
      obtain ⟨ys, rfl, hw⟩ := hi y hy
      obtain ⟨v, _, h2, hw⟩ := WT_int ti_int64 hw
      exact ⟨v, h2, wf64 hw⟩
    refine ⟨l, ⟨hl2.sl, hl2.len, fun j y a hy ha => (hl2.at' j y a hy ha).1⟩, ?_, fun v hv => ?_⟩
    · have := hl2.len
      simp [its] at this
      simp at hl
      omega
    · obtain ⟨j, hj, rfl⟩ := List.mem_iff_getElem.1 hv
      obtain ⟨y, hy, hr⟩ := hl2.get hj
      exact hr.2
theorem GaugeSpreads_walk (xs0 : List SV) (h0 : WT ES.P 8 T_sl_int64 xs0) : ∃ M', ICw ES n_l12_GaugeSpreads [mkV ES.P T_sl_int64 xs0] .empty = some (.bool true, M') := by
  obtain ⟨l, hl, hb, _⟩ := longs_of h0
  exact GaugeSpreads_ok hl hb _

end Go.Proofs.Ytibpoahdinokbaa
