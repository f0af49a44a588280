/-
  Walks of the seat's functions: Sl.
-/
import Derived.Test.YtomlbmbgocmiiaaDoorEb0
import Derived.Test.YtomlbmbgocmiiaaDoorShMb
set_option linter.unusedVariables false
set_option linter.unusedSimpArgs false
set_option maxRecDepth 100000
namespace Go.Proofs.YtomlbmbgocmiiaaDoor
open Go.Proofs.YtomlbmbgocmiiaaDoor.Sh
/-! What the library's functions on slices do. -/

def idxOf {α : Type} (p : α → Bool) (l : List α) : Int := match (List.range l.length).find? (fun j => (l[j]?.map p).getD false) with
  | some i => (i : Int)
  | none => -1

theorem idxOf_neg {α : Type} {p : α → Bool} {l : List α} : (idxOf p l = -1 ∧ ∀ a ∈ l, p a = false) ∨ ∃ i, ∃ h : i < l.length, idxOf p l = i ∧ p l[i] = true ∧ ∀ j (hj : j < i), p (l[j]'(by omega)) = false := by
  unfold idxOf
  cases h : (List.range l.length).find? (fun j => (l[j]?.map p).getD false) with
  | none =>
    left
    rw [List.find?_range_eq_none] at h
    refine ⟨rfl, fun a ha => ?_⟩
    obtain ⟨j, hj, rfl⟩ := List.mem_iff_getElem.1 ha
    have := h j hj
    simpa [hj] using this
  | some i =>
    right
    rw [List.find?_range_eq_some] at h
    obtain ⟨h1, h2, h3⟩ := h
    have hi : i < l.length := by simpa using h2
    refine ⟨i, hi, rfl, by simpa [hi] using h1, fun j hj => ?_⟩
    have := h3 j hj
    have hj' : j < l.length := by omega
    simpa [hj'] using this

theorem idxOf_any {α : Type} (p : α → Bool) (l : List α) : decide (0 ≤ idxOf p l) = l.any p := by
  rcases idxOf_neg (p := p) (l := l) with ⟨h1, h2⟩ | ⟨i, hi, h1, h2, h3⟩
  · rw [h1, List.any_eq_false.2 (fun a ha => by simp [h2 a ha])]; rfl
  · rw [h1, List.any_eq_true.2 ⟨l[i], List.getElem_mem hi, h2⟩]; simp
theorem slices_IndexFunc_sl_int64_int64_ok {α : Type} {R : SV → α → Prop} {te : TI} (hE : Elm R te) (hte : tiOf ES.P T_int64 = some te) {x : SV} {l : List α} (hx : RSl R x l) (hb : l.length < 4611686018427387904) {f : Nat} {a c : List SV}
    (hnp : ∀ me, ((ES.prim f).isSome || ES.imp me f) = false) (p : α → Bool) (hp : ∀ get y v, R y v → v ∈ l → callP (PCw ES) get f (a ++ y :: c) = some (.bool (p v))) :
    PCw ES n_slices_IndexFunc_sl_int64_int64 [x, .fn f a c] = some (.int .i64 (idxOf p l)) := by
  refine PCw_ex (fun M => ?_) rfl
  rw [b_slices_IndexFunc_sl_int64_int64]
  obtain ⟨r, h1, M', h2⟩ := loop_find (E := ES) (me := n_slices_IndexFunc_sl_int64_int64) (B := c_slices_IndexFunc_sl_int64_int64_B0) (len := l.length) (T := fun j => h_slices_IndexFunc_sl_int64_int64_0 x (.fn f a c) (.int .i64 l.length) (.int .i64 j))
    (I := fun _ _ => True) (p := fun j => (l[j]?.map p).getD false)
    (Q := fun o r => ∃ M', r = match o with
      | some j => (.ret, ⟨(h_slices_IndexFunc_sl_int64_int64_0 .bad .bad .bad .bad).set 4 (.int .i64 j), M'⟩)
      | none => (.exit 0, ⟨(h_slices_IndexFunc_sl_int64_int64_0 x (.fn f a c) (.int .i64 l.length) (.int .i64 l.length)).set 9 (.bool false), M'⟩))
    (fun j M hj _ hpj => by
      obtain ⟨y, hy, _, ha, hl⟩ := hx.item ti_sl_int64 hte hE hj
      have hw : IntKind.i64.wrap ((j : Int) + 1) = (j : Int) + 1 := i64_in (by omega) (by omega)
      have hc := fun get => hp get y _ hy (List.getElem_mem hj)
      simp [hj] at hpj
      rw [hpj] at hc
      simp [c_slices_IndexFunc_sl_int64_int64_B0, evW_reg, evW_chkr, isCst, TK.agg, zeroS, endS, resS, h_slices_IndexFunc_sl_int64_int64_0, hj, ha, hl, callT_fn (hnp _), hc, hw])
    (fun j M hj _ hpj => by
      obtain ⟨y, hy, _, ha, hl⟩ := hx.item ti_sl_int64 hte hE hj
      have hc := fun get => hp get y _ hy (List.getElem_mem hj)
      simp [hj] at hpj
      rw [hpj] at hc
      simp [c_slices_IndexFunc_sl_int64_int64_B0, evW_reg, evW_chkr, isCst, TK.agg, zeroS, endS, resS, h_slices_IndexFunc_sl_int64_int64_0, hj, ha, hl, callT_fn (hnp _), hc])
    (fun M _ => by simp [c_slices_IndexFunc_sl_int64_int64_B0, evW_reg, evW_chkr, isCst, TK.agg, zeroS, endS, resS, h_slices_IndexFunc_sl_int64_int64_0]) M trivial
  unfold idxOf
  cases hf : (List.range l.length).find? (fun j => (l[j]?.map p).getD false) with
  | none =>
    rw [hf] at h2
    subst h2
    simp [h_slices_IndexFunc_sl_int64_int64_0] at h1
    simp [c_slices_IndexFunc_sl_int64_int64, evW_reg, evW_chkr, isCst, TK.agg, zeroS, endS, resS, hx.lenS ti_sl_int64, c_slices_IndexFunc_sl_int64_int64_L0, h1]
  | some j =>
    rw [hf] at h2
    subst h2
    simp [h_slices_IndexFunc_sl_int64_int64_0] at h1
    simp [c_slices_IndexFunc_sl_int64_int64, evW_reg, evW_chkr, isCst, TK.agg, zeroS, endS, resS, hx.lenS ti_sl_int64, c_slices_IndexFunc_sl_int64_int64_L0, h1]
theorem slices_IndexFunc_sl_int64_int64_c (get : Nat → Option (List SV)) {α : Type} {R : SV → α → Prop} {te : TI} (hE : Elm R te) (hte : tiOf ES.P T_int64 = some te) {x : SV} {l : List α} (hx : RSl R x l) (hb : l.length < 4611686018427387904) {f : Nat} {a c : List SV}
    (hnp : ∀ me, ((ES.prim f).isSome || ES.imp me f) = false) (p : α → Bool) (hp : ∀ get y v, R y v → v ∈ l → callP (PCw ES) get f (a ++ y :: c) = some (.bool (p v))) (hn : np picDepth (.fn f a c) = true) :
    callP (PCw ES) get n_slices_IndexFunc_sl_int64_int64 [x, .fn f a c] = some (.int .i64 (idxOf p l)) := callP_of (slices_IndexFunc_sl_int64_int64_ok hE hte hx hb hnp p hp) (by simp [hx.npE hE, hn])
theorem slices_IndexFunc_sl_api_Link_api_Link_ok {α : Type} {R : SV → α → Prop} {te : TI} (hE : Elm R te) (hte : tiOf ES.P T_api_Link = some te) {x : SV} {l : List α} (hx : RSl R x l) (hb : l.length < 4611686018427387904) {f : Nat} {a c : List SV}
    (hnp : ∀ me, ((ES.prim f).isSome || ES.imp me f) = false) (p : α → Bool) (hp : ∀ get y v, R y v → v ∈ l → callP (PCw ES) get f (a ++ y :: c) = some (.bool (p v))) :
    PCw ES n_slices_IndexFunc_sl_api_Link_api_Link [x, .fn f a c] = some (.int .i64 (idxOf p l)) := by
  refine PCw_ex (fun M => ?_) rfl
  rw [b_slices_IndexFunc_sl_api_Link_api_Link]
  obtain ⟨r, h1, M', h2⟩ := loop_find (E := ES) (me := n_slices_IndexFunc_sl_api_Link_api_Link) (B := c_slices_IndexFunc_sl_api_Link_api_Link_B0) (len := l.length) (T := fun j => h_slices_IndexFunc_sl_api_Link_api_Link_0 x (.fn f a c) (.int .i64 l.length) (.int .i64 j))
    (I := fun _ _ => True) (p := fun j => (l[j]?.map p).getD false)
    (Q := fun o r => ∃ M', r = match o with
      | some j => (.ret, ⟨(h_slices_IndexFunc_sl_api_Link_api_Link_0 .bad .bad .bad .bad).set 4 (.int .i64 j), M'⟩)
      | none => (.exit 0, ⟨(h_slices_IndexFunc_sl_api_Link_api_Link_0 x (.fn f a c) (.int .i64 l.length) (.int .i64 l.length)).set 9 (.bool false), M'⟩))
    (fun j M hj _ hpj => by
      obtain ⟨y, hy, _, ha, hl⟩ := hx.item ti_sl_api_Link hte hE hj
      have hw : IntKind.i64.wrap ((j : Int) + 1) = (j : Int) + 1 := i64_in (by omega) (by omega)
      have hc := fun get => hp get y _ hy (List.getElem_mem hj)
      simp [hj] at hpj
      rw [hpj] at hc
      simp [c_slices_IndexFunc_sl_api_Link_api_Link_B0, evW_reg, evW_chkr, isCst, TK.agg, zeroS, endS, resS, h_slices_IndexFunc_sl_api_Link_api_Link_0, hj, ha, hl, callT_fn (hnp _), hc, hw])
    (fun j M hj _ hpj => by
      obtain ⟨y, hy, _, ha, hl⟩ := hx.item ti_sl_api_Link hte hE hj
      have hc := fun get => hp get y _ hy (List.getElem_mem hj)
      simp [hj] at hpj
      rw [hpj] at hc
      simp [c_slices_IndexFunc_sl_api_Link_api_Link_B0, evW_reg, evW_chkr, isCst, TK.agg, zeroS, endS, resS, h_slices_IndexFunc_sl_api_Link_api_Link_0, hj, ha, hl, callT_fn (hnp _), hc])
    (fun M _ => by simp [c_slices_IndexFunc_sl_api_Link_api_Link_B0, evW_reg, evW_chkr, isCst, TK.agg, zeroS, endS, resS, h_slices_IndexFunc_sl_api_Link_api_Link_0]) M trivial
  unfold idxOf
  cases hf : (List.range l.length).find? (fun j => (l[j]?.map p).getD false) with
  | none =>
    rw [hf] at h2
    subst h2
    simp [h_slices_IndexFunc_sl_api_Link_api_Link_0] at h1
    simp [c_slices_IndexFunc_sl_api_Link_api_Link, evW_reg, evW_chkr, isCst, TK.agg, zeroS, endS, resS, hx.lenS ti_sl_api_Link, c_slices_IndexFunc_sl_api_Link_api_Link_L0, h1]
  | some j =>
    rw [hf] at h2
    subst h2
    simp [h_slices_IndexFunc_sl_api_Link_api_Link_0] at h1
    simp [c_slices_IndexFunc_sl_api_Link_api_Link, evW_reg, evW_chkr, isCst, TK.agg, zeroS, endS, resS, hx.lenS ti_sl_api_Link, c_slices_IndexFunc_sl_api_Link_api_Link_L0, h1]
theorem slices_IndexFunc_sl_api_Link_api_Link_c (get : Nat → Option (List SV)) {α : Type} {R : SV → α → Prop} {te : TI} (hE : Elm R te) (hte : tiOf ES.P T_api_Link = some te) {x : SV} {l : List α} (hx : RSl R x l) (hb : l.length < 4611686018427387904) {f : Nat} {a c : List SV}
    (hnp : ∀ me, ((ES.prim f).isSome || ES.imp me f) = false) (p : α → Bool) (hp : ∀ get y v, R y v → v ∈ l → callP (PCw ES) get f (a ++ y :: c) = some (.bool (p v))) (hn : np picDepth (.fn f a c) = true) :
    callP (PCw ES) get n_slices_IndexFunc_sl_api_Link_api_Link [x, .fn f a c] = some (.int .i64 (idxOf p l)) := callP_of (slices_IndexFunc_sl_api_Link_api_Link_ok hE hte hx hb hnp p hp) (by simp [hx.npE hE, hn])
theorem slices_ContainsFunc_sl_int64_int64_ok {α : Type} {R : SV → α → Prop} {te : TI} (hE : Elm R te) (hte : tiOf ES.P T_int64 = some te) {x : SV} {l : List α} (hx : RSl R x l) (hb : l.length < 4611686018427387904) {f : Nat} {a c : List SV}
    (hnp : ∀ me, ((ES.prim f).isSome || ES.imp me f) = false) (p : α → Bool) (hp : ∀ get y v, R y v → v ∈ l → callP (PCw ES) get f (a ++ y :: c) = some (.bool (p v))) (hn : np picDepth (.fn f a c) = true) :
    PCw ES n_slices_ContainsFunc_sl_int64_int64 [x, .fn f a c] = some (.bool (l.any p)) := by
  refine PCw_ex (fun M => ?_) rfl
  rw [b_slices_ContainsFunc_sl_int64_int64]
  simp [c_slices_ContainsFunc_sl_int64_int64, evW_reg, evW_chkr, isCst, TK.agg, zeroS, endS, resS, slices_IndexFunc_sl_int64_int64_c _ hE hte hx hb hnp p hp hn, idxOf_any]
theorem slices_ContainsFunc_sl_int64_int64_c (get : Nat → Option (List SV)) {α : Type} {R : SV → α → Prop} {te : TI} (hE : Elm R te) (hte : tiOf ES.P T_int64 = some te) {x : SV} {l : List α} (hx : RSl R x l) (hb : l.length < 4611686018427387904) {f : Nat} {a c : List SV}
    (hnp : ∀ me, ((ES.prim f).isSome || ES.imp me f) = false) (p : α → Bool) (hp : ∀ get y v, R y v → v ∈ l → callP (PCw ES) get f (a ++ y :: c) = some (.bool (p v))) (hn : np picDepth (.fn f a c) = true) :
    callP (PCw ES) get n_slices_ContainsFunc_sl_int64_int64 [x, .fn f a c] = some (.bool (l.any p)) := callP_of (slices_ContainsFunc_sl_int64_int64_ok hE hte hx hb hnp p hp hn) (by simp [hx.npE hE, hn])
theorem slices_ContainsFunc_sl_api_Link_api_Link_ok {α : Type} {R : SV → α → Prop} {te : TI} (hE : Elm R te) (hte : tiOf ES.P T_api_Link = some te) {x : SV} {l : List α} (hx : RSl R x l) (hb : l.length < 4611686018427387904) {f : Nat} {a c : List SV}
    (hnp : ∀ me, ((ES.prim f).isSome || ES.imp me f) = false) (p : α → Bool) (hp : ∀ get y v, R y v → v ∈ l → callP (PCw ES) get f (a ++ y :: c) = some (.bool (p v))) (hn : np picDepth (.fn f a c) = true) :
    PCw ES n_slices_ContainsFunc_sl_api_Link_api_Link [x, .fn f a c] = some (.bool (l.any p)) := by
  refine PCw_ex (fun M => ?_) rfl
  rw [b_slices_ContainsFunc_sl_api_Link_api_Link]
  simp [c_slices_ContainsFunc_sl_api_Link_api_Link, evW_reg, evW_chkr, isCst, TK.agg, zeroS, endS, resS, slices_IndexFunc_sl_api_Link_api_Link_c _ hE hte hx hb hnp p hp hn, idxOf_any]
theorem slices_ContainsFunc_sl_api_Link_api_Link_c (get : Nat → Option (List SV)) {α : Type} {R : SV → α → Prop} {te : TI} (hE : Elm R te) (hte : tiOf ES.P T_api_Link = some te) {x : SV} {l : List α} (hx : RSl R x l) (hb : l.length < 4611686018427387904) {f : Nat} {a c : List SV}
    (hnp : ∀ me, ((ES.prim f).isSome || ES.imp me f) = false) (p : α → Bool) (hp : ∀ get y v, R y v → v ∈ l → callP (PCw ES) get f (a ++ y :: c) = some (.bool (p v))) (hn : np picDepth (.fn f a c) = true) :
    callP (PCw ES) get n_slices_ContainsFunc_sl_api_Link_api_Link [x, .fn f a c] = some (.bool (l.any p)) := callP_of (slices_ContainsFunc_sl_api_Link_api_Link_ok hE hte hx hb hnp p hp hn) (by simp [hx.npE hE, hn])
/-- The greatest, the least. -/
def maxL (l : List Int) : Int := l.foldl max (l.headD 0)
def minL (l : List Int) : Int := l.foldl min (l.headD 0)
theorem slices_Max_sl_int64_int64_ok {x : SV} {l : List Int} (hx : RSl (fun y n => y = .int .i64 n) x l) (hb : l.length < 4611686018427387904) (h0 : 0 < l.length) : PCw ES n_slices_Max_sl_int64_int64 [x] = some (.int .i64 (maxL l)) := by
  refine PCw_ex (fun M => ?_) rfl
  rw [b_slices_Max_sl_int64_int64]
  have e0 : l.headD 0 = l[0] := by cases l with | nil => simp at h0 | cons a r => rfl
  obtain ⟨y0, hy0, _, ha0, hl0⟩ := hx.item ti_sl_int64 ti_int64 Elm.int h0
  subst hy0
  obtain ⟨r, h1, M', rfl⟩ := loop_up (E := ES) (me := n_slices_Max_sl_int64_int64) (B := c_slices_Max_sl_int64_int64_B0) (len := l.length) (T := fun j => h_slices_Max_sl_int64_int64_0 x (.int .i64 ((l.take j).foldl max (l.headD 0))) (.int .i64 j))
    (I := fun _ _ => True) (Q := fun r => ∃ M', r = (.exit 0, ⟨(h_slices_Max_sl_int64_int64_0 x (.int .i64 (maxL l)) (.int .i64 l.length)).set 15 (.bool false), M'⟩))
    (fun j M hj _ => by
      left
      obtain ⟨y, hy, _, ha, hl⟩ := hx.item ti_sl_int64 ti_int64 Elm.int hj
      subst hy
      have hw : IntKind.i64.wrap ((j : Int) + 1) = (j : Int) + 1 := i64_in (by omega) (by omega)
      simp [c_slices_Max_sl_int64_int64_B0, evW_reg, evW_chkr, isCst, TK.agg, zeroS, endS, resS, h_slices_Max_sl_int64_int64_0, hx.lenS ti_sl_int64, hj, ha, hl, hw, foldl_take hj])
    (fun M _ => by simp [c_slices_Max_sl_int64_int64_B0, evW_reg, evW_chkr, isCst, TK.agg, zeroS, endS, resS, h_slices_Max_sl_int64_int64_0, hx.lenS ti_sl_int64, maxL]) 1 M (by omega) trivial
  have e1 : (l.take 1).foldl max (l.headD 0) = l[0] := by rw [show (1 : Nat) = 0 + 1 from rfl, foldl_take h0, e0]; simp
  simp only [e1] at h1
  simp [h_slices_Max_sl_int64_int64_0] at h1
  have h2 : ¬ ((l.length : Int) < 1) := by omega
  have h3 : l ≠ [] := fun h => by simp [h] at h0
  have ha0' := ha0
  simp at ha0'
  simp [c_slices_Max_sl_int64_int64, evW_reg, evW_chkr, isCst, TK.agg, zeroS, endS, resS, hx.lenS ti_sl_int64, h2, h3, ha0', hl0, c_slices_Max_sl_int64_int64_L0, h1]
theorem slices_Max_sl_int64_int64_c (get : Nat → Option (List SV)) {x : SV} {l : List Int} (hx : RSl (fun y n => y = .int .i64 n) x l) (hb : l.length < 4611686018427387904) (h0 : 0 < l.length) : callP (PCw ES) get n_slices_Max_sl_int64_int64 [x] = some (.int .i64 (maxL l)) :=
  callP_of (slices_Max_sl_int64_int64_ok hx hb h0) (by simp [hx.npE (Elm.int (b := 8) (z := none))])
theorem slices_Min_sl_int64_int64_ok {x : SV} {l : List Int} (hx : RSl (fun y n => y = .int .i64 n) x l) (hb : l.length < 4611686018427387904) (h0 : 0 < l.length) : PCw ES n_slices_Min_sl_int64_int64 [x] = some (.int .i64 (minL l)) := by
  refine PCw_ex (fun M => ?_) rfl
  rw [b_slices_Min_sl_int64_int64]
  have e0 : l.headD 0 = l[0] := by cases l with | nil => simp at h0 | cons a r => rfl
  obtain ⟨y0, hy0, _, ha0, hl0⟩ := hx.item ti_sl_int64 ti_int64 Elm.int h0
  subst hy0
  obtain ⟨r, h1, M', rfl⟩ := loop_up (E := ES) (me := n_slices_Min_sl_int64_int64) (B := c_slices_Min_sl_int64_int64_B0) (len := l.length) (T := fun j => h_slices_Min_sl_int64_int64_0 x (.int .i64 ((l.take j).foldl min (l.headD 0))) (.int .i64 j))
    (I := fun _ _ => True) (Q := fun r => ∃ M', r = (.exit 0, ⟨(h_slices_Min_sl_int64_int64_0 x (.int .i64 (minL l)) (.int .i64 l.length)).set 15 (.bool false), M'⟩))
    (fun j M hj _ => by
      left
      obtain ⟨y, hy, _, ha, hl⟩ := hx.item ti_sl_int64 ti_int64 Elm.int hj
      subst hy
      have hw : IntKind.i64.wrap ((j : Int) + 1) = (j : Int) + 1 := i64_in (by omega) (by omega)
      simp [c_slices_Min_sl_int64_int64_B0, evW_reg, evW_chkr, isCst, TK.agg, zeroS, endS, resS, h_slices_Min_sl_int64_int64_0, hx.lenS ti_sl_int64, hj, ha, hl, hw, foldl_take hj])
    (fun M _ => by simp [c_slices_Min_sl_int64_int64_B0, evW_reg, evW_chkr, isCst, TK.agg, zeroS, endS, resS, h_slices_Min_sl_int64_int64_0, hx.lenS ti_sl_int64, minL]) 1 M (by omega) trivial
  have e1 : (l.take 1).foldl min (l.headD 0) = l[0] := by rw [show (1 : Nat) = 0 + 1 from rfl, foldl_take h0, e0]; simp
  simp only [e1] at h1
  simp [h_slices_Min_sl_int64_int64_0] at h1
  have h2 : ¬ ((l.length : Int) < 1) := by omega
  have h3 : l ≠ [] := fun h => by simp [h] at h0
  have ha0' := ha0
  simp at ha0'
  simp [c_slices_Min_sl_int64_int64, evW_reg, evW_chkr, isCst, TK.agg, zeroS, endS, resS, hx.lenS ti_sl_int64, h2, h3, ha0', hl0, c_slices_Min_sl_int64_int64_L0, h1]
theorem slices_Min_sl_int64_int64_c (get : Nat → Option (List SV)) {x : SV} {l : List Int} (hx : RSl (fun y n => y = .int .i64 n) x l) (hb : l.length < 4611686018427387904) (h0 : 0 < l.length) : callP (PCw ES) get n_slices_Min_sl_int64_int64 [x] = some (.int .i64 (minL l)) :=
  callP_of (slices_Min_sl_int64_int64_ok hx hb h0) (by simp [hx.npE (Elm.int (b := 8) (z := none))])

end Go.Proofs.YtomlbmbgocmiiaaDoor

/-
  Walks of the seat's functions: Cf.
-/
set_option linter.unusedVariables false
set_option linter.unusedSimpArgs false
set_option maxRecDepth 100000
namespace Go.Proofs.YtomlbmbgocmiiaaDoor
open Go.Proofs.YtomlbmbgocmiiaaDoor.Sh
/-! A network's parts and links. -/
structure Part where
  nodes : Int
  faults : Int
  deriving DecidableEq, Inhabited
structure Link where
  a : Int
  b : Int
  pa0 : Int
  pa1 : Int
  pb0 : Int
  pb1 : Int
  deriving DecidableEq, Inhabited
structure Cfg where
  parts : List Part
  links : List Link
  cycle : Int
  lead : Int
  slot : Int
  window : Int
  drift : Int
  rate : Int
  ages : Int
  lost : Int
  listen : Int
  span : Int
  room : Int
  deriving DecidableEq, Inhabited
structure Port where
  node : Int
  link : Int
  gate : Int
  side : Int
  deriving DecidableEq, Inhabited
def encPart (p : Part) : SV := .agg [.int .i64 p.nodes, .int .i64 p.faults]
def encLink (l : Link) : SV := .agg [.int .i64 l.a, .int .i64 l.b, .int .i64 l.pa0, .int .i64 l.pa1, .int .i64 l.pb0, .int .i64 l.pb1]
def encPort (p : Port) : SV := .agg [.int .i64 p.node, .int .i64 p.link, .int .i64 p.gate, .int .i64 p.side]
def cfgC (c : Cfg) (p l : SV) : List SV := [p, l, .int .i64 c.cycle, .int .i64 c.lead, .int .i64 c.slot, .int .i64 c.window, .int .i64 c.drift, .int .i64 c.rate, .int .i64 c.ages, .int .i64 c.lost, .int .i64 c.listen, .int .i64 c.span, .int .i64 c.room]
def Parts (x : SV) (l : List Part) : Prop := RSl (fun y a => y = encPart a) x l
def Links (x : SV) (l : List Link) : Prop := RSl (fun y a => y = encLink a) x l
def Ports (x : SV) (l : List Port) : Prop := RSl (fun y a => y = encPort a) x l
def Ints (x : SV) (l : List Int) : Prop := RSl (fun y n => y = .int .i64 n) x l
/-- A network: few parts and links. -/
structure CfgP (c : Cfg) (p l : SV) : Prop where
  p : Parts p c.parts
  l : Links l c.links
  lp : c.parts.length ≤ 17592186044416
  ll : c.links.length ≤ 17592186044416
def CfgR (y : SV) (c : Cfg) : Prop := ∃ p l, y = .agg (cfgC c p l) ∧ CfgP c p l

@[simp] theorem np_int (k : IntKind) (v : Int) (n : Nat) : np n (.int k v) = true := np_of_pv rfl _
@[simp] theorem np_bool (b : Bool) (n : Nat) : np n (.bool b) = true := np_of_pv rfl _
@[simp] theorem np_rint (k : IntKind) (v : Int) (i o : Nat) (s : Bool) : np picDepth (.rptr [.int k v] i o s) = true := by show (pv _ || ([SV.int k v].all (np 11))) = true; simp
theorem encPart_np (p : Part) (n : Nat) : np n (encPart p) = true := np_of_pv rfl _
theorem encLink_np (p : Link) (n : Nat) : np n (encLink p) = true := np_of_pv rfl _
theorem encPort_np (p : Port) (n : Nat) : np n (encPort p) = true := np_of_pv rfl _
theorem pv_encLink (l : Link) : pv (encLink l) = true := rfl
theorem np_rlink (l : Link) (i o : Nat) (s : Bool) : np picDepth (.rptr [encLink l] i o s) = true := by show (pv _ || ([encLink l].all (np 11))) = true; simp [encLink_np]
theorem np_fnlink (l : Link) {f : Nat} : np picDepth (.fn f [] [.rptr [encLink l] 0 0 false]) = true := rfl
theorem Parts.np {x : SV} {l : List Part} (h : Parts x l) : np 10 x = true := RSl.np h (n := 9) fun y a h => by rw [h]; exact encPart_np a 9
theorem Links.np {x : SV} {l : List Link} (h : Links x l) : np 10 x = true := RSl.np h (n := 9) fun y a h => by rw [h]; exact encLink_np a 9
theorem Ports.np {x : SV} {l : List Port} (h : Ports x l) : np 10 x = true := RSl.np h (n := 9) fun y a h => by rw [h]; exact encPort_np a 9
theorem Ints.np {x : SV} {l : List Int} (h : Ints x l) : np 10 x = true := RSl.np h (n := 9) fun y a h => by rw [h]; rfl
theorem Ints.np12 {x : SV} {l : List Int} (h : Ints x l) : Sh.np picDepth x = true := np_le (by decide) h.np
theorem Links.np12 {x : SV} {l : List Link} (h : Links x l) : Sh.np picDepth x = true := np_le (by decide) h.np
theorem Parts.np12 {x : SV} {l : List Part} (h : Parts x l) : Sh.np picDepth x = true := np_le (by decide) h.np
theorem Ports.np12 {x : SV} {l : List Port} (h : Ports x l) : Sh.np picDepth x = true := np_le (by decide) h.np
theorem CfgP.npA {c : Cfg} {p l : SV} (h : CfgP c p l) : Sh.np picDepth (.agg (cfgC c p l)) = true := by
  have h1 := np_le (m := 11) (by decide) h.p.np
  have h2 := np_le (m := 11) (by decide) h.l.np
  simp only [picDepth, Sh.np, Bool.or_eq_true]
  refine .inr ?_
  simp only [cfgC, List.all_cons, List.all_nil, Bool.and_true, Bool.and_eq_true]
  exact ⟨h1, h2, rfl, rfl, rfl, rfl, rfl, rfl, rfl, rfl, rfl, rfl, rfl⟩
theorem CfgR.np12 {y : SV} {c : Cfg} (h : CfgR y c) : Sh.np picDepth y = true := by
  obtain ⟨p, l, rfl, hp⟩ := h
  exact hp.npA
theorem sl_cells {x : SV} (h : isSl x = true) : x.cells = [x] := by cases x <;> simp [isSl] at h <;> rfl
theorem sl_sto {x : SV} (h : isSl x = true) : x.sto = true := by cases x <;> simp [isSl] at h <;> rfl
theorem sl_one {x : SV} (h : isSl x = true) : x.one = true := by cases x <;> simp [isSl] at h <;> rfl
@[simp] theorem encPart_cells (p : Part) : (encPart p).cells = [.int .i64 p.nodes, .int .i64 p.faults] := rfl
@[simp] theorem encLink_cells (l : Link) : (encLink l).cells = [.int .i64 l.a, .int .i64 l.b, .int .i64 l.pa0, .int .i64 l.pa1, .int .i64 l.pb0, .int .i64 l.pb1] := rfl
@[simp] theorem encPort_cells (p : Port) : (encPort p).cells = [.int .i64 p.node, .int .i64 p.link, .int .i64 p.gate, .int .i64 p.side] := rfl
@[simp] theorem fold_link (l : Link) : SV.agg [.int .i64 l.a, .int .i64 l.b, .int .i64 l.pa0, .int .i64 l.pa1, .int .i64 l.pb0, .int .i64 l.pb1] = encLink l := rfl
@[simp] theorem fold_part (p : Part) : SV.agg [.int .i64 p.nodes, .int .i64 p.faults] = encPart p := rfl
@[simp] theorem fold_port (p : Port) : SV.agg [.int .i64 p.node, .int .i64 p.link, .int .i64 p.gate, .int .i64 p.side] = encPort p := rfl
@[simp] theorem encLink_sto (l : Link) : (encLink l).sto = true := rfl
@[simp] theorem encPart_sto (l : Part) : (encPart l).sto = true := rfl
@[simp] theorem encPort_sto (l : Port) : (encPort l).sto = true := rfl
theorem elmLink : Elm (fun y a => y = encLink a) ⟨.struct [(T_int, 0), (T_int, 1), (T_a2_int, 2), (T_a2_int, 4)], 6, 48, some (.agg [.int .i64 0, .int .i64 0, .int .i64 0, .int .i64 0, .int .i64 0, .int .i64 0])⟩ :=
  ⟨fun h => by rw [h]; rfl, fun h => by rw [h]; rfl, fun h => by rw [h]; rfl, fun h => by rw [h]; rfl⟩
theorem elmPart : Elm (fun y a => y = encPart a) ⟨.struct [(T_int, 0), (T_int, 1)], 2, 16, some (.agg [.int .i64 0, .int .i64 0])⟩ :=
  ⟨fun h => by rw [h]; rfl, fun h => by rw [h]; rfl, fun h => by rw [h]; rfl, fun h => by rw [h]; rfl⟩
theorem Parts.at {x : SV} {l : List Part} (h : Parts x l) {j : Nat} (hj : j < l.length) : indexAddrS ES.P T_sl_api_Part x (.int .i64 j) = some (.rptr (l.map encPart) j 0 (stOf x)) := RSl.at h ti_sl_api_Part ti_api_Part (fun _ => rfl) hj
theorem Links.at {x : SV} {l : List Link} (h : Links x l) {j : Nat} (hj : j < l.length) : indexAddrS ES.P T_sl_api_Link x (.int .i64 j) = some (.rptr (l.map encLink) j 0 (stOf x)) := RSl.at h ti_sl_api_Link ti_api_Link (fun _ => rfl) hj
@[simp] theorem ixa2_0 (id i o : Nat) : indexAddrS ES.P T_a2_int (.ptr id i o) (.int .i64 0) = some (.ptr id i o) := by simp [indexAddrS, natS]
@[simp] theorem ixa2_1 (id i o : Nat) : indexAddrS ES.P T_a2_int (.ptr id i o) (.int .i64 1) = some (.ptr id i (o + 1)) := by simp [indexAddrS, natS]
@[simp] theorem ixr2_0 (l : List SV) (i o : Nat) (s : Bool) : indexAddrS ES.P T_a2_int (.rptr l i o s) (.int .i64 0) = some (.rptr l i o s) := by simp [indexAddrS, natS]
@[simp] theorem ixr2_1 (l : List SV) (i o : Nat) (s : Bool) : indexAddrS ES.P T_a2_int (.rptr l i o s) (.int .i64 1) = some (.rptr l i (o + 1) s) := by simp [indexAddrS, natS]
@[simp] theorem ix2_0 (x y : SV) : indexS ES.P T_a2_int (.agg [x, y]) (.int .i64 0) = some x := by simp [indexS, natS, partS, TK.agg]
@[simp] theorem ix2_1 (x y : SV) : indexS ES.P T_a2_int (.agg [x, y]) (.int .i64 1) = some y := by simp [indexS, natS, partS, TK.agg]

end Go.Proofs.YtomlbmbgocmiiaaDoor
