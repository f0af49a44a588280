/-
  Walks of the seat's functions: Sl.
-/
import Derived.Test.YtljjmdcdlcefmaaGreatDoorEbMa
import Derived.Test.YtljjmdcdlcefmaaGreatDoorShMb
set_option linter.unusedVariables false
set_option linter.unusedSimpArgs false
set_option maxRecDepth 100000
namespace Go.Proofs.YtljjmdcdlcefmaaGreatDoor
open Go.Proofs.YtljjmdcdlcefmaaGreatDoor.Sh
/-! What the library's functions on slices do. -/

def idxOf {α : Type} (p : α → Bool) (l : List α) : Int := match (List.range l.length).find? (fun j => (l[j]?.map p).getD false) with
  | some i => (i : Int)
  | none => -1

theorem idxOf_neg {α : Type} {p : α → Bool} {l : List α} : (idxOf p l = -1 ∧ ∀ a ∈ l, p a = false) ∨ ∃ i, ∃ h : i < l.length, idxOf p l = i ∧ p l[i] = true ∧ ∀ j (hj : j < i), p (l[j]'(by omega)) = false := by
  unfold idxOf
  cases h : (List.range l.length).find? (fun j => (l[j]?.map p).getD false) with
  | none =>
    left
    rw [List.find?_range_eq_none] at h
    refine ⟨rfl, fun a ha => ?_⟩
    obtain ⟨j, hj, rfl⟩ := List.mem_iff_getElem.1 ha
    have := h j hj
    simpa [hj] using this
  | some i =>
    right
    rw [List.find?_range_eq_some] at h
    obtain ⟨h1, h2, h3⟩ := h
    have hi : i < l.length := by simpa using h2
    refine ⟨i, hi, rfl, by simpa [hi] using h1, fun j hj => ?_⟩
    have := h3 j hj
    have hj' : j < l.length := by omega
    simpa [hj'] using this

theorem idxOf_any {α : Type} (p : α → Bool) (l : List α) : decide (0 ≤ idxOf p l) = l.any p := by
  rcases idxOf_neg (p := p) (l := l) with ⟨h1, h2⟩ | ⟨i, hi, h1, h2, h3⟩
  · rw [h1, List.any_eq_false.2 (fun a ha => by simp [h2 a ha])]; rfl
  · rw [h1, List.any_eq_true.2 ⟨l[i], List.getElem_mem hi, h2⟩]; simp
theorem slices_IndexFunc_sl_api_Link_api_Link_ok {α : Type} {R : SV → α → Prop} {te : TI} (hE : Elm R te) (hte : tiOf ES.P T_api_Link = some te) {x : SV} {l : List α} (hx : RSl R x l) (hb : l.length < 4611686018427387904) {f : Nat} {a c : List SV}
    (hnp : ∀ me, ((ES.prim f).isSome || ES.imp me f) = false) (p : α → Bool) (hp : ∀ get y v, R y v → v ∈ l → callP (PCw ES) get f (a ++ y :: c) = some (.bool (p v))) :
    PCw ES n_slices_IndexFunc_sl_api_Link_api_Link [x, .fn f a c] = some (.int .i64 (idxOf p l)) := by
  refine PCw_ex (fun M => ?_) rfl
  rw [b_slices_IndexFunc_sl_api_Link_api_Link]
  obtain ⟨r, h1, M', h2⟩ := loop_find (E := ES) (me := n_slices_IndexFunc_sl_api_Link_api_Link) (B := c_slices_IndexFunc_sl_api_Link_api_Link_B0) (len := l.length) (T := fun j => h_slices_IndexFunc_sl_api_Link_api_Link_0 x (.fn f a c) (.int .i64 l.length) (.int .i64 j))
    (I := fun _ _ => True) (p := fun j => (l[j]?.map p).getD false)
    (Q := fun o r => ∃ M', r = match o with
      | some j => (.ret, ⟨(h_slices_IndexFunc_sl_api_Link_api_Link_0 .bad .bad .bad .bad).set 4 (.int .i64 j), M'⟩)
      | none => (.exit 0, ⟨(h_slices_IndexFunc_sl_api_Link_api_Link_0 x (.fn f a c) (.int .i64 l.length) (.int .i64 l.length)).set 9 (.bool false), M'⟩))
    (fun j M hj _ hpj => by
      obtain ⟨y, hy, _, ha, hl⟩ := hx.item ti_sl_api_Link hte hE hj
      have hw : IntKind.i64.wrap ((j : Int) + 1) = (j : Int) + 1 := i64_in (by omega) (by omega)
      have hc := fun get => hp get y _ hy (List.getElem_mem hj)
      simp [hj] at hpj
      rw [hpj] at hc
      simp [c_slices_IndexFunc_sl_api_Link_api_Link_B0, evW_reg, evW_chkr, evW_chfr, isCst, TK.agg, zeroS, endS, resS, h_slices_IndexFunc_sl_api_Link_api_Link_0, hj, ha, hl, callT_fn (hnp _), hc, hw])
    (fun j M hj _ hpj => by
      obtain ⟨y, hy, _, ha, hl⟩ := hx.item ti_sl_api_Link hte hE hj
      have hc := fun get => hp get y _ hy (List.getElem_mem hj)
      simp [hj] at hpj
      rw [hpj] at hc
      simp [c_slices_IndexFunc_sl_api_Link_api_Link_B0, evW_reg, evW_chkr, evW_chfr, isCst, TK.agg, zeroS, endS, resS, h_slices_IndexFunc_sl_api_Link_api_Link_0, hj, ha, hl, callT_fn (hnp _), hc])
    (fun M _ => by simp [c_slices_IndexFunc_sl_api_Link_api_Link_B0, evW_reg, evW_chkr, evW_chfr, isCst, TK.agg, zeroS, endS, resS, h_slices_IndexFunc_sl_api_Link_api_Link_0]) M trivial
  unfold idxOf
  cases hf : (List.range l.length).find? (fun j => (l[j]?.map p).getD false) with
  | none =>
    rw [hf] at h2
    subst h2
    simp [h_slices_IndexFunc_sl_api_Link_api_Link_0] at h1
    simp [c_slices_IndexFunc_sl_api_Link_api_Link, evW_reg, evW_chkr, evW_chfr, isCst, TK.agg, zeroS, endS, resS, hx.lenS ti_sl_api_Link, c_slices_IndexFunc_sl_api_Link_api_Link_L0, h1]
  | some j =>
    rw [hf] at h2
    subst h2
    simp [h_slices_IndexFunc_sl_api_Link_api_Link_0] at h1
    simp [c_slices_IndexFunc_sl_api_Link_api_Link, evW_reg, evW_chkr, evW_chfr, isCst, TK.agg, zeroS, endS, resS, hx.lenS ti_sl_api_Link, c_slices_IndexFunc_sl_api_Link_api_Link_L0, h1]
theorem slices_IndexFunc_sl_api_Link_api_Link_c (get : Nat → Option (List SV)) {α : Type} {R : SV → α → Prop} {te : TI} (hE : Elm R te) (hte : tiOf ES.P T_api_Link = some te) {x : SV} {l : List α} (hx : RSl R x l) (hb : l.length < 4611686018427387904) {f : Nat} {a c : List SV}
    (hnp : ∀ me, ((ES.prim f).isSome || ES.imp me f) = false) (p : α → Bool) (hp : ∀ get y v, R y v → v ∈ l → callP (PCw ES) get f (a ++ y :: c) = some (.bool (p v))) (hn : np picDepth (.fn f a c) = true) :
    callP (PCw ES) get n_slices_IndexFunc_sl_api_Link_api_Link [x, .fn f a c] = some (.int .i64 (idxOf p l)) := callP_of (slices_IndexFunc_sl_api_Link_api_Link_ok hE hte hx hb hnp p hp) (by simp [hx.npE hE, hn])
theorem slices_ContainsFunc_sl_api_Link_api_Link_ok {α : Type} {R : SV → α → Prop} {te : TI} (hE : Elm R te) (hte : tiOf ES.P T_api_Link = some te) {x : SV} {l : List α} (hx : RSl R x l) (hb : l.length < 4611686018427387904) {f : Nat} {a c : List SV}
    (hnp : ∀ me, ((ES.prim f).isSome || ES.imp me f) = false) (p : α → Bool) (hp : ∀ get y v, R y v → v ∈ l → callP (PCw ES) get f (a ++ y :: c) = some (.bool (p v))) (hn : np picDepth (.fn f a c) = true) :
    PCw ES n_slices_ContainsFunc_sl_api_Link_api_Link [x, .fn f a c] = some (.bool (l.any p)) := by
  refine PCw_ex (fun M => ?_) rfl
  rw [b_slices_ContainsFunc_sl_api_Link_api_Link]
  simp [c_slices_ContainsFunc_sl_api_Link_api_Link, evW_reg, evW_chkr, evW_chfr, isCst, TK.agg, zeroS, endS, resS, slices_IndexFunc_sl_api_Link_api_Link_c _ hE hte hx hb hnp p hp hn, idxOf_any]
theorem slices_ContainsFunc_sl_api_Link_api_Link_c (get : Nat → Option (List SV)) {α : Type} {R : SV → α → Prop} {te : TI} (hE : Elm R te) (hte : tiOf ES.P T_api_Link = some te) {x : SV} {l : List α} (hx : RSl R x l) (hb : l.length < 4611686018427387904) {f : Nat} {a c : List SV}
    (hnp : ∀ me, ((ES.prim f).isSome || ES.imp me f) = false) (p : α → Bool) (hp : ∀ get y v, R y v → v ∈ l → callP (PCw ES) get f (a ++ y :: c) = some (.bool (p v))) (hn : np picDepth (.fn f a c) = true) :
    callP (PCw ES) get n_slices_ContainsFunc_sl_api_Link_api_Link [x, .fn f a c] = some (.bool (l.any p)) := callP_of (slices_ContainsFunc_sl_api_Link_api_Link_ok hE hte hx hb hnp p hp hn) (by simp [hx.npE hE, hn])
/-- The greatest, the least. -/
def maxL (l : List Int) : Int := l.foldl max (l.headD 0)
def minL (l : List Int) : Int := l.foldl min (l.headD 0)

end Go.Proofs.YtljjmdcdlcefmaaGreatDoor
