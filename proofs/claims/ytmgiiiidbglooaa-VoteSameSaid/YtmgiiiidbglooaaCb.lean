/-
  The walks of slices.Equal, vote.Same, vote.count, vote.Win, vote.Enough.
-/
import Derived.Test.YtmgiiiidbglooaaCa
import Derived.Test.YtmgiiiidbglooaaShSr
set_option linter.unusedVariables false
set_option linter.unusedSimpArgs false
set_option maxRecDepth 100000
namespace Go.Proofs.Ytmgiiiidbglooaa
open Go.Proofs.Ytmgiiiidbglooaa.Sh

def Ints (x : SV) (l : List Int) : Prop := RSl (IsI .i64) x l

theorem Ints.addr {x : SV} {l : List Int} (h : Ints x l) {j : Nat} (hj : j < l.length) : (its x)[j]? = some (.int .i64 l[j]) ∧ indexAddrS ES.P 30 x (.int .i64 j) = some (.rptr (its x) j 0 (stOf x)) := by
  obtain ⟨y, hy, h1, h2⟩ := RSl.addr h ti30 ti3 (fun y a h => by rw [h]; rfl) hj
  rw [hy] at h1
  exact ⟨h1, h2 _ _ rfl⟩

theorem Ints.np {x : SV} {l : List Int} (h : Ints x l) : np 1 x = true := RSl.np h (n := 0) fun y a h => by rw [h]; rfl
theorem Ints.np12 {x : SV} {l : List Int} (h : Ints x l) : Sh.np picDepth x = true := np_le (by decide) h.np

theorem loop24 {x y : SV} {l m : List Int} (hx : Ints x l) (hy : Ints y m) (hl : l.length = m.length) (hb : l.length < 4611686018427387904) (M : Mem) : ∀ (n j : Nat), j + n = l.length →
    evW ES 24 c24_L0 ⟨h24_0 x y (.int .i64 l.length) (.int .i64 j), M⟩ =
      if l.drop j = m.drop j then some (.exit 0, ⟨(h24_0 x y (.int .i64 l.length) (.int .i64 l.length)).set 14 (.bool false), M⟩)
      else some (.ret, ⟨(h24_0 .bad .bad .bad .bad).set 4 (.bool false), M⟩)
  | 0, j, hn => by
    have hj : j = l.length := by omega
    subst hj
    rw [s24_0]
    simp [c24_B0, evW_reg, h24_0]
    simp [hl]
  | n + 1, j, hn => by
    have hj : j < l.length := by omega
    have hj2 : j < m.length := by omega
    obtain ⟨a1, a2⟩ := hx.addr hj
    obtain ⟨b1, b2⟩ := hy.addr hj2
    have hw : IntKind.i64.wrap ((j : Int) + 1) = ((j + 1 : Nat) : Int) := by rw [i64_in (by omega) (by omega)]; omega
    have ih := loop24 hx hy hl hb M n (j + 1) (by omega)
    rw [s24_0]
    have e : (l.drop j = m.drop j) = (l[j] = m[j] ∧ l.drop (j + 1) = m.drop (j + 1)) := by
      rw [← List.getElem_cons_drop (h := hj), ← List.getElem_cons_drop (h := hj2), List.cons.injEq]
    simp only [e]
    by_cases hc : l[j] = m[j]
    · simp [c24_B0, evW_reg, h24_0, hj, a2, b2, loadS, a1, b1, partS, TK.agg, SV.cells, hc, hw]
      simpa [h24_0] using ih
    · simp [c24_B0, evW_reg, h24_0, hj, a2, b2, loadS, a1, b1, partS, TK.agg, SV.cells, hc, hw]

theorem Equal_ok {x y : SV} {l m : List Int} (hx : Ints x l) (hy : Ints y m) (hb : l.length < 4611686018427387904) : PCw ES 24 [x, y] = some (.bool (decide (l = m))) := by
  refine PCw_ex (fun M => ?_) rfl
  rw [b24]
  by_cases hl : l.length = m.length
  · have h := loop24 hx hy hl hb M l.length 0 (by omega)
    simp [h24_0] at h
    by_cases hc : l = m
    · subst hc
      simp [c24, evW_reg, hx.lenS ti30, hy.lenS ti30] at h ⊢
      simp [h, evW_reg, endS, resS]
    · simp [hc] at h
      simp [c24, evW_reg, hx.lenS ti30, hy.lenS ti30, hl] at h ⊢
      simp [h, evW_reg, endS, resS, hc]
  · have hc : l ≠ m := fun h => hl (by rw [h])
    have hl' : ¬ ((l.length : Int) = m.length) := by omega
    simp [c24, evW_reg, hx.lenS ti30, hy.lenS ti30, hl', endS, resS, hc]

/-- A content: its cycle, its ages. -/
def Con (y : SV) (c : Int × List Int) : Prop := ∃ a, y = .agg [.int .i64 c.1, a] ∧ Ints a c.2 ∧ c.2.length < 4611686018427387904
def Cons (x : SV) (l : List (Int × List Int)) : Prop := RSl Con x l

theorem Con.np {y : SV} {c : Int × List Int} (h : Con y c) : Sh.np 2 y = true := by
  obtain ⟨a, rfl, ha, _⟩ := h
  have h1 := ha.np
  simp only [Sh.np, Bool.or_eq_true] at h1 ⊢
  refine .inr ?_
  simp only [List.all_cons, List.all_nil, Bool.and_true, Bool.and_eq_true]
  exact ⟨np_of_pv rfl 1, by simp only [Sh.np, Bool.or_eq_true]; exact h1⟩
theorem Con.np12 {y : SV} {c : Int × List Int} (h : Con y c) : Sh.np picDepth y = true := np_le (by decide) h.np
theorem Cons.np12 {y : SV} {c : List (Int × List Int)} (h : Cons y c) : Sh.np picDepth y = true := np_le (by decide) (RSl.np h (n := 2) fun y a h => h.np)

theorem Same_ok {x y : SV} {c d : Int × List Int} (hx : Con x c) (hy : Con y d) : PCw ES 14 [x, y] = some (.bool (decide (c = d))) := by
  refine PCw_ex (fun M => ?_) rfl
  rw [b14]
  obtain ⟨a, rfl, ha, hla⟩ := hx
  obtain ⟨b, rfl, hb, hlb⟩ := hy
  obtain ⟨c1, c2⟩ := c
  obtain ⟨d1, d2⟩ := d
  have hcall : ∀ get, callP (PCw ES) get 24 [a, b] = some (.bool (decide (c2 = d2))) := fun get => callP_of (Equal_ok ha hb hla) (by simp [ha.np12, hb.np12])
  by_cases h1 : c1 = d1
  · simp [c14, evW_reg, SV.sto, fieldAddrS, loadS, partS, TK.agg, SV.cells, h1, hcall, endS, resS]
  · simp [c14, evW_reg, SV.sto, fieldAddrS, loadS, partS, TK.agg, SV.cells, h1, hcall, endS, resS]

end Go.Proofs.Ytmgiiiidbglooaa
