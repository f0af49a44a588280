/-
  The walks of vote.count, vote.Win, vote.Enough.
-/
import Derived.Test.YtmgiiiidbglooaaCb
set_option linter.unusedVariables false
set_option linter.unusedSimpArgs false
set_option maxRecDepth 100000
namespace Go.Proofs.Ytmgiiiidbglooaa
open Go.Proofs.Ytmgiiiidbglooaa.Sh

theorem Cons.addr {x : SV} {l : List (Int × List Int)} (h : Cons x l) {j : Nat} (hj : j < l.length) : ∃ a, Ints a l[j].2 ∧ l[j].2.length < 4611686018427387904 ∧ (its x)[j]? = some (.agg [.int .i64 l[j].1, a]) ∧ indexAddrS ES.P 22 x (.int .i64 j) = some (.rptr (its x) j 0 (stOf x)) := by
  obtain ⟨y, hy, h1, h2⟩ := RSl.addr h ti22 ti32 (fun y a h => by obtain ⟨b, rfl, _⟩ := h; rfl) hj
  obtain ⟨a, rfl, ha, hl⟩ := hy
  exact ⟨a, ha, hl, h1, h2 _ _ rfl⟩

/-- How often it is there. -/
def cnt (c : Int × List Int) (l : List (Int × List Int)) : Nat := l.countP fun d => decide (c = d)

@[simp] theorem cnt_nil (c : Int × List Int) : cnt c [] = 0 := rfl

theorem cnt_take {c : Int × List Int} {l : List (Int × List Int)} {j : Nat} (h : j < l.length) : cnt c (l.take (j + 1)) = cnt c (l.take j) + (if c = l[j] then 1 else 0) := by
  unfold cnt
  rw [List.take_succ_eq_append_getElem h, List.countP_append]
  simp

theorem cnt_le (c : Int × List Int) (l : List (Int × List Int)) : cnt c l ≤ l.length := List.countP_le_length

theorem count_ok {x y : SV} {l : List (Int × List Int)} {c : Int × List Int} (hx : Cons x l) (hy : Con y c) (hb : l.length < 4611686018427387904) : PCw ES 23 [x, y] = some (.int .i64 (cnt c l)) := by
  refine PCw_ex (fun M => ?_) rfl
  rw [b23]
  obtain ⟨a, rfl, ha, hla⟩ := hy
  obtain ⟨c1, c2⟩ := c
  have hl := fun p => loop_up (E := ES) (me := 23) (B := c23_B0) (len := l.length) (T := fun j => h23_0 (.ptr p 0 0) (.int .i64 (cnt (c1, c2) (l.take j))) x (.int .i64 l.length) (.int .i64 j))
    (I := fun j M => M.blk p = some [.agg [.int .i64 c1, a]] ∧ p < M.next) (Q := fun r => ∃ M', r = (.exit 0, ⟨(h23_0 (.ptr p 0 0) (.int .i64 (cnt (c1, c2) l)) x (.int .i64 l.length) (.int .i64 l.length)).set 11 (.bool false), M'⟩))
    (fun j M hj ⟨hI, hp⟩ => by
      left
      obtain ⟨b, hb1, hb2, hb3, hb4⟩ := hx.addr hj
      have hw : IntKind.i64.wrap ((j : Int) + 1) = (j : Int) + 1 := i64_in (by omega) (by omega)
      have hcnt : cnt (c1, c2) (l.take j) ≤ j := Nat.le_trans (cnt_le _ _) (by simp; omega)
      have hw2 : IntKind.i64.wrap ((cnt (c1, c2) (l.take j) : Int) + 1) = (cnt (c1, c2) (l.take j) : Int) + 1 := i64_in (by omega) (by omega)
      have hne : ∀ k, (p = M.next + k) = False := fun k => by simp; omega
      have hcall : ∀ get, callP (PCw ES) get 14 [.agg [.int .i64 c1, a], .agg [.int .i64 l[j].1, b]] = some (.bool (decide ((c1, c2) = l[j]))) := fun get =>
        callP_of (Same_ok (c := (c1, c2)) (d := l[j]) ⟨a, rfl, ha, hla⟩ ⟨b, rfl, hb1, hb2⟩) (by simp [Con.np12 (c := (c1, c2)) ⟨a, rfl, ha, hla⟩, Con.np12 (c := l[j]) ⟨b, rfl, hb1, hb2⟩])
      have hcn := cnt_take (c := (c1, c2)) hj
      by_cases hc : (c1, c2) = l[j]
      · rw [if_pos hc] at hcn
        rw [decide_eq_true hc] at hcall
        simp [c23_B0, evW_reg, h23_0, hj, hb4, hb3, loadS, partS, TK.agg, SV.cells, hw, zeroS, SV.sto, storeS, setPart, hI, hne, hcall, hw2, hcn]
        omega
      · rw [if_neg hc] at hcn
        rw [decide_eq_false hc] at hcall
        simp [c23_B0, evW_reg, h23_0, hj, hb4, hb3, loadS, partS, TK.agg, SV.cells, hw, zeroS, SV.sto, storeS, setPart, hI, hne, hcall, hcn]
        omega)
    (fun M ⟨hI, hp⟩ => by
      simp [c23_B0, evW_reg, h23_0]) 0
  obtain ⟨r, h1, M', rfl⟩ := hl M.next ((M.bump 2).set M.next (some [.agg [.int .i64 c1, a]])) (by omega) (by simp)
  simp [h23_0] at h1
  simp [c23, evW_reg, SV.sto, hx.lenS ti22, c23_L0, h1, endS, resS]

/-- The place that wins, among the first j: and how often it is there. -/
def winUp (l : List (Int × List Int)) : Nat → Int × Nat
  | 0 => (-1, 0)
  | j + 1 => let r := winUp l j
    match l[j]? with
    | some c => if cnt c l > r.2 then ((j : Int), cnt c l) else r
    | none => r

theorem winUp_succ {l : List (Int × List Int)} {j : Nat} (h : j < l.length) : winUp l (j + 1) = if cnt l[j] l > (winUp l j).2 then ((j : Int), cnt l[j] l) else winUp l j := by
  simp [winUp, h]

theorem Win_ok {x : SV} {l : List (Int × List Int)} (hx : Cons x l) (hb : l.length < 4611686018427387904) : PCw ES 10 [x] = some (.tup [.int .i64 (winUp l l.length).1, .int .i64 (winUp l l.length).2]) := by
  refine PCw_ex (fun M => ?_) rfl
  rw [b10]
  have hl := loop_up (E := ES) (me := 10) (B := c10_B0) (len := l.length) (T := fun j => h10_0 x (.int .i64 (winUp l j).1) (.int .i64 (winUp l j).2) x (.int .i64 l.length) (.int .i64 j))
    (I := fun j M => True) (Q := fun r => ∃ M', r = (.exit 0, ⟨(h10_0 x (.int .i64 (winUp l l.length).1) (.int .i64 (winUp l l.length).2) x (.int .i64 l.length) (.int .i64 l.length)).set 12 (.bool false), M'⟩))
    (fun j M hj _ => by
      left
      obtain ⟨b, hb1, hb2, hb3, hb4⟩ := hx.addr hj
      have hw : IntKind.i64.wrap ((j : Int) + 1) = (j : Int) + 1 := i64_in (by omega) (by omega)
      have hcall : ∀ get, callP (PCw ES) get 23 [x, .agg [.int .i64 l[j].1, b]] = some (.int .i64 (cnt l[j] l)) := fun get =>
        callP_of (count_ok hx (c := l[j]) ⟨b, rfl, hb1, hb2⟩ hb) (by simp [hx.np12, Con.np12 (c := l[j]) ⟨b, rfl, hb1, hb2⟩])
      have hcn := winUp_succ hj
      by_cases hc : cnt l[j] l > (winUp l j).2
      · rw [if_pos hc] at hcn
        simp [c10_B0, evW_reg, h10_0, hj, hb4, hb3, loadS, partS, TK.agg, SV.cells, hw, zeroS, SV.sto, storeS, setPart, hcall, hcn, hc]
      · rw [if_neg hc] at hcn
        simp [c10_B0, evW_reg, h10_0, hj, hb4, hb3, loadS, partS, TK.agg, SV.cells, hw, zeroS, SV.sto, storeS, setPart, hcall, hcn, hc])
    (fun M _ => by
      simp [c10_B0, evW_reg, h10_0]) 0 M (by omega) trivial
  obtain ⟨r, h1, M', rfl⟩ := hl
  simp [h10_0, winUp] at h1
  simp [c10, evW_reg, SV.sto, hx.lenS ti22, c10_L0, h1, endS, resS]

theorem Enough_ok (v f : Int) (hv : -9223372036854775808 ≤ v ∧ v ≤ 9223372036854775807) : PCw ES 12 [.int .i64 v, .int .i64 f] = some (.bool (decide (0 ≤ f ∧ f ≤ 3 ∧ 2 * f + 1 ≤ v))) := by
  refine PCw_ex (fun M => ?_) rfl
  rw [b12]
  by_cases h1 : 0 ≤ f
  · by_cases h2 : f ≤ 3
    · have hw : IntKind.i64.wrap (2 * f) = 2 * f := i64_in (by omega) (by omega)
      have hw2 : IntKind.i64.wrap (2 * f + 1) = 2 * f + 1 := i64_in (by omega) (by omega)
      simp [c12, evW_reg, h1, h2, endS, resS, hw, hw2]
    · simp [c12, evW_reg, h1, h2, endS, resS]
  · simp [c12, evW_reg, h1, endS, resS]

end Go.Proofs.Ytmgiiiidbglooaa
