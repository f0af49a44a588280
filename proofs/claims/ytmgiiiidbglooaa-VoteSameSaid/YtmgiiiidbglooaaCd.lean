/-
  The walks of the document's answer: SameInts, SameContent, Win, Enough; and of the law's guards.
-/
import Derived.Test.YtmgiiiidbglooaaCc
set_option linter.unusedVariables false
set_option linter.unusedSimpArgs false
set_option maxRecDepth 100000
namespace Go.Proofs.Ytmgiiiidbglooaa
open Go.Proofs.Ytmgiiiidbglooaa.Sh

theorem SameInts_ok {x y : SV} {l m : List Int} (hx : Ints x l) (hy : Ints y m) (hb : l.length < 4611686018427387904) : PCw ES 18 [x, y] = some (.bool (decide (l = m))) := by
  refine PCw_ex (fun M => ?_) rfl
  rw [b18]
  by_cases hl : l.length = m.length
  · have h := loop_up (E := ES) (me := 18) (B := c18_B0) (len := l.length) (T := fun j => h18_0 x y (.int .i64 j)) (I := fun j M' => M' = M ∧ l.take j = m.take j)
      (Q := fun r => if l = m then r = (.exit 0, ⟨(h18_0 x y (.int .i64 l.length)).set 14 (.bool false), M⟩) else r = (.ret, ⟨(h18_0 .bad .bad .bad).set 4 (.bool false), M⟩))
      (fun j M' hj ⟨hM, hI⟩ => by
        subst hM
        have hj2 : j < m.length := by omega
        obtain ⟨a1, a2⟩ := hx.addr hj
        obtain ⟨b1, b2⟩ := hy.addr hj2
        have hw : IntKind.i64.wrap ((j : Int) + 1) = (j : Int) + 1 := i64_in (by omega) (by omega)
        have hj' : (j : Int) < l.length := by omega
        by_cases hc : l[j] = m[j]
        · left
          have e : l.take (j + 1) = m.take (j + 1) := by rw [List.take_succ_eq_append_getElem hj, List.take_succ_eq_append_getElem hj2, hI, hc]
          simp [c18_B0, evW_reg, h18_0, hx.lenS ti30, hj, a2, b2, loadS, a1, b1, partS, TK.agg, SV.cells, hc, hw, e]
        · right
          have e : l ≠ m := by
            intro h
            subst h
            exact hc rfl
          simp [c18_B0, evW_reg, h18_0, hx.lenS ti30, hj, a2, b2, loadS, a1, b1, partS, TK.agg, SV.cells, hc, hw, e])
      (fun M' ⟨hM, hI⟩ => by
        subst hM
        have e : l = m := by
          rw [List.take_of_length_le (Nat.le_refl _), List.take_of_length_le (by omega)] at hI
          exact hI
        subst e
        simp [c18_B0, evW_reg, h18_0, hx.lenS ti30]) 0 M (by omega) ⟨rfl, by simp⟩
    obtain ⟨r, h1, h2⟩ := h
    have hl' : ((l.length : Int) = m.length) := by omega
    by_cases hc : l = m
    · rw [if_pos hc] at h2
      subst h2
      simp [h18_0] at h1
      simp [c18, evW_reg, hx.lenS ti30, hy.lenS ti30, hl', c18_L0, h1, endS, resS, hc]
    · rw [if_neg hc] at h2
      subst h2
      simp [h18_0] at h1
      simp [c18, evW_reg, hx.lenS ti30, hy.lenS ti30, hl', c18_L0, h1, endS, resS, hc]
  · have hc : l ≠ m := fun h => hl (by rw [h])
    have hl' : ¬ ((l.length : Int) = m.length) := by omega
    simp [c18, evW_reg, hx.lenS ti30, hy.lenS ti30, hl', endS, resS, hc]

theorem SameContent_ok {x y : SV} {c d : Int × List Int} (hx : Con x c) (hy : Con y d) : PCw ES 15 [x, y] = some (.bool (decide (c = d))) := by
  refine PCw_ex (fun M => ?_) rfl
  rw [b15]
  obtain ⟨a, rfl, ha, hla⟩ := hx
  obtain ⟨b, rfl, hb, hlb⟩ := hy
  obtain ⟨c1, c2⟩ := c
  obtain ⟨d1, d2⟩ := d
  have hcall : ∀ get, callP (PCw ES) get 18 [a, b] = some (.bool (decide (c2 = d2))) := fun get => callP_of (SameInts_ok ha hb hla) (by simp [ha.np12, hb.np12])
  by_cases h1 : c1 = d1
  · simp [c15, evW_reg, SV.sto, fieldAddrS, loadS, partS, TK.agg, SV.cells, h1, hcall, endS, resS]
  · simp [c15, evW_reg, SV.sto, fieldAddrS, loadS, partS, TK.agg, SV.cells, h1, hcall, endS, resS]

theorem RefEnough_ok (v f : Int) (hv : -9223372036854775808 ≤ v ∧ v ≤ 9223372036854775807) : PCw ES 13 [.int .i64 v, .int .i64 f] = some (.bool (decide (0 ≤ f ∧ f ≤ 3 ∧ 2 * f + 1 ≤ v))) := by
  refine PCw_ex (fun M => ?_) rfl
  rw [b13]
  by_cases h1 : 0 ≤ f
  · by_cases h2 : f ≤ 3
    · have hw : IntKind.i64.wrap (2 * f) = 2 * f := i64_in (by omega) (by omega)
      have hw2 : IntKind.i64.wrap (2 * f + 1) = 2 * f + 1 := i64_in (by omega) (by omega)
      simp [c13, evW_reg, h1, h2, endS, resS, hw, hw2]
    · simp [c13, evW_reg, h1, h2, endS, resS]
  · simp [c13, evW_reg, h1, endS, resS]

theorem RefWin_ok {x : SV} {l : List (Int × List Int)} (hx : Cons x l) (hb : l.length < 4611686018427387904) : PCw ES 11 [x] = some (.tup [.int .i64 (winUp l l.length).1, .int .i64 (winUp l l.length).2]) := by
  refine PCw_ex (fun M => ?_) rfl
  rw [b11]
  have hl := loop_up (E := ES) (me := 11) (B := c11_B1) (len := l.length) (T := fun j => h11_1 x (.int .i64 (winUp l j).1) (.int .i64 (winUp l j).2) (.int .i64 j))
    (I := fun j M => True) (Q := fun r => ∃ M', r = (.exit 0, ⟨(h11_1 x (.int .i64 (winUp l l.length).1) (.int .i64 (winUp l l.length).2) (.int .i64 l.length)).set 12 (.bool false), M'⟩))
    (fun j M hj _ => by
      left
      obtain ⟨b, hb1, hb2, hb3, hb4⟩ := hx.addr hj
      have hw : IntKind.i64.wrap ((j : Int) + 1) = (j : Int) + 1 := i64_in (by omega) (by omega)
      have hj' : (j : Int) < l.length := by omega
      have hin := loop_up (E := ES) (me := 11) (B := c11_B0) (len := l.length) (T := fun i => h11_0 x (.int .i64 (winUp l j).1) (.int .i64 (winUp l j).2) (.int .i64 j) (.int .i64 (cnt l[j] (l.take i))) (.int .i64 i))
        (I := fun i M => True) (Q := fun r => ∃ M', r = (.exit 2, ⟨(h11_0 x (.int .i64 (winUp l j).1) (.int .i64 (winUp l j).2) (.int .i64 j) (.int .i64 (cnt l[j] l)) (.int .i64 l.length)).set 18 (.bool false), M'⟩))
        (fun i M hi _ => by
          left
          obtain ⟨d, hd1, hd2, hd3, hd4⟩ := hx.addr hi
          have hwi : IntKind.i64.wrap ((i : Int) + 1) = (i : Int) + 1 := i64_in (by omega) (by omega)
          have hi' : (i : Int) < l.length := by omega
          have hcnt : cnt l[j] (l.take i) ≤ i := Nat.le_trans (cnt_le _ _) (by simp; omega)
          have hw2 : IntKind.i64.wrap ((cnt l[j] (l.take i) : Int) + 1) = (cnt l[j] (l.take i) : Int) + 1 := i64_in (by omega) (by omega)
          have hcall : ∀ get, callP (PCw ES) get 15 [.agg [.int .i64 l[j].1, b], .agg [.int .i64 l[i].1, d]] = some (.bool (decide (l[j] = l[i]))) := fun get =>
            callP_of (SameContent_ok (c := l[j]) (d := l[i]) ⟨b, rfl, hb1, hb2⟩ ⟨d, rfl, hd1, hd2⟩) (by simp [Con.np12 (c := l[j]) ⟨b, rfl, hb1, hb2⟩, Con.np12 (c := l[i]) ⟨d, rfl, hd1, hd2⟩])
          have hcn := cnt_take (c := l[j]) hi
          by_cases hc : l[j] = l[i]
          · rw [if_pos hc] at hcn
            rw [decide_eq_true hc] at hcall
            simp [c11_B0, evW_reg, h11_0, hx.lenS ti22, hi, hb4, hb3, hd4, hd3, loadS, partS, TK.agg, SV.cells, hwi, hcall, hw2, hcn]
          · rw [if_neg hc] at hcn
            rw [decide_eq_false hc] at hcall
            simp [c11_B0, evW_reg, h11_0, hx.lenS ti22, hi, hb4, hb3, hd4, hd3, loadS, partS, TK.agg, SV.cells, hwi, hcall, hcn])
        (fun M _ => by simp [c11_B0, evW_reg, h11_0, hx.lenS ti22]) 0 M (by omega) trivial
      obtain ⟨r, h1, M', rfl⟩ := hin
      simp [h11_0] at h1
      have hcn := winUp_succ hj
      by_cases hc : cnt l[j] l > (winUp l j).2
      · rw [if_pos hc] at hcn
        simp [c11_B1, evW_reg, h11_1, hx.lenS ti22, hj, hw, c11_L0, h1, hcn, hc]
      · rw [if_neg hc] at hcn
        simp [c11_B1, evW_reg, h11_1, hx.lenS ti22, hj, hw, c11_L0, h1, hcn, hc])
    (fun M _ => by
      simp [c11_B1, evW_reg, h11_1, hx.lenS ti22]) 0 M (by omega) trivial
  obtain ⟨r, h1, M', rfl⟩ := hl
  simp [h11_1, winUp] at h1
  simp [c11, evW_reg, SV.sto, hx.lenS ti22, c11_L1, h1, endS, resS]

theorem alive_ok : PCw ES 8 [] = some (.bool true) := PCw_closed 60 (by kernel_rfl)

def smallL (l : List (Int × List Int)) : Prop := l.length ≤ 60 ∧ ∀ c ∈ l, c.2.length ≤ 30
instance (l : List (Int × List Int)) : Decidable (smallL l) := inferInstanceAs (Decidable (_ ∧ _))

theorem small_ok {x : SV} {l : List (Int × List Int)} (hx : Cons x l) (hb : l.length < 4611686018427387904) : PCw ES 9 [x] = some (.bool (decide (smallL l))) := by
  refine PCw_ex (fun M => ?_) rfl
  rw [b9]
  by_cases h0 : l.length ≤ 60
  · have h := loop_up (E := ES) (me := 9) (B := c9_B0) (len := l.length) (T := fun j => h9_0 x (.int .i64 j)) (I := fun j M' => M' = M ∧ ∀ c ∈ l.take j, c.2.length ≤ 30)
      (Q := fun r => if smallL l then r = (.exit 0, ⟨(h9_0 x (.int .i64 l.length)).set 10 (.bool false), M⟩) else r = (.ret, ⟨(h9_0 .bad .bad).set 2 (.bool false), M⟩))
      (fun j M' hj ⟨hM, hI⟩ => by
        subst hM
        obtain ⟨b, hb1, hb2, hb3, hb4⟩ := hx.addr hj
        have hw : IntKind.i64.wrap ((j : Int) + 1) = (j : Int) + 1 := i64_in (by omega) (by omega)
        by_cases hc : l[j].2.length ≤ 30
        · left
          have hc' : ¬ (30 < (l[j].2.length : Int)) := by omega
          have e : ∀ c ∈ l.take (j + 1), c.2.length ≤ 30 := by
            rw [List.take_succ_eq_append_getElem hj]
            intro c hc2
            rcases List.mem_append.1 hc2 with h | h
            · exact hI c h
            · simp at h; subst h; exact hc
          refine ⟨M', ?_, rfl, e⟩
          simp [c9_B0, evW_reg, h9_0, hx.lenS ti22, hb1.lenS ti30, hj, hb4, fieldAddrS, loadS, hb3, partS, TK.agg, SV.cells, hc', hw]
        · right
          have hc' : 30 < (l[j].2.length : Int) := by omega
          have e : ¬ smallL l := fun h => hc (h.2 _ (List.getElem_mem hj))
          simp [c9_B0, evW_reg, h9_0, hx.lenS ti22, hb1.lenS ti30, hj, hb4, fieldAddrS, loadS, hb3, partS, TK.agg, SV.cells, hc', hw, e])
      (fun M' ⟨hM, hI⟩ => by
        subst hM
        have e : smallL l := ⟨h0, by rw [List.take_of_length_le (Nat.le_refl _)] at hI; exact hI⟩
        simp [c9_B0, evW_reg, h9_0, hx.lenS ti22, e]) 0 M (by omega) ⟨rfl, by simp⟩
    obtain ⟨r, h1, h2⟩ := h
    have h0' : ¬ (60 < (l.length : Int)) := by omega
    by_cases hc : smallL l
    · rw [if_pos hc] at h2
      subst h2
      simp [h9_0] at h1
      simp [c9, evW_reg, hx.lenS ti22, h0', c9_L0, h1, endS, resS, hc]
    · rw [if_neg hc] at h2
      subst h2
      simp [h9_0] at h1
      simp [c9, evW_reg, hx.lenS ti22, h0', c9_L0, h1, endS, resS, hc]
  · have h0' : 60 < (l.length : Int) := by omega
    have e : ¬ smallL l := fun h => h0 h.1
    simp [c9, evW_reg, hx.lenS ti22, h0', endS, resS, e]

theorem VoteTells_ok {x : SV} {l : List (Int × List Int)} (hx : Cons x l) (hb : l.length < 4611686018427387904) (v f : Int) (hv : -9223372036854775808 ≤ v ∧ v ≤ 9223372036854775807) (M : Mem) :
    ∃ M', ICw ES 3 [x, .int .i64 v, .int .i64 f] M = some (.bool true, M') := by
  rw [b3]
  have n := hx.np12
  have c8 : ∀ get, callP (PCw ES) get 8 [] = some (.bool true) := fun get => callP_of alive_ok rfl
  have c9' : ∀ get, callP (PCw ES) get 9 [x] = some (.bool (decide (smallL l))) := fun get => callP_of (small_ok hx hb) (by simp [n])
  have c10' : ∀ get, callP (PCw ES) get 10 [x] = _ := fun get => callP_of (Win_ok hx hb) (by simp [n])
  have c11' : ∀ get, callP (PCw ES) get 11 [x] = _ := fun get => callP_of (RefWin_ok hx hb) (by simp [n])
  have c12' : ∀ get, callP (PCw ES) get 12 [.int .i64 v, .int .i64 f] = _ := fun get => callP_of (Enough_ok v f hv) rfl
  have c13' : ∀ get, callP (PCw ES) get 13 [.int .i64 v, .int .i64 f] = _ := fun get => callP_of (RefEnough_ok v f hv) rfl
  generalize decide (0 ≤ f ∧ f ≤ 3 ∧ 2 * f + 1 ≤ v) = q at c12' c13'
  by_cases hs : smallL l
  · simp [c3, evW_reg, c8, c9', hs, c10', c11', c12', c13', endS, resS, binS_eqlB ti4]
  · simp [c3, evW_reg, c8, c9', hs, endS, resS]

end Go.Proofs.Ytmgiiiidbglooaa
