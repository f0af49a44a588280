/-
  The walk of VoteMost.
-/
import Derived.Test.YtmgiiiidbglooaaCe
set_option linter.unusedVariables false
set_option linter.unusedSimpArgs false
set_option maxRecDepth 100000
namespace Go.Proofs.Ytmgiiiidbglooaa
open Go.Proofs.Ytmgiiiidbglooaa.Sh

theorem cnt_pos {l : List (Int × List Int)} {i : Nat} (h : i < l.length) : 0 < cnt l[i] l := by
  unfold cnt
  exact List.countP_pos_iff.2 ⟨l[i], List.getElem_mem h, by simp⟩

theorem winUp_spec {l : List (Int × List Int)} : ∀ j, j ≤ l.length → (∀ i (h : i < l.length), i < j → cnt l[i] l ≤ (winUp l j).2 ∧ (cnt l[i] l = (winUp l j).2 → (winUp l j).1 ≤ i)) ∧
    (0 < j → ∃ a, ∃ h : a < l.length, a < j ∧ (winUp l j).1 = (a : Int) ∧ cnt l[a] l = (winUp l j).2)
  | 0, _ => ⟨fun i _ h => by omega, fun h => by omega⟩
  | j + 1, hj => by
    obtain ⟨h1, h2⟩ := winUp_spec (l := l) j (by omega)
    have hs := winUp_succ (l := l) (j := j) (by omega)
    by_cases hc : cnt l[j] l > (winUp l j).2
    · rw [if_pos hc] at hs
      rw [hs]
      refine ⟨fun i hi hij => ?_, fun _ => ⟨j, by omega, by omega, rfl, rfl⟩⟩
      rcases Nat.lt_or_ge i j with h | h
      · have := (h1 i hi h).1
        refine ⟨by simp only; omega, fun he => ?_⟩
        simp only at he
        omega
      · obtain rfl : i = j := by omega
        exact ⟨Nat.le_refl _, fun _ => Int.le_refl _⟩
    · rw [if_neg hc] at hs
      rw [hs]
      have hp := cnt_pos (l := l) (i := j) (by omega)
      have hj0 : 0 < j := by
        rcases Nat.eq_zero_or_pos j with h | h
        · subst h
          simp [winUp] at hc
          omega
        · exact h
      obtain ⟨a, ha, haj, e1, e2⟩ := h2 hj0
      refine ⟨fun i hi hij => ?_, fun _ => ⟨a, ha, by omega, e1, e2⟩⟩
      rcases Nat.lt_or_ge i j with h | h
      · exact h1 i hi h
      · obtain rfl : i = j := by omega
        exact ⟨by omega, fun _ => by omega⟩

set_option maxHeartbeats 4000000 in
theorem VoteMost_ok {x : SV} {l : List (Int × List Int)} (hx : Cons x l) (hb : l.length < 4611686018427387904) (M : Mem) :
    ∃ M', ICw ES 4 [x] M = some (.bool true, M') := by
  rw [b4]
  have n := hx.np12
  have c8 : ∀ get, callP (PCw ES) get 8 [] = some (.bool true) := fun get => callP_of alive_ok rfl
  have c9' : ∀ get, callP (PCw ES) get 9 [x] = some (.bool (decide (smallL l))) := fun get => callP_of (small_ok hx hb) (by simp [n])
  have c10' : ∀ get, callP (PCw ES) get 10 [x] = _ := fun get => callP_of (Win_ok hx hb) (by simp [n])
  by_cases hs : smallL l
  · by_cases h0 : l.length = 0
    · have hl0 : l = [] := List.length_eq_zero_iff.1 h0
      subst hl0
      have hlen := hx.lenS ti22
      simp [winUp] at c10' hlen
      simp [c4, evW_reg, c8, c9', hs, c10', hlen, endS, resS]
    obtain ⟨w1, w2⟩ := winUp_spec (l := l) l.length (Nat.le_refl _)
    generalize winUp l l.length = w at w1 w2 c10'
    obtain ⟨a, m⟩ := w
    simp only at w1 w2 c10'
    · obtain ⟨a', ha', _, rfl, e2⟩ := w2 (by omega)
      have h0' : ¬ ((l.length : Int) = 0) := by omega
      have hl := loop_up (E := ES) (me := 4) (B := c4_B1) (len := l.length) (T := fun j => h4_1 x (.int .i64 a') (.int .i64 m) (.int .i64 j))
        (I := fun j M => True) (Q := fun r => ∃ M', r = (.exit 0, ⟨(h4_1 x (.int .i64 a') (.int .i64 m) (.int .i64 l.length)).set 41 (.bool false), M'⟩))
        (fun j M hj _ => by
          left
          obtain ⟨b, hb1, hb2, hb3, hb4⟩ := hx.addr hj
          have hw : IntKind.i64.wrap ((j : Int) + 1) = (j : Int) + 1 := i64_in (by omega) (by omega)
          have hj' : (j : Int) < l.length := by omega
          have hin := loop_up (E := ES) (me := 4) (B := c4_B0) (len := l.length) (T := fun i => h4_0 x (.int .i64 a') (.int .i64 m) (.int .i64 j) (.int .i64 (cnt l[j] (l.take i))) (.int .i64 i))
            (I := fun i M => True) (Q := fun r => ∃ M', r = (.exit 2, ⟨(h4_0 x (.int .i64 a') (.int .i64 m) (.int .i64 j) (.int .i64 (cnt l[j] l)) (.int .i64 l.length)).set 47 (.bool false), M'⟩))
            (fun i M hi _ => by
              left
              obtain ⟨d, hd1, hd2, hd3, hd4⟩ := hx.addr hi
              have hwi : IntKind.i64.wrap ((i : Int) + 1) = (i : Int) + 1 := i64_in (by omega) (by omega)
              have hi' : (i : Int) < l.length := by omega
              have hcnt : cnt l[j] (l.take i) ≤ i := Nat.le_trans (cnt_le _ _) (by simp; omega)
              have hw2 : IntKind.i64.wrap ((cnt l[j] (l.take i) : Int) + 1) = (cnt l[j] (l.take i) : Int) + 1 := i64_in (by omega) (by omega)
              have hcall : ∀ get, callP (PCw ES) get 14 [.agg [.int .i64 l[j].1, b], .agg [.int .i64 l[i].1, d]] = some (.bool (decide (l[j] = l[i]))) := fun get =>
                callP_of (Same_ok (c := l[j]) (d := l[i]) ⟨b, rfl, hb1, hb2⟩ ⟨d, rfl, hd1, hd2⟩) (by simp [Con.np12 (c := l[j]) ⟨b, rfl, hb1, hb2⟩, Con.np12 (c := l[i]) ⟨d, rfl, hd1, hd2⟩])
              have hcn := cnt_take (c := l[j]) hi
              by_cases hc : l[j] = l[i]
              · rw [if_pos hc] at hcn
                rw [decide_eq_true hc] at hcall
                simp [c4_B0, evW_reg, h4_0, hx.lenS ti22, hi, hb4, hb3, hd4, hd3, loadS, partS, TK.agg, SV.cells, hwi, hcall, hw2, hcn]
              · rw [if_neg hc] at hcn
                rw [decide_eq_false hc] at hcall
                simp [c4_B0, evW_reg, h4_0, hx.lenS ti22, hi, hb4, hb3, hd4, hd3, loadS, partS, TK.agg, SV.cells, hwi, hcall, hcn])
            (fun M _ => by simp [c4_B0, evW_reg, h4_0, hx.lenS ti22]) 0 M (by omega) trivial
          obtain ⟨r, h1, M', rfl⟩ := hin
          simp [h4_0] at h1
          obtain ⟨k1, k2⟩ := w1 j hj hj
          have k1' : ¬ ((m : Int) < cnt l[j] l) := by omega
          by_cases hk : cnt l[j] l = m
          · have k2' := k2 hk
            have k3 : ¬ ((j : Int) < a') := by omega
            by_cases k4 : (j : Int) = a'
            · obtain rfl : j = a' := by omega
              simp [c4_B1, evW_reg, h4_1, hx.lenS ti22, hj, hw, c4_L0, h1, k1', hk, k3]
            · simp [c4_B1, evW_reg, h4_1, hx.lenS ti22, hj, hw, c4_L0, h1, k1', hk, k3, k4]
          · have hk' : ¬ ((cnt l[j] l : Int) = m) := by omega
            have k3 : ¬ ((j : Int) = a') := by
              intro h
              obtain rfl : j = a' := by omega
              exact hk e2
            simp [c4_B1, evW_reg, h4_1, hx.lenS ti22, hj, hw, c4_L0, h1, k1', hk', k3])
        (fun M _ => by
          simp [c4_B1, evW_reg, h4_1, hx.lenS ti22]) 0 M (by omega) trivial
      obtain ⟨r, h1, M', rfl⟩ := hl
      simp [h4_1] at h1
      have h2 : ¬ ((l.length : Int) ≤ a') := by omega
      have h3 : ¬ ((a' : Int) < 0) := by omega
      have h4 : l ≠ [] := fun h => h0 (by rw [h]; rfl)
      simp [c4, evW_reg, c8, c9', hs, c10', hx.lenS ti22, h4, h2, h3, c4_L1, h1, endS, resS]
  · simp [c4, evW_reg, c8, c9', hs, endS, resS]

theorem VoteMost_walk (xs0 : List SV) (h0 : WT ES.P 8 22 xs0) : ∃ M', ICw ES 4 [mkV ES.P 22 xs0] .empty = some (.bool true, M') := by
  obtain ⟨l, hl, hb⟩ := cons_of h0
  exact VoteMost_ok hl hb _

end Go.Proofs.Ytmgiiiidbglooaa
