/-
  Walks of the seat's functions: Va.
-/
import Derived.Test.YtaldchogcingbaaEb0
import Derived.Test.YtaldchogcingbaaShMb
import Derived.Test.YtaldchogcingbaaLFr
import Derived.Test.YtaldchogcingbaaLCl
set_option linter.unusedVariables false
set_option linter.unusedSimpArgs false
set_option maxRecDepth 100000
namespace Go.Proofs.Ytaldchogcingbaa
open Go.Proofs.Ytaldchogcingbaa.Sh
/-! Votes: contents, which are the same, how often one is there, which wins. -/
theorem Mem.set2 (M : Mem) (a : Nat) (u v : Option (List SV)) : (M.set a u).set a v = M.set a v := by
  simp only [Mem.set, Mem.mk.injEq, and_true]
  funext i
  by_cases hi : i = a <;> simp [hi]
theorem ints_at' {x : SV} {l : List Int} (hx : Ints x l) {j : Nat} (hj : j < l.length) : indexAddrS ES.P T_sl_int x (.int .i64 j) = some (.rptr (l.map (SV.int .i64)) j 0 (stOf x)) := RSl.at (enc := SV.int .i64) hx ti_sl_int ti_int (fun _ => rfl) hj
set_option maxHeartbeats 4000000 in
theorem slices_Equal_sl_int_int_c (get) {x y : SV} {l m : List Int} (hx : Ints x l) (hy : Ints y m) (hb : l.length ≤ 1000000) : callP (PCw ES) get n_slices_Equal_sl_int_int [x, y] = some (.bool (decide (l = m))) := by
  refine callP_of (PCw_ex (fun M0 => ?_) rfl) (by simp [Nums.np (show Nums x l from hx), Nums.np (show Nums y m from hy)])
  rw [b_slices_Equal_sl_int_int]
  have l1 := hx.lenS ti_sl_int
  have l2 := hy.lenS ti_sl_int
  by_cases hl : l.length = m.length
  case neg =>
    have hc : ¬ l = m := fun h => hl (by rw [h])
    have hl' : ¬ (l.length : Int) = m.length := by omega
    simp [c_slices_Equal_sl_int_int, evW_reg, evW_chkr, evW_chfr, isCst, TK.agg, zeroS, endS, resS, l1, l2, hl, hl', hc]
  obtain ⟨r, g1, g2⟩ := loop_find (E := ES) (me := n_slices_Equal_sl_int_int) (B := c_slices_Equal_sl_int_int_B0) (len := l.length) (T := fun k => h_slices_Equal_sl_int_int_0 x y (.int .i64 l.length) (.int .i64 k)) (I := fun _ M' => M' = M0) (p := fun k => !decide (l[k]? = m[k]?))
    (Q := fun o r => r = (match o with | some _ => (.ret, ⟨(h_slices_Equal_sl_int_int_0 .bad .bad .bad .bad).set 4 (.bool false), M0⟩) | none => (.exit 0, ⟨(h_slices_Equal_sl_int_int_0 x y (.int .i64 l.length) (.int .i64 l.length)).set 14 (.bool false), M0⟩)))
    (fun j M' hj hM hp => by
      subst hM
      have hw : IntKind.i64.wrap ((j : Int) + 1) = (j : Int) + 1 := i64_in (by omega) (by omega)
      have a1 := ints_at' hx hj
      have a2 := ints_at' hy (show j < m.length by omega)
      have e : l[j] = m[j]'(by omega) := by simpa [hj, show j < m.length by omega] using hp
      have g1 : (l.map (SV.int .i64))[j]? = some (.int .i64 l[j]) := by simp [hj]
      have g2 : (m.map (SV.int .i64))[j]? = some (.int .i64 l[j]) := by simp [e, show j < m.length by omega]
      generalize l.map (SV.int .i64) = us at a1 g1
      generalize m.map (SV.int .i64) = vs at a2 g2
      exact ⟨M', by simp [c_slices_Equal_sl_int_int_B0, evW_reg, evW_chkr, evW_chfr, isCst, loadS, partS, TK.agg, fieldAddrS, zeroS, storeS, setPart, splice, endS, resS, fieldS, h_slices_Equal_sl_int_int_0, l1, l2, hj, a1, a2, g1, g2, hw], rfl⟩)
    (fun j M' hj hM hp => by
      subst hM
      have a1 := ints_at' hx hj
      have a2 := ints_at' hy (show j < m.length by omega)
      have e : ¬ l[j] = m[j]'(by omega) := by simpa [hj, show j < m.length by omega] using hp
      have g1 : (l.map (SV.int .i64))[j]? = some (.int .i64 l[j]) := by simp [hj]
      have g2 : (m.map (SV.int .i64))[j]? = some (.int .i64 (m[j]'(by omega))) := by simp [show j < m.length by omega]
      generalize l.map (SV.int .i64) = us at a1 g1
      generalize m.map (SV.int .i64) = vs at a2 g2
      simp [c_slices_Equal_sl_int_int_B0, evW_reg, evW_chkr, evW_chfr, isCst, loadS, partS, TK.agg, fieldAddrS, zeroS, storeS, setPart, splice, endS, resS, fieldS, h_slices_Equal_sl_int_int_0, l1, l2, hj, a1, a2, g1, g2, e])
    (fun M' hM => by
      subst hM
      simp [c_slices_Equal_sl_int_int_B0, evW_reg, evW_chkr, evW_chfr, isCst, TK.agg, zeroS, endS, resS, h_slices_Equal_sl_int_int_0, l1, l2]) M0 rfl
  subst g2
  rw [hl] at l1
  cases hh : (List.range l.length).find? (fun k => !decide (l[k]? = m[k]?)) with
  | none =>
    rw [hh] at g1
    have e : l = m := by
      refine List.ext_getElem? fun k => ?_
      by_cases hk : k < l.length
      · have := List.find?_eq_none.1 hh k (by simp [hk])
        simpa using this
      · rw [List.getElem?_eq_none (by omega), List.getElem?_eq_none (by omega)]
    simp [h_slices_Equal_sl_int_int_0, hl] at g1
    simp [c_slices_Equal_sl_int_int, evW_reg, evW_chkr, evW_chfr, isCst, TK.agg, zeroS, endS, resS, l1, l2, c_slices_Equal_sl_int_int_L0, g1, e]
  | some k =>
    rw [hh] at g1
    have e : ¬ l = m := fun e => by
      subst e
      have := List.find?_some hh
      simp at this
    simp [h_slices_Equal_sl_int_int_0, hl] at g1
    simp [c_slices_Equal_sl_int_int, evW_reg, evW_chkr, evW_chfr, isCst, TK.agg, zeroS, endS, resS, l1, l2, c_slices_Equal_sl_int_int_L0, g1, e]
set_option maxHeartbeats 4000000 in
theorem r1_SameInts_d (get) {x y : SV} {l m : List Int} (hx : Ints x l) (hy : Ints y m) (hb : l.length ≤ 1000000) : callP (PCw ES) get n_r1_SameInts [x, y] = some (.bool (decide (l = m))) := by
  refine callP_of (PCw_ex (fun M0 => ?_) rfl) (by simp [Nums.np (show Nums x l from hx), Nums.np (show Nums y m from hy)])
  rw [b_r1_SameInts]
  have l1 := hx.lenS ti_sl_int
  have l2 := hy.lenS ti_sl_int
  by_cases hl : l.length = m.length
  case neg =>
    have hc : ¬ l = m := fun h => hl (by rw [h])
    have hl' : ¬ (l.length : Int) = m.length := by omega
    simp [c_r1_SameInts, evW_reg, evW_chkr, evW_chfr, isCst, TK.agg, zeroS, endS, resS, l1, l2, hl, hl', hc]
  obtain ⟨r, g1, g2⟩ := loop_find (E := ES) (me := n_r1_SameInts) (B := c_r1_SameInts_B0) (len := l.length) (T := fun k => h_r1_SameInts_0 x y (.int .i64 k)) (I := fun _ M' => M' = M0) (p := fun k => !decide (l[k]? = m[k]?))
    (Q := fun o r => r = (match o with | some _ => (.ret, ⟨(h_r1_SameInts_0 .bad .bad .bad).set 4 (.bool false), M0⟩) | none => (.exit 0, ⟨(h_r1_SameInts_0 x y (.int .i64 l.length)).set 14 (.bool false), M0⟩)))
    (fun j M' hj hM hp => by
      subst hM
      have hw : IntKind.i64.wrap ((j : Int) + 1) = (j : Int) + 1 := i64_in (by omega) (by omega)
      have a1 := ints_at' hx hj
      have a2 := ints_at' hy (show j < m.length by omega)
      have e : l[j] = m[j]'(by omega) := by simpa [hj, show j < m.length by omega] using hp
      have g1 : (l.map (SV.int .i64))[j]? = some (.int .i64 l[j]) := by simp [hj]
      have g2 : (m.map (SV.int .i64))[j]? = some (.int .i64 l[j]) := by simp [e, show j < m.length by omega]
      generalize l.map (SV.int .i64) = us at a1 g1
      generalize m.map (SV.int .i64) = vs at a2 g2
      exact ⟨M', by simp [c_r1_SameInts_B0, evW_reg, evW_chkr, evW_chfr, isCst, loadS, partS, TK.agg, fieldAddrS, zeroS, storeS, setPart, splice, endS, resS, fieldS, h_r1_SameInts_0, l1, l2, hj, a1, a2, g1, g2, hw], rfl⟩)
    (fun j M' hj hM hp => by
      subst hM
      have a1 := ints_at' hx hj
      have a2 := ints_at' hy (show j < m.length by omega)
      have e : ¬ l[j] = m[j]'(by omega) := by simpa [hj, show j < m.length by omega] using hp
      have g1 : (l.map (SV.int .i64))[j]? = some (.int .i64 l[j]) := by simp [hj]
      have g2 : (m.map (SV.int .i64))[j]? = some (.int .i64 (m[j]'(by omega))) := by simp [show j < m.length by omega]
      generalize l.map (SV.int .i64) = us at a1 g1
      generalize m.map (SV.int .i64) = vs at a2 g2
      simp [c_r1_SameInts_B0, evW_reg, evW_chkr, evW_chfr, isCst, loadS, partS, TK.agg, fieldAddrS, zeroS, storeS, setPart, splice, endS, resS, fieldS, h_r1_SameInts_0, l1, l2, hj, a1, a2, g1, g2, e])
    (fun M' hM => by
      subst hM
      simp [c_r1_SameInts_B0, evW_reg, evW_chkr, evW_chfr, isCst, TK.agg, zeroS, endS, resS, h_r1_SameInts_0, l1, l2]) M0 rfl
  subst g2
  rw [hl] at l1
  cases hh : (List.range l.length).find? (fun k => !decide (l[k]? = m[k]?)) with
  | none =>
    rw [hh] at g1
    have e : l = m := by
      refine List.ext_getElem? fun k => ?_
      by_cases hk : k < l.length
      · have := List.find?_eq_none.1 hh k (by simp [hk])
        simpa using this
      · rw [List.getElem?_eq_none (by omega), List.getElem?_eq_none (by omega)]
    simp [h_r1_SameInts_0, hl] at g1
    simp [c_r1_SameInts, evW_reg, evW_chkr, evW_chfr, isCst, TK.agg, zeroS, endS, resS, l1, l2, c_r1_SameInts_L0, g1, e]
  | some k =>
    rw [hh] at g1
    have e : ¬ l = m := fun e => by
      subst e
      have := List.find?_some hh
      simp at this
    simp [h_r1_SameInts_0, hl] at g1
    simp [c_r1_SameInts, evW_reg, evW_chkr, evW_chfr, isCst, TK.agg, zeroS, endS, resS, l1, l2, c_r1_SameInts_L0, g1, e]
/-- A content: its cycle, its ages. -/
abbrev Cn := Int × List Int
def Con (y : SV) (c : Cn) : Prop := ∃ a, y = .agg [.int .i64 c.1, a] ∧ Ints a c.2 ∧ c.2.length ≤ 1000000
def Cons (x : SV) (l : List Cn) : Prop := RSl Con x l
theorem Con.np {y : SV} {c : Cn} (h : Con y c) : Sh.np 10 y = true := by
  obtain ⟨a, rfl, h1, _⟩ := h
  exact npAgg (by simp only [List.all_cons, List.all_nil, np_int, h1.npn, Bool.and_true])
theorem elmCon : Elm Con ⟨.struct [(T_int64, 0), (T_sl_int, 1)], 2, 32, some (.agg [.int .i64 0, .nilsl])⟩ :=
  ⟨fun ⟨A, h, _⟩ => by rw [h]; rfl, fun ⟨A, h, _⟩ => by rw [h]; rfl, fun h => h.np, fun ⟨A, h, _⟩ => by rw [h]; rfl⟩
theorem Cons.npE {x : SV} {l : List Cn} (h : Cons x l) : Sh.np picDepth x = true := RSl.npE h elmCon
set_option maxHeartbeats 4000000 in
theorem vote_Same_c (get) {x y : SV} {c d : Cn} (hx : Con x c) (hy : Con y d) : callP (PCw ES) get n_vote_Same [x, y] = some (.bool (decide (c = d))) := by
  have nx := np_le (m := picDepth) (by decide) hx.np
  have ny := np_le (m := picDepth) (by decide) hy.np
  obtain ⟨a, rfl, ha, hla⟩ := hx
  obtain ⟨b, rfl, hb, _⟩ := hy
  refine callP_of (PCw_ex (fun M0 => ?_) rfl) (by simp [nx, ny])
  rw [b_vote_Same]
  have k1 := fun get => slices_Equal_sl_int_int_c get ha hb hla
  obtain ⟨c1, c2⟩ := c
  obtain ⟨d1, d2⟩ := d
  simp only at k1 ⊢
  by_cases h1 : c1 = d1
  · subst h1
    simp (maxSteps := 4000000) [c_vote_Same, evW_reg, evW_chkr, evW_chfr, isCst, loadS, partS, TK.agg, fieldAddrS, zeroS, storeS, setPart, splice, endS, resS, fieldS, k1, sl_cells ha.sl, sl_sto ha.sl, sl_cells hb.sl, sl_sto hb.sl]
  · simp (maxSteps := 4000000) [c_vote_Same, evW_reg, evW_chkr, evW_chfr, isCst, loadS, partS, TK.agg, fieldAddrS, zeroS, storeS, setPart, splice, endS, resS, fieldS, k1, h1, sl_cells ha.sl, sl_sto ha.sl, sl_cells hb.sl, sl_sto hb.sl]
set_option maxHeartbeats 4000000 in
theorem r10_SameContent_c (get) {x y : SV} {c d : Cn} (hx : Con x c) (hy : Con y d) : callP (PCw ES) get n_r10_SameContent [x, y] = some (.bool (decide (c = d))) := by
  have nx := np_le (m := picDepth) (by decide) hx.np
  have ny := np_le (m := picDepth) (by decide) hy.np
  obtain ⟨a, rfl, ha, hla⟩ := hx
  obtain ⟨b, rfl, hb, _⟩ := hy
  refine callP_of (PCw_ex (fun M0 => ?_) rfl) (by simp [nx, ny])
  rw [b_r10_SameContent]
  have k1 := fun get => r1_SameInts_d get ha hb hla
  obtain ⟨c1, c2⟩ := c
  obtain ⟨d1, d2⟩ := d
  simp only at k1 ⊢
  by_cases h1 : c1 = d1
  · subst h1
    simp (maxSteps := 4000000) [c_r10_SameContent, evW_reg, evW_chkr, evW_chfr, isCst, loadS, partS, TK.agg, fieldAddrS, zeroS, storeS, setPart, splice, endS, resS, fieldS, k1, sl_cells ha.sl, sl_sto ha.sl, sl_cells hb.sl, sl_sto hb.sl]
  · simp (maxSteps := 4000000) [c_r10_SameContent, evW_reg, evW_chkr, evW_chfr, isCst, loadS, partS, TK.agg, fieldAddrS, zeroS, storeS, setPart, splice, endS, resS, fieldS, k1, h1, sl_cells ha.sl, sl_sto ha.sl, sl_cells hb.sl, sl_sto hb.sl]
/-- How often it is there. -/
def cnt (c : Cn) (l : List Cn) : Nat := l.countP fun d => decide (c = d)
theorem cnt_take {c : Cn} {l : List Cn} {j : Nat} (h : j < l.length) : cnt c (l.take (j + 1)) = cnt c (l.take j) + (if c = l[j] then 1 else 0) := by
  unfold cnt
  rw [List.take_succ_eq_append_getElem h, List.countP_append]
  simp
theorem cnt_le (c : Cn) (l : List Cn) : cnt c l ≤ l.length := List.countP_le_length
set_option maxHeartbeats 4000000 in
theorem vote_count_c (get) {x y : SV} {l : List Cn} {c : Cn} (hx : Cons x l) (hy : Con y c) (hb : l.length ≤ 1000000) : callP (PCw ES) get n_vote_count [x, y] = some (.int .i64 (cnt c l)) := by
  have ny := np_le (m := picDepth) (by decide) hy.np
  refine callP_of (PCw_ex (fun M0 => ?_) rfl) (by simp [hx.npE, ny])
  rw [b_vote_count]
  have hlx := hx.lenS ti_sl_api_Content
  have hS := fun get {d : Cn} {z : SV} (hz : Con z d) => vote_Same_c get hy hz
  obtain ⟨a, rfl, ha, hla⟩ := hy
  obtain ⟨r, g1, M', rfl⟩ := loop_up (E := ES) (me := n_vote_count) (B := c_vote_count_B0) (len := l.length) (T := fun j => h_vote_count_0 (.ptr M0.next 0 0) (.int .i64 (cnt c (l.take j))) x (.int .i64 l.length) (.int .i64 j))
    (I := fun j M => M.blk M0.next = some [.agg [.int .i64 c.1, a]] ∧ M0.next < M.next) (Q := fun r => ∃ M', r = (.exit 0, ⟨(h_vote_count_0 (.ptr M0.next 0 0) (.int .i64 (cnt c l)) x (.int .i64 l.length) (.int .i64 l.length)).set 11 (.bool false), M'⟩))
    (fun j M hj ⟨i1, i2⟩ => by
      left
      obtain ⟨u, ⟨b, rfl, b1, b2⟩, hu, hi, _⟩ := hx.item ti_sl_api_Content ti_api_Content elmCon hj
      have hw : IntKind.i64.wrap ((j : Int) + 1) = (j : Int) + 1 := i64_in (by omega) (by omega)
      have hcnt : cnt c (l.take j) ≤ j := Nat.le_trans (cnt_le _ _) (by simp; omega)
      have hw2 : IntKind.i64.wrap ((cnt c (l.take j) : Int) + 1) = (cnt c (l.take j) : Int) + 1 := i64_in (by omega) (by omega)
      have hne : ¬ M0.next = M.next + 2 := by omega
      have hcall := fun get => hS get (d := l[j]) ⟨b, rfl, b1, b2⟩
      have hcn := cnt_take (c := c) hj
      refine ⟨(M.bump 4).set (M.next + 2) (some [.agg [.int .i64 l[j].1, b]]), ?_, by simp [hne, i1], by show M0.next < M.next + 4; omega⟩
      by_cases hc : c = l[j]
      · rw [if_pos hc] at hcn
        rw [decide_eq_true hc] at hcall
        simp (maxSteps := 4000000) [c_vote_count_B0, evW_reg, evW_chkr, evW_chfr, isCst, loadS, partS, TK.agg, fieldAddrS, zeroS, storeS, setPart, splice, endS, resS, fieldS, h_vote_count_0, hj, hi, hu, hw, i1, hne, hcall, hw2, hcn, sl_cells ha.sl, sl_sto ha.sl, Mem.set2, sl_cells b1.sl, sl_sto b1.sl]
      · rw [if_neg hc] at hcn
        rw [decide_eq_false hc] at hcall
        simp (maxSteps := 4000000) [c_vote_count_B0, evW_reg, evW_chkr, evW_chfr, isCst, loadS, partS, TK.agg, fieldAddrS, zeroS, storeS, setPart, splice, endS, resS, fieldS, h_vote_count_0, hj, hi, hu, hw, i1, hne, hcall, hcn, sl_cells ha.sl, sl_sto ha.sl, Mem.set2, sl_cells b1.sl, sl_sto b1.sl])
    (fun M ⟨i1, i2⟩ => by
      rw [List.take_length]
      exact ⟨_, by simp [c_vote_count_B0, evW_reg, evW_chkr, evW_chfr, isCst, TK.agg, zeroS, endS, resS, h_vote_count_0], by simp, M, rfl⟩) 0 ((M0.bump 2).set M0.next (some [.agg [.int .i64 c.1, a]])) (by omega) ⟨by simp, by show M0.next < M0.next + 2; omega⟩
  simp [h_vote_count_0, cnt] at g1
  simp [c_vote_count, evW_reg, evW_chkr, evW_chfr, isCst, loadS, partS, TK.agg, fieldAddrS, zeroS, storeS, setPart, splice, endS, resS, fieldS, hlx, c_vote_count_L0, g1, cnt, sl_cells ha.sl, sl_sto ha.sl]
/-- The place that wins, among the first j: and how often it is there. -/
def winUp (l : List Cn) : Nat → Int × Nat
  | 0 => (-1, 0)
  | j + 1 => let r := winUp l j
    match l[j]? with
    | some c => if cnt c l > r.2 then ((j : Int), cnt c l) else r
    | none => r
theorem winUp_succ {l : List Cn} {j : Nat} (h : j < l.length) : winUp l (j + 1) = if cnt l[j] l > (winUp l j).2 then ((j : Int), cnt l[j] l) else winUp l j := by
  simp [winUp, h]
set_option maxHeartbeats 4000000 in
theorem vote_Win_p {x : SV} {l : List Cn} (hx : Cons x l) (hb : l.length ≤ 1000000) : PCw ES n_vote_Win [x] = some (.tup [.int .i64 (winUp l l.length).1, .int .i64 (winUp l l.length).2]) := by
  refine PCw_ex (fun M0 => ?_) rfl
  rw [b_vote_Win]
  have hlx := hx.lenS ti_sl_api_Content
  have hC := fun get {d : Cn} {z : SV} (hz : Con z d) => vote_count_c get hx hz hb
  obtain ⟨r, g1, M', rfl⟩ := loop_up (E := ES) (me := n_vote_Win) (B := c_vote_Win_B0) (len := l.length) (T := fun j => h_vote_Win_0 x (.int .i64 (winUp l j).1) (.int .i64 (winUp l j).2) x (.int .i64 l.length) (.int .i64 j))
    (I := fun j M => True) (Q := fun r => ∃ M', r = (.exit 0, ⟨(h_vote_Win_0 x (.int .i64 (winUp l l.length).1) (.int .i64 (winUp l l.length).2) x (.int .i64 l.length) (.int .i64 l.length)).set 12 (.bool false), M'⟩))
    (fun j M hj _ => by
      left
      obtain ⟨u, ⟨b, rfl, b1, b2⟩, hu, hi, _⟩ := hx.item ti_sl_api_Content ti_api_Content elmCon hj
      have hw : IntKind.i64.wrap ((j : Int) + 1) = (j : Int) + 1 := i64_in (by omega) (by omega)
      have hcall := fun get => hC get (d := l[j]) ⟨b, rfl, b1, b2⟩
      have hcn := winUp_succ hj
      refine ⟨(M.bump 6).set (M.next + 3) (some [.agg [.int .i64 l[j].1, b]]), ?_, trivial⟩
      by_cases hc : cnt l[j] l > (winUp l j).2
      · rw [if_pos hc] at hcn
        rw [hcn]
        simp (maxSteps := 4000000) [c_vote_Win_B0, evW_reg, evW_chkr, evW_chfr, isCst, loadS, partS, TK.agg, fieldAddrS, zeroS, storeS, setPart, splice, endS, resS, fieldS, h_vote_Win_0, hj, hi, hu, hw, hcall, hc, Mem.set2, sl_cells b1.sl, sl_sto b1.sl]
      · rw [if_neg hc] at hcn
        rw [hcn]
        simp (maxSteps := 4000000) [c_vote_Win_B0, evW_reg, evW_chkr, evW_chfr, isCst, loadS, partS, TK.agg, fieldAddrS, zeroS, storeS, setPart, splice, endS, resS, fieldS, h_vote_Win_0, hj, hi, hu, hw, hcall, hc, Mem.set2, sl_cells b1.sl, sl_sto b1.sl])
    (fun M _ => ⟨_, by simp [c_vote_Win_B0, evW_reg, evW_chkr, evW_chfr, isCst, TK.agg, zeroS, endS, resS, h_vote_Win_0], by simp, M, rfl⟩) 0 M0 (by omega) trivial
  simp [h_vote_Win_0, winUp] at g1
  simp [c_vote_Win, evW_reg, evW_chkr, evW_chfr, isCst, TK.agg, zeroS, endS, resS, hlx, c_vote_Win_L0, g1]
theorem vote_Win_c (get) {x : SV} {l : List Cn} (hx : Cons x l) (hb : l.length ≤ 1000000) : callP (PCw ES) get n_vote_Win [x] = some (.tup [.int .i64 (winUp l l.length).1, .int .i64 (winUp l l.length).2]) := callP_of (vote_Win_p hx hb) (by simp [hx.npE])
set_option maxHeartbeats 4000000 in
theorem r10_Win_p {x : SV} {l : List Cn} (hx : Cons x l) (hb : l.length ≤ 1000000) : PCw ES n_r10_Win [x] = some (.tup [.int .i64 (winUp l l.length).1, .int .i64 (winUp l l.length).2]) := by
  refine PCw_ex (fun M0 => ?_) rfl
  rw [b_r10_Win]
  have hlx := hx.lenS ti_sl_api_Content
  have hS := fun get {c d : Cn} {z w : SV} (hw : Con w c) (hz : Con z d) => r10_SameContent_c get hw hz
  obtain ⟨r, g1, M', rfl⟩ := loop_up (E := ES) (me := n_r10_Win) (B := c_r10_Win_B1) (len := l.length) (T := fun j => h_r10_Win_1 x (.int .i64 (winUp l j).1) (.int .i64 (winUp l j).2) (.int .i64 j))
    (I := fun j M => True) (Q := fun r => ∃ M', r = (.exit 0, ⟨(h_r10_Win_1 x (.int .i64 (winUp l l.length).1) (.int .i64 (winUp l l.length).2) (.int .i64 l.length)).set 12 (.bool false), M'⟩))
    (fun j M hj _ => by
      left
      obtain ⟨u, ⟨b, rfl, b1, b2⟩, hu, hi, _⟩ := hx.item ti_sl_api_Content ti_api_Content elmCon hj
      have hw : IntKind.i64.wrap ((j : Int) + 1) = (j : Int) + 1 := i64_in (by omega) (by omega)
      obtain ⟨r, f1, M', rfl⟩ := loop_up (E := ES) (me := n_r10_Win) (B := c_r10_Win_B0) (len := l.length) (T := fun i => h_r10_Win_0 x (.int .i64 (winUp l j).1) (.int .i64 (winUp l j).2) (.int .i64 j) (.int .i64 (cnt l[j] (l.take i))) (.int .i64 i))
        (I := fun i M => True) (Q := fun r => ∃ M', r = (.exit 2, ⟨(h_r10_Win_0 x (.int .i64 (winUp l j).1) (.int .i64 (winUp l j).2) (.int .i64 j) (.int .i64 (cnt l[j] l)) (.int .i64 l.length)).set 18 (.bool false), M'⟩))
        (fun i M hi' _ => by
          left
          obtain ⟨v, ⟨d, rfl, d1, d2⟩, hv, hvi, _⟩ := hx.item ti_sl_api_Content ti_api_Content elmCon hi'
          have hwi : IntKind.i64.wrap ((i : Int) + 1) = (i : Int) + 1 := i64_in (by omega) (by omega)
          have hcnt : cnt l[j] (l.take i) ≤ i := Nat.le_trans (cnt_le _ _) (by simp; omega)
          have hw2 : IntKind.i64.wrap ((cnt l[j] (l.take i) : Int) + 1) = (cnt l[j] (l.take i) : Int) + 1 := i64_in (by omega) (by omega)
          have hcall := fun get => hS get (c := l[j]) (d := l[i]) ⟨b, rfl, b1, b2⟩ ⟨d, rfl, d1, d2⟩
          have hcn := cnt_take (c := l[j]) hi'
          refine ⟨M, ?_, trivial⟩
          by_cases hc : l[j] = l[i]
          · rw [if_pos hc] at hcn
            rw [decide_eq_true hc] at hcall
            simp (maxSteps := 4000000) [c_r10_Win_B0, evW_reg, evW_chkr, evW_chfr, isCst, loadS, partS, TK.agg, fieldAddrS, zeroS, storeS, setPart, splice, endS, resS, fieldS, h_r10_Win_0, hlx, hi', hi, hu, hvi, hv, hwi, hcall, hw2, hcn]
          · rw [if_neg hc] at hcn
            rw [decide_eq_false hc] at hcall
            simp (maxSteps := 4000000) [c_r10_Win_B0, evW_reg, evW_chkr, evW_chfr, isCst, loadS, partS, TK.agg, fieldAddrS, zeroS, storeS, setPart, splice, endS, resS, fieldS, h_r10_Win_0, hlx, hi', hi, hu, hvi, hv, hwi, hcall, hcn])
        (fun M _ => by
          rw [List.take_length]
          exact ⟨_, by simp [c_r10_Win_B0, evW_reg, evW_chkr, evW_chfr, isCst, TK.agg, zeroS, endS, resS, h_r10_Win_0, hlx], by simp, M, rfl⟩) 0 M (by omega) trivial
      simp [h_r10_Win_0, cnt] at f1
      have hcn := winUp_succ hj
      refine ⟨M', ?_, trivial⟩
      by_cases hc : cnt l[j] l > (winUp l j).2
      · rw [if_pos hc] at hcn
        rw [hcn]
        simp only [cnt] at hc ⊢
        simp (maxSteps := 4000000) [c_r10_Win_B1, evW_reg, evW_chkr, evW_chfr, isCst, loadS, partS, TK.agg, fieldAddrS, zeroS, storeS, setPart, splice, endS, resS, fieldS, h_r10_Win_1, hlx, hj, hw, c_r10_Win_L0, f1, hc]
      · rw [if_neg hc] at hcn
        rw [hcn]
        simp only [cnt] at hc
        simp (maxSteps := 4000000) [c_r10_Win_B1, evW_reg, evW_chkr, evW_chfr, isCst, loadS, partS, TK.agg, fieldAddrS, zeroS, storeS, setPart, splice, endS, resS, fieldS, h_r10_Win_1, hlx, hj, hw, c_r10_Win_L0, f1, hc])
    (fun M _ => ⟨_, by simp [c_r10_Win_B1, evW_reg, evW_chkr, evW_chfr, isCst, TK.agg, zeroS, endS, resS, h_r10_Win_1, hlx], by simp, M, rfl⟩) 0 M0 (by omega) trivial
  simp [h_r10_Win_1, winUp] at g1
  simp [c_r10_Win, evW_reg, evW_chkr, evW_chfr, isCst, TK.agg, zeroS, endS, resS, hlx, c_r10_Win_L1, g1]
theorem vote_Enough_c (get) (v f : Int) : callP (PCw ES) get n_vote_Enough [.int .i64 v, .int .i64 f] = some (.bool (decide (0 ≤ f ∧ f ≤ 3 ∧ 2 * f + 1 ≤ v))) := by
  refine callP_of (PCw_ex (fun M0 => ?_) rfl) (by simp)
  rw [b_vote_Enough]
  by_cases h1 : 0 ≤ f
  · by_cases h2 : f ≤ 3
    · have hw : IntKind.i64.wrap (2 * f) = 2 * f := i64_in (by omega) (by omega)
      have hw2 : IntKind.i64.wrap (2 * f + 1) = 2 * f + 1 := i64_in (by omega) (by omega)
      simp [c_vote_Enough, evW_reg, evW_chkr, evW_chfr, isCst, TK.agg, zeroS, endS, resS, h1, h2, hw, hw2]
    · simp [c_vote_Enough, evW_reg, evW_chkr, evW_chfr, isCst, TK.agg, zeroS, endS, resS, h1, h2]
  · simp [c_vote_Enough, evW_reg, evW_chkr, evW_chfr, isCst, TK.agg, zeroS, endS, resS, h1]

end Go.Proofs.Ytaldchogcingbaa

/-
  Walks of the seat's functions: Vb.
-/
set_option linter.unusedVariables false
set_option linter.unusedSimpArgs false
set_option maxRecDepth 100000
namespace Go.Proofs.Ytaldchogcingbaa
open Go.Proofs.Ytaldchogcingbaa.Sh
/-! Frames that were heard, in memory of their own. -/
set_option maxHeartbeats 4000000 in
theorem cloneInts {x : SV} {l : List Int} (hx : Ints x l) (hb : l.length ≤ 1000000) : ∃ y, (∀ get, callP (PCw ES) get n_slices_Clone_sl_int_int [x] = some y) ∧ Ints y l ∧ Sh.pv y = true := by
  have hi := hx.len
  have hu := RSl.unif hx (n := 1) fun y a h => by rw [h]; rfl
  have hp := RSl.pvs hx fun y a h => by rw [h]; rfl
  have hnp : Sh.np picDepth x = true := np_le (by decide) (RSl.np hx (n := 9) fun y a h => by rw [h]; rfl)
  have hap : ∀ (get : Nat → Option (List SV)) (a id : Nat), get id = some [] → appendS ES.P get a T_sl_int T_sl_int (.own id 1 0 0) x = _ := fun get a id hg =>
    appendS_own (te := ⟨.int .i64, 1, 8, some (.int .i64 0)⟩) (xs := []) ti_sl_int ti_sl_int ti_int rfl (itemsS_sl hx.sl) (by simp) hu (srcFits_sl hx.sl) rfl rfl hg (by simp) (by simp; omega) (by simp; omega)
  by_cases hn : x = .nilsl
  · subst hn
    have hl : l = [] := by simpa [its] using hi.symm
    subst hl
    refine ⟨.nilsl, fun get => callP_of (PCw_ex (fun M => ?_) rfl) rfl, hx, rfl⟩
    rw [b_slices_Clone_sl_int_int]
    simp [c_slices_Clone_sl_int_int, evW_reg, evW_chkr, evW_chfr, isCst, loadS, partS, TK.agg, fieldAddrS, zeroS, storeS, setPart, splice, endS, resS, fieldS, binS, eqS]
  · have he : ∀ (q : Bool), binS ES.P .eql T_sl_int q x .nilsl = some (.bool false) := by
      intro q
      have hs := hx.sl
      cases x <;> simp [isSl] at hs
      · exact absurd rfl hn
      · simp [binS, eqS]
    have b : ∀ q, bldSl ES.P T_sl_int 0 q [] = some (.own q 1 0 0, []) := fun q => by simp [bldSl, buildRow]
    refine ⟨.sl (its x) .ro, fun get => callP_of (PCw_own (esz := 1) (fun M => ?_) hp) (by simp [hnp]), hx.of_its rfl rfl, by simp [Sh.pv, pv_items hp]⟩
    rw [b_slices_Clone_sl_int_int]
    by_cases h0 : its x = []
    · have hap' : ∀ (get : Nat → Option (List SV)) (a id : Nat), get id = some [] → appendS ES.P get a T_sl_int T_sl_int (.own id 1 0 0) x = some (.own id 1 0 0, []) := fun get a id hg => by rw [hap get a id hg, h0]; rfl
      rw [h0]
      refine ⟨(M.bump 4).set M.next (some []), M.next, ?_, by simp⟩
      simp [c_slices_Clone_sl_int_int, evW_reg, evW_chkr, evW_chfr, isCst, loadS, partS, TK.agg, fieldAddrS, zeroS, storeS, setPart, splice, endS, resS, fieldS, he, b, hap']
    · have hap' : ∀ (get : Nat → Option (List SV)) (a id : Nat), get id = some [] → appendS ES.P get a T_sl_int T_sl_int (.own id 1 0 0) x = some (.own a 1 0 (its x).length, [(id, none), (a, some (its x))]) := fun get a id hg => by
        rw [hap get a id hg]
        simp [h0]
      refine ⟨(((M.bump 4).set M.next (some [])).set M.next none).set (M.next + 2) (some (its x)), M.next + 2, ?_, by simp⟩
      simp [c_slices_Clone_sl_int_int, evW_reg, evW_chkr, evW_chfr, isCst, loadS, partS, TK.agg, fieldAddrS, zeroS, storeS, setPart, splice, endS, resS, fieldS, he, b, hap']
set_option maxHeartbeats 4000000 in
theorem cloneBytes {x : SV} {l : List Int} (hx : Bytes x l) (hb : l.length ≤ 1000000) : ∃ y, (∀ get, callP (PCw ES) get n_slices_Clone_sl_byte_byte [x] = some y) ∧ Bytes y l ∧ Sh.pv y = true := by
  have hi := hx.len
  have hu := RSl.unif hx (n := 1) fun y a h => by rw [h]; rfl
  have hp := RSl.pvs hx fun y a h => by rw [h]; rfl
  have hnp : Sh.np picDepth x = true := np_le (by decide) (RSl.np hx (n := 9) fun y a h => by rw [h]; rfl)
  have hap : ∀ (get : Nat → Option (List SV)) (a id : Nat), get id = some [] → appendS ES.P get a T_sl_uint8 T_sl_uint8 (.own id 1 0 0) x = _ := fun get a id hg =>
    appendS_own (te := ⟨.int .u8, 1, 1, some (.int .u8 0)⟩) (xs := []) ti_sl_uint8 ti_sl_uint8 ti_uint8 rfl (itemsS_sl hx.sl) (by simp) hu (srcFits_sl hx.sl) rfl rfl hg (by simp) (by simp; omega) (by simp; omega)
  by_cases hn : x = .nilsl
  · subst hn
    have hl : l = [] := by simpa [its] using hi.symm
    subst hl
    refine ⟨.nilsl, fun get => callP_of (PCw_ex (fun M => ?_) rfl) rfl, hx, rfl⟩
    rw [b_slices_Clone_sl_byte_byte]
    simp [c_slices_Clone_sl_byte_byte, evW_reg, evW_chkr, evW_chfr, isCst, loadS, partS, TK.agg, fieldAddrS, zeroS, storeS, setPart, splice, endS, resS, fieldS, binS, eqS]
  · have he : ∀ (q : Bool), binS ES.P .eql T_sl_uint8 q x .nilsl = some (.bool false) := by
      intro q
      have hs := hx.sl
      cases x <;> simp [isSl] at hs
      · exact absurd rfl hn
      · simp [binS, eqS]
    have b : ∀ q, bldSl ES.P T_sl_uint8 0 q [] = some (.own q 1 0 0, []) := fun q => by simp [bldSl, buildRow]
    refine ⟨.sl (its x) .ro, fun get => callP_of (PCw_own (esz := 1) (fun M => ?_) hp) (by simp [hnp]), hx.of_its rfl rfl, by simp [Sh.pv, pv_items hp]⟩
    rw [b_slices_Clone_sl_byte_byte]
    by_cases h0 : its x = []
    · have hap' : ∀ (get : Nat → Option (List SV)) (a id : Nat), get id = some [] → appendS ES.P get a T_sl_uint8 T_sl_uint8 (.own id 1 0 0) x = some (.own id 1 0 0, []) := fun get a id hg => by rw [hap get a id hg, h0]; rfl
      rw [h0]
      refine ⟨(M.bump 4).set M.next (some []), M.next, ?_, by simp⟩
      simp [c_slices_Clone_sl_byte_byte, evW_reg, evW_chkr, evW_chfr, isCst, loadS, partS, TK.agg, fieldAddrS, zeroS, storeS, setPart, splice, endS, resS, fieldS, he, b, hap']
    · have hap' : ∀ (get : Nat → Option (List SV)) (a id : Nat), get id = some [] → appendS ES.P get a T_sl_uint8 T_sl_uint8 (.own id 1 0 0) x = some (.own a 1 0 (its x).length, [(id, none), (a, some (its x))]) := fun get a id hg => by
        rw [hap get a id hg]
        simp [h0]
      refine ⟨(((M.bump 4).set M.next (some [])).set M.next none).set (M.next + 2) (some (its x)), M.next + 2, ?_, by simp⟩
      simp [c_slices_Clone_sl_byte_byte, evW_reg, evW_chkr, evW_chfr, isCst, loadS, partS, TK.agg, fieldAddrS, zeroS, storeS, setPart, splice, endS, resS, fieldS, he, b, hap']
set_option maxHeartbeats 4000000 in
theorem copyInts {x : SV} {l : List Int} (hx : Ints x l) (hb : l.length ≤ 1000000) : ∃ y, (∀ get, callP (PCw ES) get n_r1_Ints [x] = some y) ∧ Ints y l ∧ Sh.pv y = true := by
  have hi := hx.len
  have hu := RSl.unif hx (n := 1) fun y a h => by rw [h]; rfl
  have hp := RSl.pvs hx fun y a h => by rw [h]; rfl
  have hnp : Sh.np picDepth x = true := np_le (by decide) (RSl.np hx (n := 9) fun y a h => by rw [h]; rfl)
  have hap : ∀ (get : Nat → Option (List SV)) (a : Nat), appendS ES.P get a T_sl_int T_sl_int .nilsl x = _ := fun get a =>
    appendS_nil (te := ⟨.int .i64, 1, 8, some (.int .i64 0)⟩) ti_sl_int ti_sl_int ti_int rfl (itemsS_sl hx.sl) (by simp) hu (srcFits_sl hx.sl) rfl rfl (by simp; omega) (by omega)
  by_cases h0 : its x = []
  · have hl : l = [] := by
      rw [h0] at hi
      exact List.length_eq_zero_iff.1 hi.symm
    subst hl
    refine ⟨.nilsl, fun get => callP_of (PCw_ex (fun M => ?_) rfl) (by simp [hnp]), RSl.nil _, rfl⟩
    rw [b_r1_Ints]
    simp [c_r1_Ints, evW_reg, evW_chkr, evW_chfr, isCst, loadS, partS, TK.agg, fieldAddrS, zeroS, storeS, setPart, splice, endS, resS, fieldS, hap, h0]
  · have hap' : ∀ (get : Nat → Option (List SV)) (a : Nat), appendS ES.P get a T_sl_int T_sl_int .nilsl x = some (.own a 1 0 (its x).length, [(a, some (its x))]) := fun get a => by
      rw [hap get a]
      simp [h0]
    refine ⟨.sl (its x) .ro, fun get => callP_of (PCw_own (esz := 1) (fun M => ?_) hp) (by simp [hnp]), hx.of_its rfl rfl, by simp [Sh.pv, pv_items hp]⟩
    rw [b_r1_Ints]
    refine ⟨(M.bump 3).set (M.next + 1) (some (its x)), M.next + 1, ?_, by simp⟩
    simp [c_r1_Ints, evW_reg, evW_chkr, evW_chfr, isCst, loadS, partS, TK.agg, fieldAddrS, zeroS, storeS, setPart, splice, endS, resS, fieldS, hap']
set_option maxHeartbeats 4000000 in
theorem copyBytes {x : SV} {l : List Int} (hx : Bytes x l) (hb : l.length ≤ 1000000) : ∃ y, (∀ get, callP (PCw ES) get n_r1_Copy [x] = some y) ∧ Bytes y l ∧ Sh.pv y = true := by
  have hi := hx.len
  have hu := RSl.unif hx (n := 1) fun y a h => by rw [h]; rfl
  have hp := RSl.pvs hx fun y a h => by rw [h]; rfl
  have hnp : Sh.np picDepth x = true := np_le (by decide) (RSl.np hx (n := 9) fun y a h => by rw [h]; rfl)
  have hap : ∀ (get : Nat → Option (List SV)) (a : Nat), appendS ES.P get a T_sl_uint8 T_sl_uint8 .nilsl x = _ := fun get a =>
    appendS_nil (te := ⟨.int .u8, 1, 1, some (.int .u8 0)⟩) ti_sl_uint8 ti_sl_uint8 ti_uint8 rfl (itemsS_sl hx.sl) (by simp) hu (srcFits_sl hx.sl) rfl rfl (by simp; omega) (by omega)
  by_cases h0 : its x = []
  · have hl : l = [] := by
      rw [h0] at hi
      exact List.length_eq_zero_iff.1 hi.symm
    subst hl
    refine ⟨.nilsl, fun get => callP_of (PCw_ex (fun M => ?_) rfl) (by simp [hnp]), RSl.nil _, rfl⟩
    rw [b_r1_Copy]
    simp [c_r1_Copy, evW_reg, evW_chkr, evW_chfr, isCst, loadS, partS, TK.agg, fieldAddrS, zeroS, storeS, setPart, splice, endS, resS, fieldS, hap, h0]
  · have hap' : ∀ (get : Nat → Option (List SV)) (a : Nat), appendS ES.P get a T_sl_uint8 T_sl_uint8 .nilsl x = some (.own a 1 0 (its x).length, [(a, some (its x))]) := fun get a => by
      rw [hap get a]
      simp [h0]
    refine ⟨.sl (its x) .ro, fun get => callP_of (PCw_own (esz := 1) (fun M => ?_) hp) (by simp [hnp]), hx.of_its rfl rfl, by simp [Sh.pv, pv_items hp]⟩
    rw [b_r1_Copy]
    refine ⟨(M.bump 3).set (M.next + 1) (some (its x)), M.next + 1, ?_, by simp⟩
    simp [c_r1_Copy, evW_reg, evW_chkr, evW_chfr, isCst, loadS, partS, TK.agg, fieldAddrS, zeroS, storeS, setPart, splice, endS, resS, fieldS, hap']
/-- A frame that was heard, whose lists are short. -/
def hdOk (h : Heard) : Prop := h.f.ages.length ≤ 1000000 ∧ h.f.body.length ≤ 1000000
def HdO (y : SV) (h : Heard) : Prop := ∃ A B, y = .agg (hdC h A B) ∧ Ints A h.f.ages ∧ Bytes B h.f.body ∧ Sh.pv A = true ∧ Sh.pv B = true
theorem HdO.r {y : SV} {h : Heard} (hy : HdO y h) : HdR y h := by
  obtain ⟨A, B, e, hA, hB, _, _⟩ := hy
  exact ⟨A, B, e, hA, hB⟩
theorem HdO.pv {y : SV} {h : Heard} (hy : HdO y h) : Sh.pv y = true := by
  obtain ⟨A, B, rfl, _, _, h1, h2⟩ := hy
  simp [Sh.pv, pvs, hdC, h1, h2]
set_option maxHeartbeats 8000000 in
theorem vote_clone_c {y : SV} {h : Heard} (hy : HdR y h) (hk : hdOk h) : ∃ z, (∀ get, callP (PCw ES) get n_vote_clone [y] = some z) ∧ HdO z h := by
  obtain ⟨A, B, rfl, hA, hB⟩ := hy
  obtain ⟨A', a1, a2, a3⟩ := cloneInts hA hk.1
  obtain ⟨B', b1, b2, b3⟩ := cloneBytes hB hk.2
  have hz : HdO (.agg (hdC h A' B')) h := ⟨A', B', rfl, a2, b2, a3, b3⟩
  refine ⟨.agg (hdC h A' B'), fun get => callP_of (PCw_ex (fun M => ?_) hz.pv) (by simp [np_le (m := picDepth) (by decide) (hdNp hA hB)]), hz⟩
  rw [b_vote_clone]
  simp (maxSteps := 4000000) [c_vote_clone, evW_reg, evW_chkr, evW_chfr, isCst, loadS, partS, TK.agg, fieldAddrS, zeroS, storeS, setPart, splice, endS, resS, fieldS, hdC, splice, a1, b1, sl_cells hA.sl, sl_sto hA.sl, sl_cells hB.sl, sl_sto hB.sl, sl_cells a2.sl, sl_sto a2.sl, sl_cells b2.sl, sl_sto b2.sl]
set_option maxHeartbeats 8000000 in
theorem r10_CopyHeard_c {y : SV} {h : Heard} (hy : HdR y h) (hk : hdOk h) : ∃ z, (∀ get, callP (PCw ES) get n_r10_CopyHeard [y] = some z) ∧ HdO z h := by
  obtain ⟨A, B, rfl, hA, hB⟩ := hy
  obtain ⟨A', a1, a2, a3⟩ := copyInts hA hk.1
  obtain ⟨B', b1, b2, b3⟩ := copyBytes hB hk.2
  have hz : HdO (.agg (hdC h A' B')) h := ⟨A', B', rfl, a2, b2, a3, b3⟩
  refine ⟨.agg (hdC h A' B'), fun get => callP_of (PCw_ex (fun M => ?_) hz.pv) (by simp [np_le (m := picDepth) (by decide) (hdNp hA hB)]), hz⟩
  rw [b_r10_CopyHeard]
  simp (maxSteps := 4000000) [c_r10_CopyHeard, evW_reg, evW_chkr, evW_chfr, isCst, loadS, partS, TK.agg, fieldAddrS, zeroS, storeS, setPart, splice, endS, resS, fieldS, hdC, splice, a1, b1, sl_cells hA.sl, sl_sto hA.sl, sl_cells hB.sl, sl_sto hB.sl, sl_cells a2.sl, sl_sto a2.sl, sl_cells b2.sl, sl_sto b2.sl]
set_option maxHeartbeats 4000000 in
theorem vote_Of_c {f : Frame} {A B : SV} (hA : Ints A f.ages) (hB : Bytes B f.body) (hl : f.ages.length ≤ 1000000) : ∃ z, (∀ get, callP (PCw ES) get n_vote_Of [.agg (frC f A B)] = some z) ∧ Con z (f.cycle, f.ages) ∧ Sh.pv z = true := by
  obtain ⟨A', a1, a2, a3⟩ := cloneInts hA hl
  have hz : Sh.pv (.agg [.int .i64 f.cycle, A']) = true := by simp [Sh.pv, pvs, a3]
  have hnp : Sh.np 10 (.agg (frC f A B)) = true := by
    have h9 := hA.npn
    have h8 := hB.np9
    have hb : ∀ b, Sh.np 9 (.bool b) = true := fun b => np_of_pv rfl 9
    exact npAgg (by simp only [frC, List.all_cons, List.all_nil, np_int, hb, h9, h8, Bool.and_true])
  refine ⟨.agg [.int .i64 f.cycle, A'], fun get => callP_of (PCw_ex (fun M => ?_) hz) (by simp [np_le (m := picDepth) (by decide) hnp]), ⟨A', rfl, a2, hl⟩, hz⟩
  rw [b_vote_Of]
  simp (maxSteps := 4000000) [c_vote_Of, evW_reg, evW_chkr, evW_chfr, isCst, loadS, partS, TK.agg, fieldAddrS, zeroS, storeS, setPart, splice, endS, resS, fieldS, frC, bldS, placesOf, buildS, splice, a1, sl_cells hA.sl, sl_sto hA.sl, sl_cells hB.sl, sl_sto hB.sl, sl_cells a2.sl, sl_sto a2.sl]

end Go.Proofs.Ytaldchogcingbaa
