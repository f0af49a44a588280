/-
  Walks of the seat's functions: Sh.
-/
import Derived.Test.YtjhlibdiojepaaaGreatDoorEbMa
import Derived.Test.YtjhlibdiojepaaaGreatDoorShMb
import Derived.Test.YtjhlibdiojepaaaGreatDoorLzMk
set_option linter.unusedVariables false
set_option linter.unusedSimpArgs false
set_option maxRecDepth 100000
namespace Go.Proofs.YtjhlibdiojepaaaGreatDoor
open Go.Proofs.YtjhlibdiojepaaaGreatDoor.Sh
/-! The program's ages: Fresh, Next, Alive, Root, At; the document's Fresh. -/
@[simp] theorem ages_bound_c (get) (g : Int) : callP (PCw ES) get n_ages_bound [.int .i64 g] = some (.int .i64 (boundG g)) := by
  refine callP_of (PCw_ex (fun M0 => ?_) rfl) (by simp)
  rw [b_ages_bound]
  simp [c_ages_bound, evW_reg, evW_chkr, isCst, TK.agg, zeroS, endS, resS, boundG]
theorem ages_at_c (get) {x : SV} {l : List Int} (hx : Ints x l) (i g : Int) : callP (PCw ES) get n_ages_at [x, .int .i64 i, .int .i64 g] = some (.int .i64 (atG l i g)) := by
  refine callP_of (PCw_ex (fun M0 => ?_) rfl) (by simp [hx.np12])
  rw [b_ages_at]
  have hl := hx.lenS ti_sl_int
  by_cases h0 : i < 0
  · have e : atG l i g = g := by unfold atG; rw [if_neg (by omega)]
    simp [c_ages_at, evW_reg, evW_chkr, isCst, TK.agg, zeroS, endS, resS, h0, e]
  · obtain ⟨j, rfl⟩ : ∃ j : Nat, i = j := ⟨i.toNat, by omega⟩
    rw [atG_nat]
    by_cases hj : j < l.length
    · have ha := Ints.at hx hj
      have hd := Ints.ld hj
      have h1 : ¬ (l.length : Int) ≤ j := by omega
      simp [c_ages_at, evW_reg, evW_chkr, isCst, TK.agg, zeroS, endS, resS, h0, hl, h1, ha, hd, hj]
    · have h1 : (l.length : Int) ≤ j := by omega
      have e : l[j]? = none := by simp; omega
      simp [c_ages_at, evW_reg, evW_chkr, isCst, TK.agg, zeroS, endS, resS, h0, hl, h1, e]
theorem ages_At_c (get) {x : SV} {l : List Int} (hx : Ints x l) (i gone : Int) : callP (PCw ES) get n_ages_At [x, .int .i64 i, .int .i64 gone] = some (.int .i64 (atG l i (boundG gone))) := by
  refine callP_of (PCw_ex (fun M0 => ?_) rfl) (by simp [hx.np12])
  rw [b_ages_At]
  have k := fun get => ages_at_c get hx i (boundG gone)
  simp [c_ages_At, evW_reg, evW_chkr, isCst, TK.agg, zeroS, endS, resS, k]
set_option maxHeartbeats 4000000 in
theorem ages_Next_in {x y o : SV} {heard : List (List Int)} (hy : Lists y heard) (hb : heard.length ≤ 1000000) (self g i a t18 t19 : Int) (hg : 0 ≤ g ∧ g ≤ 201) (M : Mem) :
    evW ES n_ages_Next (.loop c_ages_Next_B0) ⟨h_ages_Next_0 x (.int .i64 self) y (.int .i64 g) o (.int .i64 i) (.int .i64 (a + 1)) (.int .i64 t18) (.int .i64 t19) y (.int .i64 heard.length) (.int .i64 0), M⟩ =
      some (.exit 2, ⟨(h_ages_Next_0 x (.int .i64 self) y (.int .i64 g) o (.int .i64 i) (.int .i64 (leastA a heard i g + 1)) (.int .i64 t18) (.int .i64 t19) y (.int .i64 heard.length) (.int .i64 heard.length)).set 30 (.bool false), M⟩) := by
  have hl := hy.lenS ti_sl_sl_int
  obtain ⟨r, g1, M1, rfl, rfl⟩ := loop_up (E := ES) (me := n_ages_Next) (B := c_ages_Next_B0) (len := heard.length) (T := fun j => h_ages_Next_0 x (.int .i64 self) y (.int .i64 g) o (.int .i64 i) (.int .i64 (leastA a (heard.take j) i g + 1)) (.int .i64 t18) (.int .i64 t19) y (.int .i64 heard.length) (.int .i64 j)) (I := fun _ M' => M' = M)
    (Q := fun r => ∃ M1, r = (.exit 2, ⟨(h_ages_Next_0 x (.int .i64 self) y (.int .i64 g) o (.int .i64 i) (.int .i64 (leastA a heard i g + 1)) (.int .i64 t18) (.int .i64 t19) y (.int .i64 heard.length) (.int .i64 heard.length)).set 30 (.bool false), M1⟩) ∧ M1 = M)
    (fun j M' hj hI => by
      subst hI
      left
      have hw : IntKind.i64.wrap ((j : Int) + 1) = (j : Int) + 1 := i64_in (by omega) (by omega)
      obtain ⟨z, hz, _, q1, q2⟩ := RSl.item hy ti_sl_sl_int ti_sl_int elmLists hj
      have k := fun get => ages_at_c get hz.1 i g
      have hat := atG_in hg.1 heard[j] i
      have hw2 : IntKind.i64.wrap (atG heard[j] i g + 1) = atG heard[j] i g + 1 := i64_in (by omega) (by omega)
      have e : min (leastA a (heard.take j) i g + 1) (atG heard[j] i g + 1) = leastA a (heard.take (j + 1)) i g + 1 := by rw [leastA_take hj]; omega
      exact ⟨M', by simp [c_ages_Next_B0, evW_reg, evW_chkr, isCst, TK.agg, zeroS, endS, resS, h_ages_Next_0, hl, hj, q1, q2, k, hw, hw2, e], rfl⟩)
    (fun M' hI => by
      subst hI
      rw [List.take_length]
      exact ⟨_, by simp [c_ages_Next_B0, evW_reg, evW_chkr, isCst, TK.agg, zeroS, endS, resS, h_ages_Next_0, hl], by simp, M', rfl, rfl⟩) 0 M (by omega) rfl
  exact g1
set_option maxHeartbeats 4000000 in
theorem ages_Next_c {x y : SV} {own : List Int} {heard : List (List Int)} (hx : Ints x own) (hy : Lists y heard) (hb : heard.length ≤ 1000000) (self gone : Int) :
    ∃ z, (∀ get, callP (PCw ES) get n_ages_Next [x, .int .i64 self, y, .int .i64 gone] = some z) ∧ Ints z (nextG own self heard gone) ∧ Sh.pv z = true := by
  obtain ⟨z, items, k1, k2, k5, k6, k7⟩ := PCw_out (E := ES) (f := n_ages_Next) (esz := 1) (args := [x, .int .i64 self, y, .int .i64 gone]) (Pr := fun items => items = intSV (nextG own self heard gone)) (fun M0 => by
    rw [b_ages_Next]
    have hl := hx.lenS ti_sl_int
    have hly := hy.lenS ti_sl_sl_int
    have hbg := boundG_in gone
    unfold nextG
    generalize hg : boundG gone = g at *
    have hmin : min (own.length : Int) 6 = ((min own.length 6 : Nat) : Int) := by omega
    generalize hK : min own.length 6 = K at *
    obtain ⟨r, g1, Ma, oa, rfl, ia⟩ := loop_st (E := ES) (me := n_ages_Next) (B := c_ages_Next_B1) (β := SV) (len := K) (T := fun j o => h_ages_Next_1 x (.int .i64 self) y (.int .i64 g) o (.int .i64 K) (.int .i64 j))
      (I := fun j o M => OutR 1 o M (intSV ((List.range j).map (nextAt own self heard g))))
      (Q := fun r => ∃ M' o, r = (.exit 0, ⟨(h_ages_Next_1 x (.int .i64 self) y (.int .i64 g) o (.int .i64 K) (.int .i64 K)).set 20 (.bool false), M'⟩) ∧ OutR 1 o M' (intSV ((List.range K).map (nextAt own self heard g))))
      (fun j o M hj hI => by
        left
        have hw : IntKind.i64.wrap ((j : Int) + 1) = (j : Int) + 1 := i64_in (by omega) (by omega)
        have k0 := fun get => ages_at_c get hx j g
        have hin := ages_Next_in (x := x) (o := o) hy hb self g j (atG own j g) K j hbg M
        simp [h_ages_Next_0] at hin
        have hat := atG_in hbg.1 own (j : Int)
        have hw2 : IntKind.i64.wrap (atG own j g + 1) = atG own j g + 1 := i64_in (by omega) (by omega)
        obtain ⟨o', X', a1, a2, a3, a4, a5, a6⟩ := int_next (get := ((M.bump 5).set (M.next + 2) (some [.int .i64 (nextAt own self heard g j)])).blk) (X := (M.bump 5).set (M.next + 2) (some [.int .i64 (nextAt own self heard g j)])) (a := M.next + 3) (s := M.next + 2) (v := nextAt own self heard g j) hI (by simp; omega)
          (fun id hid => by
            have e : ¬ id = M.next + 2 := by omega
            simp [e]) (by simp) (fun id hid => by
            have e : ¬ id = M.next + 2 := by omega
            simp [e]) (by simp) (by omega)
        refine ⟨o', X', ?_, by simpa [List.range_succ] using a3⟩
        unfold nextAt at a1 a2
        have b : ∀ v : Int, bldSl ES.P T_sl_int 1 (M.next + 2) [(0, .int .i64 v)] = some (.own (M.next + 2) 1 0 1, [.int .i64 v]) := fun v => by simp [bldSl, buildRow]
        by_cases hs : (j : Int) = self
        · rw [if_pos hs] at a1 a2
          try simp at a1 a2
          subst hs
          simp [c_ages_Next_B1, evW_reg, evW_chkr, isCst, TK.agg, zeroS, endS, resS, h_ages_Next_1, hly, hj, k0, c_ages_Next_L0, hin, hw2, b, a1, a2, hw]
        · rw [if_neg hs] at a1 a2
          try simp at a1 a2
          simp [c_ages_Next_B1, evW_reg, evW_chkr, isCst, TK.agg, zeroS, endS, resS, h_ages_Next_1, hly, hj, k0, c_ages_Next_L0, hin, hw2, hs, b, a1, a2, hw])
      (fun o M hI => ⟨_, by simp [c_ages_Next_B1, evW_reg, evW_chkr, isCst, TK.agg, zeroS, endS, resS, h_ages_Next_1], by simp, M, o, rfl, hI⟩) 0 .nilsl M0 (by omega) (.inl ⟨rfl, rfl⟩)
    simp [h_ages_Next_1] at g1
    refine ⟨oa, Ma, _, ?_, ia, rfl⟩
    simp [c_ages_Next, evW_reg, evW_chkr, isCst, TK.agg, zeroS, endS, resS, hl, hg, hmin, c_ages_Next_L1, g1]) (fun items h y hy => by
      subst h
      exact intSV_pv _ y hy)
  subst k2
  exact ⟨z, fun get => callP_of k1 (by simp [hx.np12, hy.npE elmLists]), RSl.of_map k5 k6, k7⟩
set_option maxHeartbeats 4000000 in
theorem ages_Fresh_c (parts self gone : Int) : ∃ z, (∀ get, callP (PCw ES) get n_ages_Fresh [.int .i64 parts, .int .i64 self, .int .i64 gone] = some z) ∧ Ints z (freshG parts self gone) ∧ Sh.pv z = true := by
  obtain ⟨z, items, k1, k2, k5, k6, k7⟩ := PCw_out (E := ES) (f := n_ages_Fresh) (esz := 1) (args := [.int .i64 parts, .int .i64 self, .int .i64 gone]) (Pr := fun items => items = intSV (freshG parts self gone)) (fun M0 => by
    rw [b_ages_Fresh]
    unfold freshG
    have hK : ((min parts 6).toNat : Int) = max (min parts 6) 0 := by omega
    have hK6 : (min parts 6).toNat ≤ 6 := by omega
    generalize hKK : (min parts 6).toNat = K at *
    obtain ⟨r, g1, Ma, oa, rfl, ia⟩ := loop_st (E := ES) (me := n_ages_Fresh) (B := c_ages_Fresh_B0) (β := SV) (len := K) (T := fun j o => h_ages_Fresh_0 (.int .i64 self) (.int .i64 gone) o (.int .i64 (min parts 6)) (.int .i64 j))
      (I := fun j o M => OutR 1 o M (intSV ((List.range j).map (freshAt self gone))))
      (Q := fun r => ∃ M' o, r = (.exit 0, ⟨(h_ages_Fresh_0 (.int .i64 self) (.int .i64 gone) o (.int .i64 (min parts 6)) (.int .i64 K)).set 13 (.bool false), M'⟩) ∧ OutR 1 o M' (intSV ((List.range K).map (freshAt self gone))))
      (fun j o M hj hI => by
        left
        have hw : IntKind.i64.wrap ((j : Int) + 1) = (j : Int) + 1 := i64_in (by omega) (by omega)
        have hj' : (j : Int) < min parts 6 := by omega
        obtain ⟨o', X', a1, a2, a3, a4, a5, a6⟩ := int_next (get := ((M.bump 5).set (M.next + 2) (some [.int .i64 (freshAt self gone j)])).blk) (X := (M.bump 5).set (M.next + 2) (some [.int .i64 (freshAt self gone j)])) (a := M.next + 3) (s := M.next + 2) (v := freshAt self gone j) hI (by simp; omega)
          (fun id hid => by
            have e : ¬ id = M.next + 2 := by omega
            simp [e]) (by simp) (fun id hid => by
            have e : ¬ id = M.next + 2 := by omega
            simp [e]) (by simp) (by omega)
        refine ⟨o', X', ?_, by simpa [List.range_succ] using a3⟩
        unfold freshAt at a1 a2
        generalize min parts 6 = mp at hj'
        have b : ∀ v : Int, bldSl ES.P T_sl_int 1 (M.next + 2) [(0, .int .i64 v)] = some (.own (M.next + 2) 1 0 1, [.int .i64 v]) := fun v => by simp [bldSl, buildRow]
        by_cases hs : (j : Int) = self
        · rw [if_pos hs] at a1 a2
          try simp at a1 a2
          subst hs
          simp [c_ages_Fresh_B0, evW_reg, evW_chkr, isCst, TK.agg, zeroS, endS, resS, h_ages_Fresh_0, hj', b, a1, a2, hw]
        · rw [if_neg hs] at a1 a2
          try simp at a1 a2
          simp [c_ages_Fresh_B0, evW_reg, evW_chkr, isCst, TK.agg, zeroS, endS, resS, h_ages_Fresh_0, hj', hs, b, a1, a2, hw])
      (fun o M hI => by
        have hn : ¬ (K : Int) < min parts 6 := by omega
        generalize min parts 6 = mp at *
        exact ⟨_, by simp [c_ages_Fresh_B0, evW_reg, evW_chkr, isCst, TK.agg, zeroS, endS, resS, h_ages_Fresh_0, hn], by simp, M, o, rfl, hI⟩) 0 .nilsl M0 (by omega) (.inl ⟨rfl, rfl⟩)
    generalize hmp : min parts 6 = mp at *
    simp [h_ages_Fresh_0] at g1
    refine ⟨oa, Ma, _, ?_, ia, rfl⟩
    simp [c_ages_Fresh, evW_reg, evW_chkr, isCst, TK.agg, zeroS, endS, resS, hmp, c_ages_Fresh_L0, g1]) (fun items h y hy => by
      subst h
      exact intSV_pv _ y hy)
  subst k2
  exact ⟨z, fun get => callP_of k1 (by simp), RSl.of_map k5 k6, k7⟩
set_option maxHeartbeats 4000000 in
theorem r10_Fresh_c (parts self gone : Int) : ∃ z, (∀ get, callP (PCw ES) get n_r10_Fresh [.int .i64 parts, .int .i64 self, .int .i64 gone] = some z) ∧ Ints z (freshG parts self gone) ∧ Sh.pv z = true := by
  obtain ⟨z, items, k1, k2, k5, k6, k7⟩ := PCw_out (E := ES) (f := n_r10_Fresh) (esz := 1) (args := [.int .i64 parts, .int .i64 self, .int .i64 gone]) (Pr := fun items => items = intSV (freshG parts self gone)) (fun M0 => by
    rw [b_r10_Fresh]
    unfold freshG
    have hK : ((min parts 6).toNat : Int) = max (min parts 6) 0 := by omega
    have hK6 : (min parts 6).toNat ≤ 6 := by omega
    generalize hKK : (min parts 6).toNat = K at *
    obtain ⟨r, g1, Ma, oa, rfl, ia⟩ := loop_st (E := ES) (me := n_r10_Fresh) (B := c_r10_Fresh_B0) (β := SV) (len := K) (T := fun j o => h_r10_Fresh_0 (.int .i64 parts) (.int .i64 self) (.int .i64 gone) o (.int .i64 j))
      (I := fun j o M => OutR 1 o M (intSV ((List.range j).map (freshAt self gone))))
      (Q := fun r => ∃ M' o, r = (.exit 0, ⟨(h_r10_Fresh_0 (.int .i64 parts) (.int .i64 self) (.int .i64 gone) o (.int .i64 K)).set 16 (.bool false), M'⟩) ∧ OutR 1 o M' (intSV ((List.range K).map (freshAt self gone))))
      (fun j o M hj hI => by
        left
        have hw : IntKind.i64.wrap ((j : Int) + 1) = (j : Int) + 1 := i64_in (by omega) (by omega)
        have hj' : (j : Int) < parts := by omega
        have hj6 : (j : Int) < 6 := by omega
        obtain ⟨o', X', a1, a2, a3, a4, a5, a6⟩ := int_next (get := ((M.bump 5).set (M.next + 2) (some [.int .i64 (freshAt self gone j)])).blk) (X := (M.bump 5).set (M.next + 2) (some [.int .i64 (freshAt self gone j)])) (a := M.next + 3) (s := M.next + 2) (v := freshAt self gone j) hI (by simp; omega)
          (fun id hid => by
            have e : ¬ id = M.next + 2 := by omega
            simp [e]) (by simp) (fun id hid => by
            have e : ¬ id = M.next + 2 := by omega
            simp [e]) (by simp) (by omega)
        refine ⟨o', X', ?_, by simpa [List.range_succ] using a3⟩
        unfold freshAt at a1 a2
        have b : ∀ v : Int, bldSl ES.P T_sl_int 1 (M.next + 2) [(0, .int .i64 v)] = some (.own (M.next + 2) 1 0 1, [.int .i64 v]) := fun v => by simp [bldSl, buildRow]
        by_cases hs : (j : Int) = self
        · rw [if_pos hs] at a1 a2
          try simp at a1 a2
          subst hs
          simp [c_r10_Fresh_B0, evW_reg, evW_chkr, isCst, TK.agg, zeroS, endS, resS, h_r10_Fresh_0, hj', hj6, b, a1, a2, hw]
        · rw [if_neg hs] at a1 a2
          try simp at a1 a2
          simp [c_r10_Fresh_B0, evW_reg, evW_chkr, isCst, TK.agg, zeroS, endS, resS, h_r10_Fresh_0, hj', hj6, hs, b, a1, a2, hw])
      (fun o M hI => by
        by_cases hn : (K : Int) < parts
        · have h6 : ¬ (K : Int) < 6 := by omega
          exact ⟨_, by simp [c_r10_Fresh_B0, evW_reg, evW_chkr, isCst, TK.agg, zeroS, endS, resS, h_r10_Fresh_0, hn, h6], by simp, M, o, rfl, hI⟩
        · exact ⟨_, by simp [c_r10_Fresh_B0, evW_reg, evW_chkr, isCst, TK.agg, zeroS, endS, resS, h_r10_Fresh_0, hn], by simp, M, o, rfl, hI⟩) 0 .nilsl M0 (by omega) (.inl ⟨rfl, rfl⟩)
    simp [h_r10_Fresh_0] at g1
    refine ⟨oa, Ma, _, ?_, ia, rfl⟩
    simp [c_r10_Fresh, evW_reg, evW_chkr, isCst, TK.agg, zeroS, endS, resS, c_r10_Fresh_L0, g1]) (fun items h y hy => by
      subst h
      exact intSV_pv _ y hy)
  subst k2
  exact ⟨z, fun get => callP_of k1 (by simp), RSl.of_map k5 k6, k7⟩
set_option maxHeartbeats 4000000 in
theorem ages_Alive_c (get) {x : SV} {l : List Int} (hx : Ints x l) (gone : Int) : callP (PCw ES) get n_ages_Alive [x, .int .i64 gone] = some (.int .i64 (aliveN l (boundG gone) : Nat)) := by
  refine callP_of (PCw_ex (fun M0 => ?_) rfl) (by simp [hx.np12])
  rw [b_ages_Alive]
  have hl := hx.lenS ti_sl_int
  unfold aliveN
  generalize hg : boundG gone = g
  have hlt := fun j => bitsN_lt (livesG l g) j
  have hmin : min (l.length : Int) 6 = ((min l.length 6 : Nat) : Int) := by omega
  generalize hK : min l.length 6 = K at *
  obtain ⟨r, g1, Ma, rfl⟩ := loop_up (E := ES) (me := n_ages_Alive) (B := c_ages_Alive_B0) (len := K) (T := fun j => h_ages_Alive_0 x (.int .i64 gone) (.int .i64 (bitsN (livesG l g) j : Nat)) (.int .i64 K) (.int .i64 j)) (I := fun _ _ => True)
    (Q := fun r => ∃ M', r = (.exit 0, ⟨(h_ages_Alive_0 x (.int .i64 gone) (.int .i64 (bitsN (livesG l g) K : Nat)) (.int .i64 K) (.int .i64 K)).set 11 (.bool false), M'⟩))
    (fun j M hj _ => by
      left
      have hw : IntKind.i64.wrap ((j : Int) + 1) = (j : Int) + 1 := i64_in (by omega) (by omega)
      have k := fun get => ages_at_c get hx j g
      have hb := hlt j
      have hp : 2 ^ j ≤ 2 ^ 6 := Nat.pow_le_pow_right (by decide) (by omega)
      have hsh := shl_nat (j := j) (by omega)
      have hor := orI_nat (a := bitsN (livesG l g) j) (b := 1 <<< j) (by omega) (by rw [Nat.one_shiftLeft]; omega)
      by_cases hq : atG l j g < g
      · have e : bitsN (livesG l g) (j + 1) = bitsN (livesG l g) j ||| 1 <<< j := by simp [bitsN, livesG, hq]
        rw [e, ← hor, ← hsh]
        exact ⟨M, by simp [c_ages_Alive_B0, evW_reg, evW_chkr, isCst, TK.agg, zeroS, endS, resS, h_ages_Alive_0, hj, hg, k, hq, hw, binS_shl], trivial⟩
      · have e : bitsN (livesG l g) (j + 1) = bitsN (livesG l g) j := by simp [bitsN, livesG, hq]
        rw [e]
        exact ⟨M, by simp [c_ages_Alive_B0, evW_reg, evW_chkr, isCst, TK.agg, zeroS, endS, resS, h_ages_Alive_0, hj, hg, k, hq, hw], trivial⟩)
    (fun M _ => ⟨_, by simp [c_ages_Alive_B0, evW_reg, evW_chkr, isCst, TK.agg, zeroS, endS, resS, h_ages_Alive_0], by simp, M, rfl⟩) 0 M0 (by omega) trivial
  simp [h_ages_Alive_0, bitsN] at g1
  simp [c_ages_Alive, evW_reg, evW_chkr, isCst, TK.agg, zeroS, endS, resS, hl, hmin, c_ages_Alive_L0, g1]
set_option maxHeartbeats 4000000 in
theorem ages_Root_c (get) {x : SV} {l : List Int} (hx : Ints x l) (gone : Int) : callP (PCw ES) get n_ages_Root [x, .int .i64 gone] = some (.int .i64 (rootG l gone)) := by
  refine callP_of (PCw_ex (fun M0 => ?_) rfl) (by simp [hx.np12])
  rw [b_ages_Root, rootG_find]
  have k := fun get => ages_Alive_c get hx gone
  have hm := aliveN_lt l (boundG gone)
  generalize aliveN l (boundG gone) = m at *
  obtain ⟨r, g1, M', g0⟩ := loop_find (E := ES) (me := n_ages_Root) (B := c_ages_Root_B0) (len := 6) (T := fun j => h_ages_Root_0 (.int .i64 (m : Nat)) (.int .i64 j)) (I := fun _ _ => True) (p := fun i => m.testBit i)
    (Q := fun o r => ∃ M', r = match o with
      | some j => (.ret, ⟨(h_ages_Root_0 .bad .bad).set 4 (.int .i64 j), M'⟩)
      | none => (.exit 0, ⟨(h_ages_Root_0 (.int .i64 (m : Nat)) (.int .i64 6)).set 11 (.bool false), M'⟩))
    (fun j M hj _ hpj => by
      have hw : IntKind.i64.wrap ((j : Int) + 1) = (j : Int) + 1 := i64_in (by omega) (by omega)
      have h6 : (j : Int) < 6 := by omega
      have hb := bit_nat (m := m) (j := j) (by omega) (by omega)
      rw [hpj, Int.toNat_natCast] at hb
      exact ⟨M, by simp [c_ages_Root_B0, evW_reg, evW_chkr, isCst, TK.agg, zeroS, endS, resS, h_ages_Root_0, h6, hb, hw], trivial⟩)
    (fun j M hj _ hpj => by
      have h6 : (j : Int) < 6 := by omega
      have hb := bit_nat (m := m) (j := j) (by omega) (by omega)
      rw [hpj, Int.toNat_natCast] at hb
      exact ⟨_, by simp [c_ages_Root_B0, evW_reg, evW_chkr, isCst, TK.agg, zeroS, endS, resS, h_ages_Root_0, h6, hb], by simp, M, rfl⟩)
    (fun M _ => ⟨_, by simp [c_ages_Root_B0, evW_reg, evW_chkr, isCst, TK.agg, zeroS, endS, resS, h_ages_Root_0], by simp, M, rfl⟩) M0 trivial
  cases hf : (List.range 6).find? (fun i => m.testBit i) with
  | none =>
    rw [hf] at g0
    subst g0
    simp [h_ages_Root_0] at g1
    simp [c_ages_Root, evW_reg, evW_chkr, isCst, TK.agg, zeroS, endS, resS, k, c_ages_Root_L0, g1]
  | some j =>
    rw [hf] at g0
    subst g0
    simp [h_ages_Root_0] at g1
    simp [c_ages_Root, evW_reg, evW_chkr, isCst, TK.agg, zeroS, endS, resS, k, c_ages_Root_L0, g1]

end Go.Proofs.YtjhlibdiojepaaaGreatDoor

/-
  Walks of the seat's functions: Si.
-/
set_option linter.unusedVariables false
set_option linter.unusedSimpArgs false
set_option maxRecDepth 100000
namespace Go.Proofs.YtjhlibdiojepaaaGreatDoor
open Go.Proofs.YtjhlibdiojepaaaGreatDoor.Sh
/-! The law SteerAdopts: plain; the document's Adopt. -/
def listsO (os : List Offer) : List (List Int) := os.map (·.ages)
def newL (os : List Offer) (parts self gone : Int) : List Int := nextG (freshG parts self gone) self (listsO os) gone
/-- The least part but the own one of which is known. -/
def firstP (l : List Int) (self g : Int) : Option Nat := (List.range l.length).find? fun p => decide ((p : Int) ≠ self) && decide ((l[p]?.getD g) < g)
def whoP (os : List Offer) (l : List Int) (g : Int) (p : Nat) : Int := idxOf (fun o : Offer => decide (atG o.ages p g + 1 = l[p]?.getD 0)) os
theorem freshG_at {parts self gone : Int} {p : Nat} (h : p < (freshG parts self gone).length) : (freshG parts self gone)[p] = freshAt self gone p := by simp [freshG]
theorem newL_at {os : List Offer} {parts self gone : Int} {p : Nat} (h : p < (newL os parts self gone).length) : (newL os parts self gone)[p] = nextAt (freshG parts self gone) self (listsO os) (boundG gone) p := by simp [newL, nextG]
theorem newL_len (os : List Offer) (parts self gone : Int) : (newL os parts self gone).length ≤ 6 ∧ (newL os parts self gone).length ≤ (freshG parts self gone).length := by
  simp only [newL, nextG, List.length_map, List.length_range]
  omega
theorem leastA_some {x g i : Int} : ∀ {heard : List (List Int)}, leastA x heard i g < x → ∃ l ∈ heard, atG l i g = leastA x heard i g
  | [], h => by simp [leastA] at h
  | l :: r, h => by
    have e : leastA x (l :: r) i g = leastA (min x (atG l i g)) r i g := rfl
    rw [e] at h ⊢
    by_cases h1 : leastA (min x (atG l i g)) r i g < min x (atG l i g)
    · obtain ⟨m, hm, he⟩ := leastA_some h1
      exact ⟨m, by simp [hm], he⟩
    · have key : ∀ (y : Int) (ls : List (List Int)), leastA y ls i g ≤ y := by
        intro y ls
        induction ls generalizing y with
        | nil => exact Int.le_refl _
        | cons l r ih =>
          have := ih (min y (atG l i g))
          have e2 : leastA y (l :: r) i g = leastA (min y (atG l i g)) r i g := rfl
          omega
      have := key (min x (atG l i g)) r
      exact ⟨l, by simp, by omega⟩
/-- Of what is known an offer told. -/
theorem who_there {os : List Offer} {parts self gone : Int} {p : Nat} (h : p < (newL os parts self gone).length) (hs : (p : Int) ≠ self) (hl : (newL os parts self gone)[p] < boundG gone) :
    ∃ o ∈ os, atG o.ages p (boundG gone) + 1 = (newL os parts self gone)[p] := by
  have hf : p < (freshG parts self gone).length := by have := (newL_len os parts self gone).2; omega
  rw [newL_at h] at hl ⊢
  unfold nextAt at hl ⊢
  rw [if_neg hs] at hl ⊢
  have hg := boundG_in gone
  have ha : atG (freshG parts self gone) p (boundG gone) = boundG gone := by
    rw [atG_nat, List.getElem?_eq_getElem hf, freshG_at hf]
    unfold freshAt
    rw [if_neg hs]
    simp only [Option.map_some, Option.getD_some]
    omega
  rw [ha] at hl ⊢
  obtain ⟨m, hm, he⟩ := leastA_some (x := boundG gone) (g := boundG gone) (i := (p : Int)) (heard := listsO os) (by omega)
  simp only [listsO, List.mem_map] at hm
  obtain ⟨o, ho, rfl⟩ := hm
  refine ⟨o, ho, ?_⟩
  unfold listsO at hl he
  rw [he]
  unfold listsO
  omega
theorem newL_in {os : List Offer} {parts self gone : Int} {p : Nat} (h : p < (newL os parts self gone).length) : 0 ≤ (newL os parts self gone)[p] ∧ (newL os parts self gone)[p] ≤ boundG gone := by
  rw [newL_at h]
  have hg := boundG_in gone
  have h1 := leastA_in (x := atG (freshG parts self gone) p (boundG gone)) (g := boundG gone) (atG_in hg.1 _ _) (p : Int) (listsO os)
  unfold nextAt
  split <;> omega
/-- What the program looks in. -/
def othersL (l : List Int) (self : Int) : List Int := if 0 ≤ self ∧ self < l.length then l.set self.toNat 201 else l
theorem root_first {l : List Int} {self gone : Int} (h6 : l.length ≤ 6) (hin : ∀ p (h : p < l.length), 0 ≤ l[p] ∧ l[p] ≤ boundG gone) : rootG (othersL l self) gone = match firstP l self (boundG gone) with | some p => (p : Int) | none => -1 := by
  have hg := boundG_in gone
  have hlen : (othersL l self).length = l.length := by unfold othersL; split <;> simp
  have hp : ∀ p, p < 6 → (decide (p < (othersL l self).length) && livesG (othersL l self) (boundG gone) p) = (decide (p < l.length) && (decide ((p : Int) ≠ self) && decide ((l[p]?.getD (boundG gone)) < boundG gone))) := by
    intro p _
    rw [hlen]
    by_cases h : p < l.length
    · have hpi := hin p h
      simp only [h, decide_true, Bool.true_and, List.getElem?_eq_getElem h, Option.getD_some]
      unfold livesG
      rw [atG_nat]
      by_cases hs : (p : Int) = self
      · have e : (othersL l self)[p]? = some 201 := by
          unfold othersL
          rw [if_pos (by omega)]
          have : self.toNat = p := by omega
          simp [this, h]
        rw [e]
        simp [hs]
        omega
      · have e : (othersL l self)[p]? = some l[p] := by
          unfold othersL
          split
          · have : self.toNat ≠ p := by omega
            simp [List.getElem?_set, this, h]
          · simp [h]
        rw [e]
        simp only [Option.map_some, Option.getD_some, ne_eq, hs, not_false_eq_true, decide_true, Bool.true_and, decide_eq_decide]
        omega
    · simp [h]
  unfold rootG firstP
  rw [find_congr (List.range 6) (q := fun p : Nat => decide (p < l.length) && (decide ((p : Int) ≠ self) && decide ((l[p]?.getD (boundG gone)) < boundG gone))) (fun p hp' => hp p (by simpa using hp'))]
  have e : (List.range 6).find? (fun p : Nat => decide (p < l.length) && (decide ((p : Int) ≠ self) && decide ((l[p]?.getD (boundG gone)) < boundG gone))) = (List.range l.length).find? (fun p : Nat => decide ((p : Int) ≠ self) && decide ((l[p]?.getD (boundG gone)) < boundG gone)) := by
    have h6e : List.range 6 = List.range l.length ++ (List.range' l.length (6 - l.length)) := by
      have := List.range'_append_1 (s := 0) (m := l.length) (n := 6 - l.length)
      rw [Nat.zero_add, show l.length + (6 - l.length) = 6 by omega] at this
      rw [List.range_eq_range', List.range_eq_range']
      exact this.symm
    rw [h6e, List.find?_append]
    have e1 : (List.range l.length).find? (fun p : Nat => decide (p < l.length) && (decide ((p : Int) ≠ self) && decide ((l[p]?.getD (boundG gone)) < boundG gone))) = (List.range l.length).find? (fun p : Nat => decide ((p : Int) ≠ self) && decide ((l[p]?.getD (boundG gone)) < boundG gone)) :=
      find_congr _ fun p hp' => by
        have : p < l.length := by simpa using hp'
        simp [this]
    have e2 : (List.range' l.length (6 - l.length)).find? (fun p : Nat => decide (p < l.length) && (decide ((p : Int) ≠ self) && decide ((l[p]?.getD (boundG gone)) < boundG gone))) = none := by
      rw [List.find?_eq_none]
      intro p hp'
      have : ¬ p < l.length := by
        have := List.mem_range'_1.1 hp'
        omega
      simp [this]
    rw [e1, e2]
    simp
  rw [e]
  generalize List.find? (fun p : Nat => decide ((p : Int) ≠ self) && decide ((l[p]?.getD (boundG gone)) < boundG gone)) (List.range l.length) = r
  cases r <;> rfl
/-- Which offer, and what is known then. -/
def adoptG (os : List Offer) (parts self gone : Int) : Int := match firstP (newL os parts self gone) self (boundG gone) with
  | some p => whoP os (newL os parts self gone) (boundG gone) p
  | none => -1
theorem firstP_spec {l : List Int} {self g : Int} {p : Nat} (h : firstP l self g = some p) : ∃ hp : p < l.length, (p : Int) ≠ self ∧ l[p] < g := by
  unfold firstP at h
  rw [List.find?_range_eq_some] at h
  obtain ⟨h1, h2, _⟩ := h
  have hp : p < l.length := by simpa using h2
  simp only [Bool.and_eq_true, decide_eq_true_eq, List.getElem?_eq_getElem hp, Option.getD_some] at h1
  exact ⟨hp, h1.1, h1.2⟩
theorem whoP_there {os : List Offer} {parts self gone : Int} {p : Nat} (h : p < (newL os parts self gone).length) (hs : (p : Int) ≠ self) (hl : (newL os parts self gone)[p] < boundG gone) : ∃ k : Nat, k < os.length ∧ whoP os (newL os parts self gone) (boundG gone) p = k := by
  obtain ⟨o, ho, he⟩ := who_there h hs hl
  unfold whoP
  rcases idxOf_neg (p := fun o : Offer => decide (atG o.ages p (boundG gone) + 1 = (newL os parts self gone)[p]?.getD 0)) (l := os) with ⟨_, q⟩ | ⟨k, hk, q, _⟩
  · have := q o ho
    simp only [decide_eq_false_iff_not, List.getElem?_eq_getElem h, Option.getD_some] at this
    exact absurd he this
  · exact ⟨k, hk, q⟩
set_option maxHeartbeats 4000000 in
theorem r1_SameInts_c (get) {x y : SV} {l : List Int} (hx : Ints x l) (hy : Ints y l) (hb : l.length ≤ 100000) : callP (PCw ES) get n_r1_SameInts [x, y] = some (.bool true) := by
  refine callP_of (PCw_ex (fun M0 => ?_) rfl) (by simp [hx.np12, hy.np12])
  rw [b_r1_SameInts]
  have l1 := hx.lenS ti_sl_int
  have l2 := hy.lenS ti_sl_int
  obtain ⟨r, g1, M', g2⟩ := loop_up (E := ES) (me := n_r1_SameInts) (B := c_r1_SameInts_B0) (len := l.length) (T := fun j => h_r1_SameInts_0 x y (.int .i64 j)) (I := fun _ _ => True)
    (Q := fun r => ∃ M', r = (.exit 0, ⟨(h_r1_SameInts_0 x y (.int .i64 l.length)).set 14 (.bool false), M'⟩))
    (fun j M hj _ => by
      left
      have hw : IntKind.i64.wrap ((j : Int) + 1) = (j : Int) + 1 := i64_in (by omega) (by omega)
      have a1 := Ints.at hx hj
      have a2 := Ints.at hy hj
      have q0 := Ints.ld hj
      exact ⟨M, by simp [c_r1_SameInts_B0, evW_reg, evW_chkr, isCst, TK.agg, zeroS, endS, resS, h_r1_SameInts_0, l1, l2, hj, a1, a2, q0, hw], trivial⟩)
    (fun M _ => ⟨_, by simp [c_r1_SameInts_B0, evW_reg, evW_chkr, isCst, TK.agg, zeroS, endS, resS, h_r1_SameInts_0, l1, l2], by simp, M, rfl⟩) 0 M0 (by omega) trivial
  subst g2
  simp [h_r1_SameInts_0] at g1
  simp [c_r1_SameInts, evW_reg, evW_chkr, isCst, TK.agg, zeroS, endS, resS, l1, l2, c_r1_SameInts_L0, g1]
set_option maxHeartbeats 4000000 in
theorem r10_Adopt_B0 {z o t1 t2 t3 : SV} {os : List Offer} (hz : Offers z os) (h30 : os.length ≤ 30) {items : List SV} {M : Mem} {j : Nat} (hj : j < os.length) (hI : OutR 1 o M items) (hL : ListIs items (listsO (os.take j))) :
    ∃ M' o' items', evW ES n_r10_Adopt c_r10_Adopt_B0 ⟨h_r10_Adopt_0 z t1 t2 t3 o (.int .i64 j), M⟩ = some (.normal, ⟨h_r10_Adopt_0 z t1 t2 t3 o' (.int .i64 ((j + 1 : Nat) : Int)), M'⟩) ∧ OutR 1 o' M' items' ∧ ListIs items' (listsO (os.take (j + 1))) := by
  have hw : IntKind.i64.wrap ((j : Int) + 1) = (j : Int) + 1 := i64_in (by omega) (by omega)
  have hl := hz.lenS ti_sl_api_Offer
  obtain ⟨A, hA, _, q1, q2⟩ := Offers.at hz hj
  have h9 := hA.np9
  have hAc := sl_cells hA.sl
  have hAs := sl_sto hA.sl
  have hlen : items.length ≤ 1000 := by
    have := hL.1
    rw [listsO, List.length_map, List.length_take] at this
    omega
  obtain ⟨o', X', a1, a2, a3, a4, a5, a6⟩ := list_next (get := ((M.bump 9).set (M.next + 6) (some [A])).blk) (X := (M.bump 9).set (M.next + 6) (some [A])) (a := M.next + 7) (s := M.next + 6) (v := A) hI (by omega)
    (fun id hid => by
      have e : ¬ id = M.next + 6 := by omega
      simp [e]) hAc (by simp) (fun id hid => by
      have e : ¬ id = M.next + 6 := by omega
      simp [e]) (by simp) (by omega)
  refine ⟨X', o', items ++ [A], ?_, a3, ?_⟩
  · have b : bldSl ES.P T_sl_sl_int 1 (M.next + 6) [(0, A)] = some (.own (M.next + 6) 1 0 1, [A]) := by simp [bldSl, buildRow, hAc, hAs]
    try simp at a1 a2
    simp [c_r10_Adopt_B0, evW_reg, evW_chkr, isCst, TK.agg, zeroS, endS, resS, fieldAddrS, h_r10_Adopt_0, hl, hj, q1, q2, b, a1, a2, hw]
  · unfold listsO
    rw [List.take_succ_eq_append_getElem hj, List.map_append]
    exact hL.snoc hA h9

end Go.Proofs.YtjhlibdiojepaaaGreatDoor

/-
  Walks of the seat's functions: Sj.
-/
set_option linter.unusedVariables false
set_option linter.unusedSimpArgs false
set_option maxRecDepth 100000
namespace Go.Proofs.YtjhlibdiojepaaaGreatDoor
open Go.Proofs.YtjhlibdiojepaaaGreatDoor.Sh
/-! The document's Adopt: its contract. -/
set_option maxHeartbeats 4000000 in
theorem r10_Adopt_in {z L : SV} {os : List Offer} (hz : Offers z os) (h30 : os.length ≤ 30) {l : List Int} (hL : Ints L l) {g self : Int} (hg : 0 ≤ g ∧ g ≤ 201) {p k : Nat} (hp : p < l.length) (hk : whoP os l g p = k) (M : Mem) :
    evW ES n_r10_Adopt (.loop c_r10_Adopt_B1) ⟨h_r10_Adopt_1 z (.int .i64 self) L (.int .i64 g) (.int .i64 p) (.int .i64 0), M⟩ = some (.ret, ⟨((h_r10_Adopt_1 .bad .bad .bad .bad .bad .bad).set 8 (.int .i64 k)).set 9 L, M⟩) := by
  have hl := hz.lenS ti_sl_api_Offer
  have a1 := Ints.at hL hp
  have a2 := Ints.ld hp
  obtain ⟨r, g1, M', g0, hM⟩ := loop_find (E := ES) (me := n_r10_Adopt) (B := c_r10_Adopt_B1) (len := os.length) (T := fun j => h_r10_Adopt_1 z (.int .i64 self) L (.int .i64 g) (.int .i64 p) (.int .i64 j)) (I := fun _ M' => M' = M)
    (p := fun j => (os[j]?.map fun o : Offer => decide (atG o.ages p g + 1 = l[p]?.getD 0)).getD false)
    (Q := fun o r => ∃ M', (r = match o with
      | some j => (.ret, ⟨((h_r10_Adopt_1 .bad .bad .bad .bad .bad .bad).set 8 (.int .i64 j)).set 9 L, M'⟩)
      | none => (.exit 4, ⟨(h_r10_Adopt_1 z (.int .i64 self) L (.int .i64 g) (.int .i64 p) (.int .i64 os.length)).set 60 (.bool false), M'⟩)) ∧ M' = M)
    (fun j M' hj hI hpj => by
      subst hI
      have hw : IntKind.i64.wrap ((j : Int) + 1) = (j : Int) + 1 := i64_in (by omega) (by omega)
      obtain ⟨A, hA, _, q1, q2⟩ := Offers.at hz hj
      have k3 := fun get => r10_age_c get hA p g
      have hat := atG_in hg.1 os[j].ages p
      have hw2 : IntKind.i64.wrap (atG os[j].ages p g + 1) = atG os[j].ages p g + 1 := i64_in (by omega) (by omega)
      simp [hj, hp] at hpj
      exact ⟨M', by simp [c_r10_Adopt_B1, evW_reg, evW_chkr, isCst, TK.agg, zeroS, endS, resS, fieldAddrS, h_r10_Adopt_1, hl, hj, q1, q2, k3, hw2, a1, a2, hpj, hw], rfl⟩)
    (fun j M' hj hI hpj => by
      subst hI
      obtain ⟨A, hA, _, q1, q2⟩ := Offers.at hz hj
      have k3 := fun get => r10_age_c get hA p g
      have hat := atG_in hg.1 os[j].ages p
      have hw2 : IntKind.i64.wrap (atG os[j].ages p g + 1) = atG os[j].ages p g + 1 := i64_in (by omega) (by omega)
      simp [hj, hp] at hpj
      have hw3 : IntKind.i64.wrap l[p] = l[p] := by rw [← hpj]; exact hw2
      exact ⟨_, by simp [c_r10_Adopt_B1, evW_reg, evW_chkr, isCst, TK.agg, zeroS, endS, resS, fieldAddrS, h_r10_Adopt_1, hl, hj, q1, q2, k3, hw2, hw3, a1, a2, hpj], by simp, M', rfl, rfl⟩)
    (fun M' hI => by
      subst hI
      exact ⟨_, by simp [c_r10_Adopt_B1, evW_reg, evW_chkr, isCst, TK.agg, zeroS, endS, resS, h_r10_Adopt_1, hl], by simp, M', rfl, rfl⟩) M rfl
  subst hM
  unfold whoP idxOf at hk
  cases hf : (List.range os.length).find? (fun j => (os[j]?.map fun o : Offer => decide (atG o.ages p g + 1 = l[p]?.getD 0)).getD false) with
  | none => rw [hf] at hk; dsimp only at hk; omega
  | some j =>
    rw [hf] at hk g0
    dsimp only at hk g0
    obtain rfl : j = k := by omega
    subst g0
    exact g1
set_option maxHeartbeats 8000000 in
theorem r10_Adopt_c {z : SV} {os : List Offer} (hz : Offers z os) (h30 : os.length ≤ 30) (parts self gone : Int) :
    ∃ L, (∀ get, callP (PCw ES) get n_r10_Adopt [z, .int .i64 parts, .int .i64 self, .int .i64 gone] = some (.tup [.int .i64 (adoptG os parts self gone), if adoptG os parts self gone = -1 then .nilsl else L])) ∧ Ints L (newL os parts self gone) ∧ Sh.pv L = true := by
  obtain ⟨F, f1, f2, _⟩ := r10_Fresh_c parts self gone
  have hl := hz.lenS ti_sl_api_Offer
  -- the list of lists does not matter but for what it stands for
  have hN : ∀ (y : SV), Lists y (listsO os) → ∃ L, (∀ get, callP (PCw ES) get n_r10_Next [F, .int .i64 self, y, .int .i64 gone] = some L) ∧ Ints L (newL os parts self gone) ∧ Sh.pv L = true := fun y hy => r10_Next_c f2 hy (by simp [listsO]; omega) self gone
  obtain ⟨r, g1, Ma, oa, rfl, items, ia, iL⟩ := loop_st (E := ES) (me := n_r10_Adopt) (B := c_r10_Adopt_B0) (β := SV) (len := os.length) (T := fun j o => h_r10_Adopt_0 z (.int .i64 parts) (.int .i64 self) (.int .i64 gone) o (.int .i64 j))
    (I := fun j o M => ∃ items, OutR 1 o M items ∧ ListIs items (listsO (os.take j)))
    (Q := fun r => ∃ M' o, r = (.exit 0, ⟨(h_r10_Adopt_0 z (.int .i64 parts) (.int .i64 self) (.int .i64 gone) o (.int .i64 os.length)).set 19 (.bool false), M'⟩) ∧ ∃ items, OutR 1 o M' items ∧ ListIs items (listsO os))
    (fun j o M hj ⟨items, i1, i2⟩ => by
      left
      obtain ⟨M', o', items', a1, a2⟩ := r10_Adopt_B0 hz h30 (t1 := .int .i64 parts) (t2 := .int .i64 self) (t3 := .int .i64 gone) hj i1 i2
      exact ⟨o', M', a1, items', a2⟩)
    (fun o M ⟨items, i1, i2⟩ => ⟨_, by simp [c_r10_Adopt_B0, evW_reg, evW_chkr, isCst, TK.agg, zeroS, endS, resS, h_r10_Adopt_0, hl], by simp, M, o, rfl, items, i1, by rw [List.take_length] at i2; exact i2⟩) 0 .nilsl Mem.empty (by omega)
    ⟨[], .inl ⟨rfl, rfl⟩, ⟨rfl, fun j y l h => by simp at h⟩⟩
  obtain ⟨y2, p2, s2, t2, n2⟩ := ia.pic iL.np11
  obtain ⟨L, n1, hL, hLv⟩ := hN y2 (iL.rsl s2 t2)
  have hbg := boundG_in gone
  have h6 := (newL_len os parts self gone).1
  have hin := fun p (h : p < (newL os parts self gone).length) => newL_in h
  have hth := fun {p : Nat} (h : p < (newL os parts self gone).length) hs hlt => whoP_there (p := p) h hs hlt
  have hfs := fun {p : Nat} (h : firstP (newL os parts self gone) self (boundG gone) = some p) => firstP_spec h
  refine ⟨L, fun get => callP_of (PCw_of (M := Ma) ?_ ?_) (by simp [hz.npE elmOff]), hL, hLv⟩
  · rw [b_r10_Adopt]
    have c1 : callP (PCw ES) Ma.blk n_r10_Next [F, .int .i64 self, oa, .int .i64 gone] = some L := by
      have hp0 : ∀ v : Int, pic Ma.blk false picDepth (.int .i64 v) = some (.int .i64 v) := fun v => pic_np (np_of_pv rfl _)
      have hpF : pic Ma.blk false picDepth F = some F := pic_np f2.np12
      have := n1 Ma.blk
      rw [callP_pic (ys := [F, .int .i64 self, y2, .int .i64 gone]) (by simp [pic_np ((iL.rsl s2 t2).npE elmLists), hp0, hpF])] at this
      rw [callP_pic (ys := [F, .int .i64 self, y2, .int .i64 gone]) (by simp [p2, hp0, hpF])]
      exact this
    unfold adoptG
    generalize newL os parts self gone = l at *
    have hlL := hL.lenS ti_sl_int
    obtain ⟨r, g2, M', g0, hM⟩ := loop_find (E := ES) (me := n_r10_Adopt) (B := c_r10_Adopt_B2) (len := l.length) (T := fun j => h_r10_Adopt_2 z (.int .i64 self) L (.int .i64 (boundG gone)) (.int .i64 j)) (I := fun _ M' => M' = Ma)
      (p := fun p => decide ((p : Int) ≠ self) && decide ((l[p]?.getD (boundG gone)) < boundG gone))
      (Q := fun o r => ∃ M', (match o with
        | some p => ∃ k : Nat, whoP os l (boundG gone) p = k ∧ r = (.ret, ⟨((h_r10_Adopt_2 .bad .bad .bad .bad .bad).set 8 (.int .i64 k)).set 9 L, M'⟩)
        | none => r = (.exit 2, ⟨(h_r10_Adopt_2 z (.int .i64 self) L (.int .i64 (boundG gone)) (.int .i64 l.length)).set 43 (.bool false), M'⟩)) ∧ M' = Ma)
      (fun j M' hj hI hpj => by
        subst hI
        have hw : IntKind.i64.wrap ((j : Int) + 1) = (j : Int) + 1 := i64_in (by omega) (by omega)
        have a1 := Ints.at hL hj
        have a2 := Ints.ld hj
        by_cases hs : (j : Int) = self
        · have hj' : (j : Int) < l.length := by omega
          subst hs
          exact ⟨M', by simp [c_r10_Adopt_B2, evW_reg, evW_chkr, isCst, TK.agg, zeroS, endS, resS, h_r10_Adopt_2, hlL, hj, hw], rfl⟩
        · have hge : boundG gone ≤ l[j] := by
            simp [hj, hs] at hpj
            exact hpj
          exact ⟨M', by simp [c_r10_Adopt_B2, evW_reg, evW_chkr, isCst, TK.agg, zeroS, endS, resS, h_r10_Adopt_2, hlL, hj, hs, a1, a2, hge, hw], rfl⟩)
      (fun j M' hj hI hpj => by
        subst hI
        have a1 := Ints.at hL hj
        have a2 := Ints.ld hj
        simp only [Bool.and_eq_true, decide_eq_true_eq, List.getElem?_eq_getElem hj, Option.getD_some] at hpj
        obtain ⟨hs, hlt⟩ := hpj
        obtain ⟨k, hk, hwk⟩ := hth hj hs hlt
        have hin2 := r10_Adopt_in hz h30 hL (self := self) hbg hj hwk M'
        simp [h_r10_Adopt_1] at hin2
        have hge : ¬ boundG gone ≤ l[j] := by omega
        exact ⟨_, by simp [c_r10_Adopt_B2, evW_reg, evW_chkr, isCst, TK.agg, zeroS, endS, resS, h_r10_Adopt_2, hlL, hj, hs, a1, a2, hge, c_r10_Adopt_L1, hin2], by simp, M', ⟨k, hwk, rfl⟩, rfl⟩)
      (fun M' hI => by
        subst hI
        exact ⟨_, by simp [c_r10_Adopt_B2, evW_reg, evW_chkr, isCst, TK.agg, zeroS, endS, resS, h_r10_Adopt_2, hlL], by simp, M', rfl, rfl⟩) Ma rfl
    subst hM
    simp [h_r10_Adopt_0] at g1
    simp [h_r10_Adopt_2] at g2
    unfold firstP
    cases hf : (List.range l.length).find? (fun p : Nat => decide ((p : Int) ≠ self) && decide ((l[p]?.getD (boundG gone)) < boundG gone)) with
    | none =>
      rw [hf] at g0
      dsimp only at g0
      subst g0
      simp (maxSteps := 4000000) [c_r10_Adopt, evW_reg, evW_chkr, isCst, TK.agg, zeroS, endS, resS, f1, c_r10_Adopt_L0, g1, c1, c_r10_Adopt_L2, g2]
    | some p =>
      rw [hf] at g0
      dsimp only at g0 ⊢
      obtain ⟨k, hwk, g0⟩ := g0
      subst g0
      have hk0 : ¬ (k : Int) = -1 := by omega
      simp (maxSteps := 4000000) [c_r10_Adopt, evW_reg, evW_chkr, isCst, TK.agg, zeroS, endS, resS, f1, c_r10_Adopt_L0, g1, c1, c_r10_Adopt_L2, g2, hwk, hk0]
  · simp only [Sh.pv, pvs, Bool.true_and, Bool.and_true]
    split
    · rfl
    · exact hLv

end Go.Proofs.YtjhlibdiojepaaaGreatDoor
