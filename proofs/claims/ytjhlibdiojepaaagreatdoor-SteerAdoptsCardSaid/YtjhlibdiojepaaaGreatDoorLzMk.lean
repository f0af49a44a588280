/-
  Walks of the seat's functions: Se.
-/
import Derived.Test.YtjhlibdiojepaaaGreatDoorEbMa
import Derived.Test.YtjhlibdiojepaaaGreatDoorShMb
import Derived.Test.YtjhlibdiojepaaaGreatDoorLSd
set_option linter.unusedVariables false
set_option linter.unusedSimpArgs false
set_option maxRecDepth 100000
namespace Go.Proofs.YtjhlibdiojepaaaGreatDoor
open Go.Proofs.YtjhlibdiojepaaaGreatDoor.Sh
/-! The document's ages: Next, Alive, Root. -/
def Lists (x : SV) (ls : List (List Int)) : Prop := RSl (fun y l => Ints y l ∧ Sh.np 9 y = true) x ls
theorem elmLists : Elm (fun (y : SV) (l : List Int) => Ints y l ∧ Sh.np 9 y = true) ⟨.slice T_int, 1, 24, some .nilsl⟩ :=
  ⟨fun h => by rw [sl_cells h.1.sl]; rfl, fun {y a} h => by
    have := sl_cells h.1.sl
    simp [partS, TK.agg, this], fun h => np_le (by decide) h.2, fun h => sl_sto h.1.sl⟩
theorem leastA_take {x g : Int} {heard : List (List Int)} {j : Nat} (h : j < heard.length) (i : Int) : leastA x (heard.take (j + 1)) i g = min (leastA x (heard.take j) i g) (atG heard[j] i g) := by
  unfold leastA
  rw [foldl_take h]
theorem intSV_pv (l : List Int) : ∀ y ∈ intSV l, Sh.pv y = true := fun y hy => by
  simp only [intSV, List.mem_map] at hy
  obtain ⟨x, _, rfl⟩ := hy
  rfl
theorem intSV_snoc (l : List Int) (v : Int) : intSV (l ++ [v]) = intSV l ++ [.int .i64 v] := by simp [intSV]
theorem intSV_len (l : List Int) : (intSV l).length = l.length := by simp [intSV]
theorem ints_own {P : Program} {z : SV} {l : List Int} (h1 : isSl z = true) (h2 : its z = intSV l) : Ints z l := RSl.of_map h1 h2
/-- A number more. -/
theorem int_next {get : Nat → Option (List SV)} {o : SV} {M X : Mem} {l : List Int} {a s : Nat} {v : Int} (hI : OutR 1 o M (intSV l)) (hl : l.length ≤ 1000000) (hg : ∀ id, id < M.next → get id = M.blk id) (hs : get s = some [.int .i64 v]) (hX : Old M X) (hXn : a < X.next) (hMa : M.next ≤ a) :
    ∃ o' X', appendS ES.P get a T_sl_int T_sl_int o (.own s 1 0 1) = some (o', killO o ++ [(a, some (intSV (l ++ [v])))]) ∧ (X.sets (killO o)).set a (some (intSV (l ++ [v]))) = X' ∧ OutR 1 o' X' (intSV (l ++ [v])) ∧ Kept o M X' ∧ X'.next = X.next ∧ (∀ id e a b, o' = .own id e a b → M.next ≤ id) := by
  rw [intSV_snoc]
  exact OutR.next (P := ES.P) ti_sl_int ti_int rfl (by decide) rfl rfl hI (by rw [intSV_len]; show (l.length + 1) * 8 ≤ _; omega) (by rw [intSV_len]; omega) hg rfl hs hX hXn hMa
set_option maxHeartbeats 4000000 in
theorem r10_Next_in {x y o : SV} {heard : List (List Int)} (hy : Lists y heard) (hb : heard.length ≤ 1000000) (self g i a : Int) (M : Mem) :
    evW ES n_r10_Next (.loop c_r10_Next_B0) ⟨h_r10_Next_0 x (.int .i64 self) y o (.int .i64 g) (.int .i64 i) (.int .i64 a) (.int .i64 0), M⟩ =
      some (.exit 2, ⟨(h_r10_Next_0 x (.int .i64 self) y o (.int .i64 g) (.int .i64 i) (.int .i64 (leastA a heard i g)) (.int .i64 heard.length)).set 33 (.bool false), M⟩) := by
  have hl := hy.lenS ti_sl_sl_int
  obtain ⟨r, g1, M1, rfl, rfl⟩ := loop_up (E := ES) (me := n_r10_Next) (B := c_r10_Next_B0) (len := heard.length) (T := fun j => h_r10_Next_0 x (.int .i64 self) y o (.int .i64 g) (.int .i64 i) (.int .i64 (leastA a (heard.take j) i g)) (.int .i64 j)) (I := fun _ M' => M' = M)
    (Q := fun r => ∃ M1, r = (.exit 2, ⟨(h_r10_Next_0 x (.int .i64 self) y o (.int .i64 g) (.int .i64 i) (.int .i64 (leastA a heard i g)) (.int .i64 heard.length)).set 33 (.bool false), M1⟩) ∧ M1 = M)
    (fun j M' hj hI => by
      subst hI
      left
      have hw : IntKind.i64.wrap ((j : Int) + 1) = (j : Int) + 1 := i64_in (by omega) (by omega)
      obtain ⟨z, hz, _, q1, q2⟩ := RSl.item hy ti_sl_sl_int ti_sl_int elmLists hj
      have k := fun get => r10_age_c get hz.1 i g
      exact ⟨M', by simp [c_r10_Next_B0, evW_reg, evW_chkr, isCst, TK.agg, zeroS, endS, resS, h_r10_Next_0, hl, hj, q1, q2, k, hw, leastA_take hj], rfl⟩)
    (fun M' hI => by
      subst hI
      rw [List.take_length]
      exact ⟨_, by simp [c_r10_Next_B0, evW_reg, evW_chkr, isCst, TK.agg, zeroS, endS, resS, h_r10_Next_0, hl], by simp, M', rfl, rfl⟩) 0 M (by omega) rfl
  exact g1
set_option maxHeartbeats 4000000 in
theorem r10_Next_c {x y : SV} {own : List Int} {heard : List (List Int)} (hx : Ints x own) (hy : Lists y heard) (hb : heard.length ≤ 1000000) (self gone : Int) :
    ∃ z, (∀ get, callP (PCw ES) get n_r10_Next [x, .int .i64 self, y, .int .i64 gone] = some z) ∧ Ints z (nextG own self heard gone) ∧ Sh.pv z = true := by
  obtain ⟨z, items, k1, k2, k5, k6, k7⟩ := PCw_out (E := ES) (f := n_r10_Next) (esz := 1) (args := [x, .int .i64 self, y, .int .i64 gone]) (Pr := fun items => items = intSV (nextG own self heard gone)) (fun M0 => by
    rw [b_r10_Next]
    have hl := hx.lenS ti_sl_int
    obtain ⟨bg0, bg1⟩ := boundG_in gone
    unfold nextG
    generalize hg : boundG gone = g at *
    obtain ⟨r, g1, Ma, oa, rfl, ia⟩ := loop_st (E := ES) (me := n_r10_Next) (B := c_r10_Next_B1) (β := SV) (len := min own.length 6) (T := fun j o => h_r10_Next_1 x (.int .i64 self) y o (.int .i64 g) (.int .i64 j))
      (I := fun j o M => OutR 1 o M (intSV ((List.range j).map (nextAt own self heard g))))
      (Q := fun r => ∃ M' o, r = (.exit 0, ⟨(h_r10_Next_1 x (.int .i64 self) y o (.int .i64 g) (.int .i64 (min own.length 6 : Nat))).set 23 (.bool false), M'⟩) ∧ OutR 1 o M' (intSV ((List.range (min own.length 6)).map (nextAt own self heard g))))
      (fun j o M hj hI => by
        left
        have hw : IntKind.i64.wrap ((j : Int) + 1) = (j : Int) + 1 := i64_in (by omega) (by omega)
        have h6 : (j : Int) < 6 := by omega
        have h1 : j < own.length := by omega
        have k0 := fun get => r10_age_c get hx j g
        have hin := r10_Next_in (x := x) (o := o) hy hb self g j (atG own j g) M
        simp [h_r10_Next_0] at hin
        have hat := atG_in bg0 own (j : Int)
        have hle := leastA_in hat (j : Int) heard
        have hw2 : IntKind.i64.wrap (leastA (atG own j g) heard j g + 1) = leastA (atG own j g) heard j g + 1 := i64_in (by omega) (by omega)
        obtain ⟨o', X', a1, a2, a3, a4, a5, a6⟩ := int_next (get := ((M.bump 5).set (M.next + 2) (some [.int .i64 (nextAt own self heard g j)])).blk) (X := (M.bump 5).set (M.next + 2) (some [.int .i64 (nextAt own self heard g j)])) (a := M.next + 3) (s := M.next + 2) (v := nextAt own self heard g j) hI (by simp; omega)
          (fun id hid => by
            have e : ¬ id = M.next + 2 := by omega
            simp [e]) (by simp) (fun id hid => by
            have e : ¬ id = M.next + 2 := by omega
            simp [e]) (by simp) (by omega)
        refine ⟨o', X', ?_, by simpa [List.range_succ] using a3⟩
        unfold nextAt at a1 a2
        have b : ∀ v : Int, bldSl ES.P T_sl_int 1 (M.next + 2) [(0, .int .i64 v)] = some (.own (M.next + 2) 1 0 1, [.int .i64 v]) := fun v => by simp [bldSl, buildRow]
        by_cases hs : (j : Int) = self
        · rw [if_pos hs] at a1 a2
          try simp at a1 a2
          subst hs
          simp [c_r10_Next_B1, evW_reg, evW_chkr, isCst, TK.agg, zeroS, endS, resS, h_r10_Next_1, hl, h1, h6, k0, c_r10_Next_L0, hin, hw2, b, a1, a2, hw]
        · rw [if_neg hs] at a1 a2
          try simp at a1 a2
          simp [c_r10_Next_B1, evW_reg, evW_chkr, isCst, TK.agg, zeroS, endS, resS, h_r10_Next_1, hl, h1, h6, k0, c_r10_Next_L0, hin, hw2, hs, b, a1, a2, hw])
      (fun o M hI => by
        by_cases h1 : own.length < 6
        · have e : min own.length 6 = own.length := by omega
          rw [e] at hI ⊢
          exact ⟨_, by simp [c_r10_Next_B1, evW_reg, evW_chkr, isCst, TK.agg, zeroS, endS, resS, h_r10_Next_1, hl], by simp, M, o, rfl, hI⟩
        · have e : min own.length 6 = 6 := by omega
          rw [e] at hI ⊢
          by_cases h2 : 6 < own.length
          · have h2' : (6 : Int) < own.length := by omega
            exact ⟨_, by simp [c_r10_Next_B1, evW_reg, evW_chkr, isCst, TK.agg, zeroS, endS, resS, h_r10_Next_1, hl, h2'], by simp, M, o, rfl, hI⟩
          · have h3 : own.length = 6 := by omega
            exact ⟨_, by simp [c_r10_Next_B1, evW_reg, evW_chkr, isCst, TK.agg, zeroS, endS, resS, h_r10_Next_1, hl, h3], by simp, M, o, rfl, hI⟩) 0 .nilsl M0 (by omega) (.inl ⟨rfl, rfl⟩)
    simp [h_r10_Next_1] at g1
    refine ⟨oa, Ma, _, ?_, ia, rfl⟩
    simp [c_r10_Next, evW_reg, evW_chkr, isCst, TK.agg, zeroS, endS, resS, hg, c_r10_Next_L1, g1]) (fun items h y hy => by
      subst h
      exact intSV_pv _ y hy)
  subst k2
  exact ⟨z, fun get => callP_of k1 (by simp [hx.np12, hy.npE elmLists]), RSl.of_map k5 k6, k7⟩
@[simp] theorem conv_uint (get : Nat → Option (List SV)) (v : Int) : convS ES.P get T_int T_uint (.int .i64 v) = some (.int .u64 (IntKind.u64.wrap v)) := by simp [convS]
theorem u64_in {v : Int} (h1 : 0 ≤ v) (h2 : v ≤ 1000000) : IntKind.u64.wrap v = v := by rw [IntKind.wrap_u64]; omega
theorem aliveN_lt (l : List Int) (g : Int) : aliveN l g < 64 := by
  have h1 := bitsN_lt (livesG l g) (min l.length 6)
  have h2 : 2 ^ (min l.length 6) ≤ 2 ^ 6 := Nat.pow_le_pow_right (by decide) (by omega)
  unfold aliveN
  omega
set_option maxHeartbeats 4000000 in
theorem r10_Alive_c (get) {x : SV} {l : List Int} (hx : Ints x l) (gone : Int) : callP (PCw ES) get n_r10_Alive [x, .int .i64 gone] = some (.int .i64 (aliveN l (boundG gone) : Nat)) := by
  refine callP_of (PCw_ex (fun M0 => ?_) rfl) (by simp [hx.np12])
  rw [b_r10_Alive]
  have hl := hx.lenS ti_sl_int
  unfold aliveN
  generalize hg : boundG gone = g
  have hlt := fun j => bitsN_lt (livesG l g) j
  obtain ⟨r, g1, Ma, rfl⟩ := loop_up (E := ES) (me := n_r10_Alive) (B := c_r10_Alive_B0) (len := min l.length 6) (T := fun j => h_r10_Alive_0 x (.int .i64 (bitsN (livesG l g) j : Nat)) (.int .i64 g) (.int .i64 j)) (I := fun _ _ => True)
    (Q := fun r => ∃ M', r = (.exit 0, ⟨(h_r10_Alive_0 x (.int .i64 (bitsN (livesG l g) (min l.length 6) : Nat)) (.int .i64 g) (.int .i64 (min l.length 6 : Nat))).set 17 (.bool false), M'⟩))
    (fun j M hj _ => by
      left
      have hw : IntKind.i64.wrap ((j : Int) + 1) = (j : Int) + 1 := i64_in (by omega) (by omega)
      have h6 : (j : Int) < 6 := by omega
      have h1 : j < l.length := by omega
      have k := fun get => r10_age_c get hx j g
      have hb := hlt j
      have hp : 2 ^ j ≤ 2 ^ 6 := Nat.pow_le_pow_right (by decide) (by omega)
      have hu : IntKind.u64.wrap (j : Int) = j := u64_in (by omega) (by omega)
      have hsh := shl_nat (j := j) (by omega)
      have hor := orI_nat (a := bitsN (livesG l g) j) (b := 1 <<< j) (by omega) (by rw [Nat.one_shiftLeft]; omega)
      by_cases hq : atG l j g < g
      · have e : bitsN (livesG l g) (j + 1) = bitsN (livesG l g) j ||| 1 <<< j := by simp [bitsN, livesG, hq]
        rw [e, ← hor, ← hsh]
        exact ⟨M, by simp [c_r10_Alive_B0, evW_reg, evW_chkr, isCst, TK.agg, zeroS, endS, resS, h_r10_Alive_0, hl, h1, h6, k, hq, hw, hu, binS_shl], trivial⟩
      · have e : bitsN (livesG l g) (j + 1) = bitsN (livesG l g) j := by simp [bitsN, livesG, hq]
        rw [e]
        exact ⟨M, by simp [c_r10_Alive_B0, evW_reg, evW_chkr, isCst, TK.agg, zeroS, endS, resS, h_r10_Alive_0, hl, h1, h6, k, hq, hw], trivial⟩)
    (fun M _ => by
      by_cases h1 : l.length < 6
      · have e : min l.length 6 = l.length := by omega
        rw [e]
        exact ⟨_, by simp [c_r10_Alive_B0, evW_reg, evW_chkr, isCst, TK.agg, zeroS, endS, resS, h_r10_Alive_0, hl], by simp, M, rfl⟩
      · have e : min l.length 6 = 6 := by omega
        rw [e]
        by_cases h2 : 6 < l.length
        · have h2' : (6 : Int) < l.length := by omega
          exact ⟨_, by simp [c_r10_Alive_B0, evW_reg, evW_chkr, isCst, TK.agg, zeroS, endS, resS, h_r10_Alive_0, hl, h2'], by simp, M, rfl⟩
        · have h3 : l.length = 6 := by omega
          exact ⟨_, by simp [c_r10_Alive_B0, evW_reg, evW_chkr, isCst, TK.agg, zeroS, endS, resS, h_r10_Alive_0, hl, h3], by simp, M, rfl⟩) 0 M0 (by omega) trivial
  simp [h_r10_Alive_0, bitsN] at g1
  simp [c_r10_Alive, evW_reg, evW_chkr, isCst, TK.agg, zeroS, endS, resS, hg, c_r10_Alive_L0, g1]
set_option maxHeartbeats 4000000 in
theorem r10_Root_c (get) {x : SV} {l : List Int} (hx : Ints x l) (gone : Int) : callP (PCw ES) get n_r10_Root [x, .int .i64 gone] = some (.int .i64 (rootG l gone)) := by
  refine callP_of (PCw_ex (fun M0 => ?_) rfl) (by simp [hx.np12])
  rw [b_r10_Root, rootG_find]
  have k := fun get => r10_Alive_c get hx gone
  have hm := aliveN_lt l (boundG gone)
  generalize aliveN l (boundG gone) = m at *
  obtain ⟨r, g1, M', g0⟩ := loop_find (E := ES) (me := n_r10_Root) (B := c_r10_Root_B0) (len := 6) (T := fun j => h_r10_Root_0 (.int .i64 (m : Nat)) (.int .i64 j)) (I := fun _ _ => True) (p := fun i => m.testBit i)
    (Q := fun o r => ∃ M', r = match o with
      | some j => (.ret, ⟨(h_r10_Root_0 .bad .bad).set 4 (.int .i64 j), M'⟩)
      | none => (.exit 0, ⟨(h_r10_Root_0 (.int .i64 (m : Nat)) (.int .i64 6)).set 11 (.bool false), M'⟩))
    (fun j M hj _ hpj => by
      have hw : IntKind.i64.wrap ((j : Int) + 1) = (j : Int) + 1 := i64_in (by omega) (by omega)
      have h6 : (j : Int) < 6 := by omega
      have hu : IntKind.u64.wrap (j : Int) = j := u64_in (by omega) (by omega)
      have hb := bit_nat (m := m) (j := j) (by omega) (by omega)
      rw [hpj, Int.toNat_natCast] at hb
      exact ⟨M, by simp [c_r10_Root_B0, evW_reg, evW_chkr, isCst, TK.agg, zeroS, endS, resS, h_r10_Root_0, h6, hu, hb, hw], trivial⟩)
    (fun j M hj _ hpj => by
      have h6 : (j : Int) < 6 := by omega
      have hu : IntKind.u64.wrap (j : Int) = j := u64_in (by omega) (by omega)
      have hb := bit_nat (m := m) (j := j) (by omega) (by omega)
      rw [hpj, Int.toNat_natCast] at hb
      exact ⟨_, by simp [c_r10_Root_B0, evW_reg, evW_chkr, isCst, TK.agg, zeroS, endS, resS, h_r10_Root_0, h6, hu, hb], by simp, M, rfl⟩)
    (fun M _ => ⟨_, by simp [c_r10_Root_B0, evW_reg, evW_chkr, isCst, TK.agg, zeroS, endS, resS, h_r10_Root_0], by simp, M, rfl⟩) M0 trivial
  cases hf : (List.range 6).find? (fun i => m.testBit i) with
  | none =>
    rw [hf] at g0
    subst g0
    simp [h_r10_Root_0] at g1
    simp [c_r10_Root, evW_reg, evW_chkr, isCst, TK.agg, zeroS, endS, resS, k, c_r10_Root_L0, g1]
  | some j =>
    rw [hf] at g0
    subst g0
    simp [h_r10_Root_0] at g1
    simp [c_r10_Root, evW_reg, evW_chkr, isCst, TK.agg, zeroS, endS, resS, k, c_r10_Root_L0, g1]

end Go.Proofs.YtjhlibdiojepaaaGreatDoor

/-
  Walks of the seat's functions: Sf.
-/
set_option linter.unusedVariables false
set_option linter.unusedSimpArgs false
set_option maxRecDepth 100000
namespace Go.Proofs.YtjhlibdiojepaaaGreatDoor
open Go.Proofs.YtjhlibdiojepaaaGreatDoor.Sh
/-! The law SteerFollows. -/
def capL (was : List Int) : List Int := was.map fun v => min v 30
theorem capL_take {was : List Int} {j : Nat} (h : j < was.length) : capL (was.take (j + 1)) = capL (was.take j) ++ [min was[j] 30] := by
  unfold capL
  rw [List.take_succ_eq_append_getElem h, List.map_append]
  rfl
theorem u8_item {x : SV} {l : List Int} (h : RSl (fun y v => y = .int .u8 v) x l) {j : Nat} (hj : j < l.length) : indexAddrS ES.P T_sl_uint8 x (.int .i64 j) = some (.rptr (l.map (SV.int .u8)) j 0 (stOf x)) ∧ ∀ get z, loadS ES.P get T_uint8 (.rptr (l.map (SV.int .u8)) j 0 z) = some (.int .u8 l[j]) :=
  ⟨RSl.at (enc := SV.int .u8) h ti_sl_uint8 ti_uint8 (fun _ => rfl) hj, fun get z => loadS_rptr ti_uint8 (x := .int .u8 l[j]) (by simp [hj]) rfl⟩
/-- Lists more. -/
theorem list_next {get : Nat → Option (List SV)} {o v : SV} {M X : Mem} {items : List SV} {a s : Nat} (hI : OutR 1 o M items) (hl : items.length ≤ 1000000) (hg : ∀ id, id < M.next → get id = M.blk id) (hv : v.cells = [v]) (hs : get s = some [v]) (hX : Old M X) (hXn : a < X.next) (hMa : M.next ≤ a) :
    ∃ o' X', appendS ES.P get a T_sl_sl_int T_sl_sl_int o (.own s 1 0 1) = some (o', killO o ++ [(a, some (items ++ [v]))]) ∧ (X.sets (killO o)).set a (some (items ++ [v])) = X' ∧ OutR 1 o' X' (items ++ [v]) ∧ Kept o M X' ∧ X'.next = X.next ∧ (∀ id e a b, o' = .own id e a b → M.next ≤ id) :=
  OutR.next (P := ES.P) ti_sl_sl_int ti_sl_int rfl (by decide) rfl rfl hI (by show (items.length + 1) * 24 ≤ _; omega) (by omega) hg (by rw [hv]; rfl) hs hX hXn hMa
/-- The items that stand for lists. -/
def ListIs (items : List SV) (ls : List (List Int)) : Prop := items.length = ls.length ∧ ∀ (j : Nat) (y : SV) (l : List Int), items[j]? = some y → ls[j]? = some l → Ints y l ∧ Sh.np 9 y = true
theorem ListIs.rsl {items : List SV} {ls : List (List Int)} (h : ListIs items ls) {x : SV} (h1 : isSl x = true) (h2 : its x = items) : Lists x ls := ⟨h1, by rw [h2]; exact h.1, fun j y l hy hl => by rw [h2] at hy; exact h.2 j y l hy hl⟩
theorem ListIs.snoc {items : List SV} {ls : List (List Int)} (h : ListIs items ls) {y : SV} {l : List Int} (hy : Ints y l) (hn : Sh.np 9 y = true) : ListIs (items ++ [y]) (ls ++ [l]) := by
  refine ⟨by simp [h.1], fun j z m hz hm => ?_⟩
  rw [List.getElem?_append] at hz hm
  rw [← h.1] at hm
  split at hz
  · rename_i hlt
    rw [if_pos hlt] at hm
    exact h.2 j z m hz hm
  · rename_i hlt
    rw [if_neg hlt] at hm
    have : j - items.length = 0 := by
      have := (List.getElem?_eq_some_iff.1 hz).1
      simp at this
      omega
    rw [this] at hz hm
    simp at hz hm
    subst hz hm
    exact ⟨hy, hn⟩
theorem ListIs.np11 {items : List SV} {ls : List (List Int)} (h : ListIs items ls) : ∀ x ∈ items, Sh.np 11 x = true := fun x hx => by
  obtain ⟨j, hj, rfl⟩ := List.mem_iff_getElem.1 hx
  have hj' : j < ls.length := by rw [← h.1]; exact hj
  exact np_le (by decide) (h.2 j _ ls[j] (by simp [hj]) (by simp [hj'])).2
/-- Who is followed knows a younger age. -/
theorem follows_law {a now : List Int} {os : List Offer} {s root : Int} {k : Nat} (hk : parentG a now os root = k) (ha : ageO a s = some 0) (hn : ageO now s = some 0) :
    ∃ h : k < os.length, root ≠ s ∧ ∃ r : Nat, root = r ∧ ∃ (h1 : r < os[k].ages.length) (h2 : r < a.length) (h3 : r < now.length), os[k].ages[r] < a[r] ∧ os[k].ages[r] + 1 = now[r] ∧ 0 ≤ os[k].ages[r] ∧ os[k].ages[r] ≤ 201 := by
  unfold parentG at hk
  cases h1 : ageO a root with
  | none => rw [h1] at hk; simp at hk <;> omega
  | some x =>
    cases h2 : ageO now root with
    | none => rw [h1, h2] at hk; simp at hk <;> omega
    | some b =>
      rw [h1, h2] at hk
      dsimp only at hk
      split at hk
      · omega
      rename_i hlt
      unfold follows at hk
      rcases idxOf_neg (p := fun o : Offer => decide (ageO o.ages root = some (b - 1))) (l := os) with ⟨q, _⟩ | ⟨j, hj, q1, q2, _⟩
      · rw [q] at hk; omega
      · rw [q1] at hk
        obtain rfl : j = k := by omega
        simp only [decide_eq_true_eq] at q2
        have ib := ageO_in q2
        refine ⟨hj, fun e => ?_, ?_⟩
        · subst e
          rw [hn] at h2
          cases h2
          omega
        · have get : ∀ {l : List Int} {v : Int}, ageO l root = some v → ∃ r : Nat, root = r ∧ ∃ h : r < l.length, l[r] = v := by
            intro l v hv
            unfold ageO at hv
            split at hv
            case isFalse => cases hv
            rename_i h0
            cases hl : l[root.toNat]? with
            | none => rw [hl] at hv; cases hv
            | some y =>
              rw [hl, Option.bind_some] at hv
              split at hv
              case isFalse => cases hv
              cases hv
              obtain ⟨h3, h4⟩ := List.getElem?_eq_some_iff.1 hl
              exact ⟨root.toNat, by omega, h3, h4⟩
          obtain ⟨r, e1, r1, r2⟩ := get q2
          obtain ⟨r', e2, r3, r4⟩ := get h1
          obtain ⟨r'', e3, r5, r6⟩ := get h2
          obtain rfl : r' = r := by omega
          obtain rfl : r'' = r' := by omega
          refine ⟨r'', e1, r1, r3, r5, ?_⟩
          omega
theorem r10_next_self {own : List Int} {heard : List (List Int)} {s : Nat} (h : s < own.length) (h6 : own.length ≤ 6) (g : Int) : ageO (nextG own s heard g) s = some 0 := by
  rw [ageO_nat]
  unfold nextG
  have : s < min own.length 6 := by omega
  simp [this, nextAt]
theorem parentG_cases (was now : List Int) (os : List Offer) (root : Int) : parentG was now os root = -1 ∨ ∃ k : Nat, parentG was now os root = k := by
  unfold parentG
  split
  · split
    · exact .inl rfl
    · unfold follows
      rcases idxOf_neg (p := fun o : Offer => decide (ageO o.ages root = some (‹Int› - 1))) (l := os) with ⟨q, _⟩ | ⟨j, _, q, _⟩
      · exact .inl q
      · exact .inr ⟨j, q⟩
  · exact .inl rfl
set_option maxHeartbeats 4000000 in
theorem Follows_B0 {x z t2 o : SV} {was : List Int} (hx : RSl (fun y v => y = .int .u8 v) x was) (h8 : ∀ v ∈ was, 0 ≤ v ∧ v ≤ 255) (hw6 : was.length ≤ 6) {M : Mem} {j : Nat} (hj : j < was.length) (hI : OutR 1 o M (intSV (capL (was.take j)))) :
    ∃ M' o', evW ES n_l16_SteerFollows c_l16_SteerFollows_B0 ⟨h_l16_SteerFollows_0 x z t2 o (.int .i64 j), M⟩ = some (.normal, ⟨h_l16_SteerFollows_0 x z t2 o' (.int .i64 ((j + 1 : Nat) : Int)), M'⟩) ∧ OutR 1 o' M' (intSV (capL (was.take (j + 1)))) := by
  have hw : IntKind.i64.wrap ((j : Int) + 1) = (j : Int) + 1 := i64_in (by omega) (by omega)
  have hl := hx.lenS ti_sl_uint8
  obtain ⟨q1, q2⟩ := u8_item hx hj
  obtain ⟨v0, v1⟩ := h8 _ (List.getElem_mem hj)
  have hv : IntKind.i64.wrap was[j] = was[j] := i64_in (by omega) (by omega)
  obtain ⟨o', X', a1, a2, a3, a4, a5, a6⟩ := int_next (get := ((M.bump 10).set (M.next + 7) (some [.int .i64 (min was[j] 30)])).blk) (X := (M.bump 10).set (M.next + 7) (some [.int .i64 (min was[j] 30)])) (a := M.next + 8) (s := M.next + 7) (v := min was[j] 30) hI (by simp [capL]; omega)
    (fun id hid => by
      have e : ¬ id = M.next + 7 := by omega
      simp [e]) (by simp) (fun id hid => by
      have e : ¬ id = M.next + 7 := by omega
      simp [e]) (by simp) (by omega)
  rw [← capL_take hj] at a1 a2 a3
  refine ⟨X', o', ?_, a3⟩
  have b : ∀ v : Int, bldSl ES.P T_sl_int 1 (M.next + 7) [(0, .int .i64 v)] = some (.own (M.next + 7) 1 0 1, [.int .i64 v]) := fun v => by simp [bldSl, buildRow]
  try simp at a1 a2
  simp [c_l16_SteerFollows_B0, evW_reg, evW_chkr, isCst, TK.agg, zeroS, endS, resS, h_l16_SteerFollows_0, hl, hj, q1, q2, hv, b, a1, a2, hw, convS]
set_option maxHeartbeats 4000000 in
theorem Follows_B1 {z o : SV} {os : List Offer} (hz : Offers z os) (hnp : ∀ (j : Nat) (h : j < os.length) (A : SV), (∀ get, loadS ES.P get T_sl_int (.rptr (its z) j 7 (stOf z)) = some A) → Sh.np 9 A = true) (h30 : os.length ≤ 30) {a s : SV} {q : Nat} {al items : List SV} {M : Mem} {j : Nat} (hj : j < os.length)
    (hI : OutR 1 o M items) (hL : ListIs items ((os.take j).map (·.ages))) (hq : M.blk q = some al) (hqn : q < M.next) (hqo : ∀ e a b, o ≠ .own q e a b) :
    ∃ M' o' items', evW ES n_l16_SteerFollows c_l16_SteerFollows_B1 ⟨h_l16_SteerFollows_1 z a s o (.int .i64 j), M⟩ = some (.normal, ⟨h_l16_SteerFollows_1 z a s o' (.int .i64 ((j + 1 : Nat) : Int)), M'⟩) ∧ OutR 1 o' M' items' ∧ ListIs items' ((os.take (j + 1)).map (·.ages)) ∧ M'.blk q = some al ∧ q < M'.next ∧ (∀ e a b, o' ≠ .own q e a b) := by
  have hw : IntKind.i64.wrap ((j : Int) + 1) = (j : Int) + 1 := i64_in (by omega) (by omega)
  have hl := hz.lenS ti_sl_api_Offer
  obtain ⟨A, hA, _, q1, q2⟩ := Offers.at hz hj
  have h9 := hnp j hj A q2
  have hAc := sl_cells hA.sl
  have hAs := sl_sto hA.sl
  have hlen : items.length ≤ 1000 := by
    have := hL.1
    rw [List.length_map, List.length_take] at this
    omega
  obtain ⟨o', X', a1, a2, a3, a4, a5, a6⟩ := list_next (get := ((M.bump 9).set (M.next + 6) (some [A])).blk) (X := (M.bump 9).set (M.next + 6) (some [A])) (a := M.next + 7) (s := M.next + 6) (v := A) hI (by omega)
    (fun id hid => by
      have e : ¬ id = M.next + 6 := by omega
      simp [e]) hAc (by simp) (fun id hid => by
      have e : ¬ id = M.next + 6 := by omega
      simp [e]) (by simp) (by omega)
  refine ⟨X', o', items ++ [A], ?_, a3, ?_, (a4 q hqn hqo).trans hq, by rw [a5]; show q < M.next + 9; omega, fun e a b hh => by have := a6 _ _ _ _ hh; omega⟩
  · have b : bldSl ES.P T_sl_sl_int 1 (M.next + 6) [(0, A)] = some (.own (M.next + 6) 1 0 1, [A]) := by simp [bldSl, buildRow, hAc, hAs]
    try simp at a1 a2
    simp [c_l16_SteerFollows_B1, evW_reg, evW_chkr, isCst, TK.agg, zeroS, endS, resS, fieldAddrS, h_l16_SteerFollows_1, hl, hj, q1, q2, b, a1, a2, hw]
  · rw [List.take_succ_eq_append_getElem hj, List.map_append]
    exact hL.snoc hA h9

end Go.Proofs.YtjhlibdiojepaaaGreatDoor

/-
  Walks of the seat's functions: Sg.
-/
set_option linter.unusedVariables false
set_option linter.unusedSimpArgs false
set_option maxRecDepth 100000
namespace Go.Proofs.YtjhlibdiojepaaaGreatDoor
open Go.Proofs.YtjhlibdiojepaaaGreatDoor.Sh
/-! The law SteerFollows: its walk. -/
theorem rem_of {v : Int} (h : 0 ≤ v) {k : Nat} (hk : 0 < k) : ∃ p : Nat, p < k ∧ v.tmod k = p := by
  refine ⟨(v.tmod k).toNat, ?_, ?_⟩
  · have := Int.tmod_lt_of_pos v (show 0 < (k : Int) by omega)
    have := Int.tmod_nonneg (k : Int) h
    omega
  · have := Int.tmod_nonneg (k : Int) h
    omega
theorem intSV_set (l : List Int) (s : Nat) (v : Int) : (intSV l).set s (.int .i64 v) = intSV (l.set s v) := by simp [intSV, List.map_set]
theorem own_int {q len j : Nat} (h : j < len) : indexAddrS ES.P T_sl_int (.own q 1 0 len) (.int .i64 j) = some (.ptr q j 0) := by simp [indexAddrS, natS, h]
theorem own_ld {get : Nat → Option (List SV)} {q j : Nat} {l : List Int} (hg : get q = some (intSV l)) (h : j < l.length) : loadS ES.P get T_int (.ptr q j 0) = some (.int .i64 l[j]) :=
  loadS_own ti_int hg (x := .int .i64 l[j]) (by simp [intSV, h]) rfl
theorem own_st {get : Nat → Option (List SV)} {q j : Nat} {l : List Int} (v : Int) (hg : get q = some (intSV l)) (h : j < l.length) : storeS ES.P get T_int (.ptr q j 0) (.int .i64 v) = some [(q, some (intSV (l.set j v)))] := by
  rw [← intSV_set]
  exact storeS_own ti_int hg (x := .int .i64 l[j]) (by simp [intSV, h]) rfl rfl (by simp [setPart])
/-- A list of numbers of the call's own, handed on. -/
theorem ints_pic {q : Nat} {l : List Int} {M : Mem} (hq : M.blk q = some (intSV l)) (hn : q < M.next) : ∃ y, pic M.blk false picDepth (.own q 1 0 l.length) = some y ∧ Ints y l := by
  have hO : OutR 1 (.own q 1 0 l.length) M (intSV l) := .inr ⟨q, by rw [intSV_len], hq, hn⟩
  obtain ⟨y, h1, h2, h3, _⟩ := hO.pic (fun x hx => by
    simp only [intSV, List.mem_map] at hx
    obtain ⟨v, _, rfl⟩ := hx
    exact np_of_pv rfl _)
  exact ⟨y, h1, RSl.of_map h2 h3⟩
theorem u8s_of {n : Nat} {xs : List SV} (h : WT ES.P (n + 2) T_sl_uint8 xs) : ∃ l : List Int, RSl (fun y v => y = .int .u8 v) (mkV ES.P T_sl_uint8 xs) l ∧ (∀ v ∈ l, 0 ≤ v ∧ v ≤ 255) := by
  rcases WT_slice ti_sl_uint8 ti_uint8 h with ⟨e1, h⟩ | ⟨items, e1, h, hl, hi⟩
  · rw [h]; exact ⟨[], RSl.nil _, by simp⟩
  · rw [h]
    obtain ⟨l, hl2⟩ := RSl.exists (R := fun y (v : Int) => y = .int .u8 v ∧ 0 ≤ v ∧ v ≤ 255) (tl := .ro) (items := items) fun y hy => by
      obtain ⟨ys, rfl, hw⟩ := hi y hy
      obtain ⟨v, _, e, w⟩ := WT_int ti_uint8 hw
      exact ⟨v, e, wf8 w⟩
    refine ⟨l, ⟨hl2.sl, hl2.len, fun j y a hy ha => (hl2.at' j y a hy ha).1⟩, fun v hv => ?_⟩
    obtain ⟨j, hj, rfl⟩ := List.mem_iff_getElem.1 hv
    obtain ⟨y, hy, hr⟩ := hl2.get hj
    exact hr.2
set_option maxHeartbeats 8000000 in
theorem SteerFollows_walk (xs0 xs1 xs2 : List SV) (h0 : WT ES.P 8 T_sl_uint8 xs0) (h1 : WT ES.P 8 T_sl_api_Offer xs1) (h2 : WT ES.P 8 T_uint8 xs2) :
    ∃ M', ICw ES n_l16_SteerFollows [mkV ES.P T_sl_uint8 xs0, mkV ES.P T_sl_api_Offer xs1, mkV ES.P T_uint8 xs2] .empty = some (.bool true, M') := by
  obtain ⟨was, hx, h8⟩ := u8s_of h0
  obtain ⟨os, hz⟩ := offers_of h1
  obtain ⟨self, _, e2, w2⟩ := WT_int ti_uint8 h2
  have b2 := wf8 w2
  rw [e2, b_l16_SteerFollows]
  generalize mkV ES.P T_sl_uint8 xs0 = x at *
  generalize mkV ES.P T_sl_api_Offer xs1 = z at *
  have l1 := hx.lenS ti_sl_uint8
  have l2 := hz.lenS ti_sl_api_Offer
  have k0 := fun get => l16_small_c get hz
  by_cases c0 : was = []
  · subst c0
    simp [c_l16_SteerFollows, evW_reg, evW_chkr, isCst, TK.agg, zeroS, endS, resS, l1]
  · have hpos : 0 < was.length := List.length_pos_iff.2 c0
    have c0' : ¬ (was.length : Int) = 0 := by omega
    by_cases c1 : 6 < (was.length : Int)
    · simp [c_l16_SteerFollows, evW_reg, evW_chkr, isCst, TK.agg, zeroS, endS, resS, l1, c0, c1]
    · cases hs : smallO os with
      | false =>
        rw [hs] at k0
        simp [c_l16_SteerFollows, evW_reg, evW_chkr, isCst, TK.agg, zeroS, endS, resS, l1, c0, c1, k0]
      | true =>
        rw [hs] at k0
        obtain ⟨h30, _⟩ := smallO_len hs
        have hnp : ∀ (j : Nat) (h : j < os.length) (A : SV), (∀ get, loadS ES.P get T_sl_int (.rptr (its z) j 7 (stOf z)) = some A) → Sh.np 9 A = true := fun j h A hq => by
          obtain ⟨A', hA', _, _, q2⟩ := Offers.at hz h
          have := (q2 (fun _ => none)).symm.trans (hq _)
          cases this
          exact hA'.np9
        obtain ⟨r, g1, Ma, oa, rfl, ia⟩ := loop_st (E := ES) (me := n_l16_SteerFollows) (B := c_l16_SteerFollows_B0) (β := SV) (len := was.length) (T := fun j o => h_l16_SteerFollows_0 x z (.int .u8 self) o (.int .i64 j))
          (I := fun j o M => OutR 1 o M (intSV (capL (was.take j))))
          (Q := fun r => ∃ M' o, r = (.exit 0, ⟨(h_l16_SteerFollows_0 x z (.int .u8 self) o (.int .i64 was.length)).set 36 (.bool false), M'⟩) ∧ OutR 1 o M' (intSV (capL was)))
          (fun j o M hj hI => by
            left
            obtain ⟨M', o', a1, a2⟩ := Follows_B0 (z := z) (t2 := .int .u8 self) hx h8 (by omega) hj hI
            exact ⟨o', M', a1, a2⟩)
          (fun o M hI => ⟨_, by simp [c_l16_SteerFollows_B0, evW_reg, evW_chkr, isCst, TK.agg, zeroS, endS, resS, h_l16_SteerFollows_0, l1], by simp, M, o, rfl, by rw [List.take_length] at hI; exact hI⟩) 0 .nilsl Mem.empty (by omega) (.inl ⟨rfl, rfl⟩)
        have hcl : (capL was).length = was.length := by simp [capL]
        rcases ia with ⟨e, _⟩ | ⟨q, rfl, hq, hqn⟩
        · have : (intSV (capL was)).length = 0 := by rw [e]; rfl
          rw [intSV_len, hcl] at this
          omega
        rw [intSV_len, hcl] at g1
        obtain ⟨s, hsl, hse⟩ := rem_of b2.1 hpos
        have hz0 : (was.length : Int) ≠ 0 := by omega
        have hsw : IntKind.i64.wrap self = self := i64_in (by omega) (by omega)
        have hst := own_st (get := Ma.blk) 0 hq (show s < (capL was).length by omega)
        have hix := own_int (q := q) hsl
        generalize hal : (capL was).set s 0 = al at hst
        have hall : al.length = was.length := by rw [← hal]; simp [capL]
        have has : ageO al s = some 0 := by
          rw [ageO_nat, ← hal]
          simp [hcl, hsl]
        obtain ⟨r, g2, Mb, ob, rfl, items, ib, iL, iq, iqn, iqo⟩ := loop_st (E := ES) (me := n_l16_SteerFollows) (B := c_l16_SteerFollows_B1) (β := SV) (len := os.length) (T := fun j o => h_l16_SteerFollows_1 z (.own q 1 0 was.length) (.int .i64 s) o (.int .i64 j))
          (I := fun j o M => ∃ items, OutR 1 o M items ∧ ListIs items ((os.take j).map (·.ages)) ∧ M.blk q = some (intSV al) ∧ q < M.next ∧ (∀ e a b, o ≠ .own q e a b))
          (Q := fun r => ∃ M' o, r = (.exit 2, ⟨(h_l16_SteerFollows_1 z (.own q 1 0 was.length) (.int .i64 s) o (.int .i64 os.length)).set 59 (.bool false), M'⟩) ∧ ∃ items, OutR 1 o M' items ∧ ListIs items (os.map (·.ages)) ∧ M'.blk q = some (intSV al) ∧ q < M'.next ∧ (∀ e a b, o ≠ .own q e a b))
          (fun j o M hj ⟨items, i1, i2, i3, i4, i5⟩ => by
            left
            obtain ⟨M', o', items', a1, a2⟩ := Follows_B1 hz hnp h30 (a := .own q 1 0 was.length) (s := .int .i64 s) hj i1 i2 i3 i4 i5
            exact ⟨o', M', a1, items', a2⟩)
          (fun o M ⟨items, i1, i2, i3, i4, i5⟩ => ⟨_, by simp [c_l16_SteerFollows_B1, evW_reg, evW_chkr, isCst, TK.agg, zeroS, endS, resS, h_l16_SteerFollows_1, l2], by simp, M, o, rfl, items, i1, by rw [List.take_length] at i2; exact i2, i3, i4, i5⟩) 0 .nilsl (Ma.set q (some (intSV al))) (by omega)
          ⟨[], .inl ⟨rfl, rfl⟩, ⟨rfl, fun j y l h => by simp at h⟩, by simp, by simpa using hqn, by simp⟩
        obtain ⟨y1, p1, hy1⟩ := ints_pic iq iqn
        rw [hall] at p1
        obtain ⟨y2, p2, s2, t2, n2⟩ := ib.pic iL.np11
        have hy2 := iL.rsl s2 t2
        have hp0 : ∀ v : Int, pic Mb.blk false picDepth (.int .i64 v) = some (.int .i64 v) := fun v => pic_np (np_of_pv rfl _)
        obtain ⟨nw, n1, hnw, hnv⟩ := r10_Next_c hy1 hy2 (by simp; omega) s 30
        have c1' : callP (PCw ES) Mb.blk n_r10_Next [.own q 1 0 was.length, .int .i64 s, ob, .int .i64 30] = some nw := by
          have := n1 Mb.blk
          rw [callP_pic (ys := [y1, .int .i64 s, y2, .int .i64 30]) (by simp [pic_np hy1.np12, pic_np (hy2.npE elmLists), hp0])] at this
          rw [callP_pic (ys := [y1, .int .i64 s, y2, .int .i64 30]) (by simp [p1, p2, hp0])]
          exact this
        have hns : ageO (nextG al s (os.map (·.ages)) 30) s = some 0 := r10_next_self (by omega) (by omega) 30
        generalize nextG al s (os.map (·.ages)) 30 = now at *
        have k2 := fun get => r10_Root_c get hnw 30
        generalize rootG now 30 = root at *
        have k3 : callP (PCw ES) Mb.blk n_steer_Parent [.own q 1 0 was.length, nw, z, .int .i64 root] = some (.int .i64 (parentG al now os root)) := by
          have := steer_Parent_c Mb.blk hy1 hnw hz (by omega) root
          have hpn : pic Mb.blk false picDepth nw = some nw := pic_np hnw.np12
          have hpz : pic Mb.blk false picDepth z = some z := pic_np (hz.npE elmOff)
          rw [callP_pic (ys := [y1, nw, z, .int .i64 root]) (by simp [pic_np hy1.np12, hpn, hpz, hp0])] at this
          rw [callP_pic (ys := [y1, nw, z, .int .i64 root]) (by simp [p1, hpn, hpz, hp0])]
          exact this
        have hlo : lenS ES.P T_sl_int (.own q 1 0 was.length) = some (.int .i64 was.length) := by simp [lenS]
        simp [h_l16_SteerFollows_0] at g1
        simp [h_l16_SteerFollows_1] at g2
        rcases parentG_cases al now os root with hk | ⟨k, hk⟩
        · rw [hk] at k3
          simp (maxSteps := 4000000) [c_l16_SteerFollows, evW_reg, evW_chkr, isCst, TK.agg, zeroS, endS, resS, l1, l2, c0, c0', c1, k0, c_l16_SteerFollows_L0, g1, hlo, convS, hsw, binS_rem hz0, hse, hix, hst, c_l16_SteerFollows_L1, g2, c1', k2, k3]
        · obtain ⟨hkl, hne, r, rfl, f1, f2, f3, f4, f5, f6, f7⟩ := follows_law hk has hns
          rw [hk] at k3
          obtain ⟨A, hA, _, q1, q2⟩ := Offers.at hz hkl
          have hlA := hA.lenS ti_sl_int
          have u1 := Ints.at hA f1
          have u2 := Ints.ld f1
          have u3 := Ints.at hnw f3
          have u4 := Ints.ld f3
          have u5 := own_int (q := q) (show r < was.length by omega)
          have u6 := own_ld (get := Mb.blk) iq f2
          have hwr : IntKind.i64.wrap (os[k].ages[r] + 1) = os[k].ages[r] + 1 := i64_in (by omega) (by omega)
          have hwn : IntKind.i64.wrap now[r] = now[r] := i64_in (by omega) (by omega)
          have hk0 : ¬ (k : Int) < 0 := by omega
          have hne' : ¬ r = s := fun e => hne (by omega)
          simp (maxSteps := 4000000) [c_l16_SteerFollows, evW_reg, evW_chkr, isCst, TK.agg, zeroS, endS, resS, fieldAddrS, l1, l2, c0, c0', c1, k0, c_l16_SteerFollows_L0, g1, hlo, convS, hsw, binS_rem hz0, hse, hix, hst, c_l16_SteerFollows_L1, g2, c1', k2, k3, hk0, hkl, hne', hne, q1, q2, hlA, f1, u1, u2, u3, u4, u5, u6, f4, hwr, hwn, f5]

end Go.Proofs.YtjhlibdiojepaaaGreatDoor
