/-
  Walks of the seat's functions: Oj.
-/
import Derived.Test.YtljjmdcdlcefmaaGreatDoorEbMa
import Derived.Test.YtljjmdcdlcefmaaGreatDoorShMb
import Derived.Test.YtljjmdcdlcefmaaGreatDoorLzMi
import Derived.Test.YtljjmdcdlcefmaaGreatDoorLBi
set_option linter.unusedVariables false
set_option linter.unusedSimpArgs false
set_option maxRecDepth 100000
namespace Go.Proofs.YtljjmdcdlcefmaaGreatDoor
open Go.Proofs.YtljjmdcdlcefmaaGreatDoor.Sh
/-! Cells made right out of any: ages, nodes. -/
theorem mn2 (a b : Int) : mmS false [.int .i64 a, .int .i64 b] = some (.int .i64 (min a b)) := by
  simp only [mmS, mmGo, Bool.false_eq_true, if_false]
  congr 2
  split <;> omega
theorem int_snoc (l : List Int) (v : Int) : numSV l ++ [.int .i64 v] = numSV (l ++ [v]) := by simp [numSV]
structure WhI (K : List SV) (b : Nat) (o : SV) (l : List Int) (M : Mem) : Prop where
  hc : M.blk b = some [.agg K]
  lt : b < M.next
  ho : OutR 1 o M (numSV l)
  ne : ∀ e p q, o ≠ .own b e p q
theorem WhI.app {K : List SV} {b : Nat} {o : SV} {l : List Int} {M : Mem} (h : WhI K b o l M) (v : Int) (hl : l.length ≤ 1000000) :
    ∃ o' k M1, appendS ES.P ((M.bump 5).set (M.next + 2) (some [.int .i64 v])).blk (M.next + 3) T_sl_int T_sl_int o (.own (M.next + 2) 1 0 1) = some (o', k) ∧ ((M.bump 5).set (M.next + 2) (some [.int .i64 v])).sets k = M1 ∧ WhI K b o' (l ++ [v]) M1 := by
  obtain ⟨o', k, p1, p2, p3, p4, p5⟩ := OutR.nextS (P := ES.P) (te := ⟨.int .i64, 1, 8, some (.int .i64 0)⟩) (get := ((M.bump 5).set (M.next + 2) (some [.int .i64 v])).blk) (o := o) (x := .own (M.next + 2) 1 0 1) (M := M) (items := numSV l) (ys := [.int .i64 v]) (X := (M.bump 5).set (M.next + 2) (some [.int .i64 v])) (a := M.next + 3) ti_sl_int ti_int rfl (by decide) rfl rfl h.ho (by rw [numSV_len]; show (l.length + 1) * 8 ≤ _; omega) (by rw [numSV_len]; show l.length + 1 ≤ _; omega)
    (fun id hid => by
      have e : ¬ id = M.next + 2 := by omega
      simp [e]) (by simp [itemsS]) (by simp [srcFits]) rfl (fun id hid => by
      have e : ¬ id = M.next + 2 := by omega
      simp [e]) (by show M.next + 3 < M.next + 5; omega) (by show M.next ≤ M.next + 5; omega) (by omega)
  rw [int_snoc] at p2
  refine ⟨o', k, _, p1, rfl, (p3 b h.lt h.ne).trans h.hc, by rw [p4]; show b < M.next + 5; have := h.lt; omega, p2, fun e p q hh => ?_⟩
  rcases p5 b e p q hh with h1 | h1
  · have := h.lt; omega
  · exact h.ne e p q (h1 ▸ hh)
set_option maxHeartbeats 4000000 in
theorem whole_B0 {K : List SV} (hlk : K.length = 13) {P : SV} (hK0 : K[0]? = some P) {n : Nat} (hlp : lenS ES.P T_sl_api_Part P = some (.int .i64 n)) (hn : n ≤ 50) {g : Int} (hG : ∀ get, callP (PCw ES) get n_r5_Gone [.agg K] = some (.int .i64 g)) {x : SV} {l : List Int} (hx : Ints x l)
    {b : Nat} {o : SV} {w : List Int} {M : Mem} {j : Nat} (hj : j < n) (h : WhI K b o w M) (hw : w.length = j) :
    ∃ M' o' w', evW ES n_l19_whole c_l19_whole_B0 ⟨h_l19_whole_0 x (.ptr b 0 0) o (.int .i64 j), M⟩ = some (.normal, ⟨h_l19_whole_0 x (.ptr b 0 0) o' (.int .i64 ((j + 1 : Nat) : Int)), M'⟩) ∧ WhI K b o' w' M' ∧ w'.length = j + 1 := by
  have hw1 : IntKind.i64.wrap ((j : Int) + 1) = (j : Int) + 1 := i64_in (by omega) (by omega)
  have hlx := hx.lenS ti_sl_int
  have hK0' : K[0]'(by omega) = P := by simpa [hlk] using hK0
  have hcb := h.hc
  have bs0 : ∀ (q : Nat) (v : Int), bldSl ES.P T_sl_int 1 q [(0, .int .i64 v)] = some (.own q 1 0 1, [.int .i64 v]) := fun q v => by simp [bldSl, buildRow]
  by_cases c1 : j < l.length
  · have a1 := ints_at hx c1
    have a2 : (l.map (SV.int .i64))[j]? = some (.int .i64 l[j]) := by simp [c1]
    generalize l.map (SV.int .i64) = xs at a1 a2
    generalize l[j] = v at *
    obtain ⟨o', k, M1, p1, p2, p3⟩ := h.app (min (max v 0) g) (by omega)
    refine ⟨M1, o', _, ?_, p3, by simp [hw]⟩
    simp (maxSteps := 4000000) [c_l19_whole_B0, evW_reg, evW_chkr, evW_chfr, isCst, loadS, partS, TK.agg, fieldAddrS, zeroS, storeS, setPart, splice, endS, resS, fieldS, h_l19_whole_0, hcb, hlk, hK0', hlp, hj, hlx, c1, a1, a2, hG, mx2, mn2, bs0, p1, p2, hw1]
  · obtain ⟨o', k, M1, p1, p2, p3⟩ := h.app 1 (by omega)
    refine ⟨M1, o', _, ?_, p3, by simp [hw]⟩
    simp (maxSteps := 4000000) [c_l19_whole_B0, evW_reg, evW_chkr, evW_chfr, isCst, loadS, partS, TK.agg, fieldAddrS, zeroS, storeS, setPart, splice, endS, resS, fieldS, h_l19_whole_0, hcb, hlk, hK0', hlp, hj, hlx, c1, bs0, p1, p2, hw1]
set_option maxHeartbeats 4000000 in
theorem whole_c {P L : SV} {c : Cfg} (hP : CfgP c P L) (hn : c.parts.length ≤ 50) {x : SV} {l : List Int} (hx : Ints x l) (hnx : Sh.np picDepth x = true) :
    ∃ z w, (∀ get, callP (PCw ES) get n_l19_whole [.agg (cfgC c P L), x] = some z) ∧ Ints z w ∧ w.length = c.parts.length ∧ Sh.pv z = true := by
  have hG := fun get => r5_Gone_c get hP
  have hlp := hP.p.lenS ti_sl_api_Part
  have hlk : (cfgC c P L).length = 13 := rfl
  have hK0 : (cfgC c P L)[0]? = some P := rfl
  have hnK := hP.npA
  generalize cfgC c P L = K at *
  have hK0' : K[0]'(by omega) = P := by simpa [hlk] using hK0
  generalize (if rangedC c then val_Gone c else 0) = g at *
  obtain ⟨z, items, h1, ⟨w, h2, hw⟩, h3, h4, h5⟩ := PCw_out (E := ES) (f := n_l19_whole) (esz := 1) (args := [.agg K, x]) (Pr := fun items => ∃ w : List Int, items = numSV w ∧ w.length = c.parts.length) (fun M0 => by
    rw [b_l19_whole]
    obtain ⟨r, g1, Ma, o, w, rfl, hO, hwl⟩ := loop_st (E := ES) (me := n_l19_whole) (B := c_l19_whole_B0) (β := SV × List Int) (len := c.parts.length) (T := fun j o => h_l19_whole_0 x (.ptr M0.next 0 0) o.1 (.int .i64 j))
      (I := fun j o M => WhI K M0.next o.1 o.2 M ∧ o.2.length = j)
      (Q := fun r => ∃ M' o w, r = (.exit 0, ⟨(h_l19_whole_0 x (.ptr M0.next 0 0) o (.int .i64 c.parts.length)).set 12 (.bool false), M'⟩) ∧ OutR 1 o M' (numSV w) ∧ w.length = c.parts.length)
      (fun j o M hj ⟨i1, i2⟩ => by
        left
        obtain ⟨M', o', w', a1, a2, a3⟩ := whole_B0 hlk hK0 hlp hn hG hx hj i1 i2
        exact ⟨(o', w'), M', a1, a2, a3⟩)
      (fun o M ⟨i1, i2⟩ => by
        have hcb := i1.hc
        exact ⟨_, by simp [c_l19_whole_B0, evW_reg, evW_chkr, evW_chfr, isCst, loadS, partS, TK.agg, fieldAddrS, zeroS, storeS, setPart, splice, endS, resS, fieldS, h_l19_whole_0, hcb, hlk, hK0', hlp], by simp, M, o.1, o.2, rfl, i1.ho, i2⟩) 0 (.nilsl, []) ((M0.bump 2).set M0.next (some [.agg K])) (by omega)
      ⟨⟨by simp, by show M0.next < M0.next + 2; omega, .inl ⟨rfl, rfl⟩, fun _ _ _ h => by cases h⟩, rfl⟩
    simp [h_l19_whole_0] at g1
    refine ⟨o, Ma, _, ?_, hO, w, rfl, hwl⟩
    simp [c_l19_whole, evW_reg, evW_chkr, evW_chfr, isCst, TK.agg, zeroS, endS, resS, c_l19_whole_L0, g1]) (fun items ⟨w, h, _⟩ y hy => int_sv w y (h ▸ hy))
  subst h2
  exact ⟨z, w, fun get => callP_of h1 (by simp [hnK, hnx]), RSl.of_map h3 h4, hw, h5⟩
set_option maxHeartbeats 8000000 in
theorem held_c {P L : SV} {c : Cfg} (hP : CfgP c P L) (hn : c.parts.length ≤ 50) (hd : 0 ≤ c.drift ∧ c.drift ≤ 500) (n : Node) {A : SV} (hA : Ints A n.ages) (hpA : Sh.pv A = true) :
    ∃ y n', (∀ get, callP (PCw ES) get n_l19_held [.agg (cfgC c P L), .agg (ndC n A)] = some y) ∧ NdR y n' ∧ n'.ages.length ≤ 50 := by
  obtain ⟨z, w, z1, z2, z3, z4⟩ := whole_c hP hn hA (np_of_pv hpA _)
  have hlk : (cfgC c P L).length = 13 := rfl
  have hK6 : (cfgC c P L)[6]? = some (.int .i64 c.drift) := rfl
  have hnK := hP.npA
  have hna := np_of_pv (ndPv (n := n) hpA) picDepth
  have w1 : IntKind.i64.wrap (c.drift + 1) = c.drift + 1 := i64_in (by omega) (by omega)
  have hb : ∀ v : Int, binS ES.P .rem T_int false (.int .i64 v) (.int .i64 (c.drift + 1)) = some (.int .i64 (v.tmod (c.drift + 1))) := fun v => binS_rem (by omega)
  generalize cfgC c P L = K at *
  have hK6' : K[6]'(by omega) = .int .i64 c.drift := by simpa [hlk] using hK6
  by_cases h2 : (andI .i64 n.state 3).tmod 3 = 2
  · refine ⟨.agg (ndC ⟨2, andI .i64 n.wait 31, n.drift.tmod (c.drift + 1), n.start.tmod 2147483648, andI .i64 n.cycle 274877906943, w, andI .i64 n.mask 4095, andI .i64 n.bad 1023⟩ z), _, fun get => callP_of (PCw_ex (fun M0 => ?_) (ndPv z4)) (by simp [hnK, hna]), ⟨z, rfl, z2, z4⟩, by show w.length ≤ 50; omega⟩
    rw [b_l19_held]
    simp (maxSteps := 4000000) [c_l19_held, evW_reg, evW_chkr, evW_chfr, isCst, loadS, partS, TK.agg, fieldAddrS, zeroS, storeS, setPart, splice, endS, resS, fieldS, ndC, hlk, hK6', w1, hb, h2, z1, sl_cells hA.sl, sl_sto hA.sl, sl_cells z2.sl, sl_sto z2.sl]
  · refine ⟨.agg (ndC ⟨(andI .i64 n.state 3).tmod 3, andI .i64 n.wait 31, n.drift.tmod (c.drift + 1), n.start.tmod 2147483648, andI .i64 n.cycle 274877906943, [], andI .i64 n.mask 4095, andI .i64 n.bad 1023⟩ .nilsl), _, fun get => callP_of (PCw_ex (fun M0 => ?_) (ndPv rfl)) (by simp [hnK, hna]), ⟨.nilsl, rfl, RSl.nil _, rfl⟩, by simp⟩
    rw [b_l19_held]
    simp (maxSteps := 4000000) [c_l19_held, evW_reg, evW_chkr, evW_chfr, isCst, loadS, partS, TK.agg, fieldAddrS, zeroS, storeS, setPart, splice, endS, resS, fieldS, ndC, hlk, hK6', w1, hb, h2, sl_cells hA.sl, sl_sto hA.sl]

end Go.Proofs.YtljjmdcdlcefmaaGreatDoor
