/-
  Walks of the seat's functions: Vg.
-/
import Derived.Test.YtaldchogcingbaaEb0
import Derived.Test.YtaldchogcingbaaShMb
import Derived.Test.YtaldchogcingbaaLzMb
set_option linter.unusedVariables false
set_option linter.unusedSimpArgs false
set_option maxRecDepth 100000
namespace Go.Proofs.Ytaldchogcingbaa
open Go.Proofs.Ytaldchogcingbaa.Sh
/-! The law VoteFaults. -/
theorem heards_own {o : SV} {M : Mem} {items : List SV} {l : List Heard} (ho : OutR 16 o M items) (hc : Heards (.sl items .ro) l) : ∃ x, Heards x l ∧ ∀ f, callP (PCw ES) M.blk f [o] = PCw ES f [x] := by
  rcases ho with ⟨rfl, rfl⟩ | ⟨id, rfl, hid, _⟩
  · have : l = [] := List.length_eq_zero_iff.1 hc.len.symm
    subst this
    refine ⟨.nilsl, RSl.nil _, fun f => ?_⟩
    rw [callP_pic (ys := [.nilsl]) (by simp [show pic M.blk false picDepth .nilsl = some .nilsl from pic_np (np_of_pv rfl _)])]
  · refine ⟨.sl items .snap, hc.of_its rfl rfl, fun f => ?_⟩
    have hp : pic M.blk false picDepth (.own id 16 0 items.length) = some (.sl items .snap) := by
      rw [pic_snap hid (Nat.le_refl _) (fun u hu => by
        obtain ⟨a, _, A, B, e, hA, hB⟩ := RSl.mem hc hu
        rw [e]
        exact np_le (by decide) (hdNp hA hB))]
      simp
    rw [callP_pic (ys := [.sl items .snap]) (by simp [hp])]
def mineH (cycle : Int) (ages : List Int) (i : Nat) : Heard := ⟨i, ⟨2, 0, (i : Int).tmod 12, 0, 0, 0, false, cycle, 0, ages, 0, 0, 0, []⟩, 0⟩
theorem cnt_app (c : Cn) (l m : List Cn) : cnt c (l ++ m) = cnt c l + cnt c m := List.countP_append
/-- Those that say one thing are more than the others: it wins. -/
theorem faults_win {ws mine : List Heard} {c : Cn} {f : Nat} (h1 : ws.length ≤ f) (h2 : f < mine.length) (h3 : ∀ h ∈ mine, h.f.kind = 2 ∧ conOf h = c) : (∀ h ∈ backG (ws ++ mine), conOf h = c) ∧ mine.length ≤ (backG (ws ++ mine)).length := by
  have hk : kindG (ws ++ mine) 2 = kindG ws 2 ++ mine := by
    unfold kindG
    rw [List.filter_append]
    congr 1
    exact List.filter_eq_self.2 fun h hh => by simp [(h3 h hh).1]
  have hwl : (kindG ws 2).length ≤ f := Nat.le_trans (List.length_filter_le _ _) h1
  have hw : winner (kindG ws 2 ++ mine) = some c := by
    have hl : (consOf (kindG ws 2 ++ mine)).length = (kindG ws 2 ++ mine).length := by simp [consOf]
    have hsp := winUp_spec (l := consOf (kindG ws 2 ++ mine)) (consOf (kindG ws 2 ++ mine)).length (Nat.le_refl _)
    obtain ⟨a, ha, _, e, e2⟩ := hsp.2 (by rw [hl, List.length_append]; omega)
    have hm : consOf mine = List.replicate mine.length c := List.eq_replicate_iff.2 ⟨by simp [consOf], fun x hx => by
      simp only [consOf, List.mem_map] at hx
      obtain ⟨h, hh, rfl⟩ := hx
      exact (h3 h hh).2⟩
    have hco : consOf (kindG ws 2 ++ mine) = consOf (kindG ws 2) ++ List.replicate mine.length c := by rw [← hm]; simp [consOf]
    have hc : mine.length ≤ cnt c (consOf (kindG ws 2 ++ mine)) := by
      rw [hco, cnt_app]
      have : cnt c (List.replicate mine.length c) = mine.length := by unfold cnt; rw [List.countP_eq_length.2 (fun x hx => by rw [List.eq_of_mem_replicate hx]; simp)]; simp
      omega
    have hin : c ∈ consOf (kindG ws 2 ++ mine) := by
      rw [hco]
      exact List.mem_append_right _ (List.mem_replicate.2 ⟨by omega, rfl⟩)
    obtain ⟨i, hi, ei⟩ := List.mem_iff_getElem.1 hin
    have hle := (hsp.1 i hi (by omega)).1
    rw [ei] at hle
    have hwin : (consOf (kindG ws 2 ++ mine))[a] = c := by
      by_cases hh : (consOf (kindG ws 2 ++ mine))[a] = c
      · exact hh
      · exfalso
        generalize hx : (consOf (kindG ws 2 ++ mine))[a] = x at *
        have : cnt x (consOf (kindG ws 2 ++ mine)) ≤ f := by
          rw [hco, cnt_app]
          have e0 : cnt x (List.replicate mine.length c) = 0 := by unfold cnt; exact List.countP_eq_zero.2 (fun y hy => by rw [List.eq_of_mem_replicate hy]; simpa using hh)
          have e1 := cnt_le x (consOf (kindG ws 2))
          have : (consOf (kindG ws 2)).length = (kindG ws 2).length := by simp [consOf]
          omega
        omega
    unfold winner
    rw [e]
    simp only [Int.toNat_natCast]
    rw [List.getElem?_eq_getElem ha, hwin]
  unfold backG
  rw [hk]
  constructor
  · intro h hh
    have := (List.mem_filter.1 hh).2
    unfold isWin at this
    rw [hw] at this
    simpa [eq_comm] using this
  · rw [List.filter_append, List.length_append]
    have : mine.filter (isWin (kindG ws 2 ++ mine)) = mine := List.filter_eq_self.2 fun h hh => by
      unfold isWin
      rw [hw, (h3 h hh).2]
      simp
    rw [this]
    omega
theorem map_take {α : Type} (g : Nat → α) (k j : Nat) (h : j < k) : (List.range (j + 1)).map g = (List.range j).map g ++ [g j] := by
  rw [List.range_succ, List.map_append]
  rfl
set_option maxHeartbeats 8000000 in
theorem Faults_B0 {A : SV} {ages : List Int} (hA : Ints A ages) (cycle : Int) {ws : List Heard} (hws : ws.length ≤ 100) {f : Int} {k j : Nat} (hk : k ≤ 1000) (hj : j < k) {o : SV} {items : List SV} {M : Mem} (ho : OutR 16 o M items) (hr : Heards (.sl items .ro) (ws ++ (List.range j).map (mineH cycle ages))) :
    ∃ M' o' items', evW ES n_l14_VoteFaults c_l14_VoteFaults_B0 ⟨h_l14_VoteFaults_0 (.int .i64 cycle) A (.int .i64 f) (.int .i64 k) o (.int .i64 j), M⟩ = some (.normal, ⟨h_l14_VoteFaults_0 (.int .i64 cycle) A (.int .i64 f) (.int .i64 k) o' (.int .i64 ((j + 1 : Nat) : Int)), M'⟩) ∧ OutR 16 o' M' items' ∧ Heards (.sl items' .ro) (ws ++ (List.range (j + 1)).map (mineH cycle ages)) := by
  have hw : IntKind.i64.wrap ((j : Int) + 1) = (j : Int) + 1 := i64_in (by omega) (by omega)
  have hil : items.length ≤ 1000000 := by
    have h1 := hr.len
    simp [its] at h1
    omega
  obtain ⟨o', kk, M1, p1, p2, p3, _⟩ := hdApp (h := mineH cycle ages j) (A := A) (B := .nilsl) ho hil (show Old M M by simp) (Nat.le_refl _) 11 8 9 (by decide) (by decide)
  have bs := bldHd (mineH cycle ages j) A .nilsl (by rw [sl_cells hA.sl]; rfl) rfl (sl_sto hA.sl) rfl
  have r12 : ∀ v : Int, binS ES.P .rem T_int false (.int .i64 v) (.int .i64 12) = some (.int .i64 (v.tmod 12)) := fun v => binS_rem (by omega)
  have b1 : bldS ES.P T_api_Frame [(0, .int .i64 2), (2, .int .i64 ((j : Int).tmod 12)), (7, .int .i64 cycle), (9, A)] = some (.agg (frC (mineH cycle ages j).f A .nilsl)) := by
    simp [bldS, placesOf, buildS, splice, frC, mineH, sl_cells hA.sl, sl_sto hA.sl]
  have b2 : bldS ES.P T_api_Heard [(0, .int .i64 j), (1, .agg (frC (mineH cycle ages j).f A .nilsl))] = some (.agg (hdC (mineH cycle ages j) A .nilsl)) := by
    simp [bldS, placesOf, buildS, splice, frC, hdC, mineH, sl_cells hA.sl, sl_sto hA.sl]
  refine ⟨M1, o', _, ?_, p3, ?_⟩
  · simp (maxSteps := 4000000) [c_l14_VoteFaults_B0, evW_reg, evW_chkr, evW_chfr, isCst, loadS, partS, TK.agg, fieldAddrS, zeroS, storeS, setPart, splice, endS, resS, fieldS, h_l14_VoteFaults_0, hj, hw, r12, b1, b2, bs, p1, p2, sl_cells hA.sl, sl_sto hA.sl]
  · rw [map_take _ k j hj, ← List.append_assoc]
    exact RSl.snoc hr ⟨A, .nilsl, rfl, hA, RSl.nil _⟩
set_option maxHeartbeats 8000000 in
theorem Faults_B1 {A z : SV} {ages : List Int} (hA : Ints A ages) (hal : ages.length ≤ 1000000) (cycle : Int) {m : List Heard} (hz : Heards z m) (hm : ∀ h ∈ m, conOf h = (cycle, ages)) (hl : m.length ≤ 1000000) {j : Nat} (hj : j < m.length) (M : Mem) :
    evW ES n_l14_VoteFaults c_l14_VoteFaults_B1 ⟨h_l14_VoteFaults_1 (.int .i64 cycle) A z (.int .i64 j), M⟩ = some (.normal, ⟨h_l14_VoteFaults_1 (.int .i64 cycle) A z (.int .i64 ((j + 1 : Nat) : Int)), M⟩) := by
  have hlz := hz.lenS ti_sl_api_Heard
  obtain ⟨u, ⟨A', B', rfl, hA', hB'⟩, hu, hui, _⟩ := hz.item ti_sl_api_Heard ti_api_Heard elmHd hj
  have hw : IntKind.i64.wrap ((j : Int) + 1) = (j : Int) + 1 := i64_in (by omega) (by omega)
  have hc := hm _ (List.getElem_mem hj)
  generalize m[j] = h at *
  simp only [conOf, Prod.mk.injEq] at hc
  obtain ⟨e1, e2⟩ := hc
  rw [e2] at hA'
  have hs := fun get => r1_SameInts_d get hA' hA hal
  simp only [decide_true] at hs
  simp only [hdC, e1] at hu
  simp (maxSteps := 4000000) [c_l14_VoteFaults_B1, evW_reg, evW_chkr, evW_chfr, isCst, loadS, partS, TK.agg, fieldAddrS, zeroS, storeS, setPart, splice, endS, resS, fieldS, h_l14_VoteFaults_1, hlz, hj, hw, hui, hu, hs]
set_option maxHeartbeats 8000000 in
theorem VoteFaults_walk (xs0 xs1 xs2 xs3 xs4 : List SV) (h0 : WT ES.P 8 T_int64 xs0) (h1 : WT ES.P 8 T_sl_int xs1) (h2 : WT ES.P 8 T_uint8 xs2) (h3 : WT ES.P 8 T_sl_api_Heard xs3) (h4 : WT ES.P 8 T_uint8 xs4) :
    ∃ M', ICw ES n_l14_VoteFaults [mkV ES.P T_int64 xs0, mkV ES.P T_sl_int xs1, mkV ES.P T_uint8 xs2, mkV ES.P T_sl_api_Heard xs3, mkV ES.P T_uint8 xs4] .empty = some (.bool true, M') := by
  obtain ⟨cycle, _, e0, _⟩ := WT_int ti_int64 h0
  obtain ⟨ages, hA, _⟩ := int_row h1
  obtain ⟨right, _, e2, g2⟩ := WT_int ti_uint8 h2
  obtain ⟨ws, hx⟩ := heards_of h3
  obtain ⟨faults, _, e4, g4⟩ := WT_int ti_uint8 h4
  rw [e0, e2, e4, b_l14_VoteFaults]
  generalize mkV ES.P T_sl_api_Heard xs3 = x at *
  generalize mkV ES.P T_sl_int xs1 = A at *
  have hf := fun get => l14_few_c get hx
  have hla := hA.lenS ti_sl_int
  have hlx := hx.lenS ti_sl_api_Heard
  have q4 : 0 ≤ faults ∧ faults ≤ 255 := by simpa [Lit.wf, IntKind.min, IntKind.max, IntKind.bits, IntKind.signed] using g4
  have q2 : 0 ≤ right ∧ right ≤ 255 := by simpa [Lit.wf, IntKind.min, IntKind.max, IntKind.bits, IntKind.signed] using g2
  have w4 : IntKind.i64.wrap faults = faults := i64_in (by omega) (by omega)
  have w2 : IntKind.i64.wrap right = right := i64_in (by omega) (by omega)
  obtain ⟨f, ef, hf3⟩ : ∃ f : Nat, faults.tmod 4 = f ∧ f ≤ 3 := ⟨(faults.tmod 4).toNat, by have := Int.tmod_nonneg 4 q4.1; omega, by have := Int.tmod_lt_of_pos faults (show (0 : Int) < 4 by omega); omega⟩
  obtain ⟨r, er, hr7⟩ : ∃ f : Nat, right.tmod 8 = f ∧ f ≤ 7 := ⟨(right.tmod 8).toNat, by have := Int.tmod_nonneg 8 q2.1; omega, by have := Int.tmod_lt_of_pos right (show (0 : Int) < 8 by omega); omega⟩
  have r4 : ∀ v : Int, binS ES.P .rem T_int true (.int .i64 v) (.int .i64 4) = some (.int .i64 (v.tmod 4)) := fun v => binS_rem (by omega)
  have r8 : ∀ v : Int, binS ES.P .rem T_int true (.int .i64 v) (.int .i64 8) = some (.int .i64 (v.tmod 8)) := fun v => binS_rem (by omega)
  have cv4 : ∀ get, convS ES.P get T_uint8 T_int (.int .u8 faults) = some (.int .i64 faults) := fun get => by simp [convS, w4]
  have cv2 : ∀ get, convS ES.P get T_uint8 T_int (.int .u8 right) = some (.int .i64 right) := fun get => by simp [convS, w2]
  cases hc : fewB ws with
  | false =>
    rw [hc] at hf
    simp (maxSteps := 4000000) [c_l14_VoteFaults, evW_reg, evW_chkr, evW_chfr, isCst, loadS, partS, TK.agg, fieldAddrS, zeroS, storeS, setPart, splice, endS, resS, fieldS, r4, cv4, ef, hf]
  | true =>
    rw [hc] at hf
    obtain ⟨h60, hk⟩ := few_ok hc
    by_cases c1 : f < ws.length
    · simp (maxSteps := 4000000) [c_l14_VoteFaults, evW_reg, evW_chkr, evW_chfr, isCst, loadS, partS, TK.agg, fieldAddrS, zeroS, storeS, setPart, splice, endS, resS, fieldS, r4, cv4, ef, hf, hlx, c1]
    by_cases c2 : 20 < ages.length
    · have c2' : 20 < (ages.length : Int) := by omega
      simp (maxSteps := 4000000) [c_l14_VoteFaults, evW_reg, evW_chkr, evW_chfr, isCst, loadS, partS, TK.agg, fieldAddrS, zeroS, storeS, setPart, splice, endS, resS, fieldS, r4, cv4, ef, hf, hlx, c1, hla, c2, c2']
    have c2' : ¬ 20 < (ages.length : Int) := by omega
    obtain ⟨k, ek⟩ : ∃ k : Nat, k = 2 * f + 1 + r := ⟨_, rfl⟩
    have v1 : IntKind.i64.wrap (2 * (f : Int)) = 2 * (f : Int) := i64_in (by omega) (by omega)
    have v2 : IntKind.i64.wrap (2 * (f : Int) + 1) = 2 * (f : Int) + 1 := i64_in (by omega) (by omega)
    have v3 : IntKind.i64.wrap (2 * (f : Int) + 1 + r) = (k : Int) := by rw [i64_in (by omega) (by omega)]; omega
    have hu := RSl.unif hx (n := 16) fun y a h => by obtain ⟨A, B, e, _⟩ := h; rw [e]; rfl
    have hil : (its x).length = ws.length := hx.len
    obtain ⟨o1, k1, p1, p2, _, _, _⟩ := OutR.nextS (P := ES.P) (te := ⟨.struct [(T_int, 0), (T_api_Frame, 1), (T_int64, 15)], 16, 160, some (.agg [.int .i64 0, .int .i64 0, .int .i64 0, .int .i64 0, .int .i64 0, .int .i64 0, .int .i64 0, .bool false, .int .i64 0, .int .i64 0, .nilsl, .int .i64 0, .int .i64 0, .int .i64 0, .nilsl, .int .i64 0])⟩) (get := (Mem.empty.bump 4).blk) (o := .nilsl) (x := x) (M := .empty) (items := []) (ys := its x) (X := Mem.empty.bump 4) (a := 2) ti_sl_api_Heard ti_api_Heard zHeard (by decide) rfl rfl (.inl ⟨rfl, rfl⟩) (by show (0 + (its x).length) * 160 ≤ 140737488355328; omega) (by show 0 + (its x).length ≤ _; omega)
      (fun id hid => by simp) (itemsS_sl hx.sl) (srcFits_sl hx.sl) hu (by simp) (by show 2 < 4; omega) (by show 0 ≤ 4; omega) (by show 0 ≤ 2; omega)
    simp only [List.nil_append] at p2
    have hr0 : Heards (.sl (its x) .ro) (ws ++ (List.range 0).map (mineH cycle ages)) := by
      simpa using (show Heards (.sl (its x) .ro) ws from ⟨rfl, hx.len, hx.at'⟩)
    obtain ⟨M1, eM1⟩ : ∃ M1, (Mem.empty.bump 4).sets k1 = M1 := ⟨_, rfl⟩
    rw [eM1] at p2
    obtain ⟨r', f1, M2, o, items, rfl, hO, hit⟩ := loop_st (E := ES) (me := n_l14_VoteFaults) (B := c_l14_VoteFaults_B0) (β := SV × List SV) (len := k) (T := fun j o => h_l14_VoteFaults_0 (.int .i64 cycle) A (.int .i64 f) (.int .i64 k) o.1 (.int .i64 j))
      (I := fun j o M => OutR 16 o.1 M o.2 ∧ Heards (.sl o.2 .ro) (ws ++ (List.range j).map (mineH cycle ages)))
      (Q := fun r => ∃ M' o items, r = (.exit 0, ⟨(h_l14_VoteFaults_0 (.int .i64 cycle) A (.int .i64 f) (.int .i64 k) o (.int .i64 k)).set 51 (.bool false), M'⟩) ∧ OutR 16 o M' items ∧ Heards (.sl items .ro) (ws ++ (List.range k).map (mineH cycle ages)))
      (fun j o M hj ⟨i1, i2⟩ => by
        left
        obtain ⟨M', o', items', a1, a2, a3⟩ := Faults_B0 hA cycle (f := f) (by omega) (by omega) hj i1 i2
        exact ⟨(o', items'), M', a1, a2, a3⟩)
      (fun o M ⟨i1, i2⟩ => ⟨_, by simp [c_l14_VoteFaults_B0, evW_reg, evW_chkr, evW_chfr, isCst, TK.agg, zeroS, endS, resS, h_l14_VoteFaults_0], by simp, M, o.1, o.2, rfl, i1, i2⟩) 0 (o1, its x) M1 (by omega) ⟨p2, hr0⟩
    obtain ⟨xl, x1, x2⟩ := heards_own hO hit
    have hml : ((List.range k).map (mineH cycle ages)).length = k := by simp
    have hkl : hdsOk (ws ++ (List.range k).map (mineH cycle ages)) := by
      refine ⟨by rw [List.length_append, hml]; omega, fun h hh => ?_⟩
      rcases List.mem_append.1 hh with h1 | h1
      · exact hk.2 h h1
      · simp only [List.mem_map] at h1
        obtain ⟨i, _, rfl⟩ := h1
        exact ⟨by show ages.length ≤ _; omega, by simp [mineH]⟩
    obtain ⟨z, z1, z2, _⟩ := vote_Backers_p x1 hkl
    obtain ⟨b1, b2⟩ := faults_win (ws := ws) (mine := (List.range k).map (mineH cycle ages)) (c := (cycle, ages)) (f := f) (by omega) (by omega) (fun h hh => by
      simp only [List.mem_map] at hh
      obtain ⟨i, _, rfl⟩ := hh
      exact ⟨rfl, rfl⟩)
    have hbl := (back_ok hkl).1
    rw [hml] at b2
    have hcall : callP (PCw ES) M2.blk n_vote_Backers [o] = some z := by rw [x2]; exact z1
    generalize backG (ws ++ (List.range k).map (mineH cycle ages)) = m at *
    have hlz := z2.r.lenS ti_sl_api_Heard
    obtain ⟨r', g1, M3, rfl⟩ := loop_up (E := ES) (me := n_l14_VoteFaults) (B := c_l14_VoteFaults_B1) (len := m.length) (T := fun j => h_l14_VoteFaults_1 (.int .i64 cycle) A z (.int .i64 j)) (I := fun _ _ => True)
      (Q := fun r => ∃ M', r = (.exit 2, ⟨(h_l14_VoteFaults_1 (.int .i64 cycle) A z (.int .i64 m.length)).set 80 (.bool false), M'⟩))
      (fun j M hj _ => by
        left
        exact ⟨M, Faults_B1 hA (by omega) cycle z2.r b1 (by omega) hj M, trivial⟩)
      (fun M _ => ⟨_, by simp [c_l14_VoteFaults_B1, evW_reg, evW_chkr, evW_chfr, isCst, TK.agg, zeroS, endS, resS, h_l14_VoteFaults_1, hlz], by simp, M, rfl⟩) 0 M2 (by omega) trivial
    have hE := fun get => vote_Enough_c get (m.length : Int) (f : Int)
    have hEn : decide (0 ≤ (f : Int) ∧ (f : Int) ≤ 3 ∧ 2 * (f : Int) + 1 ≤ (m.length : Int)) = true := by simp; omega
    rw [hEn] at hE
    simp [h_l14_VoteFaults_0] at f1
    simp [h_l14_VoteFaults_1] at g1
    have c3 : ¬ m.length < k := by omega
    simp (maxSteps := 4000000) [c_l14_VoteFaults, evW_reg, evW_chkr, evW_chfr, isCst, loadS, partS, TK.agg, fieldAddrS, zeroS, storeS, setPart, splice, endS, resS, fieldS, r4, r8, cv4, cv2, ef, er, hf, hlx, c1, hla, c2, c2', v1, v2, v3, p1, eM1, c_l14_VoteFaults_L0, f1, hcall, hlz, c3, hE, c_l14_VoteFaults_L1, g1]

end Go.Proofs.Ytaldchogcingbaa
