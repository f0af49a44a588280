/-
  Walks of the seat's functions: Ti.
-/
import Derived.Test.YtjhlibdiojepaaaGreatDoorEbMa
import Derived.Test.YtjhlibdiojepaaaGreatDoorShMb
import Derived.Test.YtjhlibdiojepaaaGreatDoorLTh
set_option linter.unusedVariables false
set_option linter.unusedSimpArgs false
set_option maxRecDepth 100000
namespace Go.Proofs.YtjhlibdiojepaaaGreatDoor
open Go.Proofs.YtjhlibdiojepaaaGreatDoor.Sh
/-! The laws TableApart, TableWhich, TableOwns. -/
def okN5 (c : Cfg) : Bool := c.parts.all fun p => decide (5 ≤ p.nodes)
theorem okN5_all : (List.range 4).all (fun p => (List.range 4).all fun s => okN5 (netPL (p + 1) s)) = true := by decide +kernel
theorem made_nodes5 (n : Int) {p : Nat} (hp : p < (madeC n).parts.length) : 5 ≤ nodesAt (madeC n) p := by
  have h1 := List.all_eq_true.1 okN5_all (partsN (mOf n) - 1) (by have := partsN_le (mOf n); simp; omega)
  have h2 := List.all_eq_true.1 h1 (shapeN (mOf n)) (by simp [shapeN]; omega)
  have e : partsN (mOf n) - 1 + 1 = partsN (mOf n) := by have := partsN_le (mOf n); omega
  rw [e] at h2
  obtain ⟨q1, q2⟩ := netC_pl (mOf n)
  have hpp : (madeC n).parts = (netPL (partsN (mOf n)) (shapeN (mOf n))).parts := q1
  unfold okN5 at h2
  rw [← hpp] at h2
  have h3 := List.all_eq_true.1 h2 _ (List.getElem_mem hp)
  rw [nodesAt_in hp]
  simpa using h3
/-- A made network's part: what its schedule is made with. -/
theorem made_tab (n : Int) {p : Nat} (hp : p < (madeC n).parts.length) : inFit (madeC n) p = true ∧ (madeC n).slot = 100 ∧ (madeC n).lead = 60 ∧ (3 ≤ (madeC n).window ∧ (madeC n).window ≤ 27) ∧ 20000 ≤ (madeC n).cycle ∧ (madeC n).cycle ≤ 27000 ∧ 5 ≤ (slotsL (madeC n) p).length ∧ (slotsL (madeC n) p).length ≤ 48 := by
  have hin : inMany (p : Int) (madeC n).parts.length := by unfold inMany; omega
  have hf : inFit (madeC n) p = true := by simp [inFit, made_fit, hin]
  have hr := made_right n
  have hk := kindsC_le hr (p : Int)
  have h5 := made_nodes5 n hp
  have hl := kindsC_len (madeC n) p
  obtain ⟨m, m1, _, m3, _, m5, m6, _⟩ := made_num' n
  have hw := made_window n
  have he := made_edge n
  refine ⟨hf, m6, m5, by omega, by omega, by omega, ?_, ?_⟩
  · simp only [slotsL, stamp_len]
    omega
  · simp only [slotsL, stamp_len]
    omega
theorem slotsL_tick {c : Cfg} {part : Int} {i : Nat} (h : i < (slotsL c part).length) : (slotsL c part)[i].tick = c.lead + i * c.slot := by
  have hi : i < (kindsC c part).length := by simpa [slotsL] using h
  have := stamp_at (lead := c.lead) (step := c.slot) hi
  have e : (slotsL c part)[i] = ⟨(kindsC c part)[i].1, (kindsC c part)[i].2, c.lead + i * c.slot⟩ := by simpa [slotsL, hi] using this
  rw [e]
theorem slotsL_kn {c : Cfg} {part : Int} {i : Nat} (h : i < (slotsL c part).length) (hi : i < (kindsC c part).length) : (slotsL c part)[i].kind = (kindsC c part)[i].1 ∧ (slotsL c part)[i].node = (kindsC c part)[i].2 := by
  have := stamp_at (lead := c.lead) (step := c.slot) hi
  have e : (slotsL c part)[i] = ⟨(kindsC c part)[i].1, (kindsC c part)[i].2, c.lead + i * c.slot⟩ := by simpa [slotsL, hi] using this
  rw [e]
  exact ⟨rfl, rfl⟩
theorem rem_part {v : Int} (h : 0 ≤ v) {k : Nat} (hk : 0 < k) : ∃ p : Nat, p < k ∧ v.tmod k = p := by
  refine ⟨(v.tmod k).toNat, ?_, ?_⟩
  · have := Int.tmod_lt_of_pos v (show 0 < (k : Int) by omega)
    have := Int.tmod_nonneg (k : Int) h
    omega
  · have := Int.tmod_nonneg (k : Int) h
    omega
set_option maxHeartbeats 8000000 in
theorem TableApart_walk (xs0 xs1 : List SV) (h0 : WT ES.P 8 T_int xs0) (h1 : WT ES.P 8 T_uint8 xs1) : ∃ M', ICw ES n_l9_TableApart [mkV ES.P T_int xs0, mkV ES.P T_uint8 xs1] .empty = some (.bool true, M') := by
  obtain ⟨n, _, e0, _⟩ := WT_int ti_int h0
  obtain ⟨part, _, e1, w1⟩ := WT_int ti_uint8 h1
  have b1 := wf8 w1
  rw [e0, e1]
  obtain ⟨P, L, hm, hP⟩ := Made_c n
  have hpv := callPv (hm fun _ => none)
  have hr := right_facts (made_right n)
  obtain ⟨p, hp, hpe⟩ := rem_part b1.1 (show 0 < (madeC n).parts.length by omega)
  obtain ⟨f1, f2, f3, f4, f5, f6, f7, f8⟩ := made_tab n hp
  generalize madeC n = c at *
  obtain ⟨z, k1, q1, _⟩ := table_Slots_c hP hpv (p : Int)
  simp only [slotsG, f1, if_true] at q1
  have ht := fun i (h : i < (slotsL c p).length) => slotsL_tick h
  generalize slotsL c p = l at *
  have hl := q1.lenS ti_sl_api_Slot
  have hlenp := hP.p.lenS ti_sl_api_Part
  have hz : (c.parts.length : Int) ≠ 0 := by omega
  have x1 : IntKind.i64.wrap part = part := i64_in (by omega) (by omega)
  rw [b_l9_TableApart]
  obtain ⟨r, g1, M', rfl⟩ := loop_up (E := ES) (me := n_l9_TableApart) (B := c_l9_TableApart_B0) (len := l.length) (T := fun j => h_l9_TableApart_0 (.ptr 2 0 0) z (.int .i64 j)) (I := fun _ M => M.blk 2 = some [.agg (cfgC c P L)])
    (Q := fun r => ∃ M', r = (.exit 0, ⟨(h_l9_TableApart_0 (.ptr 2 0 0) z (.int .i64 l.length)).set 23 (.bool false), M'⟩))
    (fun j M hj hI => by
      left
      have hw : IntKind.i64.wrap ((j : Int) + 1) = (j : Int) + 1 := i64_in (by omega) (by omega)
      have ha := Slots.at q1 hj
      have hcb := hI
      simp only [cfgC] at hcb
      have v0 : loadS ES.P M.blk T_int (.ptr 2 0 2) = some (.int .i64 c.cycle) := by simp [loadS, hcb, partS, TK.agg]
      have v5 : loadS ES.P M.blk T_int (.ptr 2 0 5) = some (.int .i64 c.window) := by simp [loadS, hcb, partS, TK.agg]
      have tj := ht j hj
      have t0 : ∀ get, loadS ES.P get T_int (.rptr (l.map encSlot) j 2 (stOf z)) = some (.int .i64 l[j].tick) := fun get => loadS_rptr ti_int (x := encSlot l[j]) (by simp [hj]) rfl
      rw [f2, f3] at tj
      have y1 : IntKind.i64.wrap (l[j].tick + c.window) = l[j].tick + c.window := i64_in (by omega) (by omega)
      have y2 : ¬ l[j].tick < c.window := by omega
      have y3 : ¬ c.cycle < l[j].tick + c.window := by omega
      by_cases hj0 : j = 0
      · subst hj0
        have hw0 : IntKind.i64.wrap 1 = 1 := by decide
        have hl0 : ¬ l = [] := fun e => by rw [e] at hj; simp at hj
        have ha0 : indexAddrS ES.P T_sl_api_Slot z (.int .i64 0) = some (.rptr (l.map encSlot) 0 2 (stOf z)) → True := fun _ => trivial
        have ha' := ha
        simp only [Int.natCast_zero, Int.ofNat_eq_natCast] at ha'
        exact ⟨M, by simp (maxSteps := 4000000) [c_l9_TableApart_B0, evW_reg, evW_chkr, isCst, TK.agg, zeroS, endS, resS, fieldAddrS, h_l9_TableApart_0, hl, hj, ha', t0, v0, v5, y1, y2, y3, hw0], hI⟩
      · have hj1 : j - 1 < l.length := by omega
        have ha2 := Slots.at q1 hj1
        have t1 : ∀ get, loadS ES.P get T_int (.rptr (l.map encSlot) (j - 1) 2 (stOf z)) = some (.int .i64 l[j - 1].tick) := fun get => loadS_rptr ti_int (x := encSlot l[j - 1]) (by simp [hj1]) rfl
        have tj1 := ht (j - 1) hj1
        rw [f2, f3] at tj1
        have hw1 : IntKind.i64.wrap ((j : Int) - 1) = ((j - 1 : Nat) : Int) := by rw [i64_in (by omega) (by omega)]; omega
        have z1 : IntKind.i64.wrap (l[j].tick - l[j - 1].tick) = l[j].tick - l[j - 1].tick := i64_in (by omega) (by omega)
        have z2 : IntKind.i64.wrap (2 * c.window) = 2 * c.window := i64_in (by omega) (by omega)
        have z3 : ¬ l[j].tick - l[j - 1].tick ≤ 2 * c.window := by omega
        have hj2 : 0 < j := by omega
        exact ⟨M, by simp (maxSteps := 4000000) [c_l9_TableApart_B0, evW_reg, evW_chkr, isCst, TK.agg, zeroS, endS, resS, fieldAddrS, h_l9_TableApart_0, hl, hj, hj2, ha, ha2, t0, t1, v0, v5, hw1, z1, z2, z3, y1, y2, y3, hw], hI⟩)
    (fun M _ => ⟨_, by simp [c_l9_TableApart_B0, evW_reg, evW_chkr, isCst, TK.agg, zeroS, endS, resS, h_l9_TableApart_0, hl], by simp, M, rfl⟩) 0 ((Mem.empty.bump 4).set 2 (some [.agg (cfgC c P L)])) (by omega) (by simp)
  simp only [cfgC] at hm k1
  simp [h_l9_TableApart_0, cfgC] at g1
  have h5 : (5 : Int) ≤ l.length := by omega
  simp (maxSteps := 4000000) [c_l9_TableApart, evW_reg, evW_chkr, isCst, loadS, partS, TK.agg, fieldAddrS, zeroS, storeS, setPart, splice, endS, resS, fieldS, cfgC, hm, hlenp, binS_rem hz, x1, hpe, k1, c_l9_TableApart_L0, g1, hl, h5]

end Go.Proofs.YtjhlibdiojepaaaGreatDoor
