/-
  Walks of the seat's functions: Bg.
-/
import Derived.Test.YtbdliphlolajaaaGreatDoorEb2
import Derived.Test.YtbdliphlolajaaaGreatDoorShSv
import Derived.Test.YtbdliphlolajaaaGreatDoorLBf
set_option linter.unusedVariables false
set_option linter.unusedSimpArgs false
set_option maxRecDepth 100000
namespace Go.Proofs.YtbdliphlolajaaaGreatDoor
open Go.Proofs.YtbdliphlolajaaaGreatDoor.Sh
/-! bounds: whether the numbers fit. -/
def anyAt (c : Cfg) : Option Nat := (List.range c.parts.length).find? (slotsBad c)
theorem anySlots_at (c : Cfg) : anySlots c = (anyAt c).isSome := by
  unfold anySlots anyAt
  rw [Bool.eq_iff_iff, List.any_eq_true, List.find?_isSome]
theorem right_facts {c : Cfg} (h : rightC c = true) : 1 ≤ c.parts.length ∧ c.parts.length ≤ 6 ∧ c.links.length ≤ 10 := by
  have h1 := checkErr_none (checkG_zero (by simpa [rightC] using h))
  have h2 := partsErr_none h1.1
  exact ⟨h2.1, h2.2.1, (linksErr_none h1.2).1⟩
theorem nodesAt_in {c : Cfg} {p : Nat} (h : p < c.parts.length) : nodesAt c p = c.parts[p].nodes := by simp [nodesAt, h]
theorem Ends_len {P L : SV} {c : Cfg} (hP : CfgP c P L) (hr : rightC c = true) (part : Int) :
    ∃ y l', (∀ get, callP (PCw ES) get n_plan_Ends [.agg (cfgC c P L), .int .i64 part] = some y) ∧ Ports y l' ∧ l'.length = portsN c.links part := by
  have he : checkErr c = none := checkG_zero (by simpa [rightC] using hr)
  have hok := portsOk_of he part
  have hn := nodesAt_le he part
  have h12 := endsL_len hok hn.1 hn.2
  have hl := (linksErr_none (checkErr_none he).2).1
  obtain ⟨y, l', h1, h2, h3, h4, h5⟩ := Ends_c hP part hl h12 (fun p hp => by
    have := (hok.ends (Nat.le_refl _)).2 p hp
    unfold inMany at this
    omega)
  refine ⟨y, l', h1, h2, ?_⟩
  rw [h3.length_eq]
  have := endsL_count (part := part) hok.ab c.links.length (Nat.le_refl _)
  rw [List.take_length] at this
  exact this
/-- Numbers of slots that are not too great. -/
structure SlotsOk (c : Cfg) : Prop where
  w : 0 ≤ c.window ∧ c.window ≤ 20000
  s : 0 ≤ c.slot ∧ c.slot ≤ 1000000
  l : 0 ≤ c.lead ∧ c.lead ≤ 1000000
theorem slots_nums {c : Cfg} (h : SlotsOk c) (hr : rightC c = true) (i : Nat) : 0 ≤ 3 * (portsN c.links i : Int) + nodesAt c i ∧ 3 * (portsN c.links i : Int) + nodesAt c i ≤ 72 ∧
    0 ≤ (3 * (portsN c.links i : Int) + nodesAt c i) * c.slot ∧ (3 * (portsN c.links i : Int) + nodesAt c i) * c.slot ≤ 72000000 := by
  have h1 := portsN_le c.links i
  have h2 := right_facts hr
  have h3 := nodesAt_le (checkG_zero (by simpa [rightC] using hr)) i
  have h4 : 0 ≤ 3 * (portsN c.links i : Int) + nodesAt c i ∧ 3 * (portsN c.links i : Int) + nodesAt c i ≤ 72 := by omega
  obtain ⟨s1, s2⟩ := h.s
  refine ⟨h4.1, h4.2, Int.mul_nonneg h4.1 s1, ?_⟩
  have := Int.mul_le_mul h4.2 s2 s1 (by omega)
  omega
set_option maxHeartbeats 4000000 in
theorem bounds_slots_c (get) {P L : SV} {c : Cfg} (hP : CfgP c P L) (hr : rightC c = true) (hs : SlotsOk c) : callP (PCw ES) get n_bounds_slots [.agg (cfgC c P L)] = some (.bool (!anySlots c)) := by
  refine callP_of (PCw_ex (fun M0 => ?_) rfl) (by simp [hP.npA])
  rw [b_bounds_slots, anySlots_at]
  have hlenp := hP.p.lenS ti_sl_api_Part
  have hf := right_facts hr
  have body : ∀ (j : Nat) (M : Mem) (hj : j < c.parts.length), M.blk M0.next = some [.agg (cfgC c P L)] → M0.next < M.next →
      evW ES n_bounds_slots c_bounds_slots_B0 ⟨h_bounds_slots_0 (.ptr M0.next 0 0) P (.int .i64 c.parts.length) (.int .i64 j), M⟩ =
        some (if slotsBad c j then (.ret, ⟨(h_bounds_slots_0 .bad .bad .bad .bad).set 2 (.bool false), (M.bump 6).set (M.next + 3) (some [encPart c.parts[j]])⟩)
          else (.normal, ⟨h_bounds_slots_0 (.ptr M0.next 0 0) P (.int .i64 c.parts.length) (.int .i64 ((j + 1 : Nat) : Int)), (M.bump 6).set (M.next + 3) (some [encPart c.parts[j]])⟩)) := by
    intro j M hj hb hlt
    have hb0 := hb
    have ha := Parts.at hP.p hj
    obtain ⟨y, l', k1, k2, k3⟩ := Ends_len hP hr j
    have hleny := k2.lenS ti_sl_api_Port
    rw [k3] at hleny
    simp only [cfgC] at hb0 k1
    have hns : ∀ k, (M0.next = M.next + k) = False := fun k => by simp; omega
    have hw : IntKind.i64.wrap ((j : Int) + 1) = (j : Int) + 1 := i64_in (by omega) (by omega)
    obtain ⟨q1, q2, q3, q4⟩ := slots_nums hs hr j
    obtain ⟨v1, v2⟩ := hs.w
    obtain ⟨l1, l2⟩ := hs.l
    have hpn := portsN_le c.links j
    have hsb : slotsBad c j = decide (c.cycle < c.lead + (3 * (portsN c.links j : Int) + nodesAt c j) * c.slot + c.window) := rfl
    rw [nodesAt_in hj] at q1 q2 q3 q4 hsb
    have w1 : IntKind.i64.wrap (3 * (portsN c.links j : Int)) = 3 * (portsN c.links j : Int) := i64_in (by omega) (by omega)
    have w2 : IntKind.i64.wrap (3 * (portsN c.links j : Int) + c.parts[j].nodes) = 3 * (portsN c.links j : Int) + c.parts[j].nodes := i64_in (by omega) (by omega)
    have w3 : IntKind.i64.wrap ((3 * (portsN c.links j : Int) + c.parts[j].nodes) * c.slot) = (3 * (portsN c.links j : Int) + c.parts[j].nodes) * c.slot := i64_in (by omega) (by omega)
    generalize hX : (3 * (portsN c.links j : Int) + c.parts[j].nodes) * c.slot = X at *
    have w4 : IntKind.i64.wrap (c.lead + X) = c.lead + X := i64_in (by omega) (by omega)
    have w5 : IntKind.i64.wrap (c.lead + X + c.window) = c.lead + X + c.window := i64_in (by omega) (by omega)
    by_cases h : c.cycle < c.lead + X + c.window
    · rw [hsb]
      simp [c_bounds_slots_B0, evW_reg, evW_chkr, isCst, loadS, partS, TK.agg, fieldAddrS, zeroS, storeS, setPart, splice, endS, resS, fieldS, h_bounds_slots_0, hj, ha, hb0, hns, k1, hleny, w1, w2, w3, hX, w4, w5, h, Nat.add_assoc]
    · rw [hsb]
      simp [c_bounds_slots_B0, evW_reg, evW_chkr, isCst, loadS, partS, TK.agg, fieldAddrS, zeroS, storeS, setPart, splice, endS, resS, fieldS, h_bounds_slots_0, hj, ha, hb0, hns, k1, hleny, w1, w2, w3, hX, w4, w5, h, hw, Nat.add_assoc]
  obtain ⟨r, g1, M', g2⟩ := loop_find (E := ES) (me := n_bounds_slots) (B := c_bounds_slots_B0) (len := c.parts.length) (T := fun j => h_bounds_slots_0 (.ptr M0.next 0 0) P (.int .i64 c.parts.length) (.int .i64 j))
    (I := fun _ M => M.blk M0.next = some [.agg (cfgC c P L)] ∧ M0.next < M.next) (p := slotsBad c)
    (Q := fun o r => ∃ M', r = match o with
      | some _ => (.ret, ⟨(h_bounds_slots_0 .bad .bad .bad .bad).set 2 (.bool false), M'⟩)
      | none => (.exit 0, ⟨(h_bounds_slots_0 (.ptr M0.next 0 0) P (.int .i64 c.parts.length) (.int .i64 c.parts.length)).set 9 (.bool false), M'⟩))
    (fun j M hj ⟨i1, i2⟩ hp => by
      have := body j M hj i1 i2
      rw [hp] at this
      have hns : ¬ (M0.next = M.next + 3) := by omega
      exact ⟨_, this, by simp [hns, i1], by simp; omega⟩)
    (fun j M hj ⟨i1, i2⟩ hp => by
      have := body j M hj i1 i2
      rw [hp] at this
      exact ⟨_, this, by simp, _, rfl⟩)
    (fun M _ => ⟨_, by simp [c_bounds_slots_B0, evW_reg, evW_chkr, isCst, loadS, partS, TK.agg, fieldAddrS, zeroS, storeS, setPart, splice, endS, resS, fieldS, h_bounds_slots_0], by simp, M, rfl⟩) ((M0.bump 2).set M0.next (some [.agg (cfgC c P L)])) ⟨by simp, by simp⟩
  have ea : (List.range c.parts.length).find? (slotsBad c) = anyAt c := rfl
  rw [ea] at g2
  simp only [cfgC] at g1
  cases hf : anyAt c with
  | none =>
    rw [hf] at g2
    subst g2
    simp [h_bounds_slots_0] at g1
    simp [c_bounds_slots, evW_reg, evW_chkr, isCst, loadS, partS, TK.agg, fieldAddrS, zeroS, storeS, setPart, splice, endS, resS, fieldS, cfgC, hlenp, c_bounds_slots_L0, g1]
  | some j =>
    rw [hf] at g2
    subst g2
    simp [h_bounds_slots_0] at g1
    simp [c_bounds_slots, evW_reg, evW_chkr, isCst, loadS, partS, TK.agg, fieldAddrS, zeroS, storeS, setPart, splice, endS, resS, fieldS, cfgC, hlenp, c_bounds_slots_L0, g1]
theorem windows_eq (c : Cfg) : windowsN c = if inB c.window (3 * edgeN c) 20000 = false then 6 else if firstF 7 [inB c.slot (2 * c.window + 1) 1000000, inB c.lead c.window 1000000] ≠ 0 then firstF 7 [inB c.slot (2 * c.window + 1) 1000000, inB c.lead c.window 1000000]
    else firstF 9 [!anySlots c, decide (jumpN c * 1000000 ≤ c.rate * c.cycle)] := by
  unfold windowsN
  by_cases h1 : c.window < 3 * edgeN c ∨ 20000 < c.window
  · have e1 : inB c.window (3 * edgeN c) 20000 = false := by simp [inB]; omega
    rw [if_pos h1, e1]
    rfl
  have e1 : inB c.window (3 * edgeN c) 20000 = true := by simp [inB]; omega
  rw [if_neg h1, e1]
  simp only [Bool.true_eq_false, if_false]
  by_cases h2 : c.slot < 2 * c.window + 1 ∨ 1000000 < c.slot
  · have e : inB c.slot (2 * c.window + 1) 1000000 = false := by simp [inB]; omega
    rw [if_pos h2, e]
    simp [firstF]
  have e2 : inB c.slot (2 * c.window + 1) 1000000 = true := by simp [inB]; omega
  rw [if_neg h2, e2]
  by_cases h3 : c.lead < c.window ∨ 1000000 < c.lead
  · have e : inB c.lead c.window 1000000 = false := by simp [inB]; omega
    rw [if_pos h3, e]
    simp [firstF]
  have e3 : inB c.lead c.window 1000000 = true := by simp [inB]; omega
  rw [if_neg h3, e3]
  cases h4 : anySlots c with
  | true => simp [firstF]
  | false =>
    by_cases h5 : c.rate * c.cycle < jumpN c * 1000000
    · have : ¬ (jumpN c * 1000000 ≤ c.rate * c.cycle) := by omega
      simp [firstF, h5, this]
    · have : jumpN c * 1000000 ≤ c.rate * c.cycle := by omega
      simp [firstF, h5, this]
theorem rc_le {c : Cfg} (h : InRange c) : 0 ≤ c.rate * c.cycle ∧ c.rate * c.cycle ≤ 400000000000 := by
  obtain ⟨a1, a2⟩ := h.cy
  obtain ⟨b1, b2⟩ := h.ra
  refine ⟨Int.mul_nonneg b1 (by omega), ?_⟩
  have := Int.mul_le_mul b2 a2 (by omega) (by omega)
  omega
set_option maxHeartbeats 4000000 in
theorem bounds_windows_c (get) {P L : SV} {c : Cfg} (hP : CfgP c P L) (hr : rightC c = true) (hin : InRange c) : callP (PCw ES) get n_bounds_windows [.agg (cfgC c P L)] = some (.int .i64 (windowsN c)) := by
  refine callP_of (PCw_ex (fun M0 => ?_) rfl) (by simp [hP.npA])
  rw [b_bounds_windows, windows_eq]
  have h1 := fun get => bounds_Reckon_c get hP hin
  have hn := hin.nums
  have he := hn.e
  have hj := hn.j
  have hrc := rc_le hin
  have w1 : IntKind.i64.wrap (2 * edgeN c + edgeN c) = 3 * edgeN c := by rw [i64_in (by omega) (by omega)]; omega
  have f1 := fun (get : Nat → Option (List SV)) (id : Nat) (h : get id = some [.bool (inB c.window (3 * edgeN c) 20000)]) => bounds_first_own [inB c.window (3 * edgeN c) 20000] (get := get) (id := id) h (by simp) 6 (by decide)
  simp only [List.length_cons, List.length_nil] at f1
  have g0 : ∀ a : SV, (SV.agg (numsC c)).cells.length = 7 := fun _ => rfl
  simp only [cfgC] at h1
  cases hb1 : inB c.window (3 * edgeN c) 20000 with
  | false =>
    rw [hb1] at f1
    simp [firstF] at f1
    simp [c_bounds_windows, evW_reg, evW_chkr, isCst, loadS, partS, TK.agg, fieldAddrS, zeroS, storeS, setPart, splice, endS, resS, fieldS, cfgC, h1, numsC, w1, hb1, f1, bldSl, buildRow, Nat.add_assoc]
  | true =>
    rw [hb1] at f1
    simp [firstF] at f1
    have hwin : 3 * edgeN c ≤ c.window ∧ c.window ≤ 20000 := by simpa [inB] using hb1
    have w2 : IntKind.i64.wrap (2 * c.window) = 2 * c.window := i64_in (by omega) (by omega)
    have w3 : IntKind.i64.wrap (2 * c.window + 1) = 2 * c.window + 1 := i64_in (by omega) (by omega)
    have f2 := fun (get : Nat → Option (List SV)) (id : Nat) (h : get id = some [.bool (inB c.slot (2 * c.window + 1) 1000000), .bool (inB c.lead c.window 1000000)]) =>
      bounds_first_own [inB c.slot (2 * c.window + 1) 1000000, inB c.lead c.window 1000000] (get := get) (id := id) h (by simp) 7 (by decide)
    simp only [List.length_cons, List.length_nil] at f2
    by_cases hf2 : firstF 7 [inB c.slot (2 * c.window + 1) 1000000, inB c.lead c.window 1000000] = 0
    · have hs : SlotsOk c := by
        have h4 : inB c.slot (2 * c.window + 1) 1000000 = true ∧ inB c.lead c.window 1000000 = true := by
          revert hf2
          cases inB c.slot (2 * c.window + 1) 1000000 <;> cases inB c.lead c.window 1000000 <;> simp [firstF]
        obtain ⟨h4, h5⟩ := h4
        simp only [inB, decide_eq_true_eq] at h4 h5
        exact ⟨by omega, by omega, by omega⟩
      have h2 := fun get => bounds_slots_c get hP hr hs
      simp only [cfgC] at h2
      have w4 : IntKind.i64.wrap (c.rate * c.cycle) = c.rate * c.cycle := i64_in (by omega) (by omega)
      have w5 : IntKind.i64.wrap (jumpN c * 1000000) = jumpN c * 1000000 := by unfold jumpN; exact i64_in (by omega) (by omega)
      have f3 := fun (get : Nat → Option (List SV)) (id : Nat) (h : get id = some [.bool (!anySlots c), .bool (decide (jumpN c * 1000000 ≤ c.rate * c.cycle))]) =>
        bounds_first_own [!anySlots c, decide (jumpN c * 1000000 ≤ c.rate * c.cycle)] (get := get) (id := id) h (by simp) 9 (by decide)
      simp only [List.length_cons, List.length_nil] at f3
      rw [hf2] at f2
      simp [c_bounds_windows, evW_reg, evW_chkr, isCst, loadS, partS, TK.agg, fieldAddrS, zeroS, storeS, setPart, splice, endS, resS, fieldS, cfgC, h1, h2, numsC, w1, w2, w3, w4, w5, hb1, f1, f2, f3, hf2, bldSl, buildRow, Nat.add_assoc]
    · generalize firstF 7 [inB c.slot (2 * c.window + 1) 1000000, inB c.lead c.window 1000000] = v at *
      simp [c_bounds_windows, evW_reg, evW_chkr, isCst, loadS, partS, TK.agg, fieldAddrS, zeroS, storeS, setPart, splice, endS, resS, fieldS, cfgC, h1, numsC, w1, w2, w3, hb1, f1, f2, hf2, bldSl, buildRow, Nat.add_assoc]
theorem waits_eq (c : Cfg) : waitsN c = if firstF 11 [decide ((c.parts.length - 1) * (c.lost + 1) + 1 ≤ c.ages), inB c.listen (leastN c) 60000, inB c.span (leastN c) 60000] ≠ 0
    then firstF 11 [decide ((c.parts.length - 1) * (c.lost + 1) + 1 ≤ c.ages), inB c.listen (leastN c) 60000, inB c.span (leastN c) 60000]
    else firstF 14 [decide (c.listen + c.parts.length * c.span ≤ 60000), inB c.room (c.parts.length + 2) 64] := by
  unfold waitsN
  by_cases h1 : c.ages < (c.parts.length - 1) * (c.lost + 1) + 1
  · have e : decide ((c.parts.length - 1) * (c.lost + 1) + 1 ≤ c.ages) = false := by simp; omega
    rw [if_pos h1, e]
    simp [firstF]
  have e1 : decide ((c.parts.length - 1) * (c.lost + 1) + 1 ≤ c.ages) = true := by simp; omega
  rw [if_neg h1, e1]
  by_cases h2 : c.listen < leastN c ∨ 60000 < c.listen
  · have e : inB c.listen (leastN c) 60000 = false := by simp [inB]; omega
    rw [if_pos h2, e]
    simp [firstF]
  have e2 : inB c.listen (leastN c) 60000 = true := by simp [inB]; omega
  rw [if_neg h2, e2]
  by_cases h3 : c.span < leastN c ∨ 60000 < c.span
  · have e : inB c.span (leastN c) 60000 = false := by simp [inB]; omega
    rw [if_pos h3, e]
    simp [firstF]
  have e3 : inB c.span (leastN c) 60000 = true := by simp [inB]; omega
  rw [if_neg h3, e3]
  by_cases h4 : 60000 < c.listen + c.parts.length * c.span
  · have e : decide (c.listen + c.parts.length * c.span ≤ 60000) = false := by simp; omega
    rw [if_pos h4, e]
    simp [firstF]
  have e4 : decide (c.listen + c.parts.length * c.span ≤ 60000) = true := by simp; omega
  rw [if_neg h4, e4]
  by_cases h5 : c.room < c.parts.length + 2 ∨ 64 < c.room
  · have e : inB c.room (c.parts.length + 2) 64 = false := by simp [inB]; omega
    rw [if_pos h5, e]
    simp [firstF]
  have e5 : inB c.room (c.parts.length + 2) 64 = true := by simp [inB]; omega
  rw [if_neg h5, e5]
  simp [firstF]
set_option maxHeartbeats 4000000 in
theorem bounds_waits_c (get) {P L : SV} {c : Cfg} (hP : CfgP c P L) (hr : rightC c = true) (hin : InRange c) : callP (PCw ES) get n_bounds_waits [.agg (cfgC c P L)] = some (.int .i64 (waitsN c)) := by
  refine callP_of (PCw_ex (fun M0 => ?_) rfl) (by simp [hP.npA])
  rw [b_bounds_waits, waits_eq]
  have hlenp := hP.p.lenS ti_sl_api_Part
  have hf := right_facts hr
  have hlo := hin.lo
  obtain ⟨k, hk⟩ : ∃ k : Nat, c.lost = k := ⟨c.lost.toNat, by omega⟩
  have hm1 : (c.parts.length : Int) * (c.lost + 1) = ((c.parts.length * (k + 1) : Nat) : Int) := by rw [hk]; push_cast; rfl
  have hm2 : ((c.parts.length : Int) - 1) * (c.lost + 1) = (((c.parts.length - 1) * (k + 1) : Nat) : Int) := by rw [hk]; push_cast; rw [Int.natCast_sub hf.1]; rfl
  have b1 : c.parts.length * (k + 1) ≤ 6 * 21 := Nat.mul_le_mul hf.2.1 (by omega)
  have b2 : (c.parts.length - 1) * (k + 1) ≤ 5 * 21 := Nat.mul_le_mul (by omega) (by omega)
  have w1 : IntKind.i64.wrap (c.lost + 1) = c.lost + 1 := i64_in (by omega) (by omega)
  have w2 : IntKind.i64.wrap (c.parts.length * (c.lost + 1)) = c.parts.length * (c.lost + 1) := i64_in (by omega) (by omega)
  have w3 : IntKind.i64.wrap (c.parts.length * (c.lost + 1) + 2) = leastN c := i64_in (by omega) (by omega)
  have w4 : IntKind.i64.wrap ((c.parts.length : Int) - 1) = (c.parts.length : Int) - 1 := i64_in (by omega) (by omega)
  have w5 : IntKind.i64.wrap (((c.parts.length : Int) - 1) * (c.lost + 1)) = ((c.parts.length : Int) - 1) * (c.lost + 1) := i64_in (by omega) (by omega)
  have w6 : IntKind.i64.wrap (((c.parts.length : Int) - 1) * (c.lost + 1) + 1) = ((c.parts.length : Int) - 1) * (c.lost + 1) + 1 := i64_in (by omega) (by omega)
  have w7 : IntKind.i64.wrap ((c.parts.length : Int) + 2) = (c.parts.length : Int) + 2 := i64_in (by omega) (by omega)
  have hle : 0 ≤ leastN c := by unfold leastN; omega
  generalize hA : ((c.parts.length : Int) - 1) * (c.lost + 1) + 1 = A at *
  have f1 := fun (get : Nat → Option (List SV)) (id : Nat) (h : get id = some [.bool (decide (A ≤ c.ages)), .bool (inB c.listen (leastN c) 60000), .bool (inB c.span (leastN c) 60000)]) =>
    bounds_first_own [decide (A ≤ c.ages), inB c.listen (leastN c) 60000, inB c.span (leastN c) 60000] (get := get) (id := id) h (by simp) 11 (by decide)
  simp only [List.length_cons, List.length_nil] at f1
  by_cases hf1 : firstF 11 [decide (A ≤ c.ages), inB c.listen (leastN c) 60000, inB c.span (leastN c) 60000] = 0
  · have h4 : inB c.listen (leastN c) 60000 = true ∧ inB c.span (leastN c) 60000 = true := by
      revert hf1
      cases decide (A ≤ c.ages) <;> cases inB c.listen (leastN c) 60000 <;> cases inB c.span (leastN c) 60000 <;> simp [firstF]
    obtain ⟨h4, h5⟩ := h4
    simp only [inB, decide_eq_true_eq] at h4 h5
    have hm3 : 0 ≤ (c.parts.length : Int) * c.span ∧ (c.parts.length : Int) * c.span ≤ 6 * 60000 := by
      refine ⟨Int.mul_nonneg (by omega) (by omega), Int.mul_le_mul (by omega) (by omega) (by omega) (by omega)⟩
    have w8 : IntKind.i64.wrap ((c.parts.length : Int) * c.span) = (c.parts.length : Int) * c.span := i64_in (by omega) (by omega)
    have w9 : IntKind.i64.wrap (c.listen + (c.parts.length : Int) * c.span) = c.listen + (c.parts.length : Int) * c.span := i64_in (by omega) (by omega)
    have f3 := fun (get : Nat → Option (List SV)) (id : Nat) (h : get id = some [.bool (decide (c.listen + c.parts.length * c.span ≤ 60000)), .bool (inB c.room (c.parts.length + 2) 64)]) =>
      bounds_first_own [decide (c.listen + c.parts.length * c.span ≤ 60000), inB c.room (c.parts.length + 2) 64] (get := get) (id := id) h (by simp) 14 (by decide)
    simp only [List.length_cons, List.length_nil] at f3
    rw [hf1] at f1
    simp [c_bounds_waits, evW_reg, evW_chkr, isCst, loadS, partS, TK.agg, fieldAddrS, zeroS, storeS, setPart, splice, endS, resS, fieldS, cfgC, hlenp, w1, w2, w3, w4, w5, w6, w7, w8, w9, hA, f1, f3, hf1, bldSl, buildRow, Nat.add_assoc]
  · generalize firstF 11 [decide (A ≤ c.ages), inB c.listen (leastN c) 60000, inB c.span (leastN c) 60000] = v at *
    simp [c_bounds_waits, evW_reg, evW_chkr, isCst, loadS, partS, TK.agg, fieldAddrS, zeroS, storeS, setPart, splice, endS, resS, fieldS, cfgC, hlenp, w1, w2, w3, w4, w5, w6, w7, hA, f1, hf1, bldSl, buildRow, Nat.add_assoc]

end Go.Proofs.YtbdliphlolajaaaGreatDoor
