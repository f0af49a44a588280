/-
  Walks of the seat's functions: Tj.
-/
import Derived.Test.YtjhlibdiojepaaaGreatDoorEbMa
import Derived.Test.YtjhlibdiojepaaaGreatDoorShMb
import Derived.Test.YtjhlibdiojepaaaGreatDoorLTi
import Derived.Test.YtjhlibdiojepaaaGreatDoorLzMf
set_option linter.unusedVariables false
set_option linter.unusedSimpArgs false
set_option maxRecDepth 100000
namespace Go.Proofs.YtjhlibdiojepaaaGreatDoor
open Go.Proofs.YtjhlibdiojepaaaGreatDoor.Sh
/-! The laws TableWhich, TableOwns. -/
theorem whichG_at {l : List Slot} {lead step w d : Int} (ht : ∀ i (h : i < l.length), l[i].tick = lead + i * step) (h1 : 0 ≤ w) (h2 : 2 * w < step) (h3 : -step < d ∧ d < step) {i : Nat} (hi : i < l.length) :
    (whichG l w (l[i].tick + d) = (i : Int)) ↔ (d ≤ w ∧ -w ≤ d) := by
  unfold whichG
  constructor
  · intro e
    rcases idxOf_neg (p := fun s : Slot => decide (s.tick - w ≤ l[i].tick + d ∧ l[i].tick + d ≤ s.tick + w)) (l := l) with ⟨q, _⟩ | ⟨j, hj, q1, q2, _⟩
    · rw [q] at e; omega
    · rw [q1] at e
      obtain rfl : j = i := by omega
      simp only [decide_eq_true_eq] at q2
      omega
  · intro hd
    rcases idxOf_neg (p := fun s : Slot => decide (s.tick - w ≤ l[i].tick + d ∧ l[i].tick + d ≤ s.tick + w)) (l := l) with ⟨_, q⟩ | ⟨j, hj, q1, q2, q3⟩
    · have := q _ (List.getElem_mem hi)
      simp only [decide_eq_false_iff_not] at this
      exact absurd (by omega) this
    · rw [q1]
      rcases Nat.lt_trichotomy j i with hl | he | hg
      · simp only [decide_eq_true_eq] at q2
        rw [ht i hi, ht j hj] at q2
        have e : (i : Int) * step = j * step + (i - j : Nat) * step := by
          rw [← Int.add_mul]
          congr 1
          omega
        have h5 : step ≤ ((i - j : Nat) : Int) * step := by
          have := Int.mul_le_mul_of_nonneg_right (show (1 : Int) ≤ ((i - j : Nat) : Int) by omega) (show 0 ≤ step by omega)
          omega
        omega
      · rw [he]
      · have := q3 i hg
        simp only [decide_eq_false_iff_not] at this
        exact absurd (by omega) this
@[simp] theorem conv_i16 (get : Nat → Option (List SV)) (v : Int) : convS ES.P get T_int16 T_int (.int .i16 v) = some (.int .i64 (IntKind.i64.wrap v)) := by simp [convS]
set_option maxHeartbeats 8000000 in
theorem TableWhich_walk (xs0 xs1 xs2 xs3 : List SV) (h0 : WT ES.P 8 T_int xs0) (h1 : WT ES.P 8 T_uint8 xs1) (h2 : WT ES.P 8 T_uint8 xs2) (h3 : WT ES.P 8 T_int16 xs3) :
    ∃ M', ICw ES n_l9_TableWhich [mkV ES.P T_int xs0, mkV ES.P T_uint8 xs1, mkV ES.P T_uint8 xs2, mkV ES.P T_int16 xs3] .empty = some (.bool true, M') := by
  obtain ⟨n, _, e0, _⟩ := WT_int ti_int h0
  obtain ⟨part, _, e1, w1⟩ := WT_int ti_uint8 h1
  obtain ⟨slot, _, e2, w2⟩ := WT_int ti_uint8 h2
  obtain ⟨off, _, e3, w3⟩ := WT_int ti_int16 h3
  have b1 := wf8 w1
  have b2 := wf8 w2
  have b3 : -32768 ≤ off ∧ off ≤ 32767 := by
    simp [Lit.wf, IntKind.min, IntKind.max, IntKind.bits, IntKind.signed] at w3
    omega
  rw [e0, e1, e2, e3]
  obtain ⟨P, L, hm, hP⟩ := Made_c n
  have hpv := callPv (hm fun _ => none)
  have hr := right_facts (made_right n)
  obtain ⟨p, hp, hpe⟩ := rem_part b1.1 (show 0 < (madeC n).parts.length by omega)
  obtain ⟨f1, f2, f3, f4, f5, f6, f7, f8⟩ := made_tab n hp
  generalize madeC n = c at *
  obtain ⟨z, k1, q1, _⟩ := table_Slots_c hP hpv (p : Int)
  have k2 := fun get t => table_Which_c get hP hpv (p : Int) t
  simp only [slotsG, f1, if_true] at q1 k2
  have ht := fun i (h : i < (slotsL c p).length) => slotsL_tick h
  generalize slotsL c p = l at *
  obtain ⟨i, hi, hie⟩ := rem_part b2.1 (show 0 < l.length by omega)
  have hl := q1.lenS ti_sl_api_Slot
  have hlenp := hP.p.lenS ti_sl_api_Part
  have hz : (c.parts.length : Int) ≠ 0 := by omega
  have hz2 : (l.length : Int) ≠ 0 := by omega
  have hz3 : c.slot ≠ 0 := by omega
  have hl0 : ¬ l = [] := fun e => by rw [e] at hi; simp at hi
  have x1 : IntKind.i64.wrap part = part := i64_in (by omega) (by omega)
  have x2 : IntKind.i64.wrap slot = slot := i64_in (by omega) (by omega)
  have x3 : IntKind.i64.wrap off = off := i64_in (by omega) (by omega)
  have hd1 := Int.tmod_lt_of_pos off (show 0 < c.slot by omega)
  have hd2 := Int.lt_tmod_of_pos off (show 0 < c.slot by omega)
  have hat := whichG_at (w := c.window) (d := off.tmod c.slot) ht (by omega) (by omega) ⟨hd2, hd1⟩ hi
  have htk := ht i hi
  rw [f2, f3] at htk
  have x4 : IntKind.i64.wrap (l[i].tick + off.tmod c.slot) = l[i].tick + off.tmod c.slot := i64_in (by omega) (by omega)
  have x5 : IntKind.i64.wrap (-c.window) = -c.window := i64_in (by omega) (by omega)
  have ha := Slots.at q1 hi
  have t0 : ∀ get, loadS ES.P get T_int (.rptr (l.map encSlot) i 2 (stOf z)) = some (.int .i64 l[i].tick) := fun get => loadS_rptr ti_int (x := encSlot l[i]) (by simp [hi]) rfl
  have k3 := fun get => k2 get (l[i].tick + off.tmod c.slot)
  generalize whichG l c.window (l[i].tick + off.tmod c.slot) = v at hat k3
  rw [b_l9_TableWhich]
  simp only [cfgC] at hm k1 k3
  generalize hoff : off.tmod c.slot = d at *
  by_cases c1 : d ≤ c.window
  · by_cases c2 : -c.window ≤ d
    · have hv := hat.2 ⟨c1, c2⟩
      rw [hv] at k3
      simp (maxSteps := 4000000) [c_l9_TableWhich, evW_reg, evW_chkr, isCst, partS, TK.agg, fieldAddrS, loadS, zeroS, storeS, setPart, splice, endS, resS, fieldS, cfgC, hm, hlenp, hl, hl0, binS_rem hz, binS_rem hz2, binS_rem hz3, x1, x2, x3, hoff, x4, x5, hpe, hie, k1, k3, ha, c1, c2, Nat.add_assoc, hi, encSlot]
    · have hv : ¬ v = i := fun e => c2 (hat.1 e).2
      simp (maxSteps := 4000000) [c_l9_TableWhich, evW_reg, evW_chkr, isCst, partS, TK.agg, fieldAddrS, loadS, zeroS, storeS, setPart, splice, endS, resS, fieldS, cfgC, hm, hlenp, hl, hl0, binS_rem hz, binS_rem hz2, binS_rem hz3, x1, x2, x3, hoff, x4, x5, hpe, hie, k1, k3, ha, c1, c2, Nat.add_assoc, hi, encSlot, hv]
  · have hv : ¬ v = i := fun e => c1 (hat.1 e).1
    simp (maxSteps := 4000000) [c_l9_TableWhich, evW_reg, evW_chkr, isCst, partS, TK.agg, fieldAddrS, loadS, zeroS, storeS, setPart, splice, endS, resS, fieldS, cfgC, hm, hlenp, hl, hl0, binS_rem hz, binS_rem hz2, binS_rem hz3, x1, x2, x3, hoff, x4, x5, hpe, hie, k1, k3, ha, c1, Nat.add_assoc, hi, encSlot, hv]
def isKN (k x : Int) (q : Int × Int) : Bool := decide (q.1 = k ∧ q.2 = x)
theorem cnt_gates (k x : Int) (ps : List Port) : (gates ps).countP (isKN k x) = if k = 3 ∨ k = 4 then ps.countP (fun p => decide (p.node = x)) else 0 := by
  induction ps with
  | nil => simp [gates]
  | cons p r ih =>
    rw [show gates (p :: r) = [(3, p.node), (4, p.node)] ++ gates r from rfl, List.countP_append, ih, List.countP_cons]
    by_cases h3 : k = 3
    · subst h3
      by_cases hp : p.node = x <;> simp [isKN, hp]
      omega
    · by_cases h4 : k = 4
      · subst h4
        by_cases hp : p.node = x <;> simp [isKN, hp]
        omega
      · have a3 : ¬ (3 : Int) = k := fun e => h3 e.symm
        have a4 : ¬ (4 : Int) = k := fun e => h4 e.symm
        simp [isKN, h3, h4, a3, a4]
theorem cnt_syncs (k : Int) (x : Nat) : ∀ n, (syncs n).countP (isKN k x) = if k = 2 ∧ x < n then 1 else 0
  | 0 => by simp [syncs]
  | n + 1 => by
    rw [syncs_succ, List.countP_append, cnt_syncs k x n]
    by_cases h2 : k = 2
    · subst h2
      rcases Nat.lt_trichotomy x n with h | h | h
      · have e : ¬ (n : Int) = x := by omega
        have e2 : x < n + 1 := by omega
        simp [isKN, h, e, e2]
      · subst h
        simp [isKN]
      · have e : ¬ (n : Int) = x := by omega
        have e1 : ¬ x < n := by omega
        have e2 : ¬ x < n + 1 := by omega
        simp [isKN, e, e1, e2]
    · have a2 : ¬ (2 : Int) = k := fun e => h2 e.symm
      simp [isKN, h2, a2]
theorem cnt_datas (k x : Int) (ps : List Port) : (datas ps).countP (isKN k x) = if k = 5 then ps.countP (fun p => decide (p.node = x)) else 0 := by
  induction ps with
  | nil => simp [datas]
  | cons p r ih =>
    rw [show datas (p :: r) = [(5, p.node)] ++ datas r from rfl, List.countP_append, ih, List.countP_cons]
    by_cases h3 : k = 5
    · subst h3
      by_cases hp : p.node = x <;> simp [isKN, hp]
      omega
    · have a3 : ¬ (5 : Int) = k := fun e => h3 e.symm
      simp [isKN, h3, a3]
theorem cnt_ports (ls : List Link) (part : Int) (x : Nat) : ∀ K : Nat, ((List.range K).filterMap fun i : Nat => findPort ls part (i : Int)).countP (fun p : Port => decide (p.node = (x : Int))) = if x < K ∧ (findPort ls part x).isSome = true then 1 else 0
  | 0 => by simp
  | K + 1 => by
    rw [List.range_succ, List.filterMap_append, List.countP_append, cnt_ports ls part x K]
    rcases Nat.lt_trichotomy x K with h | h | h
    · have e2 : x < K + 1 := by omega
      have e3 : ((List.filterMap (fun i : Nat => findPort ls part (i : Int)) [K]).countP fun p : Port => decide (p.node = (x : Int))) = 0 := by
        cases hf : findPort ls part (K : Int) with
        | none => simp [hf]
        | some q =>
          have := (findPort_mem hf).2
          have e : ¬ q.node = x := by omega
          simp [hf, e]
      rw [e3]
      simp [h, e2]
    · subst h
      cases hf : findPort ls part (x : Int) with
      | none => simp [hf]
      | some q =>
        have := (findPort_mem hf).2
        simp [hf, this]
    · have e1 : ¬ x < K := by omega
      have e2 : ¬ x < K + 1 := by omega
      have e3 : ((List.filterMap (fun i : Nat => findPort ls part (i : Int)) [K]).countP fun p : Port => decide (p.node = (x : Int))) = 0 := by
        cases hf : findPort ls part (K : Int) with
        | none => simp [hf]
        | some q =>
          have := (findPort_mem hf).2
          have e : ¬ q.node = x := by omega
          simp [hf, e]
      rw [e3]
      simp [e1, e2]
/-- What is to be there of a kind, at a node. -/
def wantKN (c : Cfg) (part : Int) (k : Int) (x : Nat) : Bool := decide (k = 2 ∧ (x : Int) < nodesAt c part) || ((portG c part x).isSome && decide (k = 3 ∨ k = 4 ∨ k = 5))
theorem kindsC_count {c : Cfg} {part : Int} (hr : rightC c = true) (hin : inMany part c.parts.length) (k : Int) (x : Nat) : (kindsC c part).countP (isKN k x) = if wantKN c part k x then 1 else 0 := by
  have hok := portsOk_of (checkG_zero (by simpa [rightC] using hr)) part
  have hn := nodesAt_le (checkG_zero (by simpa [rightC] using hr)) part
  have hp : portG c part x = findPort c.links part x := by simp [portG, hr, hin]
  unfold kindsC kindsL
  rw [List.countP_append, List.countP_append, cnt_gates, cnt_syncs, cnt_datas]
  unfold portsL
  rw [cnt_ports]
  have hx : (findPort c.links part x).isSome = true → x < (nodesAt c part).toNat := by
    intro h
    obtain ⟨q, hq⟩ := Option.isSome_iff_exists.1 h
    obtain ⟨h1, h2⟩ := findPort_mem hq
    have := (hok.ends (Nat.le_refl _)).2 q h1
    unfold inMany at this
    omega
  unfold wantKN
  rw [hp]
  have hxn : (x < (nodesAt c part).toNat) ↔ ((x : Int) < nodesAt c part) := by omega
  cases hf : (findPort c.links part x).isSome with
  | true =>
    have := hx hf
    have h2 : (x : Int) < nodesAt c part := hxn.1 this
    by_cases k2 : k = 2
    · subst k2; simp [this, h2]
    · by_cases k3 : k = 3
      · subst k3; simp [this]
      · by_cases k4 : k = 4
        · subst k4; simp [this]
        · by_cases k5 : k = 5
          · subst k5; simp [this]
          · simp [k2, k3, k4, k5]
  | false =>
    by_cases k2 : k = 2
    · subst k2; simp [hxn]
    · simp [k2]
theorem countP_take {α : Type} {p : α → Bool} {l : List α} {j : Nat} (h : j < l.length) : (l.take (j + 1)).countP p = (l.take j).countP p + if p l[j] then 1 else 0 := by
  rw [List.take_succ_eq_append_getElem h, List.countP_append]
  simp [List.countP_cons]
theorem countP_take_le {α : Type} (p : α → Bool) (l : List α) (j : Nat) : (l.take j).countP p ≤ l.countP p := by
  conv => rhs; rw [← List.take_append_drop j l, List.countP_append]
  omega
/-- Where it is but once it is the first. -/
theorem idxOf_once {α : Type} {p : α → Bool} {l : List α} (h1 : l.countP p ≤ 1) {i : Nat} (hi : i < l.length) (hp : p l[i] = true) : idxOf p l = i := by
  rcases idxOf_neg (p := p) (l := l) with ⟨_, q⟩ | ⟨j, hj, q1, q2, q3⟩
  · have := q _ (List.getElem_mem hi)
    rw [hp] at this
    cases this
  · rw [q1]
    rcases Nat.lt_trichotomy j i with hl | he | hg
    · have a1 := countP_take (p := p) hj
      have a2 := countP_take (p := p) hi
      have a3 := countP_take_le p l (i + 1)
      have a4 : (l.take (j + 1)).countP p ≤ (l.take i).countP p := by
        have := countP_take_le p (l.take i) (j + 1)
        rwa [List.take_take, Nat.min_eq_left (by omega)] at this
      rw [q2] at a1
      rw [hp] at a2
      simp at a1 a2
      omega
    · rw [he]
    · rw [q3 i hg] at hp
      cases hp

end Go.Proofs.YtjhlibdiojepaaaGreatDoor
