/-
  Walks of the seat's functions: Sd.
-/
import Derived.Test.YtjhlibdiojepaaaGreatDoorEbMa
import Derived.Test.YtjhlibdiojepaaaGreatDoorShMb
import Derived.Test.YtjhlibdiojepaaaGreatDoorLzMj
import Derived.Test.YtjhlibdiojepaaaGreatDoorLAg
set_option linter.unusedVariables false
set_option linter.unusedSimpArgs false
set_option maxRecDepth 100000
namespace Go.Proofs.YtjhlibdiojepaaaGreatDoor
open Go.Proofs.YtjhlibdiojepaaaGreatDoor.Sh
/-! The law SteerParents; the document's ages. -/
def smallO (os : List Offer) : Bool := decide (os.length ≤ 30) && os.all fun o => decide (o.ages.length ≤ 30)
set_option maxHeartbeats 4000000 in
theorem l16_small_c (get) {x : SV} {os : List Offer} (hx : Offers x os) : callP (PCw ES) get n_l16_small [x] = some (.bool (smallO os)) := by
  refine callP_of (PCw_ex (fun M0 => ?_) rfl) (by simp [hx.npE elmOff])
  rw [b_l16_small]
  have hl := hx.lenS ti_sl_api_Offer
  unfold smallO
  by_cases h30 : os.length ≤ 30
  · have h30' : ¬ 30 < (os.length : Int) := by omega
    obtain ⟨r, g1, M', g0⟩ := loop_find (E := ES) (me := n_l16_small) (B := c_l16_small_B0) (len := os.length) (T := fun j => h_l16_small_0 x (.int .i64 j)) (I := fun _ _ => True) (p := fun j => (os[j]?.map fun o : Offer => !decide (o.ages.length ≤ 30)).getD false)
      (Q := fun o r => ∃ M', r = match o with
        | some _ => (.ret, ⟨(h_l16_small_0 .bad .bad).set 2 (.bool false), M'⟩)
        | none => (.exit 0, ⟨(h_l16_small_0 x (.int .i64 os.length)).set 10 (.bool false), M'⟩))
      (fun j M hj _ hpj => by
        have hw : IntKind.i64.wrap ((j : Int) + 1) = (j : Int) + 1 := i64_in (by omega) (by omega)
        obtain ⟨A, hA, _, q1, q2⟩ := Offers.at hx hj
        have hlA := hA.lenS ti_sl_int
        simp [hj] at hpj
        have h2 : ¬ 30 < (os[j].ages.length : Int) := by omega
        exact ⟨M, by simp [c_l16_small_B0, evW_reg, evW_chkr, isCst, TK.agg, zeroS, endS, resS, fieldAddrS, h_l16_small_0, hl, hj, q1, q2, hlA, h2, hw], trivial⟩)
      (fun j M hj _ hpj => by
        obtain ⟨A, hA, _, q1, q2⟩ := Offers.at hx hj
        have hlA := hA.lenS ti_sl_int
        simp [hj] at hpj
        have h2 : 30 < (os[j].ages.length : Int) := by omega
        exact ⟨_, by simp [c_l16_small_B0, evW_reg, evW_chkr, isCst, TK.agg, zeroS, endS, resS, fieldAddrS, h_l16_small_0, hl, hj, q1, q2, hlA, h2], by simp, M, rfl⟩)
      (fun M _ => ⟨_, by simp [c_l16_small_B0, evW_reg, evW_chkr, isCst, TK.agg, zeroS, endS, resS, h_l16_small_0, hl], by simp, M, rfl⟩) M0 trivial
    cases hf : (List.range os.length).find? (fun j => (os[j]?.map fun o : Offer => !decide (o.ages.length ≤ 30)).getD false) with
    | none =>
      rw [hf] at g0
      subst g0
      simp [h_l16_small_0] at g1
      have hall : (os.all fun o => decide (o.ages.length ≤ 30)) = true := by
        rw [List.all_eq_true]
        intro o ho
        obtain ⟨j, hj, rfl⟩ := List.mem_iff_getElem.1 ho
        rw [List.find?_range_eq_none] at hf
        have := hf j hj
        simpa [hj] using this
      simp [c_l16_small, evW_reg, evW_chkr, isCst, TK.agg, zeroS, endS, resS, hl, h30, h30', c_l16_small_L0, g1, hall]
    | some j =>
      rw [hf] at g0
      subst g0
      simp [h_l16_small_0] at g1
      have hall : (os.all fun o => decide (o.ages.length ≤ 30)) = false := by
        rw [List.find?_range_eq_some] at hf
        obtain ⟨h1, h2, _⟩ := hf
        have hj : j < os.length := by simpa using h2
        simp [hj] at h1
        rw [List.all_eq_false]
        exact ⟨os[j], List.getElem_mem hj, by simp; omega⟩
      simp [c_l16_small, evW_reg, evW_chkr, isCst, TK.agg, zeroS, endS, resS, hl, h30, h30', c_l16_small_L0, g1, hall]
  · have h30' : 30 < (os.length : Int) := by omega
    simp [c_l16_small, evW_reg, evW_chkr, isCst, TK.agg, zeroS, endS, resS, hl, h30, h30']
theorem smallO_len {os : List Offer} (h : smallO os = true) : os.length ≤ 30 ∧ ∀ o ∈ os, o.ages.length ≤ 30 := by
  simp only [smallO, Bool.and_eq_true, decide_eq_true_eq, List.all_eq_true] at h
  exact h
theorem ints_of {n : Nat} {xs : List SV} (h : WT ES.P (n + 2) T_sl_int xs) : ∃ l : List Int, Ints (mkV ES.P T_sl_int xs) l ∧ l.length ≤ 17592186044416 ∧ xs = [mkV ES.P T_sl_int xs] := by
  obtain ⟨l, h1, h2, _, h3⟩ := rows_of (α := Int) (enc := fun v => .int .i64 v) (I := fun _ => True) ti_sl_int ti_int (by decide) (fun ys h => by
    obtain ⟨v, _, e, _⟩ := WT_int ti_int h
    exact ⟨v, e, trivial⟩) h
  exact ⟨l, h1, h2, h3⟩
theorem offer_of {n : Nat} {xs : List SV} (h : WT ES.P (n + 3) T_api_Offer xs) : ∃ o, OffR (mkV ES.P T_api_Offer xs) o := by
  obtain ⟨e, parts, rfl, hl, hp⟩ := WT_struct ti_api_Offer h
  match parts, hl with
  | [p0, p1, p2, p3, p4, p5, p6, p7], _ =>
    obtain ⟨a0, rfl, _, _⟩ := WT_int ti_int (hp 0 _ p0 rfl rfl)
    obtain ⟨a1, rfl, _, _⟩ := WT_int ti_int (hp 1 _ p1 rfl rfl)
    obtain ⟨a2, rfl, _, _⟩ := WT_int ti_int (hp 2 _ p2 rfl rfl)
    obtain ⟨a3, rfl, _⟩ := WT_bool ti_bool (hp 3 _ p3 rfl rfl)
    obtain ⟨a4, rfl, _, _⟩ := WT_int ti_int64 (hp 4 _ p4 rfl rfl)
    obtain ⟨a5, rfl, _, _⟩ := WT_int ti_int64 (hp 5 _ p5 rfl rfl)
    obtain ⟨a6, rfl, _, _⟩ := WT_int ti_int64 (hp 6 _ p6 rfl rfl)
    obtain ⟨l, h7, hb, e7⟩ := ints_of (hp 7 _ p7 rfl rfl)
    rw [e]
    refine ⟨⟨a0, a1, a2, a3, a4, a5, a6, l⟩, mkV ES.P T_sl_int p7, ?_, h7, hb⟩
    conv => lhs; rw [e7]
    rfl
theorem offers_of {n : Nat} {xs : List SV} (h : WT ES.P (n + 4) T_sl_api_Offer xs) : ∃ os, Offers (mkV ES.P T_sl_api_Offer xs) os := by
  rcases WT_slice ti_sl_api_Offer ti_api_Offer h with ⟨e1, h⟩ | ⟨items, e1, h, hl, hi⟩
  · rw [h]; exact ⟨[], RSl.nil _⟩
  · rw [h]
    exact RSl.exists (R := OffR) (tl := .ro) (items := items) fun y hy => by
      obtain ⟨ys, rfl, hw⟩ := hi y hy
      exact offer_of hw
set_option maxHeartbeats 4000000 in
theorem SteerParents_walk (xs0 xs1 xs2 xs3 : List SV) (h0 : WT ES.P 8 T_sl_int xs0) (h1 : WT ES.P 8 T_sl_int xs1) (h2 : WT ES.P 8 T_sl_api_Offer xs2) (h3 : WT ES.P 8 T_int xs3) :
    ∃ M', ICw ES n_l16_SteerParents [mkV ES.P T_sl_int xs0, mkV ES.P T_sl_int xs1, mkV ES.P T_sl_api_Offer xs2, mkV ES.P T_int xs3] .empty = some (.bool true, M') := by
  obtain ⟨was, hx, _, _⟩ := ints_of h0
  obtain ⟨now, hy, _, _⟩ := ints_of h1
  obtain ⟨os, hz⟩ := offers_of h2
  obtain ⟨root, _, e3, _⟩ := WT_int ti_int h3
  rw [e3, b_l16_SteerParents]
  generalize mkV ES.P T_sl_int xs0 = x at *
  generalize mkV ES.P T_sl_int xs1 = y at *
  generalize mkV ES.P T_sl_api_Offer xs2 = z at *
  have l1 := hx.lenS ti_sl_int
  have l2 := hy.lenS ti_sl_int
  have k0 := fun get => l16_small_c get hz
  by_cases c1 : 30 < (was.length : Int)
  · simp [c_l16_SteerParents, evW_reg, evW_chkr, isCst, TK.agg, zeroS, endS, resS, l1, c1]
  · by_cases c2 : 30 < (now.length : Int)
    · simp [c_l16_SteerParents, evW_reg, evW_chkr, isCst, TK.agg, zeroS, endS, resS, l1, l2, c1, c2]
    · cases hs : smallO os with
      | false =>
        rw [hs] at k0
        simp [c_l16_SteerParents, evW_reg, evW_chkr, isCst, TK.agg, zeroS, endS, resS, l1, l2, c1, c2, k0]
      | true =>
        rw [hs] at k0
        have hb := (smallO_len hs).1
        have k1 := fun get => steer_Parent_c get hx hy hz (by omega) root
        have k2 := fun get => r10_Parent_c get hx hy hz (by omega) root
        simp [c_l16_SteerParents, evW_reg, evW_chkr, isCst, TK.agg, zeroS, endS, resS, l1, l2, c1, c2, k0, k1, k2]
@[simp] theorem r10_bound_c (get) (g : Int) : callP (PCw ES) get n_r10_bound [.int .i64 g] = some (.int .i64 (boundG g)) := by
  refine callP_of (PCw_ex (fun M0 => ?_) rfl) (by simp)
  rw [b_r10_bound]
  simp [c_r10_bound, evW_reg, evW_chkr, isCst, TK.agg, zeroS, endS, resS, boundG]
theorem r10_age_c (get) {x : SV} {l : List Int} (hx : Ints x l) (i g : Int) : callP (PCw ES) get n_r10_age [x, .int .i64 i, .int .i64 g] = some (.int .i64 (atG l i g)) := by
  refine callP_of (PCw_ex (fun M0 => ?_) rfl) (by simp [hx.np12])
  rw [b_r10_age]
  have hl := hx.lenS ti_sl_int
  by_cases h0 : i < 0
  · have e : atG l i g = g := by unfold atG; rw [if_neg (by omega)]
    simp [c_r10_age, evW_reg, evW_chkr, isCst, TK.agg, zeroS, endS, resS, h0, e]
  · obtain ⟨j, rfl⟩ : ∃ j : Nat, i = j := ⟨i.toNat, by omega⟩
    rw [atG_nat]
    by_cases hj : j < l.length
    · have ha := Ints.at hx hj
      have hd := Ints.ld hj
      have h1 : ¬ (l.length : Int) ≤ j := by omega
      simp [c_r10_age, evW_reg, evW_chkr, isCst, TK.agg, zeroS, endS, resS, h0, hl, h1, ha, hd, hj]
    · have h1 : (l.length : Int) ≤ j := by omega
      have e : l[j]? = none := by simp; omega
      simp [c_r10_age, evW_reg, evW_chkr, isCst, TK.agg, zeroS, endS, resS, h0, hl, h1, e]

end Go.Proofs.YtjhlibdiojepaaaGreatDoor
