/-
  Walks of the seat's functions: Ck.
-/
import Derived.Test.YtljjmdcdlcefmaaGreatDoorEbMa
import Derived.Test.YtljjmdcdlcefmaaGreatDoorShMb
import Derived.Test.YtljjmdcdlcefmaaGreatDoorLPn
import Derived.Test.YtljjmdcdlcefmaaGreatDoorLPo
import Derived.Test.YtljjmdcdlcefmaaGreatDoorLzMb
set_option linter.unusedVariables false
set_option linter.unusedSimpArgs false
set_option maxRecDepth 100000
namespace Go.Proofs.YtljjmdcdlcefmaaGreatDoor
open Go.Proofs.YtljjmdcdlcefmaaGreatDoor.Sh
/-! plan.check, plan.Check, plan.Right. -/
def checkErr (c : Cfg) : Option (Int × Int) := match partsErr c with
  | some e => some e
  | none => match linksErr c with
    | some e => some e
    | none => if 0 ≤ idxI (distL c.links c.parts.length 0) (-1) then some (13, idxI (distL c.links c.parts.length 0) (-1)) else none
def checkG (c : Cfg) : Int × Int := (checkErr c).getD (0, 0)
theorem partsErr_none {c : Cfg} (h : partsErr c = none) : 1 ≤ c.parts.length ∧ c.parts.length ≤ 6 ∧ ∀ p ∈ c.parts, partBad p = false := by
  unfold partsErr at h
  split at h
  · cases h
  rename_i h1
  split at h
  · cases h
  rename_i h2
  rw [List.find?_range_eq_none] at h2
  refine ⟨by omega, by omega, fun p hp => ?_⟩
  obtain ⟨j, hj, rfl⟩ := List.mem_iff_getElem.1 hp
  simpa [hj] using h2 j hj
theorem linksErr_none {c : Cfg} (h : linksErr c = none) : c.links.length ≤ 10 ∧ ∀ (j : Nat) (hj : j < c.links.length), linkErr c j c.links[j] = 0 := by
  unfold linksErr at h
  split at h
  · cases h
  rename_i h1
  split at h
  · cases h
  rename_i h2
  rw [List.find?_range_eq_none] at h2
  refine ⟨by omega, fun j hj => ?_⟩
  simpa [hj] using h2 j hj
theorem linkErr_zero {c : Cfg} {i : Nat} {l : Link} (h : linkErr c i l = 0) : badEnds c l = false ∧ twice (c.links.take i) l = false ∧ endBad c i l.a l.pa0 l.pa1 = false ∧ endBad c i l.b l.pb0 l.pb1 = false := by
  unfold linkErr at h
  split at h
  · cases h
  rename_i h1
  split at h
  · cases h
  rename_i h2
  split at h
  · cases h
  rename_i h3
  simp only [Bool.or_eq_true, not_or, Bool.not_eq_true] at h1 h2 h3
  exact ⟨h1, h2, h3.1, h3.2⟩
theorem linksErr_ok {c : Cfg} (h : linksErr c = none) : ∀ l ∈ c.links, okL c.parts.length l := by
  intro l hl
  obtain ⟨j, hj, rfl⟩ := List.mem_iff_getElem.1 hl
  obtain ⟨h1, h2, h3⟩ := badEnds_ok (linkErr_zero ((linksErr_none h).2 j hj)).1
  exact ⟨h1.1, h1.2, h2.1, h2.2⟩
theorem linkErr_cases (c : Cfg) (i : Nat) (l : Link) : linkErr c i l = 0 ∨ linkErr c i l = 10 ∨ linkErr c i l = 11 ∨ linkErr c i l = 12 := by
  unfold linkErr
  (repeat' split) <;> simp
theorem checkErr_range {c : Cfg} {e i : Int} (h : checkErr c = some (e, i)) : 7 ≤ e ∧ e ≤ 13 := by
  unfold checkErr at h
  split at h
  · rename_i x hx
    simp only [Option.some.injEq] at h
    subst h
    unfold partsErr at hx
    split at hx
    · simp at hx; omega
    split at hx
    · simp at hx; omega
    · cases hx
  split at h
  · rename_i x hx
    simp only [Option.some.injEq] at h
    subst h
    unfold linksErr at hx
    split at hx
    · simp at hx; omega
    split at hx
    · rename_i j hj
      rw [List.find?_range_eq_some] at hj
      obtain ⟨h1, h2, _⟩ := hj
      have hlt : j < c.links.length := by simpa using h2
      simp [hlt] at hx h1
      have := linkErr_cases c j c.links[j]
      omega
    · cases hx
  split at h
  · simp at h; omega
  · cases h
theorem ICw_prim {E : Env} {f : Nat} {p : List SV → Mem → Option (SV × Mem)} (h : E.prim f = some p) (args : List SV) (M : Mem) : ICw E f args M = p args M := by
  apply opt_ext
  intro r
  rw [ICw_eq]
  constructor
  · rintro ⟨n, hn⟩
    cases n with
    | zero => simp [callN] at hn
    | succ n => simpa [callN, h] using hn
  · intro hr
    exact ⟨1, by simpa [callN, h] using hr⟩
theorem binS_errnil {P : Program} {t a b : Nat} {z : Option SV} (ht : tiOf P t = some ⟨.iface, a, b, z⟩) (o : Option (Int × Int)) : binS P .neq t true (errO o) .nili = some (.bool o.isSome) := by
  cases o with
  | none => simp [errO, binS, eqS, ht]
  | some x => simp [errO, errSV, binS, eqS, ht]
theorem plan_check_ok {y : SV} {c : Cfg} (hc : CfgR y c) : PCw ES n_plan_check [y] = some (errO (checkErr c)) := by
  have hcy := hc
  obtain ⟨P, L, rfl, hP⟩ := hc
  refine PCw_ex (fun M0 => ?_) (errO_pv _)
  rw [b_plan_check]
  have h1 := fun get => plan_parts_c get hcy
  have h2 := fun get => plan_links_c get hcy
  simp only [cfgC] at h1 h2
  have hb := binS_errnil (P := ES.P) ti_error
  have hb0 : binS ES.P .neq T_error true .nili .nili = some (.bool false) := hb none
  cases hp : partsErr c with
  | some e =>
    have e1 : checkErr c = some e := by simp [checkErr, hp]
    rw [hp] at h1
    rw [e1]
    simp [c_plan_check, evW_reg, evW_chkr, evW_chfr, isCst, loadS, partS, TK.agg, fieldAddrS, zeroS, storeS, setPart, splice, endS, resS, fieldS, cfgC, h1, hb]
  | none =>
    rw [hp] at h1
    cases hl : linksErr c with
    | some e =>
      have e1 : checkErr c = some e := by simp [checkErr, hp, hl]
      rw [hl] at h2
      rw [e1]
      simp [c_plan_check, evW_reg, evW_chkr, evW_chfr, isCst, loadS, partS, TK.agg, fieldAddrS, zeroS, storeS, setPart, splice, endS, resS, fieldS, cfgC, h1, h2, hb]
    | none =>
      rw [hl] at h2
      obtain ⟨q1, q2, _⟩ := partsErr_none hp
      have h3 := fun get => Dists_c get hcy (fr := 0) q1 q2 ⟨by omega, by omega⟩ (linksErr_ok hl)
      simp only [cfgC] at h3
      have h4 := fun get => Index_c get (iL_ints (distL c.links c.parts.length 0) .ro) (by simp [distL]; omega) (-1)
      by_cases hi : 0 ≤ idxI (distL c.links c.parts.length 0) (-1)
      · have e1 : checkErr c = some (13, idxI (distL c.links c.parts.length 0) (-1)) := by simp [checkErr, hp, hl, hi]
        rw [e1]
        simp [c_plan_check, evW_reg, evW_chkr, evW_chfr, isCst, loadS, partS, TK.agg, fieldAddrS, zeroS, storeS, setPart, splice, endS, resS, fieldS, cfgC, h1, h2, h3, h4, hb, hb0, hi, errO]
      · have e1 : checkErr c = none := by simp [checkErr, hp, hl, hi]
        rw [e1]
        simp [c_plan_check, evW_reg, evW_chkr, evW_chfr, isCst, loadS, partS, TK.agg, fieldAddrS, zeroS, storeS, setPart, splice, endS, resS, fieldS, cfgC, h1, h2, h3, h4, hb, hb0, hi, errO]
theorem plan_check_c (get) {y : SV} {c : Cfg} (hc : CfgR y c) : callP (PCw ES) get n_plan_check [y] = some (errO (checkErr c)) := callP_of (plan_check_ok hc) (by simp [hc.np12])
theorem As_nil (t : Nat) (v : SV) (M : Mem) : ICw ES n_errors_As [.nili, .iface t v] M = some (.bool false, M) := ICw_prim (p := prim_errors_As) rfl _ _
theorem As_P {items : List SV} {i o id : Nat} {st : Bool} {y : SV} {M : Mem} (hb : M.blk id = some [y]) (hy : y.cells.length = 1) :
    ICw ES n_errors_As [.iface T_p_plan_fault (.rptr items i o st), .iface T_p_p_plan_fault (.ptr id 0 0)] M = some (.bool true, M.set id (some [.rptr items i o st])) := by
  rw [ICw_prim (p := prim_errors_As) rfl]
  have : asPairs.contains (T_p_plan_fault, T_p_p_plan_fault) = true := rfl
  simp only [prim_errors_As, this, if_true, hb, hy]
theorem Is_P (e a n : Int) (M : Mem) : ICw ES n_errors_Is [errSV e a, .iface T_plan_code (.int .i64 n)] M = some (.bool (e == n), M) := by
  rw [ICw_prim (p := prim_errors_Is) rfl]
  simp [prim_errors_Is, errSV]
set_option maxHeartbeats 4000000 in
theorem plan_Check_ok {y : SV} {c : Cfg} (hc : CfgR y c) : PCw ES n_plan_Check [y] = some (.tup [.int .i64 (checkG c).1, .int .i64 (checkG c).2]) := by
  have hcy := hc
  obtain ⟨P, L, rfl, hP⟩ := hc
  refine PCw_ex (fun M0 => ?_) rfl
  rw [b_plan_Check]
  have h1 := fun get => plan_check_c get hcy
  simp only [cfgC] at h1
  cases he : checkErr c with
  | none =>
    rw [he] at h1
    have e1 : checkG c = (0, 0) := by simp [checkG, he]
    rw [e1]
    simp [c_plan_Check, evW_reg, evW_chkr, evW_chfr, isCst, loadS, partS, TK.agg, fieldAddrS, zeroS, storeS, setPart, splice, endS, resS, fieldS, cfgC, h1, errO, makeIS, As_nil]
  | some ei =>
    obtain ⟨e, a⟩ := ei
    rw [he] at h1
    have e1 : checkG c = (e, a) := by simp [checkG, he]
    rw [e1]
    obtain ⟨k1, k2⟩ := checkErr_range he
    have bs : ∀ q, bldSl ES.P T_sl_api_Errno 6 q [(0, .int .i64 7), (1, .int .i64 8), (2, .int .i64 9), (3, .int .i64 10), (4, .int .i64 11), (5, .int .i64 12)] = some (.own q 1 0 6, [.int .i64 7, .int .i64 8, .int .i64 9, .int .i64 10, .int .i64 11, .int .i64 12]) := fun q => by simp [bldSl, buildRow]
    have loop := fun f s M1 hI => loop_find (E := ES) (me := n_plan_Check) (B := c_plan_Check_B0) (len := 6) (T := fun j => h_plan_Check_0 (errSV e a) (.ptr f 0 0) (.own s 1 0 6) (.int .i64 6) (.int .i64 j))
      (I := fun _ M => M.blk f = some [.rptr [.agg [.int .i64 a, .iface T_plan_code (.int .i64 e)]] 0 0 true] ∧ M.blk s = some [.int .i64 7, .int .i64 8, .int .i64 9, .int .i64 10, .int .i64 11, .int .i64 12])
      (p := fun j => e == 7 + (j : Int))
      (Q := fun o r => ∃ M', M'.blk f = some [.rptr [.agg [.int .i64 a, .iface T_plan_code (.int .i64 e)]] 0 0 true] ∧ r = match o with
        | some j => (.ret, ⟨((h_plan_Check_0 .bad .bad .bad .bad .bad).set 2 (.int .i64 e)).set 3 (.int .i64 a), M'⟩)
        | none => (.exit 0, ⟨(h_plan_Check_0 (errSV e a) (.ptr f 0 0) (.own s 1 0 6) (.int .i64 6) (.int .i64 6)).set 17 (.bool false), M'⟩))
      (fun j M hj ⟨hf, hs⟩ hpj => by
        have hj' : (j : Int) < 6 := by omega
        have hw : IntKind.i64.wrap ((j : Int) + 1) = (j : Int) + 1 := i64_in (by omega) (by omega)
        have hix : indexAddrS ES.P T_sl_api_Errno (.own s 1 0 6) (.int .i64 j) = some (.ptr s j 0) := by simp [indexAddrS, natS, hj]
        have hit : ([SV.int .i64 7, .int .i64 8, .int .i64 9, .int .i64 10, .int .i64 11, .int .i64 12] : List SV)[j]? = some (.int .i64 (7 + j)) := by
          have : j = 0 ∨ j = 1 ∨ j = 2 ∨ j = 3 ∨ j = 4 ∨ j = 5 := by omega
          rcases this with rfl | rfl | rfl | rfl | rfl | rfl <;> rfl
        simp only [beq_eq_false_iff_ne] at hpj
        have hpb : (e == 7 + (j : Int)) = false := by simp [hpj]
        simp [c_plan_Check_B0, evW_reg, evW_chkr, evW_chfr, isCst, loadS, partS, TK.agg, fieldAddrS, zeroS, storeS, setPart, splice, endS, resS, fieldS, h_plan_Check_0, hj', hix, hs, hit, makeIS, Is_P, hpb, hw, hpj, hf])
      (fun j M hj ⟨hf, hs⟩ hpj => by
        have hj' : (j : Int) < 6 := by omega
        have hix : indexAddrS ES.P T_sl_api_Errno (.own s 1 0 6) (.int .i64 j) = some (.ptr s j 0) := by simp [indexAddrS, natS, hj]
        have hit : ([SV.int .i64 7, .int .i64 8, .int .i64 9, .int .i64 10, .int .i64 11, .int .i64 12] : List SV)[j]? = some (.int .i64 (7 + j)) := by
          have : j = 0 ∨ j = 1 ∨ j = 2 ∨ j = 3 ∨ j = 4 ∨ j = 5 := by omega
          rcases this with rfl | rfl | rfl | rfl | rfl | rfl <;> rfl
        simp only [beq_iff_eq] at hpj
        subst hpj
        simp [c_plan_Check_B0, evW_reg, evW_chkr, evW_chfr, isCst, loadS, partS, TK.agg, fieldAddrS, zeroS, storeS, setPart, splice, endS, resS, fieldS, h_plan_Check_0, hj', hix, hs, hit, makeIS, Is_P, hf])
      (fun M ⟨hf, hs⟩ => by
        simp [c_plan_Check_B0, evW_reg, evW_chkr, evW_chfr, isCst, loadS, partS, TK.agg, fieldAddrS, zeroS, storeS, setPart, splice, endS, resS, fieldS, h_plan_Check_0]
        exact hf) M1 hI
    obtain ⟨r, g1, M', hM', g2⟩ := loop (M0.next + 3) (M0.next + 8) ((((((((M0.bump 3).set M0.next (some [.agg (cfgC c P L)])).bump 1).set (M0.next + 3) (some [.nilp])).bump 4).set (M0.next + 3) (some [.rptr [.agg [.int .i64 a, .iface T_plan_code (.int .i64 e)]] 0 0 true])).bump 3).set (M0.next + 8) (some [.int .i64 7, .int .i64 8, .int .i64 9, .int .i64 10, .int .i64 11, .int .i64 12])) (by simp)
    simp [h_plan_Check_0, cfgC] at g1
    rw [g2] at g1
    have hsome : ∀ j : Nat, (List.range 6).find? (fun j : Nat => e == 7 + (j : Int)) = some j → e = 7 + (j : Int) := fun j hj => by
      have := (List.find?_range_eq_some.1 hj).1
      simpa using this
    have hnone : (List.range 6).find? (fun j : Nat => e == 7 + (j : Int)) = none → e = 13 := fun hj => by
      rw [List.find?_range_eq_none] at hj
      have q0 := hj 0 (by omega)
      have q1 := hj 1 (by omega)
      have q2 := hj 2 (by omega)
      have q3 := hj 3 (by omega)
      have q4 := hj 4 (by omega)
      have q5 := hj 5 (by omega)
      simp at q0 q1 q2 q3 q4 q5
      omega
    have hAs : ∀ M1 : Mem, M1.blk (M0.next + 3) = some [.nilp] → ICw ES n_errors_As [errSV e a, .iface T_p_p_plan_fault (.ptr (M0.next + 3) 0 0)] M1 = some (.bool true, M1.set (M0.next + 3) (some [.rptr [.agg [.int .i64 a, .iface T_plan_code (.int .i64 e)]] 0 0 true])) := fun M1 hM => As_P hM rfl
    have hM2 := hM'
    cases hf : (List.range 6).find? (fun j : Nat => e == 7 + (j : Int)) with
    | some j =>
      rw [hf] at g1
      simp [h_plan_Check_0] at g1
      simp [c_plan_Check, evW_reg, evW_chkr, evW_chfr, isCst, loadS, partS, TK.agg, fieldAddrS, zeroS, storeS, setPart, splice, endS, resS, fieldS, cfgC, h1, errO, makeIS, hAs, bs, lenS, c_plan_Check_L0, g1, Nat.add_assoc]
    | none =>
      have := hnone hf
      subst this
      rw [hf] at g1
      simp [h_plan_Check_0] at g1
      simp [c_plan_Check, evW_reg, evW_chkr, evW_chfr, isCst, loadS, partS, TK.agg, fieldAddrS, zeroS, storeS, setPart, splice, endS, resS, fieldS, cfgC, h1, errO, makeIS, hAs, bs, lenS, c_plan_Check_L0, g1, hM2, Nat.add_assoc]
theorem plan_Check_c (get) {y : SV} {c : Cfg} (hc : CfgR y c) : callP (PCw ES) get n_plan_Check [y] = some (.tup [.int .i64 (checkG c).1, .int .i64 (checkG c).2]) := callP_of (plan_Check_ok hc) (by simp [hc.np12])

end Go.Proofs.YtljjmdcdlcefmaaGreatDoor
