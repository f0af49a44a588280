/-
  Walks of the seat's functions: Be.
-/
import Derived.Test.YtomlbmbgocmiiaaGreatDoorEbMa
import Derived.Test.YtomlbmbgocmiiaaGreatDoorShMb
import Derived.Test.YtomlbmbgocmiiaaGreatDoorLBd
import Derived.Test.YtomlbmbgocmiiaaGreatDoorLzMe
set_option linter.unusedVariables false
set_option linter.unusedSimpArgs false
set_option maxRecDepth 100000
namespace Go.Proofs.YtomlbmbgocmiiaaGreatDoor
open Go.Proofs.YtomlbmbgocmiiaaGreatDoor.Sh
/-! What a network's numbers come to, and whether they fit: plain. -/
def slewN (c : Cfg) : Int := upM (c.drift * c.cycle)
def stepN (c : Cfg) : Int := 4 * edgeN c + 2 * slewN c + 2
def jumpN (c : Cfg) : Int := 2 * c.ages * stepN c + 4 * edgeN c
def tickN (c : Cfg) : Int := 3 * edgeN c + upM (2 * edgeN c * (c.rate + c.drift)) + 1
structure NumsOk (c : Cfg) : Prop where
  e : 1 ≤ edgeN c ∧ edgeN c ≤ 1001
  s : 0 ≤ slewN c ∧ slewN c ≤ 500
  st : 6 ≤ stepN c ∧ stepN c ≤ 5006
  j : 0 ≤ 2 * c.ages * stepN c ∧ 2 * c.ages * stepN c ≤ 2002400
  t : 0 ≤ 2 * edgeN c * (c.rate + c.drift) ∧ 2 * edgeN c * (c.rate + c.drift) ≤ 801801000
theorem InRange.nums {c : Cfg} (h : InRange c) : NumsOk c := by
  have h1 := h.dc
  have h2 := h.dc2
  have he : 1 ≤ edgeN c ∧ edgeN c ≤ 1001 := by unfold edgeN upM; omega
  have hs : 0 ≤ slewN c ∧ slewN c ≤ 500 := by unfold slewN upM; omega
  have hst : 6 ≤ stepN c ∧ stepN c ≤ 5006 := by unfold stepN; omega
  obtain ⟨a1, a2⟩ := h.ag
  obtain ⟨r1, r2⟩ := h.ra
  obtain ⟨d1, d2⟩ := h.dr
  refine ⟨he, hs, hst, ⟨Int.mul_nonneg (by omega) (by omega), ?_⟩, ⟨Int.mul_nonneg (by omega) (by omega), ?_⟩⟩
  · have := Int.mul_le_mul (show 2 * c.ages ≤ 400 by omega) hst.2 (by omega) (by omega)
    omega
  · have := Int.mul_le_mul (show 2 * edgeN c ≤ 2002 by omega) (show c.rate + c.drift ≤ 400500 by omega) (by omega) (by omega)
    omega
/-- How many ticks a part's slots take, at least. -/
def slotsEnd (c : Cfg) (i : Nat) : Int := c.lead + (3 * (portsN c.links i : Int) + nodesAt c i) * c.slot + c.window
def slotsBad (c : Cfg) (i : Nat) : Bool := decide (c.cycle < slotsEnd c i)
def anySlots (c : Cfg) : Bool := (List.range c.parts.length).any (slotsBad c)
def leastN (c : Cfg) : Int := c.parts.length * (c.lost + 1) + 2
def windowsN (c : Cfg) : Int :=
  if c.window < 3 * edgeN c ∨ 20000 < c.window then 6 else if c.slot < 2 * c.window + 1 ∨ 1000000 < c.slot then 7 else if c.lead < c.window ∨ 1000000 < c.lead then 8
  else if anySlots c then 9 else if c.rate * c.cycle < jumpN c * 1000000 then 10 else 0
def waitsN (c : Cfg) : Int :=
  if c.ages < (c.parts.length - 1) * (c.lost + 1) + 1 then 11 else if c.listen < leastN c ∨ 60000 < c.listen then 12 else if c.span < leastN c ∨ 60000 < c.span then 13
  else if 60000 < c.listen + c.parts.length * c.span then 14 else if c.room < c.parts.length + 2 ∨ 64 < c.room then 15 else 0
def laterN (c : Cfg) : Int := if windowsN c ≠ 0 then windowsN c else waitsN c
/-- What does not fit; 0: nothing; and which. -/
def fitsG (c : Cfg) : Int × Int :=
  if (checkG c).1 ≠ 0 then checkG c else if outN c ≠ 0 then (14, outN c) else if laterN c ≠ 0 then (14, laterN c) else (0, 0)
def fitG (c : Cfg) : Bool := (fitsG c).1 == 0
theorem fitG_spec {c : Cfg} : fitG c = true ↔ rightC c = true ∧ outN c = 0 ∧ laterN c = 0 := by
  unfold fitG fitsG rightC
  by_cases h1 : (checkG c).1 = 0
  · by_cases h2 : outN c = 0
    · by_cases h3 : laterN c = 0 <;> simp [h1, h2, h3]
    · simp [h1, h2]
  · simp [h1]
def firstG (c : Cfg) (part : Int) : Int := if fitG c && decide (inMany part c.parts.length) then c.listen + part * c.span else 0
/-- As many ports as each link has two of them at each end. -/
theorem endsL_count {ls : List Link} {part : Int} (h : ∀ l ∈ ls, l.a < l.b) : ∀ k, k ≤ ls.length → (endsK ls part k).length = portsN (ls.take k) part
  | 0, _ => rfl
  | k + 1, hk => by
    have hlt : k < ls.length := by omega
    rw [endsK_succ hlt, List.length_append, endsL_count h k (by omega), portsN_take hlt]
    have := h ls[k] (List.getElem_mem hlt)
    congr 1
    unfold portsOfLink portsOfEnd endOf
    by_cases h1 : ls[k].a = part
    · have h2 : ¬ ls[k].b = part := by omega
      simp [h1, h2]
    · by_cases h2 : ls[k].b = part <;> simp [h1, h2]

end Go.Proofs.YtomlbmbgocmiiaaGreatDoor

/-
  Walks of the seat's functions: Bf.
-/
set_option linter.unusedVariables false
set_option linter.unusedSimpArgs false
set_option maxRecDepth 100000
namespace Go.Proofs.YtomlbmbgocmiiaaGreatDoor
open Go.Proofs.YtomlbmbgocmiiaaGreatDoor.Sh
/-! bounds: reckoning; the first that is not so. -/
@[simp] theorem wrap_lit0 : IntKind.i64.wrap 0 = 0 := by decide
@[simp] theorem wrap_lit1 : IntKind.i64.wrap 1 = 1 := by decide
theorem ticks_Ceil_c (get) {n : Int} (h0 : 0 ≤ n) (h1 : n ≤ 9000000000000000000) : callP (PCw ES) get n_ticks_Ceil [.int .i64 n, .int .i64 1000000] = some (.tup [.int .i64 (upM n), .bool true]) := by
  refine callP_of (PCw_ex (fun M0 => ?_) rfl) (by simp)
  rw [b_ticks_Ceil]
  have hd := tdivM h0
  have hm := tmodM h0
  have hw : IntKind.i64.wrap (n / 1000000) = n / 1000000 := i64_in (by omega) (by omega)
  have hw1 : IntKind.i64.wrap (n / 1000000 + 1) = n / 1000000 + 1 := i64_in (by omega) (by omega)
  by_cases h : 0 < n % 1000000
  · have e : upM n = n / 1000000 + 1 := by unfold upM; omega
    simp [c_ticks_Ceil, evW_reg, evW_chkr, isCst, loadS, partS, TK.agg, fieldAddrS, zeroS, storeS, setPart, splice, endS, resS, fieldS, hd, hm, hw, hw1, h, e]
  · have e : upM n = n / 1000000 := by unfold upM; omega
    simp [c_ticks_Ceil, evW_reg, evW_chkr, isCst, loadS, partS, TK.agg, fieldAddrS, zeroS, storeS, setPart, splice, endS, resS, fieldS, hd, hm, hw, h, e]
theorem bounds_part_c (get) {n : Int} (h0 : 0 ≤ n) (h1 : n ≤ 9000000000000000000) : callP (PCw ES) get n_bounds_part [.int .i64 n] = some (.int .i64 (upM n)) := by
  refine callP_of (PCw_ex (fun M0 => ?_) rfl) (by simp)
  rw [b_bounds_part]
  have h := fun get => ticks_Ceil_c get h0 h1
  simp [c_bounds_part, evW_reg, evW_chkr, isCst, loadS, partS, TK.agg, fieldAddrS, zeroS, storeS, setPart, splice, endS, resS, fieldS, h]
def inB (n a b : Int) : Bool := decide (a ≤ n ∧ n ≤ b)
@[simp] theorem bounds_within_c (get) (n a b : Int) : callP (PCw ES) get n_bounds_within [.int .i64 n, .int .i64 a, .int .i64 b] = some (.bool (inB n a b)) := by
  refine callP_of (PCw_ex (fun M0 => ?_) rfl) (by simp)
  rw [b_bounds_within]
  unfold inB
  by_cases h : a ≤ n <;> simp [c_bounds_within, evW_reg, evW_chkr, isCst, loadS, partS, TK.agg, fieldAddrS, zeroS, storeS, setPart, splice, endS, resS, fieldS, h]
/-- The number of the first that is not so. -/
def firstF (n : Int) : List Bool → Int
  | [] => 0
  | b :: r => if b then firstF (n + 1) r else n
theorem firstF_find (n : Int) : ∀ l : List Bool, firstF n l = match (List.range l.length).find? (fun j => (l[j]?.map (!·)).getD false) with | some j => n + j | none => 0
  | [] => rfl
  | b :: r => by
    have ih := firstF_find (n + 1) r
    rw [firstF, ih, List.length_cons, List.range_succ_eq_map, List.find?_cons]
    cases b with
    | false => simp
    | true =>
      simp only [List.getElem?_cons_zero, Option.map_some, Option.getD_some, Bool.not_true, List.find?_map, if_true]
      have e : ((fun j => (((true :: r)[j]?).map (!·)).getD false) ∘ Nat.succ) = fun j => ((r[j]?).map (!·)).getD false := by funext j; simp
      rw [e]
      cases (List.range r.length).find? (fun j => ((r[j]?).map (!·)).getD false) with
      | none => rfl
      | some j =>
        show n + 1 + (j : Int) = n + ((j + 1 : Nat) : Int)
        omega
def Bools (x : SV) (l : List Bool) : Prop := RSl (fun y b => y = .bool b) x l
theorem bounds_first_ok {x : SV} {l : List Bool} (hx : Bools x l) (hl : l.length ≤ 100) (n : Int) (hn : 0 ≤ n ∧ n ≤ 100) : PCw ES n_bounds_first [.int .i64 n, x] = some (.int .i64 (firstF n l)) := by
  refine PCw_ex (fun M0 => ?_) rfl
  rw [b_bounds_first, firstF_find]
  have hlen := hx.lenS ti_sl_bool
  have at' : ∀ {j : Nat}, j < l.length → indexAddrS ES.P T_sl_bool x (.int .i64 j) = some (.rptr (l.map .bool) j 0 (stOf x)) := fun {j} hj => RSl.at (enc := SV.bool) hx ti_sl_bool ti_bool (fun _ => rfl) hj
  obtain ⟨r, g1, M', g2⟩ := loop_find (E := ES) (me := n_bounds_first) (B := c_bounds_first_B0) (len := l.length) (T := fun j => h_bounds_first_0 (.int .i64 n) x (.int .i64 l.length) (.int .i64 j))
    (I := fun _ _ => True) (p := fun j => (l[j]?.map (!·)).getD false)
    (Q := fun o r => ∃ M', r = match o with
      | some j => (.ret, ⟨(h_bounds_first_0 .bad .bad .bad .bad).set 4 (.int .i64 (n + j)), M'⟩)
      | none => (.exit 0, ⟨(h_bounds_first_0 (.int .i64 n) x (.int .i64 l.length) (.int .i64 l.length)).set 10 (.bool false), M'⟩))
    (fun j M hj _ hp => by
      have ha := at' hj
      have hw : IntKind.i64.wrap ((j : Int) + 1) = (j : Int) + 1 := i64_in (by omega) (by omega)
      simp [hj] at hp
      exact ⟨M, by simp [c_bounds_first_B0, evW_reg, evW_chkr, isCst, loadS, partS, TK.agg, fieldAddrS, zeroS, storeS, setPart, splice, endS, resS, fieldS, h_bounds_first_0, hj, ha, hp, hw], trivial⟩)
    (fun j M hj _ hp => by
      have ha := at' hj
      have hw : IntKind.i64.wrap (n + (j : Int)) = n + (j : Int) := i64_in (by omega) (by omega)
      simp [hj] at hp
      have hB : evW ES n_bounds_first c_bounds_first_B0 ⟨h_bounds_first_0 (.int .i64 n) x (.int .i64 l.length) (.int .i64 j), M⟩ = some (.ret, ⟨(h_bounds_first_0 .bad .bad .bad .bad).set 4 (.int .i64 (n + j)), M⟩) := by
        simp [c_bounds_first_B0, evW_reg, evW_chkr, isCst, loadS, partS, TK.agg, fieldAddrS, zeroS, storeS, setPart, splice, endS, resS, fieldS, h_bounds_first_0, hj, ha, hp, hw]
      exact ⟨_, hB, by simp, M, rfl⟩)
    (fun M _ => ⟨_, by simp [c_bounds_first_B0, evW_reg, evW_chkr, isCst, loadS, partS, TK.agg, fieldAddrS, zeroS, storeS, setPart, splice, endS, resS, fieldS, h_bounds_first_0], by simp, M, rfl⟩) M0 trivial
  cases hf : (List.range l.length).find? (fun j => (l[j]?.map (!·)).getD false) with
  | none =>
    rw [hf] at g2
    subst g2
    simp [h_bounds_first_0] at g1
    simp [c_bounds_first, evW_reg, evW_chkr, isCst, loadS, partS, TK.agg, fieldAddrS, zeroS, storeS, setPart, splice, endS, resS, fieldS, hlen, c_bounds_first_L0, g1]
  | some j =>
    rw [hf] at g2
    subst g2
    simp [h_bounds_first_0] at g1
    simp [c_bounds_first, evW_reg, evW_chkr, isCst, loadS, partS, TK.agg, fieldAddrS, zeroS, storeS, setPart, splice, endS, resS, fieldS, hlen, c_bounds_first_L0, g1]
theorem bounds_first_own {get : Nat → Option (List SV)} {id : Nat} (l : List Bool) (h : get id = some (l.map .bool)) (hl : l.length ≤ 100) (n : Int) (hn : 0 ≤ n ∧ n ≤ 100) : callP (PCw ES) get n_bounds_first [.int .i64 n, .own id 1 0 l.length] = some (.int .i64 (firstF n l)) := by
  have hi : pic get false picDepth (.int .i64 n) = some (.int .i64 n) := pic_np rfl
  have hp : ∀ x ∈ l.map SV.bool, Sh.pv x = true := fun x hx => by
    simp only [List.mem_map] at hx
    obtain ⟨b, _, rfl⟩ := hx
    rfl
  have ho : pic get false picDepth (.own id 1 0 l.length) = some (.sl (l.map .bool) .snap) := by
    unfold picDepth pic
    simp only [Sh.pv, Bool.false_eq_true, if_false, h, Nat.zero_add, List.length_map, Nat.le_refl, if_true, List.drop_zero]
    rw [show (l.map SV.bool).take l.length = l.map SV.bool by rw [List.take_of_length_le (by simp)]]
    rw [mapM_id fun x hx => pic_np (np_of_pv (hp x hx) _)]
  rw [callP_pic (ys := [.int .i64 n, .sl (l.map .bool) .snap]) (by simp [hi, ho])]
  exact bounds_first_ok (RSl.of_map rfl rfl) hl n hn
def numsC (c : Cfg) : List SV := [.int .i64 (edgeN c), .int .i64 (2 * edgeN c), .int .i64 (slewN c), .int .i64 (stepN c), .int .i64 (jumpN c), .int .i64 (tickN c), .int .i64 (c.ages + 1)]
def zeroNums : List SV := [.int .i64 0, .int .i64 0, .int .i64 0, .int .i64 0, .int .i64 0, .int .i64 0, .int .i64 0]
set_option maxHeartbeats 4000000 in
theorem bounds_Reckon_c (get) {P L : SV} {c : Cfg} (hP : CfgP c P L) (h : InRange c) : callP (PCw ES) get n_bounds_Reckon [.agg (cfgC c P L)] = some (.agg (numsC c)) := by
  refine callP_of (PCw_ex (fun M0 => ?_) rfl) (by simp [hP.npA])
  rw [b_bounds_Reckon]
  have h2 := h.dc2
  have h1 := h.dc
  obtain ⟨he, hs, hst, hj, ht⟩ := h.nums
  have hd := h.dr
  have hr := h.ra
  have hag := h.ag
  have u1 := fun get => bounds_part_c get h2.1 (by omega)
  have u2 := fun get => bounds_part_c get h1.1 (by omega)
  have u3 := fun get => bounds_part_c get ht.1 (by omega)
  have w1 : IntKind.i64.wrap (2 * c.drift) = 2 * c.drift := i64_in (by omega) (by omega)
  have w2 : IntKind.i64.wrap (2 * c.drift * c.cycle) = 2 * c.drift * c.cycle := i64_in (by omega) (by omega)
  have w3 : IntKind.i64.wrap (upM (2 * c.drift * c.cycle) + 1) = edgeN c := i64_in (by unfold edgeN at he; omega) (by unfold edgeN at he; omega)
  have w4 : IntKind.i64.wrap (c.drift * c.cycle) = c.drift * c.cycle := i64_in (by omega) (by omega)
  have w5 : IntKind.i64.wrap (c.ages + 1) = c.ages + 1 := i64_in (by omega) (by omega)
  have w6 : IntKind.i64.wrap (2 * edgeN c) = 2 * edgeN c := i64_in (by omega) (by omega)
  have w7 : IntKind.i64.wrap (2 * (2 * edgeN c)) = 4 * edgeN c := by rw [i64_in (by omega) (by omega)]; omega
  have w8 : IntKind.i64.wrap (2 * slewN c) = 2 * slewN c := i64_in (by omega) (by omega)
  have w9 : IntKind.i64.wrap (4 * edgeN c + 2 * slewN c) = 4 * edgeN c + 2 * slewN c := i64_in (by omega) (by omega)
  have w10 : IntKind.i64.wrap (4 * edgeN c + 2 * slewN c + 2) = stepN c := i64_in (by unfold stepN at hst; omega) (by unfold stepN at hst; omega)
  have w11 : IntKind.i64.wrap (2 * c.ages) = 2 * c.ages := i64_in (by omega) (by omega)
  have w12 : IntKind.i64.wrap (2 * c.ages * stepN c) = 2 * c.ages * stepN c := i64_in (by omega) (by omega)
  have w13 : IntKind.i64.wrap (2 * c.ages * stepN c + 4 * edgeN c) = jumpN c := i64_in (by omega) (by omega)
  have w14 : IntKind.i64.wrap (2 * edgeN c + edgeN c) = 3 * edgeN c := by rw [i64_in (by omega) (by omega)]; omega
  have w15 : IntKind.i64.wrap (c.rate + c.drift) = c.rate + c.drift := i64_in (by omega) (by omega)
  have w16 : IntKind.i64.wrap (2 * edgeN c * (c.rate + c.drift)) = 2 * edgeN c * (c.rate + c.drift) := i64_in (by omega) (by omega)
  have w17 : IntKind.i64.wrap (3 * edgeN c + upM (2 * edgeN c * (c.rate + c.drift))) = 3 * edgeN c + upM (2 * edgeN c * (c.rate + c.drift)) := by unfold upM; exact i64_in (by omega) (by omega)
  have w18 : IntKind.i64.wrap (3 * edgeN c + upM (2 * edgeN c * (c.rate + c.drift)) + 1) = tickN c := by unfold tickN upM; exact i64_in (by omega) (by omega)
  have b0 : ∀ a b d : Int, bldS ES.P T_bounds_Numbers [(0, .int .i64 a), (2, .int .i64 b), (6, .int .i64 d)] = some (.agg [.int .i64 a, .int .i64 0, .int .i64 b, .int .i64 0, .int .i64 0, .int .i64 0, .int .i64 d]) := fun a b d => by simp [bldS, placesOf, buildS, splice]
  have hsl : upM (c.drift * c.cycle) = slewN c := rfl
  simp [c_bounds_Reckon, evW_reg, evW_chkr, isCst, loadS, partS, TK.agg, fieldAddrS, zeroS, storeS, setPart, splice, endS, resS, fieldS, cfgC, numsC, u1, u2, u3, w1, w2, w3, w4, w5, w6, w7, w8, w9, w10, w11, w12, w13, w14, w15, w16, w17, w18, b0, hsl, Nat.add_assoc]
theorem ranged_firstF (c : Cfg) : firstF 1 [inB c.cycle 1000 1000000, inB c.drift 0 500, inB c.rate 0 400000, inB c.ages 1 200, inB c.lost 0 20] = outN c := by
  unfold outN inB
  by_cases h1 : c.cycle < 1000 ∨ 1000000 < c.cycle
  · rw [if_pos h1]; simp [firstF]; omega
  rw [if_neg h1]
  by_cases h2 : c.drift < 0 ∨ 500 < c.drift
  · rw [if_pos h2, firstF, if_pos (by simp; omega)]; simp [firstF]; omega
  rw [if_neg h2]
  by_cases h3 : c.rate < 0 ∨ 400000 < c.rate
  · rw [if_pos h3, firstF, if_pos (by simp; omega), firstF, if_pos (by simp; omega)]; simp [firstF]; omega
  rw [if_neg h3]
  by_cases h4 : c.ages < 1 ∨ 200 < c.ages
  · rw [if_pos h4, firstF, if_pos (by simp; omega), firstF, if_pos (by simp; omega), firstF, if_pos (by simp; omega)]; simp [firstF]; omega
  rw [if_neg h4]
  by_cases h5 : c.lost < 0 ∨ 20 < c.lost
  · rw [if_pos h5, firstF, if_pos (by simp; omega), firstF, if_pos (by simp; omega), firstF, if_pos (by simp; omega), firstF, if_pos (by simp; omega)]; simp [firstF]; omega
  rw [if_neg h5, firstF, if_pos (by simp; omega), firstF, if_pos (by simp; omega), firstF, if_pos (by simp; omega), firstF, if_pos (by simp; omega)]
  simp [firstF]
  omega
theorem bounds_ranged_c (get) {P L : SV} {c : Cfg} (hP : CfgP c P L) : callP (PCw ES) get n_bounds_ranged [.agg (cfgC c P L)] = some (.int .i64 (outN c)) := by
  refine callP_of (PCw_ex (fun M0 => ?_) rfl) (by simp [hP.npA])
  rw [b_bounds_ranged]
  have hf := fun (get : Nat → Option (List SV)) (id : Nat) (h : get id = some [.bool (inB c.cycle 1000 1000000), .bool (inB c.drift 0 500), .bool (inB c.rate 0 400000), .bool (inB c.ages 1 200), .bool (inB c.lost 0 20)]) =>
    bounds_first_own [inB c.cycle 1000 1000000, inB c.drift 0 500, inB c.rate 0 400000, inB c.ages 1 200, inB c.lost 0 20] (get := get) (id := id) h (by simp) 1 (by decide)
  rw [ranged_firstF] at hf
  simp only [List.length_cons, List.length_nil] at hf
  simp [c_bounds_ranged, evW_reg, evW_chkr, isCst, loadS, partS, TK.agg, fieldAddrS, zeroS, storeS, setPart, splice, endS, resS, fieldS, cfgC, hf, bldSl, buildRow]
theorem bounds_in_c (get) {P L : SV} {c : Cfg} (hP : CfgP c P L) : callP (PCw ES) get n_bounds_in [.agg (cfgC c P L)] = some (.agg (if rangedC c then numsC c else zeroNums)) := by
  refine callP_of (PCw_ex (fun M0 => ?_) (by split <;> rfl)) (by simp [hP.npA])
  rw [b_bounds_in]
  have h1 := fun get => plan_Right_c get hP
  have h2 := fun get => bounds_ranged_c get hP
  simp only [cfgC] at h1 h2
  have b0 : bldS ES.P T_bounds_Numbers [] = some (.agg zeroNums) := by simp [bldS, placesOf, buildS, zeroNums]
  have hc : (numsC c).length = 7 := rfl
  unfold rangedC
  cases hr : rightC c with
  | false =>
    rw [hr] at h1
    simp [c_bounds_in, evW_reg, evW_chkr, isCst, loadS, partS, TK.agg, fieldAddrS, zeroS, storeS, setPart, splice, endS, resS, fieldS, cfgC, h1, b0, zeroNums]
  | true =>
    rw [hr] at h1
    by_cases ho : outN c = 0
    · have h3 := fun get => bounds_Reckon_c get hP (outN_zero ho)
      simp only [cfgC] at h3
      simp [c_bounds_in, evW_reg, evW_chkr, isCst, loadS, partS, TK.agg, fieldAddrS, zeroS, storeS, setPart, splice, endS, resS, fieldS, cfgC, h1, h2, h3, ho, numsC]
    · simp [c_bounds_in, evW_reg, evW_chkr, isCst, loadS, partS, TK.agg, fieldAddrS, zeroS, storeS, setPart, splice, endS, resS, fieldS, cfgC, h1, h2, ho, b0, zeroNums]
def val_Edge (c : Cfg) : Int := edgeN c
def val_Near (c : Cfg) : Int := 2 * edgeN c
def val_Slew (c : Cfg) : Int := slewN c
def val_Step (c : Cfg) : Int := stepN c
def val_Jump (c : Cfg) : Int := jumpN c
def val_Tick (c : Cfg) : Int := tickN c
def val_Gone (c : Cfg) : Int := c.ages + 1
theorem bounds_Edge_c (get) {P L : SV} {c : Cfg} (hP : CfgP c P L) : callP (PCw ES) get n_bounds_Edge [.agg (cfgC c P L)] = some (.int .i64 (if rangedC c then val_Edge c else 0)) := by
  refine callP_of (PCw_ex (fun M0 => ?_) rfl) (by simp [hP.npA])
  rw [b_bounds_Edge]
  have h1 := fun get => bounds_in_c get hP
  simp only [cfgC] at h1
  unfold val_Edge
  cases hr : rangedC c with
  | false =>
    rw [hr] at h1
    simp [c_bounds_Edge, evW_reg, evW_chkr, isCst, loadS, partS, TK.agg, fieldAddrS, zeroS, storeS, setPart, splice, endS, resS, fieldS, cfgC, h1, zeroNums]
  | true =>
    rw [hr] at h1
    simp [c_bounds_Edge, evW_reg, evW_chkr, isCst, loadS, partS, TK.agg, fieldAddrS, zeroS, storeS, setPart, splice, endS, resS, fieldS, cfgC, h1, numsC]
theorem bounds_Near_c (get) {P L : SV} {c : Cfg} (hP : CfgP c P L) : callP (PCw ES) get n_bounds_Near [.agg (cfgC c P L)] = some (.int .i64 (if rangedC c then val_Near c else 0)) := by
  refine callP_of (PCw_ex (fun M0 => ?_) rfl) (by simp [hP.npA])
  rw [b_bounds_Near]
  have h1 := fun get => bounds_in_c get hP
  simp only [cfgC] at h1
  unfold val_Near
  cases hr : rangedC c with
  | false =>
    rw [hr] at h1
    simp [c_bounds_Near, evW_reg, evW_chkr, isCst, loadS, partS, TK.agg, fieldAddrS, zeroS, storeS, setPart, splice, endS, resS, fieldS, cfgC, h1, zeroNums]
  | true =>
    rw [hr] at h1
    simp [c_bounds_Near, evW_reg, evW_chkr, isCst, loadS, partS, TK.agg, fieldAddrS, zeroS, storeS, setPart, splice, endS, resS, fieldS, cfgC, h1, numsC]
theorem bounds_Step_c (get) {P L : SV} {c : Cfg} (hP : CfgP c P L) : callP (PCw ES) get n_bounds_Step [.agg (cfgC c P L)] = some (.int .i64 (if rangedC c then val_Step c else 0)) := by
  refine callP_of (PCw_ex (fun M0 => ?_) rfl) (by simp [hP.npA])
  rw [b_bounds_Step]
  have h1 := fun get => bounds_in_c get hP
  simp only [cfgC] at h1
  unfold val_Step
  cases hr : rangedC c with
  | false =>
    rw [hr] at h1
    simp [c_bounds_Step, evW_reg, evW_chkr, isCst, loadS, partS, TK.agg, fieldAddrS, zeroS, storeS, setPart, splice, endS, resS, fieldS, cfgC, h1, zeroNums]
  | true =>
    rw [hr] at h1
    simp [c_bounds_Step, evW_reg, evW_chkr, isCst, loadS, partS, TK.agg, fieldAddrS, zeroS, storeS, setPart, splice, endS, resS, fieldS, cfgC, h1, numsC]

end Go.Proofs.YtomlbmbgocmiiaaGreatDoor

/-
  Walks of the seat's functions: Bg.
-/
set_option linter.unusedVariables false
set_option linter.unusedSimpArgs false
set_option maxRecDepth 100000
namespace Go.Proofs.YtomlbmbgocmiiaaGreatDoor
open Go.Proofs.YtomlbmbgocmiiaaGreatDoor.Sh
/-! bounds: whether the numbers fit. -/
def anyAt (c : Cfg) : Option Nat := (List.range c.parts.length).find? (slotsBad c)
theorem anySlots_at (c : Cfg) : anySlots c = (anyAt c).isSome := by
  unfold anySlots anyAt
  rw [Bool.eq_iff_iff, List.any_eq_true, List.find?_isSome]
theorem right_facts {c : Cfg} (h : rightC c = true) : 1 ≤ c.parts.length ∧ c.parts.length ≤ 6 ∧ c.links.length ≤ 10 := by
  have h1 := checkErr_none (checkG_zero (by simpa [rightC] using h))
  have h2 := partsErr_none h1.1
  exact ⟨h2.1, h2.2.1, (linksErr_none h1.2).1⟩
theorem nodesAt_in {c : Cfg} {p : Nat} (h : p < c.parts.length) : nodesAt c p = c.parts[p].nodes := by simp [nodesAt, h]
theorem Ends_len {P L : SV} {c : Cfg} (hP : CfgP c P L) (hr : rightC c = true) (part : Int) :
    ∃ y l', (∀ get, callP (PCw ES) get n_plan_Ends [.agg (cfgC c P L), .int .i64 part] = some y) ∧ Ports y l' ∧ l'.length = portsN c.links part := by
  have he : checkErr c = none := checkG_zero (by simpa [rightC] using hr)
  have hok := portsOk_of he part
  have hn := nodesAt_le he part
  have h12 := endsL_len hok hn.1 hn.2
  have hl := (linksErr_none (checkErr_none he).2).1
  obtain ⟨y, l', h1, h2, h3, h4, h5⟩ := Ends_c hP part hl h12 (fun p hp => by
    have := (hok.ends (Nat.le_refl _)).2 p hp
    unfold inMany at this
    omega)
  refine ⟨y, l', h1, h2, ?_⟩
  rw [h3.length_eq]
  have := endsL_count (part := part) hok.ab c.links.length (Nat.le_refl _)
  rw [List.take_length] at this
  exact this
/-- Numbers of slots that are not too great. -/
structure SlotsOk (c : Cfg) : Prop where
  w : 0 ≤ c.window ∧ c.window ≤ 20000
  s : 0 ≤ c.slot ∧ c.slot ≤ 1000000
  l : 0 ≤ c.lead ∧ c.lead ≤ 1000000
theorem slots_nums {c : Cfg} (h : SlotsOk c) (hr : rightC c = true) (i : Nat) : 0 ≤ 3 * (portsN c.links i : Int) + nodesAt c i ∧ 3 * (portsN c.links i : Int) + nodesAt c i ≤ 72 ∧
    0 ≤ (3 * (portsN c.links i : Int) + nodesAt c i) * c.slot ∧ (3 * (portsN c.links i : Int) + nodesAt c i) * c.slot ≤ 72000000 := by
  have h1 := portsN_le c.links i
  have h2 := right_facts hr
  have h3 := nodesAt_le (checkG_zero (by simpa [rightC] using hr)) i
  have h4 : 0 ≤ 3 * (portsN c.links i : Int) + nodesAt c i ∧ 3 * (portsN c.links i : Int) + nodesAt c i ≤ 72 := by omega
  obtain ⟨s1, s2⟩ := h.s
  refine ⟨h4.1, h4.2, Int.mul_nonneg h4.1 s1, ?_⟩
  have := Int.mul_le_mul h4.2 s2 s1 (by omega)
  omega
set_option maxHeartbeats 4000000 in
theorem bounds_slots_c (get) {P L : SV} {c : Cfg} (hP : CfgP c P L) (hr : rightC c = true) (hs : SlotsOk c) : callP (PCw ES) get n_bounds_slots [.agg (cfgC c P L)] = some (.bool (!anySlots c)) := by
  refine callP_of (PCw_ex (fun M0 => ?_) rfl) (by simp [hP.npA])
  rw [b_bounds_slots, anySlots_at]
  have hlenp := hP.p.lenS ti_sl_api_Part
  have hf := right_facts hr
  have body : ∀ (j : Nat) (M : Mem) (hj : j < c.parts.length), M.blk M0.next = some [.agg (cfgC c P L)] → M0.next < M.next →
      evW ES n_bounds_slots c_bounds_slots_B0 ⟨h_bounds_slots_0 (.ptr M0.next 0 0) P (.int .i64 c.parts.length) (.int .i64 j), M⟩ =
        some (if slotsBad c j then (.ret, ⟨(h_bounds_slots_0 .bad .bad .bad .bad).set 2 (.bool false), (M.bump 6).set (M.next + 3) (some [encPart c.parts[j]])⟩)
          else (.normal, ⟨h_bounds_slots_0 (.ptr M0.next 0 0) P (.int .i64 c.parts.length) (.int .i64 ((j + 1 : Nat) : Int)), (M.bump 6).set (M.next + 3) (some [encPart c.parts[j]])⟩)) := by
    intro j M hj hb hlt
    have hb0 := hb
    have ha := Parts.at hP.p hj
    obtain ⟨y, l', k1, k2, k3⟩ := Ends_len hP hr j
    have hleny := k2.lenS ti_sl_api_Port
    rw [k3] at hleny
    simp only [cfgC] at hb0 k1
    have hns : ∀ k, (M0.next = M.next + k) = False := fun k => by simp; omega
    have hw : IntKind.i64.wrap ((j : Int) + 1) = (j : Int) + 1 := i64_in (by omega) (by omega)
    obtain ⟨q1, q2, q3, q4⟩ := slots_nums hs hr j
    obtain ⟨v1, v2⟩ := hs.w
    obtain ⟨l1, l2⟩ := hs.l
    have hpn := portsN_le c.links j
    have hsb : slotsBad c j = decide (c.cycle < c.lead + (3 * (portsN c.links j : Int) + nodesAt c j) * c.slot + c.window) := rfl
    rw [nodesAt_in hj] at q1 q2 q3 q4 hsb
    have w1 : IntKind.i64.wrap (3 * (portsN c.links j : Int)) = 3 * (portsN c.links j : Int) := i64_in (by omega) (by omega)
    have w2 : IntKind.i64.wrap (3 * (portsN c.links j : Int) + c.parts[j].nodes) = 3 * (portsN c.links j : Int) + c.parts[j].nodes := i64_in (by omega) (by omega)
    have w3 : IntKind.i64.wrap ((3 * (portsN c.links j : Int) + c.parts[j].nodes) * c.slot) = (3 * (portsN c.links j : Int) + c.parts[j].nodes) * c.slot := i64_in (by omega) (by omega)
    generalize hX : (3 * (portsN c.links j : Int) + c.parts[j].nodes) * c.slot = X at *
    have w4 : IntKind.i64.wrap (c.lead + X) = c.lead + X := i64_in (by omega) (by omega)
    have w5 : IntKind.i64.wrap (c.lead + X + c.window) = c.lead + X + c.window := i64_in (by omega) (by omega)
    by_cases h : c.cycle < c.lead + X + c.window
    · rw [hsb]
      simp [c_bounds_slots_B0, evW_reg, evW_chkr, isCst, loadS, partS, TK.agg, fieldAddrS, zeroS, storeS, setPart, splice, endS, resS, fieldS, h_bounds_slots_0, hj, ha, hb0, hns, k1, hleny, w1, w2, w3, hX, w4, w5, h, Nat.add_assoc]
    · rw [hsb]
      simp [c_bounds_slots_B0, evW_reg, evW_chkr, isCst, loadS, partS, TK.agg, fieldAddrS, zeroS, storeS, setPart, splice, endS, resS, fieldS, h_bounds_slots_0, hj, ha, hb0, hns, k1, hleny, w1, w2, w3, hX, w4, w5, h, hw, Nat.add_assoc]
  obtain ⟨r, g1, M', g2⟩ := loop_find (E := ES) (me := n_bounds_slots) (B := c_bounds_slots_B0) (len := c.parts.length) (T := fun j => h_bounds_slots_0 (.ptr M0.next 0 0) P (.int .i64 c.parts.length) (.int .i64 j))
    (I := fun _ M => M.blk M0.next = some [.agg (cfgC c P L)] ∧ M0.next < M.next) (p := slotsBad c)
    (Q := fun o r => ∃ M', r = match o with
      | some _ => (.ret, ⟨(h_bounds_slots_0 .bad .bad .bad .bad).set 2 (.bool false), M'⟩)
      | none => (.exit 0, ⟨(h_bounds_slots_0 (.ptr M0.next 0 0) P (.int .i64 c.parts.length) (.int .i64 c.parts.length)).set 9 (.bool false), M'⟩))
    (fun j M hj ⟨i1, i2⟩ hp => by
      have := body j M hj i1 i2
      rw [hp] at this
      have hns : ¬ (M0.next = M.next + 3) := by omega
      exact ⟨_, this, by simp [hns, i1], by simp; omega⟩)
    (fun j M hj ⟨i1, i2⟩ hp => by
      have := body j M hj i1 i2
      rw [hp] at this
      exact ⟨_, this, by simp, _, rfl⟩)
    (fun M _ => ⟨_, by simp [c_bounds_slots_B0, evW_reg, evW_chkr, isCst, loadS, partS, TK.agg, fieldAddrS, zeroS, storeS, setPart, splice, endS, resS, fieldS, h_bounds_slots_0], by simp, M, rfl⟩) ((M0.bump 2).set M0.next (some [.agg (cfgC c P L)])) ⟨by simp, by simp⟩
  have ea : (List.range c.parts.length).find? (slotsBad c) = anyAt c := rfl
  rw [ea] at g2
  simp only [cfgC] at g1
  cases hf : anyAt c with
  | none =>
    rw [hf] at g2
    subst g2
    simp [h_bounds_slots_0] at g1
    simp [c_bounds_slots, evW_reg, evW_chkr, isCst, loadS, partS, TK.agg, fieldAddrS, zeroS, storeS, setPart, splice, endS, resS, fieldS, cfgC, hlenp, c_bounds_slots_L0, g1]
  | some j =>
    rw [hf] at g2
    subst g2
    simp [h_bounds_slots_0] at g1
    simp [c_bounds_slots, evW_reg, evW_chkr, isCst, loadS, partS, TK.agg, fieldAddrS, zeroS, storeS, setPart, splice, endS, resS, fieldS, cfgC, hlenp, c_bounds_slots_L0, g1]
theorem windows_eq (c : Cfg) : windowsN c = if inB c.window (3 * edgeN c) 20000 = false then 6 else if firstF 7 [inB c.slot (2 * c.window + 1) 1000000, inB c.lead c.window 1000000] ≠ 0 then firstF 7 [inB c.slot (2 * c.window + 1) 1000000, inB c.lead c.window 1000000]
    else firstF 9 [!anySlots c, decide (jumpN c * 1000000 ≤ c.rate * c.cycle)] := by
  unfold windowsN
  by_cases h1 : c.window < 3 * edgeN c ∨ 20000 < c.window
  · have e1 : inB c.window (3 * edgeN c) 20000 = false := by simp [inB]; omega
    rw [if_pos h1, e1]
    rfl
  have e1 : inB c.window (3 * edgeN c) 20000 = true := by simp [inB]; omega
  rw [if_neg h1, e1]
  simp only [Bool.true_eq_false, if_false]
  by_cases h2 : c.slot < 2 * c.window + 1 ∨ 1000000 < c.slot
  · have e : inB c.slot (2 * c.window + 1) 1000000 = false := by simp [inB]; omega
    rw [if_pos h2, e]
    simp [firstF]
  have e2 : inB c.slot (2 * c.window + 1) 1000000 = true := by simp [inB]; omega
  rw [if_neg h2, e2]
  by_cases h3 : c.lead < c.window ∨ 1000000 < c.lead
  · have e : inB c.lead c.window 1000000 = false := by simp [inB]; omega
    rw [if_pos h3, e]
    simp [firstF]
  have e3 : inB c.lead c.window 1000000 = true := by simp [inB]; omega
  rw [if_neg h3, e3]
  cases h4 : anySlots c with
  | true => simp [firstF]
  | false =>
    by_cases h5 : c.rate * c.cycle < jumpN c * 1000000
    · have : ¬ (jumpN c * 1000000 ≤ c.rate * c.cycle) := by omega
      simp [firstF, h5, this]
    · have : jumpN c * 1000000 ≤ c.rate * c.cycle := by omega
      simp [firstF, h5, this]
theorem rc_le {c : Cfg} (h : InRange c) : 0 ≤ c.rate * c.cycle ∧ c.rate * c.cycle ≤ 400000000000 := by
  obtain ⟨a1, a2⟩ := h.cy
  obtain ⟨b1, b2⟩ := h.ra
  refine ⟨Int.mul_nonneg b1 (by omega), ?_⟩
  have := Int.mul_le_mul b2 a2 (by omega) (by omega)
  omega
set_option maxHeartbeats 4000000 in
theorem bounds_windows_c (get) {P L : SV} {c : Cfg} (hP : CfgP c P L) (hr : rightC c = true) (hin : InRange c) : callP (PCw ES) get n_bounds_windows [.agg (cfgC c P L)] = some (.int .i64 (windowsN c)) := by
  refine callP_of (PCw_ex (fun M0 => ?_) rfl) (by simp [hP.npA])
  rw [b_bounds_windows, windows_eq]
  have h1 := fun get => bounds_Reckon_c get hP hin
  have hn := hin.nums
  have he := hn.e
  have hj := hn.j
  have hrc := rc_le hin
  have w1 : IntKind.i64.wrap (2 * edgeN c + edgeN c) = 3 * edgeN c := by rw [i64_in (by omega) (by omega)]; omega
  have f1 := fun (get : Nat → Option (List SV)) (id : Nat) (h : get id = some [.bool (inB c.window (3 * edgeN c) 20000)]) => bounds_first_own [inB c.window (3 * edgeN c) 20000] (get := get) (id := id) h (by simp) 6 (by decide)
  simp only [List.length_cons, List.length_nil] at f1
  have g0 : ∀ a : SV, (SV.agg (numsC c)).cells.length = 7 := fun _ => rfl
  simp only [cfgC] at h1
  cases hb1 : inB c.window (3 * edgeN c) 20000 with
  | false =>
    rw [hb1] at f1
    simp [firstF] at f1
    simp [c_bounds_windows, evW_reg, evW_chkr, isCst, loadS, partS, TK.agg, fieldAddrS, zeroS, storeS, setPart, splice, endS, resS, fieldS, cfgC, h1, numsC, w1, hb1, f1, bldSl, buildRow, Nat.add_assoc]
  | true =>
    rw [hb1] at f1
    simp [firstF] at f1
    have hwin : 3 * edgeN c ≤ c.window ∧ c.window ≤ 20000 := by simpa [inB] using hb1
    have w2 : IntKind.i64.wrap (2 * c.window) = 2 * c.window := i64_in (by omega) (by omega)
    have w3 : IntKind.i64.wrap (2 * c.window + 1) = 2 * c.window + 1 := i64_in (by omega) (by omega)
    have f2 := fun (get : Nat → Option (List SV)) (id : Nat) (h : get id = some [.bool (inB c.slot (2 * c.window + 1) 1000000), .bool (inB c.lead c.window 1000000)]) =>
      bounds_first_own [inB c.slot (2 * c.window + 1) 1000000, inB c.lead c.window 1000000] (get := get) (id := id) h (by simp) 7 (by decide)
    simp only [List.length_cons, List.length_nil] at f2
    by_cases hf2 : firstF 7 [inB c.slot (2 * c.window + 1) 1000000, inB c.lead c.window 1000000] = 0
    · have hs : SlotsOk c := by
        have h4 : inB c.slot (2 * c.window + 1) 1000000 = true ∧ inB c.lead c.window 1000000 = true := by
          revert hf2
          cases inB c.slot (2 * c.window + 1) 1000000 <;> cases inB c.lead c.window 1000000 <;> simp [firstF]
        obtain ⟨h4, h5⟩ := h4
        simp only [inB, decide_eq_true_eq] at h4 h5
        exact ⟨by omega, by omega, by omega⟩
      have h2 := fun get => bounds_slots_c get hP hr hs
      simp only [cfgC] at h2
      have w4 : IntKind.i64.wrap (c.rate * c.cycle) = c.rate * c.cycle := i64_in (by omega) (by omega)
      have w5 : IntKind.i64.wrap (jumpN c * 1000000) = jumpN c * 1000000 := by unfold jumpN; exact i64_in (by omega) (by omega)
      have f3 := fun (get : Nat → Option (List SV)) (id : Nat) (h : get id = some [.bool (!anySlots c), .bool (decide (jumpN c * 1000000 ≤ c.rate * c.cycle))]) =>
        bounds_first_own [!anySlots c, decide (jumpN c * 1000000 ≤ c.rate * c.cycle)] (get := get) (id := id) h (by simp) 9 (by decide)
      simp only [List.length_cons, List.length_nil] at f3
      rw [hf2] at f2
      simp [c_bounds_windows, evW_reg, evW_chkr, isCst, loadS, partS, TK.agg, fieldAddrS, zeroS, storeS, setPart, splice, endS, resS, fieldS, cfgC, h1, h2, numsC, w1, w2, w3, w4, w5, hb1, f1, f2, f3, hf2, bldSl, buildRow, Nat.add_assoc]
    · generalize firstF 7 [inB c.slot (2 * c.window + 1) 1000000, inB c.lead c.window 1000000] = v at *
      simp [c_bounds_windows, evW_reg, evW_chkr, isCst, loadS, partS, TK.agg, fieldAddrS, zeroS, storeS, setPart, splice, endS, resS, fieldS, cfgC, h1, numsC, w1, w2, w3, hb1, f1, f2, hf2, bldSl, buildRow, Nat.add_assoc]
theorem waits_eq (c : Cfg) : waitsN c = if firstF 11 [decide ((c.parts.length - 1) * (c.lost + 1) + 1 ≤ c.ages), inB c.listen (leastN c) 60000, inB c.span (leastN c) 60000] ≠ 0
    then firstF 11 [decide ((c.parts.length - 1) * (c.lost + 1) + 1 ≤ c.ages), inB c.listen (leastN c) 60000, inB c.span (leastN c) 60000]
    else firstF 14 [decide (c.listen + c.parts.length * c.span ≤ 60000), inB c.room (c.parts.length + 2) 64] := by
  unfold waitsN
  by_cases h1 : c.ages < (c.parts.length - 1) * (c.lost + 1) + 1
  · have e : decide ((c.parts.length - 1) * (c.lost + 1) + 1 ≤ c.ages) = false := by simp; omega
    rw [if_pos h1, e]
    simp [firstF]
  have e1 : decide ((c.parts.length - 1) * (c.lost + 1) + 1 ≤ c.ages) = true := by simp; omega
  rw [if_neg h1, e1]
  by_cases h2 : c.listen < leastN c ∨ 60000 < c.listen
  · have e : inB c.listen (leastN c) 60000 = false := by simp [inB]; omega
    rw [if_pos h2, e]
    simp [firstF]
  have e2 : inB c.listen (leastN c) 60000 = true := by simp [inB]; omega
  rw [if_neg h2, e2]
  by_cases h3 : c.span < leastN c ∨ 60000 < c.span
  · have e : inB c.span (leastN c) 60000 = false := by simp [inB]; omega
    rw [if_pos h3, e]
    simp [firstF]
  have e3 : inB c.span (leastN c) 60000 = true := by simp [inB]; omega
  rw [if_neg h3, e3]
  by_cases h4 : 60000 < c.listen + c.parts.length * c.span
  · have e : decide (c.listen + c.parts.length * c.span ≤ 60000) = false := by simp; omega
    rw [if_pos h4, e]
    simp [firstF]
  have e4 : decide (c.listen + c.parts.length * c.span ≤ 60000) = true := by simp; omega
  rw [if_neg h4, e4]
  by_cases h5 : c.room < c.parts.length + 2 ∨ 64 < c.room
  · have e : inB c.room (c.parts.length + 2) 64 = false := by simp [inB]; omega
    rw [if_pos h5, e]
    simp [firstF]
  have e5 : inB c.room (c.parts.length + 2) 64 = true := by simp [inB]; omega
  rw [if_neg h5, e5]
  simp [firstF]
set_option maxHeartbeats 4000000 in
theorem bounds_waits_c (get) {P L : SV} {c : Cfg} (hP : CfgP c P L) (hr : rightC c = true) (hin : InRange c) : callP (PCw ES) get n_bounds_waits [.agg (cfgC c P L)] = some (.int .i64 (waitsN c)) := by
  refine callP_of (PCw_ex (fun M0 => ?_) rfl) (by simp [hP.npA])
  rw [b_bounds_waits, waits_eq]
  have hlenp := hP.p.lenS ti_sl_api_Part
  have hf := right_facts hr
  have hlo := hin.lo
  obtain ⟨k, hk⟩ : ∃ k : Nat, c.lost = k := ⟨c.lost.toNat, by omega⟩
  have hm1 : (c.parts.length : Int) * (c.lost + 1) = ((c.parts.length * (k + 1) : Nat) : Int) := by rw [hk]; push_cast; rfl
  have hm2 : ((c.parts.length : Int) - 1) * (c.lost + 1) = (((c.parts.length - 1) * (k + 1) : Nat) : Int) := by rw [hk]; push_cast; rw [Int.natCast_sub hf.1]; rfl
  have b1 : c.parts.length * (k + 1) ≤ 6 * 21 := Nat.mul_le_mul hf.2.1 (by omega)
  have b2 : (c.parts.length - 1) * (k + 1) ≤ 5 * 21 := Nat.mul_le_mul (by omega) (by omega)
  have w1 : IntKind.i64.wrap (c.lost + 1) = c.lost + 1 := i64_in (by omega) (by omega)
  have w2 : IntKind.i64.wrap (c.parts.length * (c.lost + 1)) = c.parts.length * (c.lost + 1) := i64_in (by omega) (by omega)
  have w3 : IntKind.i64.wrap (c.parts.length * (c.lost + 1) + 2) = leastN c := i64_in (by omega) (by omega)
  have w4 : IntKind.i64.wrap ((c.parts.length : Int) - 1) = (c.parts.length : Int) - 1 := i64_in (by omega) (by omega)
  have w5 : IntKind.i64.wrap (((c.parts.length : Int) - 1) * (c.lost + 1)) = ((c.parts.length : Int) - 1) * (c.lost + 1) := i64_in (by omega) (by omega)
  have w6 : IntKind.i64.wrap (((c.parts.length : Int) - 1) * (c.lost + 1) + 1) = ((c.parts.length : Int) - 1) * (c.lost + 1) + 1 := i64_in (by omega) (by omega)
  have w7 : IntKind.i64.wrap ((c.parts.length : Int) + 2) = (c.parts.length : Int) + 2 := i64_in (by omega) (by omega)
  have hle : 0 ≤ leastN c := by unfold leastN; omega
  generalize hA : ((c.parts.length : Int) - 1) * (c.lost + 1) + 1 = A at *
  have f1 := fun (get : Nat → Option (List SV)) (id : Nat) (h : get id = some [.bool (decide (A ≤ c.ages)), .bool (inB c.listen (leastN c) 60000), .bool (inB c.span (leastN c) 60000)]) =>
    bounds_first_own [decide (A ≤ c.ages), inB c.listen (leastN c) 60000, inB c.span (leastN c) 60000] (get := get) (id := id) h (by simp) 11 (by decide)
  simp only [List.length_cons, List.length_nil] at f1
  by_cases hf1 : firstF 11 [decide (A ≤ c.ages), inB c.listen (leastN c) 60000, inB c.span (leastN c) 60000] = 0
  · have h4 : inB c.listen (leastN c) 60000 = true ∧ inB c.span (leastN c) 60000 = true := by
      revert hf1
      cases decide (A ≤ c.ages) <;> cases inB c.listen (leastN c) 60000 <;> cases inB c.span (leastN c) 60000 <;> simp [firstF]
    obtain ⟨h4, h5⟩ := h4
    simp only [inB, decide_eq_true_eq] at h4 h5
    have hm3 : 0 ≤ (c.parts.length : Int) * c.span ∧ (c.parts.length : Int) * c.span ≤ 6 * 60000 := by
      refine ⟨Int.mul_nonneg (by omega) (by omega), Int.mul_le_mul (by omega) (by omega) (by omega) (by omega)⟩
    have w8 : IntKind.i64.wrap ((c.parts.length : Int) * c.span) = (c.parts.length : Int) * c.span := i64_in (by omega) (by omega)
    have w9 : IntKind.i64.wrap (c.listen + (c.parts.length : Int) * c.span) = c.listen + (c.parts.length : Int) * c.span := i64_in (by omega) (by omega)
    have f3 := fun (get : Nat → Option (List SV)) (id : Nat) (h : get id = some [.bool (decide (c.listen + c.parts.length * c.span ≤ 60000)), .bool (inB c.room (c.parts.length + 2) 64)]) =>
      bounds_first_own [decide (c.listen + c.parts.length * c.span ≤ 60000), inB c.room (c.parts.length + 2) 64] (get := get) (id := id) h (by simp) 14 (by decide)
    simp only [List.length_cons, List.length_nil] at f3
    rw [hf1] at f1
    simp [c_bounds_waits, evW_reg, evW_chkr, isCst, loadS, partS, TK.agg, fieldAddrS, zeroS, storeS, setPart, splice, endS, resS, fieldS, cfgC, hlenp, w1, w2, w3, w4, w5, w6, w7, w8, w9, hA, f1, f3, hf1, bldSl, buildRow, Nat.add_assoc]
  · generalize firstF 11 [decide (A ≤ c.ages), inB c.listen (leastN c) 60000, inB c.span (leastN c) 60000] = v at *
    simp [c_bounds_waits, evW_reg, evW_chkr, isCst, loadS, partS, TK.agg, fieldAddrS, zeroS, storeS, setPart, splice, endS, resS, fieldS, cfgC, hlenp, w1, w2, w3, w4, w5, w6, w7, hA, f1, hf1, bldSl, buildRow, Nat.add_assoc]

end Go.Proofs.YtomlbmbgocmiiaaGreatDoor
