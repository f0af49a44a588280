/-
  Walks of the seat's functions: Pl.
-/
import Derived.Test.YtljjmdcdlcefmaaGreatDoorEbMa
import Derived.Test.YtljjmdcdlcefmaaGreatDoorShMb
import Derived.Test.YtljjmdcdlcefmaaGreatDoorLCf
set_option linter.unusedVariables false
set_option linter.unusedSimpArgs false
set_option maxRecDepth 100000
namespace Go.Proofs.YtljjmdcdlcefmaaGreatDoor
open Go.Proofs.YtljjmdcdlcefmaaGreatDoor.Sh
/-! plan, up to its links. -/
def inMany (n many : Int) : Prop := 0 ≤ n ∧ n < many
instance (n m : Int) : Decidable (inMany n m) := inferInstanceAs (Decidable (_ ∧ _))
def linkTaken (l : Link) (part node : Int) : Bool := decide (l.a = part ∧ (l.pa0 = node ∨ l.pa1 = node)) || decide (l.b = part ∧ (l.pb0 = node ∨ l.pb1 = node))
def takenL (ls : List Link) (part node : Int) : Bool := ls.any fun l => linkTaken l part node
def nodesAt (c : Cfg) (part : Int) : Int := (c.parts[part.toNat]?.map Part.nodes).getD 0
def portBad (c : Cfg) (i : Nat) (part n : Int) : Bool := !decide (inMany n (nodesAt c part)) || takenL (c.links.take i) part n
def endBad (c : Cfg) (i : Nat) (part p0 p1 : Int) : Bool := decide (p0 = p1) || portBad c i part p0 || portBad c i part p1
def badEnds (c : Cfg) (l : Link) : Bool := !decide (inMany l.a c.parts.length) || !decide (inMany l.b c.parts.length) || decide (l.b ≤ l.a)
def twice (ls : List Link) (l : Link) : Bool := ls.any fun x => decide (x.a = l.a ∧ x.b = l.b)
/-- What is wrong with a link; 0: nothing. -/
def linkErr (c : Cfg) (i : Nat) (l : Link) : Int :=
  if badEnds c l then 10 else if twice (c.links.take i) l then 11 else if endBad c i l.a l.pa0 l.pa1 || endBad c i l.b l.pb0 l.pb1 then 12 else 0
def partBad (p : Part) : Bool := decide (p.nodes < 1 ∨ 12 < p.nodes ∨ p.faults < 0 ∨ 3 < p.faults ∨ p.nodes < 3 * p.faults + 1)
/-- What is wrong first with parts, or with links; and of which. -/
def partsErr (c : Cfg) : Option (Int × Int) :=
  if c.parts.length < 1 ∨ 6 < c.parts.length then some (7, 0)
  else match (List.range c.parts.length).find? (fun j => (c.parts[j]?.map partBad).getD false) with
    | some i => some (8, (i : Int))
    | none => none
def linksErr (c : Cfg) : Option (Int × Int) :=
  if 10 < c.links.length then some (9, 0)
  else match (List.range c.links.length).find? (fun j => (c.links[j]?.map fun l => linkErr c j l != 0).getD false) with
    | some i => some ((c.links[i]?.map fun l => linkErr c i l).getD 0, (i : Int))
    | none => none
/-- An error of plan's make. -/
def errSV (e at' : Int) : SV := .iface T_p_plan_fault (.rptr [.agg [.int .i64 at', .iface T_plan_code (.int .i64 e)]] 0 0 true)
def errO : Option (Int × Int) → SV
  | some (e, i) => errSV e i
  | none => .nili
theorem errO_pv (o : Option (Int × Int)) : pv (errO o) = true := by cases o <;> rfl
@[simp] theorem plan_index_c (get) (n m : Int) : callP (PCw ES) get n_plan_index [.int .i64 n, .int .i64 m] = some (.bool (decide (inMany n m))) := by
  refine callP_of (PCw_ex (fun M => ?_) rfl) rfl
  rw [b_plan_index]
  by_cases h : 0 ≤ n <;> simp [c_plan_index, evW_reg, evW_chkr, evW_chfr, isCst, loadS, partS, TK.agg, fieldAddrS, zeroS, storeS, setPart, splice, endS, resS, fieldS, inMany, h]
theorem plan_wrong_ok (e i : Int) : PCw ES n_plan_wrong [.int .i64 e, .int .i64 i] = some (errSV e i) := by
  have h : ICw ES n_plan_wrong [.int .i64 e, .int .i64 i] .empty = some (.iface T_p_plan_fault (.ptr 4 0 0), (Mem.bump .empty 7).set 4 (some [.agg [.int .i64 i, .iface T_plan_code (.int .i64 e)]])) := by
    rw [b_plan_wrong]
    simp [c_plan_wrong, evW_reg, evW_chkr, evW_chfr, isCst, loadS, partS, TK.agg, fieldAddrS, zeroS, storeS, setPart, splice, endS, resS, fieldS, makeIS, bldS, placesOf, buildS]
  exact PCw_pic h (by rfl) rfl
@[simp] theorem plan_wrong_c (get) (e i : Int) : callP (PCw ES) get n_plan_wrong [.int .i64 e, .int .i64 i] = some (errSV e i) := callP_of (plan_wrong_ok e i) rfl
/-- A side of a link: its part, its ports. -/
def endOf (l : Link) (side : Int) : Int × Int × Int := if side = 0 then (l.a, l.pa0, l.pa1) else (l.b, l.pb0, l.pb1)
theorem plan_end_ok (l : Link) (s : Int) : PCw ES n_plan_end [encLink l, .int .i64 s] = some (.tup [.int .i64 (endOf l s).1, .agg [.int .i64 (endOf l s).2.1, .int .i64 (endOf l s).2.2]]) := by
  refine PCw_ex (fun M => ?_) rfl
  rw [b_plan_end]
  by_cases h : s = 0 <;> simp [c_plan_end, evW_reg, evW_chkr, evW_chfr, isCst, loadS, partS, TK.agg, fieldAddrS, zeroS, storeS, setPart, splice, endS, resS, fieldS, endOf, h]
theorem plan_end_c (get) (l : Link) (s : Int) : callP (PCw ES) get n_plan_end [encLink l, .int .i64 s] = some (.tup [.int .i64 (endOf l s).1, .agg [.int .i64 (endOf l s).2.1, .int .i64 (endOf l s).2.2]]) :=
  callP_of (plan_end_ok l s) (by simp [encLink_np])
theorem plan_taken_1_ok (l : Link) (part node : Int) (s1 s2 : Bool) : PCw ES n_plan_taken_1 [encLink l, .rptr [.int .i64 part] 0 0 s1, .rptr [.int .i64 node] 0 0 s2] = some (.bool (linkTaken l part node)) := by
  refine PCw_ex (fun M => ?_) rfl
  rw [b_plan_taken_1]
  have hl := fun p M0 hI => loop_find (E := ES) (me := n_plan_taken_1) (B := c_plan_taken_1_B0) (len := 2) (T := fun j => h_plan_taken_1_0 (.rptr [.int .i64 part] 0 0 s1) (.rptr [.int .i64 node] 0 0 s2) (.ptr p 0 0) (.int .i64 j))
    (I := fun _ M => M.blk p = some [encLink l] ∧ p < M.next) (p := fun j => decide ((endOf l j).1 = part ∧ ((endOf l j).2.1 = node ∨ (endOf l j).2.2 = node)))
    (Q := fun o r => ∃ M', r = match o with
      | some j => (.ret, ⟨(h_plan_taken_1_0 .bad .bad .bad .bad).set 4 (.bool true), M'⟩)
      | none => (.exit 0, ⟨(h_plan_taken_1_0 (.rptr [.int .i64 part] 0 0 s1) (.rptr [.int .i64 node] 0 0 s2) (.ptr p 0 0) (.int .i64 2)).set 9 (.bool false), M'⟩))
    (fun j M hj ⟨hb, hlt⟩ hpj => by
      have hw : IntKind.i64.wrap ((j : Int) + 1) = (j : Int) + 1 := i64_in (by omega) (by omega)
      have hne : ∀ k, (p = M.next + k) = False := fun k => by simp; omega
      have hj' : (j : Int) < 2 := by omega
      have hc := fun get => plan_end_c get l j
      generalize endOf l j = e at hpj hc
      obtain ⟨e1, e2, e3⟩ := e
      simp at hpj
      by_cases h1 : e1 = part
      · obtain ⟨h2, h3⟩ := hpj h1
        simp [c_plan_taken_1_B0, evW_reg, evW_chkr, evW_chfr, isCst, loadS, partS, TK.agg, fieldAddrS, zeroS, storeS, setPart, splice, endS, resS, fieldS, h_plan_taken_1_0, hj, hj', hb, hc, hw, hne, h1, h2, h3]
        omega
      · simp [c_plan_taken_1_B0, evW_reg, evW_chkr, evW_chfr, isCst, loadS, partS, TK.agg, fieldAddrS, zeroS, storeS, setPart, splice, endS, resS, fieldS, h_plan_taken_1_0, hj, hj', hb, hc, hw, hne, h1]
        omega)
    (fun j M hj ⟨hb, hlt⟩ hpj => by
      have hne : ∀ k, (p = M.next + k) = False := fun k => by simp; omega
      have hj' : (j : Int) < 2 := by omega
      have hc := fun get => plan_end_c get l j
      generalize endOf l j = e at hpj hc
      obtain ⟨e1, e2, e3⟩ := e
      simp at hpj
      obtain ⟨h1, h2⟩ := hpj
      by_cases h3 : e2 = node
      · simp [c_plan_taken_1_B0, evW_reg, evW_chkr, evW_chfr, isCst, loadS, partS, TK.agg, fieldAddrS, zeroS, storeS, setPart, splice, endS, resS, fieldS, h_plan_taken_1_0, hj, hj', hb, hc, hne, h1, h3]
      · have h4 : e3 = node := by rcases h2 with h | h <;> first | exact absurd h h3 | exact h
        simp [c_plan_taken_1_B0, evW_reg, evW_chkr, evW_chfr, isCst, loadS, partS, TK.agg, fieldAddrS, zeroS, storeS, setPart, splice, endS, resS, fieldS, h_plan_taken_1_0, hj, hj', hb, hc, hne, h1, h3, h4])
    (fun M _ => by simp [c_plan_taken_1_B0, evW_reg, evW_chkr, evW_chfr, isCst, loadS, partS, TK.agg, fieldAddrS, zeroS, storeS, setPart, splice, endS, resS, fieldS, h_plan_taken_1_0]) M0 hI
  obtain ⟨r, h1, M', h2⟩ := hl M.next ((M.bump 2).set M.next (some [encLink l])) (by simp)
  have e : linkTaken l part node = ((List.range 2).find? (fun j : Nat => decide ((endOf l j).1 = part ∧ ((endOf l j).2.1 = node ∨ (endOf l j).2.2 = node)))).isSome := by
    simp [linkTaken, endOf, List.range, List.range.loop, List.find?]
    split <;> simp_all
    split <;> simp_all
  rw [e]
  cases hf : (List.range 2).find? (fun j : Nat => decide ((endOf l j).1 = part ∧ ((endOf l j).2.1 = node ∨ (endOf l j).2.2 = node))) with
  | none =>
    rw [hf] at h2
    subst h2
    simp [h_plan_taken_1_0] at h1
    simp [c_plan_taken_1, evW_reg, evW_chkr, evW_chfr, isCst, loadS, partS, TK.agg, fieldAddrS, zeroS, storeS, setPart, splice, endS, resS, fieldS, c_plan_taken_1_L0, h1]
  | some j =>
    rw [hf] at h2
    subst h2
    simp [h_plan_taken_1_0] at h1
    simp [c_plan_taken_1, evW_reg, evW_chkr, evW_chfr, isCst, loadS, partS, TK.agg, fieldAddrS, zeroS, storeS, setPart, splice, endS, resS, fieldS, c_plan_taken_1_L0, h1]
theorem plan_taken_ok {x : SV} {ls : List Link} (hx : Links x ls) (hb : ls.length < 4611686018427387904) (part node : Int) : PCw ES n_plan_taken [x, .int .i64 part, .int .i64 node] = some (.bool (takenL ls part node)) := by
  refine PCw_ex (fun M => ?_) rfl
  rw [b_plan_taken]
  have hc : ∀ (get : Nat → Option (List SV)) a b, get a = some [.int .i64 part] → get b = some [.int .i64 node] →
      callP (PCw ES) get n_slices_ContainsFunc_sl_api_Link_api_Link [x, .fn n_plan_taken_1 [] [.ptr a 0 0, .ptr b 0 0]] = some (.bool (takenL ls part node)) := by
    intro get a b ha hb'
    have p1 : pic get false 11 (.ptr a 0 0) = some (.rptr [.int .i64 part] 0 0 false) := pic_ptr ha (by simp; rfl)
    have p2 : pic get false 11 (.ptr b 0 0) = some (.rptr [.int .i64 node] 0 0 false) := pic_ptr hb' (by simp; rfl)
    rw [callP_pic (ys := [x, .fn n_plan_taken_1 [] [.rptr [.int .i64 part] 0 0 false, .rptr [.int .i64 node] 0 0 false]])]
    · exact slices_ContainsFunc_sl_api_Link_api_Link_ok elmLink ti_api_Link hx hb (npF (by rfl)) (fun l => linkTaken l part node) (fun get y v hy _ => by
        subst hy
        exact callP_of (plan_taken_1_ok v part node false false) (by simp [encLink_np])) rfl
    · have q : pic get false picDepth (.fn n_plan_taken_1 [] [.ptr a 0 0, .ptr b 0 0]) = some (.fn n_plan_taken_1 [] [.rptr [.int .i64 part] 0 0 false, .rptr [.int .i64 node] 0 0 false]) := pic_fn (by simp [p1, p2]) rfl
      simp [pic_np hx.np12, q]
  simp [c_plan_taken, evW_reg, evW_chkr, evW_chfr, isCst, loadS, partS, TK.agg, fieldAddrS, zeroS, storeS, setPart, splice, endS, resS, fieldS, hc]
theorem plan_taken_c (get) {x : SV} {ls : List Link} (hx : Links x ls) (hb : ls.length < 4611686018427387904) (part node : Int) : callP (PCw ES) get n_plan_taken [x, .int .i64 part, .int .i64 node] = some (.bool (takenL ls part node)) :=
  callP_of (plan_taken_ok hx hb part node) (by simp [hx.np12])
theorem plan_links_1_ok (x l : Link) (s : Bool) : PCw ES n_plan_links_1 [encLink x, .rptr [encLink l] 0 0 s] = some (.bool (decide (x.a = l.a ∧ x.b = l.b))) := by
  refine PCw_ex (fun M => ?_) rfl
  rw [b_plan_links_1]
  by_cases h : x.a = l.a <;> simp [c_plan_links_1, evW_reg, evW_chkr, evW_chfr, isCst, loadS, partS, TK.agg, fieldAddrS, zeroS, storeS, setPart, splice, endS, resS, fieldS, h]

end Go.Proofs.YtljjmdcdlcefmaaGreatDoor
