/-
  Walks of the seat's functions: Pd.
-/
import Derived.Test.YtbdliphlolajaaaDoorEb2
import Derived.Test.YtbdliphlolajaaaDoorShSv
import Derived.Test.YtbdliphlolajaaaDoorLMa
import Derived.Test.YtbdliphlolajaaaDoorShSw
import Derived.Test.YtbdliphlolajaaaDoorEr
import Derived.Test.YtbdliphlolajaaaDoorEs
import Derived.Test.YtbdliphlolajaaaDoorLWc
import Derived.Test.YtbdliphlolajaaaDoorLMb
set_option linter.unusedVariables false
set_option linter.unusedSimpArgs false
set_option maxRecDepth 100000
namespace Go.Proofs.YtbdliphlolajaaaDoor
open Go.Proofs.YtbdliphlolajaaaDoor.Sh
/-! errors.As and errors.Is: what the shadow says of them holds (a seat without bounds). -/
theorem entersAs : Enters ES.P n_errors_As := by
  refine ⟨_, Tryd.func22, by rfl, ?_⟩
  exact of_decide_eq_true (by kernel_rfl)
theorem entersIs : Enters ES.P n_errors_Is := by
  refine ⟨_, Tryd.func23, by rfl, ?_⟩
  exact of_decide_eq_true (by kernel_rfl)
theorem asPairs_cases {t u : Nat} (h : asPairs.contains (t, u) = true) : t = T_p_plan_fault ∧ u = T_p_p_plan_fault := by
  simp only [asPairs, List.contains_cons, List.contains_nil, Bool.or_false, beq_iff_eq, Prod.mk.injEq] at h
  exact h
theorem below4 (w : World) (a b c d : Obj) : RowKit.Below w.heap.size w ((((w.alloc a).alloc b).alloc c).alloc d) := by
  have h := RowKit.Below.refl w.heap.size w
  exact ((((h.alloc (Nat.le_refl _) a).alloc (by simp) b).alloc (by simp; omega) c).alloc (by simp; omega) d)
theorem as_ok {f : Nat} (hf : f = n_errors_As) : ICok ES (fun f' args M => if f' = f then prim_errors_As args M else none) := by
  subst hf
  intro f' args M r M' h
  simp only at h
  split at h
  case isFalse => cases h
  rename_i hf
  subst hf
  unfold prim_errors_As at h
  split at h
  · simp only [Option.some.injEq, Prod.mk.injEq] at h
    obtain ⟨rfl, rfl⟩ := h
    refine ⟨entersAs, Nat.le_refl _, fun g w fr args' hM hfr hargs => ?_⟩
    obtain ⟨u, v, rfl, h1, h2⟩ := hargs.two_inv
    cases h1
    refine (as_nil v w).mono ?_
    rintro e w' ⟨rfl, rfl⟩
    exact CallPost.same hM hfr (.bool false)
  · rename_i t items i o st u id
    split at h
    case isFalse => cases h
    rename_i hp
    split at h
    case h_2 => cases h
    rename_i y hy
    split at h
    case isFalse => cases h
    rename_i hy1
    simp only [Option.some.injEq, Prod.mk.injEq] at h
    obtain ⟨rfl, rfl⟩ := h
    refine ⟨entersAs, Nat.le_refl _, fun g w fr args' hM hfr hargs => ?_⟩
    obtain ⟨u', v', rfl, h1, h2⟩ := hargs.two_inv
    cases h1 with
    | iface _ _ e' hx' he =>
    cases h2 with
    | iface _ _ p' hx2 hp' =>
    cases hp' with
    | ptr _ _ _ b hown =>
    have hraw := (hM.raw 0 handleV rfl).2
    have fin : ∀ w4, RowKit.Below w.heap.size w w4 → CallPost ES g w M (M.set id (some [.rptr items i o st])) (.bool true) (.returned (.bool true)) (w4.setCell ⟨b, 0, none⟩ e') := by
      intro w4 hb
      obtain ⟨_, _, q3, q4⟩ := hM.set1 hb hy hown hy1 rfl rfl he
      exact ⟨_, g, rfl, q3, q4.weaken hfr, .bool true, fun _ _ => rfl⟩
    obtain ⟨⟨old, hold⟩, hfz, _, _⟩ := hM.set1 (RowKit.Below.refl _ _) hy hown hy1 rfl rfl he
    have e0 : 0 * g.esz id + 0 = 0 := by omega
    rw [e0]
    cases he with
    | rptr _ _ _ _ b2 start esz rv hu hc hr =>
    obtain ⟨rfl, rfl⟩ := asPairs_cases hp
    refine (asP_as_hit _ _ old w hraw hold hfz).mono ?_
    rintro e w' ⟨rfl, rfl⟩
    exact fin _ (below4 _ _ _ _ _)
  · cases h
theorem is_ok {f : Nat} (hf : f = n_errors_Is) : ICok ES (fun f' args M => if f' = f then prim_errors_Is args M else none) := by
  subst hf
  intro f' args M r M' h
  simp only at h
  split at h
  case isFalse => cases h
  rename_i hf
  subst hf
  unfold prim_errors_Is at h
  split at h
  case h_2 => cases h
  rename_i t n0 c x st c' y
  have cells : ∀ {g : Gh} {w : World} {v : Value}, VR g w (.rptr [.agg [.int .i64 n0, .iface c x]] 0 0 st) v → ∃ b o, v = .pointer (some ⟨b, o, none⟩) ∧ ∃ u, w.cell? ⟨b, o + 1, none⟩ = some (.iface c u) ∧ VR g w x u ∧ ∀ z, g.sent c = some z → u = z := by
    intro g w v hv
    cases hv with
    | rptr _ _ _ _ b start esz rv hu hc hr =>
    refine ⟨b, start + 0 * esz + 0, rfl, ?_⟩
    obtain ⟨_, _, h2⟩ := hc 1 (.iface c x) rfl
    have h3 := hr 1 (.iface c x) rfl
    generalize rv 1 = z at h2 h3
    cases h3 with
    | iface _ _ u hx hu' =>
    exact ⟨u, by simpa using h2, hu', hx⟩
  split at h
  · rename_i hc
    obtain ⟨rfl, rfl, rfl⟩ := hc
    split at h
    case h_2 => cases h
    rename_i m n
    simp only [Option.some.injEq, Prod.mk.injEq] at h
    obtain ⟨rfl, rfl⟩ := h
    refine ⟨entersIs, Nat.le_refl _, fun g w fr args' hM hfr hargs => ?_⟩
    obtain ⟨u', v', rfl, h1, h2⟩ := hargs.two_inv
    cases h1 with
    | iface _ _ e' hx' he =>
    cases h2 with
    | iface _ _ p' hx2 hp' =>
    obtain rfl := hp'.int_inv
    obtain ⟨b, o, rfl, u, hu1, hu2, _⟩ := cells he
    obtain rfl := hu2.int_inv
    refine (isP_hit b o m n w hu1).mono ?_
    rintro e w' ⟨rfl, rfl⟩
    exact CallPost.same hM hfr (.bool _)
  · cases h
theorem primOk : PrimOk ES := by
  intro f p hp
  have hp' : primOf f = some p := hp
  unfold primOf at hp'
  split at hp'
  · rename_i hf
    simp only [Option.some.injEq] at hp'
    subst hp'
    exact as_ok hf
  split at hp'
  · rename_i hf
    simp only [Option.some.injEq] at hp'
    subst hp'
    exact is_ok hf
  · cases hp'

end Go.Proofs.YtbdliphlolajaaaDoor

/-
  Walks of the seat's functions: Wa.
-/
set_option linter.unusedVariables false
set_option linter.unusedSimpArgs false
set_option maxRecDepth 100000
namespace Go.Proofs.YtbdliphlolajaaaDoor
open Go.Proofs.YtbdliphlolajaaaDoor.Sh
/-! The law PlanChecks. -/
theorem l5_alive_ok : PCw ES n_l5_alive [] = some (.bool true) := PCw_closed 200 (by kernel_rfl)
@[simp] theorem l5_alive_c (get) : callP (PCw ES) get n_l5_alive [] = some (.bool true) := callP_of l5_alive_ok rfl
@[simp] theorem l5_num_c (get) (n : Int) : callP (PCw ES) get n_l5_num [.int .i64 n] = some (.int .i64 n) := by
  refine callP_of (PCw_ex (fun M => ?_) rfl) rfl
  rw [b_l5_num]
  simp [c_l5_num, evW_reg, evW_chkr, isCst, loadS, partS, TK.agg, fieldAddrS, zeroS, storeS, setPart, splice, endS, resS, fieldS]
def smallC (c : Cfg) : Prop := c.parts.length ≤ 20 ∧ c.links.length ≤ 30
instance (c : Cfg) : Decidable (smallC c) := inferInstanceAs (Decidable (_ ∧ _))
theorem l5_small_c (get) {P L : SV} {c : Cfg} (hP : CfgP c P L) : callP (PCw ES) get n_l5_small [.agg (cfgC c P L)] = some (.bool (decide (smallC c))) := by
  refine callP_of (PCw_ex (fun M => ?_) rfl) (by simp [hP.npA])
  rw [b_l5_small]
  have hlenp := hP.p.lenS ti_sl_api_Part
  have hlen := hP.l.lenS ti_sl_api_Link
  by_cases h : c.parts.length ≤ 20
  · have h' : (c.parts.length : Int) ≤ 20 := by omega
    by_cases h2 : c.links.length ≤ 30
    · have h2' : (c.links.length : Int) ≤ 30 := by omega
      simp [c_l5_small, evW_reg, evW_chkr, isCst, loadS, partS, TK.agg, fieldAddrS, zeroS, storeS, setPart, splice, endS, resS, fieldS, cfgC, smallC, hlenp, hlen, h, h', h2, h2']
    · have h2' : ¬ (c.links.length : Int) ≤ 30 := by omega
      simp [c_l5_small, evW_reg, evW_chkr, isCst, loadS, partS, TK.agg, fieldAddrS, zeroS, storeS, setPart, splice, endS, resS, fieldS, cfgC, smallC, hlenp, hlen, h, h', h2, h2']
  · have h' : ¬ (c.parts.length : Int) ≤ 20 := by omega
    simp [c_l5_small, evW_reg, evW_chkr, isCst, loadS, partS, TK.agg, fieldAddrS, zeroS, storeS, setPart, splice, endS, resS, fieldS, cfgC, smallC, hlenp, hlen, h, h']
theorem PlanChecks_walk (xs0 : List SV) (h0 : WT ES.P 8 T_api_Config xs0) : ∃ M', ICw ES n_l5_PlanChecks [mkV ES.P T_api_Config xs0] .empty = some (.bool true, M') := by
  obtain ⟨c, hc, _⟩ := cfg_of h0
  generalize mkV ES.P T_api_Config xs0 = y at hc ⊢
  have hcy := hc
  obtain ⟨P, L, rfl, hP⟩ := hc
  rw [b_l5_PlanChecks]
  have h1 := fun get => l5_small_c get hP
  have h2 := fun get => plan_Check_c get hcy
  have h3 := fun get => r5_Check_c get hP
  simp only [cfgC] at h1 h2 h3
  by_cases h : smallC c
  · simp [c_l5_PlanChecks, evW_reg, evW_chkr, isCst, loadS, partS, TK.agg, fieldAddrS, zeroS, storeS, setPart, splice, endS, resS, fieldS, cfgC, h1, h2, h3, h]
  · simp [c_l5_PlanChecks, evW_reg, evW_chkr, isCst, loadS, partS, TK.agg, fieldAddrS, zeroS, storeS, setPart, splice, endS, resS, fieldS, cfgC, h1, h2, h3, h]

end Go.Proofs.YtbdliphlolajaaaDoor

/-
  Walks of the seat's functions: Wb.
-/
set_option linter.unusedVariables false
set_option linter.unusedSimpArgs false
set_option maxRecDepth 100000
namespace Go.Proofs.YtbdliphlolajaaaDoor
open Go.Proofs.YtbdliphlolajaaaDoor.Sh
/-! The law PlanTells. -/
def portG (c : Cfg) (part node : Int) : Option Port := if rightC c && decide (inMany part c.parts.length) then findPort c.links part node else none
theorem find_range {α : Type} (p : α → Bool) (l : List α) : l.find? p = ((List.range l.length).find? (fun j => (l[j]?.map p).getD false)).bind fun j => l[j]? := by
  cases h : (List.range l.length).find? (fun j => (l[j]?.map p).getD false) with
  | none =>
    rw [List.find?_range_eq_none] at h
    rw [Option.bind_none, List.find?_eq_none]
    intro x hx
    obtain ⟨j, hj, rfl⟩ := List.mem_iff_getElem.1 hx
    simpa [hj] using h j hj
  | some j =>
    rw [List.find?_range_eq_some] at h
    obtain ⟨h1, h2, h3⟩ := h
    have hlt : j < l.length := by simpa using h2
    simp [hlt] at h1
    rw [Option.bind_some, List.getElem?_eq_getElem hlt, List.find?_eq_some_iff_getElem]
    exact ⟨h1, j, hlt, rfl, fun i hi => by simpa [show i < l.length by omega] using h3 i hi⟩
theorem portsG_find {c : Cfg} (part n : Int) : (portsG c part).find? (fun p => decide (p.node = n)) = portG c part n := by
  unfold portsG portG
  cases hr : rightC c with
  | false => simp
  | true =>
    by_cases hp : inMany part c.parts.length
    · simp only [hp, decide_true, Bool.and_self, if_true]
      exact portsL_find (portsOk_of (checkG_zero (by simpa [rightC] using hr)) part) n
    · simp [hp]
set_option maxHeartbeats 4000000 in
theorem r5_Port_c (get) {P L : SV} {c : Cfg} (hP : CfgP c P L) (part node : Int) : callP (PCw ES) get n_r5_Port [.agg (cfgC c P L), .int .i64 part, .int .i64 node] = some (portO (portG c part node)) := by
  refine callP_of (PCw_ex (fun M0 => ?_) rfl) (by simp [hP.npA])
  rw [b_r5_Port]
  have h1 := fun get => r5_Good_c get hP part
  have h2 := fun get => r5_port_c get hP part node (Nat.le_refl _)
  have hlen := hP.l.lenS ti_sl_api_Link
  rw [List.take_length] at h2
  simp only [cfgC] at h1 h2
  unfold portG
  cases hg : (rightC c && decide (inMany part c.parts.length)) with
  | false =>
    rw [hg] at h1
    have b : bldS ES.P T_api_Port [] = some (encPort ⟨0, 0, 0, 0⟩) := by simp [bldS, placesOf, buildS, encPort]
    simp [c_r5_Port, evW_reg, evW_chkr, isCst, loadS, partS, TK.agg, fieldAddrS, zeroS, storeS, setPart, splice, endS, resS, fieldS, cfgC, h1, b, portO]
    rfl
  | true =>
    rw [hg] at h1
    simp [c_r5_Port, evW_reg, evW_chkr, isCst, loadS, partS, TK.agg, fieldAddrS, zeroS, storeS, setPart, splice, endS, resS, fieldS, cfgC, h1, hlen, h2, portO]
set_option maxHeartbeats 4000000 in
theorem plan_Port_c (get) {P L : SV} {c : Cfg} (hP : CfgP c P L) (part node : Int) : callP (PCw ES) get n_plan_Port [.agg (cfgC c P L), .int .i64 part, .int .i64 node] = some (portO (portG c part node)) := by
  refine callP_of (PCw_ex (fun M0 => ?_) rfl) (by simp [hP.npA])
  rw [b_plan_Port, ← portsG_find, find_range]
  obtain ⟨y, h1, h2⟩ := plan_Ports_c hP part
  have hlen := h2.lenS ti_sl_api_Port
  have hb : (portsG c part).length ≤ 1000 := by
    unfold portsG portsL
    split
    · have := List.length_filterMap_le (fun i : Nat => findPort c.links part (i : Int)) (List.range (nodesAt c part).toNat)
      rename_i hr
      simp only [Bool.and_eq_true] at hr
      have := nodesAt_le (checkG_zero (by simpa [rightC] using hr.1)) part
      simp at *
      omega
    · simp
  generalize portsG c part = l at *
  simp only [cfgC] at h1
  obtain ⟨z, hz1, hz2⟩ : ∃ z : SV, z.cells.length = 4 ∧ z = .agg [.int .i64 0, .int .i64 0, .int .i64 0, .int .i64 0] := ⟨_, rfl, rfl⟩
  obtain ⟨r, g1, M', g0, g2⟩ := loop_find (E := ES) (me := n_plan_Port) (B := c_plan_Port_B0) (len := l.length) (T := fun j => h_plan_Port_0 (.int .i64 node) (.ptr (M0.next + 1) 0 0) y (.int .i64 l.length) (.int .i64 j))
    (I := fun _ M => M.blk (M0.next + 1) = some [z] ∧ M0.next + 1 < M.next)
    (p := fun j => (l[j]?.map fun p => decide (p.node = node)).getD false)
    (Q := fun o r => ∃ M', M'.blk (M0.next + 1) = some [match o with | some j => encPort ((l[j]?).getD ⟨0, 0, 0, 0⟩) | none => z] ∧ r = match o with
      | some _ => (.ret, ⟨((h_plan_Port_0 .bad .bad .bad .bad .bad).set 6 (.ptr (M0.next + 1) 0 0)).set 7 (.bool true), M'⟩)
      | none => (.exit 0, ⟨(h_plan_Port_0 (.int .i64 node) (.ptr (M0.next + 1) 0 0) y (.int .i64 l.length) (.int .i64 l.length)).set 15 (.bool false), M'⟩))
    (fun j M hj ⟨hq, hlt⟩ hpj => by
      have ha := Ports.at h2 hj
      have hw : IntKind.i64.wrap ((j : Int) + 1) = (j : Int) + 1 := i64_in (by omega) (by omega)
      have hne : ∀ k, (M0.next + 1 = M.next + k) = False := fun k => by simp; omega
      have hne2 : ∀ k, (M0.next = M.next + k) = False := fun k => by simp; omega
      simp [hj] at hpj
      refine ⟨(M.bump 4).set (M.next + 2) (some [encPort l[j]]), ?_, by simp [hne, hne2, hq], by simp; omega⟩
      simp [c_plan_Port_B0, evW_reg, evW_chkr, isCst, loadS, partS, TK.agg, fieldAddrS, zeroS, storeS, setPart, splice, endS, resS, fieldS, h_plan_Port_0, hj, ha, hpj, hw])
    (fun j M hj ⟨hq, hlt⟩ hpj => by
      have ha := Ports.at h2 hj
      have hne : ∀ k, (M0.next + 1 = M.next + k) = False := fun k => by simp; omega
      have hne2 : ∀ k, (M0.next = M.next + k) = False := fun k => by simp; omega
      simp [hj] at hpj
      have hB : evW ES n_plan_Port c_plan_Port_B0 ⟨h_plan_Port_0 (.int .i64 node) (.ptr (M0.next + 1) 0 0) y (.int .i64 l.length) (.int .i64 j), M⟩ =
          some (.ret, ⟨((h_plan_Port_0 .bad .bad .bad .bad .bad).set 6 (.ptr (M0.next + 1) 0 0)).set 7 (.bool true), ((M.bump 4).set (M.next + 2) (some [encPort l[j]])).set (M0.next + 1) (some [encPort l[j]])⟩) := by
        simp [c_plan_Port_B0, evW_reg, evW_chkr, isCst, loadS, partS, TK.agg, fieldAddrS, zeroS, storeS, setPart, splice, endS, resS, fieldS, h_plan_Port_0, hj, ha, hpj, hne, hne2, hq, hz1, encPort]
      exact ⟨_, hB, by simp, _, by simp [hj], rfl⟩)
    (fun M ⟨hq, _⟩ => ⟨_, by simp [c_plan_Port_B0, evW_reg, evW_chkr, isCst, loadS, partS, TK.agg, fieldAddrS, zeroS, storeS, setPart, splice, endS, resS, fieldS, h_plan_Port_0], by simp, M, hq, rfl⟩)
    (((M0.bump 3).set M0.next (some [.agg (cfgC c P L)])).set (M0.next + 1) (some [z])) ⟨by simp, by simp⟩
  cases hf : (List.range l.length).find? (fun j => (l[j]?.map fun p => decide (p.node = node)).getD false) with
  | none =>
    rw [hf] at g2 g0
    subst g2 hz2
    simp [h_plan_Port_0, cfgC] at g1 g0
    have b : bldS ES.P T_api_Port [] = some (encPort ⟨0, 0, 0, 0⟩) := by simp [bldS, placesOf, buildS, encPort]
    simp [c_plan_Port, evW_reg, evW_chkr, isCst, loadS, partS, TK.agg, fieldAddrS, zeroS, storeS, setPart, splice, endS, resS, fieldS, cfgC, h1, hlen, c_plan_Port_L0, g1, g0, portO, b]
    rfl
  | some j =>
    rw [hf] at g2 g0
    subst g2 hz2
    simp [h_plan_Port_0, cfgC] at g1 g0
    have hs : j < l.length := by
      rw [List.find?_range_eq_some] at hf
      simpa using hf.2.1
    simp [hs] at g0
    simp [c_plan_Port, evW_reg, evW_chkr, isCst, loadS, partS, TK.agg, fieldAddrS, zeroS, storeS, setPart, splice, endS, resS, fieldS, cfgC, h1, hlen, c_plan_Port_L0, g1, g0, portO, hs]
/-- A port's other side. -/
def farOf (ls : List Link) (p : Port) : Int × Int :=
  match ls[p.link.toNat]? with
  | some l => if p.side = 0 then (l.b, if p.gate = 0 then l.pb0 else l.pb1) else (l.a, if p.gate = 0 then l.pa0 else l.pa1)
  | none => (0, 0)
def PortIn (ls : List Link) (p : Port) : Prop := (∃ j : Nat, j < ls.length ∧ p.link = j) ∧ (p.gate = 0 ∨ p.gate = 1) ∧ (p.side = 0 ∨ p.side = 1)
theorem portOfLink_in {i : Nat} {l : Link} {part n : Int} {p : Port} (h : portOfLink i l part n = some p) : p.link = i ∧ (p.gate = 0 ∨ p.gate = 1) ∧ (p.side = 0 ∨ p.side = 1) := by
  unfold portOfLink at h
  split at h
  · cases h; simp
  split at h
  · cases h; simp
  split at h
  · cases h; simp
  split at h
  · cases h; simp
  · cases h
theorem findPort_in {ls : List Link} {part n : Int} {p : Port} (h : findPort ls part n = some p) : PortIn ls p := by
  unfold findPort at h
  split at h
  · rename_i j hj
    rw [List.find?_range_eq_some] at hj
    obtain ⟨_, h2, _⟩ := hj
    have hlt : j < ls.length := by simpa using h2
    simp [hlt] at h
    obtain ⟨h3, h4⟩ := portOfLink_in h
    exact ⟨⟨j, hlt, h3⟩, h4⟩
  · cases h
theorem portG_in {c : Cfg} {part n : Int} {p : Port} (h : portG c part n = some p) : PortIn c.links p := by
  unfold portG at h
  split at h
  · exact findPort_in h
  · cases h
set_option maxHeartbeats 4000000 in
theorem plan_Other_c (get) {P L : SV} {c : Cfg} (hP : CfgP c P L) {p : Port} (h : PortIn c.links p) :
    callP (PCw ES) get n_plan_Other [.agg (cfgC c P L), encPort p] = some (.tup [.int .i64 (farOf c.links p).1, .int .i64 (farOf c.links p).2]) := by
  obtain ⟨n, lk, g, s⟩ := p
  obtain ⟨⟨j, hj, e⟩, hg, hs⟩ := h
  simp only at e hg hs
  subst e
  refine callP_of (PCw_ex (fun M0 => ?_) rfl) (by simp [hP.npA, encPort_np])
  rw [b_plan_Other]
  have ha := Links.at hP.l hj
  have hc := fun get s => plan_end_c get c.links[j] s
  have hw0 : IntKind.i64.wrap 1 = 1 := by decide
  have hw1 : IntKind.i64.wrap 0 = 0 := by decide
  rcases hg with rfl | rfl <;> rcases hs with rfl | rfl <;> simp [c_plan_Other, evW_reg, evW_chkr, isCst, loadS, partS, TK.agg, fieldAddrS, zeroS, storeS, setPart, splice, endS, resS, fieldS, cfgC, ha, hj, hc, endOf, farOf, hw0, hw1, encPort]
def farO (c : Cfg) (part node : Int) : SV := match portG c part node with
  | some p => .tup [.int .i64 (farOf c.links p).1, .int .i64 (farOf c.links p).2, .bool true]
  | none => .tup [.int .i64 0, .int .i64 0, .bool false]
theorem farO_pv (c : Cfg) (part node : Int) : Sh.pv (farO c part node) = true := by unfold farO; split <;> rfl
set_option maxHeartbeats 4000000 in
theorem plan_Far_c (get) {P L : SV} {c : Cfg} (hP : CfgP c P L) (part node : Int) :
    callP (PCw ES) get n_plan_Far [.agg (cfgC c P L), .int .i64 part, .int .i64 node] = some (farO c part node) := by
  refine callP_of (PCw_ex (fun M0 => ?_) (farO_pv _ _ _)) (by simp [hP.npA])
  rw [b_plan_Far]
  have h1 := fun get => plan_Port_c get hP part node
  simp only [cfgC] at h1
  unfold farO
  cases hp : portG c part node with
  | none =>
    rw [hp] at h1
    simp [c_plan_Far, evW_reg, evW_chkr, isCst, loadS, partS, TK.agg, fieldAddrS, zeroS, storeS, setPart, splice, endS, resS, fieldS, cfgC, h1, portO]
  | some p =>
    rw [hp] at h1
    have h2 := fun get => plan_Other_c get hP (portG_in hp)
    simp only [cfgC] at h2
    simp [c_plan_Far, evW_reg, evW_chkr, isCst, loadS, partS, TK.agg, fieldAddrS, zeroS, storeS, setPart, splice, endS, resS, fieldS, cfgC, h1, h2, portO, Nat.add_assoc]
set_option maxHeartbeats 4000000 in
theorem r5_Far_c (get) {P L : SV} {c : Cfg} (hP : CfgP c P L) (part node : Int) :
    callP (PCw ES) get n_r5_Far [.agg (cfgC c P L), .int .i64 part, .int .i64 node] = some (farO c part node) := by
  refine callP_of (PCw_ex (fun M0 => ?_) (farO_pv _ _ _)) (by simp [hP.npA])
  rw [b_r5_Far]
  have h1 := fun get => r5_Port_c get hP part node
  simp only [cfgC] at h1
  unfold farO
  cases hp : portG c part node with
  | none =>
    rw [hp] at h1
    simp [c_r5_Far, evW_reg, evW_chkr, isCst, loadS, partS, TK.agg, fieldAddrS, zeroS, storeS, setPart, splice, endS, resS, fieldS, cfgC, h1, portO]
  | some p =>
    rw [hp] at h1
    obtain ⟨n, lk, g, s⟩ := p
    obtain ⟨⟨j, hj, e⟩, hg, hs⟩ := portG_in hp
    simp only at e hg hs
    subst e
    have ha := Links.at hP.l hj
    rcases hg with rfl | rfl <;> rcases hs with rfl | rfl <;> simp [c_r5_Far, evW_reg, evW_chkr, isCst, loadS, partS, TK.agg, fieldAddrS, zeroS, storeS, setPart, splice, endS, resS, fieldS, cfgC, h1, ha, hj, portO, farOf, encPort, Nat.add_assoc]

end Go.Proofs.YtbdliphlolajaaaDoor

/-
  Walks of the seat's functions: Wd.
-/
set_option linter.unusedVariables false
set_option linter.unusedSimpArgs false
set_option maxRecDepth 100000
namespace Go.Proofs.YtbdliphlolajaaaDoor
open Go.Proofs.YtbdliphlolajaaaDoor.Sh
/-! The law PlanTells: the document's ports; two equal lists. -/
/-- Blocks but for the one that a list was in are as they were. -/
def Kept (o : SV) (M M' : Mem) : Prop := ∀ id, id < M.next → (∀ e a b, o ≠ .own id e a b) → M'.blk id = M.blk id
theorem Kept.of_old {o : SV} {M M' : Mem} (h : Old M M') : Kept o M M' := fun id hid _ => h id hid
theorem killO_other {o : SV} {X : Mem} {s : Nat} (hne : ∀ e a b, o ≠ .own s e a b) : (X.sets (killO o)).blk s = X.blk s := by
  cases o <;> simp [killO, Mem.sets]
  rename_i id e a b
  intro hh
  subst hh
  exact absurd rfl (hne e a b)
/-- An item more at the end of a list in own memory. -/
theorem OutR.next {P : Program} {get : Nat → Option (List SV)} {o : SV} {M X : Mem} {items : List SV} {a s t e s1 b1 : Nat} {z1 : Option SV} {te : TI} {z v : SV} (ht : tiOf P t = some ⟨.slice e, s1, b1, z1⟩) (hte : tiOf P e = some te)
    (hz : te.zero = some z) (h0 : 0 < te.size) (hsz : z.sto = true) (hc : z.cells.length = te.size) (hI : OutR te.size o M items) (h1 : (items.length + 1) * te.bytes ≤ 140737488355328) (h2 : items.length + 1 ≤ 140737488355328)
    (hg : ∀ id, id < M.next → get id = M.blk id) (hv : v.cells.length = te.size) (hs : get s = some [v]) (hX : Old M X) (hXn : a < X.next) (hMa : M.next ≤ a) :
    ∃ o' X', appendS P get a t t o (.own s te.size 0 1) = some (o', killO o ++ [(a, some (items ++ [v]))]) ∧ (X.sets (killO o)).set a (some (items ++ [v])) = X' ∧ OutR te.size o' X' (items ++ [v]) ∧ Kept o M X' ∧ X'.next = X.next ∧ (∀ id e a b, o' = .own id e a b → M.next ≤ id) := by
  refine ⟨_, _, OutR.app ht hte hz h0 hsz hc hI h1 h2 hg hv hs, rfl, ?_, ?_, by simp, ?_⟩
  · exact OutR.snoc (by simp) (by simpa using hXn)
  · intro id hid hne
    rw [Mem.blk_set, if_neg (by omega), killO_other hne]
    exact hX id hid
  · intro id e a' b h
    cases h
    exact hMa
def portsTo (ls : List Link) (part : Int) (k : Nat) : List Port := (List.range k).filterMap fun i : Nat => findPort ls part (i : Int)
theorem portsTo_len (ls : List Link) (part : Int) (k : Nat) : (portsTo ls part k).length ≤ k := by
  have := List.length_filterMap_le (fun i : Nat => findPort ls part (i : Int)) (List.range k)
  simpa [portsTo] using this
theorem portsTo_succ (ls : List Link) (part : Int) (k : Nat) : portsTo ls part (k + 1) = portsTo ls part k ++ (findPort ls part k).toList := by
  simp only [portsTo, List.range_succ, List.filterMap_append]
  cases h : findPort ls part k <;> simp [h]
set_option maxHeartbeats 4000000 in
theorem r5_Ports_step {P L : SV} {c : Cfg} (hP : CfgP c P L) {p : Nat} (hp : p < c.parts.length) {s j : Nat} (hj : (j : Int) < c.parts[p].nodes) (hj2 : j ≤ 1000) (M : Mem) {o : SV} {items : List Port} (hs : M.blk s = some [.agg (cfgC c P L)]) (hls : s < M.next)
    (hO : OutR 4 o M (portSV items)) (hlen : items.length ≤ 1000) (hne : ∀ e a b, o ≠ .own s e a b) :
    ∃ M' o', evW ES n_r5_Ports c_r5_Ports_B0 ⟨h_r5_Ports_0 (.int .i64 p) (.ptr s 0 0) o (.int .i64 j), M⟩ = some (.normal, ⟨h_r5_Ports_0 (.int .i64 p) (.ptr s 0 0) o' (.int .i64 ((j + 1 : Nat) : Int)), M'⟩) ∧
      OutR 4 o' M' (portSV (items ++ (findPort c.links p j).toList)) ∧ M'.blk s = some [.agg (cfgC c P L)] ∧ s < M'.next ∧ (∀ e a b, o' ≠ .own s e a b) := by
  have hw : IntKind.i64.wrap ((j : Int) + 1) = (j : Int) + 1 := i64_in (by omega) (by omega)
  have ha := Parts.at hP.p hp
  have hlenl := hP.l.lenS ti_sl_api_Link
  have h2 := fun get => r5_port_c get hP p j (Nat.le_refl _)
  rw [List.take_length] at h2
  have hb0 := hs
  simp only [cfgC] at h2 hb0
  have hns : ∀ k, (s = M.next + k) = False := fun k => by simp; omega
  cases hf : findPort c.links p j with
  | none =>
    rw [hf] at h2
    refine ⟨(M.bump 13).set (M.next + 10) (some [encPort ⟨0, 0, 0, 0⟩]), o, ?_, ?_, by simp [hns, hs], by simp; omega, hne⟩
    · simp [c_r5_Ports_B0, evW_reg, evW_chkr, isCst, loadS, partS, TK.agg, fieldAddrS, zeroS, storeS, setPart, splice, endS, resS, fieldS, h_r5_Ports_0, hp, ha, hj, hb0, h2, hlenl, portO, hns, hw]
    · simp only [Option.toList_none, List.append_nil]
      exact hO.old (by simp) (by simp)
  | some q =>
    rw [hf] at h2
    have hap := OutR.next (P := ES.P) (o := o) (M := M) (X := ((M.bump 13).set (M.next + 10) (some [encPort q])).bump 5 |>.set (M.next + 13 + 2) (some [encPort q])) (items := portSV items) (a := M.next + 13 + 3) (s := M.next + 13 + 2) (v := encPort q)
      (get := (((M.bump 13).set (M.next + 10) (some [encPort q])).bump 5 |>.set (M.next + 13 + 2) (some [encPort q])).blk) ti_sl_api_Port ti_api_Port rfl (by decide) rfl rfl hO (by simp [portSV]; omega) (by simp [portSV]; omega)
      (fun id hid => by
        have h1 : ¬ (id = M.next + 13 + 2) := by omega
        have h2 : ¬ (id = M.next + 10) := by omega
        simp [h1, h2]) rfl (by simp) (by simp) (by simp) (by omega)
    obtain ⟨o', X', a1, a2, a3, a4, a5, a6⟩ := hap
    have b : bldSl ES.P T_sl_api_Port 1 (M.next + 13 + 2) [(0, encPort q)] = some (.own (M.next + 13 + 2) 4 0 1, [encPort q]) := by simp [bldSl, buildRow]
    refine ⟨X', o', ?_, ?_, ?_, by rw [a5]; simp; omega, fun e a b h => by have := a6 _ _ _ _ h; omega⟩
    · simp at a2 a1
      simp [c_r5_Ports_B0, evW_reg, evW_chkr, isCst, loadS, partS, TK.agg, fieldAddrS, zeroS, storeS, setPart, splice, endS, resS, fieldS, h_r5_Ports_0, hp, ha, hj, hb0, h2, hlenl, portO, hns, hw, b, a1, a2]
    · simp only [Option.toList_some]
      rw [portSV_append]
      exact a3
    · rw [a4 s hls hne]
      exact hs
set_option maxHeartbeats 4000000 in
theorem r5_Ports_c {P L : SV} {c : Cfg} (hP : CfgP c P L) (part : Int) :
    ∃ y, (∀ get, callP (PCw ES) get n_r5_Ports [.agg (cfgC c P L), .int .i64 part] = some y) ∧ Ports y (portsG c part) := by
  have h1 := fun get => r5_Good_c get hP part
  simp only [cfgC] at h1
  cases hg : (rightC c && decide (inMany part c.parts.length)) with
  | false =>
    rw [hg] at h1
    refine ⟨.nilsl, fun get => callP_of (PCw_ex (fun M0 => ?_) rfl) (by simp [hP.npA]), by simp only [portsG, hg]; exact RSl.nil _⟩
    rw [b_r5_Ports]
    simp [c_r5_Ports, evW_reg, evW_chkr, isCst, loadS, partS, TK.agg, fieldAddrS, zeroS, storeS, setPart, splice, endS, resS, fieldS, cfgC, h1]
  | true =>
    rw [hg] at h1
    have hg2 := hg
    simp only [Bool.and_eq_true, decide_eq_true_eq] at hg2
    obtain ⟨hr, hin⟩ := hg2
    unfold inMany at hin
    obtain ⟨p, rfl⟩ : ∃ p : Nat, part = p := ⟨part.toNat, by omega⟩
    have hp : p < c.parts.length := by omega
    have hn : nodesAt c p = c.parts[p].nodes := by simp [nodesAt, hp]
    have hnb := nodesAt_le (checkG_zero (by simpa [rightC] using hr)) p
    rw [hn] at hnb
    have ha := Parts.at hP.p hp
    have e : portsG c p = portsTo c.links p c.parts[p].nodes.toNat := by
      simp only [portsG, hg, if_true]
      rw [hn]
      rfl
    rw [e]
    have hK : c.parts[p].nodes = ((c.parts[p].nodes.toNat : Nat) : Int) := by omega
    generalize c.parts[p].nodes.toNat = K at *
    obtain ⟨y, items, k1, k2, k5, k6, k7⟩ := PCw_out (E := ES) (f := n_r5_Ports) (esz := 4) (args := [.agg (cfgC c P L), .int .i64 p]) (Pr := fun items => items = portSV (portsTo c.links p K)) (fun M0 => by
      rw [b_r5_Ports]
      obtain ⟨r, g1, o, M1, rfl, g2⟩ := loop_st (E := ES) (me := n_r5_Ports) (B := c_r5_Ports_B0) (β := SV) (len := K)
        (T := fun j o => h_r5_Ports_0 (.int .i64 p) (.ptr M0.next 0 0) o (.int .i64 j))
        (I := fun j o M => OutR 4 o M (portSV (portsTo c.links p j)) ∧ M.blk M0.next = some [.agg (cfgC c P L)] ∧ M0.next < M.next ∧ (∀ e a b, o ≠ .own M0.next e a b))
        (Q := fun r => ∃ o M', r = (.exit 0, ⟨(h_r5_Ports_0 (.int .i64 p) (.ptr M0.next 0 0) o (.int .i64 K)).set 20 (.bool false), M'⟩) ∧ OutR 4 o M' (portSV (portsTo c.links p K)))
        (fun j o M hj hI => by
          left
          obtain ⟨i1, i2, i3, i4⟩ := hI
          have := portsTo_len c.links p j
          obtain ⟨M', o', a1, a2, a3, a4, a5⟩ := r5_Ports_step hP hp (s := M0.next) (j := j) (by omega) (by omega) M i2 i3 i1 (by omega) i4
          exact ⟨o', M', a1, by rw [portsTo_succ]; exact a2, a3, a4, a5⟩)
        (fun o M hI => by
          obtain ⟨i1, i2, i3, i4⟩ := hI
          have hb0 := i2
          simp only [cfgC] at hb0
          exact ⟨_, by simp [c_r5_Ports_B0, evW_reg, evW_chkr, isCst, loadS, partS, TK.agg, fieldAddrS, zeroS, storeS, setPart, splice, endS, resS, fieldS, h_r5_Ports_0, hp, ha, hb0, hK], by simp, o, M, rfl, i1⟩) 0 .nilsl ((M0.bump 2).set M0.next (some [.agg (cfgC c P L)])) (by omega) ⟨.inl ⟨rfl, rfl⟩, by simp, by simp, by simp⟩
      simp [h_r5_Ports_0, cfgC] at g1
      refine ⟨o, M1, _, ?_, g2, rfl⟩
      simp [c_r5_Ports, evW_reg, evW_chkr, isCst, loadS, partS, TK.agg, fieldAddrS, zeroS, storeS, setPart, splice, endS, resS, fieldS, cfgC, h1, c_r5_Ports_L0, g1]) (fun items h y hy => by
        subst h
        simp only [portSV, List.mem_map] at hy
        obtain ⟨x, _, rfl⟩ := hy
        rfl)
    subst k2
    exact ⟨y, fun get => callP_of k1 (by simp [hP.npA]), RSl.of_map k5 k6⟩
theorem eqPort (c : Bool) (a b : Port) : eqS ES.P T_api_Port c (encPort a) (encPort b) = some (decide (a = b)) := by
  have h1 : ES.P.stoodInHeld T_api_Port = false := by kernel_rfl
  have h2 : ES.P.eqGuardType ES.P.depth T_api_Port = false := by kernel_rfl
  have h3 : intsOnly ES.P (.struct [(T_int, 0), (T_int, 1), (T_int, 2), (T_int, 3)]) = true := by kernel_rfl
  have h4 : plainNames ES.P T_api_Port = true := by kernel_rfl
  unfold eqS
  rw [ti_api_Port]
  obtain ⟨a1, a2, a3, a4⟩ := a
  obtain ⟨b1, b2, b3, b4⟩ := b
  simp only [encPort, h1, h2, h3, h4]
  simp only [inRow, List.length, eqInts, beq_self_eq_true, Bool.and_true, and_self, if_true, Option.some.injEq]
  by_cases e1 : a1 = b1 <;> by_cases e2 : a2 = b2 <;> by_cases e3 : a3 = b3 <;> by_cases e4 : a4 = b4 <;> simp [e1, e2, e3, e4]
@[simp] theorem eqlPort (c : Bool) (a b : Port) : binS ES.P .eql T_api_Port c (encPort a) (encPort b) = some (.bool (decide (a = b))) := by
  show (match eqS ES.P T_api_Port c (encPort a) (encPort b) with | some b => some (SV.bool b) | none => none) = _
  rw [eqPort]
@[simp] theorem neqPort (c : Bool) (a b : Port) : binS ES.P .neq T_api_Port c (encPort a) (encPort b) = some (.bool (!decide (a = b))) := by
  show (match eqS ES.P T_api_Port c (encPort a) (encPort b) with | some b => some (SV.bool (!b)) | none => none) = _
  rw [eqPort]
theorem agg_port (p : Port) : SV.agg [.int .i64 p.node, .int .i64 p.link, .int .i64 p.gate, .int .i64 p.side] = encPort p := rfl
@[simp] theorem eqlAgg (c : Bool) (a b d e a' b' d' e' : Int) : binS ES.P .eql T_api_Port c (.agg [.int .i64 a, .int .i64 b, .int .i64 d, .int .i64 e]) (.agg [.int .i64 a', .int .i64 b', .int .i64 d', .int .i64 e']) = some (.bool (decide (a = a' ∧ b = b' ∧ d = d' ∧ e = e'))) := by
  have := eqlPort c ⟨a, b, d, e⟩ ⟨a', b', d', e'⟩
  simpa [encPort] using this
@[simp] theorem eqlBool (c a b : Bool) : binS ES.P .eql T_bool c (.bool a) (.bool b) = some (.bool (a == b)) := binS_eqlB ti_bool
set_option maxHeartbeats 4000000 in
theorem l5_same_c (get) {x y : SV} {l : List Port} (hx : Ports x l) (hy : Ports y l) (hb : l.length ≤ 100000) : callP (PCw ES) get n_l5_same [x, y] = some (.bool true) := by
  refine callP_of (PCw_ex (fun M0 => ?_) rfl) (by simp [hx.np12, hy.np12])
  rw [b_l5_same]
  have l1 := hx.lenS ti_sl_api_Port
  have l2 := hy.lenS ti_sl_api_Port
  obtain ⟨r, g1, M', g2⟩ := loop_up (E := ES) (me := n_l5_same) (B := c_l5_same_B0) (len := l.length) (T := fun j => h_l5_same_0 x y (.int .i64 j)) (I := fun _ _ => True)
    (Q := fun r => ∃ M', r = (.exit 0, ⟨(h_l5_same_0 x y (.int .i64 l.length)).set 14 (.bool false), M'⟩))
    (fun j M hj _ => by
      left
      have hw : IntKind.i64.wrap ((j : Int) + 1) = (j : Int) + 1 := i64_in (by omega) (by omega)
      have a1 := Ports.at hx hj
      have a2 := Ports.at hy hj
      exact ⟨M, by simp [c_l5_same_B0, evW_reg, evW_chkr, isCst, loadS, partS, TK.agg, fieldAddrS, zeroS, storeS, setPart, splice, endS, resS, fieldS, h_l5_same_0, l1, l2, hj, a1, a2, hw], trivial⟩)
    (fun M _ => ⟨_, by simp [c_l5_same_B0, evW_reg, evW_chkr, isCst, loadS, partS, TK.agg, fieldAddrS, zeroS, storeS, setPart, splice, endS, resS, fieldS, h_l5_same_0, l1, l2], by simp, M, rfl⟩) 0 M0 (by omega) trivial
  subst g2
  simp [h_l5_same_0] at g1
  simp [c_l5_same, evW_reg, evW_chkr, isCst, loadS, partS, TK.agg, fieldAddrS, zeroS, storeS, setPart, splice, endS, resS, fieldS, l1, l2, c_l5_same_L0, g1]
set_option maxHeartbeats 8000000 in
theorem PlanTells_walk (xs0 xs1 xs2 : List SV) (h0 : WT ES.P 8 T_api_Config xs0) (h1 : WT ES.P 8 T_int xs1) (h2 : WT ES.P 8 T_int xs2) :
    ∃ M', ICw ES n_l5_PlanTells [mkV ES.P T_api_Config xs0, mkV ES.P T_int xs1, mkV ES.P T_int xs2] .empty = some (.bool true, M') := by
  obtain ⟨c, hc, _⟩ := cfg_of h0
  obtain ⟨part, _, e1, _⟩ := WT_int ti_int h1
  obtain ⟨node, _, e2, _⟩ := WT_int ti_int h2
  rw [e1, e2]
  generalize mkV ES.P T_api_Config xs0 = y at hc ⊢
  obtain ⟨P, L, rfl, hP⟩ := hc
  rw [b_l5_PlanTells]
  have k1 := fun get => l5_small_c get hP
  have k2 := fun get => plan_Port_c get hP part node
  have k3 := fun get => r5_Port_c get hP part node
  have k4 := fun get => plan_Far_c get hP part node
  have k5 := fun get => r5_Far_c get hP part node
  obtain ⟨y1, k6, q1⟩ := plan_Ports_c hP part
  obtain ⟨y2, k7, q2⟩ := r5_Ports_c hP part
  have hl : (portsG c part).length ≤ 100000 := by
    unfold portsG portsL
    split
    · rename_i hr
      have := List.length_filterMap_le (fun i : Nat => findPort c.links part (i : Int)) (List.range (nodesAt c part).toNat)
      simp only [Bool.and_eq_true] at hr
      have := nodesAt_le (checkG_zero (by simpa [rightC] using hr.1)) part
      simp at *
      omega
    · simp
  have k8 := fun get => l5_same_c get q1 q2 hl
  simp only [cfgC] at k1 k2 k3 k4 k5 k6 k7
  by_cases h : smallC c
  · unfold farO at k4 k5
    cases hp : portG c part node with
    | none =>
      rw [hp] at k2 k3 k4 k5
      simp [c_l5_PlanTells, evW_reg, evW_chkr, isCst, loadS, partS, TK.agg, fieldAddrS, zeroS, storeS, setPart, splice, endS, resS, fieldS, cfgC, k1, k2, k3, k4, k5, k6, k7, k8, h, portO, Nat.add_assoc]
    | some q =>
      rw [hp] at k2 k3 k4 k5
      simp [c_l5_PlanTells, evW_reg, evW_chkr, isCst, loadS, partS, TK.agg, fieldAddrS, zeroS, storeS, setPart, splice, endS, resS, fieldS, cfgC, k1, k2, k3, k4, k5, k6, k7, k8, h, portO, Nat.add_assoc]
  · simp [c_l5_PlanTells, evW_reg, evW_chkr, isCst, loadS, partS, TK.agg, fieldAddrS, zeroS, storeS, setPart, splice, endS, resS, fieldS, cfgC, k1, h]

end Go.Proofs.YtbdliphlolajaaaDoor
