/-
  Walks of the seat's functions: Wd.
-/
import Derived.Test.YtbdliphlolajaaaDoorEb2
import Derived.Test.YtbdliphlolajaaaDoorShSv
import Derived.Test.YtbdliphlolajaaaDoorLWb
set_option linter.unusedVariables false
set_option linter.unusedSimpArgs false
set_option maxRecDepth 100000
namespace Go.Proofs.YtbdliphlolajaaaDoor
open Go.Proofs.YtbdliphlolajaaaDoor.Sh
/-! The law PlanTells: the document's ports; two equal lists. -/
/-- Blocks but for the one that a list was in are as they were. -/
def Kept (o : SV) (M M' : Mem) : Prop := ∀ id, id < M.next → (∀ e a b, o ≠ .own id e a b) → M'.blk id = M.blk id
theorem Kept.of_old {o : SV} {M M' : Mem} (h : Old M M') : Kept o M M' := fun id hid _ => h id hid
theorem killO_other {o : SV} {X : Mem} {s : Nat} (hne : ∀ e a b, o ≠ .own s e a b) : (X.sets (killO o)).blk s = X.blk s := by
  cases o <;> simp [killO, Mem.sets]
  rename_i id e a b
  intro hh
  subst hh
  exact absurd rfl (hne e a b)
/-- An item more at the end of a list in own memory. -/
theorem OutR.next {P : Program} {get : Nat → Option (List SV)} {o : SV} {M X : Mem} {items : List SV} {a s t e s1 b1 : Nat} {z1 : Option SV} {te : TI} {z v : SV} (ht : tiOf P t = some ⟨.slice e, s1, b1, z1⟩) (hte : tiOf P e = some te)
    (hz : te.zero = some z) (h0 : 0 < te.size) (hsz : z.sto = true) (hc : z.cells.length = te.size) (hI : OutR te.size o M items) (h1 : (items.length + 1) * te.bytes ≤ 140737488355328) (h2 : items.length + 1 ≤ 140737488355328)
    (hg : ∀ id, id < M.next → get id = M.blk id) (hv : v.cells.length = te.size) (hs : get s = some [v]) (hX : Old M X) (hXn : a < X.next) (hMa : M.next ≤ a) :
    ∃ o' X', appendS P get a t t o (.own s te.size 0 1) = some (o', killO o ++ [(a, some (items ++ [v]))]) ∧ (X.sets (killO o)).set a (some (items ++ [v])) = X' ∧ OutR te.size o' X' (items ++ [v]) ∧ Kept o M X' ∧ X'.next = X.next ∧ (∀ id e a b, o' = .own id e a b → M.next ≤ id) := by
  refine ⟨_, _, OutR.app ht hte hz h0 hsz hc hI h1 h2 hg hv hs, rfl, ?_, ?_, by simp, ?_⟩
  · exact OutR.snoc (by simp) (by simpa using hXn)
  · intro id hid hne
    rw [Mem.blk_set, if_neg (by omega), killO_other hne]
    exact hX id hid
  · intro id e a' b h
    cases h
    exact hMa
def portsTo (ls : List Link) (part : Int) (k : Nat) : List Port := (List.range k).filterMap fun i : Nat => findPort ls part (i : Int)
theorem portsTo_len (ls : List Link) (part : Int) (k : Nat) : (portsTo ls part k).length ≤ k := by
  have := List.length_filterMap_le (fun i : Nat => findPort ls part (i : Int)) (List.range k)
  simpa [portsTo] using this
theorem portsTo_succ (ls : List Link) (part : Int) (k : Nat) : portsTo ls part (k + 1) = portsTo ls part k ++ (findPort ls part k).toList := by
  simp only [portsTo, List.range_succ, List.filterMap_append]
  cases h : findPort ls part k <;> simp [h]
set_option maxHeartbeats 4000000 in
theorem r5_Ports_step {P L : SV} {c : Cfg} (hP : CfgP c P L) {p : Nat} (hp : p < c.parts.length) {s j : Nat} (hj : (j : Int) < c.parts[p].nodes) (hj2 : j ≤ 1000) (M : Mem) {o : SV} {items : List Port} (hs : M.blk s = some [.agg (cfgC c P L)]) (hls : s < M.next)
    (hO : OutR 4 o M (portSV items)) (hlen : items.length ≤ 1000) (hne : ∀ e a b, o ≠ .own s e a b) :
    ∃ M' o', evW ES n_r5_Ports c_r5_Ports_B0 ⟨h_r5_Ports_0 (.int .i64 p) (.ptr s 0 0) o (.int .i64 j), M⟩ = some (.normal, ⟨h_r5_Ports_0 (.int .i64 p) (.ptr s 0 0) o' (.int .i64 ((j + 1 : Nat) : Int)), M'⟩) ∧
      OutR 4 o' M' (portSV (items ++ (findPort c.links p j).toList)) ∧ M'.blk s = some [.agg (cfgC c P L)] ∧ s < M'.next ∧ (∀ e a b, o' ≠ .own s e a b) := by
  have hw : IntKind.i64.wrap ((j : Int) + 1) = (j : Int) + 1 := i64_in (by omega) (by omega)
  have ha := Parts.at hP.p hp
  have hlenl := hP.l.lenS ti_sl_api_Link
  have h2 := fun get => r5_port_c get hP p j (Nat.le_refl _)
  rw [List.take_length] at h2
  have hb0 := hs
  simp only [cfgC] at h2 hb0
  have hns : ∀ k, (s = M.next + k) = False := fun k => by simp; omega
  cases hf : findPort c.links p j with
  | none =>
    rw [hf] at h2
    refine ⟨(M.bump 13).set (M.next + 10) (some [encPort ⟨0, 0, 0, 0⟩]), o, ?_, ?_, by simp [hns, hs], by simp; omega, hne⟩
    · simp [c_r5_Ports_B0, evW_reg, evW_chkr, isCst, loadS, partS, TK.agg, fieldAddrS, zeroS, storeS, setPart, splice, endS, resS, fieldS, h_r5_Ports_0, hp, ha, hj, hb0, h2, hlenl, portO, hns, hw]
    · simp only [Option.toList_none, List.append_nil]
      exact hO.old (by simp) (by simp)
  | some q =>
    rw [hf] at h2
    have hap := OutR.next (P := ES.P) (o := o) (M := M) (X := ((M.bump 13).set (M.next + 10) (some [encPort q])).bump 5 |>.set (M.next + 13 + 2) (some [encPort q])) (items := portSV items) (a := M.next + 13 + 3) (s := M.next + 13 + 2) (v := encPort q)
      (get := (((M.bump 13).set (M.next + 10) (some [encPort q])).bump 5 |>.set (M.next + 13 + 2) (some [encPort q])).blk) ti_sl_api_Port ti_api_Port rfl (by decide) rfl rfl hO (by simp [portSV]; omega) (by simp [portSV]; omega)
      (fun id hid => by
        have h1 : ¬ (id = M.next + 13 + 2) := by omega
        have h2 : ¬ (id = M.next + 10) := by omega
        simp [h1, h2]) rfl (by simp) (by simp) (by simp) (by omega)
    obtain ⟨o', X', a1, a2, a3, a4, a5, a6⟩ := hap
    have b : bldSl ES.P T_sl_api_Port 1 (M.next + 13 + 2) [(0, encPort q)] = some (.own (M.next + 13 + 2) 4 0 1, [encPort q]) := by simp [bldSl, buildRow]
    refine ⟨X', o', ?_, ?_, ?_, by rw [a5]; simp; omega, fun e a b h => by have := a6 _ _ _ _ h; omega⟩
    · simp at a2 a1
      simp [c_r5_Ports_B0, evW_reg, evW_chkr, isCst, loadS, partS, TK.agg, fieldAddrS, zeroS, storeS, setPart, splice, endS, resS, fieldS, h_r5_Ports_0, hp, ha, hj, hb0, h2, hlenl, portO, hns, hw, b, a1, a2]
    · simp only [Option.toList_some]
      rw [portSV_append]
      exact a3
    · rw [a4 s hls hne]
      exact hs
set_option maxHeartbeats 4000000 in
theorem r5_Ports_c {P L : SV} {c : Cfg} (hP : CfgP c P L) (part : Int) :
    ∃ y, (∀ get, callP (PCw ES) get n_r5_Ports [.agg (cfgC c P L), .int .i64 part] = some y) ∧ Ports y (portsG c part) := by
  have h1 := fun get => r5_Good_c get hP part
  simp only [cfgC] at h1
  cases hg : (rightC c && decide (inMany part c.parts.length)) with
  | false =>
    rw [hg] at h1
    refine ⟨.nilsl, fun get => callP_of (PCw_ex (fun M0 => ?_) rfl) (by simp [hP.npA]), by simp only [portsG, hg]; exact RSl.nil _⟩
    rw [b_r5_Ports]
    simp [c_r5_Ports, evW_reg, evW_chkr, isCst, loadS, partS, TK.agg, fieldAddrS, zeroS, storeS, setPart, splice, endS, resS, fieldS, cfgC, h1]
  | true =>
    rw [hg] at h1
    have hg2 := hg
    simp only [Bool.and_eq_true, decide_eq_true_eq] at hg2
    obtain ⟨hr, hin⟩ := hg2
    unfold inMany at hin
    obtain ⟨p, rfl⟩ : ∃ p : Nat, part = p := ⟨part.toNat, by omega⟩
    have hp : p < c.parts.length := by omega
    have hn : nodesAt c p = c.parts[p].nodes := by simp [nodesAt, hp]
    have hnb := nodesAt_le (checkG_zero (by simpa [rightC] using hr)) p
    rw [hn] at hnb
    have ha := Parts.at hP.p hp
    have e : portsG c p = portsTo c.links p c.parts[p].nodes.toNat := by
      simp only [portsG, hg, if_true]
      rw [hn]
      rfl
    rw [e]
    have hK : c.parts[p].nodes = ((c.parts[p].nodes.toNat : Nat) : Int) := by omega
    generalize c.parts[p].nodes.toNat = K at *
    obtain ⟨y, items, k1, k2, k5, k6, k7⟩ := PCw_out (E := ES) (f := n_r5_Ports) (esz := 4) (args := [.agg (cfgC c P L), .int .i64 p]) (Pr := fun items => items = portSV (portsTo c.links p K)) (fun M0 => by
      rw [b_r5_Ports]
      obtain ⟨r, g1, o, M1, rfl, g2⟩ := loop_st (E := ES) (me := n_r5_Ports) (B := c_r5_Ports_B0) (β := SV) (len := K)
        (T := fun j o => h_r5_Ports_0 (.int .i64 p) (.ptr M0.next 0 0) o (.int .i64 j))
        (I := fun j o M => OutR 4 o M (portSV (portsTo c.links p j)) ∧ M.blk M0.next = some [.agg (cfgC c P L)] ∧ M0.next < M.next ∧ (∀ e a b, o ≠ .own M0.next e a b))
        (Q := fun r => ∃ o M', r = (.exit 0, ⟨(h_r5_Ports_0 (.int .i64 p) (.ptr M0.next 0 0) o (.int .i64 K)).set 20 (.bool false), M'⟩) ∧ OutR 4 o M' (portSV (portsTo c.links p K)))
        (fun j o M hj hI => by
          left
          obtain ⟨i1, i2, i3, i4⟩ := hI
          have := portsTo_len c.links p j
          obtain ⟨M', o', a1, a2, a3, a4, a5⟩ := r5_Ports_step hP hp (s := M0.next) (j := j) (by omega) (by omega) M i2 i3 i1 (by omega) i4
          exact ⟨o', M', a1, by rw [portsTo_succ]; exact a2, a3, a4, a5⟩)
        (fun o M hI => by
          obtain ⟨i1, i2, i3, i4⟩ := hI
          have hb0 := i2
          simp only [cfgC] at hb0
          exact ⟨_, by simp [c_r5_Ports_B0, evW_reg, evW_chkr, isCst, loadS, partS, TK.agg, fieldAddrS, zeroS, storeS, setPart, splice, endS, resS, fieldS, h_r5_Ports_0, hp, ha, hb0, hK], by simp, o, M, rfl, i1⟩) 0 .nilsl ((M0.bump 2).set M0.next (some [.agg (cfgC c P L)])) (by omega) ⟨.inl ⟨rfl, rfl⟩, by simp, by simp, by simp⟩
      simp [h_r5_Ports_0, cfgC] at g1
      refine ⟨o, M1, _, ?_, g2, rfl⟩
      simp [c_r5_Ports, evW_reg, evW_chkr, isCst, loadS, partS, TK.agg, fieldAddrS, zeroS, storeS, setPart, splice, endS, resS, fieldS, cfgC, h1, c_r5_Ports_L0, g1]) (fun items h y hy => by
        subst h
        simp only [portSV, List.mem_map] at hy
        obtain ⟨x, _, rfl⟩ := hy
        rfl)
    subst k2
    exact ⟨y, fun get => callP_of k1 (by simp [hP.npA]), RSl.of_map k5 k6⟩
theorem eqPort (c : Bool) (a b : Port) : eqS ES.P T_api_Port c (encPort a) (encPort b) = some (decide (a = b)) := by
  have h1 : ES.P.stoodInHeld T_api_Port = false := by kernel_rfl
  have h2 : ES.P.eqGuardType ES.P.depth T_api_Port = false := by kernel_rfl
  have h3 : intsOnly ES.P (.struct [(T_int, 0), (T_int, 1), (T_int, 2), (T_int, 3)]) = true := by kernel_rfl
  have h4 : plainNames ES.P T_api_Port = true := by kernel_rfl
  unfold eqS
  rw [ti_api_Port]
  obtain ⟨a1, a2, a3, a4⟩ := a
  obtain ⟨b1, b2, b3, b4⟩ := b
  simp only [encPort, h1, h2, h3, h4]
  simp only [inRow, List.length, eqInts, beq_self_eq_true, Bool.and_true, and_self, if_true, Option.some.injEq]
  by_cases e1 : a1 = b1 <;> by_cases e2 : a2 = b2 <;> by_cases e3 : a3 = b3 <;> by_cases e4 : a4 = b4 <;> simp [e1, e2, e3, e4]
@[simp] theorem eqlPort (c : Bool) (a b : Port) : binS ES.P .eql T_api_Port c (encPort a) (encPort b) = some (.bool (decide (a = b))) := by
  show (match eqS ES.P T_api_Port c (encPort a) (encPort b) with | some b => some (SV.bool b) | none => none) = _
  rw [eqPort]
@[simp] theorem neqPort (c : Bool) (a b : Port) : binS ES.P .neq T_api_Port c (encPort a) (encPort b) = some (.bool (!decide (a = b))) := by
  show (match eqS ES.P T_api_Port c (encPort a) (encPort b) with | some b => some (SV.bool (!b)) | none => none) = _
  rw [eqPort]
theorem agg_port (p : Port) : SV.agg [.int .i64 p.node, .int .i64 p.link, .int .i64 p.gate, .int .i64 p.side] = encPort p := rfl
@[simp] theorem eqlAgg (c : Bool) (a b d e a' b' d' e' : Int) : binS ES.P .eql T_api_Port c (.agg [.int .i64 a, .int .i64 b, .int .i64 d, .int .i64 e]) (.agg [.int .i64 a', .int .i64 b', .int .i64 d', .int .i64 e']) = some (.bool (decide (a = a' ∧ b = b' ∧ d = d' ∧ e = e'))) := by
  have := eqlPort c ⟨a, b, d, e⟩ ⟨a', b', d', e'⟩
  simpa [encPort] using this
@[simp] theorem eqlBool (c a b : Bool) : binS ES.P .eql T_bool c (.bool a) (.bool b) = some (.bool (a == b)) := binS_eqlB ti_bool
set_option maxHeartbeats 4000000 in
theorem l5_same_c (get) {x y : SV} {l : List Port} (hx : Ports x l) (hy : Ports y l) (hb : l.length ≤ 100000) : callP (PCw ES) get n_l5_same [x, y] = some (.bool true) := by
  refine callP_of (PCw_ex (fun M0 => ?_) rfl) (by simp [hx.np12, hy.np12])
  rw [b_l5_same]
  have l1 := hx.lenS ti_sl_api_Port
  have l2 := hy.lenS ti_sl_api_Port
  obtain ⟨r, g1, M', g2⟩ := loop_up (E := ES) (me := n_l5_same) (B := c_l5_same_B0) (len := l.length) (T := fun j => h_l5_same_0 x y (.int .i64 j)) (I := fun _ _ => True)
    (Q := fun r => ∃ M', r = (.exit 0, ⟨(h_l5_same_0 x y (.int .i64 l.length)).set 14 (.bool false), M'⟩))
    (fun j M hj _ => by
      left
      have hw : IntKind.i64.wrap ((j : Int) + 1) = (j : Int) + 1 := i64_in (by omega) (by omega)
      have a1 := Ports.at hx hj
      have a2 := Ports.at hy hj
      exact ⟨M, by simp [c_l5_same_B0, evW_reg, evW_chkr, isCst, loadS, partS, TK.agg, fieldAddrS, zeroS, storeS, setPart, splice, endS, resS, fieldS, h_l5_same_0, l1, l2, hj, a1, a2, hw], trivial⟩)
    (fun M _ => ⟨_, by simp [c_l5_same_B0, evW_reg, evW_chkr, isCst, loadS, partS, TK.agg, fieldAddrS, zeroS, storeS, setPart, splice, endS, resS, fieldS, h_l5_same_0, l1, l2], by simp, M, rfl⟩) 0 M0 (by omega) trivial
  subst g2
  simp [h_l5_same_0] at g1
  simp [c_l5_same, evW_reg, evW_chkr, isCst, loadS, partS, TK.agg, fieldAddrS, zeroS, storeS, setPart, splice, endS, resS, fieldS, l1, l2, c_l5_same_L0, g1]
set_option maxHeartbeats 8000000 in
theorem PlanTells_walk (xs0 xs1 xs2 : List SV) (h0 : WT ES.P 8 T_api_Config xs0) (h1 : WT ES.P 8 T_int xs1) (h2 : WT ES.P 8 T_int xs2) :
    ∃ M', ICw ES n_l5_PlanTells [mkV ES.P T_api_Config xs0, mkV ES.P T_int xs1, mkV ES.P T_int xs2] .empty = some (.bool true, M') := by
  obtain ⟨c, hc, _⟩ := cfg_of h0
  obtain ⟨part, _, e1, _⟩ := WT_int ti_int h1
  obtain ⟨node, _, e2, _⟩ := WT_int ti_int h2
  rw [e1, e2]
  generalize mkV ES.P T_api_Config xs0 = y at hc ⊢
  obtain ⟨P, L, rfl, hP⟩ := hc
  rw [b_l5_PlanTells]
  have k1 := fun get => l5_small_c get hP
  have k2 := fun get => plan_Port_c get hP part node
  have k3 := fun get => r5_Port_c get hP part node
  have k4 := fun get => plan_Far_c get hP part node
  have k5 := fun get => r5_Far_c get hP part node
  obtain ⟨y1, k6, q1⟩ := plan_Ports_c hP part
  obtain ⟨y2, k7, q2⟩ := r5_Ports_c hP part
  have hl : (portsG c part).length ≤ 100000 := by
    unfold portsG portsL
    split
    · rename_i hr
      have := List.length_filterMap_le (fun i : Nat => findPort c.links part (i : Int)) (List.range (nodesAt c part).toNat)
      simp only [Bool.and_eq_true] at hr
      have := nodesAt_le (checkG_zero (by simpa [rightC] using hr.1)) part
      simp at *
      omega
    · simp
  have k8 := fun get => l5_same_c get q1 q2 hl
  simp only [cfgC] at k1 k2 k3 k4 k5 k6 k7
  by_cases h : smallC c
  · unfold farO at k4 k5
    cases hp : portG c part node with
    | none =>
      rw [hp] at k2 k3 k4 k5
      simp [c_l5_PlanTells, evW_reg, evW_chkr, isCst, loadS, partS, TK.agg, fieldAddrS, zeroS, storeS, setPart, splice, endS, resS, fieldS, cfgC, k1, k2, k3, k4, k5, k6, k7, k8, h, portO, Nat.add_assoc]
    | some q =>
      rw [hp] at k2 k3 k4 k5
      simp [c_l5_PlanTells, evW_reg, evW_chkr, isCst, loadS, partS, TK.agg, fieldAddrS, zeroS, storeS, setPart, splice, endS, resS, fieldS, cfgC, k1, k2, k3, k4, k5, k6, k7, k8, h, portO, Nat.add_assoc]
  · simp [c_l5_PlanTells, evW_reg, evW_chkr, isCst, loadS, partS, TK.agg, fieldAddrS, zeroS, storeS, setPart, splice, endS, resS, fieldS, cfgC, k1, h]

end Go.Proofs.YtbdliphlolajaaaDoor
