/-
  Walks of the seat's functions: Wb.
-/
import Derived.Test.YtljjmdcdlcefmaaGreatDoorEbMa
import Derived.Test.YtljjmdcdlcefmaaGreatDoorShMb
import Derived.Test.YtljjmdcdlcefmaaGreatDoorLzMd
import Derived.Test.YtljjmdcdlcefmaaGreatDoorLWa
set_option linter.unusedVariables false
set_option linter.unusedSimpArgs false
set_option maxRecDepth 100000
namespace Go.Proofs.YtljjmdcdlcefmaaGreatDoor
open Go.Proofs.YtljjmdcdlcefmaaGreatDoor.Sh
/-! The law PlanTells. -/
def portG (c : Cfg) (part node : Int) : Option Port := if rightC c && decide (inMany part c.parts.length) then findPort c.links part node else none
theorem find_range {α : Type} (p : α → Bool) (l : List α) : l.find? p = ((List.range l.length).find? (fun j => (l[j]?.map p).getD false)).bind fun j => l[j]? := by
  cases h : (List.range l.length).find? (fun j => (l[j]?.map p).getD false) with
  | none =>
    rw [List.find?_range_eq_none] at h
    rw [Option.bind_none, List.find?_eq_none]
    intro x hx
    obtain ⟨j, hj, rfl⟩ := List.mem_iff_getElem.1 hx
    simpa [hj] using h j hj
  | some j =>
    rw [List.find?_range_eq_some] at h
    obtain ⟨h1, h2, h3⟩ := h
    have hlt : j < l.length := by simpa using h2
    simp [hlt] at h1
    rw [Option.bind_some, List.getElem?_eq_getElem hlt, List.find?_eq_some_iff_getElem]
    exact ⟨h1, j, hlt, rfl, fun i hi => by simpa [show i < l.length by omega] using h3 i hi⟩
theorem portsG_find {c : Cfg} (part n : Int) : (portsG c part).find? (fun p => decide (p.node = n)) = portG c part n := by
  unfold portsG portG
  cases hr : rightC c with
  | false => simp
  | true =>
    by_cases hp : inMany part c.parts.length
    · simp only [hp, decide_true, Bool.and_self, if_true]
      exact portsL_find (portsOk_of (checkG_zero (by simpa [rightC] using hr)) part) n
    · simp [hp]
set_option maxHeartbeats 4000000 in
theorem r5_Port_c (get) {P L : SV} {c : Cfg} (hP : CfgP c P L) (part node : Int) : callP (PCw ES) get n_r5_Port [.agg (cfgC c P L), .int .i64 part, .int .i64 node] = some (portO (portG c part node)) := by
  refine callP_of (PCw_ex (fun M0 => ?_) rfl) (by simp [hP.npA])
  rw [b_r5_Port]
  have h1 := fun get => r5_Good_c get hP part
  have h2 := fun get => r5_port_c get hP part node (Nat.le_refl _)
  have hlen := hP.l.lenS ti_sl_api_Link
  rw [List.take_length] at h2
  simp only [cfgC] at h1 h2
  unfold portG
  cases hg : (rightC c && decide (inMany part c.parts.length)) with
  | false =>
    rw [hg] at h1
    have b : bldS ES.P T_api_Port [] = some (encPort ⟨0, 0, 0, 0⟩) := by simp [bldS, placesOf, buildS, encPort]
    simp [c_r5_Port, evW_reg, evW_chkr, evW_chfr, isCst, loadS, partS, TK.agg, fieldAddrS, zeroS, storeS, setPart, splice, endS, resS, fieldS, cfgC, h1, b, portO]
    rfl
  | true =>
    rw [hg] at h1
    simp [c_r5_Port, evW_reg, evW_chkr, evW_chfr, isCst, loadS, partS, TK.agg, fieldAddrS, zeroS, storeS, setPart, splice, endS, resS, fieldS, cfgC, h1, hlen, h2, portO]
/-- A port's other side. -/
def farOf (ls : List Link) (p : Port) : Int × Int :=
  match ls[p.link.toNat]? with
  | some l => if p.side = 0 then (l.b, if p.gate = 0 then l.pb0 else l.pb1) else (l.a, if p.gate = 0 then l.pa0 else l.pa1)
  | none => (0, 0)
def PortIn (ls : List Link) (p : Port) : Prop := (∃ j : Nat, j < ls.length ∧ p.link = j) ∧ (p.gate = 0 ∨ p.gate = 1) ∧ (p.side = 0 ∨ p.side = 1)
theorem portOfLink_in {i : Nat} {l : Link} {part n : Int} {p : Port} (h : portOfLink i l part n = some p) : p.link = i ∧ (p.gate = 0 ∨ p.gate = 1) ∧ (p.side = 0 ∨ p.side = 1) := by
  unfold portOfLink at h
  split at h
  · cases h; simp
  split at h
  · cases h; simp
  split at h
  · cases h; simp
  split at h
  · cases h; simp
  · cases h
theorem findPort_in {ls : List Link} {part n : Int} {p : Port} (h : findPort ls part n = some p) : PortIn ls p := by
  unfold findPort at h
  split at h
  · rename_i j hj
    rw [List.find?_range_eq_some] at hj
    obtain ⟨_, h2, _⟩ := hj
    have hlt : j < ls.length := by simpa using h2
    simp [hlt] at h
    obtain ⟨h3, h4⟩ := portOfLink_in h
    exact ⟨⟨j, hlt, h3⟩, h4⟩
  · cases h
theorem portG_in {c : Cfg} {part n : Int} {p : Port} (h : portG c part n = some p) : PortIn c.links p := by
  unfold portG at h
  split at h
  · exact findPort_in h
  · cases h
set_option maxHeartbeats 4000000 in
theorem plan_Other_c (get) {P L : SV} {c : Cfg} (hP : CfgP c P L) {p : Port} (h : PortIn c.links p) :
    callP (PCw ES) get n_plan_Other [.agg (cfgC c P L), encPort p] = some (.tup [.int .i64 (farOf c.links p).1, .int .i64 (farOf c.links p).2]) := by
  obtain ⟨n, lk, g, s⟩ := p
  obtain ⟨⟨j, hj, e⟩, hg, hs⟩ := h
  simp only at e hg hs
  subst e
  refine callP_of (PCw_ex (fun M0 => ?_) rfl) (by simp [hP.npA, encPort_np])
  rw [b_plan_Other]
  have ha := Links.at hP.l hj
  have hc := fun get s => plan_end_c get c.links[j] s
  have hw0 : IntKind.i64.wrap 1 = 1 := by decide
  have hw1 : IntKind.i64.wrap 0 = 0 := by decide
  rcases hg with rfl | rfl <;> rcases hs with rfl | rfl <;> simp [c_plan_Other, evW_reg, evW_chkr, evW_chfr, isCst, loadS, partS, TK.agg, fieldAddrS, zeroS, storeS, setPart, splice, endS, resS, fieldS, cfgC, ha, hj, hc, endOf, farOf, hw0, hw1, encPort]

end Go.Proofs.YtljjmdcdlcefmaaGreatDoor

/-
  Walks of the seat's functions: Wd.
-/
set_option linter.unusedVariables false
set_option linter.unusedSimpArgs false
set_option maxRecDepth 100000
namespace Go.Proofs.YtljjmdcdlcefmaaGreatDoor
open Go.Proofs.YtljjmdcdlcefmaaGreatDoor.Sh
/-! The law PlanTells: the document's ports; two equal lists. -/
/-- Blocks but for the one that a list was in are as they were. -/
def Kept (o : SV) (M M' : Mem) : Prop := ∀ id, id < M.next → (∀ e a b, o ≠ .own id e a b) → M'.blk id = M.blk id
theorem Kept.of_old {o : SV} {M M' : Mem} (h : Old M M') : Kept o M M' := fun id hid _ => h id hid
theorem killO_other {o : SV} {X : Mem} {s : Nat} (hne : ∀ e a b, o ≠ .own s e a b) : (X.sets (killO o)).blk s = X.blk s := by
  cases o <;> simp [killO, Mem.sets]
  rename_i id e a b
  intro hh
  subst hh
  exact absurd rfl (hne e a b)
/-- An item more at the end of a list in own memory. -/
theorem OutR.next {P : Program} {get : Nat → Option (List SV)} {o : SV} {M X : Mem} {items : List SV} {a s t e s1 b1 : Nat} {z1 : Option SV} {te : TI} {z v : SV} (ht : tiOf P t = some ⟨.slice e, s1, b1, z1⟩) (hte : tiOf P e = some te)
    (hz : te.zero = some z) (h0 : 0 < te.size) (hsz : z.sto = true) (hc : z.cells.length = te.size) (hI : OutR te.size o M items) (h1 : (items.length + 1) * te.bytes ≤ 140737488355328) (h2 : items.length + 1 ≤ 140737488355328)
    (hg : ∀ id, id < M.next → get id = M.blk id) (hv : v.cells.length = te.size) (hs : get s = some [v]) (hX : Old M X) (hXn : a < X.next) (hMa : M.next ≤ a) :
    ∃ o' X', appendS P get a t t o (.own s te.size 0 1) = some (o', killO o ++ [(a, some (items ++ [v]))]) ∧ (X.sets (killO o)).set a (some (items ++ [v])) = X' ∧ OutR te.size o' X' (items ++ [v]) ∧ Kept o M X' ∧ X'.next = X.next ∧ (∀ id e a b, o' = .own id e a b → M.next ≤ id) := by
  refine ⟨_, _, OutR.app ht hte hz h0 hsz hc hI h1 h2 hg hv hs, rfl, ?_, ?_, by simp, ?_⟩
  · exact OutR.snoc (by simp) (by simpa using hXn)
  · intro id hid hne
    rw [Mem.blk_set, if_neg (by omega), killO_other hne]
    exact hX id hid
  · intro id e a' b h
    cases h
    exact hMa
def portsTo (ls : List Link) (part : Int) (k : Nat) : List Port := (List.range k).filterMap fun i : Nat => findPort ls part (i : Int)
theorem portsTo_len (ls : List Link) (part : Int) (k : Nat) : (portsTo ls part k).length ≤ k := by
  have := List.length_filterMap_le (fun i : Nat => findPort ls part (i : Int)) (List.range k)
  simpa [portsTo] using this
theorem portsTo_succ (ls : List Link) (part : Int) (k : Nat) : portsTo ls part (k + 1) = portsTo ls part k ++ (findPort ls part k).toList := by
  simp only [portsTo, List.range_succ, List.filterMap_append]
  cases h : findPort ls part k <;> simp [h]
set_option maxHeartbeats 4000000 in
theorem r5_Ports_step {P L : SV} {c : Cfg} (hP : CfgP c P L) {p : Nat} (hp : p < c.parts.length) {s j : Nat} (hj : (j : Int) < c.parts[p].nodes) (hj2 : j ≤ 1000) (M : Mem) {o : SV} {items : List Port} (hs : M.blk s = some [.agg (cfgC c P L)]) (hls : s < M.next)
    (hO : OutR 4 o M (portSV items)) (hlen : items.length ≤ 1000) (hne : ∀ e a b, o ≠ .own s e a b) :
    ∃ M' o', evW ES n_r5_Ports c_r5_Ports_B0 ⟨h_r5_Ports_0 (.int .i64 p) (.ptr s 0 0) o (.int .i64 j), M⟩ = some (.normal, ⟨h_r5_Ports_0 (.int .i64 p) (.ptr s 0 0) o' (.int .i64 ((j + 1 : Nat) : Int)), M'⟩) ∧
      OutR 4 o' M' (portSV (items ++ (findPort c.links p j).toList)) ∧ M'.blk s = some [.agg (cfgC c P L)] ∧ s < M'.next ∧ (∀ e a b, o' ≠ .own s e a b) := by
  have hw : IntKind.i64.wrap ((j : Int) + 1) = (j : Int) + 1 := i64_in (by omega) (by omega)
  have ha := Parts.at hP.p hp
  have hlenl := hP.l.lenS ti_sl_api_Link
  have h2 := fun get => r5_port_c get hP p j (Nat.le_refl _)
  rw [List.take_length] at h2
  have hb0 := hs
  simp only [cfgC] at h2 hb0
  have hns : ∀ k, (s = M.next + k) = False := fun k => by simp; omega
  cases hf : findPort c.links p j with
  | none =>
    rw [hf] at h2
    refine ⟨(M.bump 13).set (M.next + 10) (some [encPort ⟨0, 0, 0, 0⟩]), o, ?_, ?_, by simp [hns, hs], by simp; omega, hne⟩
    · simp [c_r5_Ports_B0, evW_reg, evW_chkr, evW_chfr, isCst, loadS, partS, TK.agg, fieldAddrS, zeroS, storeS, setPart, splice, endS, resS, fieldS, h_r5_Ports_0, hp, ha, hj, hb0, h2, hlenl, portO, hns, hw]
    · simp only [Option.toList_none, List.append_nil]
      exact hO.old (by simp) (by simp)
  | some q =>
    rw [hf] at h2
    have hap := OutR.next (P := ES.P) (o := o) (M := M) (X := ((M.bump 13).set (M.next + 10) (some [encPort q])).bump 5 |>.set (M.next + 13 + 2) (some [encPort q])) (items := portSV items) (a := M.next + 13 + 3) (s := M.next + 13 + 2) (v := encPort q)
      (get := (((M.bump 13).set (M.next + 10) (some [encPort q])).bump 5 |>.set (M.next + 13 + 2) (some [encPort q])).blk) ti_sl_api_Port ti_api_Port rfl (by decide) rfl rfl hO (by simp [portSV]; omega) (by simp [portSV]; omega)
      (fun id hid => by
        have h1 : ¬ (id = M.next + 13 + 2) := by omega
        have h2 : ¬ (id = M.next + 10) := by omega
        simp [h1, h2]) rfl (by simp) (by simp) (by simp) (by omega)
    obtain ⟨o', X', a1, a2, a3, a4, a5, a6⟩ := hap
    have b : bldSl ES.P T_sl_api_Port 1 (M.next + 13 + 2) [(0, encPort q)] = some (.own (M.next + 13 + 2) 4 0 1, [encPort q]) := by simp [bldSl, buildRow]
    refine ⟨X', o', ?_, ?_, ?_, by rw [a5]; simp; omega, fun e a b h => by have := a6 _ _ _ _ h; omega⟩
    · simp at a2 a1
      simp [c_r5_Ports_B0, evW_reg, evW_chkr, evW_chfr, isCst, loadS, partS, TK.agg, fieldAddrS, zeroS, storeS, setPart, splice, endS, resS, fieldS, h_r5_Ports_0, hp, ha, hj, hb0, h2, hlenl, portO, hns, hw, b, a1, a2]
    · simp only [Option.toList_some]
      rw [portSV_append]
      exact a3
    · rw [a4 s hls hne]
      exact hs
set_option maxHeartbeats 4000000 in
theorem r5_Ports_c {P L : SV} {c : Cfg} (hP : CfgP c P L) (part : Int) :
    ∃ y, (∀ get, callP (PCw ES) get n_r5_Ports [.agg (cfgC c P L), .int .i64 part] = some y) ∧ Ports y (portsG c part) := by
  have h1 := fun get => r5_Good_c get hP part
  simp only [cfgC] at h1
  cases hg : (rightC c && decide (inMany part c.parts.length)) with
  | false =>
    rw [hg] at h1
    refine ⟨.nilsl, fun get => callP_of (PCw_ex (fun M0 => ?_) rfl) (by simp [hP.npA]), by simp only [portsG, hg]; exact RSl.nil _⟩
    rw [b_r5_Ports]
    simp [c_r5_Ports, evW_reg, evW_chkr, evW_chfr, isCst, loadS, partS, TK.agg, fieldAddrS, zeroS, storeS, setPart, splice, endS, resS, fieldS, cfgC, h1]
  | true =>
    rw [hg] at h1
    have hg2 := hg
    simp only [Bool.and_eq_true, decide_eq_true_eq] at hg2
    obtain ⟨hr, hin⟩ := hg2
    unfold inMany at hin
    obtain ⟨p, rfl⟩ : ∃ p : Nat, part = p := ⟨part.toNat, by omega⟩
    have hp : p < c.parts.length := by omega
    have hn : nodesAt c p = c.parts[p].nodes := by simp [nodesAt, hp]
    have hnb := nodesAt_le (checkG_zero (by simpa [rightC] using hr)) p
    rw [hn] at hnb
    have ha := Parts.at hP.p hp
    have e : portsG c p = portsTo c.links p c.parts[p].nodes.toNat := by
      simp only [portsG, hg, if_true]
      rw [hn]
      rfl
    rw [e]
    have hK : c.parts[p].nodes = ((c.parts[p].nodes.toNat : Nat) : Int) := by omega
    generalize c.parts[p].nodes.toNat = K at *
    obtain ⟨y, items, k1, k2, k5, k6, k7⟩ := PCw_out (E := ES) (f := n_r5_Ports) (esz := 4) (args := [.agg (cfgC c P L), .int .i64 p]) (Pr := fun items => items = portSV (portsTo c.links p K)) (fun M0 => by
      rw [b_r5_Ports]
      obtain ⟨r, g1, o, M1, rfl, g2⟩ := loop_st (E := ES) (me := n_r5_Ports) (B := c_r5_Ports_B0) (β := SV) (len := K)
        (T := fun j o => h_r5_Ports_0 (.int .i64 p) (.ptr M0.next 0 0) o (.int .i64 j))
        (I := fun j o M => OutR 4 o M (portSV (portsTo c.links p j)) ∧ M.blk M0.next = some [.agg (cfgC c P L)] ∧ M0.next < M.next ∧ (∀ e a b, o ≠ .own M0.next e a b))
        (Q := fun r => ∃ o M', r = (.exit 0, ⟨(h_r5_Ports_0 (.int .i64 p) (.ptr M0.next 0 0) o (.int .i64 K)).set 20 (.bool false), M'⟩) ∧ OutR 4 o M' (portSV (portsTo c.links p K)))
        (fun j o M hj hI => by
          left
          obtain ⟨i1, i2, i3, i4⟩ := hI
          have := portsTo_len c.links p j
          obtain ⟨M', o', a1, a2, a3, a4, a5⟩ := r5_Ports_step hP hp (s := M0.next) (j := j) (by omega) (by omega) M i2 i3 i1 (by omega) i4
          exact ⟨o', M', a1, by rw [portsTo_succ]; exact a2, a3, a4, a5⟩)
        (fun o M hI => by
          obtain ⟨i1, i2, i3, i4⟩ := hI
          have hb0 := i2
          simp only [cfgC] at hb0
          exact ⟨_, by simp [c_r5_Ports_B0, evW_reg, evW_chkr, evW_chfr, isCst, loadS, partS, TK.agg, fieldAddrS, zeroS, storeS, setPart, splice, endS, resS, fieldS, h_r5_Ports_0, hp, ha, hb0, hK], by simp, o, M, rfl, i1⟩) 0 .nilsl ((M0.bump 2).set M0.next (some [.agg (cfgC c P L)])) (by omega) ⟨.inl ⟨rfl, rfl⟩, by simp, by simp, by simp⟩
      simp [h_r5_Ports_0, cfgC] at g1
      refine ⟨o, M1, _, ?_, g2, rfl⟩
      simp [c_r5_Ports, evW_reg, evW_chkr, evW_chfr, isCst, loadS, partS, TK.agg, fieldAddrS, zeroS, storeS, setPart, splice, endS, resS, fieldS, cfgC, h1, c_r5_Ports_L0, g1]) (fun items h y hy => by
        subst h
        simp only [portSV, List.mem_map] at hy
        obtain ⟨x, _, rfl⟩ := hy
        rfl)
    subst k2
    exact ⟨y, fun get => callP_of k1 (by simp [hP.npA]), RSl.of_map k5 k6⟩
theorem eqPort (c : Bool) (a b : Port) : eqS ES.P T_api_Port c (encPort a) (encPort b) = some (decide (a = b)) := by
  have h1 : ES.P.stoodInHeld T_api_Port = false := by kernel_rfl
  have h2 : ES.P.eqGuardType ES.P.depth T_api_Port = false := by kernel_rfl
  have h3 : intsOnly ES.P (.struct [(T_int, 0), (T_int, 1), (T_int, 2), (T_int, 3)]) = true := by kernel_rfl
  have h4 : plainNames ES.P T_api_Port = true := by kernel_rfl
  unfold eqS
  rw [ti_api_Port]
  obtain ⟨a1, a2, a3, a4⟩ := a
  obtain ⟨b1, b2, b3, b4⟩ := b
  simp only [encPort, h1, h2, h3, h4]
  simp only [inRow, List.length, eqInts, beq_self_eq_true, Bool.and_true, and_self, if_true, Option.some.injEq]
  by_cases e1 : a1 = b1 <;> by_cases e2 : a2 = b2 <;> by_cases e3 : a3 = b3 <;> by_cases e4 : a4 = b4 <;> simp [e1, e2, e3, e4]
@[simp] theorem eqlPort (c : Bool) (a b : Port) : binS ES.P .eql T_api_Port c (encPort a) (encPort b) = some (.bool (decide (a = b))) := by
  show (match eqS ES.P T_api_Port c (encPort a) (encPort b) with | some b => some (SV.bool b) | none => none) = _
  rw [eqPort]
@[simp] theorem neqPort (c : Bool) (a b : Port) : binS ES.P .neq T_api_Port c (encPort a) (encPort b) = some (.bool (!decide (a = b))) := by
  show (match eqS ES.P T_api_Port c (encPort a) (encPort b) with | some b => some (SV.bool (!b)) | none => none) = _
  rw [eqPort]
theorem agg_port (p : Port) : SV.agg [.int .i64 p.node, .int .i64 p.link, .int .i64 p.gate, .int .i64 p.side] = encPort p := rfl
@[simp] theorem eqlAgg (c : Bool) (a b d e a' b' d' e' : Int) : binS ES.P .eql T_api_Port c (.agg [.int .i64 a, .int .i64 b, .int .i64 d, .int .i64 e]) (.agg [.int .i64 a', .int .i64 b', .int .i64 d', .int .i64 e']) = some (.bool (decide (a = a' ∧ b = b' ∧ d = d' ∧ e = e'))) := by
  have := eqlPort c ⟨a, b, d, e⟩ ⟨a', b', d', e'⟩
  simpa [encPort] using this
@[simp] theorem eqlBool (c a b : Bool) : binS ES.P .eql T_bool c (.bool a) (.bool b) = some (.bool (a == b)) := binS_eqlB ti_bool

end Go.Proofs.YtljjmdcdlcefmaaGreatDoor

/-
  Walks of the seat's functions: Md.
-/
set_option linter.unusedVariables false
set_option linter.unusedSimpArgs false
set_option maxRecDepth 100000
namespace Go.Proofs.YtljjmdcdlcefmaaGreatDoor
open Go.Proofs.YtljjmdcdlcefmaaGreatDoor.Sh
/-! A network by a small number: how its links are made. -/
theorem pic_cfg {get : Nat → Option (List SV)} {st : Bool} {c : Cfg} {P L P' L' : SV} (hP : pic get st 11 P = some P') (hL : pic get st 11 L = some L') : pic get st picDepth (.agg (cfgC c P L)) = some (.agg (cfgC c P' L')) := by
  have hpv : ∀ {v v' : SV}, Sh.pv v = true → pic get st 11 v = some v' → v' = v := fun {v v'} h1 h2 => by
    unfold pic at h2
    rw [if_pos h1] at h2
    simpa using h2.symm
  have hi : ∀ n : Int, pic get st 11 (.int .i64 n) = some (.int .i64 n) := fun n => pic_np (by simp)
  unfold picDepth
  rw [pic]
  by_cases h : Sh.pv (.agg (cfgC c P L)) = true
  · rw [if_pos h]
    simp only [Sh.pv, cfgC, pvs, Bool.and_eq_true] at h
    rw [hpv h.1 hP, hpv h.2.1 hL]
  · rw [if_neg h]
    simp only [cfgC, List.mapM_cons, List.mapM_nil, hP, hL, hi]
    rfl
/-- A list in own memory, as a call sees it. -/
theorem OutR.pic11 {get : Nat → Option (List SV)} {esz : Nat} {o : SV} {M : Mem} {items : List SV} (h : OutR esz o M items) (hg : ∀ id e a b, o = .own id e a b → get id = M.blk id) (hp : ∀ x ∈ items, Sh.pv x = true) (st : Bool := false) :
    ∃ y, pic get st 11 o = some y ∧ isSl y = true ∧ its y = items ∧ (st = true → Sh.pv y = true) := by
  rcases h with ⟨rfl, rfl⟩ | ⟨id, rfl, hid, _⟩
  · exact ⟨.nilsl, pic_np rfl, rfl, rfl, fun _ => rfl⟩
  · have hgid : get id = some items := (hg id _ _ _ rfl).trans hid
    refine ⟨.sl items (if st then .ro else .snap), ?_, rfl, rfl, fun h => ?_⟩
    · unfold pic
      simp only [Sh.pv, Bool.false_eq_true, if_false, hgid, Nat.zero_add, Nat.le_refl, if_true, List.drop_zero, List.take_length]
      rw [mapM_id fun x hx => pic_np (np_of_pv (hp x hx) _)]
    · subst h
      have : pvs items = true := by
        clear hgid hid hg
        induction items with
        | nil => rfl
        | cons x r ih => simp only [pvs, hp x (by simp), ih (fun y hy => hp y (by simp [hy])), Bool.and_self]
      simp [Sh.pv, this]
def partSV (l : List Part) : List SV := l.map encPart
def linkSV (l : List Link) : List SV := l.map encLink
theorem partSV_pv {l : List Part} : ∀ x ∈ partSV l, Sh.pv x = true := fun x hx => by
  simp only [partSV, List.mem_map] at hx
  obtain ⟨y, _, rfl⟩ := hx
  rfl
theorem linkSV_pv {l : List Link} : ∀ x ∈ linkSV l, Sh.pv x = true := fun x hx => by
  simp only [linkSV, List.mem_map] at hx
  obtain ⟨y, _, rfl⟩ := hx
  rfl
/-- How many ports a part has. -/
def portsN (ls : List Link) (part : Int) : Nat := 2 * (ls.filter fun l => decide (l.a = part ∨ l.b = part)).length
theorem portsN_le (ls : List Link) (part : Int) : portsN ls part ≤ 2 * ls.length := by
  have := List.length_filter_le (fun l : Link => decide (l.a = part ∨ l.b = part)) ls
  unfold portsN
  omega
theorem portsN_take {ls : List Link} {part : Int} {j : Nat} (h : j < ls.length) : portsN (ls.take (j + 1)) part = portsN (ls.take j) part + (if ls[j].a = part ∨ ls[j].b = part then 2 else 0) := by
  unfold portsN
  rw [List.take_succ_eq_append_getElem h, List.filter_append, List.length_append]
  by_cases hp : ls[j].a = part ∨ ls[j].b = part
  · simp [hp, Nat.mul_add]
  · simp [hp]
set_option maxHeartbeats 4000000 in
theorem r26_ports_ok {P L : SV} {c : Cfg} (hP : CfgP c P L) (hl : c.links.length ≤ 1000000) (part : Int) : PCw ES n_r26_ports [.agg (cfgC c P L), .int .i64 part] = some (.int .i64 (portsN c.links part)) := by
  refine PCw_ex (fun M0 => ?_) rfl
  rw [b_r26_ports]
  have hlen := hP.l.lenS ti_sl_api_Link
  obtain ⟨r, g1, M', g2⟩ := loop_up (E := ES) (me := n_r26_ports) (B := c_r26_ports_B0) (len := c.links.length) (T := fun j => h_r26_ports_0 (.int .i64 part) (.ptr M0.next 0 0) (.int .i64 (portsN (c.links.take j) part)) (.int .i64 j))
    (I := fun _ M => M.blk M0.next = some [.agg (cfgC c P L)] ∧ M0.next < M.next)
    (Q := fun r => ∃ M', r = (.exit 0, ⟨(h_r26_ports_0 (.int .i64 part) (.ptr M0.next 0 0) (.int .i64 (portsN (c.links.take c.links.length) part)) (.int .i64 c.links.length)).set 11 (.bool false), M'⟩))
    (fun j M hj ⟨hb, hlt⟩ => by
      left
      have ha := Links.at hP.l hj
      have hw : IntKind.i64.wrap ((j : Int) + 1) = (j : Int) + 1 := i64_in (by omega) (by omega)
      have hb0 := hb
      simp only [cfgC] at hb0
      have hpn := portsN_le (c.links.take j) part
      have hpn2 : (c.links.take j).length ≤ 1000000 := by simp; omega
      have hw2 : IntKind.i64.wrap ((portsN (c.links.take j) part : Int) + 2) = (portsN (c.links.take j) part : Int) + 2 := i64_in (by omega) (by omega)
      refine ⟨M, ?_, hb, hlt⟩
      rw [portsN_take hj]
      generalize portsN (c.links.take j) part = q at hw2 ⊢
      by_cases h1 : c.links[j].a = part
      · simp [c_r26_ports_B0, evW_reg, evW_chkr, evW_chfr, isCst, loadS, partS, TK.agg, fieldAddrS, zeroS, storeS, setPart, splice, endS, resS, fieldS, h_r26_ports_0, hlen, hj, ha, hb0, h1, hw, hw2]
      · by_cases h2 : c.links[j].b = part
        · simp [c_r26_ports_B0, evW_reg, evW_chkr, evW_chfr, isCst, loadS, partS, TK.agg, fieldAddrS, zeroS, storeS, setPart, splice, endS, resS, fieldS, h_r26_ports_0, hlen, hj, ha, hb0, h1, h2, hw, hw2]
        · simp [c_r26_ports_B0, evW_reg, evW_chkr, evW_chfr, isCst, loadS, partS, TK.agg, fieldAddrS, zeroS, storeS, setPart, splice, endS, resS, fieldS, h_r26_ports_0, hlen, hj, ha, hb0, h1, h2, hw])
    (fun M ⟨hb, hlt⟩ => by
      have hb0 := hb
      simp only [cfgC] at hb0
      exact ⟨_, by simp [c_r26_ports_B0, evW_reg, evW_chkr, evW_chfr, isCst, loadS, partS, TK.agg, fieldAddrS, zeroS, storeS, setPart, splice, endS, resS, fieldS, h_r26_ports_0, hlen, hb0], by simp, M, rfl⟩) 0 ((M0.bump 2).set M0.next (some [.agg (cfgC c P L)])) (by omega) (by simp)
  subst g2
  rw [List.take_length] at g1
  have z0 : portsN (c.links.take 0) part = 0 := rfl
  rw [z0] at g1
  simp [h_r26_ports_0, cfgC] at g1
  simp [c_r26_ports, evW_reg, evW_chkr, evW_chfr, isCst, loadS, partS, TK.agg, fieldAddrS, zeroS, storeS, setPart, splice, endS, resS, fieldS, cfgC, c_r26_ports_L0, g1]
/-- A link more: its ports are the next ones; each end keeps four nodes that are no ports. -/
def joinL (ls : List Link) (a b : Int) : Link := ⟨a, b, portsN ls a, portsN ls a + 1, portsN ls b, portsN ls b + 1⟩
def grow (x : Nat) (p : Part) : Part := { p with nodes := max p.nodes ((x : Int) + 6) }
def joinP (ps : List Part) (ls : List Link) (a b : Nat) : List Part := (ps.modify a (grow (portsN ls a))).modify b (grow (portsN ls b))
theorem storeS_own {P : Program} {get : Nat → Option (List SV)} {t id i o : Nat} {v x x' : SV} {items : List SV} {ti : TI} (ht : tiOf P t = some ti) (hg : get id = some items) (hi : items[i]? = some x) (hv : v.sto = true) (hc : v.cells.length = ti.size) (hs : setPart x o v = some x') :
    storeS P get t (.ptr id i o) v = some [(id, some (items.set i x'))] := by
  simp [storeS, ht, hg, hi, hv, hc, hs]
theorem loadS_own {P : Program} {get : Nat → Option (List SV)} {t id i o : Nat} {x y : SV} {items : List SV} {ti : TI} (ht : tiOf P t = some ti) (hg : get id = some items) (hi : items[i]? = some x) (hp : partS ti x o = some y) :
    loadS P get t (.ptr id i o) = some y := by
  simp [loadS, ht, hg, hi, hp]
theorem ownP_ix {q len j : Nat} (h : j < len) : indexAddrS ES.P T_sl_api_Part (.own q 2 0 len) (.int .i64 j) = some (.ptr q j 0) := by simp [indexAddrS, natS, h]
theorem partSV_set (l : List Part) (i : Nat) (f : Part → Part) (h : i < l.length) : (partSV l).set i (encPart (f l[i])) = partSV (l.modify i f) := by
  unfold partSV
  rw [← List.map_set, List.modify_eq_set]
  simp [h]
set_option maxHeartbeats 8000000 in
theorem joined_ok {c : Cfg} {L : SV} {cid pid a b : Nat} {M : Mem} (hc : M.blk cid = some [.agg (cfgC c (.own pid 2 0 c.parts.length) L)]) (hpid : M.blk pid = some (partSV c.parts)) (hL : OutR 6 L M (linkSV c.links))
    (h1 : cid < M.next) (h2 : pid < M.next) (hne : cid ≠ pid) (hLp : ∀ e a b, L ≠ .own pid e a b) (ha : a < c.parts.length) (hb : b < c.parts.length) (hab : a ≠ b) (hl : c.links.length ≤ 1000) (hpl : c.parts.length ≤ 1000) :
    ∃ M', ICw ES n_r26_joined [.ptr cid 0 0, .int .i64 a, .int .i64 b] M = some (encLink (joinL c.links a b), M') ∧ M'.blk pid = some (partSV (joinP c.parts c.links a b)) ∧ (∀ id, id < M.next → id ≠ pid → M'.blk id = M.blk id) ∧ M.next ≤ M'.next := by
  rw [b_r26_joined]
  have hP2 : OutR 2 (.own pid 2 0 c.parts.length) M (partSV c.parts) := .inr ⟨pid, by simp [partSV], hpid, h2⟩
  have hcall : ∀ (get : Nat → Option (List SV)) (part : Int), get pid = M.blk pid → (∀ id e a b, L = .own id e a b → get id = M.blk id) →
      callP (PCw ES) get n_r26_ports [.agg (cfgC c (.own pid 2 0 c.parts.length) L), .int .i64 part] = some (.int .i64 (portsN c.links part)) := by
    intro get part hg1 hg2
    obtain ⟨P', p1, p2, p3, _⟩ := OutR.pic11 hP2 (get := get) (fun id e a b h => by cases h; exact hg1) partSV_pv
    obtain ⟨L', l1, l2, l3, _⟩ := OutR.pic11 hL (get := get) hg2 linkSV_pv
    rw [callP_pic (ys := [.agg (cfgC c P' L'), .int .i64 part])]
    · exact r26_ports_ok ⟨RSl.of_map p2 p3, RSl.of_map l2 l3, by omega, by omega⟩ (by omega) part
    · have hi : pic get false picDepth (.int .i64 part) = some (.int .i64 part) := pic_np rfl
      simp [pic_cfg p1 l1, hi]
  have hLlt : ∀ id e a b, L = .own id e a b → id < M.next := fun id e a b h => by
    rcases hL with ⟨_, h'⟩ | ⟨id', h', _, h3⟩
    · rw [h] at h'; cases h'
    · rw [h] at h'; cases h'; exact h3
  have hxa := portsN_le c.links a
  have hxb := portsN_le c.links b
  have hw1 : IntKind.i64.wrap ((portsN c.links a : Int) + 1) = (portsN c.links a : Int) + 1 := i64_in (by omega) (by omega)
  have hw2 : IntKind.i64.wrap ((portsN c.links b : Int) + 1) = (portsN c.links b : Int) + 1 := i64_in (by omega) (by omega)
  have hw3 : IntKind.i64.wrap ((portsN c.links a : Int) + 6) = (portsN c.links a : Int) + 6 := i64_in (by omega) (by omega)
  have hw4 : IntKind.i64.wrap ((portsN c.links b : Int) + 6) = (portsN c.links b : Int) + 6 := i64_in (by omega) (by omega)
  have hc0 := hc
  have e1 : ∀ k, (cid = M.next + k) = False := fun k => by simp; omega
  have e2 : ∀ k, (pid = M.next + k) = False := fun k => by simp; omega
  have e3 : (cid = pid) = False := by simp [hne]
  have e5 : (cid = M.next) = False := by simp; omega
  have e6 : (pid = M.next) = False := by simp; omega
  have e7 : ∀ k, (M.next + k = pid) = False := fun k => by simp; omega
  have e8 : (M.next = pid) = False := by simp; omega
  have e4 : (pid = cid) = False := by simp; omega
  have hcall3 : ∀ (X : Mem) (part : Int), Old M X → callP (PCw ES) X.blk n_r26_ports [.agg (cfgC c (.own pid 2 0 c.parts.length) L), .int .i64 part] = some (.int .i64 (portsN c.links part)) :=
    fun X part hg => hcall X.blk part (hg pid h2) (fun id e a b h => hg id (hLlt id e a b h))
  simp only [cfgC] at hc0 hcall3
  have fa : (partSV c.parts)[a]? = some (.agg [.int .i64 c.parts[a].nodes, .int .i64 c.parts[a].faults]) := by simp [partSV, ha, encPart, -fold_part]
  have sa : (partSV c.parts).set a (.agg [.int .i64 (max c.parts[a].nodes ((portsN c.links a : Int) + 6)), .int .i64 c.parts[a].faults]) = partSV (c.parts.modify a (grow (portsN c.links a))) := partSV_set c.parts a (grow (portsN c.links a)) ha
  have fb : (partSV (c.parts.modify a (grow (portsN c.links a))))[b]? = some (.agg [.int .i64 c.parts[b].nodes, .int .i64 c.parts[b].faults]) := by
    simp [partSV, hb, encPart, -fold_part, List.getElem?_modify, hab]
  have sb : (partSV (c.parts.modify a (grow (portsN c.links a)))).set b (.agg [.int .i64 (max c.parts[b].nodes ((portsN c.links b : Int) + 6)), .int .i64 c.parts[b].faults]) = partSV (joinP c.parts c.links a b) := by
    have hb2 : b < (c.parts.modify a (grow (portsN c.links a))).length := by simpa using hb
    have := partSV_set (c.parts.modify a (grow (portsN c.links a))) b (grow (portsN c.links b)) hb2
    rw [List.getElem_modify, if_neg hab] at this
    exact this
  have ia := ownP_ix (q := pid) ha
  have ib := ownP_ix (q := pid) hb
  generalize joinP c.parts c.links a b = jp at sb ⊢
  generalize c.parts.modify a (grow (portsN c.links a)) = ps1 at sa fb sb
  generalize hr : endS ES _ _ = r
  simp [c_r26_joined, evW_reg, evW_chkr, evW_chfr, isCst, loadS, partS, TK.agg, fieldAddrS, zeroS, storeS, setPart, splice, endS, resS, fieldS, hc0, hcall3, e1, e2, e3, e4, e5, e6, e7, e8, fa, sa, fb, sb, ia, ib, hpid, hw1, hw2, hw3, hw4, -fold_part, -fold_link, bldS, placesOf, buildS, Nat.add_assoc] at hr
  subst hr
  refine ⟨_, rfl, ?_, fun id hid hne2 => ?_, ?_⟩
  · simp [e6, e7, e8]
  · have q1 : ∀ k, (id = M.next + k) = False := fun k => by simp; omega
    have q2 : (id = M.next) = False := by simp; omega
    simp [q1, q2, hne2]
  · simp; omega

end Go.Proofs.YtljjmdcdlcefmaaGreatDoor
