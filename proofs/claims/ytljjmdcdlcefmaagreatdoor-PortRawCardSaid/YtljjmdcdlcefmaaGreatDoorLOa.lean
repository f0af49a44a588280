/-
  Walks of the seat's functions: Oa.
-/
import Derived.Test.YtljjmdcdlcefmaaGreatDoorEbMa
import Derived.Test.YtljjmdcdlcefmaaGreatDoorShMb
import Derived.Test.YtljjmdcdlcefmaaGreatDoorLzMe
import Derived.Test.YtljjmdcdlcefmaaGreatDoorLzMf
import Derived.Test.YtljjmdcdlcefmaaGreatDoorLzMg
import Derived.Test.YtljjmdcdlcefmaaGreatDoorLzMh
import Derived.Test.YtljjmdcdlcefmaaGreatDoorLVp
import Derived.Test.YtljjmdcdlcefmaaGreatDoorLFr
set_option linter.unusedVariables false
set_option linter.unusedSimpArgs false
set_option maxRecDepth 100000
namespace Go.Proofs.YtljjmdcdlcefmaaGreatDoor
open Go.Proofs.YtljjmdcdlcefmaaGreatDoor.Sh
/-! Cells: what ports know of their other sides. -/
structure Node where
  state : Int
  wait : Int
  drift : Int
  start : Int
  cycle : Int
  ages : List Int
  mask : Int
  bad : Int
structure Cel where
  nodes : List Node
  on : Bool
  start : Int
  ages : List Int
def ndC (n : Node) (A : SV) : List SV := [.int .i64 n.state, .int .i64 n.wait, .int .i64 n.drift, .int .i64 n.start, .int .i64 n.cycle, A, .int .i64 n.mask, .int .i64 n.bad]
def NdR (y : SV) (n : Node) : Prop := ∃ A, y = .agg (ndC n A) ∧ Ints A n.ages ∧ Sh.pv A = true
def Nds (x : SV) (l : List Node) : Prop := RSl NdR x l
def clC (x : Cel) (N A : SV) : List SV := [N, .bool x.on, .int .i64 x.start, A]
def ClR (y : SV) (x : Cel) : Prop := ∃ N A, y = .agg (clC x N A) ∧ Nds N x.nodes ∧ Ints A x.ages ∧ Sh.pv N = true ∧ Sh.pv A = true
def Cels (x : SV) (l : List Cel) : Prop := RSl ClR x l
theorem ndPv {n : Node} {A : SV} (h : Sh.pv A = true) : Sh.pv (.agg (ndC n A)) = true := by simp [Sh.pv, pvs, ndC, h]
theorem clPv {x : Cel} {N A : SV} (h1 : Sh.pv N = true) (h2 : Sh.pv A = true) : Sh.pv (.agg (clC x N A)) = true := by simp [Sh.pv, pvs, clC, h1, h2]
theorem elmNd : Elm NdR ⟨.struct [(T_int, 0), (T_int, 1), (T_int, 2), (T_int64, 3), (T_int64, 4), (T_sl_int, 5), (T_int, 6), (T_int, 7)], 8, 80, some (.agg [.int .i64 0, .int .i64 0, .int .i64 0, .int .i64 0, .int .i64 0, .nilsl, .int .i64 0, .int .i64 0])⟩ :=
  ⟨fun ⟨A, h, _⟩ => by rw [h]; rfl, fun ⟨A, h, _⟩ => by rw [h]; rfl, fun ⟨A, h, _, hA⟩ => by rw [h]; exact np_of_pv (ndPv hA) 10, fun ⟨A, h, _⟩ => by rw [h]; rfl⟩
theorem elmCl : Elm ClR ⟨.struct [(T_sl_api_Node, 0), (T_api_Guard, 1)], 4, 64, some (.agg [.nilsl, .bool false, .int .i64 0, .nilsl])⟩ :=
  ⟨fun ⟨N, A, h, _⟩ => by rw [h]; rfl, fun ⟨N, A, h, _⟩ => by rw [h]; rfl, fun ⟨N, A, h, _, _, h1, h2⟩ => by rw [h]; exact np_of_pv (clPv h1 h2) 10, fun ⟨N, A, h, _⟩ => by rw [h]; rfl⟩
/-- Has a part another number of nodes than it is to have? -/
def badCell (c : Cfg) (l : List Cel) (j : Nat) : Bool := match l[j]?, c.parts[j]? with
  | some x, some p => !decide ((x.nodes.length : Int) = p.nodes)
  | _, _ => false
def shapedB (c : Cfg) (l : List Cel) : Bool := rightC c && decide (l.length = c.parts.length) && ((List.range l.length).find? (badCell c l)).isNone
theorem shaped_spec {c : Cfg} {l : List Cel} (h : shapedB c l = true) : rightC c = true ∧ l.length = c.parts.length ∧ ∀ (j : Nat) (hj : j < l.length) (hp : j < c.parts.length), (l[j].nodes.length : Int) = c.parts[j].nodes := by
  simp only [shapedB, Bool.and_eq_true, decide_eq_true_eq, Option.isNone_iff_eq_none] at h
  obtain ⟨⟨h1, h2⟩, h3⟩ := h
  refine ⟨h1, h2, fun j hj hp => ?_⟩
  have := List.find?_eq_none.1 h3 j (by simp [hj])
  simpa [badCell, hj, hp] using this
set_option maxHeartbeats 8000000 in
theorem port_right_c (get) {P L : SV} {c : Cfg} (hP : CfgP c P L) {x : SV} {l : List Cel} (hx : Cels x l) (hnp : Sh.np picDepth x = true) (hl : l.length ≤ 17592186044416) :
    callP (PCw ES) get n_port_right [.agg (cfgC c P L), x] = some (.bool (shapedB c l)) := by
  refine callP_of (PCw_ex (fun M0 => ?_) rfl) (by simp [hP.npA, hnp])
  rw [b_port_right]
  have h1 := fun get => plan_Right_c get hP
  have hlenp := hP.p.lenS ti_sl_api_Part
  have hlx := hx.lenS ti_sl_api_Cell
  have hlk : (cfgC c P L).length = 13 := rfl
  have hK0' : (cfgC c P L)[0]? = some P := rfl
  have hPp := hP.p
  generalize cfgC c P L = K at *
  have hK0 : K[0]'(by omega) = P := by simpa [hlk] using hK0'
  unfold shapedB
  cases hr : rightC c with
  | false =>
    rw [hr] at h1
    simp [c_port_right, evW_reg, evW_chkr, evW_chfr, isCst, loadS, partS, TK.agg, fieldAddrS, zeroS, storeS, setPart, splice, endS, resS, fieldS, h1, hlk, hK0, hlenp, hlx]
  | true =>
    rw [hr] at h1
    by_cases c1 : l.length = c.parts.length
    case neg =>
      have c1' : ¬ (l.length : Int) = c.parts.length := by omega
      simp [c_port_right, evW_reg, evW_chkr, evW_chfr, isCst, loadS, partS, TK.agg, fieldAddrS, zeroS, storeS, setPart, splice, endS, resS, fieldS, h1, hlk, hK0, hlenp, hlx, c1, c1']
    rw [c1] at hlx ⊢
    obtain ⟨r, g1, g2⟩ := loop_find (E := ES) (me := n_port_right) (B := c_port_right_B0) (len := c.parts.length) (T := fun j => h_port_right_0 (.ptr M0.next 0 0) x (.int .i64 c.parts.length) (.int .i64 j)) (I := fun _ M => M.blk M0.next = some [.agg K] ∧ M0.next < M.next) (p := badCell c l)
      (Q := fun o r => ∃ M', r = match o with
        | some _ => (.ret, ⟨(h_port_right_0 .bad .bad .bad .bad).set 4 (.bool false), M'⟩)
        | none => (.exit 0, ⟨(h_port_right_0 (.ptr M0.next 0 0) x (.int .i64 c.parts.length) (.int .i64 c.parts.length)).set 21 (.bool false), M'⟩))
      (fun j M hjp ⟨i1, i2⟩ hpj => by
        have hj : j < l.length := by omega
        have hw : IntKind.i64.wrap ((j : Int) + 1) = (j : Int) + 1 := i64_in (by omega) (by omega)
        obtain ⟨y, ⟨N, A, rfl, hN, hA, hp1, hp2⟩, hy, ha, hld⟩ := hx.item ti_sl_api_Cell ti_api_Cell elmCl hj
        have ap := Parts.at hPp hjp
        have ap2 : (c.parts.map encPart)[j]? = some (.agg [.int .i64 c.parts[j].nodes, .int .i64 c.parts[j].faults]) := by rw [List.getElem?_map, List.getElem?_eq_getElem hjp]; rfl
        generalize c.parts.map encPart = ps at ap ap2
        have hln := hN.lenS ti_sl_api_Node
        have nb : ¬ M0.next = M.next + 3 := by omega
        simp only [badCell, List.getElem?_eq_getElem hj, List.getElem?_eq_getElem hjp, Bool.not_eq_false', decide_eq_true_eq] at hpj
        simp only [clC] at hy
        refine ⟨(M.bump 6).set (M.next + 3) (some [.agg (clC l[j] N A)]), ?_, by simp [nb, i1], by show M0.next < M.next + 6; omega⟩
        simp (maxSteps := 4000000) [c_port_right_B0, evW_reg, evW_chkr, evW_chfr, isCst, loadS, partS, TK.agg, fieldAddrS, zeroS, storeS, setPart, splice, endS, resS, fieldS, h_port_right_0, hjp, ha, hy, hln, hpj, i1, nb, hK0, hlk, ap, ap2, hw, clC, sl_cells hN.sl, sl_cells hA.sl, sl_sto hN.sl, sl_sto hA.sl])
      (fun j M hjp ⟨i1, i2⟩ hpj => by
        have hj : j < l.length := by omega
        obtain ⟨y, ⟨N, A, rfl, hN, hA, hp1, hp2⟩, hy, ha, hld⟩ := hx.item ti_sl_api_Cell ti_api_Cell elmCl hj
        have ap := Parts.at hPp hjp
        have ap2 : (c.parts.map encPart)[j]? = some (.agg [.int .i64 c.parts[j].nodes, .int .i64 c.parts[j].faults]) := by rw [List.getElem?_map, List.getElem?_eq_getElem hjp]; rfl
        generalize c.parts.map encPart = ps at ap ap2
        have hln := hN.lenS ti_sl_api_Node
        have nb : ¬ M0.next = M.next + 3 := by omega
        simp only [badCell, List.getElem?_eq_getElem hj, List.getElem?_eq_getElem hjp, Bool.not_eq_true', decide_eq_false_iff_not] at hpj
        simp only [clC] at hy
        simp (maxSteps := 4000000) [c_port_right_B0, evW_reg, evW_chkr, evW_chfr, isCst, loadS, partS, TK.agg, fieldAddrS, zeroS, storeS, setPart, splice, endS, resS, fieldS, h_port_right_0, hjp, ha, hy, hln, hpj, i1, nb, hK0, hlk, ap, ap2, sl_cells hN.sl, sl_cells hA.sl, sl_sto hN.sl, sl_sto hA.sl])
      (fun M _ => by simp [c_port_right_B0, evW_reg, evW_chkr, evW_chfr, isCst, TK.agg, zeroS, endS, resS, h_port_right_0]) ((M0.bump 2).set M0.next (some [.agg K])) ⟨by simp, by show M0.next < M0.next + 2; omega⟩
    cases hf : (List.range c.parts.length).find? (badCell c l) with
    | none =>
      rw [hf] at g2
      obtain ⟨M', rfl⟩ := g2
      simp [h_port_right_0] at g1
      simp [c_port_right, evW_reg, evW_chkr, evW_chfr, isCst, loadS, partS, TK.agg, fieldAddrS, zeroS, storeS, setPart, splice, endS, resS, fieldS, h1, hlk, hK0, hlenp, hlx, c_port_right_L0, g1]
    | some j =>
      rw [hf] at g2
      obtain ⟨M', rfl⟩ := g2
      simp [h_port_right_0] at g1
      simp [c_port_right, evW_reg, evW_chkr, evW_chfr, isCst, loadS, partS, TK.agg, fieldAddrS, zeroS, storeS, setPart, splice, endS, resS, fieldS, h1, hlk, hK0, hlenp, hlx, c_port_right_L0, g1]
set_option maxHeartbeats 8000000 in
theorem r17_shaped_c (get) {P L : SV} {c : Cfg} (hP : CfgP c P L) {x : SV} {l : List Cel} (hx : Cels x l) (hnp : Sh.np picDepth x = true) (hl : l.length ≤ 17592186044416) :
    callP (PCw ES) get n_r17_shaped [.agg (cfgC c P L), x] = some (.bool (shapedB c l)) := by
  refine callP_of (PCw_ex (fun M0 => ?_) rfl) (by simp [hP.npA, hnp])
  rw [b_r17_shaped]
  have h1 := fun get => r5_Good_c get hP 0
  have hr0 : (rightC c && decide (inMany 0 c.parts.length)) = rightC c := by
    cases h : rightC c with
    | false => rfl
    | true =>
      have := right_facts h
      have : inMany 0 c.parts.length := by unfold inMany; omega
      simp [this]
  rw [hr0] at h1
  have hlenp := hP.p.lenS ti_sl_api_Part
  have hlx := hx.lenS ti_sl_api_Cell
  have hlk : (cfgC c P L).length = 13 := rfl
  have hK0' : (cfgC c P L)[0]? = some P := rfl
  have hPp := hP.p
  generalize cfgC c P L = K at *
  have hK0 : K[0]'(by omega) = P := by simpa [hlk] using hK0'
  unfold shapedB
  cases hr : rightC c with
  | false =>
    rw [hr] at h1
    simp [c_r17_shaped, evW_reg, evW_chkr, evW_chfr, isCst, loadS, partS, TK.agg, fieldAddrS, zeroS, storeS, setPart, splice, endS, resS, fieldS, h1, hlk, hK0, hlenp, hlx]
  | true =>
    rw [hr] at h1
    by_cases c1 : l.length = c.parts.length
    case neg =>
      have c1' : ¬ (l.length : Int) = c.parts.length := by omega
      simp [c_r17_shaped, evW_reg, evW_chkr, evW_chfr, isCst, loadS, partS, TK.agg, fieldAddrS, zeroS, storeS, setPart, splice, endS, resS, fieldS, h1, hlk, hK0, hlenp, hlx, c1, c1']
    rw [c1] at hlx ⊢
    obtain ⟨r, g1, g2⟩ := loop_find (E := ES) (me := n_r17_shaped) (B := c_r17_shaped_B0) (len := c.parts.length) (T := fun j => h_r17_shaped_0 x (.ptr M0.next 0 0) (.int .i64 j)) (I := fun _ M => M.blk M0.next = some [.agg K]) (p := badCell c l)
      (Q := fun o r => ∃ M', r = match o with
        | some _ => (.ret, ⟨(h_r17_shaped_0 .bad .bad .bad).set 4 (.bool false), M'⟩)
        | none => (.exit 0, ⟨(h_r17_shaped_0 x (.ptr M0.next 0 0) (.int .i64 c.parts.length)).set 20 (.bool false), M'⟩))
      (fun j M hjp i1 hpj => by
        have hj : j < l.length := by omega
        have hw : IntKind.i64.wrap ((j : Int) + 1) = (j : Int) + 1 := i64_in (by omega) (by omega)
        obtain ⟨y, ⟨N, A, rfl, hN, hA, hp1, hp2⟩, hy, ha, hld⟩ := hx.item ti_sl_api_Cell ti_api_Cell elmCl hj
        have ap := Parts.at hPp hjp
        have ap2 : (c.parts.map encPart)[j]? = some (.agg [.int .i64 c.parts[j].nodes, .int .i64 c.parts[j].faults]) := by rw [List.getElem?_map, List.getElem?_eq_getElem hjp]; rfl
        generalize c.parts.map encPart = ps at ap ap2
        have hln := hN.lenS ti_sl_api_Node
        simp only [badCell, List.getElem?_eq_getElem hj, List.getElem?_eq_getElem hjp, Bool.not_eq_false', decide_eq_true_eq] at hpj
        simp only [clC] at hy
        refine ⟨M, ?_, i1⟩
        simp (maxSteps := 4000000) [c_r17_shaped_B0, evW_reg, evW_chkr, evW_chfr, isCst, loadS, partS, TK.agg, fieldAddrS, zeroS, storeS, setPart, splice, endS, resS, fieldS, h_r17_shaped_0, hlx, hjp, ha, hy, hln, hpj, i1, hK0, hlk, ap, ap2, hw])
      (fun j M hjp i1 hpj => by
        have hj : j < l.length := by omega
        obtain ⟨y, ⟨N, A, rfl, hN, hA, hp1, hp2⟩, hy, ha, hld⟩ := hx.item ti_sl_api_Cell ti_api_Cell elmCl hj
        have ap := Parts.at hPp hjp
        have ap2 : (c.parts.map encPart)[j]? = some (.agg [.int .i64 c.parts[j].nodes, .int .i64 c.parts[j].faults]) := by rw [List.getElem?_map, List.getElem?_eq_getElem hjp]; rfl
        generalize c.parts.map encPart = ps at ap ap2
        have hln := hN.lenS ti_sl_api_Node
        simp only [badCell, List.getElem?_eq_getElem hj, List.getElem?_eq_getElem hjp, Bool.not_eq_true', decide_eq_false_iff_not] at hpj
        simp only [clC] at hy
        simp (maxSteps := 4000000) [c_r17_shaped_B0, evW_reg, evW_chkr, evW_chfr, isCst, loadS, partS, TK.agg, fieldAddrS, zeroS, storeS, setPart, splice, endS, resS, fieldS, h_r17_shaped_0, hlx, hjp, ha, hy, hln, hpj, i1, hK0, hlk, ap, ap2])
      (fun M _ => by simp [c_r17_shaped_B0, evW_reg, evW_chkr, evW_chfr, isCst, TK.agg, zeroS, endS, resS, h_r17_shaped_0, hlx]) ((M0.bump 2).set M0.next (some [.agg K])) (by simp)
    cases hf : (List.range c.parts.length).find? (badCell c l) with
    | none =>
      rw [hf] at g2
      obtain ⟨M', rfl⟩ := g2
      simp [h_r17_shaped_0] at g1
      simp [c_r17_shaped, evW_reg, evW_chkr, evW_chfr, isCst, loadS, partS, TK.agg, fieldAddrS, zeroS, storeS, setPart, splice, endS, resS, fieldS, h1, hlk, hK0, hlenp, hlx, c_r17_shaped_L0, g1]
    | some j =>
      rw [hf] at g2
      obtain ⟨M', rfl⟩ := g2
      simp [h_r17_shaped_0] at g1
      simp [c_r17_shaped, evW_reg, evW_chkr, evW_chfr, isCst, loadS, partS, TK.agg, fieldAddrS, zeroS, storeS, setPart, splice, endS, resS, fieldS, h1, hlk, hK0, hlenp, hlx, c_r17_shaped_L0, g1]
/-- Where a link's gateway stands: its nodes. -/
def nodeAt (l : List Cel) (a b : Int) : Node := ((l.getD a.toNat ⟨[], false, 0, []⟩).nodes).getD b.toNat ⟨0, 0, 0, 0, 0, [], 0, 0⟩
def gateEnd (p0 p1 g : Int) : Int := if g = 0 then p0 else p1
/-- Each end's gateways are nodes that there are. -/
theorem link_nodes {c : Cfg} (h : rightC c = true) {j : Nat} (hj : j < c.links.length) : inMany c.links[j].a c.parts.length ∧ inMany c.links[j].b c.parts.length ∧ inMany c.links[j].pa0 (nodesAt c c.links[j].a) ∧ inMany c.links[j].pa1 (nodesAt c c.links[j].a) ∧ inMany c.links[j].pb0 (nodesAt c c.links[j].b) ∧ inMany c.links[j].pb1 (nodesAt c c.links[j].b) := by
  have he : checkErr c = none := checkG_zero (by simpa [rightC] using h)
  obtain ⟨h1, h2, h3⟩ := right_link h hj
  have oa := (portsOk_of he c.links[j].a).ends (Nat.le_refl _)
  have ob := (portsOk_of he c.links[j].b).ends (Nat.le_refl _)
  have hlt := hj
  have ma : ∀ q ∈ portsOfLink c.links[j].a j c.links[j], inMany q.node (nodesAt c c.links[j].a) := fun q hq => oa.2 q (endsK_mem.2 ⟨j, hj, hj, hq⟩)
  have mb : ∀ q ∈ portsOfLink c.links[j].b j c.links[j], inMany q.node (nodesAt c c.links[j].b) := fun q hq => ob.2 q (endsK_mem.2 ⟨j, hj, hj, hq⟩)
  refine ⟨h1, h2, ma ⟨c.links[j].pa0, j, 0, 0⟩ ?_, ma ⟨c.links[j].pa1, j, 1, 0⟩ ?_, mb ⟨c.links[j].pb0, j, 0, 1⟩ ?_, mb ⟨c.links[j].pb1, j, 1, 1⟩ ?_⟩ <;> simp [portsOfLink, portsOfEnd, endOf]
theorem cell_at {x : SV} {l : List Cel} (hx : Cels x l) {a b : Int} (ha : inMany a l.length) (hb : inMany b (l.getD a.toNat ⟨[], false, 0, []⟩).nodes.length) :
    ∃ N on st A z w A2, indexAddrS ES.P T_sl_api_Cell x (.int .i64 a) = some (.rptr (its x) a.toNat 0 z) ∧ (its x)[a.toNat]? = some (.agg [N, .bool on, .int .i64 st, A]) ∧ indexAddrS ES.P T_sl_api_Node N (.int .i64 b) = some (.rptr (its N) b.toNat 0 w) ∧ (its N)[b.toNat]? = some (.agg (ndC (nodeAt l a b) A2)) ∧ Ints A2 (nodeAt l a b).ages ∧ Sh.pv A2 = true ∧ isSl N = true := by
  unfold inMany at ha hb
  have hla : a.toNat < l.length := by omega
  have e : l.getD a.toNat ⟨[], false, 0, []⟩ = l[a.toNat] := by simp [hla]
  rw [e] at hb
  obtain ⟨y, ⟨N, A, rfl, hN, hA, hp1, hp2⟩, hy, hi, _⟩ := hx.item ti_sl_api_Cell ti_api_Cell elmCl hla
  have hlb : b.toNat < l[a.toNat].nodes.length := by omega
  obtain ⟨y2, ⟨A2, rfl, hA2, hp3⟩, hy2, hi2, _⟩ := hN.item ti_sl_api_Node ti_api_Node elmNd hlb
  rw [show ((a.toNat : Nat) : Int) = a by omega] at hi
  rw [show ((b.toNat : Nat) : Int) = b by omega] at hi2
  have e2 : nodeAt l a b = l[a.toNat].nodes[b.toNat] := by unfold nodeAt; rw [e]; simp [hlb]
  rw [e2]
  exact ⟨N, _, _, A, _, _, A2, hi, hy, hi2, hy2, hA2, hp3, hN.sl⟩
/-- In a shaped list, each node that there is to be is there. -/
theorem shaped_node {c : Cfg} {l : List Cel} (h : shapedB c l = true) {a b : Int} (ha : inMany a c.parts.length) (hb : inMany b (nodesAt c a)) : inMany a l.length ∧ inMany b (l.getD a.toNat ⟨[], false, 0, []⟩).nodes.length := by
  obtain ⟨h1, h2, h3⟩ := shaped_spec h
  unfold inMany at *
  have hla : a.toNat < l.length := by omega
  have hlp : a.toNat < c.parts.length := by omega
  have e := h3 a.toNat hla hlp
  have hn : nodesAt c a = c.parts[a.toNat].nodes := by
    have := nodesAt_in (c := c) hlp
    rwa [show ((a.toNat : Nat) : Int) = a by omega] at this
  refine ⟨by omega, hb.1, ?_⟩
  rw [show l.getD a.toNat ⟨[], false, 0, []⟩ = l[a.toNat] by simp [hla], e]
  omega
def litG (l : List Cel) (k : Link) (gate : Int) : Bool := (!decide ((nodeAt l k.a (gateEnd k.pa0 k.pa1 gate)).state = 0)) || !decide ((nodeAt l k.b (gateEnd k.pb0 k.pb1 gate)).state = 0)
set_option maxHeartbeats 8000000 in
theorem port_Lit_c (get) {P L : SV} {c : Cfg} (hP : CfgP c P L) {x : SV} {l : List Cel} (hx : Cels x l) (hnp : Sh.np picDepth x = true) (hs : shapedB c l = true) {j : Nat} (hj : j < c.links.length) {gate : Int} (hg : gate = 0 ∨ gate = 1) :
    callP (PCw ES) get n_port_Lit [.agg (cfgC c P L), .int .i64 j, .int .i64 gate, x] = some (.bool (litG l c.links[j] gate)) := by
  refine callP_of (PCw_ex (fun M0 => ?_) rfl) (by simp [hP.npA, hnp])
  rw [b_port_Lit]
  obtain ⟨i1, i2, i3, i4, i5, i6⟩ := link_nodes (shaped_spec hs).1 hj
  have ha := Links.at hP.l hj
  have ha2 : (c.links.map encLink)[j]? = some (.agg [.int .i64 c.links[j].a, .int .i64 c.links[j].b, .int .i64 c.links[j].pa0, .int .i64 c.links[j].pa1, .int .i64 c.links[j].pb0, .int .i64 c.links[j].pb1]) := by rw [List.getElem?_map, List.getElem?_eq_getElem hj]; rfl
  have hlk : (cfgC c P L).length = 13 := rfl
  have hK1' : (cfgC c P L)[1]? = some L := rfl
  generalize cfgC c P L = K at *
  have hK1 : K[1]'(by omega) = L := by simpa [hlk] using hK1'
  have hLs := hP.l.sl
  generalize c.links.map encLink = ls at ha ha2
  generalize c.links[j] = k at *
  unfold litG gateEnd
  rcases hg with rfl | rfl
  · obtain ⟨N1, o1, s1, A1, z1, w1, B1, p1, p2, p3, p4, _, _, p5⟩ := cell_at hx (shaped_node hs i1 i3).1 (shaped_node hs i1 i3).2
    obtain ⟨N2, o2, s2, A2, z2, w2, B2, q1, q2, q3, q4, _, _, q5⟩ := cell_at hx (shaped_node hs i2 i5).1 (shaped_node hs i2 i5).2
    simp only [ndC] at p4 q4
    by_cases e1 : (nodeAt l k.a k.pa0).state = 0 <;> simp (maxSteps := 4000000) [c_port_Lit, evW_reg, evW_chkr, evW_chfr, isCst, loadS, partS, TK.agg, fieldAddrS, zeroS, storeS, setPart, splice, endS, resS, fieldS, hlk, hK1, ha, ha2, p1, p2, p3, p4, q1, q2, q3, q4, e1]
  · obtain ⟨N1, o1, s1, A1, z1, w1, B1, p1, p2, p3, p4, _, _, p5⟩ := cell_at hx (shaped_node hs i1 i4).1 (shaped_node hs i1 i4).2
    obtain ⟨N2, o2, s2, A2, z2, w2, B2, q1, q2, q3, q4, _, _, q5⟩ := cell_at hx (shaped_node hs i2 i6).1 (shaped_node hs i2 i6).2
    simp only [ndC] at p4 q4
    by_cases e1 : (nodeAt l k.a k.pa1).state = 0 <;> simp (maxSteps := 4000000) [c_port_Lit, evW_reg, evW_chkr, evW_chfr, isCst, loadS, partS, TK.agg, fieldAddrS, zeroS, storeS, setPart, splice, endS, resS, fieldS, hlk, hK1, ha, ha2, p1, p2, p3, p4, q1, q2, q3, q4, e1]

end Go.Proofs.YtljjmdcdlcefmaaGreatDoor
