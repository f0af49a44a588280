/-
  Walks of the seat's functions: Od.
-/
import Derived.Test.YtljjmdcdlcefmaaGreatDoorEbMa
import Derived.Test.YtljjmdcdlcefmaaGreatDoorShMb
import Derived.Test.YtljjmdcdlcefmaaGreatDoorLzMi
import Derived.Test.YtljjmdcdlcefmaaGreatDoorLTa
set_option linter.unusedVariables false
set_option linter.unusedSimpArgs false
set_option maxRecDepth 100000
namespace Go.Proofs.YtljjmdcdlcefmaaGreatDoor
open Go.Proofs.YtljjmdcdlcefmaaGreatDoor.Sh
/-! Other sides of ports: port.Fars, the document's Fars, SameFars. -/
theorem FrR.pv {y : SV} {f : FarV} (h : FrR y f) : Sh.pv y = true := by
  obtain ⟨A, rfl, _, hA⟩ := h
  simp [Sh.pv, pvs, hA]
theorem fars_pv {items : List SV} {l : List FarV} (h : RSl FrR (.sl items .ro) l) : ∀ y ∈ items, Sh.pv y = true := fun y hy => by
  obtain ⟨j, hj, rfl⟩ := List.mem_iff_getElem.1 hy
  have hlen : items.length = l.length := h.len
  exact FrR.pv (h.at' j items[j] l[j] (by show items[j]? = _; simp [hj]) (by simp [show j < l.length by omega]))
theorem fars_of {y : SV} {items : List SV} {l : List FarV} (h : RSl FrR (.sl items .ro) l) (h1 : isSl y = true) (h2 : its y = items) : FarsR y l :=
  ⟨h1, by rw [h2]; exact h.len, fun j u a hu ha => h.at' j u a (by show items[j]? = _; rw [← h2]; exact hu) ha⟩
set_option maxHeartbeats 4000000 in
theorem port_See_c {K : List SV} (hlk : K.length = 13) (hnK : Sh.np picDepth (.agg K) = true) {c : Cfg} {l : List Cel} {x y : SV} (hOther : ∀ get p, PortIn c.links p → callP (PCw ES) get n_plan_Other [.agg K, encPort p] = some (.tup [.int .i64 (farOf c.links p).1, .int .i64 (farOf c.links p).2]))
    (hx : Cels x l) (hnp : Sh.np picDepth x = true) (hs : shapedB c l = true) (hag : agesOk l) {ps : List Port} (hy : Ports y ps) (hps : ∀ p ∈ ps, PortIn c.links p ∧ inMany (farOf c.links p).1 c.parts.length ∧ inMany (farOf c.links p).2 (nodesAt c (farOf c.links p).1)) (h100 : ps.length ≤ 100) :
    ∃ z, (∀ get, callP (PCw ES) get n_port_See [.agg K, y, x] = some z) ∧ FarsR z (ps.map fun p => seeG l (farOf c.links p)) ∧ Sh.pv z = true := by
  have hly := hy.lenS ti_sl_api_Port
  obtain ⟨z, items, h1, h2, h3, h4, h5⟩ := PCw_out (E := ES) (f := n_port_See) (esz := 4) (args := [.agg K, y, x]) (Pr := fun items => RSl FrR (.sl items .ro) (ps.map fun p => seeG l (farOf c.links p))) (fun M0 => by
    rw [b_port_See]
    obtain ⟨r, g1, Ma, o, items, rfl, hO, hit⟩ := loop_st (E := ES) (me := n_port_See) (B := c_port_See_B0) (β := SV × List SV) (len := ps.length) (T := fun j o => h_port_See_0 x (.ptr M0.next 0 0) o.1 y (.int .i64 ps.length) (.int .i64 j))
      (I := fun j o M => SeI K M0.next o.1 o.2 M ∧ RSl FrR (.sl o.2 .ro) ((ps.take j).map fun p => seeG l (farOf c.links p)))
      (Q := fun r => ∃ M' o items, r = (.exit 0, ⟨(h_port_See_0 x (.ptr M0.next 0 0) o y (.int .i64 ps.length) (.int .i64 ps.length)).set 17 (.bool false), M'⟩) ∧ OutR 4 o M' items ∧ RSl FrR (.sl items .ro) (ps.map fun p => seeG l (farOf c.links p)))
      (fun j o M hj ⟨i1, i2⟩ => by
        left
        obtain ⟨M', o', items', a1, a2, a3⟩ := See_B0 hlk hOther hx hs hag hy hps h100 hj i1 i2
        exact ⟨(o', items'), M', a1, a2, a3⟩)
      (fun o M ⟨i1, i2⟩ => ⟨_, by simp [c_port_See_B0, evW_reg, evW_chkr, evW_chfr, isCst, TK.agg, zeroS, endS, resS, h_port_See_0], by simp, M, o.1, o.2, rfl, i1.ho, by rwa [List.take_length] at i2⟩) 0 (.nilsl, []) ((M0.bump 2).set M0.next (some [.agg K])) (by omega)
      ⟨⟨by simp, by show M0.next < M0.next + 2; omega, .inl ⟨rfl, rfl⟩, fun _ _ _ h => by cases h⟩, ⟨rfl, rfl, fun j y a h => by simp [its] at h⟩⟩
    simp [h_port_See_0] at g1
    refine ⟨o, Ma, items, ?_, hO, hit⟩
    simp [c_port_See, evW_reg, evW_chkr, evW_chfr, isCst, TK.agg, zeroS, endS, resS, hly, c_port_See_L0, g1]) (fun items h => fars_pv h)
  exact ⟨z, fun get => callP_of h1 (by simp [hnK, hnp, hy.npE elmPt]), fars_of h2 h3 h4, h5⟩
set_option maxHeartbeats 4000000 in
theorem port_Fars_c {P L : SV} {c : Cfg} (hP : CfgP c P L) {x : SV} {l : List Cel} (hx : Cels x l) (hnp : Sh.np picDepth x = true) (hl : l.length ≤ 17592186044416) (hag : agesOk l) (part : Int) :
    ∃ z, (∀ get, callP (PCw ES) get n_port_Fars [.agg (cfgC c P L), .int .i64 part, x] = some z) ∧ FarsR z (farsG c part l) ∧ Sh.pv z = true := by
  have h1 := fun get => port_right_c get hP hx hnp hl
  obtain ⟨y, y1, y2⟩ := plan_Ports_c hP part
  have hO := fun get p hp => plan_Other_c get hP (p := p) hp
  have hlk : (cfgC c P L).length = 13 := rfl
  have hnK := hP.npA
  generalize cfgC c P L = K at *
  unfold farsG
  cases hs : shapedB c l with
  | false =>
    rw [hs] at h1
    refine ⟨.nilsl, fun get => callP_of (PCw_ex (fun M0 => ?_) rfl) (by simp [hnK, hnp]), RSl.nil _, rfl⟩
    rw [b_port_Fars]
    simp [c_port_Fars, evW_reg, evW_chkr, evW_chfr, isCst, loadS, partS, TK.agg, fieldAddrS, zeroS, storeS, setPart, splice, endS, resS, fieldS, h1, hlk]
  | true =>
    rw [hs] at h1
    have hlen : (portsG c part).length ≤ 100 := by
      have hr := (shaped_spec hs).1
      have := portsL_len c.links part (nodesAt c part)
      have hn := nodesAt_le (checkG_zero (by simpa [rightC] using hr)) part
      unfold portsG
      split
      · omega
      · simp
    obtain ⟨z, z1, z2, z3⟩ := port_See_c hlk hnK hO hx hnp hs hag y2 (fun p hp => ⟨(ports_far hp).1, (ports_far hp).2.1, (ports_far hp).2.2.1⟩) hlen
    refine ⟨z, fun get => callP_of (PCw_ex (fun M0 => ?_) z3) (by simp [hnK, hnp]), by simpa using z2, z3⟩
    rw [b_port_Fars]
    simp [c_port_Fars, evW_reg, evW_chkr, evW_chfr, isCst, loadS, partS, TK.agg, fieldAddrS, zeroS, storeS, setPart, splice, endS, resS, fieldS, h1, hlk, y1, z1]
set_option maxHeartbeats 4000000 in
theorem r5_Far_p (get) {P L : SV} {c : Cfg} (hP : CfgP c P L) {part node : Int} {p : Port} (hp : portG c part node = some p) :
    callP (PCw ES) get n_r5_Far [.agg (cfgC c P L), .int .i64 part, .int .i64 node] = some (.tup [.int .i64 (farOf c.links p).1, .int .i64 (farOf c.links p).2, .bool true]) := by
  refine callP_of (PCw_ex (fun M0 => ?_) rfl) (by simp [hP.npA])
  rw [b_r5_Far]
  have h1 := fun get => r5_Port_c get hP part node
  simp only [cfgC] at h1
  rw [hp] at h1
  obtain ⟨n, lk, g, s⟩ := p
  obtain ⟨⟨j, hj, e⟩, hg, hs⟩ := portG_in hp
  simp only at e hg hs
  subst e
  have ha := Links.at hP.l hj
  rcases hg with rfl | rfl <;> rcases hs with rfl | rfl <;> simp [c_r5_Far, evW_reg, evW_chkr, evW_chfr, isCst, loadS, partS, TK.agg, fieldAddrS, zeroS, storeS, setPart, splice, endS, resS, fieldS, cfgC, h1, ha, hj, portO, farOf, encPort, Nat.add_assoc]
set_option maxHeartbeats 16000000 in
theorem r17_Fars_B0 {K : List SV} (hlk : K.length = 13) {c : Cfg} {l : List Cel} {x y : SV} {part : Int} (hFar : ∀ get p, portG c part p.node = some p → callP (PCw ES) get n_r5_Far [.agg K, .int .i64 part, .int .i64 p.node] = some (.tup [.int .i64 (farOf c.links p).1, .int .i64 (farOf c.links p).2, .bool true]))
    (hx : Cels x l) (hs : shapedB c l = true) (hag : agesOk l) {ps : List Port} (hy : Ports y ps) (hps : ∀ p ∈ ps, portG c part p.node = some p ∧ inMany (farOf c.links p).1 c.parts.length ∧ inMany (farOf c.links p).2 (nodesAt c (farOf c.links p).1)) (h100 : ps.length ≤ 100)
    {b : Nat} {o : SV} {items : List SV} {M : Mem} {j : Nat} (hj : j < ps.length) (h : SeI K b o items M) (hit : RSl FrR (.sl items .ro) ((ps.take j).map fun p => seeG l (farOf c.links p))) :
    ∃ M' o' items', evW ES n_r17_Fars c_r17_Fars_B0 ⟨h_r17_Fars_0 (.int .i64 part) x (.ptr b 0 0) o y (.int .i64 j), M⟩ = some (.normal, ⟨h_r17_Fars_0 (.int .i64 part) x (.ptr b 0 0) o' y (.int .i64 ((j + 1 : Nat) : Int)), M'⟩) ∧ SeI K b o' items' M' ∧ RSl FrR (.sl items' .ro) ((ps.take (j + 1)).map fun p => seeG l (farOf c.links p)) := by
  have hw : IntKind.i64.wrap ((j : Int) + 1) = (j : Int) + 1 := i64_in (by omega) (by omega)
  have hly := hy.lenS ti_sl_api_Port
  have a1 := RSl.at (enc := encPort) hy ti_sl_api_Port ti_api_Port (fun _ => rfl) hj
  have a2 : (ps.map encPort)[j]? = some (encPort ps[j]) := by simp [hj]
  obtain ⟨hpi, f1, f2⟩ := hps _ (List.getElem_mem hj)
  have k1 := fun get => hFar get _ hpi
  have hil : items.length ≤ 1000 := by have := hit.len; simp [its] at this; omega
  rw [List.take_succ_eq_append_getElem hj, List.map_append]
  simp only [List.map_cons, List.map_nil]
  generalize ps.map encPort = es at a1 a2
  generalize ps[j] = p at *
  obtain ⟨n1, n2⟩ := shaped_node hs f1 f2
  obtain ⟨N, on, st, A, z, w, A2, c1, c2, c3, c4, c5, c6, c7⟩ := cell_at hx n1 n2
  have hcl := hag.node (farOf c.links p).1 (farOf c.links p).2
  unfold seeG
  generalize farOf c.links p = q at *
  obtain ⟨qa, qb⟩ := q
  simp only at *
  generalize nodeAt l qa qb = nd at *
  simp only [ndC] at c4
  obtain ⟨zc, z1, z2, z3⟩ := r1_Ints_c c5 (by omega)
  have hcb := h.hc
  have hlt := h.lt
  have b2 : ¬ b = M.next + 10 + 1 := by omega
  have b3 : ¬ b = M.next + 8 := by omega
  have bs : ∀ (q : Nat) (u1 : Bool) (u2 u3 : Int) (u4 : SV), bldSl ES.P T_sl_api_Far 1 q [(0, .agg [.bool u1, .int .i64 u2, .int .i64 u3, u4])] = some (.own q 4 0 1, [.agg [.bool u1, .int .i64 u2, .int .i64 u3, u4]]) := fun q u1 u2 u3 u4 => by simp [bldSl, buildRow]
  have hpc : (encPort p).cells = [.int .i64 p.node, .int .i64 p.link, .int .i64 p.gate, .int .i64 p.side] := rfl
  have bz : bldS ES.P T_api_Far [] = some (.agg [.bool false, .int .i64 0, .int .i64 0, .nilsl]) := by simp [bldS, placesOf, buildS]
  obtain ⟨X, eX⟩ : ∃ X, X = ((((M.bump 10).set (M.next + 8) (some [.agg (ndC nd A2)])).bump 3).set (M.next + 10 + 1) (some [.agg [.bool false, .int .i64 0, .int .i64 0, .nilsl]])) := ⟨_, rfl⟩
  have hXn : X.next = M.next + 10 + 3 := by rw [eX]; rfl
  have hX : Old M X := fun id hid => by
    have q1 : ¬ id = M.next + 8 := by omega
    have q2 : ¬ id = M.next + 10 + 1 := by omega
    simp [eX, q1, q2]
  by_cases e1 : nd.state = 2
  · rw [if_pos e1]
    have hX2 : Old M (X.set (M.next + 10 + 1) (some [.agg [.bool true, .int .i64 nd.start, .int .i64 nd.cycle, zc]])) := fun id hid => by
      have q2 : ¬ id = M.next + 10 + 1 := by omega
      simp [q2, hX id hid]
    obtain ⟨o', k, M1, p1, p2, p3⟩ := h.app (y := .agg [.bool true, .int .i64 nd.start, .int .i64 nd.cycle, zc]) rfl hil hX2 (by show M.next ≤ X.next; omega)
    have hn2 : (X.set (M.next + 10 + 1) (some [.agg [.bool true, .int .i64 nd.start, .int .i64 nd.cycle, zc]])).next = M.next + 10 + 3 := hXn
    rw [hn2] at p1 p2
    rw [eX] at p1 p2
    have tw : ∀ (Y : Mem) (a : Nat) (u v : Option (List SV)), (Y.set a u).set a v = Y.set a v := fun Y a u v => by
      simp only [Mem.set, Mem.mk.injEq, and_true]
      funext i
      by_cases hi : i = a <;> simp [hi]
    simp only [ndC, e1, tw] at p1 p2
    refine ⟨M1, o', _, ?_, p3, FarsR.snoc hit ⟨zc, rfl, z2, z3⟩⟩
    simp (maxSteps := 4000000) [c_r17_Fars_B0, evW_reg, evW_chkr, evW_chfr, isCst, loadS, partS, TK.agg, fieldAddrS, zeroS, storeS, setPart, splice, endS, resS, fieldS, h_r17_Fars_0, hly, hj, a1, a2, hpc, hcb, hlt, hlk, b2, b3, k1, c1, c2, c3, c4, e1, z1, bz, bs, tw, p1, p2, hw, bldS, placesOf, buildS, splice, sl_cells c5.sl, sl_sto c5.sl, sl_cells z2.sl, sl_sto z2.sl]
  · rw [if_neg e1]
    obtain ⟨o', k, M1, p1, p2, p3⟩ := h.app (y := .agg [.bool false, .int .i64 0, .int .i64 0, .nilsl]) rfl hil hX (by omega)
    rw [hXn, eX] at p1 p2
    simp only [ndC] at p1 p2
    refine ⟨M1, o', _, ?_, p3, FarsR.snoc hit ⟨.nilsl, rfl, RSl.nil _, rfl⟩⟩
    simp (maxSteps := 4000000) [c_r17_Fars_B0, evW_reg, evW_chkr, evW_chfr, isCst, loadS, partS, TK.agg, fieldAddrS, zeroS, storeS, setPart, splice, endS, resS, fieldS, h_r17_Fars_0, hly, hj, a1, a2, hpc, hcb, hlt, hlk, b2, b3, k1, c1, c2, c3, c4, e1, bz, bs, p1, p2, hw, sl_cells c5.sl, sl_sto c5.sl]
set_option maxHeartbeats 4000000 in
theorem r17_Fars_c {P L : SV} {c : Cfg} (hP : CfgP c P L) {x : SV} {l : List Cel} (hx : Cels x l) (hnp : Sh.np picDepth x = true) (hl : l.length ≤ 17592186044416) (hag : agesOk l) (part : Int) :
    ∃ z, (∀ get, callP (PCw ES) get n_r17_Fars [.agg (cfgC c P L), .int .i64 part, x] = some z) ∧ FarsR z (farsG c part l) ∧ Sh.pv z = true := by
  have h1 := fun get => r17_shaped_c get hP hx hnp hl
  have h2 := fun get => r5_Good_c get hP part
  obtain ⟨y, y1, y2⟩ := r5_Ports_c hP part
  have hF := fun get p (hp : portG c part p.node = some p) => r5_Far_p get hP hp
  have hlk : (cfgC c P L).length = 13 := rfl
  have hnK := hP.npA
  generalize cfgC c P L = K at *
  unfold farsG
  cases hs : shapedB c l with
  | false =>
    rw [hs] at h1
    refine ⟨.nilsl, fun get => callP_of (PCw_ex (fun M0 => ?_) rfl) (by simp [hnK, hnp]), RSl.nil _, rfl⟩
    rw [b_r17_Fars]
    simp [c_r17_Fars, evW_reg, evW_chkr, evW_chfr, isCst, loadS, partS, TK.agg, fieldAddrS, zeroS, storeS, setPart, splice, endS, resS, fieldS, h1, hlk]
  | true =>
    rw [hs] at h1
    have hr := (shaped_spec hs).1
    by_cases hin : inMany part c.parts.length
    case neg =>
      have e : portsG c part = [] := by simp [portsG, hr, hin]
      rw [e]
      simp only [hr, hin, decide_false, Bool.and_false] at h2
      refine ⟨.nilsl, fun get => callP_of (PCw_ex (fun M0 => ?_) rfl) (by simp [hnK, hnp]), RSl.nil _, rfl⟩
      rw [b_r17_Fars]
      simp [c_r17_Fars, evW_reg, evW_chkr, evW_chfr, isCst, loadS, partS, TK.agg, fieldAddrS, zeroS, storeS, setPart, splice, endS, resS, fieldS, h1, h2, hlk]
    simp only [hr, hin, decide_true, Bool.and_self] at h2
    have hlen : (portsG c part).length ≤ 100 := by
      have := portsL_len c.links part (nodesAt c part)
      have hn := nodesAt_le (checkG_zero (by simpa [rightC] using hr)) part
      unfold portsG
      split
      · omega
      · simp
    have hps : ∀ p ∈ portsG c part, portG c part p.node = some p ∧ inMany (farOf c.links p).1 c.parts.length ∧ inMany (farOf c.links p).2 (nodesAt c (farOf c.links p).1) := fun p hp => ⟨(ports_far hp).2.2.2, (ports_far hp).2.1, (ports_far hp).2.2.1⟩
    simp only [if_true]
    generalize portsG c part = ps at *
    have hly := y2.lenS ti_sl_api_Port
    obtain ⟨z, items, h3, h4, h5, h6, h7⟩ := PCw_out (E := ES) (f := n_r17_Fars) (esz := 4) (args := [.agg K, .int .i64 part, x]) (Pr := fun items => RSl FrR (.sl items .ro) (ps.map fun p => seeG l (farOf c.links p))) (fun M0 => by
      rw [b_r17_Fars]
      obtain ⟨r, g1, Ma, o, items, rfl, hO, hit⟩ := loop_st (E := ES) (me := n_r17_Fars) (B := c_r17_Fars_B0) (β := SV × List SV) (len := ps.length) (T := fun j o => h_r17_Fars_0 (.int .i64 part) x (.ptr M0.next 0 0) o.1 y (.int .i64 j))
        (I := fun j o M => SeI K M0.next o.1 o.2 M ∧ RSl FrR (.sl o.2 .ro) ((ps.take j).map fun p => seeG l (farOf c.links p)))
        (Q := fun r => ∃ M' o items, r = (.exit 0, ⟨(h_r17_Fars_0 (.int .i64 part) x (.ptr M0.next 0 0) o y (.int .i64 ps.length)).set 31 (.bool false), M'⟩) ∧ OutR 4 o M' items ∧ RSl FrR (.sl items .ro) (ps.map fun p => seeG l (farOf c.links p)))
        (fun j o M hj ⟨i1, i2⟩ => by
          left
          obtain ⟨M', o', items', a1, a2, a3⟩ := r17_Fars_B0 hlk hF hx hs hag y2 hps hlen hj i1 i2
          exact ⟨(o', items'), M', a1, a2, a3⟩)
        (fun o M ⟨i1, i2⟩ => ⟨_, by simp [c_r17_Fars_B0, evW_reg, evW_chkr, evW_chfr, isCst, TK.agg, zeroS, endS, resS, h_r17_Fars_0, hly], by simp, M, o.1, o.2, rfl, i1.ho, by rwa [List.take_length] at i2⟩) 0 (.nilsl, []) ((M0.bump 2).set M0.next (some [.agg K])) (by omega)
        ⟨⟨by simp, by show M0.next < M0.next + 2; omega, .inl ⟨rfl, rfl⟩, fun _ _ _ h => by cases h⟩, ⟨rfl, rfl, fun j y a h => by simp [its] at h⟩⟩
      simp [h_r17_Fars_0] at g1
      refine ⟨o, Ma, items, ?_, hO, hit⟩
      simp [c_r17_Fars, evW_reg, evW_chkr, evW_chfr, isCst, loadS, partS, TK.agg, fieldAddrS, zeroS, storeS, setPart, splice, endS, resS, fieldS, h1, h2, hlk, y1, c_r17_Fars_L0, g1]) (fun items h => fars_pv h)
    exact ⟨z, fun get => callP_of h3 (by simp [hnK, hnp]), fars_of h4 h5 h6, h7⟩
theorem SameInts_c (get) {x y : SV} {l : List Int} (hx : Ints x l) (hy : Ints y l) (hb : l.length ≤ 100000) : callP (PCw ES) get n_r1_SameInts [x, y] = some (.bool true) := by
  refine callP_of (PCw_ex (fun M0 => ?_) rfl) (by simp [Nums.np (show Nums x l from hx), Nums.np (show Nums y l from hy)])
  rw [b_r1_SameInts]
  have l1 := hx.lenS ti_sl_int
  have l2 := hy.lenS ti_sl_int
  obtain ⟨r, g1, M', g2⟩ := loop_up (E := ES) (me := n_r1_SameInts) (B := c_r1_SameInts_B0) (len := l.length) (T := fun j => h_r1_SameInts_0 x y (.int .i64 j)) (I := fun _ _ => True)
    (Q := fun r => ∃ M', r = (.exit 0, ⟨(h_r1_SameInts_0 x y (.int .i64 l.length)).set 14 (.bool false), M'⟩))
    (fun j M hj _ => by
      left
      have hw : IntKind.i64.wrap ((j : Int) + 1) = (j : Int) + 1 := i64_in (by omega) (by omega)
      have a1 := ints_at hx hj
      have a2 := ints_at hy hj
      have q0 := ints_ld hj
      exact ⟨M, by simp [c_r1_SameInts_B0, evW_reg, evW_chkr, evW_chfr, isCst, TK.agg, zeroS, endS, resS, h_r1_SameInts_0, l1, l2, hj, a1, a2, q0, hw], trivial⟩)
    (fun M _ => ⟨_, by simp [c_r1_SameInts_B0, evW_reg, evW_chkr, evW_chfr, isCst, TK.agg, zeroS, endS, resS, h_r1_SameInts_0, l1, l2], by simp, M, rfl⟩) 0 M0 (by omega) trivial
  subst g2
  simp [h_r1_SameInts_0] at g1
  simp [c_r1_SameInts, evW_reg, evW_chkr, evW_chfr, isCst, TK.agg, zeroS, endS, resS, l1, l2, c_r1_SameInts_L0, g1]
theorem elmFr : Elm FrR ⟨.struct [(T_bool, 0), (T_int64, 1), (T_int64, 2), (T_sl_int, 3)], 4, 48, some (.agg [.bool false, .int .i64 0, .int .i64 0, .nilsl])⟩ :=
  ⟨fun ⟨A, h, _⟩ => by rw [h]; rfl, fun ⟨A, h, _⟩ => by rw [h]; rfl, fun h => np_of_pv h.pv 10, fun ⟨A, h, _⟩ => by rw [h]; rfl⟩
set_option maxHeartbeats 4000000 in
theorem SameFars_c (get) {x y : SV} {l : List FarV} (hx : FarsR x l) (hy : FarsR y l) (hb : l.length ≤ 100000) (ha : ∀ f ∈ l, f.ages.length ≤ 1000) : callP (PCw ES) get n_r17_SameFars [x, y] = some (.bool true) := by
  refine callP_of (PCw_ex (fun M0 => ?_) rfl) (by simp [hx.npE elmFr, hy.npE elmFr])
  rw [b_r17_SameFars]
  have l1 := hx.lenS ti_sl_api_Far
  have l2 := hy.lenS ti_sl_api_Far
  have be : ∀ b : Bool, binS ES.P .neq T_bool false (.bool b) (.bool b) = some (.bool false) := fun b => by cases b <;> rfl
  obtain ⟨r, g1, M', g2⟩ := loop_up (E := ES) (me := n_r17_SameFars) (B := c_r17_SameFars_B0) (len := l.length) (T := fun j => h_r17_SameFars_0 x y (.int .i64 j)) (I := fun _ _ => True)
    (Q := fun r => ∃ M', r = (.exit 0, ⟨(h_r17_SameFars_0 x y (.int .i64 l.length)).set 14 (.bool false), M'⟩))
    (fun j M hj _ => by
      left
      have hw : IntKind.i64.wrap ((j : Int) + 1) = (j : Int) + 1 := i64_in (by omega) (by omega)
      obtain ⟨u, ⟨A, rfl, hA, _⟩, a1, a2, _⟩ := hx.item ti_sl_api_Far ti_api_Far elmFr hj
      obtain ⟨v, ⟨B, rfl, hB, _⟩, b1, b2, _⟩ := hy.item ti_sl_api_Far ti_api_Far elmFr hj
      have hs := fun get => SameInts_c get hA hB (by have := ha _ (List.getElem_mem hj); omega)
      generalize l[j] = f at *
      exact ⟨M, by simp (maxSteps := 4000000) [c_r17_SameFars_B0, evW_reg, evW_chkr, evW_chfr, isCst, loadS, partS, TK.agg, fieldAddrS, zeroS, storeS, setPart, splice, endS, resS, fieldS, h_r17_SameFars_0, l1, l2, hj, a1, a2, b1, b2, be, hs, hw, sl_cells hA.sl, sl_cells hB.sl], trivial⟩)
    (fun M _ => ⟨_, by simp [c_r17_SameFars_B0, evW_reg, evW_chkr, evW_chfr, isCst, TK.agg, zeroS, endS, resS, h_r17_SameFars_0, l1, l2], by simp, M, rfl⟩) 0 M0 (by omega) trivial
  subst g2
  simp [h_r17_SameFars_0] at g1
  simp [c_r17_SameFars, evW_reg, evW_chkr, evW_chfr, isCst, TK.agg, zeroS, endS, resS, l1, l2, c_r17_SameFars_L0, g1]

end Go.Proofs.YtljjmdcdlcefmaaGreatDoor

/-
  Walks of the seat's functions: Of.
-/
set_option linter.unusedVariables false
set_option linter.unusedSimpArgs false
set_option maxRecDepth 100000
namespace Go.Proofs.YtljjmdcdlcefmaaGreatDoor
open Go.Proofs.YtljjmdcdlcefmaaGreatDoor.Sh
/-! Small cells. -/
def longN (n : Node) : Bool := decide (20 < n.ages.length)
def bigC (x : Cel) : Bool := decide (20 < x.nodes.length) || decide (20 < x.ages.length) || x.nodes.any longN
def smallB (l : List Cel) : Bool := decide (l.length ≤ 20) && !(l.any bigC)
theorem find_none_any {α : Type} (l : List α) (p : α → Bool) : (List.range l.length).find? (fun j => (l[j]?.map p).getD false) = none ↔ l.any p = false := by
  rw [List.find?_eq_none, List.any_eq_false]
  constructor
  · intro h x hx
    obtain ⟨j, hj, rfl⟩ := List.mem_iff_getElem.1 hx
    have := h j (by simp [hj])
    simpa [hj] using this
  · intro h j hj
    have hj' : j < l.length := by simpa using hj
    have := h l[j] (List.getElem_mem hj')
    simpa [hj'] using this
theorem smallB_spec {l : List Cel} (h : smallB l = true) : l.length ≤ 20 ∧ agesOk l := by
  simp only [smallB, Bool.and_eq_true, decide_eq_true_eq, Bool.not_eq_true', List.any_eq_false] at h
  refine ⟨h.1, fun x hx n hn => ?_⟩
  have h1 := h.2 x hx
  simp only [bigC, Bool.or_eq_true, not_or, List.any_eq_true, not_exists, not_and] at h1
  have := h1.2 n hn
  simp only [longN, decide_eq_true_eq] at this
  omega
theorem small_in {x : SV} {l : List Cel} (hx : Cels x l) {j : Nat} (hj : j < l.length) (hb : l[j].nodes.length ≤ 1000) (M : Mem) :
    evW ES n_l20_small c_l20_small_L0 ⟨h_l20_small_0 x (.int .i64 j) (.int .i64 0), M⟩ = some (if l[j].nodes.any longN then (.ret, ⟨(h_l20_small_0 .bad .bad .bad).set 2 (.bool false), M⟩) else (.exit 2, ⟨(h_l20_small_0 x (.int .i64 j) (.int .i64 l[j].nodes.length)).set 38 (.bool false), M⟩)) := by
  obtain ⟨y, ⟨N, A, rfl, hN, hA, _, _⟩, hy, ha, hld⟩ := hx.item ti_sl_api_Cell ti_api_Cell elmCl hj
  have hln := hN.lenS ti_sl_api_Node
  simp only [clC] at hy
  generalize hns : l[j].nodes = ns at *
  obtain ⟨r, g1, g2⟩ := loop_find (E := ES) (me := n_l20_small) (B := c_l20_small_B0) (len := ns.length) (T := fun k => h_l20_small_0 x (.int .i64 j) (.int .i64 k)) (I := fun _ M' => M' = M) (p := fun k => (ns[k]?.map longN).getD false)
    (Q := fun f r => r = (match f with | some _ => (.ret, ⟨(h_l20_small_0 .bad .bad .bad).set 2 (.bool false), M⟩) | none => (.exit 2, ⟨(h_l20_small_0 x (.int .i64 j) (.int .i64 ns.length)).set 38 (.bool false), M⟩)))
    (fun k M' hk hM hp => by
      subst hM
      have hw : IntKind.i64.wrap ((k : Int) + 1) = (k : Int) + 1 := i64_in (by omega) (by omega)
      obtain ⟨u, ⟨B, rfl, hB, _⟩, hu, hui, _⟩ := hN.item ti_sl_api_Node ti_api_Node elmNd hk
      have hlb := hB.lenS ti_sl_int
      simp only [List.getElem?_eq_getElem hk, Option.map_some, Option.getD_some, longN, decide_eq_false_iff_not] at hp
      have hp' : ¬ (20 < (ns[k].ages.length : Int)) := by omega
      simp only [ndC] at hu
      exact ⟨M', by simp (maxSteps := 4000000) [c_l20_small_B0, evW_reg, evW_chkr, evW_chfr, isCst, loadS, partS, TK.agg, fieldAddrS, zeroS, storeS, setPart, splice, endS, resS, fieldS, h_l20_small_0, ha, hy, hln, hk, hui, hu, hlb, hp, hp', hw], rfl⟩)
    (fun k M' hk hM hp => by
      subst hM
      obtain ⟨u, ⟨B, rfl, hB, _⟩, hu, hui, _⟩ := hN.item ti_sl_api_Node ti_api_Node elmNd hk
      have hlb := hB.lenS ti_sl_int
      simp only [List.getElem?_eq_getElem hk, Option.map_some, Option.getD_some, longN, decide_eq_true_eq] at hp
      have hp' : (20 < (ns[k].ages.length : Int)) := by omega
      simp only [ndC] at hu
      simp (maxSteps := 4000000) [c_l20_small_B0, evW_reg, evW_chkr, evW_chfr, isCst, loadS, partS, TK.agg, fieldAddrS, zeroS, storeS, setPart, splice, endS, resS, fieldS, h_l20_small_0, ha, hy, hln, hk, hui, hu, hlb, hp, hp'])
    (fun M' hM => by
      subst hM
      simp (maxSteps := 4000000) [c_l20_small_B0, evW_reg, evW_chkr, evW_chfr, isCst, loadS, partS, TK.agg, fieldAddrS, zeroS, storeS, setPart, splice, endS, resS, fieldS, h_l20_small_0, ha, hy, hln]) M rfl
  subst g2
  show evW ES n_l20_small (.loop c_l20_small_B0) _ = _
  have hf := find_none_any ns longN
  cases hh : (List.range ns.length).find? (fun k => (ns[k]?.map longN).getD false) with
  | none =>
    rw [hh] at g1
    rw [hf.1 hh]
    exact g1
  | some k =>
    rw [hh] at g1
    have : ns.any longN = true := by
      cases hc : ns.any longN with
      | true => rfl
      | false => rw [hf.2 hc] at hh; cases hh
    rw [this]
    exact g1
set_option maxHeartbeats 4000000 in
theorem l20_small_c (get) {x : SV} {l : List Cel} (hx : Cels x l) (hnp : Sh.np picDepth x = true) : callP (PCw ES) get n_l20_small [x] = some (.bool (smallB l)) := by
  refine callP_of (PCw_ex (fun M0 => ?_) rfl) (by simp [hnp])
  rw [b_l20_small]
  have hlx := hx.lenS ti_sl_api_Cell
  unfold smallB
  by_cases c1 : l.length ≤ 20
  case neg =>
    have c1' : 20 < (l.length : Int) := by omega
    simp [c_l20_small, evW_reg, evW_chkr, evW_chfr, isCst, TK.agg, zeroS, endS, resS, hlx, c1, c1']
  have c1' : ¬ 20 < (l.length : Int) := by omega
  obtain ⟨r, g1, g2⟩ := loop_find (E := ES) (me := n_l20_small) (B := c_l20_small_B1) (len := l.length) (T := fun k => h_l20_small_1 x (.int .i64 k)) (I := fun _ M' => M' = M0) (p := fun k => (l[k]?.map bigC).getD false)
    (Q := fun f r => r = (match f with | some _ => (.ret, ⟨(h_l20_small_1 .bad .bad).set 2 (.bool false), M0⟩) | none => (.exit 0, ⟨(h_l20_small_1 x (.int .i64 l.length)).set 11 (.bool false), M0⟩)))
    (fun j M' hj hM hp => by
      subst hM
      have hw : IntKind.i64.wrap ((j : Int) + 1) = (j : Int) + 1 := i64_in (by omega) (by omega)
      obtain ⟨y, ⟨N, A, rfl, hN, hA, _, _⟩, hy, ha, hld⟩ := hx.item ti_sl_api_Cell ti_api_Cell elmCl hj
      have hln := hN.lenS ti_sl_api_Node
      have hla := hA.lenS ti_sl_int
      simp only [List.getElem?_eq_getElem hj, Option.map_some, Option.getD_some, bigC, Bool.or_eq_false_iff, decide_eq_false_iff_not] at hp
      obtain ⟨⟨p1, p2⟩, p3⟩ := hp
      have q1 : ¬ 20 < (l[j].nodes.length : Int) := by omega
      have q2 : ¬ 20 < (l[j].ages.length : Int) := by omega
      have hi := small_in hx hj (by omega) M'
      rw [p3] at hi
      simp only [clC] at hy
      simp [h_l20_small_0] at hi
      exact ⟨M', by simp (maxSteps := 4000000) [c_l20_small_B1, evW_reg, evW_chkr, evW_chfr, isCst, loadS, partS, TK.agg, fieldAddrS, zeroS, storeS, setPart, splice, endS, resS, fieldS, h_l20_small_1, hlx, hj, ha, hy, hln, hla, q1, q2, hi, hw], rfl⟩)
    (fun j M' hj hM hp => by
      subst hM
      obtain ⟨y, ⟨N, A, rfl, hN, hA, _, _⟩, hy, ha, hld⟩ := hx.item ti_sl_api_Cell ti_api_Cell elmCl hj
      have hln := hN.lenS ti_sl_api_Node
      have hla := hA.lenS ti_sl_int
      simp only [List.getElem?_eq_getElem hj, Option.map_some, Option.getD_some, bigC, Bool.or_eq_true, decide_eq_true_eq] at hp
      simp only [clC] at hy
      by_cases p1 : 20 < l[j].nodes.length
      · have q1 : 20 < (l[j].nodes.length : Int) := by omega
        simp (maxSteps := 4000000) [c_l20_small_B1, evW_reg, evW_chkr, evW_chfr, isCst, loadS, partS, TK.agg, fieldAddrS, zeroS, storeS, setPart, splice, endS, resS, fieldS, h_l20_small_1, hlx, hj, ha, hy, hln, hla, p1, q1]
      · have q1 : ¬ 20 < (l[j].nodes.length : Int) := by omega
        by_cases p2 : 20 < l[j].ages.length
        · have q2 : 20 < (l[j].ages.length : Int) := by omega
          simp (maxSteps := 4000000) [c_l20_small_B1, evW_reg, evW_chkr, evW_chfr, isCst, loadS, partS, TK.agg, fieldAddrS, zeroS, storeS, setPart, splice, endS, resS, fieldS, h_l20_small_1, hlx, hj, ha, hy, hln, hla, p1, q1, p2, q2]
        · have q2 : ¬ 20 < (l[j].ages.length : Int) := by omega
          have p3 : l[j].nodes.any longN = true := by
            rcases hp with (h | h) | h
            · exact absurd h p1
            · exact absurd h p2
            · exact h
          have hi := small_in hx hj (by omega) M'
          rw [p3] at hi
          simp [h_l20_small_0] at hi
          simp (maxSteps := 4000000) [c_l20_small_B1, evW_reg, evW_chkr, evW_chfr, isCst, loadS, partS, TK.agg, fieldAddrS, zeroS, storeS, setPart, splice, endS, resS, fieldS, h_l20_small_1, hlx, hj, ha, hy, hln, hla, p1, q1, p2, q2, hi])
    (fun M' hM => by
      subst hM
      simp [c_l20_small_B1, evW_reg, evW_chkr, evW_chfr, isCst, TK.agg, zeroS, endS, resS, h_l20_small_1, hlx]) M0 rfl
  subst g2
  have hf := find_none_any l bigC
  cases hh : (List.range l.length).find? (fun k => (l[k]?.map bigC).getD false) with
  | none =>
    rw [hh] at g1
    have e := hf.1 hh
    simp [h_l20_small_1] at g1
    simp [c_l20_small, evW_reg, evW_chkr, evW_chfr, isCst, TK.agg, zeroS, endS, resS, hlx, c1, c1', c_l20_small_L1, g1, e]
  | some k =>
    rw [hh] at g1
    have e : l.any bigC = true := by
      cases hc : l.any bigC with
      | true => rfl
      | false => rw [hf.2 hc] at hh; cases hh
    simp [h_l20_small_1] at g1
    simp [c_l20_small, evW_reg, evW_chkr, evW_chfr, isCst, TK.agg, zeroS, endS, resS, hlx, c1, c1', c_l20_small_L1, g1, e]
theorem node_of {n : Nat} {xs : List SV} (h : WT ES.P (n + 3) T_api_Node xs) : ∃ o, NdR (mkV ES.P T_api_Node xs) o := by
  have hpv := WT_pv _ _ _ h
  obtain ⟨e, parts, rfl, hl, hp⟩ := WT_struct ti_api_Node h
  match parts, hl with
  | [p0, p1, p2, p3, p4, p5, p6, p7], _ =>
    obtain ⟨a0, rfl, _, _⟩ := WT_int ti_int (hp 0 _ p0 rfl rfl)
    obtain ⟨a1, rfl, _, _⟩ := WT_int ti_int (hp 1 _ p1 rfl rfl)
    obtain ⟨a2, rfl, _, _⟩ := WT_int ti_int (hp 2 _ p2 rfl rfl)
    obtain ⟨a3, rfl, _, _⟩ := WT_int ti_int64 (hp 3 _ p3 rfl rfl)
    obtain ⟨a4, rfl, _, _⟩ := WT_int ti_int64 (hp 4 _ p4 rfl rfl)
    obtain ⟨l, h5, e5⟩ := int_row (hp 5 _ p5 rfl rfl)
    obtain ⟨a6, rfl, _, _⟩ := WT_int ti_int (hp 6 _ p6 rfl rfl)
    obtain ⟨a7, rfl, _, _⟩ := WT_int ti_int (hp 7 _ p7 rfl rfl)
    have hA : Sh.pv (mkV ES.P T_sl_int p5) = true := mkV_pv (WT_pv _ _ _ (hp 5 _ p5 rfl rfl))
    rw [e]
    refine ⟨⟨a0, a1, a2, a3, a4, l, a6, a7⟩, mkV ES.P T_sl_int p5, ?_, h5, hA⟩
    conv => lhs; rw [e5]
    rfl
theorem nodes_row {n : Nat} {xs : List SV} (h : WT ES.P (n + 4) T_sl_api_Node xs) : ∃ l, Nds (mkV ES.P T_sl_api_Node xs) l ∧ xs = [mkV ES.P T_sl_api_Node xs] := by
  rcases WT_slice ti_sl_api_Node ti_api_Node h with ⟨e1, h⟩ | ⟨items, e1, h, hl, hi⟩
  · rw [h]; exact ⟨[], RSl.nil _, e1⟩
  · rw [h]
    obtain ⟨l, hl2⟩ := RSl.exists (R := NdR) (tl := .ro) (items := items) fun y hy => by
      obtain ⟨ys, rfl, hw⟩ := hi y hy
      exact node_of hw
    exact ⟨l, hl2, e1⟩
theorem cell_of {n : Nat} {xs : List SV} (h : WT ES.P (n + 5) T_api_Cell xs) : ∃ o, ClR (mkV ES.P T_api_Cell xs) o := by
  obtain ⟨e, parts, rfl, hl, hp⟩ := WT_struct ti_api_Cell h
  match parts, hl with
  | [p0, p1], _ =>
    obtain ⟨l, h0, e0⟩ := nodes_row (hp 0 _ p0 rfl rfl)
    have hN : Sh.pv (mkV ES.P T_sl_api_Node p0) = true := mkV_pv (WT_pv _ _ _ (hp 0 _ p0 rfl rfl))
    obtain ⟨_, gp, rfl, hgl, hgp⟩ := WT_struct ti_api_Guard (hp 1 _ p1 rfl rfl)
    match gp, hgl with
    | [g0, g1, g2], _ =>
      obtain ⟨b0, rfl, _⟩ := WT_bool ti_bool (hgp 0 _ g0 rfl rfl)
      obtain ⟨b1, rfl, _, _⟩ := WT_int ti_int64 (hgp 1 _ g1 rfl rfl)
      obtain ⟨w, h2, e2⟩ := int_row (hgp 2 _ g2 rfl rfl)
      have hA : Sh.pv (mkV ES.P T_sl_int g2) = true := mkV_pv (WT_pv _ _ _ (hgp 2 _ g2 rfl rfl))
      rw [e]
      refine ⟨⟨l, b0, b1, w⟩, mkV ES.P T_sl_api_Node p0, mkV ES.P T_sl_int g2, ?_, h0, h2, hN, hA⟩
      conv => lhs; rw [e0, e2]
      rfl
theorem cells_of {n : Nat} {xs : List SV} (h : WT ES.P (n + 6) T_sl_api_Cell xs) : ∃ os, Cels (mkV ES.P T_sl_api_Cell xs) os ∧ Sh.pv (mkV ES.P T_sl_api_Cell xs) = true := by
  have hpv := mkV_pv (P := ES.P) (e := T_sl_api_Cell) (WT_pv _ _ _ h)
  rcases WT_slice ti_sl_api_Cell ti_api_Cell h with ⟨e1, h⟩ | ⟨items, e1, h, hl, hi⟩
  · rw [h]; exact ⟨[], RSl.nil _, rfl⟩
  · rw [h] at hpv ⊢
    obtain ⟨l, hl2⟩ := RSl.exists (R := ClR) (tl := .ro) (items := items) fun y hy => by
      obtain ⟨ys, rfl, hw⟩ := hi y hy
      exact cell_of hw
    exact ⟨l, hl2, hpv⟩

end Go.Proofs.YtljjmdcdlcefmaaGreatDoor

/-
  Walks of the seat's functions: Og.
-/
set_option linter.unusedVariables false
set_option linter.unusedSimpArgs false
set_option maxRecDepth 100000
namespace Go.Proofs.YtljjmdcdlcefmaaGreatDoor
open Go.Proofs.YtljjmdcdlcefmaaGreatDoor.Sh
/-! The example of chapter 20: its cells, reckoned. -/
def xC : Cfg := { parts := [⟨6, 1⟩, ⟨6, 1⟩], links := [⟨0, 1, 0, 1, 0, 1⟩], cycle := 20000, lead := 60, slot := 100, window := 3, drift := 0, rate := 300000, ages := 2, lost := 0, listen := 4, span := 4, room := 12 }
def xP : SV := .sl [.agg [.int .i64 6, .int .i64 1], .agg [.int .i64 6, .int .i64 1]] .ro
def xL : SV := .sl [.agg [.int .i64 0, .int .i64 1, .int .i64 0, .int .i64 1, .int .i64 0, .int .i64 1]] .ro
theorem xCfg : CfgP xC xP xL := ⟨RSl.of_map (enc := encPart) rfl rfl, RSl.of_map (enc := encLink) rfl rfl, by decide, by decide⟩
def xN (s : Int) : Node := ⟨s, 0, 0, 0, 0, [], 0, 0⟩
def xCel (s : Int) : Cel := ⟨List.replicate 6 (xN s), false, 0, []⟩
def xNode (s : Int) : SV := .agg [.int .i64 s, .int .i64 0, .int .i64 0, .int .i64 0, .int .i64 0, .nilsl, .int .i64 0, .int .i64 0]
def xCell (s : Int) : SV := .agg [.sl [xNode s, xNode s, xNode s, xNode s, xNode s, xNode s] .ro, .bool false, .int .i64 0, .nilsl]
def xCells (s : Int) : SV := .sl [xCell s, xCell s] .ro
theorem xNds (s : Int) : NdR (xNode s) (xN s) := ⟨.nilsl, rfl, RSl.nil _, rfl⟩
theorem xCelR (s : Int) : ClR (xCell s) (xCel s) := by
  refine ⟨.sl [xNode s, xNode s, xNode s, xNode s, xNode s, xNode s] .ro, .nilsl, rfl, ⟨rfl, rfl, fun j y a hy ha => ?_⟩, RSl.nil _, rfl, rfl⟩
  have e1 : its (SV.sl [xNode s, xNode s, xNode s, xNode s, xNode s, xNode s] .ro) = List.replicate 6 (xNode s) := rfl
  rw [e1, List.getElem?_replicate] at hy
  have ha' : (List.replicate 6 (xN s))[j]? = some a := ha
  rw [List.getElem?_replicate] at ha'
  split at hy
  · simp only [Option.some.injEq] at hy
    rename_i hj
    rw [if_pos hj] at ha'
    simp only [Option.some.injEq] at ha'
    rw [← hy, ← ha']
    exact xNds s
  · cases hy
theorem xCelsR (s : Int) : Cels (xCells s) [xCel s, xCel s] := by
  refine ⟨rfl, rfl, fun j y a hy ha => ?_⟩
  have e1 : its (xCells s) = List.replicate 2 (xCell s) := rfl
  rw [e1, List.getElem?_replicate] at hy
  have ha' : (List.replicate 2 (xCel s))[j]? = some a := ha
  rw [List.getElem?_replicate] at ha'
  split at hy
  · simp only [Option.some.injEq] at hy
    rename_i hj
    rw [if_pos hj] at ha'
    simp only [Option.some.injEq] at ha'
    rw [← hy, ← ha']
    exact xCelR s
  · cases hy
theorem xCells_pv (s : Int) : Sh.pv (xCells s) = true := rfl
theorem made_1 : PCw ES n_r26_Made [.int .i64 1] = some (.agg (cfgC xC xP xL)) := PCw_closed 200 (by kernel_rfl)
theorem cells_0 : PCw ES n_l20_cells [.agg (cfgC xC xP xL), .nilsl, .int .i64 0] = some (xCells 0) := PCw_closed 200 (by kernel_rfl)

end Go.Proofs.YtljjmdcdlcefmaaGreatDoor

/-
  Walks of the seat's functions: Oh.
-/
set_option linter.unusedVariables false
set_option linter.unusedSimpArgs false
set_option maxRecDepth 100000
namespace Go.Proofs.YtljjmdcdlcefmaaGreatDoor
open Go.Proofs.YtljjmdcdlcefmaaGreatDoor.Sh
/-! The example of chapter 20: its cells, reckoned. -/
theorem cells_1 : PCw ES n_l20_cells [.agg (cfgC xC xP xL), .nilsl, .int .i64 1] = some (xCells 1) := PCw_closed 200 (by kernel_rfl)

end Go.Proofs.YtljjmdcdlcefmaaGreatDoor
