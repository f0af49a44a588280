/-
  Walks of the seat's functions: Td.
-/
import Derived.Test.YtomlbmbgocmiiaaGreatDoorEbMa
import Derived.Test.YtomlbmbgocmiiaaGreatDoorShMb
import Derived.Test.YtomlbmbgocmiiaaGreatDoorLzMg
import Derived.Test.YtomlbmbgocmiiaaGreatDoorLzMh
import Derived.Test.YtomlbmbgocmiiaaGreatDoorLVp
set_option linter.unusedVariables false
set_option linter.unusedSimpArgs false
set_option maxRecDepth 100000
namespace Go.Proofs.YtomlbmbgocmiiaaGreatDoor
open Go.Proofs.YtomlbmbgocmiiaaGreatDoor.Sh
/-! table.Of and what is built on it. -/
theorem cfg_pv {c : Cfg} {P L : SV} (h1 : Sh.pv P = true) (h2 : Sh.pv L = true) : Sh.pv (.agg (cfgC c P L)) = true := by
  simp [Sh.pv, pvs, cfgC, h1, h2]
theorem cfg_pv_inv {c : Cfg} {P L : SV} (h : Sh.pv (.agg (cfgC c P L)) = true) : Sh.pv P = true ∧ Sh.pv L = true := by
  simp only [Sh.pv, cfgC, pvs, Bool.and_eq_true] at h
  exact ⟨h.1, h.2.1⟩
theorem callPv {E : Env} {get : Nat → Option (List SV)} {f : Nat} {xs : List SV} {v : SV} (h : callP (PCw E) get f xs = some v) : Sh.pv v = true := by
  unfold callP at h
  split at h
  case h_2 => cases h
  unfold PCw pcOf at h
  split at h
  case h_2 => cases h
  split at h
  case h_2 => cases h
  split at h
  case isFalse => cases h
  rename_i hp
  simp only [Option.some.injEq] at h
  exact h ▸ hp
/-- A part's view, told cell by cell. -/
def viewL (c : Cfg) (P L : SV) (part : Int) (S Q : SV) : List SV :=
  [P, L, .int .i64 c.cycle, .int .i64 c.lead, .int .i64 c.slot, .int .i64 c.window, .int .i64 c.drift, .int .i64 c.rate, .int .i64 c.ages, .int .i64 c.lost, .int .i64 c.listen, .int .i64 c.span, .int .i64 c.room, .int .i64 part, S, Q,
   .int .i64 (edgeN c), .int .i64 (2 * edgeN c), .int .i64 (slewN c), .int .i64 (stepN c), .int .i64 (jumpN c), .int .i64 (tickN c), .int .i64 (c.ages + 1)]
def zeroV : List SV := [.nilsl, .nilsl, .int .i64 0, .int .i64 0, .int .i64 0, .int .i64 0, .int .i64 0, .int .i64 0, .int .i64 0, .int .i64 0, .int .i64 0, .int .i64 0, .int .i64 0, .int .i64 0, .nilsl, .nilsl,
   .int .i64 0, .int .i64 0, .int .i64 0, .int .i64 0, .int .i64 0, .int .i64 0, .int .i64 0]
set_option maxHeartbeats 4000000 in
theorem table_list_c {P L : SV} {c : Cfg} (hP : CfgP c P L) {p : Nat} (hp : p < c.parts.length) (h1 : 0 ≤ c.lead ∧ c.lead ≤ 1000000) (h2 : 0 ≤ c.slot ∧ c.slot ≤ 1000000) {y : SV} {ps : List Port} (hy : Ports y ps) (hps : ps.length ≤ 100) {K : Nat} (hK : c.parts[p].nodes = (K : Int)) (hK2 : K ≤ 100) :
    ∃ z, (∀ get, callP (PCw ES) get n_table_list [.agg (cfgC c P L), .int .i64 p, y] = some z) ∧ Slots z (stamp c.lead c.slot (kindsL ps K)) ∧ Sh.pv z = true := by
  obtain ⟨z, a1, a2, a3⟩ := table_list_ok hP hp h1 h2 hy hps hK hK2
  exact ⟨z, fun get => callP_of a1 (by simp [hP.npA, hy.np12]), a2, a3⟩
set_option maxHeartbeats 4000000 in
theorem table_Of_fit {P L : SV} {c : Cfg} (hP : CfgP c P L) (hpv : Sh.pv (.agg (cfgC c P L)) = true) {part : Int} (h : inFit c part = true) :
    ∃ S Q, (∀ get, callP (PCw ES) get n_table_Of [.agg (cfgC c P L), .int .i64 part] = some (.tup [.agg (viewL c P L part S Q), .bool true])) ∧ Slots S (slotsL c part) ∧ Ports Q (portsL c.links part (nodesAt c part)) ∧ Sh.pv S = true ∧ Sh.pv Q = true := by
  obtain ⟨f1, f2, f3, f4⟩ := inFit_right h
  have hf : (fitsG c).1 = 0 := by
    simp only [inFit, Bool.and_eq_true] at h
    simpa [fitG] using h.1
  obtain ⟨t1, t2, t3, _⟩ := tabOk f2 f4
  obtain ⟨p, rfl⟩ : ∃ p : Nat, part = p := ⟨part.toNat, by unfold inMany at f3; omega⟩
  have hp : p < c.parts.length := by unfold inMany at f3; omega
  have hn : nodesAt c p = c.parts[p].nodes := nodesAt_in hp
  have hnb := nodesAt_le (checkG_zero (by simpa [rightC] using f1)) p
  obtain ⟨y, e1, e2, e3⟩ := Ends_right hP f1 p
  have hlp := portsL_len c.links p (nodesAt c p)
  have hK : c.parts[p].nodes = ((nodesAt c p).toNat : Int) := by omega
  obtain ⟨z, l1, l2, l3⟩ := table_list_c hP hp (by omega) (by omega) e2 (by omega) hK (by omega)
  refine ⟨z, y, fun get => callP_of (PCw_ex (fun M0 => ?_) ?_) (by simp [hP.npA]), l2, e2, l3, e3⟩
  · rw [b_table_Of]
    have k1 := fun get => bounds_Fits_c get hP
    have k2 := fun get => bounds_Reckon_c get hP f2
    have hlenp := hP.p.lenS ti_sl_api_Part
    have sz := e2.sl
    have sz2 := l2.sl
    simp only [cfgC] at k1 k2 e1 l1
    have x1 : ¬ (p : Int) < 0 := by omega
    have x2 : ¬ (c.parts.length : Int) ≤ p := by omega
    simp (maxSteps := 4000000) [c_table_Of, evW_reg, evW_chkr, isCst, loadS, partS, TK.agg, fieldAddrS, zeroS, storeS, setPart, splice, endS, resS, fieldS, cfgC, k1, k2, hf, hlenp, hp, e1, l1, x1, x2, viewL, numsC, bldS, placesOf, buildS, sl_cells hP.p.sl, sl_cells hP.l.sl, sl_cells sz, sl_cells sz2, sl_sto sz, sl_sto sz2]
  · obtain ⟨q1, q2⟩ := cfg_pv_inv hpv
    simp [Sh.pv, pvs, viewL, q1, q2, l3, e3]
set_option maxHeartbeats 4000000 in
theorem table_Of_not (get) {P L : SV} {c : Cfg} (hP : CfgP c P L) {part : Int} (h : inFit c part = false) : callP (PCw ES) get n_table_Of [.agg (cfgC c P L), .int .i64 part] = some (.tup [.agg zeroV, .bool false]) := by
  refine callP_of (PCw_ex (fun M0 => ?_) rfl) (by simp [hP.npA])
  rw [b_table_Of]
  have k1 := fun get => bounds_Fits_c get hP
  have hlenp := hP.p.lenS ti_sl_api_Part
  simp only [cfgC] at k1
  have bz : bldS ES.P T_table_View [] = some (.agg zeroV) := by simp [bldS, placesOf, buildS, zeroV]
  by_cases hf : (fitsG c).1 = 0
  · have hm : ¬ inMany part c.parts.length := by
      intro hm
      simp [inFit, fitG, hf, hm] at h
    unfold inMany at hm
    by_cases x1 : part < 0
    · simp (maxSteps := 4000000) [c_table_Of, evW_reg, evW_chkr, isCst, loadS, partS, TK.agg, fieldAddrS, zeroS, storeS, setPart, splice, endS, resS, fieldS, cfgC, k1, hf, hlenp, x1, bz, zeroV]
    · have x2 : (c.parts.length : Int) ≤ part := by omega
      simp (maxSteps := 4000000) [c_table_Of, evW_reg, evW_chkr, isCst, loadS, partS, TK.agg, fieldAddrS, zeroS, storeS, setPart, splice, endS, resS, fieldS, cfgC, k1, hf, hlenp, x1, x2, bz, zeroV]
  · simp (maxSteps := 4000000) [c_table_Of, evW_reg, evW_chkr, isCst, loadS, partS, TK.agg, fieldAddrS, zeroS, storeS, setPart, splice, endS, resS, fieldS, cfgC, k1, hf, hlenp, bz, zeroV]

end Go.Proofs.YtomlbmbgocmiiaaGreatDoor

/-
  Walks of the seat's functions: Te.
-/
set_option linter.unusedVariables false
set_option linter.unusedSimpArgs false
set_option maxRecDepth 100000
namespace Go.Proofs.YtomlbmbgocmiiaaGreatDoor
open Go.Proofs.YtomlbmbgocmiiaaGreatDoor.Sh
/-! The program's table: Slots, Find, Which. -/
theorem viewL_pv {c : Cfg} {P L S Q : SV} {part : Int} (hpv : Sh.pv (.agg (cfgC c P L)) = true) (h1 : Sh.pv S = true) (h2 : Sh.pv Q = true) : Sh.pv (.agg (viewL c P L part S Q)) = true := by
  obtain ⟨q1, q2⟩ := cfg_pv_inv hpv
  simp [Sh.pv, pvs, viewL, q1, q2, h1, h2]
theorem elmSlot : Elm (fun y a => y = encSlot a) ⟨.struct [(T_int, 0), (T_int, 1), (T_int, 2)], 3, 24, some (.agg [.int .i64 0, .int .i64 0, .int .i64 0])⟩ :=
  ⟨fun h => by rw [h]; rfl, fun h => by rw [h]; rfl, fun h => by rw [h]; rfl, fun h => by rw [h]; rfl⟩
theorem Slots.at {x : SV} {l : List Slot} (h : Slots x l) {j : Nat} (hj : j < l.length) : indexAddrS ES.P T_sl_api_Slot x (.int .i64 j) = some (.rptr (l.map encSlot) j 0 (stOf x)) := RSl.at h ti_sl_api_Slot ti_api_Slot (fun _ => rfl) hj

end Go.Proofs.YtomlbmbgocmiiaaGreatDoor

/-
  Walks of the seat's functions: Tf.
-/
set_option linter.unusedVariables false
set_option linter.unusedSimpArgs false
set_option maxRecDepth 100000
namespace Go.Proofs.YtomlbmbgocmiiaaGreatDoor
open Go.Proofs.YtomlbmbgocmiiaaGreatDoor.Sh
/-! The document's Slots. -/
/-- Items more at the end of a list in own memory. -/
theorem OutR.nextL {P : Program} {get : Nat → Option (List SV)} {o : SV} {M X : Mem} {items ys : List SV} {a s n t e s1 b1 : Nat} {z1 : Option SV} {te : TI} {z : SV} (ht : tiOf P t = some ⟨.slice e, s1, b1, z1⟩) (hte : tiOf P e = some te)
    (hz : te.zero = some z) (h0 : 0 < te.size) (hsz : z.sto = true) (hc : z.cells.length = te.size) (hI : OutR te.size o M items) (h1 : (items.length + ys.length) * te.bytes ≤ 140737488355328) (h2 : items.length + ys.length ≤ 140737488355328)
    (hg : ∀ id, id < M.next → get id = M.blk id) (hy0 : ys ≠ []) (hu : Sh.unif te.size ys = true) (hn : n = ys.length) (hs : get s = some ys) (hX : Old M X) (hXn : a < X.next) (hMa : M.next ≤ a) :
    ∃ o' X', appendS P get a t t o (.own s te.size 0 n) = some (o', killO o ++ [(a, some (items ++ ys))]) ∧ (X.sets (killO o)).set a (some (items ++ ys)) = X' ∧ OutR te.size o' X' (items ++ ys) ∧ Kept o M X' ∧ X'.next = X.next ∧ (∀ id e a b, o' = .own id e a b → M.next ≤ id) := by
  subst hn
  have he : ys.isEmpty = false := by cases ys with | nil => exact absurd rfl hy0 | cons _ _ => rfl
  have hit : itemsS get (.own s te.size 0 ys.length) = some ys := by simp [itemsS, hs]
  have hf : srcFits (TK.slice e) te.size (.own s te.size 0 ys.length) = true := by simp [srcFits]
  have key : appendS P get a t t o (.own s te.size 0 ys.length) = some (.own a te.size 0 (items.length + ys.length), killO o ++ [(a, some (items ++ ys))]) := by
    rcases hI with ⟨rfl, rfl⟩ | ⟨id, rfl, hid, hlt⟩
    · rw [appendS_nil (ys := ys) ht ht hte hz hit h0 hu hf hsz hc (by simpa using h1) (by simpa using h2), he]
      simp [killO]
    · rw [appendS_own (ys := ys) (xs := items) ht ht hte hz hit h0 hu hf hsz hc ((hg id hlt).trans hid) (Nat.le_refl _) h1 h2, he]
      simp [killO]
  refine ⟨_, _, key, rfl, .inr ⟨a, by simp, by simp, by simpa using hXn⟩, ?_, by simp, ?_⟩
  · intro id hid hne
    rw [Mem.blk_set, if_neg (by omega), killO_other hne]
    exact hX id hid
  · intro id e a' b h
    cases h
    exact hMa
/-- Slots that do not stand anywhere yet. -/
def raw (ks : List (Int × Int)) : List Slot := ks.map fun k => ⟨k.1, k.2, 0⟩
theorem raw_app (a b : List (Int × Int)) : raw (a ++ b) = raw a ++ raw b := by simp [raw]
theorem raw_len (a : List (Int × Int)) : (raw a).length = a.length := by simp [raw]
/-- Slots of which the first stand where they are to. -/
def stampTo (lead step : Int) (ks : List (Int × Int)) (j : Nat) : List Slot := ks.mapIdx fun i k => ⟨k.1, k.2, if i < j then lead + i * step else 0⟩
theorem stampTo_zero (lead step : Int) (ks : List (Int × Int)) : stampTo lead step ks 0 = raw ks := by
  apply List.ext_getElem
  · simp [stampTo, raw]
  · intro i h1 h2
    simp [stampTo, raw]
theorem stampTo_all (lead step : Int) (ks : List (Int × Int)) : stampTo lead step ks ks.length = stamp lead step ks := by
  apply List.ext_getElem
  · simp [stampTo, stamp]
  · intro i h1 h2
    have : i < ks.length := by simpa [stampTo] using h1
    simp [stampTo, stamp, this]
theorem stampTo_set {lead step : Int} {ks : List (Int × Int)} {j : Nat} (h : j < ks.length) : (slotSV (stampTo lead step ks j)).set j (encSlot ⟨ks[j].1, ks[j].2, lead + j * step⟩) = slotSV (stampTo lead step ks (j + 1)) := by
  unfold slotSV
  rw [← List.map_set]
  congr 1
  apply List.ext_getElem
  · simp [stampTo]
  · intro i h1 h2
    simp only [stampTo, List.getElem_set, List.getElem_mapIdx]
    by_cases e : j = i
    · subst e
      simp
    · rw [if_neg e]
      have : i < j + 1 ↔ i < j := by omega
      simp [this]
theorem stampTo_at {lead step : Int} {ks : List (Int × Int)} {j : Nat} (h : j < ks.length) : (slotSV (stampTo lead step ks j))[j]? = some (encSlot ⟨ks[j].1, ks[j].2, 0⟩) := by simp [slotSV, stampTo, h]
/-- What the document's maker holds. -/
structure RawI (C : List SV) (cb : Nat) (o : SV) (items : List SV) (M : Mem) : Prop where
  hc : M.blk cb = some [.agg C]
  lc : cb < M.next
  hO : OutR 3 o M items
  nc : ∀ e a b, o ≠ .own cb e a b
set_option maxHeartbeats 4000000 in
theorem r5_Slots_B0 {C : List SV} {cb : Nat} {o : SV} {ks : List (Int × Int)} {M : Mem} (h : RawI C cb o (slotSV (raw ks)) M) (hlen : ks.length ≤ 900) {y : SV} {ps : List Port} (hy : Ports y ps) (hps : ps.length ≤ 1000) {j : Nat} (hj : j < ps.length) (t1 : SV) :
    ∃ M' o', evW ES n_r5_Slots c_r5_Slots_B0 ⟨h_r5_Slots_0 t1 (.ptr cb 0 0) o y (.int .i64 j), M⟩ = some (.normal, ⟨h_r5_Slots_0 t1 (.ptr cb 0 0) o' y (.int .i64 ((j + 1 : Nat) : Int)), M'⟩) ∧
      RawI C cb o' (slotSV (raw (ks ++ [(3, ps[j].node)] ++ [(4, ps[j].node)]))) M' := by
  have hw : IntKind.i64.wrap ((j : Int) + 1) = (j : Int) + 1 := i64_in (by omega) (by omega)
  have ha := Ports.at hy hj
  have hl := hy.lenS ti_sl_api_Port
  have hld : ∀ get, loadS ES.P get T_int (.rptr (ps.map encPort) j 0 (stOf y)) = some (.int .i64 ps[j].node) := fun get => loadS_rptr ti_int (x := encPort ps[j]) (by simp [hj]) rfl
  generalize hv : encSlot ⟨3, ps[j].node, 0⟩ = v
  generalize hu : encSlot ⟨4, ps[j].node, 0⟩ = u
  have hvc : v.cells.length = 3 := by rw [← hv]; rfl
  have huc : u.cells.length = 3 := by rw [← hu]; rfl
  have hvs : v.sto = true := by rw [← hv]; rfl
  have hus : u.sto = true := by rw [← hu]; rfl
  have e1 : (slotSV (raw ks)).length = ks.length := by simp [slotSV, raw]
  have hap := OutR.nextL (P := ES.P) (o := o) (M := M) (X := (M.bump 16).set (M.next + 13) (some [v, u])) (items := slotSV (raw ks)) (ys := [v, u]) (a := M.next + 14) (s := M.next + 13) (n := 2)
    (get := seenM ((M.bump 16).set (M.next + 13) (some [v, u])) M.next 16 (some [0, 1, 2, 3, 4, 5, 6, 7, 8, 9, 10, 11, 12, 13])) ti_sl_api_Slot ti_api_Slot rfl (by decide) rfl rfl h.hO (by rw [e1]; show (ks.length + 2) * 24 ≤ _; omega) (by rw [e1]; show ks.length + 2 ≤ _; omega)
    (fun id hid => by
      have h1 : ¬ (id = M.next + 13) := by omega
      simp [h1, hid]) (by simp) (by simp [Sh.unif, hvc, huc]) rfl (by simp) (fun id hid => by
      have h1 : ¬ (id = M.next + 13) := by omega
      simp [h1]) (by simp) (by omega)
  obtain ⟨o', X', a1, a2, a3, a4, a5, a6⟩ := hap
  refine ⟨X', o', ?_, ⟨(a4 cb h.lc h.nc).trans h.hc, by have := h.lc; rw [a5]; show cb < M.next + 16; omega, ?_, fun e a b hh => by have := a6 _ _ _ _ hh; have := h.lc; omega⟩⟩
  · have b : bldSl ES.P T_sl_api_Slot 2 (M.next + 13) [(0, v), (1, u)] = some (.own (M.next + 13) 3 0 2, [v, u]) := by simp [bldSl, buildRow, hvc, huc, hvs, hus]
    have b1 : bldS ES.P T_api_Slot [(0, .int .i64 3), (1, .int .i64 ps[j].node)] = some v := by rw [← hv]; simp [bldS, placesOf, buildS, splice, encSlot]
    have b2 : bldS ES.P T_api_Slot [(0, .int .i64 4), (1, .int .i64 ps[j].node)] = some u := by rw [← hu]; simp [bldS, placesOf, buildS, splice, encSlot]
    simp at a1 a2
    simp (maxSteps := 4000000) [c_r5_Slots_B0, evW_reg, evW_chkr, isCst, TK.agg, fieldAddrS, zeroS, endS, resS, h_r5_Slots_0, hl, hj, ha, hld, b, b1, b2, a1, a2, hw]
  · rw [raw_app, raw_app, slotSV_append, slotSV_append, List.append_assoc]
    rw [show slotSV (raw [((3 : Int), ps[j].node)]) ++ slotSV (raw [((4 : Int), ps[j].node)]) = [v, u] from by rw [← hv, ← hu]; rfl]
    exact a3
theorem raw_one1 (ks : List (Int × Int)) (n : Int) : slotSV (raw (ks ++ [(2, n)])) = slotSV (raw ks) ++ [encSlot ⟨2, n, 0⟩] := by rw [raw_app, slotSV_append]; rfl
theorem raw_one2 (ks : List (Int × Int)) (n : Int) : slotSV (raw (ks ++ [(5, n)])) = slotSV (raw ks) ++ [encSlot ⟨5, n, 0⟩] := by rw [raw_app, slotSV_append]; rfl
set_option maxHeartbeats 4000000 in
theorem r5_Slots_B1 {c : Cfg} {P L : SV} (hP : CfgP c P L) {p : Nat} (hp : p < c.parts.length) {cb : Nat} {o : SV} {ks : List (Int × Int)} {M : Mem} (h : RawI (cfgC c P L) cb o (slotSV (raw ks)) M) (hlen : ks.length ≤ 900) (y : SV) {j : Nat} (hj : (j : Int) < c.parts[p].nodes) (hj2 : j ≤ 1000) :
    ∃ M' o', evW ES n_r5_Slots c_r5_Slots_B1 ⟨h_r5_Slots_1 (.int .i64 p) (.ptr cb 0 0) o y (.int .i64 j), M⟩ = some (.normal, ⟨h_r5_Slots_1 (.int .i64 p) (.ptr cb 0 0) o' y (.int .i64 ((j + 1 : Nat) : Int)), M'⟩) ∧
      RawI (cfgC c P L) cb o' (slotSV (raw (ks ++ [(2, (j : Int))]))) M' := by
  have hw : IntKind.i64.wrap ((j : Int) + 1) = (j : Int) + 1 := i64_in (by omega) (by omega)
  have ha := Parts.at hP.p hp
  generalize hv : encSlot ⟨2, (j : Int), 0⟩ = v
  have hvc : v.cells.length = 3 := by rw [← hv]; rfl
  have hvs : v.sto = true := by rw [← hv]; rfl
  have e1 : (slotSV (raw ks)).length = ks.length := by simp [slotSV, raw]
  have hap := OutR.nextL (P := ES.P) (o := o) (M := M) (X := (M.bump 6).set (M.next + 3) (some [v])) (items := slotSV (raw ks)) (ys := [v]) (a := M.next + 4) (s := M.next + 3) (n := 1)
    (get := ((M.bump 6).set (M.next + 3) (some [v])).blk) ti_sl_api_Slot ti_api_Slot rfl (by decide) rfl rfl h.hO (by rw [e1]; show (ks.length + 1) * 24 ≤ _; omega) (by rw [e1]; show ks.length + 1 ≤ _; omega)
    (fun id hid => by
      have h1 : ¬ (id = M.next + 3) := by omega
      simp [h1]) (by simp) (by simp [Sh.unif, hvc]) rfl (by simp) (fun id hid => by
      have h1 : ¬ (id = M.next + 3) := by omega
      simp [h1]) (by simp) (by omega)
  obtain ⟨o', X', a1, a2, a3, a4, a5, a6⟩ := hap
  refine ⟨X', o', ?_, ⟨(a4 cb h.lc h.nc).trans h.hc, by have := h.lc; rw [a5]; show cb < M.next + 6; omega, ?_, fun e a b hh => by have := a6 _ _ _ _ hh; have := h.lc; omega⟩⟩
  · have b : bldSl ES.P T_sl_api_Slot 1 (M.next + 3) [(0, v)] = some (.own (M.next + 3) 3 0 1, [v]) := by simp [bldSl, buildRow, hvc, hvs]
    have b1 : bldS ES.P T_api_Slot [(0, .int .i64 2), (1, .int .i64 j)] = some v := by rw [← hv]; simp [bldS, placesOf, buildS, splice, encSlot]
    have hcb := h.hc
    simp only [cfgC] at hcb
    have q1 : loadS ES.P M.blk T_sl_api_Part (.ptr cb 0 0) = some P := by simp [loadS, hcb, partS, TK.agg]
    have q2 : ∀ get, loadS ES.P get T_int (.rptr (c.parts.map encPart) p 0 (stOf P)) = some (.int .i64 c.parts[p].nodes) := fun get => loadS_rptr ti_int (x := encPart c.parts[p]) (by simp [hp]) rfl
    simp at a1 a2
    simp (maxSteps := 4000000) [c_r5_Slots_B1, evW_reg, evW_chkr, isCst, TK.agg, fieldAddrS, zeroS, endS, resS, h_r5_Slots_1, ha, q1, q2, hj, b, b1, a1, a2, hw]
  · rw [raw_one1, hv]
    exact a3
set_option maxHeartbeats 4000000 in
theorem r5_Slots_B2 {C : List SV} {cb : Nat} {o : SV} {ks : List (Int × Int)} {M : Mem} (h : RawI C cb o (slotSV (raw ks)) M) (hlen : ks.length ≤ 900) {y : SV} {ps : List Port} (hy : Ports y ps) (hps : ps.length ≤ 1000) {j : Nat} (hj : j < ps.length) :
    ∃ M' o', evW ES n_r5_Slots c_r5_Slots_B2 ⟨h_r5_Slots_2 (.ptr cb 0 0) o y (.int .i64 j), M⟩ = some (.normal, ⟨h_r5_Slots_2 (.ptr cb 0 0) o' y (.int .i64 ((j + 1 : Nat) : Int)), M'⟩) ∧
      RawI C cb o' (slotSV (raw (ks ++ [(5, ps[j].node)]))) M' := by
  have hw : IntKind.i64.wrap ((j : Int) + 1) = (j : Int) + 1 := i64_in (by omega) (by omega)
  have ha := Ports.at hy hj
  have hl := hy.lenS ti_sl_api_Port
  have hld : ∀ get, loadS ES.P get T_int (.rptr (ps.map encPort) j 0 (stOf y)) = some (.int .i64 ps[j].node) := fun get => loadS_rptr ti_int (x := encPort ps[j]) (by simp [hj]) rfl
  generalize hv : encSlot ⟨5, ps[j].node, 0⟩ = v
  have hvc : v.cells.length = 3 := by rw [← hv]; rfl
  have hvs : v.sto = true := by rw [← hv]; rfl
  have e1 : (slotSV (raw ks)).length = ks.length := by simp [slotSV, raw]
  have hap := OutR.nextL (P := ES.P) (o := o) (M := M) (X := (M.bump 10).set (M.next + 7) (some [v])) (items := slotSV (raw ks)) (ys := [v]) (a := M.next + 8) (s := M.next + 7) (n := 1)
    (get := ((M.bump 10).set (M.next + 7) (some [v])).blk) ti_sl_api_Slot ti_api_Slot rfl (by decide) rfl rfl h.hO (by rw [e1]; show (ks.length + 1) * 24 ≤ _; omega) (by rw [e1]; show ks.length + 1 ≤ _; omega)
    (fun id hid => by
      have h1 : ¬ (id = M.next + 7) := by omega
      simp [h1]) (by simp) (by simp [Sh.unif, hvc]) rfl (by simp) (fun id hid => by
      have h1 : ¬ (id = M.next + 7) := by omega
      simp [h1]) (by simp) (by omega)
  obtain ⟨o', X', a1, a2, a3, a4, a5, a6⟩ := hap
  refine ⟨X', o', ?_, ⟨(a4 cb h.lc h.nc).trans h.hc, by have := h.lc; rw [a5]; show cb < M.next + 10; omega, ?_, fun e a b hh => by have := a6 _ _ _ _ hh; have := h.lc; omega⟩⟩
  · have b : bldSl ES.P T_sl_api_Slot 1 (M.next + 7) [(0, v)] = some (.own (M.next + 7) 3 0 1, [v]) := by simp [bldSl, buildRow, hvc, hvs]
    have b1 : bldS ES.P T_api_Slot [(0, .int .i64 5), (1, .int .i64 ps[j].node)] = some v := by rw [← hv]; simp [bldS, placesOf, buildS, splice, encSlot]
    simp at a1 a2
    simp (maxSteps := 4000000) [c_r5_Slots_B2, evW_reg, evW_chkr, isCst, TK.agg, fieldAddrS, zeroS, endS, resS, h_r5_Slots_2, hl, hj, ha, hld, b, b1, a1, a2, hw]
  · rw [raw_one2, hv]
    exact a3
theorem ownS_ix {q len j : Nat} (h : j < len) : indexAddrS ES.P T_sl_api_Slot (.own q 3 0 len) (.int .i64 j) = some (.ptr q j 0) := by simp [indexAddrS, natS, h]
set_option maxHeartbeats 4000000 in
theorem r5_Slots_B3 {c : Cfg} {P L : SV} {cb q : Nat} {ks : List (Int × Int)} {M : Mem} (hc : M.blk cb = some [.agg (cfgC c P L)]) (hne : cb ≠ q) (h1 : 0 ≤ c.lead ∧ c.lead ≤ 1000000) (h2 : 0 ≤ c.slot ∧ c.slot ≤ 1000000) (hlen : ks.length ≤ 900) {j : Nat} (hj : j < ks.length)
    (hq : M.blk q = some (slotSV (stampTo c.lead c.slot ks j))) :
    evW ES n_r5_Slots c_r5_Slots_B3 ⟨h_r5_Slots_3 (.ptr cb 0 0) (.own q 3 0 ks.length) (.int .i64 j), M⟩ = some (.normal, ⟨h_r5_Slots_3 (.ptr cb 0 0) (.own q 3 0 ks.length) (.int .i64 ((j + 1 : Nat) : Int)), M.set q (some (slotSV (stampTo c.lead c.slot ks (j + 1))))⟩) := by
  have hw : IntKind.i64.wrap ((j : Int) + 1) = (j : Int) + 1 := i64_in (by omega) (by omega)
  have hb := addSlots_bound h1 h2 (n := j) (by omega)
  have w1 := hb.1.wrap
  have w2 := hb.2.wrap
  have hix := ownS_ix (q := q) hj
  have hcb := hc
  simp only [cfgC] at hcb
  have q3 : loadS ES.P M.blk T_int (.ptr cb 0 3) = some (.int .i64 c.lead) := by simp [loadS, hcb, partS, TK.agg]
  have q4 : loadS ES.P M.blk T_int (.ptr cb 0 4) = some (.int .i64 c.slot) := by simp [loadS, hcb, partS, TK.agg]
  have hst := storeS_own (P := ES.P) (get := M.blk) (t := T_int) (id := q) (i := j) (o := 2) (v := .int .i64 (c.lead + j * c.slot)) (x' := encSlot ⟨ks[j].1, ks[j].2, c.lead + j * c.slot⟩) ti_int hq (stampTo_at hj) rfl rfl (by simp [setPart, encSlot, splice])
  rw [stampTo_set hj] at hst
  simp (maxSteps := 4000000) [c_r5_Slots_B3, evW_reg, evW_chkr, isCst, TK.agg, fieldAddrS, zeroS, endS, resS, h_r5_Slots_3, lenS, hj, hix, q3, q4, w1, w2, hst, hw]

end Go.Proofs.YtomlbmbgocmiiaaGreatDoor

/-
  Walks of the seat's functions: Tg.
-/
set_option linter.unusedVariables false
set_option linter.unusedSimpArgs false
set_option maxRecDepth 100000
namespace Go.Proofs.YtomlbmbgocmiiaaGreatDoor
open Go.Proofs.YtomlbmbgocmiiaaGreatDoor.Sh
/-! The document's Slots, Find, Which: contracts. -/
set_option maxHeartbeats 8000000 in
theorem r5_Slots_ok {P L : SV} {c : Cfg} (hP : CfgP c P L) {part : Int} (h : inFit c part = true) :
    ∃ z, PCw ES n_r5_Slots [.agg (cfgC c P L), .int .i64 part] = some z ∧ Slots z (slotsL c part) ∧ Sh.pv z = true := by
  obtain ⟨f1, f2, f3, f4⟩ := inFit_right h
  obtain ⟨t1, t2, t3, _⟩ := tabOk f2 f4
  have h1 : 0 ≤ c.lead ∧ c.lead ≤ 1000000 := by omega
  have h2 : 0 ≤ c.slot ∧ c.slot ≤ 1000000 := by omega
  obtain ⟨p, rfl⟩ : ∃ p : Nat, part = p := ⟨part.toNat, by unfold inMany at f3; omega⟩
  have hp : p < c.parts.length := by unfold inMany at f3; omega
  have hn : nodesAt c p = c.parts[p].nodes := nodesAt_in hp
  have hnb := nodesAt_le (checkG_zero (by simpa [rightC] using f1)) p
  obtain ⟨y, e1, hy⟩ := r5_Ports_c hP p
  have hpl : portsG c p = portsL c.links p (nodesAt c p) := by simp [portsG, f1, f3]
  rw [hpl] at hy
  have hlp := portsL_len c.links p (nodesAt c p)
  have k0 := fun get => r5_Fit_c get hP p
  have hfit : (fitG c && decide (inMany (p : Int) c.parts.length)) = true := h
  rw [hfit] at k0
  unfold slotsL kindsC
  generalize portsL c.links p (nodesAt c p) = ps at *
  have hK : c.parts[p].nodes = ((nodesAt c p).toNat : Int) := by omega
  generalize hKK : (nodesAt c p).toNat = K at *
  obtain ⟨z, items, k1, k2, k5, k6, k7⟩ := PCw_out (E := ES) (f := n_r5_Slots) (esz := 3) (args := [.agg (cfgC c P L), .int .i64 p]) (Pr := fun items => items = slotSV (stamp c.lead c.slot (kindsL ps K))) (fun M0 => by
    rw [b_r5_Slots]
    have hlen := hy.lenS ti_sl_api_Port
    obtain ⟨r1, g1, Ma, oa, rfl, ia⟩ := loop_st (E := ES) (me := n_r5_Slots) (B := c_r5_Slots_B0) (β := SV) (len := ps.length) (T := fun j o => h_r5_Slots_0 (.int .i64 p) (.ptr M0.next 0 0) o y (.int .i64 j))
      (I := fun j o M => RawI (cfgC c P L) M0.next o (slotSV (raw (gates (ps.take j)))) M)
      (Q := fun r => ∃ M' o, r = (.exit 0, ⟨(h_r5_Slots_0 (.int .i64 p) (.ptr M0.next 0 0) o y (.int .i64 ps.length)).set 21 (.bool false), M'⟩) ∧ RawI (cfgC c P L) M0.next o (slotSV (raw (gates ps))) M')
      (fun j o M hj hI => by
        left
        have hg : (gates (ps.take j)).length ≤ 900 := by rw [gates_len, List.length_take]; omega
        obtain ⟨M', o', a1, a2⟩ := r5_Slots_B0 hI hg hy (by omega) hj (.int .i64 p)
        rw [← gates_take hj] at a2
        exact ⟨o', M', a1, a2⟩)
      (fun o M hI => ⟨_, by simp [c_r5_Slots_B0, evW_reg, evW_chkr, isCst, TK.agg, zeroS, endS, resS, h_r5_Slots_0, hlen], by simp, M, o, rfl, by rw [List.take_length] at hI; exact hI⟩) 0 .nilsl
      ((M0.bump 2).set M0.next (some [.agg (cfgC c P L)])) (by omega)
      ⟨by simp, by show M0.next < M0.next + 2; omega, .inl ⟨by simp [gates, raw, slotSV], rfl⟩, by simp⟩
    have hcb := ia.hc
    obtain ⟨r2, g2, Mb, ob, rfl, ib⟩ := loop_st (E := ES) (me := n_r5_Slots) (B := c_r5_Slots_B1) (β := SV) (len := K) (T := fun j o => h_r5_Slots_1 (.int .i64 p) (.ptr M0.next 0 0) o y (.int .i64 j))
      (I := fun j o M => RawI (cfgC c P L) M0.next o (slotSV (raw (gates ps ++ syncs j))) M)
      (Q := fun r => ∃ M' o, r = (.exit 2, ⟨(h_r5_Slots_1 (.int .i64 p) (.ptr M0.next 0 0) o y (.int .i64 K)).set 46 (.bool false), M'⟩) ∧ RawI (cfgC c P L) M0.next o (slotSV (raw (gates ps ++ syncs K))) M')
      (fun j o M hj hI => by
        left
        have hg : (gates ps ++ syncs j).length ≤ 900 := by rw [List.length_append, gates_len, syncs_len]; omega
        obtain ⟨M', o', a1, a2⟩ := r5_Slots_B1 hP hp hI hg y (j := j) (by omega) (by omega)
        rw [List.append_assoc, ← syncs_succ] at a2
        exact ⟨o', M', a1, a2⟩)
      (fun o M hI => by
        have hcb := hI.hc
        simp only [cfgC] at hcb
        have ha := Parts.at hP.p hp
        have q1 : loadS ES.P M.blk T_sl_api_Part (.ptr M0.next 0 0) = some P := by simp [loadS, hcb, partS, TK.agg]
        have q2 : ∀ get, loadS ES.P get T_int (.rptr (c.parts.map encPart) p 0 (stOf P)) = some (.int .i64 K) := fun get => loadS_rptr ti_int (x := encPart c.parts[p]) (by simp [hp]) (by rw [← hK]; rfl)
        exact ⟨_, by simp [c_r5_Slots_B1, evW_reg, evW_chkr, isCst, TK.agg, fieldAddrS, zeroS, endS, resS, h_r5_Slots_1, q1, q2, ha], by simp, M, o, rfl, hI⟩) 0 oa Ma (by omega) (by simpa [syncs] using ia)
    obtain ⟨r3, g3, Mc, oc, rfl, ic⟩ := loop_st (E := ES) (me := n_r5_Slots) (B := c_r5_Slots_B2) (β := SV) (len := ps.length) (T := fun j o => h_r5_Slots_2 (.ptr M0.next 0 0) o y (.int .i64 j))
      (I := fun j o M => RawI (cfgC c P L) M0.next o (slotSV (raw (gates ps ++ syncs K ++ datas (ps.take j)))) M)
      (Q := fun r => ∃ M' o, r = (.exit 4, ⟨(h_r5_Slots_2 (.ptr M0.next 0 0) o y (.int .i64 ps.length)).set 57 (.bool false), M'⟩) ∧ RawI (cfgC c P L) M0.next o (slotSV (raw (kindsL ps K))) M')
      (fun j o M hj hI => by
        left
        have hg : (gates ps ++ syncs K ++ datas (ps.take j)).length ≤ 900 := by rw [List.length_append, List.length_append, gates_len, syncs_len, datas_len, List.length_take]; omega
        obtain ⟨M', o', a1, a2⟩ := r5_Slots_B2 hI hg hy (by omega) hj
        rw [List.append_assoc _ (datas _), ← datas_take hj] at a2
        exact ⟨o', M', a1, a2⟩)
      (fun o M hI => ⟨_, by simp [c_r5_Slots_B2, evW_reg, evW_chkr, isCst, TK.agg, zeroS, endS, resS, h_r5_Slots_2, hlen], by simp, M, o, rfl, by rw [List.take_length] at hI; exact hI⟩) 0 ob Mb (by omega) (by simpa [datas] using ib)
    have hkl : (kindsL ps K).length = 3 * ps.length + K := kindsL_len ps K
    generalize kindsL ps K = ks at *
    have fin : ∃ Md, evW ES n_r5_Slots c_r5_Slots_L3 ⟨h_r5_Slots_3 (.ptr M0.next 0 0) oc (.int .i64 0), Mc⟩ = some (.exit 6, ⟨(h_r5_Slots_3 (.ptr M0.next 0 0) oc (.int .i64 ks.length)).set 72 (.bool false), Md⟩) ∧ OutR 3 oc Md (slotSV (stamp c.lead c.slot ks)) := by
      rcases ic.hO with ⟨q1, rfl⟩ | ⟨q, ho, q2, q3⟩
      · have hk0 : ks = [] := by
          have : (slotSV (raw ks)).length = 0 := by rw [q1]; rfl
          simpa [slotSV, raw] using this
        subst hk0
        refine ⟨Mc, ?_, .inl ⟨by simp [stamp, slotSV], rfl⟩⟩
        rw [show c_r5_Slots_L3 = .loop c_r5_Slots_B3 from rfl, evW_loop]
        simp [c_r5_Slots_B3, evW_reg, evW_chkr, isCst, TK.agg, zeroS, endS, resS, h_r5_Slots_3, lenS]
      · have e1 : (slotSV (raw ks)).length = ks.length := by simp [slotSV, raw]
        rw [e1] at ho
        subst ho
        have hne : M0.next ≠ q := fun e => by subst e; exact ic.nc _ _ _ rfl
        obtain ⟨r4, g4, Md, rfl, i1, i2⟩ := loop_up (E := ES) (me := n_r5_Slots) (B := c_r5_Slots_B3) (len := ks.length) (T := fun j => h_r5_Slots_3 (.ptr M0.next 0 0) (.own q 3 0 ks.length) (.int .i64 j))
          (I := fun j M => M.blk M0.next = some [.agg (cfgC c P L)] ∧ M.blk q = some (slotSV (stampTo c.lead c.slot ks j)) ∧ q < M.next)
          (Q := fun r => ∃ M', r = (.exit 6, ⟨(h_r5_Slots_3 (.ptr M0.next 0 0) (.own q 3 0 ks.length) (.int .i64 ks.length)).set 72 (.bool false), M'⟩) ∧ M'.blk q = some (slotSV (stamp c.lead c.slot ks)) ∧ q < M'.next)
          (fun j M hj ⟨i1, i2, i3⟩ => by
            left
            exact ⟨_, r5_Slots_B3 i1 hne h1 h2 (by omega) hj i2, by simp [hne, i1], by simp, by simpa using i3⟩)
          (fun M ⟨i1, i2, i3⟩ => ⟨_, by simp [c_r5_Slots_B3, evW_reg, evW_chkr, isCst, TK.agg, zeroS, endS, resS, h_r5_Slots_3, lenS], by simp, M, rfl, by rw [stampTo_all] at i2; exact i2, i3⟩) 0 Mc (by omega) ⟨ic.hc, by rw [stampTo_zero]; exact q2, q3⟩
        exact ⟨Md, g4, .inr ⟨q, by simp [slotSV], i1, i2⟩⟩
    obtain ⟨Md, g4, hod⟩ := fin
    simp [h_r5_Slots_0, cfgC] at g1
    simp [h_r5_Slots_1] at g2
    simp [h_r5_Slots_2] at g3
    simp [h_r5_Slots_3] at g4
    simp only [cfgC] at e1 k0
    refine ⟨oc, Md, _, ?_, hod, rfl⟩
    simp (maxSteps := 4000000) [c_r5_Slots, evW_reg, evW_chkr, isCst, TK.agg, fieldAddrS, loadS, partS, zeroS, endS, resS, cfgC, k0, e1, c_r5_Slots_L0, g1, c_r5_Slots_L1, g2, c_r5_Slots_L2, g3, g4]) (fun items h y hy => by
      subst h
      exact slot_pv _ y hy)
  subst k2
  exact ⟨z, k1, RSl.of_map k5 k6, k7⟩
set_option maxHeartbeats 4000000 in
theorem r5_Slots_c {P L : SV} {c : Cfg} (hP : CfgP c P L) (part : Int) :
    ∃ z, (∀ get, callP (PCw ES) get n_r5_Slots [.agg (cfgC c P L), .int .i64 part] = some z) ∧ Slots z (slotsG c part) ∧ Sh.pv z = true := by
  cases h : inFit c part with
  | true =>
    obtain ⟨z, a1, a2, a3⟩ := r5_Slots_ok hP h
    exact ⟨z, fun get => callP_of a1 (by simp [hP.npA]), by simp only [slotsG, h, if_true]; exact a2, a3⟩
  | false =>
    have k0 := fun get => r5_Fit_c get hP part
    have hfit : (fitG c && decide (inMany part c.parts.length)) = false := h
    rw [hfit] at k0
    simp only [cfgC] at k0
    refine ⟨.nilsl, fun get => callP_of (PCw_ex (fun M0 => ?_) rfl) (by simp [hP.npA]), by simp only [slotsG, h]; exact RSl.nil _, rfl⟩
    rw [b_r5_Slots]
    simp (maxSteps := 4000000) [c_r5_Slots, evW_reg, evW_chkr, isCst, loadS, partS, TK.agg, fieldAddrS, zeroS, storeS, setPart, splice, endS, resS, fieldS, cfgC, k0]

end Go.Proofs.YtomlbmbgocmiiaaGreatDoor
