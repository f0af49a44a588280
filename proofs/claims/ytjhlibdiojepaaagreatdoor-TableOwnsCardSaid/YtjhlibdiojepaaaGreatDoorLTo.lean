/-
  Walks of the seat's functions: To.
-/
import Derived.Test.YtjhlibdiojepaaaGreatDoorEbMa
import Derived.Test.YtjhlibdiojepaaaGreatDoorShMb
import Derived.Test.YtjhlibdiojepaaaGreatDoorLTj
set_option linter.unusedVariables false
set_option linter.unusedSimpArgs false
set_option maxRecDepth 100000
namespace Go.Proofs.YtjhlibdiojepaaaGreatDoor
open Go.Proofs.YtjhlibdiojepaaaGreatDoor.Sh
/-! The law TableOwns. -/
set_option maxHeartbeats 8000000 in
theorem owns_end0 {c : Cfg} {P L z : SV} {n part node kind v : Int} {p x len : Nat} {M' : Mem} (hP : CfgP c P L) (hp : p < c.parts.length) (hm : ∀ get, callP (PCw ES) get n_r26_Made [.int .i64 n] = some (.agg (cfgC c P L)))
    (k1 : ∀ get, callP (PCw ES) get n_table_Slots [.agg (cfgC c P L), .int .i64 p] = some z) (k3 : ∀ get, callP (PCw ES) get n_r5_Port [.agg (cfgC c P L), .int .i64 p, .int .i64 x] = some (portO (portG c p x)))
    (hl : lenS ES.P T_sl_api_Slot z = some (.int .i64 len)) (b1 : 0 ≤ part ∧ part ≤ 255) (b2 : 0 ≤ node ∧ node ≤ 255) (b3 : 0 ≤ kind ∧ kind ≤ 255) (hpe : part.tmod c.parts.length = p) (hxe : node.tmod 14 = x) (hke : kind.tmod 8 = ((0 : Nat) : Int))
    (g1 : evW ES n_l9_TableOwns (.loop c_l9_TableOwns_B0) ⟨h_l9_TableOwns_0 (.ptr 2 0 0) (.int .i64 p) (.int .i64 ((0 : Nat) : Int)) (.int .i64 x) z (.int .i64 0) (.int .i64 0), (Mem.empty.bump 4).set 2 (some [.agg (cfgC c P L)])⟩ =
      some (.exit 0, ⟨(h_l9_TableOwns_0 (.ptr 2 0 0) (.int .i64 p) (.int .i64 ((0 : Nat) : Int)) (.int .i64 x) z (.int .i64 v) (.int .i64 len)).set 41 (.bool false), M'⟩))
    (hv : v = if wantKN c p ((0 : Nat) : Int) x then 1 else 0) (hM' : M'.blk 2 = some [.agg (cfgC c P L)]) (hMn : 2 < M'.next) :
    ∃ M, ICw ES n_l9_TableOwns [.int .i64 n, .int .u8 part, .int .u8 node, .int .u8 kind] .empty = some (.bool true, M) := by
  have hlenp := hP.p.lenS ti_sl_api_Part
  have hz : (c.parts.length : Int) ≠ 0 := by omega
  have x1 : IntKind.i64.wrap part = part := i64_in (by omega) (by omega)
  have x2 : IntKind.i64.wrap node = node := i64_in (by omega) (by omega)
  have x3 : IntKind.i64.wrap kind = kind := i64_in (by omega) (by omega)
  have ha := Parts.at hP.p hp
  have hnd := nodesAt_in hp
  have hne : ∀ i, (2 = M'.next + i) = False := fun i => by simp; omega
  simp only [cfgC] at hm k1 k3 hM'
  simp [h_l9_TableOwns_0, cfgC] at g1
  simp at hke
  unfold wantKN at hv
  rw [b_l9_TableOwns]
  by_cases hxn : (x : Int) < nodesAt c p
  · rw [hnd] at hxn
    cases hpg : portG c p x with
    | none =>
      rw [hpg] at k3
      simp [hpg, hnd, hxn] at hv
      subst hv
      simp (maxSteps := 4000000) [c_l9_TableOwns, evW_reg, evW_chkr, isCst, loadS, partS, TK.agg, fieldAddrS, zeroS, storeS, setPart, splice, endS, resS, fieldS, cfgC, hm, hlenp, binS_rem hz, x1, x2, x3, hpe, hxe, hke, k1, c_l9_TableOwns_L0, g1, hl, k3, portO, hM', hne, ha, hp, hxn]
    | some q =>
      rw [hpg] at k3
      simp [hpg, hnd, hxn] at hv
      subst hv
      simp (maxSteps := 4000000) [c_l9_TableOwns, evW_reg, evW_chkr, isCst, loadS, partS, TK.agg, fieldAddrS, zeroS, storeS, setPart, splice, endS, resS, fieldS, cfgC, hm, hlenp, binS_rem hz, x1, x2, x3, hpe, hxe, hke, k1, c_l9_TableOwns_L0, g1, hl, k3, portO, hM', hne, ha, hp, hxn]
  · rw [hnd] at hxn
    cases hpg : portG c p x with
    | none =>
      rw [hpg] at k3
      simp [hpg, hnd, hxn] at hv
      subst hv
      simp (maxSteps := 4000000) [c_l9_TableOwns, evW_reg, evW_chkr, isCst, loadS, partS, TK.agg, fieldAddrS, zeroS, storeS, setPart, splice, endS, resS, fieldS, cfgC, hm, hlenp, binS_rem hz, x1, x2, x3, hpe, hxe, hke, k1, c_l9_TableOwns_L0, g1, hl, k3, portO, hM', hne, ha, hp, hxn]
    | some q =>
      rw [hpg] at k3
      simp [hpg, hnd, hxn] at hv
      subst hv
      simp (maxSteps := 4000000) [c_l9_TableOwns, evW_reg, evW_chkr, isCst, loadS, partS, TK.agg, fieldAddrS, zeroS, storeS, setPart, splice, endS, resS, fieldS, cfgC, hm, hlenp, binS_rem hz, x1, x2, x3, hpe, hxe, hke, k1, c_l9_TableOwns_L0, g1, hl, k3, portO, hM', hne, ha, hp, hxn]
set_option maxHeartbeats 8000000 in
theorem owns_end1 {c : Cfg} {P L z : SV} {n part node kind v : Int} {p x len : Nat} {M' : Mem} (hP : CfgP c P L) (hp : p < c.parts.length) (hm : ∀ get, callP (PCw ES) get n_r26_Made [.int .i64 n] = some (.agg (cfgC c P L)))
    (k1 : ∀ get, callP (PCw ES) get n_table_Slots [.agg (cfgC c P L), .int .i64 p] = some z) (k3 : ∀ get, callP (PCw ES) get n_r5_Port [.agg (cfgC c P L), .int .i64 p, .int .i64 x] = some (portO (portG c p x)))
    (hl : lenS ES.P T_sl_api_Slot z = some (.int .i64 len)) (b1 : 0 ≤ part ∧ part ≤ 255) (b2 : 0 ≤ node ∧ node ≤ 255) (b3 : 0 ≤ kind ∧ kind ≤ 255) (hpe : part.tmod c.parts.length = p) (hxe : node.tmod 14 = x) (hke : kind.tmod 8 = ((1 : Nat) : Int))
    (g1 : evW ES n_l9_TableOwns (.loop c_l9_TableOwns_B0) ⟨h_l9_TableOwns_0 (.ptr 2 0 0) (.int .i64 p) (.int .i64 ((1 : Nat) : Int)) (.int .i64 x) z (.int .i64 0) (.int .i64 0), (Mem.empty.bump 4).set 2 (some [.agg (cfgC c P L)])⟩ =
      some (.exit 0, ⟨(h_l9_TableOwns_0 (.ptr 2 0 0) (.int .i64 p) (.int .i64 ((1 : Nat) : Int)) (.int .i64 x) z (.int .i64 v) (.int .i64 len)).set 41 (.bool false), M'⟩))
    (hv : v = if wantKN c p ((1 : Nat) : Int) x then 1 else 0) (hM' : M'.blk 2 = some [.agg (cfgC c P L)]) (hMn : 2 < M'.next) :
    ∃ M, ICw ES n_l9_TableOwns [.int .i64 n, .int .u8 part, .int .u8 node, .int .u8 kind] .empty = some (.bool true, M) := by
  have hlenp := hP.p.lenS ti_sl_api_Part
  have hz : (c.parts.length : Int) ≠ 0 := by omega
  have x1 : IntKind.i64.wrap part = part := i64_in (by omega) (by omega)
  have x2 : IntKind.i64.wrap node = node := i64_in (by omega) (by omega)
  have x3 : IntKind.i64.wrap kind = kind := i64_in (by omega) (by omega)
  have ha := Parts.at hP.p hp
  have hnd := nodesAt_in hp
  have hne : ∀ i, (2 = M'.next + i) = False := fun i => by simp; omega
  simp only [cfgC] at hm k1 k3 hM'
  simp [h_l9_TableOwns_0, cfgC] at g1
  simp at hke
  unfold wantKN at hv
  rw [b_l9_TableOwns]
  by_cases hxn : (x : Int) < nodesAt c p
  · rw [hnd] at hxn
    cases hpg : portG c p x with
    | none =>
      rw [hpg] at k3
      simp [hpg, hnd, hxn] at hv
      subst hv
      simp (maxSteps := 4000000) [c_l9_TableOwns, evW_reg, evW_chkr, isCst, loadS, partS, TK.agg, fieldAddrS, zeroS, storeS, setPart, splice, endS, resS, fieldS, cfgC, hm, hlenp, binS_rem hz, x1, x2, x3, hpe, hxe, hke, k1, c_l9_TableOwns_L0, g1, hl, k3, portO, hM', hne, ha, hp, hxn]
    | some q =>
      rw [hpg] at k3
      simp [hpg, hnd, hxn] at hv
      subst hv
      simp (maxSteps := 4000000) [c_l9_TableOwns, evW_reg, evW_chkr, isCst, loadS, partS, TK.agg, fieldAddrS, zeroS, storeS, setPart, splice, endS, resS, fieldS, cfgC, hm, hlenp, binS_rem hz, x1, x2, x3, hpe, hxe, hke, k1, c_l9_TableOwns_L0, g1, hl, k3, portO, hM', hne, ha, hp, hxn]
  · rw [hnd] at hxn
    cases hpg : portG c p x with
    | none =>
      rw [hpg] at k3
      simp [hpg, hnd, hxn] at hv
      subst hv
      simp (maxSteps := 4000000) [c_l9_TableOwns, evW_reg, evW_chkr, isCst, loadS, partS, TK.agg, fieldAddrS, zeroS, storeS, setPart, splice, endS, resS, fieldS, cfgC, hm, hlenp, binS_rem hz, x1, x2, x3, hpe, hxe, hke, k1, c_l9_TableOwns_L0, g1, hl, k3, portO, hM', hne, ha, hp, hxn]
    | some q =>
      rw [hpg] at k3
      simp [hpg, hnd, hxn] at hv
      subst hv
      simp (maxSteps := 4000000) [c_l9_TableOwns, evW_reg, evW_chkr, isCst, loadS, partS, TK.agg, fieldAddrS, zeroS, storeS, setPart, splice, endS, resS, fieldS, cfgC, hm, hlenp, binS_rem hz, x1, x2, x3, hpe, hxe, hke, k1, c_l9_TableOwns_L0, g1, hl, k3, portO, hM', hne, ha, hp, hxn]
set_option maxHeartbeats 8000000 in
theorem owns_end2 {c : Cfg} {P L z : SV} {n part node kind v : Int} {p x len : Nat} {M' : Mem} (hP : CfgP c P L) (hp : p < c.parts.length) (hm : ∀ get, callP (PCw ES) get n_r26_Made [.int .i64 n] = some (.agg (cfgC c P L)))
    (k1 : ∀ get, callP (PCw ES) get n_table_Slots [.agg (cfgC c P L), .int .i64 p] = some z) (k3 : ∀ get, callP (PCw ES) get n_r5_Port [.agg (cfgC c P L), .int .i64 p, .int .i64 x] = some (portO (portG c p x)))
    (hl : lenS ES.P T_sl_api_Slot z = some (.int .i64 len)) (b1 : 0 ≤ part ∧ part ≤ 255) (b2 : 0 ≤ node ∧ node ≤ 255) (b3 : 0 ≤ kind ∧ kind ≤ 255) (hpe : part.tmod c.parts.length = p) (hxe : node.tmod 14 = x) (hke : kind.tmod 8 = ((2 : Nat) : Int))
    (g1 : evW ES n_l9_TableOwns (.loop c_l9_TableOwns_B0) ⟨h_l9_TableOwns_0 (.ptr 2 0 0) (.int .i64 p) (.int .i64 ((2 : Nat) : Int)) (.int .i64 x) z (.int .i64 0) (.int .i64 0), (Mem.empty.bump 4).set 2 (some [.agg (cfgC c P L)])⟩ =
      some (.exit 0, ⟨(h_l9_TableOwns_0 (.ptr 2 0 0) (.int .i64 p) (.int .i64 ((2 : Nat) : Int)) (.int .i64 x) z (.int .i64 v) (.int .i64 len)).set 41 (.bool false), M'⟩))
    (hv : v = if wantKN c p ((2 : Nat) : Int) x then 1 else 0) (hM' : M'.blk 2 = some [.agg (cfgC c P L)]) (hMn : 2 < M'.next) :
    ∃ M, ICw ES n_l9_TableOwns [.int .i64 n, .int .u8 part, .int .u8 node, .int .u8 kind] .empty = some (.bool true, M) := by
  have hlenp := hP.p.lenS ti_sl_api_Part
  have hz : (c.parts.length : Int) ≠ 0 := by omega
  have x1 : IntKind.i64.wrap part = part := i64_in (by omega) (by omega)
  have x2 : IntKind.i64.wrap node = node := i64_in (by omega) (by omega)
  have x3 : IntKind.i64.wrap kind = kind := i64_in (by omega) (by omega)
  have ha := Parts.at hP.p hp
  have hnd := nodesAt_in hp
  have hne : ∀ i, (2 = M'.next + i) = False := fun i => by simp; omega
  simp only [cfgC] at hm k1 k3 hM'
  simp [h_l9_TableOwns_0, cfgC] at g1
  simp at hke
  unfold wantKN at hv
  rw [b_l9_TableOwns]
  by_cases hxn : (x : Int) < nodesAt c p
  · rw [hnd] at hxn
    cases hpg : portG c p x with
    | none =>
      rw [hpg] at k3
      simp [hpg, hnd, hxn] at hv
      subst hv
      simp (maxSteps := 4000000) [c_l9_TableOwns, evW_reg, evW_chkr, isCst, loadS, partS, TK.agg, fieldAddrS, zeroS, storeS, setPart, splice, endS, resS, fieldS, cfgC, hm, hlenp, binS_rem hz, x1, x2, x3, hpe, hxe, hke, k1, c_l9_TableOwns_L0, g1, hl, k3, portO, hM', hne, ha, hp, hxn]
    | some q =>
      rw [hpg] at k3
      simp [hpg, hnd, hxn] at hv
      subst hv
      simp (maxSteps := 4000000) [c_l9_TableOwns, evW_reg, evW_chkr, isCst, loadS, partS, TK.agg, fieldAddrS, zeroS, storeS, setPart, splice, endS, resS, fieldS, cfgC, hm, hlenp, binS_rem hz, x1, x2, x3, hpe, hxe, hke, k1, c_l9_TableOwns_L0, g1, hl, k3, portO, hM', hne, ha, hp, hxn]
  · rw [hnd] at hxn
    cases hpg : portG c p x with
    | none =>
      rw [hpg] at k3
      simp [hpg, hnd, hxn] at hv
      subst hv
      simp (maxSteps := 4000000) [c_l9_TableOwns, evW_reg, evW_chkr, isCst, loadS, partS, TK.agg, fieldAddrS, zeroS, storeS, setPart, splice, endS, resS, fieldS, cfgC, hm, hlenp, binS_rem hz, x1, x2, x3, hpe, hxe, hke, k1, c_l9_TableOwns_L0, g1, hl, k3, portO, hM', hne, ha, hp, hxn]
    | some q =>
      rw [hpg] at k3
      simp [hpg, hnd, hxn] at hv
      subst hv
      simp (maxSteps := 4000000) [c_l9_TableOwns, evW_reg, evW_chkr, isCst, loadS, partS, TK.agg, fieldAddrS, zeroS, storeS, setPart, splice, endS, resS, fieldS, cfgC, hm, hlenp, binS_rem hz, x1, x2, x3, hpe, hxe, hke, k1, c_l9_TableOwns_L0, g1, hl, k3, portO, hM', hne, ha, hp, hxn]
set_option maxHeartbeats 8000000 in
theorem owns_end3 {c : Cfg} {P L z : SV} {n part node kind v : Int} {p x len : Nat} {M' : Mem} (hP : CfgP c P L) (hp : p < c.parts.length) (hm : ∀ get, callP (PCw ES) get n_r26_Made [.int .i64 n] = some (.agg (cfgC c P L)))
    (k1 : ∀ get, callP (PCw ES) get n_table_Slots [.agg (cfgC c P L), .int .i64 p] = some z) (k3 : ∀ get, callP (PCw ES) get n_r5_Port [.agg (cfgC c P L), .int .i64 p, .int .i64 x] = some (portO (portG c p x)))
    (hl : lenS ES.P T_sl_api_Slot z = some (.int .i64 len)) (b1 : 0 ≤ part ∧ part ≤ 255) (b2 : 0 ≤ node ∧ node ≤ 255) (b3 : 0 ≤ kind ∧ kind ≤ 255) (hpe : part.tmod c.parts.length = p) (hxe : node.tmod 14 = x) (hke : kind.tmod 8 = ((3 : Nat) : Int))
    (g1 : evW ES n_l9_TableOwns (.loop c_l9_TableOwns_B0) ⟨h_l9_TableOwns_0 (.ptr 2 0 0) (.int .i64 p) (.int .i64 ((3 : Nat) : Int)) (.int .i64 x) z (.int .i64 0) (.int .i64 0), (Mem.empty.bump 4).set 2 (some [.agg (cfgC c P L)])⟩ =
      some (.exit 0, ⟨(h_l9_TableOwns_0 (.ptr 2 0 0) (.int .i64 p) (.int .i64 ((3 : Nat) : Int)) (.int .i64 x) z (.int .i64 v) (.int .i64 len)).set 41 (.bool false), M'⟩))
    (hv : v = if wantKN c p ((3 : Nat) : Int) x then 1 else 0) (hM' : M'.blk 2 = some [.agg (cfgC c P L)]) (hMn : 2 < M'.next) :
    ∃ M, ICw ES n_l9_TableOwns [.int .i64 n, .int .u8 part, .int .u8 node, .int .u8 kind] .empty = some (.bool true, M) := by
  have hlenp := hP.p.lenS ti_sl_api_Part
  have hz : (c.parts.length : Int) ≠ 0 := by omega
  have x1 : IntKind.i64.wrap part = part := i64_in (by omega) (by omega)
  have x2 : IntKind.i64.wrap node = node := i64_in (by omega) (by omega)
  have x3 : IntKind.i64.wrap kind = kind := i64_in (by omega) (by omega)
  have ha := Parts.at hP.p hp
  have hnd := nodesAt_in hp
  have hne : ∀ i, (2 = M'.next + i) = False := fun i => by simp; omega
  simp only [cfgC] at hm k1 k3 hM'
  simp [h_l9_TableOwns_0, cfgC] at g1
  simp at hke
  unfold wantKN at hv
  rw [b_l9_TableOwns]
  by_cases hxn : (x : Int) < nodesAt c p
  · rw [hnd] at hxn
    cases hpg : portG c p x with
    | none =>
      rw [hpg] at k3
      simp [hpg, hnd, hxn] at hv
      subst hv
      simp (maxSteps := 4000000) [c_l9_TableOwns, evW_reg, evW_chkr, isCst, loadS, partS, TK.agg, fieldAddrS, zeroS, storeS, setPart, splice, endS, resS, fieldS, cfgC, hm, hlenp, binS_rem hz, x1, x2, x3, hpe, hxe, hke, k1, c_l9_TableOwns_L0, g1, hl, k3, portO, hM', hne, ha, hp, hxn]
    | some q =>
      rw [hpg] at k3
      simp [hpg, hnd, hxn] at hv
      subst hv
      simp (maxSteps := 4000000) [c_l9_TableOwns, evW_reg, evW_chkr, isCst, loadS, partS, TK.agg, fieldAddrS, zeroS, storeS, setPart, splice, endS, resS, fieldS, cfgC, hm, hlenp, binS_rem hz, x1, x2, x3, hpe, hxe, hke, k1, c_l9_TableOwns_L0, g1, hl, k3, portO, hM', hne, ha, hp, hxn]
  · rw [hnd] at hxn
    cases hpg : portG c p x with
    | none =>
      rw [hpg] at k3
      simp [hpg, hnd, hxn] at hv
      subst hv
      simp (maxSteps := 4000000) [c_l9_TableOwns, evW_reg, evW_chkr, isCst, loadS, partS, TK.agg, fieldAddrS, zeroS, storeS, setPart, splice, endS, resS, fieldS, cfgC, hm, hlenp, binS_rem hz, x1, x2, x3, hpe, hxe, hke, k1, c_l9_TableOwns_L0, g1, hl, k3, portO, hM', hne, ha, hp, hxn]
    | some q =>
      rw [hpg] at k3
      simp [hpg, hnd, hxn] at hv
      subst hv
      simp (maxSteps := 4000000) [c_l9_TableOwns, evW_reg, evW_chkr, isCst, loadS, partS, TK.agg, fieldAddrS, zeroS, storeS, setPart, splice, endS, resS, fieldS, cfgC, hm, hlenp, binS_rem hz, x1, x2, x3, hpe, hxe, hke, k1, c_l9_TableOwns_L0, g1, hl, k3, portO, hM', hne, ha, hp, hxn]
set_option maxHeartbeats 8000000 in
theorem owns_end4 {c : Cfg} {P L z : SV} {n part node kind v : Int} {p x len : Nat} {M' : Mem} (hP : CfgP c P L) (hp : p < c.parts.length) (hm : ∀ get, callP (PCw ES) get n_r26_Made [.int .i64 n] = some (.agg (cfgC c P L)))
    (k1 : ∀ get, callP (PCw ES) get n_table_Slots [.agg (cfgC c P L), .int .i64 p] = some z) (k3 : ∀ get, callP (PCw ES) get n_r5_Port [.agg (cfgC c P L), .int .i64 p, .int .i64 x] = some (portO (portG c p x)))
    (hl : lenS ES.P T_sl_api_Slot z = some (.int .i64 len)) (b1 : 0 ≤ part ∧ part ≤ 255) (b2 : 0 ≤ node ∧ node ≤ 255) (b3 : 0 ≤ kind ∧ kind ≤ 255) (hpe : part.tmod c.parts.length = p) (hxe : node.tmod 14 = x) (hke : kind.tmod 8 = ((4 : Nat) : Int))
    (g1 : evW ES n_l9_TableOwns (.loop c_l9_TableOwns_B0) ⟨h_l9_TableOwns_0 (.ptr 2 0 0) (.int .i64 p) (.int .i64 ((4 : Nat) : Int)) (.int .i64 x) z (.int .i64 0) (.int .i64 0), (Mem.empty.bump 4).set 2 (some [.agg (cfgC c P L)])⟩ =
      some (.exit 0, ⟨(h_l9_TableOwns_0 (.ptr 2 0 0) (.int .i64 p) (.int .i64 ((4 : Nat) : Int)) (.int .i64 x) z (.int .i64 v) (.int .i64 len)).set 41 (.bool false), M'⟩))
    (hv : v = if wantKN c p ((4 : Nat) : Int) x then 1 else 0) (hM' : M'.blk 2 = some [.agg (cfgC c P L)]) (hMn : 2 < M'.next) :
    ∃ M, ICw ES n_l9_TableOwns [.int .i64 n, .int .u8 part, .int .u8 node, .int .u8 kind] .empty = some (.bool true, M) := by
  have hlenp := hP.p.lenS ti_sl_api_Part
  have hz : (c.parts.length : Int) ≠ 0 := by omega
  have x1 : IntKind.i64.wrap part = part := i64_in (by omega) (by omega)
  have x2 : IntKind.i64.wrap node = node := i64_in (by omega) (by omega)
  have x3 : IntKind.i64.wrap kind = kind := i64_in (by omega) (by omega)
  have ha := Parts.at hP.p hp
  have hnd := nodesAt_in hp
  have hne : ∀ i, (2 = M'.next + i) = False := fun i => by simp; omega
  simp only [cfgC] at hm k1 k3 hM'
  simp [h_l9_TableOwns_0, cfgC] at g1
  simp at hke
  unfold wantKN at hv
  rw [b_l9_TableOwns]
  by_cases hxn : (x : Int) < nodesAt c p
  · rw [hnd] at hxn
    cases hpg : portG c p x with
    | none =>
      rw [hpg] at k3
      simp [hpg, hnd, hxn] at hv
      subst hv
      simp (maxSteps := 4000000) [c_l9_TableOwns, evW_reg, evW_chkr, isCst, loadS, partS, TK.agg, fieldAddrS, zeroS, storeS, setPart, splice, endS, resS, fieldS, cfgC, hm, hlenp, binS_rem hz, x1, x2, x3, hpe, hxe, hke, k1, c_l9_TableOwns_L0, g1, hl, k3, portO, hM', hne, ha, hp, hxn]
    | some q =>
      rw [hpg] at k3
      simp [hpg, hnd, hxn] at hv
      subst hv
      simp (maxSteps := 4000000) [c_l9_TableOwns, evW_reg, evW_chkr, isCst, loadS, partS, TK.agg, fieldAddrS, zeroS, storeS, setPart, splice, endS, resS, fieldS, cfgC, hm, hlenp, binS_rem hz, x1, x2, x3, hpe, hxe, hke, k1, c_l9_TableOwns_L0, g1, hl, k3, portO, hM', hne, ha, hp, hxn]
  · rw [hnd] at hxn
    cases hpg : portG c p x with
    | none =>
      rw [hpg] at k3
      simp [hpg, hnd, hxn] at hv
      subst hv
      simp (maxSteps := 4000000) [c_l9_TableOwns, evW_reg, evW_chkr, isCst, loadS, partS, TK.agg, fieldAddrS, zeroS, storeS, setPart, splice, endS, resS, fieldS, cfgC, hm, hlenp, binS_rem hz, x1, x2, x3, hpe, hxe, hke, k1, c_l9_TableOwns_L0, g1, hl, k3, portO, hM', hne, ha, hp, hxn]
    | some q =>
      rw [hpg] at k3
      simp [hpg, hnd, hxn] at hv
      subst hv
      simp (maxSteps := 4000000) [c_l9_TableOwns, evW_reg, evW_chkr, isCst, loadS, partS, TK.agg, fieldAddrS, zeroS, storeS, setPart, splice, endS, resS, fieldS, cfgC, hm, hlenp, binS_rem hz, x1, x2, x3, hpe, hxe, hke, k1, c_l9_TableOwns_L0, g1, hl, k3, portO, hM', hne, ha, hp, hxn]
set_option maxHeartbeats 8000000 in
theorem owns_end5 {c : Cfg} {P L z : SV} {n part node kind v : Int} {p x len : Nat} {M' : Mem} (hP : CfgP c P L) (hp : p < c.parts.length) (hm : ∀ get, callP (PCw ES) get n_r26_Made [.int .i64 n] = some (.agg (cfgC c P L)))
    (k1 : ∀ get, callP (PCw ES) get n_table_Slots [.agg (cfgC c P L), .int .i64 p] = some z) (k3 : ∀ get, callP (PCw ES) get n_r5_Port [.agg (cfgC c P L), .int .i64 p, .int .i64 x] = some (portO (portG c p x)))
    (hl : lenS ES.P T_sl_api_Slot z = some (.int .i64 len)) (b1 : 0 ≤ part ∧ part ≤ 255) (b2 : 0 ≤ node ∧ node ≤ 255) (b3 : 0 ≤ kind ∧ kind ≤ 255) (hpe : part.tmod c.parts.length = p) (hxe : node.tmod 14 = x) (hke : kind.tmod 8 = ((5 : Nat) : Int))
    (g1 : evW ES n_l9_TableOwns (.loop c_l9_TableOwns_B0) ⟨h_l9_TableOwns_0 (.ptr 2 0 0) (.int .i64 p) (.int .i64 ((5 : Nat) : Int)) (.int .i64 x) z (.int .i64 0) (.int .i64 0), (Mem.empty.bump 4).set 2 (some [.agg (cfgC c P L)])⟩ =
      some (.exit 0, ⟨(h_l9_TableOwns_0 (.ptr 2 0 0) (.int .i64 p) (.int .i64 ((5 : Nat) : Int)) (.int .i64 x) z (.int .i64 v) (.int .i64 len)).set 41 (.bool false), M'⟩))
    (hv : v = if wantKN c p ((5 : Nat) : Int) x then 1 else 0) (hM' : M'.blk 2 = some [.agg (cfgC c P L)]) (hMn : 2 < M'.next) :
    ∃ M, ICw ES n_l9_TableOwns [.int .i64 n, .int .u8 part, .int .u8 node, .int .u8 kind] .empty = some (.bool true, M) := by
  have hlenp := hP.p.lenS ti_sl_api_Part
  have hz : (c.parts.length : Int) ≠ 0 := by omega
  have x1 : IntKind.i64.wrap part = part := i64_in (by omega) (by omega)
  have x2 : IntKind.i64.wrap node = node := i64_in (by omega) (by omega)
  have x3 : IntKind.i64.wrap kind = kind := i64_in (by omega) (by omega)
  have ha := Parts.at hP.p hp
  have hnd := nodesAt_in hp
  have hne : ∀ i, (2 = M'.next + i) = False := fun i => by simp; omega
  simp only [cfgC] at hm k1 k3 hM'
  simp [h_l9_TableOwns_0, cfgC] at g1
  simp at hke
  unfold wantKN at hv
  rw [b_l9_TableOwns]
  by_cases hxn : (x : Int) < nodesAt c p
  · rw [hnd] at hxn
    cases hpg : portG c p x with
    | none =>
      rw [hpg] at k3
      simp [hpg, hnd, hxn] at hv
      subst hv
      simp (maxSteps := 4000000) [c_l9_TableOwns, evW_reg, evW_chkr, isCst, loadS, partS, TK.agg, fieldAddrS, zeroS, storeS, setPart, splice, endS, resS, fieldS, cfgC, hm, hlenp, binS_rem hz, x1, x2, x3, hpe, hxe, hke, k1, c_l9_TableOwns_L0, g1, hl, k3, portO, hM', hne, ha, hp, hxn]
    | some q =>
      rw [hpg] at k3
      simp [hpg, hnd, hxn] at hv
      subst hv
      simp (maxSteps := 4000000) [c_l9_TableOwns, evW_reg, evW_chkr, isCst, loadS, partS, TK.agg, fieldAddrS, zeroS, storeS, setPart, splice, endS, resS, fieldS, cfgC, hm, hlenp, binS_rem hz, x1, x2, x3, hpe, hxe, hke, k1, c_l9_TableOwns_L0, g1, hl, k3, portO, hM', hne, ha, hp, hxn]
  · rw [hnd] at hxn
    cases hpg : portG c p x with
    | none =>
      rw [hpg] at k3
      simp [hpg, hnd, hxn] at hv
      subst hv
      simp (maxSteps := 4000000) [c_l9_TableOwns, evW_reg, evW_chkr, isCst, loadS, partS, TK.agg, fieldAddrS, zeroS, storeS, setPart, splice, endS, resS, fieldS, cfgC, hm, hlenp, binS_rem hz, x1, x2, x3, hpe, hxe, hke, k1, c_l9_TableOwns_L0, g1, hl, k3, portO, hM', hne, ha, hp, hxn]
    | some q =>
      rw [hpg] at k3
      simp [hpg, hnd, hxn] at hv
      subst hv
      simp (maxSteps := 4000000) [c_l9_TableOwns, evW_reg, evW_chkr, isCst, loadS, partS, TK.agg, fieldAddrS, zeroS, storeS, setPart, splice, endS, resS, fieldS, cfgC, hm, hlenp, binS_rem hz, x1, x2, x3, hpe, hxe, hke, k1, c_l9_TableOwns_L0, g1, hl, k3, portO, hM', hne, ha, hp, hxn]
set_option maxHeartbeats 8000000 in
theorem owns_end6 {c : Cfg} {P L z : SV} {n part node kind v : Int} {p x len : Nat} {M' : Mem} (hP : CfgP c P L) (hp : p < c.parts.length) (hm : ∀ get, callP (PCw ES) get n_r26_Made [.int .i64 n] = some (.agg (cfgC c P L)))
    (k1 : ∀ get, callP (PCw ES) get n_table_Slots [.agg (cfgC c P L), .int .i64 p] = some z) (k3 : ∀ get, callP (PCw ES) get n_r5_Port [.agg (cfgC c P L), .int .i64 p, .int .i64 x] = some (portO (portG c p x)))
    (hl : lenS ES.P T_sl_api_Slot z = some (.int .i64 len)) (b1 : 0 ≤ part ∧ part ≤ 255) (b2 : 0 ≤ node ∧ node ≤ 255) (b3 : 0 ≤ kind ∧ kind ≤ 255) (hpe : part.tmod c.parts.length = p) (hxe : node.tmod 14 = x) (hke : kind.tmod 8 = ((6 : Nat) : Int))
    (g1 : evW ES n_l9_TableOwns (.loop c_l9_TableOwns_B0) ⟨h_l9_TableOwns_0 (.ptr 2 0 0) (.int .i64 p) (.int .i64 ((6 : Nat) : Int)) (.int .i64 x) z (.int .i64 0) (.int .i64 0), (Mem.empty.bump 4).set 2 (some [.agg (cfgC c P L)])⟩ =
      some (.exit 0, ⟨(h_l9_TableOwns_0 (.ptr 2 0 0) (.int .i64 p) (.int .i64 ((6 : Nat) : Int)) (.int .i64 x) z (.int .i64 v) (.int .i64 len)).set 41 (.bool false), M'⟩))
    (hv : v = if wantKN c p ((6 : Nat) : Int) x then 1 else 0) (hM' : M'.blk 2 = some [.agg (cfgC c P L)]) (hMn : 2 < M'.next) :
    ∃ M, ICw ES n_l9_TableOwns [.int .i64 n, .int .u8 part, .int .u8 node, .int .u8 kind] .empty = some (.bool true, M) := by
  have hlenp := hP.p.lenS ti_sl_api_Part
  have hz : (c.parts.length : Int) ≠ 0 := by omega
  have x1 : IntKind.i64.wrap part = part := i64_in (by omega) (by omega)
  have x2 : IntKind.i64.wrap node = node := i64_in (by omega) (by omega)
  have x3 : IntKind.i64.wrap kind = kind := i64_in (by omega) (by omega)
  have ha := Parts.at hP.p hp
  have hnd := nodesAt_in hp
  have hne : ∀ i, (2 = M'.next + i) = False := fun i => by simp; omega
  simp only [cfgC] at hm k1 k3 hM'
  simp [h_l9_TableOwns_0, cfgC] at g1
  simp at hke
  unfold wantKN at hv
  rw [b_l9_TableOwns]
  by_cases hxn : (x : Int) < nodesAt c p
  · rw [hnd] at hxn
    cases hpg : portG c p x with
    | none =>
      rw [hpg] at k3
      simp [hpg, hnd, hxn] at hv
      subst hv
      simp (maxSteps := 4000000) [c_l9_TableOwns, evW_reg, evW_chkr, isCst, loadS, partS, TK.agg, fieldAddrS, zeroS, storeS, setPart, splice, endS, resS, fieldS, cfgC, hm, hlenp, binS_rem hz, x1, x2, x3, hpe, hxe, hke, k1, c_l9_TableOwns_L0, g1, hl, k3, portO, hM', hne, ha, hp, hxn]
    | some q =>
      rw [hpg] at k3
      simp [hpg, hnd, hxn] at hv
      subst hv
      simp (maxSteps := 4000000) [c_l9_TableOwns, evW_reg, evW_chkr, isCst, loadS, partS, TK.agg, fieldAddrS, zeroS, storeS, setPart, splice, endS, resS, fieldS, cfgC, hm, hlenp, binS_rem hz, x1, x2, x3, hpe, hxe, hke, k1, c_l9_TableOwns_L0, g1, hl, k3, portO, hM', hne, ha, hp, hxn]
  · rw [hnd] at hxn
    cases hpg : portG c p x with
    | none =>
      rw [hpg] at k3
      simp [hpg, hnd, hxn] at hv
      subst hv
      simp (maxSteps := 4000000) [c_l9_TableOwns, evW_reg, evW_chkr, isCst, loadS, partS, TK.agg, fieldAddrS, zeroS, storeS, setPart, splice, endS, resS, fieldS, cfgC, hm, hlenp, binS_rem hz, x1, x2, x3, hpe, hxe, hke, k1, c_l9_TableOwns_L0, g1, hl, k3, portO, hM', hne, ha, hp, hxn]
    | some q =>
      rw [hpg] at k3
      simp [hpg, hnd, hxn] at hv
      subst hv
      simp (maxSteps := 4000000) [c_l9_TableOwns, evW_reg, evW_chkr, isCst, loadS, partS, TK.agg, fieldAddrS, zeroS, storeS, setPart, splice, endS, resS, fieldS, cfgC, hm, hlenp, binS_rem hz, x1, x2, x3, hpe, hxe, hke, k1, c_l9_TableOwns_L0, g1, hl, k3, portO, hM', hne, ha, hp, hxn]
set_option maxHeartbeats 8000000 in
theorem owns_end7 {c : Cfg} {P L z : SV} {n part node kind v : Int} {p x len : Nat} {M' : Mem} (hP : CfgP c P L) (hp : p < c.parts.length) (hm : ∀ get, callP (PCw ES) get n_r26_Made [.int .i64 n] = some (.agg (cfgC c P L)))
    (k1 : ∀ get, callP (PCw ES) get n_table_Slots [.agg (cfgC c P L), .int .i64 p] = some z) (k3 : ∀ get, callP (PCw ES) get n_r5_Port [.agg (cfgC c P L), .int .i64 p, .int .i64 x] = some (portO (portG c p x)))
    (hl : lenS ES.P T_sl_api_Slot z = some (.int .i64 len)) (b1 : 0 ≤ part ∧ part ≤ 255) (b2 : 0 ≤ node ∧ node ≤ 255) (b3 : 0 ≤ kind ∧ kind ≤ 255) (hpe : part.tmod c.parts.length = p) (hxe : node.tmod 14 = x) (hke : kind.tmod 8 = ((7 : Nat) : Int))
    (g1 : evW ES n_l9_TableOwns (.loop c_l9_TableOwns_B0) ⟨h_l9_TableOwns_0 (.ptr 2 0 0) (.int .i64 p) (.int .i64 ((7 : Nat) : Int)) (.int .i64 x) z (.int .i64 0) (.int .i64 0), (Mem.empty.bump 4).set 2 (some [.agg (cfgC c P L)])⟩ =
      some (.exit 0, ⟨(h_l9_TableOwns_0 (.ptr 2 0 0) (.int .i64 p) (.int .i64 ((7 : Nat) : Int)) (.int .i64 x) z (.int .i64 v) (.int .i64 len)).set 41 (.bool false), M'⟩))
    (hv : v = if wantKN c p ((7 : Nat) : Int) x then 1 else 0) (hM' : M'.blk 2 = some [.agg (cfgC c P L)]) (hMn : 2 < M'.next) :
    ∃ M, ICw ES n_l9_TableOwns [.int .i64 n, .int .u8 part, .int .u8 node, .int .u8 kind] .empty = some (.bool true, M) := by
  have hlenp := hP.p.lenS ti_sl_api_Part
  have hz : (c.parts.length : Int) ≠ 0 := by omega
  have x1 : IntKind.i64.wrap part = part := i64_in (by omega) (by omega)
  have x2 : IntKind.i64.wrap node = node := i64_in (by omega) (by omega)
  have x3 : IntKind.i64.wrap kind = kind := i64_in (by omega) (by omega)
  have ha := Parts.at hP.p hp
  have hnd := nodesAt_in hp
  have hne : ∀ i, (2 = M'.next + i) = False := fun i => by simp; omega
  simp only [cfgC] at hm k1 k3 hM'
  simp [h_l9_TableOwns_0, cfgC] at g1
  simp at hke
  unfold wantKN at hv
  rw [b_l9_TableOwns]
  by_cases hxn : (x : Int) < nodesAt c p
  · rw [hnd] at hxn
    cases hpg : portG c p x with
    | none =>
      rw [hpg] at k3
      simp [hpg, hnd, hxn] at hv
      subst hv
      simp (maxSteps := 4000000) [c_l9_TableOwns, evW_reg, evW_chkr, isCst, loadS, partS, TK.agg, fieldAddrS, zeroS, storeS, setPart, splice, endS, resS, fieldS, cfgC, hm, hlenp, binS_rem hz, x1, x2, x3, hpe, hxe, hke, k1, c_l9_TableOwns_L0, g1, hl, k3, portO, hM', hne, ha, hp, hxn]
    | some q =>
      rw [hpg] at k3
      simp [hpg, hnd, hxn] at hv
      subst hv
      simp (maxSteps := 4000000) [c_l9_TableOwns, evW_reg, evW_chkr, isCst, loadS, partS, TK.agg, fieldAddrS, zeroS, storeS, setPart, splice, endS, resS, fieldS, cfgC, hm, hlenp, binS_rem hz, x1, x2, x3, hpe, hxe, hke, k1, c_l9_TableOwns_L0, g1, hl, k3, portO, hM', hne, ha, hp, hxn]
  · rw [hnd] at hxn
    cases hpg : portG c p x with
    | none =>
      rw [hpg] at k3
      simp [hpg, hnd, hxn] at hv
      subst hv
      simp (maxSteps := 4000000) [c_l9_TableOwns, evW_reg, evW_chkr, isCst, loadS, partS, TK.agg, fieldAddrS, zeroS, storeS, setPart, splice, endS, resS, fieldS, cfgC, hm, hlenp, binS_rem hz, x1, x2, x3, hpe, hxe, hke, k1, c_l9_TableOwns_L0, g1, hl, k3, portO, hM', hne, ha, hp, hxn]
    | some q =>
      rw [hpg] at k3
      simp [hpg, hnd, hxn] at hv
      subst hv
      simp (maxSteps := 4000000) [c_l9_TableOwns, evW_reg, evW_chkr, isCst, loadS, partS, TK.agg, fieldAddrS, zeroS, storeS, setPart, splice, endS, resS, fieldS, cfgC, hm, hlenp, binS_rem hz, x1, x2, x3, hpe, hxe, hke, k1, c_l9_TableOwns_L0, g1, hl, k3, portO, hM', hne, ha, hp, hxn]
set_option maxHeartbeats 8000000 in
theorem TableOwns_walk (xs0 xs1 xs2 xs3 : List SV) (h0 : WT ES.P 8 T_int xs0) (h1 : WT ES.P 8 T_uint8 xs1) (h2 : WT ES.P 8 T_uint8 xs2) (h3 : WT ES.P 8 T_uint8 xs3) :
    ∃ M', ICw ES n_l9_TableOwns [mkV ES.P T_int xs0, mkV ES.P T_uint8 xs1, mkV ES.P T_uint8 xs2, mkV ES.P T_uint8 xs3] .empty = some (.bool true, M') := by
  obtain ⟨n, _, e0, _⟩ := WT_int ti_int h0
  obtain ⟨part, _, e1, w1⟩ := WT_int ti_uint8 h1
  obtain ⟨node, _, e2, w2⟩ := WT_int ti_uint8 h2
  obtain ⟨kind, _, e3, w3⟩ := WT_int ti_uint8 h3
  have b1 := wf8 w1
  have b2 := wf8 w2
  have b3 := wf8 w3
  rw [e0, e1, e2, e3]
  obtain ⟨P, L, hm, hP⟩ := Made_c n
  have hpv := callPv (hm fun _ => none)
  have hrt := made_right n
  have hr := right_facts hrt
  obtain ⟨p, hp, hpe⟩ := rem_part b1.1 (show 0 < (madeC n).parts.length by omega)
  obtain ⟨x, hx, hxe⟩ := rem_part b2.1 (show 0 < 14 by omega)
  obtain ⟨k, hk, hke⟩ := rem_part b3.1 (show 0 < 8 by omega)
  obtain ⟨f1, f2, f3, f4, f5, f6, f7, f8⟩ := made_tab n hp
  generalize madeC n = c at *
  have hin : inMany (p : Int) c.parts.length := by unfold inMany; omega
  have hcnt := kindsC_count hrt hin (k : Int) x
  obtain ⟨z, k1, q1, _⟩ := table_Slots_c hP hpv (p : Int)
  have k2 := fun get => table_Find_c get hP hpv (p : Int) (k : Int) (x : Int)
  have k3 := fun get => r5_Port_c get hP (p : Int) (x : Int)
  simp only [slotsG, f1, if_true] at q1 k2
  have hcl : (slotsL c p).countP (fun s : Slot => decide (s.kind = (k : Int) ∧ s.node = (x : Int))) = if wantKN c p k x then 1 else 0 := by
    rw [← hcnt]
    have e : ∀ (ks : List (Int × Int)) (lead step : Int), (stamp lead step ks).countP (fun s : Slot => decide (s.kind = (k : Int) ∧ s.node = (x : Int))) = ks.countP (isKN k x) := fun ks lead step => by
      have e2 : ks = (stamp lead step ks).map fun s => (s.kind, s.node) := by
        apply List.ext_getElem
        · simp
        · intro i h1 h2
          simp [stamp]
      conv => rhs; rw [e2, List.countP_map]
      rfl
    exact e _ _ _
  generalize slotsL c p = l at *
  have hl := q1.lenS ti_sl_api_Slot
  have hlenp := hP.p.lenS ti_sl_api_Part
  have hz : (c.parts.length : Int) ≠ 0 := by omega
  have x1 : IntKind.i64.wrap part = part := i64_in (by omega) (by omega)
  have x2 : IntKind.i64.wrap node = node := i64_in (by omega) (by omega)
  have x3 : IntKind.i64.wrap kind = kind := i64_in (by omega) (by omega)
  have hxe' : node.tmod 14 = x := hxe
  have hke' : kind.tmod 8 = k := hke
  generalize hpd : (fun s : Slot => decide (s.kind = (k : Int) ∧ s.node = (x : Int))) = pd at *
  have hcnt1 : l.countP pd ≤ 1 := by rw [hcl]; split <;> omega
  obtain ⟨r, g1, M', rfl, hM', hMn⟩ := loop_up (E := ES) (me := n_l9_TableOwns) (B := c_l9_TableOwns_B0) (len := l.length) (T := fun j => h_l9_TableOwns_0 (.ptr 2 0 0) (.int .i64 p) (.int .i64 k) (.int .i64 x) z (.int .i64 (((l.take j).countP pd : Nat) : Int)) (.int .i64 j)) (I := fun _ M => M.blk 2 = some [.agg (cfgC c P L)] ∧ 2 < M.next)
    (Q := fun r => ∃ M', r = (.exit 0, ⟨(h_l9_TableOwns_0 (.ptr 2 0 0) (.int .i64 p) (.int .i64 k) (.int .i64 x) z (.int .i64 ((l.countP pd : Nat) : Int)) (.int .i64 l.length)).set 41 (.bool false), M'⟩) ∧ M'.blk 2 = some [.agg (cfgC c P L)] ∧ 2 < M'.next)
    (fun j M hj hI => by
      left
      have hw : IntKind.i64.wrap ((j : Int) + 1) = (j : Int) + 1 := i64_in (by omega) (by omega)
      have ha := Slots.at q1 hj
      have hcb := hI.1
      simp only [cfgC] at hcb k2
      have u0 : ∀ get, loadS ES.P get T_int (.rptr (l.map encSlot) j 0 (stOf z)) = some (.int .i64 l[j].kind) := fun get => loadS_rptr ti_int (x := encSlot l[j]) (by simp [hj]) rfl
      have u1 : ∀ get, loadS ES.P get T_int (.rptr (l.map encSlot) j 1 (stOf z)) = some (.int .i64 l[j].node) := fun get => loadS_rptr ti_int (x := encSlot l[j]) (by simp [hj]) rfl
      have uc : loadS ES.P M.blk T_api_Config (.ptr 2 0 0) = some (.agg (cfgC c P L)) := by simp [loadS, hcb, partS, TK.agg, cfgC]
      simp only [cfgC] at uc
      have hct := countP_take (p := pd) hj
      have hle := List.countP_le_length (p := pd) (l := l.take j)
      rw [List.length_take] at hle
      by_cases hk1 : l[j].kind = k
      · by_cases hk2 : l[j].node = x
        · have hpj : pd l[j] = true := by rw [← hpd]; simp [hk1, hk2]
          have hidx := idxOf_once hcnt1 hj hpj
          have hf : findG l k x = j := by unfold findG; rw [hpd]; exact hidx
          rw [hf] at k2
          rw [hpj] at hct
          simp only [if_true] at hct
          rw [hct]
          generalize (l.take j).countP pd = q at *
          have hw2 : IntKind.i64.wrap ((q : Int) + 1) = (q : Int) + 1 := i64_in (by omega) (by omega)
          exact ⟨M, by simp (maxSteps := 4000000) [c_l9_TableOwns_B0, evW_reg, evW_chkr, isCst, TK.agg, zeroS, endS, resS, fieldAddrS, h_l9_TableOwns_0, hl, hj, ha, u0, u1, uc, hk1, hk2, k2, hw, hw2], hI⟩
        · have hpj : pd l[j] = false := by rw [← hpd]; simp [hk2]
          rw [hpj] at hct
          simp only [Bool.false_eq_true, if_false, Nat.add_zero] at hct
          rw [hct]
          generalize (l.take j).countP pd = q at *
          exact ⟨M, by simp (maxSteps := 4000000) [c_l9_TableOwns_B0, evW_reg, evW_chkr, isCst, TK.agg, zeroS, endS, resS, fieldAddrS, h_l9_TableOwns_0, hl, hj, ha, u0, u1, hk1, hk2, hw], hI⟩
      · have hpj : pd l[j] = false := by rw [← hpd]; simp [hk1]
        rw [hpj] at hct
        simp only [Bool.false_eq_true, if_false, Nat.add_zero] at hct
        rw [hct]
        generalize (l.take j).countP pd = q at *
        exact ⟨M, by simp (maxSteps := 4000000) [c_l9_TableOwns_B0, evW_reg, evW_chkr, isCst, TK.agg, zeroS, endS, resS, fieldAddrS, h_l9_TableOwns_0, hl, hj, ha, u0, u1, hk1, hw], hI⟩)
    (fun M hI => ⟨_, by simp [c_l9_TableOwns_B0, evW_reg, evW_chkr, isCst, TK.agg, zeroS, endS, resS, h_l9_TableOwns_0, hl], by simp, M, rfl, hI⟩) 0 ((Mem.empty.bump 4).set 2 (some [.agg (cfgC c P L)])) (by omega) ⟨by simp, by show 2 < 4; omega⟩
  have hlen1 : ((l.countP pd : Nat) : Int) = if wantKN c p (k : Int) x then 1 else 0 := by rw [hcl]; split <;> rfl
  simp only [List.take_zero, List.countP_nil, Int.natCast_zero] at g1
  have hkk : k = 0 ∨ k = 1 ∨ k = 2 ∨ k = 3 ∨ k = 4 ∨ k = 5 ∨ k = 6 ∨ k = 7 := by omega
  rcases hkk with rfl | rfl | rfl | rfl | rfl | rfl | rfl | rfl
  · exact owns_end0 hP hp hm k1 k3 hl b1 b2 b3 hpe hxe' hke' g1 hlen1 hM' hMn
  · exact owns_end1 hP hp hm k1 k3 hl b1 b2 b3 hpe hxe' hke' g1 hlen1 hM' hMn
  · exact owns_end2 hP hp hm k1 k3 hl b1 b2 b3 hpe hxe' hke' g1 hlen1 hM' hMn
  · exact owns_end3 hP hp hm k1 k3 hl b1 b2 b3 hpe hxe' hke' g1 hlen1 hM' hMn
  · exact owns_end4 hP hp hm k1 k3 hl b1 b2 b3 hpe hxe' hke' g1 hlen1 hM' hMn
  · exact owns_end5 hP hp hm k1 k3 hl b1 b2 b3 hpe hxe' hke' g1 hlen1 hM' hMn
  · exact owns_end6 hP hp hm k1 k3 hl b1 b2 b3 hpe hxe' hke' g1 hlen1 hM' hMn
  · exact owns_end7 hP hp hm k1 k3 hl b1 b2 b3 hpe hxe' hke' g1 hlen1 hM' hMn

end Go.Proofs.YtjhlibdiojepaaaGreatDoor
