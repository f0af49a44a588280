/-
  Walks of the seat's functions: Mf.
-/
import Derived.Test.YtljjmdcdlcefmaaGreatDoorEbMa
import Derived.Test.YtljjmdcdlcefmaaGreatDoorShMb
import Derived.Test.YtljjmdcdlcefmaaGreatDoorLMe
import Derived.Test.YtljjmdcdlcefmaaGreatDoorLBd
set_option linter.unusedVariables false
set_option linter.unusedSimpArgs false
set_option maxRecDepth 100000
namespace Go.Proofs.YtljjmdcdlcefmaaGreatDoor
open Go.Proofs.YtljjmdcdlcefmaaGreatDoor.Sh
/-! A network by a small number: what is made. -/
def mOf (n : Int) : Nat := (BitVec.ofInt 64 n).toNat % 65536
theorem mOf_lt (n : Int) : mOf n < 65536 := Nat.mod_lt _ (by decide)
theorem andI_m (n : Int) : andI .i64 n 65535 = (mOf n : Int) := by
  have h : (BitVec.ofInt 64 n &&& BitVec.ofInt 64 65535).toNat = mOf n := by
    rw [BitVec.toNat_and, show (BitVec.ofInt 64 65535).toNat = 2 ^ 16 - 1 from by decide, Nat.and_two_pow_sub_one_eq_mod]
    rfl
  show IntKind.i64.wrap ((BitVec.ofInt 64 n &&& BitVec.ofInt 64 65535).toNat : Int) = _
  rw [h]
  have := mOf_lt n
  exact i64_in (by omega) (by omega)
theorem andI_low (m k q : Nat) (hk : k ≤ 32) (hq : q = 2 ^ k - 1) : andI .i64 (m : Int) (q : Int) = ((m % 2 ^ k : Nat) : Int) := by
  have hp : 2 ^ k ≤ 2 ^ 32 := Nat.pow_le_pow_right (by decide) hk
  have h1 : (BitVec.ofInt 64 (q : Int)).toNat = 2 ^ k - 1 := by
    rw [BitVec.ofInt_natCast, BitVec.toNat_ofNat, hq]
    exact Nat.mod_eq_of_lt (by omega)
  have h : (BitVec.ofInt 64 (m : Int) &&& BitVec.ofInt 64 (q : Int)).toNat = m % 2 ^ k := by
    rw [BitVec.toNat_and, h1, Nat.and_two_pow_sub_one_eq_mod, BitVec.ofInt_natCast, BitVec.toNat_ofNat]
    exact Nat.mod_mod_of_dvd _ (Nat.pow_dvd_pow 2 (by omega))
  show IntKind.i64.wrap ((BitVec.ofInt 64 (m : Int) &&& BitVec.ofInt 64 (q : Int)).toNat : Int) = _
  rw [h]
  have : m % 2 ^ k < 2 ^ k := Nat.mod_lt _ (Nat.two_pow_pos k)
  exact i64_in (by omega) (by omega)
theorem and1 (m : Nat) : andI .i64 (m : Int) 1 = ((m % 2 : Nat) : Int) := andI_low m 1 1 (by decide) (by decide)
theorem and3 (m : Nat) : andI .i64 (m : Int) 3 = ((m % 4 : Nat) : Int) := andI_low m 2 3 (by decide) (by decide)
theorem and7 (m : Nat) : andI .i64 (m : Int) 7 = ((m % 8 : Nat) : Int) := andI_low m 3 7 (by decide) (by decide)
def baseC (m : Nat) : Cfg := ⟨[], [], ((20000 + 1000 * (m / 16 % 8) : Nat) : Int), 60, 100, 0, ((20 * (m / 128 % 8) : Nat) : Int), 300000, 0, ((m / 1024 % 2 : Nat) : Int), 0, 0, 12⟩
def partsN (m : Nat) : Nat := 1 + m % 4
def shapeN (m : Nat) : Nat := m / 4 % 4
def netC (m : Nat) : Cfg :=
  let c := rowC (partC (baseC m) (partsN m)) (shapeN m) (partsN m - 1)
  if shapeN m = 1 ∧ 2 < partsN m then joinC c 0 (partsN m - 1) else c
def calmN (m : Nat) : Nat := partsN m * (m / 1024 % 2 + 1) + 2
def preC (m : Nat) : Cfg := { netC m with ages := (((partsN m - 1) * (m / 1024 % 2 + 1) + 1 + m / 2048 % 4 : Nat) : Int), listen := ((calmN m + m / 8192 % 2 : Nat) : Int), span := (calmN m : Int) }
def madeC (n : Int) : Cfg := { preC (mOf n) with window := 3 * edgeG (preC (mOf n)) }
theorem netC_num (m : Nat) (P L : SV) : cfgC (netC m) P L = [P, L, .int .i64 ((20000 + 1000 * (m / 16 % 8) : Nat) : Int), .int .i64 60, .int .i64 100, .int .i64 0, .int .i64 ((20 * (m / 128 % 8) : Nat) : Int), .int .i64 300000, .int .i64 0, .int .i64 ((m / 1024 % 2 : Nat) : Int), .int .i64 0, .int .i64 0, .int .i64 12] := by
  unfold netC
  simp only
  split
  · have := rowC_num (partC (baseC m) (partsN m)) (shapeN m) P L (partsN m - 1)
    rw [show ∀ c : Cfg, cfgC (joinC c 0 (partsN m - 1)) P L = cfgC c P L from fun _ => rfl, this]
    rfl
  · rw [rowC_num]
    rfl
theorem partsN_le (m : Nat) : 1 ≤ partsN m ∧ partsN m ≤ 4 := by unfold partsN; omega
theorem netC_parts (m : Nat) : (netC m).parts.length = partsN m := by
  unfold netC
  simp only
  split
  · simp only [joinC]
    rw [joinP_len, rowC_parts]
    simp [partC]
  · rw [rowC_parts]
    simp [partC]
theorem netC_links (m : Nat) : (netC m).links.length ≤ 10 := by
  have := partsN_le m
  unfold netC
  simp only
  split
  · simp only [joinC, List.length_append, List.length_singleton]
    rw [rowC_links]
    simp [partC, baseC]
    omega
  · rw [rowC_links]
    simp [partC, baseC]
    omega
theorem edgeG_le {c : Cfg} : 0 ≤ edgeG c ∧ edgeG c ≤ 2000 := by
  unfold edgeG
  split
  · rename_i h
    have hin : InRange c := outN_zero (by simp [rangedC] at h; exact h.2)
    have := hin.dc2
    unfold edgeN upM
    omega
  · omega
def m0 (m : Nat) : Mem := ((((Mem.empty.bump 0).bump 1).set 0 (some [zeroC])).bump 15).set 14 (some [.agg (cfgC (baseC m) .nilsl .nilsl)])
set_option maxHeartbeats 4000000 in
theorem Made_loop0 (m : Nat) : ∃ M1 pid, evW ES n_r26_Made c_r26_Made_L0 ⟨h_r26_Made_0 (.int .i64 m) (.ptr 0 0 0) (.int .i64 (partsN m)) (.int .i64 (shapeN m)) (.ptr 14 0 0) (.int .i64 0), m0 m⟩ =
      some (.exit 0, ⟨(h_r26_Made_0 (.int .i64 m) (.ptr 0 0 0) (.int .i64 (partsN m)) (.int .i64 (shapeN m)) (.ptr 14 0 0) (.int .i64 (partsN m))).set 33 (.bool false), M1⟩) ∧ MadeI (partC (baseC m) (partsN m)) 0 14 pid .nilsl M1 := by
  have hn := partsN_le m
  obtain ⟨r, g1, M1, P, g2, g3⟩ := loop_up (E := ES) (me := n_r26_Made) (B := c_r26_Made_B0) (len := partsN m) (T := fun j => h_r26_Made_0 (.int .i64 m) (.ptr 0 0 0) (.int .i64 (partsN m)) (.int .i64 (shapeN m)) (.ptr 14 0 0) (.int .i64 j))
    (I := fun j M => ∃ P, MadeP (partC (baseC m) j) 0 14 P M)
    (Q := fun r => ∃ M' P, r = (.exit 0, ⟨(h_r26_Made_0 (.int .i64 m) (.ptr 0 0 0) (.int .i64 (partsN m)) (.int .i64 (shapeN m)) (.ptr 14 0 0) (.int .i64 (partsN m))).set 33 (.bool false), M'⟩) ∧ MadeP (partC (baseC m) (partsN m)) 0 14 P M')
    (fun j M hj ⟨P, hP⟩ => by
      left
      obtain ⟨M', P', a1, a2⟩ := Made_part (c := baseC m) (t0 := .int .i64 m) (t2 := .ptr 0 0 0) (shape := shapeN m) hP hj (by omega)
      exact ⟨M', a1, P', a2⟩)
    (fun M ⟨P, hP⟩ => ⟨_, by simp [c_r26_Made_B0, evW_reg, evW_chkr, evW_chfr, isCst, loadS, partS, TK.agg, fieldAddrS, zeroS, storeS, setPart, splice, endS, resS, fieldS, h_r26_Made_0], by simp, M, P, rfl, hP⟩) 0 (m0 m) (by omega)
    ⟨.nilsl, ⟨by simp [m0]; rfl, .inl ⟨by simp [partC, partSV], rfl⟩, by simp [m0], by simp, by simp [m0], by decide, by simp, by simp [m0], by simp⟩⟩
  subst g2
  obtain ⟨pid, q1, q2⟩ := g3.own (by simp [partC]; omega) rfl
  exact ⟨M1, pid, g1, q2⟩
set_option maxHeartbeats 4000000 in
theorem Made_loop1 (m : Nat) {pid : Nat} {M1 : Mem} (h : MadeI (partC (baseC m) (partsN m)) 0 14 pid .nilsl M1) : ∃ M2 L, evW ES n_r26_Made c_r26_Made_L1 ⟨h_r26_Made_1 (.int .i64 m) (.ptr 0 0 0) (.int .i64 (partsN m)) (.int .i64 (shapeN m)) (.ptr 14 0 0) (.int .i64 1), M1⟩ =
      some (.exit 2, ⟨(h_r26_Made_1 (.int .i64 m) (.ptr 0 0 0) (.int .i64 (partsN m)) (.int .i64 (shapeN m)) (.ptr 14 0 0) (.int .i64 (partsN m))).set 44 (.bool false), M2⟩) ∧
      MadeI (rowC (partC (baseC m) (partsN m)) (shapeN m) (partsN m - 1)) 0 14 pid L M2 := by
  have hn := partsN_le m
  obtain ⟨r, g1, M1, P, g2, g3⟩ := loop_up (E := ES) (me := n_r26_Made) (B := c_r26_Made_B1) (len := partsN m - 1) (T := fun j => h_r26_Made_1 (.int .i64 m) (.ptr 0 0 0) (.int .i64 (partsN m)) (.int .i64 (shapeN m)) (.ptr 14 0 0) (.int .i64 ((j + 1 : Nat) : Int)))
    (I := fun j M => ∃ L, MadeI (rowC (partC (baseC m) (partsN m)) (shapeN m) j) 0 14 pid L M)
    (Q := fun r => ∃ M' L, r = (.exit 2, ⟨(h_r26_Made_1 (.int .i64 m) (.ptr 0 0 0) (.int .i64 (partsN m)) (.int .i64 (shapeN m)) (.ptr 14 0 0) (.int .i64 ((partsN m - 1 + 1 : Nat) : Int))).set 44 (.bool false), M'⟩) ∧
      MadeI (rowC (partC (baseC m) (partsN m)) (shapeN m) (partsN m - 1)) 0 14 pid L M')
    (fun j M hj ⟨L, hL⟩ => by
      left
      have hlen : (rowC (partC (baseC m) (partsN m)) (shapeN m) j).parts.length = partsN m := by rw [rowC_parts]; simp [partC]
      have hlk : (rowC (partC (baseC m) (partsN m)) (shapeN m) j).links.length = j := by rw [rowC_links]; simp [partC, baseC]
      obtain ⟨M', L', a1, a2⟩ := Made_step (t0 := .int .i64 m) (t2 := .ptr 0 0 0) (shape := shapeN m) (j := j) hL (by omega) (by omega) (by omega)
      rw [hlen] at a1
      exact ⟨M', a1, L', a2⟩)
    (fun M ⟨L, hL⟩ => by
      refine ⟨_, ?_, by simp, M, L, rfl, hL⟩
      have e : partsN m - 1 + 1 = partsN m := by omega
      rw [e]
      simp [c_r26_Made_B1, evW_reg, evW_chkr, evW_chfr, isCst, loadS, partS, TK.agg, fieldAddrS, zeroS, storeS, setPart, splice, endS, resS, fieldS, h_r26_Made_1]) 0 M1 (by omega)
    ⟨.nilsl, h⟩
  subst g2
  have e : partsN m - 1 + 1 = partsN m := by omega
  rw [e] at g1
  exact ⟨M1, P, g1, g3⟩
def m04 (m : Nat) : Mem := ((((Mem.empty.bump 4).bump 1).set 4 (some [zeroC])).bump 15).set 18 (some [.agg (cfgC (baseC m) .nilsl .nilsl)])
set_option maxHeartbeats 4000000 in
theorem Made_loop04 (m : Nat) : ∃ M1 pid, evW ES n_r26_Made c_r26_Made_L0 ⟨h_r26_Made_0 (.int .i64 m) (.ptr 4 0 0) (.int .i64 (partsN m)) (.int .i64 (shapeN m)) (.ptr 18 0 0) (.int .i64 0), m04 m⟩ =
      some (.exit 0, ⟨(h_r26_Made_0 (.int .i64 m) (.ptr 4 0 0) (.int .i64 (partsN m)) (.int .i64 (shapeN m)) (.ptr 18 0 0) (.int .i64 (partsN m))).set 33 (.bool false), M1⟩) ∧ MadeI (partC (baseC m) (partsN m)) 4 18 pid .nilsl M1 := by
  have hn := partsN_le m
  obtain ⟨r, g1, M1, P, g2, g3⟩ := loop_up (E := ES) (me := n_r26_Made) (B := c_r26_Made_B0) (len := partsN m) (T := fun j => h_r26_Made_0 (.int .i64 m) (.ptr 4 0 0) (.int .i64 (partsN m)) (.int .i64 (shapeN m)) (.ptr 18 0 0) (.int .i64 j))
    (I := fun j M => ∃ P, MadeP (partC (baseC m) j) 4 18 P M)
    (Q := fun r => ∃ M' P, r = (.exit 0, ⟨(h_r26_Made_0 (.int .i64 m) (.ptr 4 0 0) (.int .i64 (partsN m)) (.int .i64 (shapeN m)) (.ptr 18 0 0) (.int .i64 (partsN m))).set 33 (.bool false), M'⟩) ∧ MadeP (partC (baseC m) (partsN m)) 4 18 P M')
    (fun j M hj ⟨P, hP⟩ => by
      left
      obtain ⟨M', P', a1, a2⟩ := Made_part (c := baseC m) (t0 := .int .i64 m) (t2 := .ptr 4 0 0) (shape := shapeN m) hP hj (by omega)
      exact ⟨M', a1, P', a2⟩)
    (fun M ⟨P, hP⟩ => ⟨_, by simp [c_r26_Made_B0, evW_reg, evW_chkr, evW_chfr, isCst, loadS, partS, TK.agg, fieldAddrS, zeroS, storeS, setPart, splice, endS, resS, fieldS, h_r26_Made_0], by simp, M, P, rfl, hP⟩) 0 (m04 m) (by omega)
    ⟨.nilsl, ⟨by simp [m04]; rfl, .inl ⟨by simp [partC, partSV], rfl⟩, by simp [m04], by simp, by simp [m04], by decide, by simp, by simp [m04], by simp⟩⟩
  subst g2
  obtain ⟨pid, q1, q2⟩ := g3.own (by simp [partC]; omega) rfl
  exact ⟨M1, pid, g1, q2⟩
set_option maxHeartbeats 4000000 in
theorem Made_loop14 (m : Nat) {pid : Nat} {M1 : Mem} (h : MadeI (partC (baseC m) (partsN m)) 4 18 pid .nilsl M1) : ∃ M2 L, evW ES n_r26_Made c_r26_Made_L1 ⟨h_r26_Made_1 (.int .i64 m) (.ptr 4 0 0) (.int .i64 (partsN m)) (.int .i64 (shapeN m)) (.ptr 18 0 0) (.int .i64 1), M1⟩ =
      some (.exit 2, ⟨(h_r26_Made_1 (.int .i64 m) (.ptr 4 0 0) (.int .i64 (partsN m)) (.int .i64 (shapeN m)) (.ptr 18 0 0) (.int .i64 (partsN m))).set 44 (.bool false), M2⟩) ∧
      MadeI (rowC (partC (baseC m) (partsN m)) (shapeN m) (partsN m - 1)) 4 18 pid L M2 := by
  have hn := partsN_le m
  obtain ⟨r, g1, M1, P, g2, g3⟩ := loop_up (E := ES) (me := n_r26_Made) (B := c_r26_Made_B1) (len := partsN m - 1) (T := fun j => h_r26_Made_1 (.int .i64 m) (.ptr 4 0 0) (.int .i64 (partsN m)) (.int .i64 (shapeN m)) (.ptr 18 0 0) (.int .i64 ((j + 1 : Nat) : Int)))
    (I := fun j M => ∃ L, MadeI (rowC (partC (baseC m) (partsN m)) (shapeN m) j) 4 18 pid L M)
    (Q := fun r => ∃ M' L, r = (.exit 2, ⟨(h_r26_Made_1 (.int .i64 m) (.ptr 4 0 0) (.int .i64 (partsN m)) (.int .i64 (shapeN m)) (.ptr 18 0 0) (.int .i64 ((partsN m - 1 + 1 : Nat) : Int))).set 44 (.bool false), M'⟩) ∧
      MadeI (rowC (partC (baseC m) (partsN m)) (shapeN m) (partsN m - 1)) 4 18 pid L M')
    (fun j M hj ⟨L, hL⟩ => by
      left
      have hlen : (rowC (partC (baseC m) (partsN m)) (shapeN m) j).parts.length = partsN m := by rw [rowC_parts]; simp [partC]
      have hlk : (rowC (partC (baseC m) (partsN m)) (shapeN m) j).links.length = j := by rw [rowC_links]; simp [partC, baseC]
      obtain ⟨M', L', a1, a2⟩ := Made_step (t0 := .int .i64 m) (t2 := .ptr 4 0 0) (shape := shapeN m) (j := j) hL (by omega) (by omega) (by omega)
      rw [hlen] at a1
      exact ⟨M', a1, L', a2⟩)
    (fun M ⟨L, hL⟩ => by
      refine ⟨_, ?_, by simp, M, L, rfl, hL⟩
      have e : partsN m - 1 + 1 = partsN m := by omega
      rw [e]
      simp [c_r26_Made_B1, evW_reg, evW_chkr, evW_chfr, isCst, loadS, partS, TK.agg, fieldAddrS, zeroS, storeS, setPart, splice, endS, resS, fieldS, h_r26_Made_1]) 0 M1 (by omega)
    ⟨.nilsl, h⟩
  subst g2
  have e : partsN m - 1 + 1 = partsN m := by omega
  rw [e] at g1
  exact ⟨M1, P, g1, g3⟩

end Go.Proofs.YtljjmdcdlcefmaaGreatDoor

/-
  Walks of the seat's functions: Mg.
-/
set_option linter.unusedVariables false
set_option linter.unusedSimpArgs false
set_option maxRecDepth 100000
namespace Go.Proofs.YtljjmdcdlcefmaaGreatDoor
open Go.Proofs.YtljjmdcdlcefmaaGreatDoor.Sh
/-! A network by a small number: its contract. -/
theorem OutR.lt {esz : Nat} {o : SV} {M : Mem} {items : List SV} (h : OutR esz o M items) {id e a b : Nat} (ho : o = .own id e a b) : id < M.next := by
  rcases h with ⟨_, q⟩ | ⟨i, q, _, q3⟩
  · rw [q] at ho; cases ho
  · rw [q] at ho; cases ho; exact q3
theorem preC_num (m : Nat) (P L : SV) : cfgC (preC m) P L = [P, L, .int .i64 ((20000 + 1000 * (m / 16 % 8) : Nat) : Int), .int .i64 60, .int .i64 100, .int .i64 0, .int .i64 ((20 * (m / 128 % 8) : Nat) : Int), .int .i64 300000, .int .i64 (((partsN m - 1) * (m / 1024 % 2 + 1) + 1 + m / 2048 % 4 : Nat) : Int), .int .i64 ((m / 1024 % 2 : Nat) : Int),
    .int .i64 ((calmN m + m / 8192 % 2 : Nat) : Int), .int .i64 (calmN m : Int), .int .i64 12] := by
  have h := netC_num m P L
  simp only [cfgC, List.cons.injEq, and_true, true_and, SV.int.injEq] at h
  obtain ⟨h1, h2, h3, h4, h5, h6, h7, h8, h9, h10, h11⟩ := h
  simp only [cfgC, preC, h1, h2, h3, h4, h5, h6, h8, h11]
theorem made_num (m : Nat) (w : Int) (P L : SV) : cfgC { preC m with window := w } P L = [P, L, .int .i64 ((20000 + 1000 * (m / 16 % 8) : Nat) : Int), .int .i64 60, .int .i64 100, .int .i64 w, .int .i64 ((20 * (m / 128 % 8) : Nat) : Int), .int .i64 300000, .int .i64 (((partsN m - 1) * (m / 1024 % 2 + 1) + 1 + m / 2048 % 4 : Nat) : Int), .int .i64 ((m / 1024 % 2 : Nat) : Int),
    .int .i64 ((calmN m + m / 8192 % 2 : Nat) : Int), .int .i64 (calmN m : Int), .int .i64 12] := by
  have h := preC_num m P L
  simp only [cfgC, List.cons.injEq, and_true, true_and, SV.int.injEq] at h
  obtain ⟨h1, h2, h3, h4, h5, h6, h7, h8, h9, h10, h11⟩ := h
  simp only [cfgC, h1, h2, h3, h5, h6, h7, h8, h9, h10, h11]
theorem Edge_made {m z c pid : Nat} {L : SV} {M3 : Mem} (h : MadeI (netC m) z c pid L M3) (X : Mem) (hX : ∀ id, id ≠ c → X.blk id = M3.blk id) : callP (PCw ES) X.blk n_r5_Edge [.agg (cfgC (preC m) (.own pid 2 0 (partsN m)) L)] = some (.int .i64 (edgeG (preC m))) := by
  have hn := partsN_le m
  have hP2 : OutR 2 (.own pid 2 0 (partsN m)) M3 (partSV (netC m).parts) := .inr ⟨pid, by simp [partSV, netC_parts], h.hp, h.h2⟩
  obtain ⟨P', p1, p2, p3, _⟩ := OutR.pic11 hP2 (get := X.blk) (fun id e a b hh => by cases hh; exact hX _ (fun e => h.hne e.symm)) partSV_pv
  obtain ⟨L', l1, l2, l3, _⟩ := OutR.pic11 h.hL (get := X.blk) (fun id e a b hh => hX _ (fun e => by subst e; exact h.hLc _ _ _ hh)) linkSV_pv
  have hlk := netC_links m
  have hpp := netC_parts m
  have hP' : CfgP (preC m) P' L' := ⟨RSl.of_map p2 p3, RSl.of_map l2 l3, by show (netC m).parts.length ≤ _; omega, by show (netC m).links.length ≤ _; omega⟩
  rw [callP_pic (ys := [.agg (cfgC (preC m) P' L')]) (by simp [pic_cfg p1 l1])]
  have := r5_Edge_c X.blk hP'
  rwa [callP_pic (ys := [.agg (cfgC (preC m) P' L')]) (by simp [pic_np hP'.npA])] at this
set_option maxHeartbeats 16000000 in
theorem Made_ic (n : Int) : ∃ pid L M4, ICw ES n_r26_Made [.int .i64 n] (Mem.empty.bump 0) = some (.agg (cfgC (madeC n) (.own pid 2 0 (partsN (mOf n))) L), M4) ∧ M4.blk pid = some (partSV (netC (mOf n)).parts) ∧ (∃ M, OutR 6 L M (linkSV (netC (mOf n)).links) ∧ ∀ id e a b, L = .own id e a b → M4.blk id = M.blk id) ∧ 0 ≤ pid ∧ (∀ id e a b, L = .own id e a b → 0 ≤ id ∧ id ≠ pid) ∧ pid < M4.next ∧ (∀ id e a b, L = .own id e a b → id < M4.next) ∧ 0 < M4.next := by
  unfold madeC
  rw [b_r26_Made]
  have hm := andI_m n
  have hml := mOf_lt n
  generalize mOf n = m at hm hml ⊢
  have hn := partsN_le m
  obtain ⟨M1, pid, g1, i1⟩ := Made_loop0 m
  obtain ⟨M2, L, g2, i2⟩ := Made_loop1 m i1
  have s2 : (m : Int).fdiv (2 ^ min 2 IntKind.i64.bits) = ((m / 4 : Nat) : Int) := by show (m : Int).fdiv 4 = _; rw [Int.fdiv_eq_ediv_of_nonneg _ (by decide)]; rfl
  have s4 : (m : Int).fdiv (2 ^ min 4 IntKind.i64.bits) = ((m / 16 : Nat) : Int) := by show (m : Int).fdiv 16 = _; rw [Int.fdiv_eq_ediv_of_nonneg _ (by decide)]; rfl
  have s7 : (m : Int).fdiv (2 ^ min 7 IntKind.i64.bits) = ((m / 128 : Nat) : Int) := by show (m : Int).fdiv 128 = _; rw [Int.fdiv_eq_ediv_of_nonneg _ (by decide)]; rfl
  have s10 : (m : Int).fdiv (2 ^ min 10 IntKind.i64.bits) = ((m / 1024 : Nat) : Int) := by show (m : Int).fdiv 1024 = _; rw [Int.fdiv_eq_ediv_of_nonneg _ (by decide)]; rfl
  have s11 : (m : Int).fdiv (2 ^ min 11 IntKind.i64.bits) = ((m / 2048 : Nat) : Int) := by show (m : Int).fdiv 2048 = _; rw [Int.fdiv_eq_ediv_of_nonneg _ (by decide)]; rfl
  have s13 : (m : Int).fdiv (2 ^ min 13 IntKind.i64.bits) = ((m / 8192 : Nat) : Int) := by show (m : Int).fdiv 8192 = _; rw [Int.fdiv_eq_ediv_of_nonneg _ (by decide)]; rfl
  have w1 : IntKind.i64.wrap (1 + ((m % 4 : Nat) : Int)) = (partsN m : Int) := by rw [i64_in (by omega) (by omega)]; unfold partsN; omega
  have w2 : IntKind.i64.wrap (20000 + IntKind.i64.wrap (1000 * ((m / 16 % 8 : Nat) : Int))) = ((20000 + 1000 * (m / 16 % 8) : Nat) : Int) := by rw [i64_in (n := 1000 * _) (by omega) (by omega), i64_in (by omega) (by omega)]; omega
  have w3 : IntKind.i64.wrap (20 * ((m / 128 % 8 : Nat) : Int)) = ((20 * (m / 128 % 8) : Nat) : Int) := by rw [i64_in (by omega) (by omega)]; omega
  have w4 : IntKind.i64.wrap (((m / 1024 % 2 : Nat) : Int) + 1) = ((m / 1024 % 2 + 1 : Nat) : Int) := by rw [i64_in (by omega) (by omega)]; omega
  have hq : partsN m * (m / 1024 % 2 + 1) ≤ 4 * 2 := Nat.mul_le_mul hn.2 (by omega)
  have hq2 : (partsN m - 1) * (m / 1024 % 2 + 1) ≤ 3 * 2 := Nat.mul_le_mul (by omega) (by omega)
  have w5 : IntKind.i64.wrap (IntKind.i64.wrap ((partsN m : Int) * ((m / 1024 % 2 + 1 : Nat) : Int)) + 2) = (calmN m : Int) := by
    rw [show (partsN m : Int) * ((m / 1024 % 2 + 1 : Nat) : Int) = ((partsN m * (m / 1024 % 2 + 1) : Nat) : Int) by push_cast; rfl]
    rw [i64_in (n := ((partsN m * (m / 1024 % 2 + 1) : Nat) : Int)) (by omega) (by omega), i64_in (by omega) (by omega)]
    unfold calmN
    omega
  have w6 : IntKind.i64.wrap ((partsN m : Int) - 1) = ((partsN m - 1 : Nat) : Int) := by rw [i64_in (by omega) (by omega)]; omega
  have w7 : IntKind.i64.wrap (IntKind.i64.wrap (IntKind.i64.wrap (((partsN m - 1 : Nat) : Int) * ((m / 1024 % 2 + 1 : Nat) : Int)) + 1) + ((m / 2048 % 4 : Nat) : Int)) = (((partsN m - 1) * (m / 1024 % 2 + 1) + 1 + m / 2048 % 4 : Nat) : Int) := by
    rw [show ((partsN m - 1 : Nat) : Int) * ((m / 1024 % 2 + 1 : Nat) : Int) = (((partsN m - 1) * (m / 1024 % 2 + 1) : Nat) : Int) by push_cast; rfl]
    rw [i64_in (n := (((partsN m - 1) * (m / 1024 % 2 + 1) : Nat) : Int)) (by omega) (by omega), i64_in (n := _ + 1) (by omega) (by omega), i64_in (by omega) (by omega)]
    omega
  have hcalm : calmN m ≤ 10 := by unfold calmN; omega
  have w8 : IntKind.i64.wrap ((calmN m : Int) + ((m / 8192 % 2 : Nat) : Int)) = ((calmN m + m / 8192 % 2 : Nat) : Int) := by rw [i64_in (by omega) (by omega)]; omega
  have he := edgeG_le (c := preC m)
  have w9 : IntKind.i64.wrap (3 * edgeG (preC m)) = 3 * edgeG (preC m) := i64_in (by omega) (by omega)
  have hz : (baseC m).cycle = ((20000 + 1000 * (m / 16 % 8) : Nat) : Int) := rfl
  have bb : bldS ES.P T_api_Config [(2, .int .i64 ((20000 + 1000 * (m / 16 % 8) : Nat) : Int)), (3, .int .i64 60), (4, .int .i64 100), (6, .int .i64 ((20 * (m / 128 % 8) : Nat) : Int)), (7, .int .i64 300000), (9, .int .i64 ((m / 1024 % 2 : Nat) : Int)), (12, .int .i64 12)] = some (.agg (cfgC (baseC m) .nilsl .nilsl)) := by
    simp [-Int.natCast_ediv, -Int.natCast_emod, -Int.natCast_add, -Int.natCast_mul, bldS, placesOf, buildS, splice, cfgC, baseC]
  have hM0 : ((((Mem.empty.bump 0).bump 1).set 0 (some [zeroC])).bump 15).set 14 (some [.agg (cfgC (baseC m) .nilsl .nilsl)]) = m0 m := rfl
  have hcell : ∀ c P L, (cfgC c P L).length = 13 := fun _ _ _ => rfl
  simp only [zeroC] at hM0
  try simp only [Mem.bump_zero] at hM0
  simp [h_r26_Made_0, -Int.natCast_ediv, -Int.natCast_emod, -Int.natCast_add, -Int.natCast_mul] at g1
  simp [h_r26_Made_1, -Int.natCast_ediv, -Int.natCast_emod, -Int.natCast_add, -Int.natCast_mul] at g2
  have hsh : shapeN m = m / 4 % 4 := rfl
  rw [hsh] at g1 g2
  generalize hr : endS ES _ _ = r
  simp only [c_r26_Made] at hr
  by_cases hring : shapeN m = 1 ∧ 2 < partsN m
  · have hlen : (rowC (partC (baseC m) (partsN m)) (shapeN m) (partsN m - 1)).parts.length = partsN m := by rw [rowC_parts]; simp [partC]
    have hlk : (rowC (partC (baseC m) (partsN m)) (shapeN m) (partsN m - 1)).links.length = partsN m - 1 := by rw [rowC_links]; simp [partC, baseC]
    obtain ⟨M3, o', X', b1, b2, b3, b4, b5, b6, b7, b8, b9⟩ := made_join (a := 0) (b := partsN m - 1) i2 (by omega) (by omega) (by omega) (by omega) (by omega)
    have e3 : netC m = joinC (rowC (partC (baseC m) (partsN m)) (shapeN m) (partsN m - 1)) 0 (partsN m - 1) := by unfold netC; simp [hring]
    rw [← e3] at b6
    have hE := fun v => Edge_made b6 ((X'.set 14 v)) (fun id h => by simp [h])
    have hc0 := i2.hc
    rw [hlen, rowC_num] at hc0 b2 b5 b6
    have hnum : ∀ P L, cfgC (partC (baseC m) (partsN m)) P L = [P, L, .int .i64 ((20000 + 1000 * (m / 16 % 8) : Nat) : Int), .int .i64 60, .int .i64 100, .int .i64 0, .int .i64 ((20 * (m / 128 % 8) : Nat) : Int), .int .i64 300000, .int .i64 0, .int .i64 ((m / 1024 % 2 : Nat) : Int), .int .i64 0, .int .i64 0, .int .i64 12] := fun _ _ => rfl
    rw [hnum] at hc0 b2 b5 b6
    rw [preC_num] at hE
    have hs : svSame L L = true := OutR.same ⟨_, _, i2.hL⟩
    have hx0 : X'.blk 0 = some [zeroC] := by simpa using b6.z0
    simp only [zeroC] at hx0
    have h1' : ((m / 4 % 4 : Nat) : Int) = 1 := by have := hring.1; rw [hsh] at this; omega
    have h2 : 2 < (partsN m : Int) := by have := hring.2; omega
    simp only [h1'] at g1 g2
    have z0 : ((0 : Nat) : Int) = 0 := rfl
    simp only [z0] at b1 b3 b4
    generalize hlk2 : joinL (rowC (partC (baseC m) (partsN m)) (shapeN m) (partsN m - 1)).links 0 ((partsN m - 1 : Nat) : Int) = lk at b1 b3 b4
    have hvb : ∀ (q : Nat), bldSl ES.P T_sl_api_Link 1 q [(0, encLink lk)] = some (.own q 6 0 1, [encLink lk]) := fun q => by simp [bldSl, buildRow]
    simp [-Int.natCast_ediv, -Int.natCast_emod, -Int.natCast_add, -Int.natCast_mul, evW_reg, evW_chkr, evW_chfr, isCst, loadS, partS, TK.agg, fieldAddrS, zeroS, storeS, setPart, splice, endS, resS, fieldS, hm, and1, and3, and7, s2, s4, s7, s10, s11, s13, w1, w2, w3, w4, w5, w6, w7, w8, w9, bb, hM0, g1, g2, hc0, h1', h2, hE, hcell, i2.z0, zeroC, b1, b2, b3, b4, b5, hx0, b8, b9, hs, hvb, i2.h1] at hr
    subst hr
    refine ⟨pid, o', _, by rw [made_num], ?_, ⟨_, b6.hL, fun id e a b hh => ?_⟩, b6.lo, fun id e a b hh => ⟨b6.loL _ _ _ _ hh, fun e => by subst e; exact b6.hLp _ _ _ hh⟩, by simpa using b6.h2, fun id e a b hh => by simpa using OutR.lt b6.hL hh, by simpa using b6.zl⟩
    · have q1 : ¬ (pid = 14) := fun e => b6.hne e.symm
      have q2 : ¬ (pid = 0) := b6.zp
      have q3 := b6.hp
      simp only [Mem.blk_set, q1, if_false] at q3
      simp [q1, q2, q3]
    · have q1 : ¬ (id = 14) := fun e => by subst e; exact b6.hLc _ _ _ hh
      have q2 : ¬ (id = 0) := fun e => by subst e; exact b6.zL _ _ _ hh
      simp [q1, q2]
  · have e3 : netC m = rowC (partC (baseC m) (partsN m)) (shapeN m) (partsN m - 1) := by unfold netC; simp [hring]
    rw [← e3] at i2
    have hE := fun v => Edge_made i2 ((M2.set 14 v)) (fun id h => by simp [h])
    have hc0 := i2.hc
    rw [netC_parts, netC_num] at hc0
    rw [preC_num] at hE
    have hring' : ¬ (m / 4 % 4 = 1 ∧ 2 < partsN m) := hring
    by_cases h1 : m / 4 % 4 = 1
    · have h2 : ¬ (2 < (partsN m : Int)) := by omega
      have h1' : ((m / 4 % 4 : Nat) : Int) = 1 := by omega
      simp only [h1'] at g1 g2
      simp [-Int.natCast_ediv, -Int.natCast_emod, -Int.natCast_add, -Int.natCast_mul, evW_reg, evW_chkr, evW_chfr, isCst, loadS, partS, TK.agg, fieldAddrS, zeroS, storeS, setPart, splice, endS, resS, fieldS, hm, and1, and3, and7, s2, s4, s7, s10, s11, s13, w1, w2, w3, w4, w5, w6, w7, w8, w9, bb, hM0, g1, g2, hc0, h1', h2, hE, hcell, i2.z0, zeroC] at hr
      subst hr
      refine ⟨pid, L, _, by rw [made_num], ?_, ⟨M2, i2.hL, fun id e a b hh => ?_⟩, i2.lo, fun id e a b hh => ⟨i2.loL _ _ _ _ hh, fun e => by subst e; exact i2.hLp _ _ _ hh⟩, by simpa using i2.h2, fun id e a b hh => by simpa using OutR.lt i2.hL hh, by simpa using i2.zl⟩
      · have q1 : ¬ (pid = 14) := fun e => i2.hne e.symm
        have q2 : ¬ (pid = 0) := i2.zp
        simp [q1, q2, i2.hp]
      · have q1 : ¬ (id = 14) := fun e => by subst e; exact i2.hLc _ _ _ hh
        have q2 : ¬ (id = 0) := fun e => by subst e; exact i2.zL _ _ _ hh
        simp [q1, q2]
    · have h1' : ¬ ((m / 4 % 4 : Nat) : Int) = 1 := by omega
      simp [-Int.natCast_ediv, -Int.natCast_emod, -Int.natCast_add, -Int.natCast_mul, evW_reg, evW_chkr, evW_chfr, isCst, loadS, partS, TK.agg, fieldAddrS, zeroS, storeS, setPart, splice, endS, resS, fieldS, hm, and1, and3, and7, s2, s4, s7, s10, s11, s13, w1, w2, w3, w4, w5, w6, w7, w8, w9, bb, hM0, g1, g2, hc0, h1', h1, hE, hcell, i2.z0, zeroC] at hr
      subst hr
      refine ⟨pid, L, _, by rw [made_num], ?_, ⟨M2, i2.hL, fun id e a b hh => ?_⟩, i2.lo, fun id e a b hh => ⟨i2.loL _ _ _ _ hh, fun e => by subst e; exact i2.hLp _ _ _ hh⟩, by simpa using i2.h2, fun id e a b hh => by simpa using OutR.lt i2.hL hh, by simpa using i2.zl⟩
      · have q1 : ¬ (pid = 14) := fun e => i2.hne e.symm
        have q2 : ¬ (pid = 0) := i2.zp
        simp [q1, q2, i2.hp]
      · have q1 : ¬ (id = 14) := fun e => by subst e; exact i2.hLc _ _ _ hh
        have q2 : ¬ (id = 0) := fun e => by subst e; exact i2.zL _ _ _ hh
        simp [q1, q2]
set_option maxHeartbeats 16000000 in
theorem Made_ic4 (n : Int) : ∃ pid L M4, ICw ES n_r26_Made [.int .i64 n] (Mem.empty.bump 4) = some (.agg (cfgC (madeC n) (.own pid 2 0 (partsN (mOf n))) L), M4) ∧ M4.blk pid = some (partSV (netC (mOf n)).parts) ∧ (∃ M, OutR 6 L M (linkSV (netC (mOf n)).links) ∧ ∀ id e a b, L = .own id e a b → M4.blk id = M.blk id) ∧ 4 ≤ pid ∧ (∀ id e a b, L = .own id e a b → 4 ≤ id ∧ id ≠ pid) ∧ pid < M4.next ∧ (∀ id e a b, L = .own id e a b → id < M4.next) ∧ 4 < M4.next := by
  unfold madeC
  rw [b_r26_Made]
  have hm := andI_m n
  have hml := mOf_lt n
  generalize mOf n = m at hm hml ⊢
  have hn := partsN_le m
  obtain ⟨M1, pid, g1, i1⟩ := Made_loop04 m
  obtain ⟨M2, L, g2, i2⟩ := Made_loop14 m i1
  have s2 : (m : Int).fdiv (2 ^ min 2 IntKind.i64.bits) = ((m / 4 : Nat) : Int) := by show (m : Int).fdiv 4 = _; rw [Int.fdiv_eq_ediv_of_nonneg _ (by decide)]; rfl
  have s4 : (m : Int).fdiv (2 ^ min 4 IntKind.i64.bits) = ((m / 16 : Nat) : Int) := by show (m : Int).fdiv 16 = _; rw [Int.fdiv_eq_ediv_of_nonneg _ (by decide)]; rfl
  have s7 : (m : Int).fdiv (2 ^ min 7 IntKind.i64.bits) = ((m / 128 : Nat) : Int) := by show (m : Int).fdiv 128 = _; rw [Int.fdiv_eq_ediv_of_nonneg _ (by decide)]; rfl
  have s10 : (m : Int).fdiv (2 ^ min 10 IntKind.i64.bits) = ((m / 1024 : Nat) : Int) := by show (m : Int).fdiv 1024 = _; rw [Int.fdiv_eq_ediv_of_nonneg _ (by decide)]; rfl
  have s11 : (m : Int).fdiv (2 ^ min 11 IntKind.i64.bits) = ((m / 2048 : Nat) : Int) := by show (m : Int).fdiv 2048 = _; rw [Int.fdiv_eq_ediv_of_nonneg _ (by decide)]; rfl
  have s13 : (m : Int).fdiv (2 ^ min 13 IntKind.i64.bits) = ((m / 8192 : Nat) : Int) := by show (m : Int).fdiv 8192 = _; rw [Int.fdiv_eq_ediv_of_nonneg _ (by decide)]; rfl
  have w1 : IntKind.i64.wrap (1 + ((m % 4 : Nat) : Int)) = (partsN m : Int) := by rw [i64_in (by omega) (by omega)]; unfold partsN; omega
  have w2 : IntKind.i64.wrap (20000 + IntKind.i64.wrap (1000 * ((m / 16 % 8 : Nat) : Int))) = ((20000 + 1000 * (m / 16 % 8) : Nat) : Int) := by rw [i64_in (n := 1000 * _) (by omega) (by omega), i64_in (by omega) (by omega)]; omega
  have w3 : IntKind.i64.wrap (20 * ((m / 128 % 8 : Nat) : Int)) = ((20 * (m / 128 % 8) : Nat) : Int) := by rw [i64_in (by omega) (by omega)]; omega
  have w4 : IntKind.i64.wrap (((m / 1024 % 2 : Nat) : Int) + 1) = ((m / 1024 % 2 + 1 : Nat) : Int) := by rw [i64_in (by omega) (by omega)]; omega
  have hq : partsN m * (m / 1024 % 2 + 1) ≤ 4 * 2 := Nat.mul_le_mul hn.2 (by omega)
  have hq2 : (partsN m - 1) * (m / 1024 % 2 + 1) ≤ 3 * 2 := Nat.mul_le_mul (by omega) (by omega)
  have w5 : IntKind.i64.wrap (IntKind.i64.wrap ((partsN m : Int) * ((m / 1024 % 2 + 1 : Nat) : Int)) + 2) = (calmN m : Int) := by
    rw [show (partsN m : Int) * ((m / 1024 % 2 + 1 : Nat) : Int) = ((partsN m * (m / 1024 % 2 + 1) : Nat) : Int) by push_cast; rfl]
    rw [i64_in (n := ((partsN m * (m / 1024 % 2 + 1) : Nat) : Int)) (by omega) (by omega), i64_in (by omega) (by omega)]
    unfold calmN
    omega
  have w6 : IntKind.i64.wrap ((partsN m : Int) - 1) = ((partsN m - 1 : Nat) : Int) := by rw [i64_in (by omega) (by omega)]; omega
  have w7 : IntKind.i64.wrap (IntKind.i64.wrap (IntKind.i64.wrap (((partsN m - 1 : Nat) : Int) * ((m / 1024 % 2 + 1 : Nat) : Int)) + 1) + ((m / 2048 % 4 : Nat) : Int)) = (((partsN m - 1) * (m / 1024 % 2 + 1) + 1 + m / 2048 % 4 : Nat) : Int) := by
    rw [show ((partsN m - 1 : Nat) : Int) * ((m / 1024 % 2 + 1 : Nat) : Int) = (((partsN m - 1) * (m / 1024 % 2 + 1) : Nat) : Int) by push_cast; rfl]
    rw [i64_in (n := (((partsN m - 1) * (m / 1024 % 2 + 1) : Nat) : Int)) (by omega) (by omega), i64_in (n := _ + 1) (by omega) (by omega), i64_in (by omega) (by omega)]
    omega
  have hcalm : calmN m ≤ 10 := by unfold calmN; omega
  have w8 : IntKind.i64.wrap ((calmN m : Int) + ((m / 8192 % 2 : Nat) : Int)) = ((calmN m + m / 8192 % 2 : Nat) : Int) := by rw [i64_in (by omega) (by omega)]; omega
  have he := edgeG_le (c := preC m)
  have w9 : IntKind.i64.wrap (3 * edgeG (preC m)) = 3 * edgeG (preC m) := i64_in (by omega) (by omega)
  have hz : (baseC m).cycle = ((20000 + 1000 * (m / 16 % 8) : Nat) : Int) := rfl
  have bb : bldS ES.P T_api_Config [(2, .int .i64 ((20000 + 1000 * (m / 16 % 8) : Nat) : Int)), (3, .int .i64 60), (4, .int .i64 100), (6, .int .i64 ((20 * (m / 128 % 8) : Nat) : Int)), (7, .int .i64 300000), (9, .int .i64 ((m / 1024 % 2 : Nat) : Int)), (12, .int .i64 12)] = some (.agg (cfgC (baseC m) .nilsl .nilsl)) := by
    simp [-Int.natCast_ediv, -Int.natCast_emod, -Int.natCast_add, -Int.natCast_mul, bldS, placesOf, buildS, splice, cfgC, baseC]
  have hM0 : ((((Mem.empty.bump 4).bump 1).set 4 (some [zeroC])).bump 15).set 18 (some [.agg (cfgC (baseC m) .nilsl .nilsl)]) = m04 m := rfl
  have hcell : ∀ c P L, (cfgC c P L).length = 13 := fun _ _ _ => rfl
  simp only [zeroC] at hM0
  try simp only [Mem.bump_zero] at hM0
  simp [h_r26_Made_0, -Int.natCast_ediv, -Int.natCast_emod, -Int.natCast_add, -Int.natCast_mul] at g1
  simp [h_r26_Made_1, -Int.natCast_ediv, -Int.natCast_emod, -Int.natCast_add, -Int.natCast_mul] at g2
  have hsh : shapeN m = m / 4 % 4 := rfl
  rw [hsh] at g1 g2
  generalize hr : endS ES _ _ = r
  simp only [c_r26_Made] at hr
  by_cases hring : shapeN m = 1 ∧ 2 < partsN m
  · have hlen : (rowC (partC (baseC m) (partsN m)) (shapeN m) (partsN m - 1)).parts.length = partsN m := by rw [rowC_parts]; simp [partC]
    have hlk : (rowC (partC (baseC m) (partsN m)) (shapeN m) (partsN m - 1)).links.length = partsN m - 1 := by rw [rowC_links]; simp [partC, baseC]
    obtain ⟨M3, o', X', b1, b2, b3, b4, b5, b6, b7, b8, b9⟩ := made_join (a := 0) (b := partsN m - 1) i2 (by omega) (by omega) (by omega) (by omega) (by omega)
    have e3 : netC m = joinC (rowC (partC (baseC m) (partsN m)) (shapeN m) (partsN m - 1)) 0 (partsN m - 1) := by unfold netC; simp [hring]
    rw [← e3] at b6
    have hE := fun v => Edge_made b6 ((X'.set 18 v)) (fun id h => by simp [h])
    have hc0 := i2.hc
    rw [hlen, rowC_num] at hc0 b2 b5 b6
    have hnum : ∀ P L, cfgC (partC (baseC m) (partsN m)) P L = [P, L, .int .i64 ((20000 + 1000 * (m / 16 % 8) : Nat) : Int), .int .i64 60, .int .i64 100, .int .i64 0, .int .i64 ((20 * (m / 128 % 8) : Nat) : Int), .int .i64 300000, .int .i64 0, .int .i64 ((m / 1024 % 2 : Nat) : Int), .int .i64 0, .int .i64 0, .int .i64 12] := fun _ _ => rfl
    rw [hnum] at hc0 b2 b5 b6
    rw [preC_num] at hE
    have hs : svSame L L = true := OutR.same ⟨_, _, i2.hL⟩
    have hx0 : X'.blk 4 = some [zeroC] := by simpa using b6.z0
    simp only [zeroC] at hx0
    have h1' : ((m / 4 % 4 : Nat) : Int) = 1 := by have := hring.1; rw [hsh] at this; omega
    have h2 : 2 < (partsN m : Int) := by have := hring.2; omega
    simp only [h1'] at g1 g2
    have z0 : ((0 : Nat) : Int) = 0 := rfl
    simp only [z0] at b1 b3 b4
    generalize hlk2 : joinL (rowC (partC (baseC m) (partsN m)) (shapeN m) (partsN m - 1)).links 0 ((partsN m - 1 : Nat) : Int) = lk at b1 b3 b4
    have hvb : ∀ (q : Nat), bldSl ES.P T_sl_api_Link 1 q [(0, encLink lk)] = some (.own q 6 0 1, [encLink lk]) := fun q => by simp [bldSl, buildRow]
    simp [-Int.natCast_ediv, -Int.natCast_emod, -Int.natCast_add, -Int.natCast_mul, evW_reg, evW_chkr, evW_chfr, isCst, loadS, partS, TK.agg, fieldAddrS, zeroS, storeS, setPart, splice, endS, resS, fieldS, hm, and1, and3, and7, s2, s4, s7, s10, s11, s13, w1, w2, w3, w4, w5, w6, w7, w8, w9, bb, hM0, g1, g2, hc0, h1', h2, hE, hcell, i2.z0, zeroC, b1, b2, b3, b4, b5, hx0, b8, b9, hs, hvb, i2.h1] at hr
    subst hr
    refine ⟨pid, o', _, by rw [made_num], ?_, ⟨_, b6.hL, fun id e a b hh => ?_⟩, b6.lo, fun id e a b hh => ⟨b6.loL _ _ _ _ hh, fun e => by subst e; exact b6.hLp _ _ _ hh⟩, by simpa using b6.h2, fun id e a b hh => by simpa using OutR.lt b6.hL hh, by simpa using b6.zl⟩
    · have q1 : ¬ (pid = 18) := fun e => b6.hne e.symm
      have q2 : ¬ (pid = 4) := b6.zp
      have q3 := b6.hp
      simp only [Mem.blk_set, q1, if_false] at q3
      simp [q1, q2, q3]
    · have q1 : ¬ (id = 18) := fun e => by subst e; exact b6.hLc _ _ _ hh
      have q2 : ¬ (id = 4) := fun e => by subst e; exact b6.zL _ _ _ hh
      simp [q1, q2]
  · have e3 : netC m = rowC (partC (baseC m) (partsN m)) (shapeN m) (partsN m - 1) := by unfold netC; simp [hring]
    rw [← e3] at i2
    have hE := fun v => Edge_made i2 ((M2.set 18 v)) (fun id h => by simp [h])
    have hc0 := i2.hc
    rw [netC_parts, netC_num] at hc0
    rw [preC_num] at hE
    have hring' : ¬ (m / 4 % 4 = 1 ∧ 2 < partsN m) := hring
    by_cases h1 : m / 4 % 4 = 1
    · have h2 : ¬ (2 < (partsN m : Int)) := by omega
      have h1' : ((m / 4 % 4 : Nat) : Int) = 1 := by omega
      simp only [h1'] at g1 g2
      simp [-Int.natCast_ediv, -Int.natCast_emod, -Int.natCast_add, -Int.natCast_mul, evW_reg, evW_chkr, evW_chfr, isCst, loadS, partS, TK.agg, fieldAddrS, zeroS, storeS, setPart, splice, endS, resS, fieldS, hm, and1, and3, and7, s2, s4, s7, s10, s11, s13, w1, w2, w3, w4, w5, w6, w7, w8, w9, bb, hM0, g1, g2, hc0, h1', h2, hE, hcell, i2.z0, zeroC] at hr
      subst hr
      refine ⟨pid, L, _, by rw [made_num], ?_, ⟨M2, i2.hL, fun id e a b hh => ?_⟩, i2.lo, fun id e a b hh => ⟨i2.loL _ _ _ _ hh, fun e => by subst e; exact i2.hLp _ _ _ hh⟩, by simpa using i2.h2, fun id e a b hh => by simpa using OutR.lt i2.hL hh, by simpa using i2.zl⟩
      · have q1 : ¬ (pid = 18) := fun e => i2.hne e.symm
        have q2 : ¬ (pid = 4) := i2.zp
        simp [q1, q2, i2.hp]
      · have q1 : ¬ (id = 18) := fun e => by subst e; exact i2.hLc _ _ _ hh
        have q2 : ¬ (id = 4) := fun e => by subst e; exact i2.zL _ _ _ hh
        simp [q1, q2]
    · have h1' : ¬ ((m / 4 % 4 : Nat) : Int) = 1 := by omega
      simp [-Int.natCast_ediv, -Int.natCast_emod, -Int.natCast_add, -Int.natCast_mul, evW_reg, evW_chkr, evW_chfr, isCst, loadS, partS, TK.agg, fieldAddrS, zeroS, storeS, setPart, splice, endS, resS, fieldS, hm, and1, and3, and7, s2, s4, s7, s10, s11, s13, w1, w2, w3, w4, w5, w6, w7, w8, w9, bb, hM0, g1, g2, hc0, h1', h1, hE, hcell, i2.z0, zeroC] at hr
      subst hr
      refine ⟨pid, L, _, by rw [made_num], ?_, ⟨M2, i2.hL, fun id e a b hh => ?_⟩, i2.lo, fun id e a b hh => ⟨i2.loL _ _ _ _ hh, fun e => by subst e; exact i2.hLp _ _ _ hh⟩, by simpa using i2.h2, fun id e a b hh => by simpa using OutR.lt i2.hL hh, by simpa using i2.zl⟩
      · have q1 : ¬ (pid = 18) := fun e => i2.hne e.symm
        have q2 : ¬ (pid = 4) := i2.zp
        simp [q1, q2, i2.hp]
      · have q1 : ¬ (id = 18) := fun e => by subst e; exact i2.hLc _ _ _ hh
        have q2 : ¬ (id = 4) := fun e => by subst e; exact i2.zL _ _ _ hh
        simp [q1, q2]
theorem Made_ok (n : Int) : ∃ P L, PCw ES n_r26_Made [.int .i64 n] = some (.agg (cfgC (madeC n) P L)) ∧ CfgP (madeC n) P L := by
  obtain ⟨pid, L, M4, h1, h2, ⟨M, h3, h4⟩, _, _, _⟩ := Made_ic n
  rw [show Mem.empty.bump 0 = Mem.empty from rfl] at h1
  have hpp := netC_parts (mOf n)
  have hn := partsN_le (mOf n)
  have hlk := netC_links (mOf n)
  have hP2 : OutR 2 (.own pid 2 0 (partsN (mOf n))) ⟨M4.blk, pid + 1⟩ (partSV (netC (mOf n)).parts) := .inr ⟨pid, by simp [partSV, netC_parts], h2, by simp⟩
  obtain ⟨P', p1, p2, p3, p4⟩ := OutR.pic11 hP2 (get := M4.blk) (fun id e a b hh => rfl) partSV_pv true
  obtain ⟨L', l1, l2, l3, l4⟩ := OutR.pic11 h3 (get := M4.blk) h4 linkSV_pv true
  refine ⟨P', L', PCw_pic h1 (pic_cfg p1 l1) ?_, ⟨RSl.of_map p2 p3, RSl.of_map l2 l3, ?_, ?_⟩⟩
  · simp [Sh.pv, cfgC, pvs, p4 rfl, l4 rfl]
  · show (netC (mOf n)).parts.length ≤ _
    omega
  · show (netC (mOf n)).links.length ≤ _
    omega

end Go.Proofs.YtljjmdcdlcefmaaGreatDoor

/-
  Walks of the seat's functions: We.
-/
set_option linter.unusedVariables false
set_option linter.unusedSimpArgs false
set_option maxRecDepth 100000
namespace Go.Proofs.YtljjmdcdlcefmaaGreatDoor
open Go.Proofs.YtljjmdcdlcefmaaGreatDoor.Sh
/-! A made network, as a caller sees it. -/
theorem Made_c (n : Int) : ∃ P L, (∀ get, callP (PCw ES) get n_r26_Made [.int .i64 n] = some (.agg (cfgC (madeC n) P L))) ∧ CfgP (madeC n) P L := by
  obtain ⟨P, L, h1, h2⟩ := Made_ok n
  exact ⟨P, L, fun get => callP_of h1 (by simp), h2⟩

end Go.Proofs.YtljjmdcdlcefmaaGreatDoor

/-
  Walks of the seat's functions: Wf.
-/
set_option linter.unusedVariables false
set_option linter.unusedSimpArgs false
set_option maxRecDepth 100000
namespace Go.Proofs.YtljjmdcdlcefmaaGreatDoor
open Go.Proofs.YtljjmdcdlcefmaaGreatDoor.Sh
/-! Of a port's other side the other side is the port. -/
theorem right_link {c : Cfg} (h : rightC c = true) {j : Nat} (hj : j < c.links.length) : inMany c.links[j].a c.parts.length ∧ inMany c.links[j].b c.parts.length ∧ c.links[j].a < c.links[j].b := by
  have he := checkG_zero (c := c) (by simpa [rightC] using h)
  have h2 := (linksErr_none (checkErr_none he).2).2 j hj
  unfold linkErr at h2
  split at h2
  · omega
  · rename_i hb
    unfold badEnds at hb
    simp only [Bool.or_eq_true, Bool.not_eq_true', decide_eq_false_iff_not, decide_eq_true_eq, not_or, Decidable.not_not] at hb
    exact ⟨hb.1.1, hb.1.2, by omega⟩
theorem portG_of {c : Cfg} (h : rightC c = true) {j : Nat} (hj : j < c.links.length) {part n : Int} {q : Port} (hin : inMany part c.parts.length) (hq : q ∈ portsOfLink part j c.links[j]) (hn : q.node = n) : portG c part n = some q := by
  have he := checkG_zero (c := c) (by simpa [rightC] using h)
  unfold portG
  simp only [h, hin, decide_true, Bool.and_self, if_true]
  exact (portsOk_of he part).find.2 ⟨endsK_mem.2 ⟨j, hj, hj, hq⟩, hn⟩
theorem portG_far {c : Cfg} {part node : Int} {p : Port} (h : portG c part node = some p) :
    ∃ q, portG c (farOf c.links p).1 (farOf c.links p).2 = some q ∧ q.link = p.link ∧ q.gate = p.gate ∧ p.side = 1 - q.side ∧ (q.side = 0 ∨ q.side = 1) ∧ farOf c.links q = (part, node) ∧ (farOf c.links p).1 ≠ part := by
  unfold portG at h
  split at h
  case isFalse => cases h
  rename_i hr
  simp only [Bool.and_eq_true, decide_eq_true_eq] at hr
  obtain ⟨hr, hin⟩ := hr
  obtain ⟨h1, h2⟩ := findPort_mem h
  obtain ⟨j, hj, _, h3⟩ := endsK_mem.1 h1
  obtain ⟨la, lb, hlt⟩ := right_link hr hj
  have hl : c.links[j]? = some c.links[j] := by simp [hj]
  have key := fun (part n : Int) (q : Port) hin hq hn => portG_of (part := part) (n := n) (q := q) hr hj hin hq hn
  generalize c.links[j] = l at *
  simp only [portsOfLink, portsOfEnd, endOf, List.mem_append] at h3
  rcases h3 with h3 | h3
  · simp only [Int.ofNat_zero, Int.natCast_zero, if_true] at h3
    split at h3
    case isFalse => cases h3
    rename_i ha
    simp only [List.mem_cons, List.not_mem_nil, or_false] at h3
    rcases h3 with rfl | rfl
    · refine ⟨⟨l.pb0, j, 0, 1⟩, ?_, rfl, rfl, by simp, .inr rfl, ?_, ?_⟩
      · simp only [farOf, Int.toNat_natCast, hl, if_true]
        exact key _ _ _ lb (by simp [portsOfLink, portsOfEnd, endOf]) rfl
      · simp [farOf, hl, ha, ← h2]
      · simp [farOf, hl]; omega
    · refine ⟨⟨l.pb1, j, 1, 1⟩, ?_, rfl, rfl, by simp, .inr rfl, ?_, ?_⟩
      · simp only [farOf, Int.toNat_natCast, hl, if_true]
        exact key _ _ _ lb (by simp [portsOfLink, portsOfEnd, endOf]) rfl
      · simp [farOf, hl, ha, ← h2]
      · simp [farOf, hl]; omega
  · have z1 : ¬ (((1 : Nat) : Int) = 0) := by decide
    simp only [z1, if_false] at h3
    split at h3
    case isFalse => cases h3
    rename_i ha
    simp only [List.mem_cons, List.not_mem_nil, or_false] at h3
    rcases h3 with rfl | rfl
    · refine ⟨⟨l.pa0, j, 0, 0⟩, ?_, rfl, rfl, by simp, .inl rfl, ?_, ?_⟩
      · simp only [farOf, Int.toNat_natCast, hl, z1, if_false, if_true]
        exact key _ _ _ la (by simp [portsOfLink, portsOfEnd, endOf]) rfl
      · simp [farOf, hl, ha, ← h2]
      · simp [farOf, hl]; omega
    · refine ⟨⟨l.pa1, j, 1, 0⟩, ?_, rfl, rfl, by simp, .inl rfl, ?_, ?_⟩
      · simp only [farOf, Int.toNat_natCast, hl, z1, if_false, if_true]
        exact key _ _ _ la (by simp [portsOfLink, portsOfEnd, endOf]) rfl
      · simp [farOf, hl, ha, ← h2]
      · simp [farOf, hl]; omega

end Go.Proofs.YtljjmdcdlcefmaaGreatDoor
