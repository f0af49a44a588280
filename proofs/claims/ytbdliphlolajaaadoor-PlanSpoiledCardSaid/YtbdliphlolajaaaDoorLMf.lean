/-
  Walks of the seat's functions: Mf.
-/
import Derived.Test.YtbdliphlolajaaaDoorEb2
import Derived.Test.YtbdliphlolajaaaDoorShSv
import Derived.Test.YtbdliphlolajaaaDoorLMe
import Derived.Test.YtbdliphlolajaaaDoorLBd
set_option linter.unusedVariables false
set_option linter.unusedSimpArgs false
set_option maxRecDepth 100000
namespace Go.Proofs.YtbdliphlolajaaaDoor
open Go.Proofs.YtbdliphlolajaaaDoor.Sh
/-! A network by a small number: what is made. -/
def mOf (n : Int) : Nat := (BitVec.ofInt 64 n).toNat % 65536
theorem mOf_lt (n : Int) : mOf n < 65536 := Nat.mod_lt _ (by decide)
theorem andI_m (n : Int) : andI .i64 n 65535 = (mOf n : Int) := by
  have h : (BitVec.ofInt 64 n &&& BitVec.ofInt 64 65535).toNat = mOf n := by
    rw [BitVec.toNat_and, show (BitVec.ofInt 64 65535).toNat = 2 ^ 16 - 1 from by decide, Nat.and_two_pow_sub_one_eq_mod]
    rfl
  show IntKind.i64.wrap ((BitVec.ofInt 64 n &&& BitVec.ofInt 64 65535).toNat : Int) = _
  rw [h]
  have := mOf_lt n
  exact i64_in (by omega) (by omega)
theorem andI_low (m k q : Nat) (hk : k ≤ 32) (hq : q = 2 ^ k - 1) : andI .i64 (m : Int) (q : Int) = ((m % 2 ^ k : Nat) : Int) := by
  have hp : 2 ^ k ≤ 2 ^ 32 := Nat.pow_le_pow_right (by decide) hk
  have h1 : (BitVec.ofInt 64 (q : Int)).toNat = 2 ^ k - 1 := by
    rw [BitVec.ofInt_natCast, BitVec.toNat_ofNat, hq]
    exact Nat.mod_eq_of_lt (by omega)
  have h : (BitVec.ofInt 64 (m : Int) &&& BitVec.ofInt 64 (q : Int)).toNat = m % 2 ^ k := by
    rw [BitVec.toNat_and, h1, Nat.and_two_pow_sub_one_eq_mod, BitVec.ofInt_natCast, BitVec.toNat_ofNat]
    exact Nat.mod_mod_of_dvd _ (Nat.pow_dvd_pow 2 (by omega))
  show IntKind.i64.wrap ((BitVec.ofInt 64 (m : Int) &&& BitVec.ofInt 64 (q : Int)).toNat : Int) = _
  rw [h]
  have : m % 2 ^ k < 2 ^ k := Nat.mod_lt _ (Nat.two_pow_pos k)
  exact i64_in (by omega) (by omega)
theorem and1 (m : Nat) : andI .i64 (m : Int) 1 = ((m % 2 : Nat) : Int) := andI_low m 1 1 (by decide) (by decide)
theorem and3 (m : Nat) : andI .i64 (m : Int) 3 = ((m % 4 : Nat) : Int) := andI_low m 2 3 (by decide) (by decide)
theorem and7 (m : Nat) : andI .i64 (m : Int) 7 = ((m % 8 : Nat) : Int) := andI_low m 3 7 (by decide) (by decide)
def baseC (m : Nat) : Cfg := ⟨[], [], ((20000 + 1000 * (m / 16 % 8) : Nat) : Int), 60, 100, 0, ((20 * (m / 128 % 8) : Nat) : Int), 300000, 0, ((m / 1024 % 2 : Nat) : Int), 0, 0, 12⟩
def partsN (m : Nat) : Nat := 1 + m % 4
def shapeN (m : Nat) : Nat := m / 4 % 4
def netC (m : Nat) : Cfg :=
  let c := rowC (partC (baseC m) (partsN m)) (shapeN m) (partsN m - 1)
  if shapeN m = 1 ∧ 2 < partsN m then joinC c 0 (partsN m - 1) else c
def calmN (m : Nat) : Nat := partsN m * (m / 1024 % 2 + 1) + 2
def preC (m : Nat) : Cfg := { netC m with ages := (((partsN m - 1) * (m / 1024 % 2 + 1) + 1 + m / 2048 % 4 : Nat) : Int), listen := ((calmN m + m / 8192 % 2 : Nat) : Int), span := (calmN m : Int) }
def madeC (n : Int) : Cfg := { preC (mOf n) with window := 3 * edgeG (preC (mOf n)) }
theorem netC_num (m : Nat) (P L : SV) : cfgC (netC m) P L = [P, L, .int .i64 ((20000 + 1000 * (m / 16 % 8) : Nat) : Int), .int .i64 60, .int .i64 100, .int .i64 0, .int .i64 ((20 * (m / 128 % 8) : Nat) : Int), .int .i64 300000, .int .i64 0, .int .i64 ((m / 1024 % 2 : Nat) : Int), .int .i64 0, .int .i64 0, .int .i64 12] := by
  unfold netC
  simp only
  split
  · have := rowC_num (partC (baseC m) (partsN m)) (shapeN m) P L (partsN m - 1)
    rw [show ∀ c : Cfg, cfgC (joinC c 0 (partsN m - 1)) P L = cfgC c P L from fun _ => rfl, this]
    rfl
  · rw [rowC_num]
    rfl
theorem partsN_le (m : Nat) : 1 ≤ partsN m ∧ partsN m ≤ 4 := by unfold partsN; omega
theorem netC_parts (m : Nat) : (netC m).parts.length = partsN m := by
  unfold netC
  simp only
  split
  · simp only [joinC]
    rw [joinP_len, rowC_parts]
    simp [partC]
  · rw [rowC_parts]
    simp [partC]
theorem netC_links (m : Nat) : (netC m).links.length ≤ 10 := by
  have := partsN_le m
  unfold netC
  simp only
  split
  · simp only [joinC, List.length_append, List.length_singleton]
    rw [rowC_links]
    simp [partC, baseC]
    omega
  · rw [rowC_links]
    simp [partC, baseC]
    omega
theorem edgeG_le {c : Cfg} : 0 ≤ edgeG c ∧ edgeG c ≤ 2000 := by
  unfold edgeG
  split
  · rename_i h
    have hin : InRange c := outN_zero (by simp [rangedC] at h; exact h.2)
    have := hin.dc2
    unfold edgeN upM
    omega
  · omega
def m0 (m : Nat) : Mem := ((((Mem.empty.bump 0).bump 1).set 0 (some [zeroC])).bump 15).set 14 (some [.agg (cfgC (baseC m) .nilsl .nilsl)])
set_option maxHeartbeats 4000000 in
theorem Made_loop0 (m : Nat) : ∃ M1 pid, evW ES n_r26_Made c_r26_Made_L0 ⟨h_r26_Made_0 (.int .i64 m) (.ptr 0 0 0) (.int .i64 (partsN m)) (.int .i64 (shapeN m)) (.ptr 14 0 0) (.int .i64 0), m0 m⟩ =
      some (.exit 0, ⟨(h_r26_Made_0 (.int .i64 m) (.ptr 0 0 0) (.int .i64 (partsN m)) (.int .i64 (shapeN m)) (.ptr 14 0 0) (.int .i64 (partsN m))).set 33 (.bool false), M1⟩) ∧ MadeI (partC (baseC m) (partsN m)) 0 14 pid .nilsl M1 := by
  have hn := partsN_le m
  obtain ⟨r, g1, M1, P, g2, g3⟩ := loop_up (E := ES) (me := n_r26_Made) (B := c_r26_Made_B0) (len := partsN m) (T := fun j => h_r26_Made_0 (.int .i64 m) (.ptr 0 0 0) (.int .i64 (partsN m)) (.int .i64 (shapeN m)) (.ptr 14 0 0) (.int .i64 j))
    (I := fun j M => ∃ P, MadeP (partC (baseC m) j) 0 14 P M)
    (Q := fun r => ∃ M' P, r = (.exit 0, ⟨(h_r26_Made_0 (.int .i64 m) (.ptr 0 0 0) (.int .i64 (partsN m)) (.int .i64 (shapeN m)) (.ptr 14 0 0) (.int .i64 (partsN m))).set 33 (.bool false), M'⟩) ∧ MadeP (partC (baseC m) (partsN m)) 0 14 P M')
    (fun j M hj ⟨P, hP⟩ => by
      left
      obtain ⟨M', P', a1, a2⟩ := Made_part (c := baseC m) (t0 := .int .i64 m) (t2 := .ptr 0 0 0) (shape := shapeN m) hP hj (by omega)
      exact ⟨M', a1, P', a2⟩)
    (fun M ⟨P, hP⟩ => ⟨_, by simp [c_r26_Made_B0, evW_reg, evW_chkr, isCst, loadS, partS, TK.agg, fieldAddrS, zeroS, storeS, setPart, splice, endS, resS, fieldS, h_r26_Made_0], by simp, M, P, rfl, hP⟩) 0 (m0 m) (by omega)
    ⟨.nilsl, ⟨by simp [m0]; rfl, .inl ⟨by simp [partC, partSV], rfl⟩, by simp [m0], by simp, by simp [m0], by decide, by simp, by simp [m0], by simp⟩⟩
  subst g2
  obtain ⟨pid, q1, q2⟩ := g3.own (by simp [partC]; omega) rfl
  exact ⟨M1, pid, g1, q2⟩
set_option maxHeartbeats 4000000 in
theorem Made_loop1 (m : Nat) {pid : Nat} {M1 : Mem} (h : MadeI (partC (baseC m) (partsN m)) 0 14 pid .nilsl M1) : ∃ M2 L, evW ES n_r26_Made c_r26_Made_L1 ⟨h_r26_Made_1 (.int .i64 m) (.ptr 0 0 0) (.int .i64 (partsN m)) (.int .i64 (shapeN m)) (.ptr 14 0 0) (.int .i64 1), M1⟩ =
      some (.exit 2, ⟨(h_r26_Made_1 (.int .i64 m) (.ptr 0 0 0) (.int .i64 (partsN m)) (.int .i64 (shapeN m)) (.ptr 14 0 0) (.int .i64 (partsN m))).set 44 (.bool false), M2⟩) ∧
      MadeI (rowC (partC (baseC m) (partsN m)) (shapeN m) (partsN m - 1)) 0 14 pid L M2 := by
  have hn := partsN_le m
  obtain ⟨r, g1, M1, P, g2, g3⟩ := loop_up (E := ES) (me := n_r26_Made) (B := c_r26_Made_B1) (len := partsN m - 1) (T := fun j => h_r26_Made_1 (.int .i64 m) (.ptr 0 0 0) (.int .i64 (partsN m)) (.int .i64 (shapeN m)) (.ptr 14 0 0) (.int .i64 ((j + 1 : Nat) : Int)))
    (I := fun j M => ∃ L, MadeI (rowC (partC (baseC m) (partsN m)) (shapeN m) j) 0 14 pid L M)
    (Q := fun r => ∃ M' L, r = (.exit 2, ⟨(h_r26_Made_1 (.int .i64 m) (.ptr 0 0 0) (.int .i64 (partsN m)) (.int .i64 (shapeN m)) (.ptr 14 0 0) (.int .i64 ((partsN m - 1 + 1 : Nat) : Int))).set 44 (.bool false), M'⟩) ∧
      MadeI (rowC (partC (baseC m) (partsN m)) (shapeN m) (partsN m - 1)) 0 14 pid L M')
    (fun j M hj ⟨L, hL⟩ => by
      left
      have hlen : (rowC (partC (baseC m) (partsN m)) (shapeN m) j).parts.length = partsN m := by rw [rowC_parts]; simp [partC]
      have hlk : (rowC (partC (baseC m) (partsN m)) (shapeN m) j).links.length = j := by rw [rowC_links]; simp [partC, baseC]
      obtain ⟨M', L', a1, a2⟩ := Made_step (t0 := .int .i64 m) (t2 := .ptr 0 0 0) (shape := shapeN m) (j := j) hL (by omega) (by omega) (by omega)
      rw [hlen] at a1
      exact ⟨M', a1, L', a2⟩)
    (fun M ⟨L, hL⟩ => by
      refine ⟨_, ?_, by simp, M, L, rfl, hL⟩
      have e : partsN m - 1 + 1 = partsN m := by omega
      rw [e]
      simp [c_r26_Made_B1, evW_reg, evW_chkr, isCst, loadS, partS, TK.agg, fieldAddrS, zeroS, storeS, setPart, splice, endS, resS, fieldS, h_r26_Made_1]) 0 M1 (by omega)
    ⟨.nilsl, h⟩
  subst g2
  have e : partsN m - 1 + 1 = partsN m := by omega
  rw [e] at g1
  exact ⟨M1, P, g1, g3⟩
def m04 (m : Nat) : Mem := ((((Mem.empty.bump 4).bump 1).set 4 (some [zeroC])).bump 15).set 18 (some [.agg (cfgC (baseC m) .nilsl .nilsl)])
set_option maxHeartbeats 4000000 in
theorem Made_loop04 (m : Nat) : ∃ M1 pid, evW ES n_r26_Made c_r26_Made_L0 ⟨h_r26_Made_0 (.int .i64 m) (.ptr 4 0 0) (.int .i64 (partsN m)) (.int .i64 (shapeN m)) (.ptr 18 0 0) (.int .i64 0), m04 m⟩ =
      some (.exit 0, ⟨(h_r26_Made_0 (.int .i64 m) (.ptr 4 0 0) (.int .i64 (partsN m)) (.int .i64 (shapeN m)) (.ptr 18 0 0) (.int .i64 (partsN m))).set 33 (.bool false), M1⟩) ∧ MadeI (partC (baseC m) (partsN m)) 4 18 pid .nilsl M1 := by
  have hn := partsN_le m
  obtain ⟨r, g1, M1, P, g2, g3⟩ := loop_up (E := ES) (me := n_r26_Made) (B := c_r26_Made_B0) (len := partsN m) (T := fun j => h_r26_Made_0 (.int .i64 m) (.ptr 4 0 0) (.int .i64 (partsN m)) (.int .i64 (shapeN m)) (.ptr 18 0 0) (.int .i64 j))
    (I := fun j M => ∃ P, MadeP (partC (baseC m) j) 4 18 P M)
    (Q := fun r => ∃ M' P, r = (.exit 0, ⟨(h_r26_Made_0 (.int .i64 m) (.ptr 4 0 0) (.int .i64 (partsN m)) (.int .i64 (shapeN m)) (.ptr 18 0 0) (.int .i64 (partsN m))).set 33 (.bool false), M'⟩) ∧ MadeP (partC (baseC m) (partsN m)) 4 18 P M')
    (fun j M hj ⟨P, hP⟩ => by
      left
      obtain ⟨M', P', a1, a2⟩ := Made_part (c := baseC m) (t0 := .int .i64 m) (t2 := .ptr 4 0 0) (shape := shapeN m) hP hj (by omega)
      exact ⟨M', a1, P', a2⟩)
    (fun M ⟨P, hP⟩ => ⟨_, by simp [c_r26_Made_B0, evW_reg, evW_chkr, isCst, loadS, partS, TK.agg, fieldAddrS, zeroS, storeS, setPart, splice, endS, resS, fieldS, h_r26_Made_0], by simp, M, P, rfl, hP⟩) 0 (m04 m) (by omega)
    ⟨.nilsl, ⟨by simp [m04]; rfl, .inl ⟨by simp [partC, partSV], rfl⟩, by simp [m04], by simp, by simp [m04], by decide, by simp, by simp [m04], by simp⟩⟩
  subst g2
  obtain ⟨pid, q1, q2⟩ := g3.own (by simp [partC]; omega) rfl
  exact ⟨M1, pid, g1, q2⟩
set_option maxHeartbeats 4000000 in
theorem Made_loop14 (m : Nat) {pid : Nat} {M1 : Mem} (h : MadeI (partC (baseC m) (partsN m)) 4 18 pid .nilsl M1) : ∃ M2 L, evW ES n_r26_Made c_r26_Made_L1 ⟨h_r26_Made_1 (.int .i64 m) (.ptr 4 0 0) (.int .i64 (partsN m)) (.int .i64 (shapeN m)) (.ptr 18 0 0) (.int .i64 1), M1⟩ =
      some (.exit 2, ⟨(h_r26_Made_1 (.int .i64 m) (.ptr 4 0 0) (.int .i64 (partsN m)) (.int .i64 (shapeN m)) (.ptr 18 0 0) (.int .i64 (partsN m))).set 44 (.bool false), M2⟩) ∧
      MadeI (rowC (partC (baseC m) (partsN m)) (shapeN m) (partsN m - 1)) 4 18 pid L M2 := by
  have hn := partsN_le m
  obtain ⟨r, g1, M1, P, g2, g3⟩ := loop_up (E := ES) (me := n_r26_Made) (B := c_r26_Made_B1) (len := partsN m - 1) (T := fun j => h_r26_Made_1 (.int .i64 m) (.ptr 4 0 0) (.int .i64 (partsN m)) (.int .i64 (shapeN m)) (.ptr 18 0 0) (.int .i64 ((j + 1 : Nat) : Int)))
    (I := fun j M => ∃ L, MadeI (rowC (partC (baseC m) (partsN m)) (shapeN m) j) 4 18 pid L M)
    (Q := fun r => ∃ M' L, r = (.exit 2, ⟨(h_r26_Made_1 (.int .i64 m) (.ptr 4 0 0) (.int .i64 (partsN m)) (.int .i64 (shapeN m)) (.ptr 18 0 0) (.int .i64 ((partsN m - 1 + 1 : Nat) : Int))).set 44 (.bool false), M'⟩) ∧
      MadeI (rowC (partC (baseC m) (partsN m)) (shapeN m) (partsN m - 1)) 4 18 pid L M')
    (fun j M hj ⟨L, hL⟩ => by
      left
      have hlen : (rowC (partC (baseC m) (partsN m)) (shapeN m) j).parts.length = partsN m := by rw [rowC_parts]; simp [partC]
      have hlk : (rowC (partC (baseC m) (partsN m)) (shapeN m) j).links.length = j := by rw [rowC_links]; simp [partC, baseC]
      obtain ⟨M', L', a1, a2⟩ := Made_step (t0 := .int .i64 m) (t2 := .ptr 4 0 0) (shape := shapeN m) (j := j) hL (by omega) (by omega) (by omega)
      rw [hlen] at a1
      exact ⟨M', a1, L', a2⟩)
    (fun M ⟨L, hL⟩ => by
      refine ⟨_, ?_, by simp, M, L, rfl, hL⟩
      have e : partsN m - 1 + 1 = partsN m := by omega
      rw [e]
      simp [c_r26_Made_B1, evW_reg, evW_chkr, isCst, loadS, partS, TK.agg, fieldAddrS, zeroS, storeS, setPart, splice, endS, resS, fieldS, h_r26_Made_1]) 0 M1 (by omega)
    ⟨.nilsl, h⟩
  subst g2
  have e : partsN m - 1 + 1 = partsN m := by omega
  rw [e] at g1
  exact ⟨M1, P, g1, g3⟩

end Go.Proofs.YtbdliphlolajaaaDoor
