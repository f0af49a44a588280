/-
  Walks of the seat's functions: Mf.
-/
import Derived.Test.YtfphjfbknphhjaaGreatDoorEb2
import Derived.Test.YtfphjfbknphhjaaGreatDoorShMb
import Derived.Test.YtfphjfbknphhjaaGreatDoorLMe
import Derived.Test.YtfphjfbknphhjaaGreatDoorLzMi
set_option linter.unusedVariables false
set_option linter.unusedSimpArgs false
set_option maxRecDepth 100000
namespace Go.Proofs.YtfphjfbknphhjaaGreatDoor
open Go.Proofs.YtfphjfbknphhjaaGreatDoor.Sh
/-! A network by a small number: what is made. -/
def mOf (n : Int) : Nat := (BitVec.ofInt 64 n).toNat % 65536
theorem Zaqu (n : Int) : mOf n < 65536 := Nat.mod_lt _ (by decide)
theorem Zau3 (n : Int) : Ztw .i64 n 65535 = (mOf n : Int) := by
  have h : (BitVec.ofInt 64 n &&& BitVec.ofInt 64 65535).toNat = mOf n := by
    rw [BitVec.toNat_and, show (BitVec.ofInt 64 65535).toNat = 2 ^ 16 - 1 from by decide, Nat.and_two_pow_sub_one_eq_mod]
    rfl
  show IntKind.i64.wrap ((BitVec.ofInt 64 n &&& BitVec.ofInt 64 65535).toNat : Int) = _
  rw [h]
  have := Zaqu n
  exact i64_in (by omega) (by omega)
theorem Z7n (m k q : Nat) (hk : k ≤ 32) (hq : q = 2 ^ k - 1) : Ztw .i64 (m : Int) (q : Int) = ((m % 2 ^ k : Nat) : Int) := by
  have hp : 2 ^ k ≤ 2 ^ 32 := Nat.pow_le_pow_right (by decide) hk
  have h1 : (BitVec.ofInt 64 (q : Int)).toNat = 2 ^ k - 1 := by
    rw [BitVec.ofInt_natCast, BitVec.toNat_ofNat, hq]
    exact Nat.mod_eq_of_lt (by omega)
  have h : (BitVec.ofInt 64 (m : Int) &&& BitVec.ofInt 64 (q : Int)).toNat = m % 2 ^ k := by
    rw [BitVec.toNat_and, h1, Nat.and_two_pow_sub_one_eq_mod, BitVec.ofInt_natCast, BitVec.toNat_ofNat]
    exact Nat.mod_mod_of_dvd _ (Nat.pow_dvd_pow 2 (by omega))
  show IntKind.i64.wrap ((BitVec.ofInt 64 (m : Int) &&& BitVec.ofInt 64 (q : Int)).toNat : Int) = _
  rw [h]
  have : m % 2 ^ k < 2 ^ k := Nat.mod_lt _ (Nat.two_pow_pos k)
  exact i64_in (by omega) (by omega)
theorem and1 (m : Nat) : Ztw .i64 (m : Int) 1 = ((m % 2 : Nat) : Int) := Z7n m 1 1 (by decide) (by decide)
theorem and3 (m : Nat) : Ztw .i64 (m : Int) 3 = ((m % 4 : Nat) : Int) := Z7n m 2 3 (by decide) (by decide)
theorem and7 (m : Nat) : Ztw .i64 (m : Int) 7 = ((m % 8 : Nat) : Int) := Z7n m 3 7 (by decide) (by decide)
def Znb (m : Nat) : Cfg := ⟨[], [], ((20000 + 1000 * (m / 16 % 8) : Nat) : Int), 60, 100, 0, ((20 * (m / 128 % 8) : Nat) : Int), 300000, 0, ((m / 1024 % 2 : Nat) : Int), 0, 0, 12⟩
def Zaw (m : Nat) : Nat := 1 + m % 4
def Zgy (m : Nat) : Nat := m / 4 % 4
def Z0g (m : Nat) : Cfg :=
  let c := Zza (Zil (Znb m) (Zaw m)) (Zgy m) (Zaw m - 1)
  if Zgy m = 1 ∧ 2 < Zaw m then Zsc c 0 (Zaw m - 1) else c
def Zsm (m : Nat) : Nat := Zaw m * (m / 1024 % 2 + 1) + 2
def Z8m (m : Nat) : Cfg := { Z0g m with ages := (((Zaw m - 1) * (m / 1024 % 2 + 1) + 1 + m / 2048 % 4 : Nat) : Int), listen := ((Zsm m + m / 8192 % 2 : Nat) : Int), span := (Zsm m : Int) }
def Zck (n : Int) : Cfg := { Z8m (mOf n) with window := 3 * Zul (Z8m (mOf n)) }
theorem Zafd (m : Nat) (P L : SV) : Z7 (Z0g m) P L = [P, L, .int .i64 ((20000 + 1000 * (m / 16 % 8) : Nat) : Int), .int .i64 60, .int .i64 100, .int .i64 0, .int .i64 ((20 * (m / 128 % 8) : Nat) : Int), .int .i64 300000, .int .i64 0, .int .i64 ((m / 1024 % 2 : Nat) : Int), .int .i64 0, .int .i64 0, .int .i64 12] := by
  unfold Z0g
  simp only
  split
  · have := Zyn (Zil (Znb m) (Zaw m)) (Zgy m) P L (Zaw m - 1)
    rw [show ∀ c : Cfg, Z7 (Zsc c 0 (Zaw m - 1)) P L = Z7 c P L from fun _ => rfl, this]
    rfl
  · rw [Zyn]
    rfl
theorem Zki (m : Nat) : 1 ≤ Zaw m ∧ Zaw m ≤ 4 := by unfold Zaw; omega
theorem Zph (m : Nat) : (Z0g m).parts.length = Zaw m := by
  unfold Z0g
  simp only
  split
  · simp only [Zsc]
    rw [Zz1, Zrm]
    simp [Zil]
  · rw [Zrm]
    simp [Zil]
theorem Z4m (m : Nat) : (Z0g m).links.length ≤ 10 := by
  have := Zki m
  unfold Z0g
  simp only
  split
  · simp only [Zsc, List.length_append, List.length_singleton]
    rw [Zrh]
    simp [Zil, Znb]
    omega
  · rw [Zrh]
    simp [Zil, Znb]
    omega
theorem Zaqo {c : Cfg} : 0 ≤ Zul c ∧ Zul c ≤ 2000 := by
  unfold Zul
  split
  · rename_i h
    have hin : Zgz c := Zg7 (by simp [Zf3] at h; exact h.2)
    have := hin.dc2
    unfold Zdb upM
    omega
  · omega
def m0 (m : Nat) : Mem := ((((Mem.empty.bump 0).bump 1).set 0 (some [Z3q])).bump 15).set 14 (some [.agg (Z7 (Znb m) .nilsl .nilsl)])
set_option maxHeartbeats 4000000 in
theorem Zajs (m : Nat) : ∃ M1 pid, evW ES Zb9 Zv3 ⟨Zhk (.int .i64 m) (.ptr 0 0 0) (.int .i64 (Zaw m)) (.int .i64 (Zgy m)) (.ptr 14 0 0) (.int .i64 0), m0 m⟩ =
      some (.exit 0, ⟨(Zhk (.int .i64 m) (.ptr 0 0 0) (.int .i64 (Zaw m)) (.int .i64 (Zgy m)) (.ptr 14 0 0) (.int .i64 (Zaw m))).set 33 (.bool false), M1⟩) ∧ Z03 (Zil (Znb m) (Zaw m)) 0 14 pid .nilsl M1 := by
  have hn := Zki m
  obtain ⟨r, g1, M1, P, g2, g3⟩ := Zke (E := ES) (me := Zb9) (B := Zmx) (len := Zaw m) (T := fun j => Zhk (.int .i64 m) (.ptr 0 0 0) (.int .i64 (Zaw m)) (.int .i64 (Zgy m)) (.ptr 14 0 0) (.int .i64 j))
    (I := fun j M => ∃ P, Zajl (Zil (Znb m) j) 0 14 P M)
    (Q := fun r => ∃ M' P, r = (.exit 0, ⟨(Zhk (.int .i64 m) (.ptr 0 0 0) (.int .i64 (Zaw m)) (.int .i64 (Zgy m)) (.ptr 14 0 0) (.int .i64 (Zaw m))).set 33 (.bool false), M'⟩) ∧ Zajl (Zil (Znb m) (Zaw m)) 0 14 P M')
    (fun j M hj ⟨P, hP⟩ => by
      left
      obtain ⟨M', P', a1, a2⟩ := Zana (c := Znb m) (t0 := .int .i64 m) (t2 := .ptr 0 0 0) (shape := Zgy m) hP hj (by omega)
      exact ⟨M', a1, P', a2⟩)
    (fun M ⟨P, hP⟩ => ⟨_, by simp [Zmx, Zf, Zd, Ze, Zl, Zn, Zo, TK.agg, Zb, zeroS, Zi, Zg, splice, Zx, Z5, Zk, Zhk], by simp, M, P, rfl, hP⟩) 0 (m0 m) (by omega)
    ⟨.nilsl, ⟨by simp [m0]; rfl, .inl ⟨by simp [Zil, Zfm], rfl⟩, by simp [m0], by simp, by simp [m0], by decide, by simp, by simp [m0], by simp⟩⟩
  subst g2
  obtain ⟨pid, q1, q2⟩ := g3.own (by simp [Zil]; omega) rfl
  exact ⟨M1, pid, g1, q2⟩
set_option maxHeartbeats 4000000 in
theorem Zaij (m : Nat) {pid : Nat} {M1 : Mem} (h : Z03 (Zil (Znb m) (Zaw m)) 0 14 pid .nilsl M1) : ∃ M2 L, evW ES Zb9 Zvf ⟨Zgl (.int .i64 m) (.ptr 0 0 0) (.int .i64 (Zaw m)) (.int .i64 (Zgy m)) (.ptr 14 0 0) (.int .i64 1), M1⟩ =
      some (.exit 2, ⟨(Zgl (.int .i64 m) (.ptr 0 0 0) (.int .i64 (Zaw m)) (.int .i64 (Zgy m)) (.ptr 14 0 0) (.int .i64 (Zaw m))).set 44 (.bool false), M2⟩) ∧
      Z03 (Zza (Zil (Znb m) (Zaw m)) (Zgy m) (Zaw m - 1)) 0 14 pid L M2 := by
  have hn := Zki m
  obtain ⟨r, g1, M1, P, g2, g3⟩ := Zke (E := ES) (me := Zb9) (B := Zkx) (len := Zaw m - 1) (T := fun j => Zgl (.int .i64 m) (.ptr 0 0 0) (.int .i64 (Zaw m)) (.int .i64 (Zgy m)) (.ptr 14 0 0) (.int .i64 ((j + 1 : Nat) : Int)))
    (I := fun j M => ∃ L, Z03 (Zza (Zil (Znb m) (Zaw m)) (Zgy m) j) 0 14 pid L M)
    (Q := fun r => ∃ M' L, r = (.exit 2, ⟨(Zgl (.int .i64 m) (.ptr 0 0 0) (.int .i64 (Zaw m)) (.int .i64 (Zgy m)) (.ptr 14 0 0) (.int .i64 ((Zaw m - 1 + 1 : Nat) : Int))).set 44 (.bool false), M'⟩) ∧
      Z03 (Zza (Zil (Znb m) (Zaw m)) (Zgy m) (Zaw m - 1)) 0 14 pid L M')
    (fun j M hj ⟨L, hL⟩ => by
      left
      have hlen : (Zza (Zil (Znb m) (Zaw m)) (Zgy m) j).parts.length = Zaw m := by rw [Zrm]; simp [Zil]
      have hlk : (Zza (Zil (Znb m) (Zaw m)) (Zgy m) j).links.length = j := by rw [Zrh]; simp [Zil, Znb]
      obtain ⟨M', L', a1, a2⟩ := Zanl (t0 := .int .i64 m) (t2 := .ptr 0 0 0) (shape := Zgy m) (j := j) hL (by omega) (by omega) (by omega)
      rw [hlen] at a1
      exact ⟨M', a1, L', a2⟩)
    (fun M ⟨L, hL⟩ => by
      refine ⟨_, ?_, by simp, M, L, rfl, hL⟩
      have e : Zaw m - 1 + 1 = Zaw m := by omega
      rw [e]
      simp [Zkx, Zf, Zd, Ze, Zl, Zn, Zo, TK.agg, Zb, zeroS, Zi, Zg, splice, Zx, Z5, Zk, Zgl]) 0 M1 (by omega)
    ⟨.nilsl, h⟩
  subst g2
  have e : Zaw m - 1 + 1 = Zaw m := by omega
  rw [e] at g1
  exact ⟨M1, P, g1, g3⟩
end Go.Proofs.YtfphjfbknphhjaaGreatDoor

/-
  Walks of the seat's functions: Mg.
-/
set_option linter.unusedVariables false
set_option linter.unusedSimpArgs false
set_option maxRecDepth 100000
namespace Go.Proofs.YtfphjfbknphhjaaGreatDoor
open Go.Proofs.YtfphjfbknphhjaaGreatDoor.Sh
/-! A network by a small number: its contract. -/
theorem Zg1.lt {esz : Nat} {o : SV} {M : Mem} {items : List SV} (h : Zg1 esz o M items) {id e a b : Nat} (ho : o = .own id e a b) : id < M.next := by
  rcases h with ⟨_, q⟩ | ⟨i, q, _, q3⟩
  · rw [q] at ho; cases ho
  · rw [q] at ho; cases ho; exact q3
theorem Z6z (m : Nat) (P L : SV) : Z7 (Z8m m) P L = [P, L, .int .i64 ((20000 + 1000 * (m / 16 % 8) : Nat) : Int), .int .i64 60, .int .i64 100, .int .i64 0, .int .i64 ((20 * (m / 128 % 8) : Nat) : Int), .int .i64 300000, .int .i64 (((Zaw m - 1) * (m / 1024 % 2 + 1) + 1 + m / 2048 % 4 : Nat) : Int), .int .i64 ((m / 1024 % 2 : Nat) : Int),
    .int .i64 ((Zsm m + m / 8192 % 2 : Nat) : Int), .int .i64 (Zsm m : Int), .int .i64 12] := by
  have h := Zafd m P L
  simp only [Z7, List.cons.injEq, and_true, true_and, SV.int.injEq] at h
  obtain ⟨h1, h2, h3, h4, h5, h6, h7, h8, h9, h10, h11⟩ := h
  simp only [Z7, Z8m, h1, h2, h3, h4, h5, h6, h8, h11]
theorem Zyt (m : Nat) (w : Int) (P L : SV) : Z7 { Z8m m with window := w } P L = [P, L, .int .i64 ((20000 + 1000 * (m / 16 % 8) : Nat) : Int), .int .i64 60, .int .i64 100, .int .i64 w, .int .i64 ((20 * (m / 128 % 8) : Nat) : Int), .int .i64 300000, .int .i64 (((Zaw m - 1) * (m / 1024 % 2 + 1) + 1 + m / 2048 % 4 : Nat) : Int), .int .i64 ((m / 1024 % 2 : Nat) : Int),
    .int .i64 ((Zsm m + m / 8192 % 2 : Nat) : Int), .int .i64 (Zsm m : Int), .int .i64 12] := by
  have h := Z6z m P L
  simp only [Z7, List.cons.injEq, and_true, true_and, SV.int.injEq] at h
  obtain ⟨h1, h2, h3, h4, h5, h6, h7, h8, h9, h10, h11⟩ := h
  simp only [Z7, h1, h2, h3, h5, h6, h7, h8, h9, h10, h11]
theorem Z9x {m z c pid : Nat} {L : SV} {M3 : Mem} (h : Z03 (Z0g m) z c pid L M3) (X : Mem) (hX : ∀ id, id ≠ c → X.blk id = M3.blk id) : Za0 (PCw ES) X.blk Zm8 [.agg (Z7 (Z8m m) (.own pid 2 0 (Zaw m)) L)] = some (.int .i64 (Zul (Z8m m))) := by
  have hn := Zki m
  have hP2 : Zg1 2 (.own pid 2 0 (Zaw m)) M3 (Zfm (Z0g m).parts) := .inr ⟨pid, by simp [Zfm, Zph], h.hp, h.h2⟩
  obtain ⟨P', p1, p2, p3, _⟩ := Zg1.Zajc hP2 (get := X.blk) (fun id e a b hh => by cases hh; exact hX _ (fun e => h.hne e.symm)) Zzw
  obtain ⟨L', l1, l2, l3, _⟩ := Zg1.Zajc h.hL (get := X.blk) (fun id e a b hh => hX _ (fun e => by subst e; exact h.hLc _ _ _ hh)) Zy9
  have hlk := Z4m m
  have hpp := Zph m
  have hP' : Zi2 (Z8m m) P' L' := ⟨RSl.of_map p2 p3, RSl.of_map l2 l3, by show (Z0g m).parts.length ≤ _; omega, by show (Z0g m).links.length ≤ _; omega⟩
  rw [Zm7 (ys := [.agg (Z7 (Z8m m) P' L')]) (by simp [Zadh p1 l1])]
  have := Zano X.blk hP'
  rwa [Zm7 (ys := [.agg (Z7 (Z8m m) P' L')]) (by simp [Zd3 hP'.npA])] at this
set_option maxHeartbeats 16000000 in
theorem Zatk (n : Int) : ∃ pid L M4, ICw ES Zb9 [.int .i64 n] (Mem.empty.bump 0) = some (.agg (Z7 (Zck n) (.own pid 2 0 (Zaw (mOf n))) L), M4) ∧ M4.blk pid = some (Zfm (Z0g (mOf n)).parts) ∧ (∃ M, Zg1 6 L M (Zmj (Z0g (mOf n)).links) ∧ ∀ id e a b, L = .own id e a b → M4.blk id = M.blk id) ∧ 0 ≤ pid ∧ (∀ id e a b, L = .own id e a b → 0 ≤ id ∧ id ≠ pid) ∧ pid < M4.next ∧ (∀ id e a b, L = .own id e a b → id < M4.next) ∧ 0 < M4.next := by
  unfold Zck
  rw [Zahk]
  have hm := Zau3 n
  have hml := Zaqu n
  generalize mOf n = m at hm hml ⊢
  have hn := Zki m
  obtain ⟨M1, pid, g1, i1⟩ := Zajs m
  obtain ⟨M2, L, g2, i2⟩ := Zaij m i1
  have s2 : (m : Int).fdiv (2 ^ min 2 IntKind.i64.bits) = ((m / 4 : Nat) : Int) := by show (m : Int).fdiv 4 = _; rw [Int.fdiv_eq_ediv_of_nonneg _ (by decide)]; rfl
  have s4 : (m : Int).fdiv (2 ^ min 4 IntKind.i64.bits) = ((m / 16 : Nat) : Int) := by show (m : Int).fdiv 16 = _; rw [Int.fdiv_eq_ediv_of_nonneg _ (by decide)]; rfl
  have s7 : (m : Int).fdiv (2 ^ min 7 IntKind.i64.bits) = ((m / 128 : Nat) : Int) := by show (m : Int).fdiv 128 = _; rw [Int.fdiv_eq_ediv_of_nonneg _ (by decide)]; rfl
  have s10 : (m : Int).fdiv (2 ^ min 10 IntKind.i64.bits) = ((m / 1024 : Nat) : Int) := by show (m : Int).fdiv 1024 = _; rw [Int.fdiv_eq_ediv_of_nonneg _ (by decide)]; rfl
  have s11 : (m : Int).fdiv (2 ^ min 11 IntKind.i64.bits) = ((m / 2048 : Nat) : Int) := by show (m : Int).fdiv 2048 = _; rw [Int.fdiv_eq_ediv_of_nonneg _ (by decide)]; rfl
  have s13 : (m : Int).fdiv (2 ^ min 13 IntKind.i64.bits) = ((m / 8192 : Nat) : Int) := by show (m : Int).fdiv 8192 = _; rw [Int.fdiv_eq_ediv_of_nonneg _ (by decide)]; rfl
  have w1 : IntKind.i64.wrap (1 + ((m % 4 : Nat) : Int)) = (Zaw m : Int) := by rw [i64_in (by omega) (by omega)]; unfold Zaw; omega
  have w2 : IntKind.i64.wrap (20000 + IntKind.i64.wrap (1000 * ((m / 16 % 8 : Nat) : Int))) = ((20000 + 1000 * (m / 16 % 8) : Nat) : Int) := by rw [i64_in (n := 1000 * _) (by omega) (by omega), i64_in (by omega) (by omega)]; omega
  have w3 : IntKind.i64.wrap (20 * ((m / 128 % 8 : Nat) : Int)) = ((20 * (m / 128 % 8) : Nat) : Int) := by rw [i64_in (by omega) (by omega)]; omega
  have w4 : IntKind.i64.wrap (((m / 1024 % 2 : Nat) : Int) + 1) = ((m / 1024 % 2 + 1 : Nat) : Int) := by rw [i64_in (by omega) (by omega)]; omega
  have hq : Zaw m * (m / 1024 % 2 + 1) ≤ 4 * 2 := Nat.mul_le_mul hn.2 (by omega)
  have hq2 : (Zaw m - 1) * (m / 1024 % 2 + 1) ≤ 3 * 2 := Nat.mul_le_mul (by omega) (by omega)
  have w5 : IntKind.i64.wrap (IntKind.i64.wrap ((Zaw m : Int) * ((m / 1024 % 2 + 1 : Nat) : Int)) + 2) = (Zsm m : Int) := by
    rw [show (Zaw m : Int) * ((m / 1024 % 2 + 1 : Nat) : Int) = ((Zaw m * (m / 1024 % 2 + 1) : Nat) : Int) by push_cast; rfl]
    rw [i64_in (n := ((Zaw m * (m / 1024 % 2 + 1) : Nat) : Int)) (by omega) (by omega), i64_in (by omega) (by omega)]
    unfold Zsm
    omega
  have w6 : IntKind.i64.wrap ((Zaw m : Int) - 1) = ((Zaw m - 1 : Nat) : Int) := by rw [i64_in (by omega) (by omega)]; omega
  have w7 : IntKind.i64.wrap (IntKind.i64.wrap (IntKind.i64.wrap (((Zaw m - 1 : Nat) : Int) * ((m / 1024 % 2 + 1 : Nat) : Int)) + 1) + ((m / 2048 % 4 : Nat) : Int)) = (((Zaw m - 1) * (m / 1024 % 2 + 1) + 1 + m / 2048 % 4 : Nat) : Int) := by
    rw [show ((Zaw m - 1 : Nat) : Int) * ((m / 1024 % 2 + 1 : Nat) : Int) = (((Zaw m - 1) * (m / 1024 % 2 + 1) : Nat) : Int) by push_cast; rfl]
    rw [i64_in (n := (((Zaw m - 1) * (m / 1024 % 2 + 1) : Nat) : Int)) (by omega) (by omega), i64_in (n := _ + 1) (by omega) (by omega), i64_in (by omega) (by omega)]
    omega
  have hcalm : Zsm m ≤ 10 := by unfold Zsm; omega
  have w8 : IntKind.i64.wrap ((Zsm m : Int) + ((m / 8192 % 2 : Nat) : Int)) = ((Zsm m + m / 8192 % 2 : Nat) : Int) := by rw [i64_in (by omega) (by omega)]; omega
  have he := Zaqo (c := Z8m m)
  have w9 : IntKind.i64.wrap (3 * Zul (Z8m m)) = 3 * Zul (Z8m m) := i64_in (by omega) (by omega)
  have hz : (Znb m).cycle = ((20000 + 1000 * (m / 16 % 8) : Nat) : Int) := rfl
  have bb : Zny ES.P Za [(2, .int .i64 ((20000 + 1000 * (m / 16 % 8) : Nat) : Int)), (3, .int .i64 60), (4, .int .i64 100), (6, .int .i64 ((20 * (m / 128 % 8) : Nat) : Int)), (7, .int .i64 300000), (9, .int .i64 ((m / 1024 % 2 : Nat) : Int)), (12, .int .i64 12)] = some (.agg (Z7 (Znb m) .nilsl .nilsl)) := by
    simp [-Int.natCast_ediv, -Int.natCast_emod, -Int.natCast_add, -Int.natCast_mul, Zny, placesOf, Zeb, splice, Z7, Znb]
  have hM0 : ((((Mem.empty.bump 0).bump 1).set 0 (some [Z3q])).bump 15).set 14 (some [.agg (Z7 (Znb m) .nilsl .nilsl)]) = m0 m := rfl
  have hcell : ∀ c P L, (Z7 c P L).length = 13 := fun _ _ _ => rfl
  simp only [Z3q] at hM0
  try simp only [Mem.Zanp] at hM0
  simp [Zhk, -Int.natCast_ediv, -Int.natCast_emod, -Int.natCast_add, -Int.natCast_mul] at g1
  simp [Zgl, -Int.natCast_ediv, -Int.natCast_emod, -Int.natCast_add, -Int.natCast_mul] at g2
  have hsh : Zgy m = m / 4 % 4 := rfl
  rw [hsh] at g1 g2
  generalize hr : Zx ES _ _ = r
  simp only [Zwr] at hr
  by_cases hring : Zgy m = 1 ∧ 2 < Zaw m
  · have hlen : (Zza (Zil (Znb m) (Zaw m)) (Zgy m) (Zaw m - 1)).parts.length = Zaw m := by rw [Zrm]; simp [Zil]
    have hlk : (Zza (Zil (Znb m) (Zaw m)) (Zgy m) (Zaw m - 1)).links.length = Zaw m - 1 := by rw [Zrh]; simp [Zil, Znb]
    obtain ⟨M3, o', X', b1, b2, b3, b4, b5, b6, b7, b8, b9⟩ := Zabz (a := 0) (b := Zaw m - 1) i2 (by omega) (by omega) (by omega) (by omega) (by omega)
    have e3 : Z0g m = Zsc (Zza (Zil (Znb m) (Zaw m)) (Zgy m) (Zaw m - 1)) 0 (Zaw m - 1) := by unfold Z0g; simp [hring]
    rw [← e3] at b6
    have hE := fun v => Z9x b6 ((X'.set 14 v)) (fun id h => by simp [h])
    have hc0 := i2.hc
    rw [hlen, Zyn] at hc0 b2 b5 b6
    have hnum : ∀ P L, Z7 (Zil (Znb m) (Zaw m)) P L = [P, L, .int .i64 ((20000 + 1000 * (m / 16 % 8) : Nat) : Int), .int .i64 60, .int .i64 100, .int .i64 0, .int .i64 ((20 * (m / 128 % 8) : Nat) : Int), .int .i64 300000, .int .i64 0, .int .i64 ((m / 1024 % 2 : Nat) : Int), .int .i64 0, .int .i64 0, .int .i64 12] := fun _ _ => rfl
    rw [hnum] at hc0 b2 b5 b6
    rw [Z6z] at hE
    have hs : Zna L L = true := Zg1.same ⟨_, _, i2.hL⟩
    have hx0 : X'.blk 0 = some [Z3q] := by simpa using b6.z0
    simp only [Z3q] at hx0
    have h1' : ((m / 4 % 4 : Nat) : Int) = 1 := by have := hring.1; rw [hsh] at this; omega
    have h2 : 2 < (Zaw m : Int) := by have := hring.2; omega
    simp only [h1'] at g1 g2
    have z0 : ((0 : Nat) : Int) = 0 := rfl
    simp only [z0] at b1 b3 b4
    generalize hlk2 : joinL (Zza (Zil (Znb m) (Zaw m)) (Zgy m) (Zaw m - 1)).links 0 ((Zaw m - 1 : Nat) : Int) = lk at b1 b3 b4
    have hvb : ∀ (q : Nat), Zf7 ES.P Zr 1 q [(0, Za2 lk)] = some (.own q 6 0 1, [Za2 lk]) := fun q => by simp [Zf7, Zb4]
    simp [-Int.natCast_ediv, -Int.natCast_emod, -Int.natCast_add, -Int.natCast_mul, Zf, Zd, Ze, Zl, Zn, Zo, TK.agg, Zb, zeroS, Zi, Zg, splice, Zx, Z5, Zk, hm, and1, and3, and7, s2, s4, s7, s10, s11, s13, w1, w2, w3, w4, w5, w6, w7, w8, w9, bb, hM0, g1, g2, hc0, h1', h2, hE, hcell, i2.z0, Z3q, b1, b2, b3, b4, b5, hx0, b8, b9, hs, hvb, i2.h1] at hr
    subst hr
    refine ⟨pid, o', _, by rw [Zyt], ?_, ⟨_, b6.hL, fun id e a b hh => ?_⟩, b6.lo, fun id e a b hh => ⟨b6.loL _ _ _ _ hh, fun e => by subst e; exact b6.hLp _ _ _ hh⟩, by simpa using b6.h2, fun id e a b hh => by simpa using Zg1.lt b6.hL hh, by simpa using b6.zl⟩
    · have q1 : ¬ (pid = 14) := fun e => b6.hne e.symm
      have q2 : ¬ (pid = 0) := b6.zp
      have q3 := b6.hp
      simp only [Mem.Ziy, q1, if_false] at q3
      simp [q1, q2, q3]
    · have q1 : ¬ (id = 14) := fun e => by subst e; exact b6.hLc _ _ _ hh
      have q2 : ¬ (id = 0) := fun e => by subst e; exact b6.zL _ _ _ hh
      simp [q1, q2]
  · have e3 : Z0g m = Zza (Zil (Znb m) (Zaw m)) (Zgy m) (Zaw m - 1) := by unfold Z0g; simp [hring]
    rw [← e3] at i2
    have hE := fun v => Z9x i2 ((M2.set 14 v)) (fun id h => by simp [h])
    have hc0 := i2.hc
    rw [Zph, Zafd] at hc0
    rw [Z6z] at hE
    have hring' : ¬ (m / 4 % 4 = 1 ∧ 2 < Zaw m) := hring
    by_cases h1 : m / 4 % 4 = 1
    · have h2 : ¬ (2 < (Zaw m : Int)) := by omega
      have h1' : ((m / 4 % 4 : Nat) : Int) = 1 := by omega
      simp only [h1'] at g1 g2
      simp [-Int.natCast_ediv, -Int.natCast_emod, -Int.natCast_add, -Int.natCast_mul, Zf, Zd, Ze, Zl, Zn, Zo, TK.agg, Zb, zeroS, Zi, Zg, splice, Zx, Z5, Zk, hm, and1, and3, and7, s2, s4, s7, s10, s11, s13, w1, w2, w3, w4, w5, w6, w7, w8, w9, bb, hM0, g1, g2, hc0, h1', h2, hE, hcell, i2.z0, Z3q] at hr
      subst hr
      refine ⟨pid, L, _, by rw [Zyt], ?_, ⟨M2, i2.hL, fun id e a b hh => ?_⟩, i2.lo, fun id e a b hh => ⟨i2.loL _ _ _ _ hh, fun e => by subst e; exact i2.hLp _ _ _ hh⟩, by simpa using i2.h2, fun id e a b hh => by simpa using Zg1.lt i2.hL hh, by simpa using i2.zl⟩
      · have q1 : ¬ (pid = 14) := fun e => i2.hne e.symm
        have q2 : ¬ (pid = 0) := i2.zp
        simp [q1, q2, i2.hp]
      · have q1 : ¬ (id = 14) := fun e => by subst e; exact i2.hLc _ _ _ hh
        have q2 : ¬ (id = 0) := fun e => by subst e; exact i2.zL _ _ _ hh
        simp [q1, q2]
    · have h1' : ¬ ((m / 4 % 4 : Nat) : Int) = 1 := by omega
      simp [-Int.natCast_ediv, -Int.natCast_emod, -Int.natCast_add, -Int.natCast_mul, Zf, Zd, Ze, Zl, Zn, Zo, TK.agg, Zb, zeroS, Zi, Zg, splice, Zx, Z5, Zk, hm, and1, and3, and7, s2, s4, s7, s10, s11, s13, w1, w2, w3, w4, w5, w6, w7, w8, w9, bb, hM0, g1, g2, hc0, h1', h1, hE, hcell, i2.z0, Z3q] at hr
      subst hr
      refine ⟨pid, L, _, by rw [Zyt], ?_, ⟨M2, i2.hL, fun id e a b hh => ?_⟩, i2.lo, fun id e a b hh => ⟨i2.loL _ _ _ _ hh, fun e => by subst e; exact i2.hLp _ _ _ hh⟩, by simpa using i2.h2, fun id e a b hh => by simpa using Zg1.lt i2.hL hh, by simpa using i2.zl⟩
      · have q1 : ¬ (pid = 14) := fun e => i2.hne e.symm
        have q2 : ¬ (pid = 0) := i2.zp
        simp [q1, q2, i2.hp]
      · have q1 : ¬ (id = 14) := fun e => by subst e; exact i2.hLc _ _ _ hh
        have q2 : ¬ (id = 0) := fun e => by subst e; exact i2.zL _ _ _ hh
        simp [q1, q2]
theorem Zatq (n : Int) : ∃ P L, PCw ES Zb9 [.int .i64 n] = some (.agg (Z7 (Zck n) P L)) ∧ Zi2 (Zck n) P L := by
  obtain ⟨pid, L, M4, h1, h2, ⟨M, h3, h4⟩, _, _, _⟩ := Zatk n
  rw [show Mem.empty.bump 0 = Mem.empty from rfl] at h1
  have hpp := Zph (mOf n)
  have hn := Zki (mOf n)
  have hlk := Z4m (mOf n)
  have hP2 : Zg1 2 (.own pid 2 0 (Zaw (mOf n))) ⟨M4.blk, pid + 1⟩ (Zfm (Z0g (mOf n)).parts) := .inr ⟨pid, by simp [Zfm, Zph], h2, by simp⟩
  obtain ⟨P', p1, p2, p3, p4⟩ := Zg1.Zajc hP2 (get := M4.blk) (fun id e a b hh => rfl) Zzw true
  obtain ⟨L', l1, l2, l3, l4⟩ := Zg1.Zajc h3 (get := M4.blk) h4 Zy9 true
  refine ⟨P', L', Zr8 h1 (Zadh p1 l1) ?_, ⟨RSl.of_map p2 p3, RSl.of_map l2 l3, ?_, ?_⟩⟩
  · simp [Sh.pv, Z7, pvs, p4 rfl, l4 rfl]
  · show (Z0g (mOf n)).parts.length ≤ _
    omega
  · show (Z0g (mOf n)).links.length ≤ _
    omega

end Go.Proofs.YtfphjfbknphhjaaGreatDoor

/-
  Walks of the seat's functions: We.
-/
set_option linter.unusedVariables false
set_option linter.unusedSimpArgs false
set_option maxRecDepth 100000
namespace Go.Proofs.YtfphjfbknphhjaaGreatDoor
open Go.Proofs.YtfphjfbknphhjaaGreatDoor.Sh
/-! A made network, as a caller sees it. -/
theorem Zaly (n : Int) : ∃ P L, (∀ get, Za0 (PCw ES) get Zb9 [.int .i64 n] = some (.agg (Z7 (Zck n) P L))) ∧ Zi2 (Zck n) P L := by
  obtain ⟨P, L, h1, h2⟩ := Zatq n
  exact ⟨P, L, fun get => Z4 h1 (by simp), h2⟩

end Go.Proofs.YtfphjfbknphhjaaGreatDoor

/-
  Walks of the seat's functions: Wf.
-/
set_option linter.unusedVariables false
set_option linter.unusedSimpArgs false
set_option maxRecDepth 100000
namespace Go.Proofs.YtfphjfbknphhjaaGreatDoor
open Go.Proofs.YtfphjfbknphhjaaGreatDoor.Sh
/-! Of a port's other side the other side is the port. -/
theorem Z30 {c : Cfg} (h : Zcq c = true) {j : Nat} (hj : j < c.links.length) : Zam c.links[j].a c.parts.length ∧ Zam c.links[j].b c.parts.length ∧ c.links[j].a < c.links[j].b := by
  have he := Ze5 (c := c) (by simpa [Zcq] using h)
  have h2 := (Zk3 (Zi1 he).2).2 j hj
  unfold Zbs at h2
  split at h2
  · omega
  · rename_i hb
    unfold Zix at hb
    simp only [Bool.or_eq_true, Bool.not_eq_true', decide_eq_false_iff_not, decide_eq_true_eq, not_or, Decidable.not_not] at hb
    exact ⟨hb.1.1, hb.1.2, by omega⟩
end Go.Proofs.YtfphjfbknphhjaaGreatDoor
