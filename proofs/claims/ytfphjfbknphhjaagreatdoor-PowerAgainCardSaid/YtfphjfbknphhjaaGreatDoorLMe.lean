/-
  Walks of the seat's functions: Me.
-/
import Derived.Test.YtfphjfbknphhjaaGreatDoorEb2
import Derived.Test.YtfphjfbknphhjaaGreatDoorShMb
import Derived.Test.YtfphjfbknphhjaaGreatDoorLzMj
set_option linter.unusedVariables false
set_option linter.unusedSimpArgs false
set_option maxRecDepth 100000
namespace Go.Proofs.YtfphjfbknphhjaaGreatDoor
open Go.Proofs.YtfphjfbknphhjaaGreatDoor.Sh
/-! A network by a small number: the loops. -/
def Z3q : SV := .agg [.nilsl, .nilsl, .int .i64 0, .int .i64 0, .int .i64 0, .int .i64 0, .int .i64 0, .int .i64 0, .int .i64 0, .int .i64 0, .int .i64 0, .int .i64 0, .int .i64 0]
structure Z03 (c : Cfg) (z cid pid : Nat) (L : SV) (M : Mem) : Prop where
  hc : M.blk cid = some [.agg (Z7 c (.own pid 2 0 c.parts.length) L)]
  hp : M.blk pid = some (Zfm c.parts)
  hL : Zg1 6 L M (Zmj c.links)
  h1 : cid < M.next
  h2 : pid < M.next
  hne : cid ≠ pid
  hLp : ∀ e a b, L ≠ .own pid e a b
  hLc : ∀ e a b, L ≠ .own cid e a b
  z0 : M.blk z = some [Z3q]
  zc : cid ≠ z
  zp : pid ≠ z
  zL : ∀ e a b, L ≠ .own z e a b
  zl : z < M.next
  lo : z ≤ pid
  loL : ∀ id e a b, L = .own id e a b → z ≤ id
/-- A link more. -/
def Zsc (c : Cfg) (a b : Nat) : Cfg := { c with parts := Zaed c.parts c.links a b, links := c.links ++ [joinL c.links a b] }
theorem Zz1 (ps : List Part) (ls : List Link) (a b : Nat) : (Zaed ps ls a b).length = ps.length := by simp [Zaed]
theorem Zajt (a b : List Link) : Zmj (a ++ b) = Zmj a ++ Zmj b := by simp [Zmj]
theorem Zg1.same {esz : Nat} {L : SV} (h : (∃ M items, Zg1 esz L M items)) : Zna L L = true := by
  obtain ⟨M, items, h⟩ := h
  rcases h with ⟨_, rfl⟩ | ⟨id, rfl, _⟩ <;> simp
set_option maxHeartbeats 4000000 in
theorem Zabz {c : Cfg} {z cid pid a b : Nat} {L : SV} {M : Mem} (h : Z03 c z cid pid L M) (ha : a < c.parts.length) (hb : b < c.parts.length) (hab : a ≠ b) (hl : c.links.length ≤ 900) (hpl : c.parts.length ≤ 1000) :
    ∃ M1 o' X', ICw ES Zfs [.ptr cid 0 0, .int .i64 a, .int .i64 b] (M.bump 9) = some (Za2 (joinL c.links a b), M1) ∧ M1.blk cid = some [.agg (Z7 c (.own pid 2 0 c.parts.length) L)] ∧
      Zef ES.P (Zot (M1.set (M.next + 5) (some [Za2 (joinL c.links a b)])) M.next 9 (some [0, 1, 2, 3, 4, 5])) (M.next + 6) Zr Zr L (.own (M.next + 5) 6 0 1) = some (o', Zrd L ++ [(M.next + 6, some (Zmj c.links ++ [Za2 (joinL c.links a b)]))]) ∧
      ((M1.set (M.next + 5) (some [Za2 (joinL c.links a b)])).sets (Zrd L)).set (M.next + 6) (some (Zmj c.links ++ [Za2 (joinL c.links a b)])) = X' ∧ X'.blk cid = some [.agg (Z7 c (.own pid 2 0 c.parts.length) L)] ∧
      Z03 (Zsc c a b) z cid pid o' (X'.set cid (some [.agg (Z7 c (.own pid 2 0 c.parts.length) o')])) ∧ M.next ≤ X'.next ∧ o'.cells = [o'] ∧ o'.sto = true := by
  have i1 := h.h1
  have i2 := h.h2
  have i3 := h.hne
  have hb9 : Zg1 6 L (M.bump 9) (Zmj c.links) := h.hL.old (by simp) (by simp)
  obtain ⟨M1, j1, j2, j3, j4⟩ := Zalh (M := M.bump 9) (cid := cid) (pid := pid) (c := c) (L := L) (a := a) (b := b) (by simpa using h.hc) (by simpa using h.hp) hb9 (by simp; omega) (by simp; omega) i3 h.hLp ha hb hab (by omega) hpl
  have ebn : (M.bump 9).next = M.next + 9 := rfl
  rw [ebn] at j3 j4
  have j3' : ∀ id, id < M.next → id ≠ pid → M1.blk id = M.blk id := fun id h1 h2 => by rw [j3 id (by omega) h2]; simp
  have hM1c : M1.blk cid = some [.agg (Z7 c (.own pid 2 0 c.parts.length) L)] := (j3' cid i1 i3).trans h.hc
  -- memory as it was, but for the parts
  have hO2 : Zg1 6 L (M.set pid (M1.blk pid)) (Zmj c.links) := by
    rcases h.hL with ⟨q1, q2⟩ | ⟨id, q1, q2, q3⟩
    · exact .inl ⟨q1, q2⟩
    · refine .inr ⟨id, q1, ?_, by simpa using q3⟩
      have : id ≠ pid := fun e => h.hLp _ _ _ (e ▸ q1)
      simp [this, q2]
  have hold : ∀ id, id < M.next → M1.blk id = (M.set pid (M1.blk pid)).blk id := fun id hid => by
    by_cases e : id = pid
    · subst e; simp
    · simp [e, j3' id hid e]
  generalize hv : Za2 (joinL c.links a b) = v at *
  have hvc : v.cells.length = 6 := by rw [← hv]; rfl
  have hap := Zg1.next (P := ES.P) (o := L) (M := M.set pid (M1.blk pid)) (X := M1.set (M.next + 5) (some [v])) (items := Zmj c.links) (a := M.next + 6) (s := M.next + 5) (v := v)
    (get := Zot (M1.set (M.next + 5) (some [v])) M.next 9 (some [0, 1, 2, 3, 4, 5])) Zbi Zlw rfl (by decide) rfl rfl hO2 (by simp [Zmj]; omega) (by simp [Zmj]; omega)
    (fun id hid => by
      have hid' : id < M.next := by simpa using hid
      have e1 : ¬ (id = M.next + 5) := by omega
      simp only [Zajp, hid', decide_true, Bool.true_or, if_true]
      rw [Mem.Ziy, if_neg e1]
      exact hold id hid') hvc (by simp) (fun id hid => by
      have hid' : id < M.next := by simpa using hid
      have e1 : ¬ (id = M.next + 5) := by omega
      rw [Mem.Ziy, if_neg e1]
      exact hold id hid') (by simp; omega) (by simp)
  obtain ⟨o', X', a1, a2, a3, a4, a5, a6⟩ := hap
  have a5' : X'.next = M1.next := by rw [a5]; simp
  have a6' : ∀ id e x y, o' = .own id e x y → M.next ≤ id := fun id e x y h => by simpa using a6 id e x y h
  have kc : X'.blk cid = some [.agg (Z7 c (.own pid 2 0 c.parts.length) L)] := by
    rw [a4 cid (by simpa using i1) h.hLc]
    simp [i3, h.hc]
  have kp : X'.blk pid = some (Zfm (Zaed c.parts c.links a b)) := by
    rw [a4 pid (by simpa using i2) h.hLp]
    simp [j2]
  refine ⟨M1, o', X', j1, hM1c, a1, a2, kc, ⟨?_, ?_, ?_, ?_, ?_, i3, ?_, ?_, ?_, h.zc, h.zp, ?_, ?_, h.lo, fun id e x y hh => by have := a6' _ _ _ _ hh; have := h.zl; omega⟩, by rw [a5']; omega, ?_, ?_⟩
  · simp [Zsc, Zz1, Z7]
  · have : (pid = cid) = False := by simp; omega
    simp [this, kp, Zsc]
  · simp only [Zsc, Zajt]
    have e : Zmj [joinL c.links a b] = [v] := by simp [Zmj, hv]
    rw [e]
    rcases a3 with ⟨q1, q2⟩ | ⟨id, q1, q2, q3⟩
    · exact .inl ⟨q1, q2⟩
    · refine .inr ⟨id, q1, ?_, by simpa using q3⟩
      have := a6' _ _ _ _ q1
      have : ¬ (id = cid) := by omega
      simp [this, q2]
  · simp; omega
  · simp; omega
  · intro e x y hh
    have := a6' _ _ _ _ hh
    omega
  · intro e x y hh
    have := a6' _ _ _ _ hh
    omega
  · have z1 : (z = cid) = False := by simp; exact Ne.symm h.zc
    have z2 : (z = pid) = False := by simp; exact Ne.symm h.zp
    simp only [Mem.Ziy, z1, if_false]
    rw [a4 z (by simpa using h.zl) h.zL]
    simp [z2, h.z0]
  · intro e x y hh
    have := a6' _ _ _ _ hh
    have := h.zl
    omega
  · have := h.zl
    simp only [Mem.Z77]
    omega
  · rcases a3 with ⟨_, rfl⟩ | ⟨id, rfl, _⟩ <;> rfl
  · rcases a3 with ⟨_, rfl⟩ | ⟨id, rfl, _⟩ <;> rfl
def Z7u (shape j : Nat) : Nat := if shape = 2 then 0 else j
/-- The parts, and the first links. -/
def Zza (c : Cfg) (shape : Nat) : Nat → Cfg
  | 0 => c
  | j + 1 => Zsc (Zza c shape j) (Z7u shape j) (j + 1)
theorem Zrm (c : Cfg) (shape : Nat) : ∀ j, (Zza c shape j).parts.length = c.parts.length
  | 0 => rfl
  | j + 1 => by rw [Zza]; simp only [Zsc]; rw [Zz1, Zrm c shape j]
theorem Zrh (c : Cfg) (shape : Nat) : ∀ j, (Zza c shape j).links.length = c.links.length + j
  | 0 => rfl
  | j + 1 => by rw [Zza]; simp only [Zsc, List.length_append, List.length_singleton]; rw [Zrh c shape j]; omega
set_option maxHeartbeats 8000000 in
theorem Zanl {c : Cfg} {z cid pid shape j : Nat} {L t0 t2 : SV} {M : Mem} (h : Z03 c z cid pid L M) (hj : j + 1 < c.parts.length) (hl : c.links.length ≤ 900) (hpl : c.parts.length ≤ 1000) :
    ∃ M' L', evW ES Zb9 Zkx ⟨Zgl t0 t2 (.int .i64 c.parts.length) (.int .i64 shape) (.ptr cid 0 0) (.int .i64 ((j + 1 : Nat) : Int)), M⟩ =
      some (.normal, ⟨Zgl t0 t2 (.int .i64 c.parts.length) (.int .i64 shape) (.ptr cid 0 0) (.int .i64 ((j + 1 + 1 : Nat) : Int)), M'⟩) ∧ Z03 (Zsc c (Z7u shape j) (j + 1)) z cid pid L' M' := by
  have hA : Z7u shape j < c.parts.length := by unfold Z7u; split <;> omega
  have hAj : Z7u shape j ≠ j + 1 := by unfold Z7u; split <;> omega
  obtain ⟨M1, o', X', b1, b2, b3, b4, b5, b6, b7, b8, b9⟩ := Zabz (a := Z7u shape j) (b := j + 1) h hA hj hAj hl hpl
  have hs : Zna L L = true := Zg1.same ⟨M, _, h.hL⟩
  have i1 := h.h1
  have hc0 := h.hc
  have hw : IntKind.i64.wrap ((j : Int) + 1 + 1) = (j : Int) + 1 + 1 := i64_in (by omega) (by omega)
  have hw2 : IntKind.i64.wrap (j : Int) = (j : Int) := i64_in (by omega) (by omega)
  have hj' : (j : Int) + 1 < c.parts.length := by omega
  have e5 : ¬ (cid = M.next + 5) := by omega
  have e6 : M1.blk cid = some [.agg (Z7 c (.own pid 2 0 c.parts.length) L)] := b2
  refine ⟨_, o', ?_, b6⟩
  have hvb : ∀ (q : Nat) (lk : Link), Zf7 ES.P Zr 1 q [(0, Za2 lk)] = some (.own q 6 0 1, [Za2 lk]) := fun q lk => by simp [Zf7, Zb4]
  simp only [Z7] at hc0 b2 b5
  by_cases hsh : shape = 2
  · simp [Z7u, hsh] at b1 b3 b4
    have hsh' : (shape : Int) = 2 := by omega
    simp [Zkx, Zf, Zd, Ze, Zl, Zn, Zo, TK.agg, Zb, zeroS, Zi, Zg, splice, Zx, Z5, Zk, Zgl, hj', hw, hw2, hc0, b1, b2, b3, b4, b5, b8, b9, hs, hsh, hvb, Z7, i1]
  · simp [Z7u, hsh] at b1 b3 b4
    have hsh' : ¬ (shape : Int) = 2 := by omega
    simp [Zkx, Zf, Zd, Ze, Zl, Zn, Zo, TK.agg, Zb, zeroS, Zi, Zg, splice, Zx, Z5, Zk, Zgl, hj', hw, hw2, hc0, b1, b2, b3, b4, b5, b8, b9, hs, hsh', hvb, Z7, i1]
structure Zajl (c : Cfg) (z cid : Nat) (P : SV) (M : Mem) : Prop where
  hc : M.blk cid = some [.agg (Z7 c P .nilsl)]
  hP : Zg1 2 P M (Zfm c.parts)
  h1 : cid < M.next
  hPc : ∀ e a b, P ≠ .own cid e a b
  z0 : M.blk z = some [Z3q]
  zc : cid ≠ z
  zP : ∀ e a b, P ≠ .own z e a b
  zl : z < M.next
  lo : ∀ id e a b, P = .own id e a b → z ≤ id
def Zil (c : Cfg) (n : Nat) : Cfg := { c with parts := List.replicate n ⟨5, 1⟩ }
set_option maxHeartbeats 4000000 in
theorem Zana {c : Cfg} {z cid parts j shape : Nat} {P t0 t2 : SV} {M : Mem} (h : Zajl (Zil c j) z cid P M) (hj : j < parts) (hpl : parts ≤ 1000) :
    ∃ M' P', evW ES Zb9 Zmx ⟨Zhk t0 t2 (.int .i64 parts) (.int .i64 shape) (.ptr cid 0 0) (.int .i64 j), M⟩ =
      some (.normal, ⟨Zhk t0 t2 (.int .i64 parts) (.int .i64 shape) (.ptr cid 0 0) (.int .i64 ((j + 1 : Nat) : Int)), M'⟩) ∧ Zajl (Zil c (j + 1)) z cid P' M' := by
  have i1 := h.h1
  have hc0 := h.hc
  have hw : IntKind.i64.wrap ((j : Int) + 1) = (j : Int) + 1 := i64_in (by omega) (by omega)
  have hap := Zg1.next (P := ES.P) (o := P) (M := M) (X := (M.bump 7).set (M.next + 3) (some [Zc9 ⟨5, 1⟩])) (items := Zfm (Zil c j).parts) (a := M.next + 4) (s := M.next + 3) (v := Zc9 ⟨5, 1⟩)
    (get := ((M.bump 7).set (M.next + 3) (some [Zc9 ⟨5, 1⟩])).blk) Za1 Z1c rfl (by decide) rfl rfl h.hP (by simp [Zfm, Zil]; omega) (by simp [Zfm, Zil]; omega)
    (fun id hid => by
      have e1 : ¬ (id = M.next + 3) := by omega
      simp [e1]) rfl (by simp) (by simp) (by simp) (by omega)
  obtain ⟨o', X', a1, a2, a3, a4, a5, a6⟩ := hap
  have kc : X'.blk cid = some [.agg (Z7 c P .nilsl)] := by
    rw [a4 cid i1 h.hPc]
    exact h.hc
  have ho1 : o'.cells = [o'] := by rcases a3 with ⟨_, rfl⟩ | ⟨id, rfl, _⟩ <;> rfl
  have ho2 : o'.sto = true := by rcases a3 with ⟨_, rfl⟩ | ⟨id, rfl, _⟩ <;> rfl
  have b : Zny ES.P Zaz [(0, .int .i64 5), (1, .int .i64 1)] = some (Zc9 ⟨5, 1⟩) := by simp [Zny, placesOf, Zeb, splice, Zc9]
  have b2 : ∀ q, Zf7 ES.P Zm 1 q [(0, Zc9 ⟨5, 1⟩)] = some (.own q 2 0 1, [Zc9 ⟨5, 1⟩]) := fun q => by simp [Zf7, Zb4]
  refine ⟨X'.set cid (some [.agg (Z7 c o' .nilsl)]), o', ?_, ?_, ?_, ?_, ?_, ?_, h.zc, ?_, ?_, fun id e x y hh => by have := a6 _ _ _ _ hh; have := h.zl; omega⟩
  · simp only [Z7, Zil] at hc0 kc
    simp at a1 a2
    simp [Zmx, Zf, Zd, Ze, Zl, Zn, Zo, TK.agg, Zb, zeroS, Zi, Zg, splice, Zx, Z5, Zk, Zhk, hj, hw, hc0, a1, a2, kc, b, b2, ho1, ho2, Z7]
  · simp [Zil, Z7]
  · have e : Zfm (Zil c (j + 1)).parts = Zfm (Zil c j).parts ++ [Zc9 ⟨5, 1⟩] := by simp [Zfm, Zil, List.replicate_succ']
    rw [e]
    rcases a3 with ⟨q1, q2⟩ | ⟨id, q1, q2, q3⟩
    · exact .inl ⟨q1, q2⟩
    · refine .inr ⟨id, q1, ?_, by simpa using q3⟩
      have := a6 _ _ _ _ q1
      have : ¬ (id = cid) := by omega
      simp [this, q2]
  · simp only [Mem.Z77]
    rw [a5]
    simp
    omega
  · intro e x y hh
    have := a6 _ _ _ _ hh
    omega
  · have z1 : (z = cid) = False := by simp; exact Ne.symm h.zc
    simp only [Mem.Ziy, z1, if_false]
    rw [a4 z h.zl h.zP]
    exact h.z0
  · intro e x y hh
    have := a6 _ _ _ _ hh
    have := h.zl
    omega
  · have := h.zl
    simp only [Mem.Z77]
    rw [a5]
    simp
    omega
theorem Zajl.own {c : Cfg} {z cid : Nat} {P : SV} {M : Mem} (h : Zajl c z cid P M) (hn : c.parts ≠ []) (hl : c.links = []) : ∃ pid, P = .own pid 2 0 c.parts.length ∧ Z03 c z cid pid .nilsl M := by
  rcases h.hP with ⟨q, _⟩ | ⟨pid, q1, q2, q3⟩
  · simp [Zfm] at q
    exact absurd q hn
  · have e : (Zfm c.parts).length = c.parts.length := by simp [Zfm]
    rw [e] at q1
    subst q1
    refine ⟨pid, rfl, h.hc, q2, .inl ⟨by simp [hl, Zmj], rfl⟩, h.h1, q3, fun e => h.hPc _ _ _ (by rw [e]), by simp, by simp, h.z0, h.zc, fun e => h.zP _ _ _ (by rw [e]), by simp, h.zl, h.lo _ _ _ _ rfl, by simp⟩
theorem Zyn (c : Cfg) (s : Nat) (P L : SV) : ∀ j, Z7 (Zza c s j) P L = Z7 c P L
  | 0 => rfl
  | j + 1 => by rw [Zza, ← Zyn c s P L j]; rfl

end Go.Proofs.YtfphjfbknphhjaaGreatDoor
