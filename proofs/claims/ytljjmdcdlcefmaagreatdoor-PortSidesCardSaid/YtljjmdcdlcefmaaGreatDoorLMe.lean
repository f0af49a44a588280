/-
  Walks of the seat's functions: Me.
-/
import Derived.Test.YtljjmdcdlcefmaaGreatDoorEbMa
import Derived.Test.YtljjmdcdlcefmaaGreatDoorShMb
import Derived.Test.YtljjmdcdlcefmaaGreatDoorLzMe
set_option linter.unusedVariables false
set_option linter.unusedSimpArgs false
set_option maxRecDepth 100000
namespace Go.Proofs.YtljjmdcdlcefmaaGreatDoor
open Go.Proofs.YtljjmdcdlcefmaaGreatDoor.Sh
/-! A network by a small number: the loops. -/
def zeroC : SV := .agg [.nilsl, .nilsl, .int .i64 0, .int .i64 0, .int .i64 0, .int .i64 0, .int .i64 0, .int .i64 0, .int .i64 0, .int .i64 0, .int .i64 0, .int .i64 0, .int .i64 0]
structure MadeI (c : Cfg) (z cid pid : Nat) (L : SV) (M : Mem) : Prop where
  hc : M.blk cid = some [.agg (cfgC c (.own pid 2 0 c.parts.length) L)]
  hp : M.blk pid = some (partSV c.parts)
  hL : OutR 6 L M (linkSV c.links)
  h1 : cid < M.next
  h2 : pid < M.next
  hne : cid ≠ pid
  hLp : ∀ e a b, L ≠ .own pid e a b
  hLc : ∀ e a b, L ≠ .own cid e a b
  z0 : M.blk z = some [zeroC]
  zc : cid ≠ z
  zp : pid ≠ z
  zL : ∀ e a b, L ≠ .own z e a b
  zl : z < M.next
  lo : z ≤ pid
  loL : ∀ id e a b, L = .own id e a b → z ≤ id
/-- A link more. -/
def joinC (c : Cfg) (a b : Nat) : Cfg := { c with parts := joinP c.parts c.links a b, links := c.links ++ [joinL c.links a b] }
theorem joinP_len (ps : List Part) (ls : List Link) (a b : Nat) : (joinP ps ls a b).length = ps.length := by simp [joinP]
theorem linkSV_app (a b : List Link) : linkSV (a ++ b) = linkSV a ++ linkSV b := by simp [linkSV]
theorem OutR.same {esz : Nat} {L : SV} (h : (∃ M items, OutR esz L M items)) : svSame L L = true := by
  obtain ⟨M, items, h⟩ := h
  rcases h with ⟨_, rfl⟩ | ⟨id, rfl, _⟩ <;> simp
set_option maxHeartbeats 4000000 in
theorem made_join {c : Cfg} {z cid pid a b : Nat} {L : SV} {M : Mem} (h : MadeI c z cid pid L M) (ha : a < c.parts.length) (hb : b < c.parts.length) (hab : a ≠ b) (hl : c.links.length ≤ 900) (hpl : c.parts.length ≤ 1000) :
    ∃ M1 o' X', ICw ES n_r26_joined [.ptr cid 0 0, .int .i64 a, .int .i64 b] (M.bump 9) = some (encLink (joinL c.links a b), M1) ∧ M1.blk cid = some [.agg (cfgC c (.own pid 2 0 c.parts.length) L)] ∧
      appendS ES.P (seenM (M1.set (M.next + 5) (some [encLink (joinL c.links a b)])) M.next 9 (some [0, 1, 2, 3, 4, 5])) (M.next + 6) T_sl_api_Link T_sl_api_Link L (.own (M.next + 5) 6 0 1) = some (o', killO L ++ [(M.next + 6, some (linkSV c.links ++ [encLink (joinL c.links a b)]))]) ∧
      ((M1.set (M.next + 5) (some [encLink (joinL c.links a b)])).sets (killO L)).set (M.next + 6) (some (linkSV c.links ++ [encLink (joinL c.links a b)])) = X' ∧ X'.blk cid = some [.agg (cfgC c (.own pid 2 0 c.parts.length) L)] ∧
      MadeI (joinC c a b) z cid pid o' (X'.set cid (some [.agg (cfgC c (.own pid 2 0 c.parts.length) o')])) ∧ M.next ≤ X'.next ∧ o'.cells = [o'] ∧ o'.sto = true := by
  have i1 := h.h1
  have i2 := h.h2
  have i3 := h.hne
  have hb9 : OutR 6 L (M.bump 9) (linkSV c.links) := h.hL.old (by simp) (by simp)
  obtain ⟨M1, j1, j2, j3, j4⟩ := joined_ok (M := M.bump 9) (cid := cid) (pid := pid) (c := c) (L := L) (a := a) (b := b) (by simpa using h.hc) (by simpa using h.hp) hb9 (by simp; omega) (by simp; omega) i3 h.hLp ha hb hab (by omega) hpl
  have ebn : (M.bump 9).next = M.next + 9 := rfl
  rw [ebn] at j3 j4
  have j3' : ∀ id, id < M.next → id ≠ pid → M1.blk id = M.blk id := fun id h1 h2 => by rw [j3 id (by omega) h2]; simp
  have hM1c : M1.blk cid = some [.agg (cfgC c (.own pid 2 0 c.parts.length) L)] := (j3' cid i1 i3).trans h.hc
  -- memory as it was, but for the parts
  have hO2 : OutR 6 L (M.set pid (M1.blk pid)) (linkSV c.links) := by
    rcases h.hL with ⟨q1, q2⟩ | ⟨id, q1, q2, q3⟩
    · exact .inl ⟨q1, q2⟩
    · refine .inr ⟨id, q1, ?_, by simpa using q3⟩
      have : id ≠ pid := fun e => h.hLp _ _ _ (e ▸ q1)
      simp [this, q2]
  have hold : ∀ id, id < M.next → M1.blk id = (M.set pid (M1.blk pid)).blk id := fun id hid => by
    by_cases e : id = pid
    · subst e; simp
    · simp [e, j3' id hid e]
  generalize hv : encLink (joinL c.links a b) = v at *
  have hvc : v.cells.length = 6 := by rw [← hv]; rfl
  have hap := OutR.next (P := ES.P) (o := L) (M := M.set pid (M1.blk pid)) (X := M1.set (M.next + 5) (some [v])) (items := linkSV c.links) (a := M.next + 6) (s := M.next + 5) (v := v)
    (get := seenM (M1.set (M.next + 5) (some [v])) M.next 9 (some [0, 1, 2, 3, 4, 5])) ti_sl_api_Link ti_api_Link rfl (by decide) rfl rfl hO2 (by simp [linkSV]; omega) (by simp [linkSV]; omega)
    (fun id hid => by
      have hid' : id < M.next := by simpa using hid
      have e1 : ¬ (id = M.next + 5) := by omega
      simp only [seenM_some, hid', decide_true, Bool.true_or, if_true]
      rw [Mem.blk_set, if_neg e1]
      exact hold id hid') hvc (by simp) (fun id hid => by
      have hid' : id < M.next := by simpa using hid
      have e1 : ¬ (id = M.next + 5) := by omega
      rw [Mem.blk_set, if_neg e1]
      exact hold id hid') (by simp; omega) (by simp)
  obtain ⟨o', X', a1, a2, a3, a4, a5, a6⟩ := hap
  have a5' : X'.next = M1.next := by rw [a5]; simp
  have a6' : ∀ id e x y, o' = .own id e x y → M.next ≤ id := fun id e x y h => by simpa using a6 id e x y h
  have kc : X'.blk cid = some [.agg (cfgC c (.own pid 2 0 c.parts.length) L)] := by
    rw [a4 cid (by simpa using i1) h.hLc]
    simp [i3, h.hc]
  have kp : X'.blk pid = some (partSV (joinP c.parts c.links a b)) := by
    rw [a4 pid (by simpa using i2) h.hLp]
    simp [j2]
  refine ⟨M1, o', X', j1, hM1c, a1, a2, kc, ⟨?_, ?_, ?_, ?_, ?_, i3, ?_, ?_, ?_, h.zc, h.zp, ?_, ?_, h.lo, fun id e x y hh => by have := a6' _ _ _ _ hh; have := h.zl; omega⟩, by rw [a5']; omega, ?_, ?_⟩
  · simp [joinC, joinP_len, cfgC]
  · have : (pid = cid) = False := by simp; omega
    simp [this, kp, joinC]
  · simp only [joinC, linkSV_app]
    have e : linkSV [joinL c.links a b] = [v] := by simp [linkSV, hv]
    rw [e]
    rcases a3 with ⟨q1, q2⟩ | ⟨id, q1, q2, q3⟩
    · exact .inl ⟨q1, q2⟩
    · refine .inr ⟨id, q1, ?_, by simpa using q3⟩
      have := a6' _ _ _ _ q1
      have : ¬ (id = cid) := by omega
      simp [this, q2]
  · simp; omega
  · simp; omega
  · intro e x y hh
    have := a6' _ _ _ _ hh
    omega
  · intro e x y hh
    have := a6' _ _ _ _ hh
    omega
  · have z1 : (z = cid) = False := by simp; exact Ne.symm h.zc
    have z2 : (z = pid) = False := by simp; exact Ne.symm h.zp
    simp only [Mem.blk_set, z1, if_false]
    rw [a4 z (by simpa using h.zl) h.zL]
    simp [z2, h.z0]
  · intro e x y hh
    have := a6' _ _ _ _ hh
    have := h.zl
    omega
  · have := h.zl
    simp only [Mem.next_set]
    omega
  · rcases a3 with ⟨_, rfl⟩ | ⟨id, rfl, _⟩ <;> rfl
  · rcases a3 with ⟨_, rfl⟩ | ⟨id, rfl, _⟩ <;> rfl
def linkA (shape j : Nat) : Nat := if shape = 2 then 0 else j
/-- The parts, and the first links. -/
def rowC (c : Cfg) (shape : Nat) : Nat → Cfg
  | 0 => c
  | j + 1 => joinC (rowC c shape j) (linkA shape j) (j + 1)
theorem rowC_parts (c : Cfg) (shape : Nat) : ∀ j, (rowC c shape j).parts.length = c.parts.length
  | 0 => rfl
  | j + 1 => by rw [rowC]; simp only [joinC]; rw [joinP_len, rowC_parts c shape j]
theorem rowC_links (c : Cfg) (shape : Nat) : ∀ j, (rowC c shape j).links.length = c.links.length + j
  | 0 => rfl
  | j + 1 => by rw [rowC]; simp only [joinC, List.length_append, List.length_singleton]; rw [rowC_links c shape j]; omega
set_option maxHeartbeats 8000000 in
theorem Made_step {c : Cfg} {z cid pid shape j : Nat} {L t0 t2 : SV} {M : Mem} (h : MadeI c z cid pid L M) (hj : j + 1 < c.parts.length) (hl : c.links.length ≤ 900) (hpl : c.parts.length ≤ 1000) :
    ∃ M' L', evW ES n_r26_Made c_r26_Made_B1 ⟨h_r26_Made_1 t0 t2 (.int .i64 c.parts.length) (.int .i64 shape) (.ptr cid 0 0) (.int .i64 ((j + 1 : Nat) : Int)), M⟩ =
      some (.normal, ⟨h_r26_Made_1 t0 t2 (.int .i64 c.parts.length) (.int .i64 shape) (.ptr cid 0 0) (.int .i64 ((j + 1 + 1 : Nat) : Int)), M'⟩) ∧ MadeI (joinC c (linkA shape j) (j + 1)) z cid pid L' M' := by
  have hA : linkA shape j < c.parts.length := by unfold linkA; split <;> omega
  have hAj : linkA shape j ≠ j + 1 := by unfold linkA; split <;> omega
  obtain ⟨M1, o', X', b1, b2, b3, b4, b5, b6, b7, b8, b9⟩ := made_join (a := linkA shape j) (b := j + 1) h hA hj hAj hl hpl
  have hs : svSame L L = true := OutR.same ⟨M, _, h.hL⟩
  have i1 := h.h1
  have hc0 := h.hc
  have hw : IntKind.i64.wrap ((j : Int) + 1 + 1) = (j : Int) + 1 + 1 := i64_in (by omega) (by omega)
  have hw2 : IntKind.i64.wrap (j : Int) = (j : Int) := i64_in (by omega) (by omega)
  have hj' : (j : Int) + 1 < c.parts.length := by omega
  have e5 : ¬ (cid = M.next + 5) := by omega
  have e6 : M1.blk cid = some [.agg (cfgC c (.own pid 2 0 c.parts.length) L)] := b2
  refine ⟨_, o', ?_, b6⟩
  have hvb : ∀ (q : Nat) (lk : Link), bldSl ES.P T_sl_api_Link 1 q [(0, encLink lk)] = some (.own q 6 0 1, [encLink lk]) := fun q lk => by simp [bldSl, buildRow]
  simp only [cfgC] at hc0 b2 b5
  by_cases hsh : shape = 2
  · simp [linkA, hsh] at b1 b3 b4
    have hsh' : (shape : Int) = 2 := by omega
    simp [c_r26_Made_B1, evW_reg, evW_chkr, evW_chfr, isCst, loadS, partS, TK.agg, fieldAddrS, zeroS, storeS, setPart, splice, endS, resS, fieldS, h_r26_Made_1, hj', hw, hw2, hc0, b1, b2, b3, b4, b5, b8, b9, hs, hsh, hvb, cfgC, i1]
  · simp [linkA, hsh] at b1 b3 b4
    have hsh' : ¬ (shape : Int) = 2 := by omega
    simp [c_r26_Made_B1, evW_reg, evW_chkr, evW_chfr, isCst, loadS, partS, TK.agg, fieldAddrS, zeroS, storeS, setPart, splice, endS, resS, fieldS, h_r26_Made_1, hj', hw, hw2, hc0, b1, b2, b3, b4, b5, b8, b9, hs, hsh', hvb, cfgC, i1]
structure MadeP (c : Cfg) (z cid : Nat) (P : SV) (M : Mem) : Prop where
  hc : M.blk cid = some [.agg (cfgC c P .nilsl)]
  hP : OutR 2 P M (partSV c.parts)
  h1 : cid < M.next
  hPc : ∀ e a b, P ≠ .own cid e a b
  z0 : M.blk z = some [zeroC]
  zc : cid ≠ z
  zP : ∀ e a b, P ≠ .own z e a b
  zl : z < M.next
  lo : ∀ id e a b, P = .own id e a b → z ≤ id
def partC (c : Cfg) (n : Nat) : Cfg := { c with parts := List.replicate n ⟨5, 1⟩ }
set_option maxHeartbeats 4000000 in
theorem Made_part {c : Cfg} {z cid parts j shape : Nat} {P t0 t2 : SV} {M : Mem} (h : MadeP (partC c j) z cid P M) (hj : j < parts) (hpl : parts ≤ 1000) :
    ∃ M' P', evW ES n_r26_Made c_r26_Made_B0 ⟨h_r26_Made_0 t0 t2 (.int .i64 parts) (.int .i64 shape) (.ptr cid 0 0) (.int .i64 j), M⟩ =
      some (.normal, ⟨h_r26_Made_0 t0 t2 (.int .i64 parts) (.int .i64 shape) (.ptr cid 0 0) (.int .i64 ((j + 1 : Nat) : Int)), M'⟩) ∧ MadeP (partC c (j + 1)) z cid P' M' := by
  have i1 := h.h1
  have hc0 := h.hc
  have hw : IntKind.i64.wrap ((j : Int) + 1) = (j : Int) + 1 := i64_in (by omega) (by omega)
  have hap := OutR.next (P := ES.P) (o := P) (M := M) (X := (M.bump 7).set (M.next + 3) (some [encPart ⟨5, 1⟩])) (items := partSV (partC c j).parts) (a := M.next + 4) (s := M.next + 3) (v := encPart ⟨5, 1⟩)
    (get := ((M.bump 7).set (M.next + 3) (some [encPart ⟨5, 1⟩])).blk) ti_sl_api_Part ti_api_Part rfl (by decide) rfl rfl h.hP (by simp [partSV, partC]; omega) (by simp [partSV, partC]; omega)
    (fun id hid => by
      have e1 : ¬ (id = M.next + 3) := by omega
      simp [e1]) rfl (by simp) (by simp) (by simp) (by omega)
  obtain ⟨o', X', a1, a2, a3, a4, a5, a6⟩ := hap
  have kc : X'.blk cid = some [.agg (cfgC c P .nilsl)] := by
    rw [a4 cid i1 h.hPc]
    exact h.hc
  have ho1 : o'.cells = [o'] := by rcases a3 with ⟨_, rfl⟩ | ⟨id, rfl, _⟩ <;> rfl
  have ho2 : o'.sto = true := by rcases a3 with ⟨_, rfl⟩ | ⟨id, rfl, _⟩ <;> rfl
  have b : bldS ES.P T_api_Part [(0, .int .i64 5), (1, .int .i64 1)] = some (encPart ⟨5, 1⟩) := by simp [bldS, placesOf, buildS, splice, encPart]
  have b2 : ∀ q, bldSl ES.P T_sl_api_Part 1 q [(0, encPart ⟨5, 1⟩)] = some (.own q 2 0 1, [encPart ⟨5, 1⟩]) := fun q => by simp [bldSl, buildRow]
  refine ⟨X'.set cid (some [.agg (cfgC c o' .nilsl)]), o', ?_, ?_, ?_, ?_, ?_, ?_, h.zc, ?_, ?_, fun id e x y hh => by have := a6 _ _ _ _ hh; have := h.zl; omega⟩
  · simp only [cfgC, partC] at hc0 kc
    simp at a1 a2
    simp [c_r26_Made_B0, evW_reg, evW_chkr, evW_chfr, isCst, loadS, partS, TK.agg, fieldAddrS, zeroS, storeS, setPart, splice, endS, resS, fieldS, h_r26_Made_0, hj, hw, hc0, a1, a2, kc, b, b2, ho1, ho2, cfgC]
  · simp [partC, cfgC]
  · have e : partSV (partC c (j + 1)).parts = partSV (partC c j).parts ++ [encPart ⟨5, 1⟩] := by simp [partSV, partC, List.replicate_succ']
    rw [e]
    rcases a3 with ⟨q1, q2⟩ | ⟨id, q1, q2, q3⟩
    · exact .inl ⟨q1, q2⟩
    · refine .inr ⟨id, q1, ?_, by simpa using q3⟩
      have := a6 _ _ _ _ q1
      have : ¬ (id = cid) := by omega
      simp [this, q2]
  · simp only [Mem.next_set]
    rw [a5]
    simp
    omega
  · intro e x y hh
    have := a6 _ _ _ _ hh
    omega
  · have z1 : (z = cid) = False := by simp; exact Ne.symm h.zc
    simp only [Mem.blk_set, z1, if_false]
    rw [a4 z h.zl h.zP]
    exact h.z0
  · intro e x y hh
    have := a6 _ _ _ _ hh
    have := h.zl
    omega
  · have := h.zl
    simp only [Mem.next_set]
    rw [a5]
    simp
    omega
theorem MadeP.own {c : Cfg} {z cid : Nat} {P : SV} {M : Mem} (h : MadeP c z cid P M) (hn : c.parts ≠ []) (hl : c.links = []) : ∃ pid, P = .own pid 2 0 c.parts.length ∧ MadeI c z cid pid .nilsl M := by
  rcases h.hP with ⟨q, _⟩ | ⟨pid, q1, q2, q3⟩
  · simp [partSV] at q
    exact absurd q hn
  · have e : (partSV c.parts).length = c.parts.length := by simp [partSV]
    rw [e] at q1
    subst q1
    refine ⟨pid, rfl, h.hc, q2, .inl ⟨by simp [hl, linkSV], rfl⟩, h.h1, q3, fun e => h.hPc _ _ _ (by rw [e]), by simp, by simp, h.z0, h.zc, fun e => h.zP _ _ _ (by rw [e]), by simp, h.zl, h.lo _ _ _ _ rfl, by simp⟩
theorem rowC_num (c : Cfg) (s : Nat) (P L : SV) : ∀ j, cfgC (rowC c s j) P L = cfgC c P L
  | 0 => rfl
  | j + 1 => by rw [rowC, ← rowC_num c s P L j]; rfl

end Go.Proofs.YtljjmdcdlcefmaaGreatDoor
