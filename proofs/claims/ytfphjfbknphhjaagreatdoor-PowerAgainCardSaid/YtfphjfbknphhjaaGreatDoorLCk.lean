/-
  Walks of the seat's functions: Ck.
-/
import Derived.Test.YtfphjfbknphhjaaGreatDoorEb2
import Derived.Test.YtfphjfbknphhjaaGreatDoorShMb
import Derived.Test.YtfphjfbknphhjaaGreatDoorLzMg
import Derived.Test.YtfphjfbknphhjaaGreatDoorLzMf
set_option linter.unusedVariables false
set_option linter.unusedSimpArgs false
set_option maxRecDepth 100000
namespace Go.Proofs.YtfphjfbknphhjaaGreatDoor
open Go.Proofs.YtfphjfbknphhjaaGreatDoor.Sh
/-! plan.check, plan.Check, plan.Right. -/
def Zcn (c : Cfg) : Option (Int × Int) := match Zfu c with
  | some e => some e
  | none => match Zhf c with
    | some e => some e
    | none => if 0 ≤ idxI (Zlx c.links c.parts.length 0) (-1) then some (13, idxI (Zlx c.links c.parts.length 0) (-1)) else none
def Zem (c : Cfg) : Int × Int := (Zcn c).getD (0, 0)
theorem Zrz {c : Cfg} (h : Zfu c = none) : 1 ≤ c.parts.length ∧ c.parts.length ≤ 6 ∧ ∀ p ∈ c.parts, Znt p = false := by
  unfold Zfu at h
  split at h
  · cases h
  rename_i h1
  split at h
  · cases h
  rename_i h2
  rw [List.find?_range_eq_none] at h2
  refine ⟨by omega, by omega, fun p hp => ?_⟩
  obtain ⟨j, hj, rfl⟩ := List.mem_iff_getElem.1 hp
  simpa [hj] using h2 j hj
theorem Zk3 {c : Cfg} (h : Zhf c = none) : c.links.length ≤ 10 ∧ ∀ (j : Nat) (hj : j < c.links.length), Zbs c j c.links[j] = 0 := by
  unfold Zhf at h
  split at h
  · cases h
  rename_i h1
  split at h
  · cases h
  rename_i h2
  rw [List.find?_range_eq_none] at h2
  refine ⟨by omega, fun j hj => ?_⟩
  simpa [hj] using h2 j hj
theorem Zqn {c : Cfg} {i : Nat} {l : Link} (h : Zbs c i l = 0) : Zix c l = false ∧ twice (c.links.take i) l = false ∧ endBad c i l.a l.pa0 l.pa1 = false ∧ endBad c i l.b l.pb0 l.pb1 = false := by
  unfold Zbs at h
  split at h
  · cases h
  rename_i h1
  split at h
  · cases h
  rename_i h2
  split at h
  · cases h
  rename_i h3
  simp only [Bool.or_eq_true, not_or, Bool.not_eq_true] at h1 h2 h3
  exact ⟨h1, h2, h3.1, h3.2⟩
theorem Zy5 {c : Cfg} (h : Zhf c = none) : ∀ l ∈ c.links, okL c.parts.length l := by
  intro l hl
  obtain ⟨j, hj, rfl⟩ := List.mem_iff_getElem.1 hl
  obtain ⟨h1, h2, h3⟩ := Zwc (Zqn ((Zk3 h).2 j hj)).1
  exact ⟨h1.1, h1.2, h2.1, h2.2⟩
theorem Z6v (c : Cfg) (i : Nat) (l : Link) : Zbs c i l = 0 ∨ Zbs c i l = 10 ∨ Zbs c i l = 11 ∨ Zbs c i l = 12 := by
  unfold Zbs
  (repeat' split) <;> simp
theorem Zt4 {c : Cfg} {e i : Int} (h : Zcn c = some (e, i)) : 7 ≤ e ∧ e ≤ 13 := by
  unfold Zcn at h
  split at h
  · rename_i x hx
    simp only [Option.some.injEq] at h
    subst h
    unfold Zfu at hx
    split at hx
    · simp at hx; omega
    split at hx
    · simp at hx; omega
    · cases hx
  split at h
  · rename_i x hx
    simp only [Option.some.injEq] at h
    subst h
    unfold Zhf at hx
    split at hx
    · simp at hx; omega
    split at hx
    · rename_i j hj
      rw [List.find?_range_eq_some] at hj
      obtain ⟨h1, h2, _⟩ := hj
      have hlt : j < c.links.length := by simpa using h2
      simp [hlt] at hx h1
      have := Z6v c j c.links[j]
      omega
    · cases hx
  split at h
  · simp at h; omega
  · cases h
theorem Zvg {E : Env} {f : Nat} {p : List SV → Mem → Option (SV × Mem)} (h : E.prim f = some p) (args : List SV) (M : Mem) : ICw E f args M = p args M := by
  apply Zrt
  intro r
  rw [Z4c]
  constructor
  · rintro ⟨n, hn⟩
    cases n with
    | zero => simp [Zju] at hn
    | succ n => simpa [Zju, h] using hn
  · intro hr
    exact ⟨1, by simpa [Zju, h] using hr⟩
theorem Zac3 {P : Program} {t a b : Nat} {z : Option SV} (ht : Zbz P t = some ⟨.iface, a, b, z⟩) (o : Option (Int × Int)) : Zoq P .neq t true (Z1x o) .nili = some (.bool o.isSome) := by
  cases o with
  | none => simp [Z1x, Zoq, eqS, ht]
  | some x => simp [Z1x, Zxy, Zoq, eqS, ht]
theorem Z68 {y : SV} {c : Cfg} (hc : CfgR y c) : PCw ES Zey [y] = some (Z1x (Zcn c)) := by
  have hcy := hc
  obtain ⟨P, L, rfl, hP⟩ := hc
  refine Za4 (fun M0 => ?_) (Zaej _)
  rw [Zabb]
  have h1 := fun get => Zabc get hcy
  have h2 := fun get => Zabo get hcy
  simp only [Z7] at h1 h2
  have hb := Zac3 (P := ES.P) Zapi
  have hb0 : Zoq ES.P .neq Zj9 true .nili .nili = some (.bool false) := hb none
  cases hp : Zfu c with
  | some e =>
    have e1 : Zcn c = some e := by simp [Zcn, hp]
    rw [hp] at h1
    rw [e1]
    simp [Zmb, Zf, Zd, Ze, Zl, Zn, Zo, TK.agg, Zb, zeroS, Zi, Zg, splice, Zx, Z5, Zk, Z7, h1, hb]
  | none =>
    rw [hp] at h1
    cases hl : Zhf c with
    | some e =>
      have e1 : Zcn c = some e := by simp [Zcn, hp, hl]
      rw [hl] at h2
      rw [e1]
      simp [Zmb, Zf, Zd, Ze, Zl, Zn, Zo, TK.agg, Zb, zeroS, Zi, Zg, splice, Zx, Z5, Zk, Z7, h1, h2, hb]
    | none =>
      rw [hl] at h2
      obtain ⟨q1, q2, _⟩ := Zrz hp
      have h3 := fun get => Zati get hcy (fr := 0) q1 q2 ⟨by omega, by omega⟩ (Zy5 hl)
      simp only [Z7] at h3
      have h4 := fun get => Zas2 get (Zad8 (Zlx c.links c.parts.length 0) .ro) (by simp [Zlx]; omega) (-1)
      by_cases hi : 0 ≤ idxI (Zlx c.links c.parts.length 0) (-1)
      · have e1 : Zcn c = some (13, idxI (Zlx c.links c.parts.length 0) (-1)) := by simp [Zcn, hp, hl, hi]
        rw [e1]
        simp [Zmb, Zf, Zd, Ze, Zl, Zn, Zo, TK.agg, Zb, zeroS, Zi, Zg, splice, Zx, Z5, Zk, Z7, h1, h2, h3, h4, hb, hb0, hi, Z1x]
      · have e1 : Zcn c = none := by simp [Zcn, hp, hl, hi]
        rw [e1]
        simp [Zmb, Zf, Zd, Ze, Zl, Zn, Zo, TK.agg, Zb, zeroS, Zi, Zg, splice, Zx, Z5, Zk, Z7, h1, h2, h3, h4, hb, hb0, hi, Z1x]
theorem Z97 (get) {y : SV} {c : Cfg} (hc : CfgR y c) : Za0 (PCw ES) get Zey [y] = some (Z1x (Zcn c)) := Z4 (Z68 hc) (by simp [hc.Z2q])
theorem Zarg (t : Nat) (v : SV) (M : Mem) : ICw ES Zgt [.nili, .iface t v] M = some (.bool false, M) := Zvg (p := Zgh) rfl _ _
theorem As_P {items : List SV} {i o id : Nat} {st : Bool} {y : SV} {M : Mem} (hb : M.blk id = some [y]) (hy : y.cells.length = 1) :
    ICw ES Zgt [.iface Zcz (.rptr items i o st), .iface Zf2 (.ptr id 0 0)] M = some (.bool true, M.set id (some [.rptr items i o st])) := by
  rw [Zvg (p := Zgh) rfl]
  have : Zzl.contains (Zcz, Zf2) = true := rfl
  simp only [Zgh, this, if_true, hb, hy]
theorem Is_P (e a n : Int) (M : Mem) : ICw ES Zi0 [Zxy e a, .iface Zd6 (.int .i64 n)] M = some (.bool (e == n), M) := by
  rw [Zvg (p := Zho) rfl]
  simp [Zho, Zxy]
set_option maxHeartbeats 4000000 in
theorem Z53 {y : SV} {c : Cfg} (hc : CfgR y c) : PCw ES Zfo [y] = some (.tup [.int .i64 (Zem c).1, .int .i64 (Zem c).2]) := by
  have hcy := hc
  obtain ⟨P, L, rfl, hP⟩ := hc
  refine Za4 (fun M0 => ?_) rfl
  rw [Z83]
  have h1 := fun get => Z97 get hcy
  simp only [Z7] at h1
  cases he : Zcn c with
  | none =>
    rw [he] at h1
    have e1 : Zem c = (0, 0) := by simp [Zem, he]
    rw [e1]
    simp [Zn9, Zf, Zd, Ze, Zl, Zn, Zo, TK.agg, Zb, zeroS, Zi, Zg, splice, Zx, Z5, Zk, Z7, h1, Z1x, Zsh, Zarg]
  | some ei =>
    obtain ⟨e, a⟩ := ei
    rw [he] at h1
    have e1 : Zem c = (e, a) := by simp [Zem, he]
    rw [e1]
    obtain ⟨k1, k2⟩ := Zt4 he
    have bs : ∀ q, Zf7 ES.P Zgj 6 q [(0, .int .i64 7), (1, .int .i64 8), (2, .int .i64 9), (3, .int .i64 10), (4, .int .i64 11), (5, .int .i64 12)] = some (.own q 1 0 6, [.int .i64 7, .int .i64 8, .int .i64 9, .int .i64 10, .int .i64 11, .int .i64 12]) := fun q => by simp [Zf7, Zb4]
    have loop := fun f s M1 hI => Zdc (E := ES) (me := Zfo) (B := Zkk) (len := 6) (T := fun j => Zfh (Zxy e a) (.ptr f 0 0) (.own s 1 0 6) (.int .i64 6) (.int .i64 j))
      (I := fun _ M => M.blk f = some [.rptr [.agg [.int .i64 a, .iface Zd6 (.int .i64 e)]] 0 0 true] ∧ M.blk s = some [.int .i64 7, .int .i64 8, .int .i64 9, .int .i64 10, .int .i64 11, .int .i64 12])
      (p := fun j => e == 7 + (j : Int))
      (Q := fun o r => ∃ M', M'.blk f = some [.rptr [.agg [.int .i64 a, .iface Zd6 (.int .i64 e)]] 0 0 true] ∧ r = match o with
        | some j => (.ret, ⟨((Zfh .Z .Z .Z .Z .Z).set 2 (.int .i64 e)).set 3 (.int .i64 a), M'⟩)
        | none => (.exit 0, ⟨(Zfh (Zxy e a) (.ptr f 0 0) (.own s 1 0 6) (.int .i64 6) (.int .i64 6)).set 17 (.bool false), M'⟩))
      (fun j M hj ⟨hf, hs⟩ hpj => by
        have hj' : (j : Int) < 6 := by omega
        have hw : IntKind.i64.wrap ((j : Int) + 1) = (j : Int) + 1 := i64_in (by omega) (by omega)
        have hix : Z9 ES.P Zgj (.own s 1 0 6) (.int .i64 j) = some (.ptr s j 0) := by simp [Z9, Zs4, hj]
        have hit : ([SV.int .i64 7, .int .i64 8, .int .i64 9, .int .i64 10, .int .i64 11, .int .i64 12] : List SV)[j]? = some (.int .i64 (7 + j)) := by
          have : j = 0 ∨ j = 1 ∨ j = 2 ∨ j = 3 ∨ j = 4 ∨ j = 5 := by omega
          rcases this with rfl | rfl | rfl | rfl | rfl | rfl <;> rfl
        simp only [beq_eq_false_iff_ne] at hpj
        have hpb : (e == 7 + (j : Int)) = false := by simp [hpj]
        simp [Zkk, Zf, Zd, Ze, Zl, Zn, Zo, TK.agg, Zb, zeroS, Zi, Zg, splice, Zx, Z5, Zk, Zfh, hj', hix, hs, hit, Zsh, Is_P, hpb, hw, hpj, hf])
      (fun j M hj ⟨hf, hs⟩ hpj => by
        have hj' : (j : Int) < 6 := by omega
        have hix : Z9 ES.P Zgj (.own s 1 0 6) (.int .i64 j) = some (.ptr s j 0) := by simp [Z9, Zs4, hj]
        have hit : ([SV.int .i64 7, .int .i64 8, .int .i64 9, .int .i64 10, .int .i64 11, .int .i64 12] : List SV)[j]? = some (.int .i64 (7 + j)) := by
          have : j = 0 ∨ j = 1 ∨ j = 2 ∨ j = 3 ∨ j = 4 ∨ j = 5 := by omega
          rcases this with rfl | rfl | rfl | rfl | rfl | rfl <;> rfl
        simp only [beq_iff_eq] at hpj
        subst hpj
        simp [Zkk, Zf, Zd, Ze, Zl, Zn, Zo, TK.agg, Zb, zeroS, Zi, Zg, splice, Zx, Z5, Zk, Zfh, hj', hix, hs, hit, Zsh, Is_P, hf])
      (fun M ⟨hf, hs⟩ => by
        simp [Zkk, Zf, Zd, Ze, Zl, Zn, Zo, TK.agg, Zb, zeroS, Zi, Zg, splice, Zx, Z5, Zk, Zfh]
        exact hf) M1 hI
    obtain ⟨r, g1, M', hM', g2⟩ := loop (M0.next + 3) (M0.next + 8) ((((((((M0.bump 3).set M0.next (some [.agg (Z7 c P L)])).bump 1).set (M0.next + 3) (some [.nilp])).bump 4).set (M0.next + 3) (some [.rptr [.agg [.int .i64 a, .iface Zd6 (.int .i64 e)]] 0 0 true])).bump 3).set (M0.next + 8) (some [.int .i64 7, .int .i64 8, .int .i64 9, .int .i64 10, .int .i64 11, .int .i64 12])) (by simp)
    simp [Zfh, Z7] at g1
    rw [g2] at g1
    have hsome : ∀ j : Nat, (List.range 6).find? (fun j : Nat => e == 7 + (j : Int)) = some j → e = 7 + (j : Int) := fun j hj => by
      have := (List.find?_range_eq_some.1 hj).1
      simpa using this
    have hnone : (List.range 6).find? (fun j : Nat => e == 7 + (j : Int)) = none → e = 13 := fun hj => by
      rw [List.find?_range_eq_none] at hj
      have q0 := hj 0 (by omega)
      have q1 := hj 1 (by omega)
      have q2 := hj 2 (by omega)
      have q3 := hj 3 (by omega)
      have q4 := hj 4 (by omega)
      have q5 := hj 5 (by omega)
      simp at q0 q1 q2 q3 q4 q5
      omega
    have hAs : ∀ M1 : Mem, M1.blk (M0.next + 3) = some [.nilp] → ICw ES Zgt [Zxy e a, .iface Zf2 (.ptr (M0.next + 3) 0 0)] M1 = some (.bool true, M1.set (M0.next + 3) (some [.rptr [.agg [.int .i64 a, .iface Zd6 (.int .i64 e)]] 0 0 true])) := fun M1 hM => As_P hM rfl
    have hM2 := hM'
    cases hf : (List.range 6).find? (fun j : Nat => e == 7 + (j : Int)) with
    | some j =>
      rw [hf] at g1
      simp [Zfh] at g1
      simp [Zn9, Zf, Zd, Ze, Zl, Zn, Zo, TK.agg, Zb, zeroS, Zi, Zg, splice, Zx, Z5, Zk, Z7, h1, Z1x, Zsh, hAs, bs, Zex, Zp0, g1, Nat.add_assoc]
    | none =>
      have := hnone hf
      subst this
      rw [hf] at g1
      simp [Zfh] at g1
      simp [Zn9, Zf, Zd, Ze, Zl, Zn, Zo, TK.agg, Zb, zeroS, Zi, Zg, splice, Zx, Z5, Zk, Z7, h1, Z1x, Zsh, hAs, bs, Zex, Zp0, g1, hM2, Nat.add_assoc]
theorem Zabh (get) {y : SV} {c : Cfg} (hc : CfgR y c) : Za0 (PCw ES) get Zfo [y] = some (.tup [.int .i64 (Zem c).1, .int .i64 (Zem c).2]) := Z4 (Z53 hc) (by simp [hc.Z2q])

end Go.Proofs.YtfphjfbknphhjaaGreatDoor
