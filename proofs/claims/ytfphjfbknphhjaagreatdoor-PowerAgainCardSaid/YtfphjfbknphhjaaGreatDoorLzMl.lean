/-
  Walks of the seat's functions: Be.
-/
import Derived.Test.YtfphjfbknphhjaaGreatDoorEb2
import Derived.Test.YtfphjfbknphhjaaGreatDoorShMb
import Derived.Test.YtfphjfbknphhjaaGreatDoorLzMi
import Derived.Test.YtfphjfbknphhjaaGreatDoorLzMj
set_option linter.unusedVariables false
set_option linter.unusedSimpArgs false
set_option maxRecDepth 100000
namespace Go.Proofs.YtfphjfbknphhjaaGreatDoor
open Go.Proofs.YtfphjfbknphhjaaGreatDoor.Sh
/-! What a network's numbers come to, and whether they fit: plain. -/
def Zos (c : Cfg) : Int := upM (c.drift * c.cycle)
def Zow (c : Cfg) : Int := 4 * Zdb c + 2 * Zos c + 2
def Zp3 (c : Cfg) : Int := 2 * c.ages * Zow c + 4 * Zdb c
def Zap7 (c : Cfg) : Int := 3 * Zdb c + upM (2 * Zdb c * (c.rate + c.drift)) + 1
structure Zavr (c : Cfg) : Prop where
  e : 1 ≤ Zdb c ∧ Zdb c ≤ 1001
  s : 0 ≤ Zos c ∧ Zos c ≤ 500
  st : 6 ≤ Zow c ∧ Zow c ≤ 5006
  j : 0 ≤ 2 * c.ages * Zow c ∧ 2 * c.ages * Zow c ≤ 2002400
  t : 0 ≤ 2 * Zdb c * (c.rate + c.drift) ∧ 2 * Zdb c * (c.rate + c.drift) ≤ 801801000
theorem Zgz.nums {c : Cfg} (h : Zgz c) : Zavr c := by
  have h1 := h.dc
  have h2 := h.dc2
  have he : 1 ≤ Zdb c ∧ Zdb c ≤ 1001 := by unfold Zdb upM; omega
  have hs : 0 ≤ Zos c ∧ Zos c ≤ 500 := by unfold Zos upM; omega
  have hst : 6 ≤ Zow c ∧ Zow c ≤ 5006 := by unfold Zow; omega
  obtain ⟨a1, a2⟩ := h.ag
  obtain ⟨r1, r2⟩ := h.ra
  obtain ⟨d1, d2⟩ := h.dr
  refine ⟨he, hs, hst, ⟨Int.mul_nonneg (by omega) (by omega), ?_⟩, ⟨Int.mul_nonneg (by omega) (by omega), ?_⟩⟩
  · have := Int.mul_le_mul (show 2 * c.ages ≤ 400 by omega) hst.2 (by omega) (by omega)
    omega
  · have := Int.mul_le_mul (show 2 * Zdb c ≤ 2002 by omega) (show c.rate + c.drift ≤ 400500 by omega) (by omega) (by omega)
    omega
/-- How many ticks a part's slots take, at least. -/
def Z5i (c : Cfg) (i : Nat) : Int := c.lead + (3 * (Zbj c.links i : Int) + Zbx c i) * c.slot + c.window
def Zlr (c : Cfg) (i : Nat) : Bool := decide (c.cycle < Z5i c i)
def Zku (c : Cfg) : Bool := (List.range c.parts.length).any (Zlr c)
def Zew (c : Cfg) : Int := c.parts.length * (c.lost + 1) + 2
def Zfe (c : Cfg) : Int :=
  if c.window < 3 * Zdb c ∨ 20000 < c.window then 6 else if c.slot < 2 * c.window + 1 ∨ 1000000 < c.slot then 7 else if c.lead < c.window ∨ 1000000 < c.lead then 8
  else if Zku c then 9 else if c.rate * c.cycle < Zp3 c * 1000000 then 10 else 0
def Zte (c : Cfg) : Int :=
  if c.ages < (c.parts.length - 1) * (c.lost + 1) + 1 then 11 else if c.listen < Zew c ∨ 60000 < c.listen then 12 else if c.span < Zew c ∨ 60000 < c.span then 13
  else if 60000 < c.listen + c.parts.length * c.span then 14 else if c.room < c.parts.length + 2 ∨ 64 < c.room then 15 else 0
def Zng (c : Cfg) : Int := if Zfe c ≠ 0 then Zfe c else Zte c
/-- What does not fit; 0: nothing; and which. -/
def Zsj (c : Cfg) : Int × Int :=
  if (Zem c).1 ≠ 0 then Zem c else if Z1s c ≠ 0 then (14, Z1s c) else if Zng c ≠ 0 then (14, Zng c) else (0, 0)
def Zsf (c : Cfg) : Bool := (Zsj c).1 == 0
theorem Zec {c : Cfg} : Zsf c = true ↔ Zcq c = true ∧ Z1s c = 0 ∧ Zng c = 0 := by
  unfold Zsf Zsj Zcq
  by_cases h1 : (Zem c).1 = 0
  · by_cases h2 : Z1s c = 0
    · by_cases h3 : Zng c = 0 <;> simp [h1, h2, h3]
    · simp [h1, h2]
  · simp [h1]
/-- As many ports as each link has two of them at each end. -/
theorem Zzj {ls : List Link} {part : Int} (h : ∀ l ∈ ls, l.a < l.b) : ∀ k, k ≤ ls.length → (Zvu ls part k).length = Zbj (ls.take k) part
  | 0, _ => rfl
  | k + 1, hk => by
    have hlt : k < ls.length := by omega
    rw [Ztj hlt, List.length_append, Zzj h k (by omega), Zur hlt]
    have := h ls[k] (List.getElem_mem hlt)
    congr 1
    unfold Zco Zfx endOf
    by_cases h1 : ls[k].a = part
    · have h2 : ¬ ls[k].b = part := by omega
      simp [h1, h2]
    · by_cases h2 : ls[k].b = part <;> simp [h1, h2]

end Go.Proofs.YtfphjfbknphhjaaGreatDoor

/-
  Walks of the seat's functions: Bf.
-/
set_option linter.unusedVariables false
set_option linter.unusedSimpArgs false
set_option maxRecDepth 100000
namespace Go.Proofs.YtfphjfbknphhjaaGreatDoor
open Go.Proofs.YtfphjfbknphhjaaGreatDoor.Sh
/-! bounds: reckoning; the first that is not so. -/
@[simp] theorem Zavz : IntKind.i64.wrap 0 = 0 := by decide
@[simp] theorem Zau0 : IntKind.i64.wrap 1 = 1 := by decide
theorem Z92 (get) {n : Int} (h0 : 0 ≤ n) (h1 : n ≤ 9000000000000000000) : Za0 (PCw ES) get Zl8 [.int .i64 n, .int .i64 1000000] = some (.tup [.int .i64 (upM n), .bool true]) := by
  refine Z4 (Za4 (fun M0 => ?_) rfl) (by simp)
  rw [Z96]
  have hd := Zauo h0
  have hm := Zavo h0
  have hw : IntKind.i64.wrap (n / 1000000) = n / 1000000 := i64_in (by omega) (by omega)
  have hw1 : IntKind.i64.wrap (n / 1000000 + 1) = n / 1000000 + 1 := i64_in (by omega) (by omega)
  by_cases h : 0 < n % 1000000
  · have e : upM n = n / 1000000 + 1 := by unfold upM; omega
    simp [Zqu, Zf, Zd, Ze, Zl, Zn, Zo, TK.agg, Zb, zeroS, Zi, Zg, splice, Zx, Z5, Zk, hd, hm, hw, hw1, h, e]
  · have e : upM n = n / 1000000 := by unfold upM; omega
    simp [Zqu, Zf, Zd, Ze, Zl, Zn, Zo, TK.agg, Zb, zeroS, Zi, Zg, splice, Zx, Z5, Zk, hd, hm, hw, h, e]
theorem Zrw (get) {n : Int} (h0 : 0 ≤ n) (h1 : n ≤ 9000000000000000000) : Za0 (PCw ES) get Zgd [.int .i64 n] = some (.int .i64 (upM n)) := by
  refine Z4 (Za4 (fun M0 => ?_) rfl) (by simp)
  rw [Z7m]
  have h := fun get => Z92 get h0 h1
  simp [Zr7, Zf, Zd, Ze, Zl, Zn, Zo, TK.agg, Zb, zeroS, Zi, Zg, splice, Zx, Z5, Zk, h]
def inB (n a b : Int) : Bool := decide (a ≤ n ∧ n ≤ b)
@[simp] theorem Zalx (get) (n a b : Int) : Za0 (PCw ES) get Zbg [.int .i64 n, .int .i64 a, .int .i64 b] = some (.bool (inB n a b)) := by
  refine Z4 (Za4 (fun M0 => ?_) rfl) (by simp)
  rw [Zzx]
  unfold inB
  by_cases h : a ≤ n <;> simp [Zps, Zf, Zd, Ze, Zl, Zn, Zo, TK.agg, Zb, zeroS, Zi, Zg, splice, Zx, Z5, Zk, h]
/-- The number of the first that is not so. -/
def Zcw (n : Int) : List Bool → Int
  | [] => 0
  | b :: r => if b then Zcw (n + 1) r else n
theorem Zy7 (n : Int) : ∀ l : List Bool, Zcw n l = match (List.range l.length).find? (fun j => (l[j]?.map (!·)).getD false) with | some j => n + j | none => 0
  | [] => rfl
  | b :: r => by
    have ih := Zy7 (n + 1) r
    rw [Zcw, ih, List.length_cons, List.range_succ_eq_map, List.find?_cons]
    cases b with
    | false => simp
    | true =>
      simp only [List.getElem?_cons_zero, Option.map_some, Option.getD_some, Bool.not_true, List.find?_map, if_true]
      have e : ((fun j => (((true :: r)[j]?).map (!·)).getD false) ∘ Nat.succ) = fun j => ((r[j]?).map (!·)).getD false := by funext j; simp
      rw [e]
      cases (List.range r.length).find? (fun j => ((r[j]?).map (!·)).getD false) with
      | none => rfl
      | some j =>
        show n + 1 + (j : Int) = n + ((j + 1 : Nat) : Int)
        omega
def Bools (x : SV) (l : List Bool) : Prop := RSl (fun y b => y = .bool b) x l
theorem Z04 {x : SV} {l : List Bool} (hx : Bools x l) (hl : l.length ≤ 100) (n : Int) (hn : 0 ≤ n ∧ n ≤ 100) : PCw ES Zb2 [.int .i64 n, x] = some (.int .i64 (Zcw n l)) := by
  refine Za4 (fun M0 => ?_) rfl
  rw [Z2a, Zy7]
  have hlen := hx.Zex Z4v
  have at' : ∀ {j : Nat}, j < l.length → Z9 ES.P Zfp x (.int .i64 j) = some (.rptr (l.map .bool) j 0 (Zwi x)) := fun {j} hj => RSl.at (enc := SV.bool) hx Z4v Zafa (fun _ => rfl) hj
  obtain ⟨r, g1, M', g2⟩ := Zdc (E := ES) (me := Zb2) (B := Zgm) (len := l.length) (T := fun j => Zdi (.int .i64 n) x (.int .i64 l.length) (.int .i64 j))
    (I := fun _ _ => True) (p := fun j => (l[j]?.map (!·)).getD false)
    (Q := fun o r => ∃ M', r = match o with
      | some j => (.ret, ⟨(Zdi .Z .Z .Z .Z).set 4 (.int .i64 (n + j)), M'⟩)
      | none => (.exit 0, ⟨(Zdi (.int .i64 n) x (.int .i64 l.length) (.int .i64 l.length)).set 10 (.bool false), M'⟩))
    (fun j M hj _ hp => by
      have ha := at' hj
      have hw : IntKind.i64.wrap ((j : Int) + 1) = (j : Int) + 1 := i64_in (by omega) (by omega)
      simp [hj] at hp
      exact ⟨M, by simp [Zgm, Zf, Zd, Ze, Zl, Zn, Zo, TK.agg, Zb, zeroS, Zi, Zg, splice, Zx, Z5, Zk, Zdi, hj, ha, hp, hw], trivial⟩)
    (fun j M hj _ hp => by
      have ha := at' hj
      have hw : IntKind.i64.wrap (n + (j : Int)) = n + (j : Int) := i64_in (by omega) (by omega)
      simp [hj] at hp
      have hB : evW ES Zb2 Zgm ⟨Zdi (.int .i64 n) x (.int .i64 l.length) (.int .i64 j), M⟩ = some (.ret, ⟨(Zdi .Z .Z .Z .Z).set 4 (.int .i64 (n + j)), M⟩) := by
        simp [Zgm, Zf, Zd, Ze, Zl, Zn, Zo, TK.agg, Zb, zeroS, Zi, Zg, splice, Zx, Z5, Zk, Zdi, hj, ha, hp, hw]
      exact ⟨_, hB, by simp, M, rfl⟩)
    (fun M _ => ⟨_, by simp [Zgm, Zf, Zd, Ze, Zl, Zn, Zo, TK.agg, Zb, zeroS, Zi, Zg, splice, Zx, Z5, Zk, Zdi], by simp, M, rfl⟩) M0 trivial
  cases hf : (List.range l.length).find? (fun j => (l[j]?.map (!·)).getD false) with
  | none =>
    rw [hf] at g2
    subst g2
    simp [Zdi] at g1
    simp [Zn1, Zf, Zd, Ze, Zl, Zn, Zo, TK.agg, Zb, zeroS, Zi, Zg, splice, Zx, Z5, Zk, hlen, Znv, g1]
  | some j =>
    rw [hf] at g2
    subst g2
    simp [Zdi] at g1
    simp [Zn1, Zf, Zd, Ze, Zl, Zn, Zo, TK.agg, Zb, zeroS, Zi, Zg, splice, Zx, Z5, Zk, hlen, Znv, g1]
theorem Zg3 {get : Nat → Option (List SV)} {id : Nat} (l : List Bool) (h : get id = some (l.map .bool)) (hl : l.length ≤ 100) (n : Int) (hn : 0 ≤ n ∧ n ≤ 100) : Za0 (PCw ES) get Zb2 [.int .i64 n, .own id 1 0 l.length] = some (.int .i64 (Zcw n l)) := by
  have hi : pic get false Zar (.int .i64 n) = some (.int .i64 n) := Zd3 rfl
  have hp : ∀ x ∈ l.map SV.bool, Sh.pv x = true := fun x hx => by
    simp only [List.mem_map] at hx
    obtain ⟨b, _, rfl⟩ := hx
    rfl
  have ho : pic get false Zar (.own id 1 0 l.length) = some (.sl (l.map .bool) .snap) := by
    unfold Zar pic
    simp only [Sh.pv, Bool.false_eq_true, if_false, h, Nat.zero_add, List.length_map, Nat.le_refl, if_true, List.drop_zero]
    rw [show (l.map SV.bool).take l.length = l.map SV.bool by rw [List.take_of_length_le (by simp)]]
    rw [Zmn fun x hx => Zd3 (Zac (hp x hx) _)]
  rw [Zm7 (ys := [.int .i64 n, .sl (l.map .bool) .snap]) (by simp [hi, ho])]
  exact Z04 (RSl.of_map rfl rfl) hl n hn
def Zacy (c : Cfg) : List SV := [.int .i64 (Zdb c), .int .i64 (2 * Zdb c), .int .i64 (Zos c), .int .i64 (Zow c), .int .i64 (Zp3 c), .int .i64 (Zap7 c), .int .i64 (c.ages + 1)]
set_option maxHeartbeats 4000000 in
theorem Zsp (get) {P L : SV} {c : Cfg} (hP : Zi2 c P L) (h : Zgz c) : Za0 (PCw ES) get Zen [.agg (Z7 c P L)] = some (.agg (Zacy c)) := by
  refine Z4 (Za4 (fun M0 => ?_) rfl) (by simp [hP.npA])
  rw [Z0t]
  have h2 := h.dc2
  have h1 := h.dc
  obtain ⟨he, hs, hst, hj, ht⟩ := h.nums
  have hd := h.dr
  have hr := h.ra
  have hag := h.ag
  have u1 := fun get => Zrw get h2.1 (by omega)
  have u2 := fun get => Zrw get h1.1 (by omega)
  have u3 := fun get => Zrw get ht.1 (by omega)
  have w1 : IntKind.i64.wrap (2 * c.drift) = 2 * c.drift := i64_in (by omega) (by omega)
  have w2 : IntKind.i64.wrap (2 * c.drift * c.cycle) = 2 * c.drift * c.cycle := i64_in (by omega) (by omega)
  have w3 : IntKind.i64.wrap (upM (2 * c.drift * c.cycle) + 1) = Zdb c := i64_in (by unfold Zdb at he; omega) (by unfold Zdb at he; omega)
  have w4 : IntKind.i64.wrap (c.drift * c.cycle) = c.drift * c.cycle := i64_in (by omega) (by omega)
  have w5 : IntKind.i64.wrap (c.ages + 1) = c.ages + 1 := i64_in (by omega) (by omega)
  have w6 : IntKind.i64.wrap (2 * Zdb c) = 2 * Zdb c := i64_in (by omega) (by omega)
  have w7 : IntKind.i64.wrap (2 * (2 * Zdb c)) = 4 * Zdb c := by rw [i64_in (by omega) (by omega)]; omega
  have w8 : IntKind.i64.wrap (2 * Zos c) = 2 * Zos c := i64_in (by omega) (by omega)
  have w9 : IntKind.i64.wrap (4 * Zdb c + 2 * Zos c) = 4 * Zdb c + 2 * Zos c := i64_in (by omega) (by omega)
  have w10 : IntKind.i64.wrap (4 * Zdb c + 2 * Zos c + 2) = Zow c := i64_in (by unfold Zow at hst; omega) (by unfold Zow at hst; omega)
  have w11 : IntKind.i64.wrap (2 * c.ages) = 2 * c.ages := i64_in (by omega) (by omega)
  have w12 : IntKind.i64.wrap (2 * c.ages * Zow c) = 2 * c.ages * Zow c := i64_in (by omega) (by omega)
  have w13 : IntKind.i64.wrap (2 * c.ages * Zow c + 4 * Zdb c) = Zp3 c := i64_in (by omega) (by omega)
  have w14 : IntKind.i64.wrap (2 * Zdb c + Zdb c) = 3 * Zdb c := by rw [i64_in (by omega) (by omega)]; omega
  have w15 : IntKind.i64.wrap (c.rate + c.drift) = c.rate + c.drift := i64_in (by omega) (by omega)
  have w16 : IntKind.i64.wrap (2 * Zdb c * (c.rate + c.drift)) = 2 * Zdb c * (c.rate + c.drift) := i64_in (by omega) (by omega)
  have w17 : IntKind.i64.wrap (3 * Zdb c + upM (2 * Zdb c * (c.rate + c.drift))) = 3 * Zdb c + upM (2 * Zdb c * (c.rate + c.drift)) := by unfold upM; exact i64_in (by omega) (by omega)
  have w18 : IntKind.i64.wrap (3 * Zdb c + upM (2 * Zdb c * (c.rate + c.drift)) + 1) = Zap7 c := by unfold Zap7 upM; exact i64_in (by omega) (by omega)
  have b0 : ∀ a b d : Int, Zny ES.P Zag [(0, .int .i64 a), (2, .int .i64 b), (6, .int .i64 d)] = some (.agg [.int .i64 a, .int .i64 0, .int .i64 b, .int .i64 0, .int .i64 0, .int .i64 0, .int .i64 d]) := fun a b d => by simp [Zny, placesOf, Zeb, splice]
  have hsl : upM (c.drift * c.cycle) = Zos c := rfl
  simp [Zpj, Zf, Zd, Ze, Zl, Zn, Zo, TK.agg, Zb, zeroS, Zi, Zg, splice, Zx, Z5, Zk, Z7, Zacy, u1, u2, u3, w1, w2, w3, w4, w5, w6, w7, w8, w9, w10, w11, w12, w13, w14, w15, w16, w17, w18, b0, hsl, Nat.add_assoc]
theorem Z57 (c : Cfg) : Zcw 1 [inB c.cycle 1000 1000000, inB c.drift 0 500, inB c.rate 0 400000, inB c.ages 1 200, inB c.lost 0 20] = Z1s c := by
  unfold Z1s inB
  by_cases h1 : c.cycle < 1000 ∨ 1000000 < c.cycle
  · rw [if_pos h1]; simp [Zcw]; omega
  rw [if_neg h1]
  by_cases h2 : c.drift < 0 ∨ 500 < c.drift
  · rw [if_pos h2, Zcw, if_pos (by simp; omega)]; simp [Zcw]; omega
  rw [if_neg h2]
  by_cases h3 : c.rate < 0 ∨ 400000 < c.rate
  · rw [if_pos h3, Zcw, if_pos (by simp; omega), Zcw, if_pos (by simp; omega)]; simp [Zcw]; omega
  rw [if_neg h3]
  by_cases h4 : c.ages < 1 ∨ 200 < c.ages
  · rw [if_pos h4, Zcw, if_pos (by simp; omega), Zcw, if_pos (by simp; omega), Zcw, if_pos (by simp; omega)]; simp [Zcw]; omega
  rw [if_neg h4]
  by_cases h5 : c.lost < 0 ∨ 20 < c.lost
  · rw [if_pos h5, Zcw, if_pos (by simp; omega), Zcw, if_pos (by simp; omega), Zcw, if_pos (by simp; omega), Zcw, if_pos (by simp; omega)]; simp [Zcw]; omega
  rw [if_neg h5, Zcw, if_pos (by simp; omega), Zcw, if_pos (by simp; omega), Zcw, if_pos (by simp; omega), Zcw, if_pos (by simp; omega)]
  simp [Zcw]
  omega
theorem Zy4 (get) {P L : SV} {c : Cfg} (hP : Zi2 c P L) : Za0 (PCw ES) get Za8 [.agg (Z7 c P L)] = some (.int .i64 (Z1s c)) := by
  refine Z4 (Za4 (fun M0 => ?_) rfl) (by simp [hP.npA])
  rw [Z1g]
  have hf := fun (get : Nat → Option (List SV)) (id : Nat) (h : get id = some [.bool (inB c.cycle 1000 1000000), .bool (inB c.drift 0 500), .bool (inB c.rate 0 400000), .bool (inB c.ages 1 200), .bool (inB c.lost 0 20)]) =>
    Zg3 [inB c.cycle 1000 1000000, inB c.drift 0 500, inB c.rate 0 400000, inB c.ages 1 200, inB c.lost 0 20] (get := get) (id := id) h (by simp) 1 (by decide)
  rw [Z57] at hf
  simp only [List.length_cons, List.length_nil] at hf
  simp [Zpo, Zf, Zd, Ze, Zl, Zn, Zo, TK.agg, Zb, zeroS, Zi, Zg, splice, Zx, Z5, Zk, Z7, hf, Zf7, Zb4]
def Zo0 (c : Cfg) : Int := c.ages + 1

end Go.Proofs.YtfphjfbknphhjaaGreatDoor

/-
  Walks of the seat's functions: Bg.
-/
set_option linter.unusedVariables false
set_option linter.unusedSimpArgs false
set_option maxRecDepth 100000
namespace Go.Proofs.YtfphjfbknphhjaaGreatDoor
open Go.Proofs.YtfphjfbknphhjaaGreatDoor.Sh
/-! bounds: whether the numbers fit. -/
def Zaii (c : Cfg) : Option Nat := (List.range c.parts.length).find? (Zlr c)
theorem Z0w (c : Cfg) : Zku c = (Zaii c).isSome := by
  unfold Zku Zaii
  rw [Bool.eq_iff_iff, List.any_eq_true, List.find?_isSome]
theorem Zgp {c : Cfg} (h : Zcq c = true) : 1 ≤ c.parts.length ∧ c.parts.length ≤ 6 ∧ c.links.length ≤ 10 := by
  have h1 := Zi1 (Ze5 (by simpa [Zcq] using h))
  have h2 := Zrz h1.1
  exact ⟨h2.1, h2.2.1, (Zk3 h1.2).1⟩
theorem Zk2 {c : Cfg} {p : Nat} (h : p < c.parts.length) : Zbx c p = c.parts[p].nodes := by simp [Zbx, h]
theorem Zao2 {P L : SV} {c : Cfg} (hP : Zi2 c P L) (hr : Zcq c = true) (part : Int) :
    ∃ y l', (∀ get, Za0 (PCw ES) get Zch [.agg (Z7 c P L), .int .i64 part] = some y) ∧ Zsl y l' ∧ l'.length = Zbj c.links part := by
  have he : Zcn c = none := Ze5 (by simpa [Zcq] using hr)
  have hok := Ztu he part
  have hn := Zks he part
  have h12 := Zaao hok hn.1 hn.2
  have hl := (Zk3 (Zi1 he).2).1
  obtain ⟨y, l', h1, h2, h3, h4, h5⟩ := Zarl hP part hl h12 (fun p hp => by
    have := (hok.ends (Nat.le_refl _)).2 p hp
    unfold Zam at this
    omega)
  refine ⟨y, l', h1, h2, ?_⟩
  rw [h3.length_eq]
  have := Zzj (part := part) hok.ab c.links.length (Nat.le_refl _)
  rw [List.take_length] at this
  exact this
/-- Numbers of slots that are not too great. -/
structure Z7c (c : Cfg) : Prop where
  w : 0 ≤ c.window ∧ c.window ≤ 20000
  s : 0 ≤ c.slot ∧ c.slot ≤ 1000000
  l : 0 ≤ c.lead ∧ c.lead ≤ 1000000
theorem Z4z {c : Cfg} (h : Z7c c) (hr : Zcq c = true) (i : Nat) : 0 ≤ 3 * (Zbj c.links i : Int) + Zbx c i ∧ 3 * (Zbj c.links i : Int) + Zbx c i ≤ 72 ∧
    0 ≤ (3 * (Zbj c.links i : Int) + Zbx c i) * c.slot ∧ (3 * (Zbj c.links i : Int) + Zbx c i) * c.slot ≤ 72000000 := by
  have h1 := Zn8 c.links i
  have h2 := Zgp hr
  have h3 := Zks (Ze5 (by simpa [Zcq] using hr)) i
  have h4 : 0 ≤ 3 * (Zbj c.links i : Int) + Zbx c i ∧ 3 * (Zbj c.links i : Int) + Zbx c i ≤ 72 := by omega
  obtain ⟨s1, s2⟩ := h.s
  refine ⟨h4.1, h4.2, Int.mul_nonneg h4.1 s1, ?_⟩
  have := Int.mul_le_mul h4.2 s2 s1 (by omega)
  omega
set_option maxHeartbeats 4000000 in
theorem Z28 (get) {P L : SV} {c : Cfg} (hP : Zi2 c P L) (hr : Zcq c = true) (hs : Z7c c) : Za0 (PCw ES) get Zfd [.agg (Z7 c P L)] = some (.bool (!Zku c)) := by
  refine Z4 (Za4 (fun M0 => ?_) rfl) (by simp [hP.npA])
  rw [Z2k, Z0w]
  have hlenp := hP.p.Zex Za1
  have hf := Zgp hr
  have body : ∀ (j : Nat) (M : Mem) (hj : j < c.parts.length), M.blk M0.next = some [.agg (Z7 c P L)] → M0.next < M.next →
      evW ES Zfd Zgn ⟨Zcy (.ptr M0.next 0 0) P (.int .i64 c.parts.length) (.int .i64 j), M⟩ =
        some (if Zlr c j then (.ret, ⟨(Zcy .Z .Z .Z .Z).set 2 (.bool false), (M.bump 6).set (M.next + 3) (some [Zc9 c.parts[j]])⟩)
          else (.normal, ⟨Zcy (.ptr M0.next 0 0) P (.int .i64 c.parts.length) (.int .i64 ((j + 1 : Nat) : Int)), (M.bump 6).set (M.next + 3) (some [Zc9 c.parts[j]])⟩)) := by
    intro j M hj hb hlt
    have hb0 := hb
    have ha := Parts.at hP.p hj
    obtain ⟨y, l', k1, k2, k3⟩ := Zao2 hP hr j
    have hleny := k2.Zex Zh1
    rw [k3] at hleny
    simp only [Z7] at hb0 k1
    have hns : ∀ k, (M0.next = M.next + k) = False := fun k => by simp; omega
    have hw : IntKind.i64.wrap ((j : Int) + 1) = (j : Int) + 1 := i64_in (by omega) (by omega)
    obtain ⟨q1, q2, q3, q4⟩ := Z4z hs hr j
    obtain ⟨v1, v2⟩ := hs.w
    obtain ⟨l1, l2⟩ := hs.l
    have hpn := Zn8 c.links j
    have hsb : Zlr c j = decide (c.cycle < c.lead + (3 * (Zbj c.links j : Int) + Zbx c j) * c.slot + c.window) := rfl
    rw [Zk2 hj] at q1 q2 q3 q4 hsb
    have w1 : IntKind.i64.wrap (3 * (Zbj c.links j : Int)) = 3 * (Zbj c.links j : Int) := i64_in (by omega) (by omega)
    have w2 : IntKind.i64.wrap (3 * (Zbj c.links j : Int) + c.parts[j].nodes) = 3 * (Zbj c.links j : Int) + c.parts[j].nodes := i64_in (by omega) (by omega)
    have w3 : IntKind.i64.wrap ((3 * (Zbj c.links j : Int) + c.parts[j].nodes) * c.slot) = (3 * (Zbj c.links j : Int) + c.parts[j].nodes) * c.slot := i64_in (by omega) (by omega)
    generalize hX : (3 * (Zbj c.links j : Int) + c.parts[j].nodes) * c.slot = X at *
    have w4 : IntKind.i64.wrap (c.lead + X) = c.lead + X := i64_in (by omega) (by omega)
    have w5 : IntKind.i64.wrap (c.lead + X + c.window) = c.lead + X + c.window := i64_in (by omega) (by omega)
    by_cases h : c.cycle < c.lead + X + c.window
    · rw [hsb]
      simp [Zgn, Zf, Zd, Ze, Zl, Zn, Zo, TK.agg, Zb, zeroS, Zi, Zg, splice, Zx, Z5, Zk, Zcy, hj, ha, hb0, hns, k1, hleny, w1, w2, w3, hX, w4, w5, h, Nat.add_assoc]
    · rw [hsb]
      simp [Zgn, Zf, Zd, Ze, Zl, Zn, Zo, TK.agg, Zb, zeroS, Zi, Zg, splice, Zx, Z5, Zk, Zcy, hj, ha, hb0, hns, k1, hleny, w1, w2, w3, hX, w4, w5, h, hw, Nat.add_assoc]
  obtain ⟨r, g1, M', g2⟩ := Zdc (E := ES) (me := Zfd) (B := Zgn) (len := c.parts.length) (T := fun j => Zcy (.ptr M0.next 0 0) P (.int .i64 c.parts.length) (.int .i64 j))
    (I := fun _ M => M.blk M0.next = some [.agg (Z7 c P L)] ∧ M0.next < M.next) (p := Zlr c)
    (Q := fun o r => ∃ M', r = match o with
      | some _ => (.ret, ⟨(Zcy .Z .Z .Z .Z).set 2 (.bool false), M'⟩)
      | none => (.exit 0, ⟨(Zcy (.ptr M0.next 0 0) P (.int .i64 c.parts.length) (.int .i64 c.parts.length)).set 9 (.bool false), M'⟩))
    (fun j M hj ⟨i1, i2⟩ hp => by
      have := body j M hj i1 i2
      rw [hp] at this
      have hns : ¬ (M0.next = M.next + 3) := by omega
      exact ⟨_, this, by simp [hns, i1], by simp; omega⟩)
    (fun j M hj ⟨i1, i2⟩ hp => by
      have := body j M hj i1 i2
      rw [hp] at this
      exact ⟨_, this, by simp, _, rfl⟩)
    (fun M _ => ⟨_, by simp [Zgn, Zf, Zd, Ze, Zl, Zn, Zo, TK.agg, Zb, zeroS, Zi, Zg, splice, Zx, Z5, Zk, Zcy], by simp, M, rfl⟩) ((M0.bump 2).set M0.next (some [.agg (Z7 c P L)])) ⟨by simp, by simp⟩
  have ea : (List.range c.parts.length).find? (Zlr c) = Zaii c := rfl
  rw [ea] at g2
  simp only [Z7] at g1
  cases hf : Zaii c with
  | none =>
    rw [hf] at g2
    subst g2
    simp [Zcy] at g1
    simp [Zn3, Zf, Zd, Ze, Zl, Zn, Zo, TK.agg, Zb, zeroS, Zi, Zg, splice, Zx, Z5, Zk, Z7, hlenp, Znw, g1]
  | some j =>
    rw [hf] at g2
    subst g2
    simp [Zcy] at g1
    simp [Zn3, Zf, Zd, Ze, Zl, Zn, Zo, TK.agg, Zb, zeroS, Zi, Zg, splice, Zx, Z5, Zk, Z7, hlenp, Znw, g1]
theorem Zai1 (c : Cfg) : Zfe c = if inB c.window (3 * Zdb c) 20000 = false then 6 else if Zcw 7 [inB c.slot (2 * c.window + 1) 1000000, inB c.lead c.window 1000000] ≠ 0 then Zcw 7 [inB c.slot (2 * c.window + 1) 1000000, inB c.lead c.window 1000000]
    else Zcw 9 [!Zku c, decide (Zp3 c * 1000000 ≤ c.rate * c.cycle)] := by
  unfold Zfe
  by_cases h1 : c.window < 3 * Zdb c ∨ 20000 < c.window
  · have e1 : inB c.window (3 * Zdb c) 20000 = false := by simp [inB]; omega
    rw [if_pos h1, e1]
    rfl
  have e1 : inB c.window (3 * Zdb c) 20000 = true := by simp [inB]; omega
  rw [if_neg h1, e1]
  simp only [Bool.true_eq_false, if_false]
  by_cases h2 : c.slot < 2 * c.window + 1 ∨ 1000000 < c.slot
  · have e : inB c.slot (2 * c.window + 1) 1000000 = false := by simp [inB]; omega
    rw [if_pos h2, e]
    simp [Zcw]
  have e2 : inB c.slot (2 * c.window + 1) 1000000 = true := by simp [inB]; omega
  rw [if_neg h2, e2]
  by_cases h3 : c.lead < c.window ∨ 1000000 < c.lead
  · have e : inB c.lead c.window 1000000 = false := by simp [inB]; omega
    rw [if_pos h3, e]
    simp [Zcw]
  have e3 : inB c.lead c.window 1000000 = true := by simp [inB]; omega
  rw [if_neg h3, e3]
  cases h4 : Zku c with
  | true => simp [Zcw]
  | false =>
    by_cases h5 : c.rate * c.cycle < Zp3 c * 1000000
    · have : ¬ (Zp3 c * 1000000 ≤ c.rate * c.cycle) := by omega
      simp [Zcw, h5, this]
    · have : Zp3 c * 1000000 ≤ c.rate * c.cycle := by omega
      simp [Zcw, h5, this]
theorem Zau6 {c : Cfg} (h : Zgz c) : 0 ≤ c.rate * c.cycle ∧ c.rate * c.cycle ≤ 400000000000 := by
  obtain ⟨a1, a2⟩ := h.cy
  obtain ⟨b1, b2⟩ := h.ra
  refine ⟨Int.mul_nonneg b1 (by omega), ?_⟩
  have := Int.mul_le_mul b2 a2 (by omega) (by omega)
  omega
set_option maxHeartbeats 4000000 in
theorem Zx2 (get) {P L : SV} {c : Cfg} (hP : Zi2 c P L) (hr : Zcq c = true) (hin : Zgz c) : Za0 (PCw ES) get Zau [.agg (Z7 c P L)] = some (.int .i64 (Zfe c)) := by
  refine Z4 (Za4 (fun M0 => ?_) rfl) (by simp [hP.npA])
  rw [Zx7, Zai1]
  have h1 := fun get => Zsp get hP hin
  have hn := hin.nums
  have he := hn.e
  have hj := hn.j
  have hrc := Zau6 hin
  have w1 : IntKind.i64.wrap (2 * Zdb c + Zdb c) = 3 * Zdb c := by rw [i64_in (by omega) (by omega)]; omega
  have f1 := fun (get : Nat → Option (List SV)) (id : Nat) (h : get id = some [.bool (inB c.window (3 * Zdb c) 20000)]) => Zg3 [inB c.window (3 * Zdb c) 20000] (get := get) (id := id) h (by simp) 6 (by decide)
  simp only [List.length_cons, List.length_nil] at f1
  have g0 : ∀ a : SV, (SV.agg (Zacy c)).cells.length = 7 := fun _ => rfl
  simp only [Z7] at h1
  cases hb1 : inB c.window (3 * Zdb c) 20000 with
  | false =>
    rw [hb1] at f1
    simp [Zcw] at f1
    simp [Zi9, Zf, Zd, Ze, Zl, Zn, Zo, TK.agg, Zb, zeroS, Zi, Zg, splice, Zx, Z5, Zk, Z7, h1, Zacy, w1, hb1, f1, Zf7, Zb4, Nat.add_assoc]
  | true =>
    rw [hb1] at f1
    simp [Zcw] at f1
    have hwin : 3 * Zdb c ≤ c.window ∧ c.window ≤ 20000 := by simpa [inB] using hb1
    have w2 : IntKind.i64.wrap (2 * c.window) = 2 * c.window := i64_in (by omega) (by omega)
    have w3 : IntKind.i64.wrap (2 * c.window + 1) = 2 * c.window + 1 := i64_in (by omega) (by omega)
    have f2 := fun (get : Nat → Option (List SV)) (id : Nat) (h : get id = some [.bool (inB c.slot (2 * c.window + 1) 1000000), .bool (inB c.lead c.window 1000000)]) =>
      Zg3 [inB c.slot (2 * c.window + 1) 1000000, inB c.lead c.window 1000000] (get := get) (id := id) h (by simp) 7 (by decide)
    simp only [List.length_cons, List.length_nil] at f2
    by_cases hf2 : Zcw 7 [inB c.slot (2 * c.window + 1) 1000000, inB c.lead c.window 1000000] = 0
    · have hs : Z7c c := by
        have h4 : inB c.slot (2 * c.window + 1) 1000000 = true ∧ inB c.lead c.window 1000000 = true := by
          revert hf2
          cases inB c.slot (2 * c.window + 1) 1000000 <;> cases inB c.lead c.window 1000000 <;> simp [Zcw]
        obtain ⟨h4, h5⟩ := h4
        simp only [inB, decide_eq_true_eq] at h4 h5
        exact ⟨by omega, by omega, by omega⟩
      have h2 := fun get => Z28 get hP hr hs
      simp only [Z7] at h2
      have w4 : IntKind.i64.wrap (c.rate * c.cycle) = c.rate * c.cycle := i64_in (by omega) (by omega)
      have w5 : IntKind.i64.wrap (Zp3 c * 1000000) = Zp3 c * 1000000 := by unfold Zp3; exact i64_in (by omega) (by omega)
      have f3 := fun (get : Nat → Option (List SV)) (id : Nat) (h : get id = some [.bool (!Zku c), .bool (decide (Zp3 c * 1000000 ≤ c.rate * c.cycle))]) =>
        Zg3 [!Zku c, decide (Zp3 c * 1000000 ≤ c.rate * c.cycle)] (get := get) (id := id) h (by simp) 9 (by decide)
      simp only [List.length_cons, List.length_nil] at f3
      rw [hf2] at f2
      simp [Zi9, Zf, Zd, Ze, Zl, Zn, Zo, TK.agg, Zb, zeroS, Zi, Zg, splice, Zx, Z5, Zk, Z7, h1, h2, Zacy, w1, w2, w3, w4, w5, hb1, f1, f2, f3, hf2, Zf7, Zb4, Nat.add_assoc]
    · generalize Zcw 7 [inB c.slot (2 * c.window + 1) 1000000, inB c.lead c.window 1000000] = v at *
      simp [Zi9, Zf, Zd, Ze, Zl, Zn, Zo, TK.agg, Zb, zeroS, Zi, Zg, splice, Zx, Z5, Zk, Z7, h1, Zacy, w1, w2, w3, hb1, f1, f2, hf2, Zf7, Zb4, Nat.add_assoc]
theorem Zapz (c : Cfg) : Zte c = if Zcw 11 [decide ((c.parts.length - 1) * (c.lost + 1) + 1 ≤ c.ages), inB c.listen (Zew c) 60000, inB c.span (Zew c) 60000] ≠ 0
    then Zcw 11 [decide ((c.parts.length - 1) * (c.lost + 1) + 1 ≤ c.ages), inB c.listen (Zew c) 60000, inB c.span (Zew c) 60000]
    else Zcw 14 [decide (c.listen + c.parts.length * c.span ≤ 60000), inB c.room (c.parts.length + 2) 64] := by
  unfold Zte
  by_cases h1 : c.ages < (c.parts.length - 1) * (c.lost + 1) + 1
  · have e : decide ((c.parts.length - 1) * (c.lost + 1) + 1 ≤ c.ages) = false := by simp; omega
    rw [if_pos h1, e]
    simp [Zcw]
  have e1 : decide ((c.parts.length - 1) * (c.lost + 1) + 1 ≤ c.ages) = true := by simp; omega
  rw [if_neg h1, e1]
  by_cases h2 : c.listen < Zew c ∨ 60000 < c.listen
  · have e : inB c.listen (Zew c) 60000 = false := by simp [inB]; omega
    rw [if_pos h2, e]
    simp [Zcw]
  have e2 : inB c.listen (Zew c) 60000 = true := by simp [inB]; omega
  rw [if_neg h2, e2]
  by_cases h3 : c.span < Zew c ∨ 60000 < c.span
  · have e : inB c.span (Zew c) 60000 = false := by simp [inB]; omega
    rw [if_pos h3, e]
    simp [Zcw]
  have e3 : inB c.span (Zew c) 60000 = true := by simp [inB]; omega
  rw [if_neg h3, e3]
  by_cases h4 : 60000 < c.listen + c.parts.length * c.span
  · have e : decide (c.listen + c.parts.length * c.span ≤ 60000) = false := by simp; omega
    rw [if_pos h4, e]
    simp [Zcw]
  have e4 : decide (c.listen + c.parts.length * c.span ≤ 60000) = true := by simp; omega
  rw [if_neg h4, e4]
  by_cases h5 : c.room < c.parts.length + 2 ∨ 64 < c.room
  · have e : inB c.room (c.parts.length + 2) 64 = false := by simp [inB]; omega
    rw [if_pos h5, e]
    simp [Zcw]
  have e5 : inB c.room (c.parts.length + 2) 64 = true := by simp [inB]; omega
  rw [if_neg h5, e5]
  simp [Zcw]
set_option maxHeartbeats 4000000 in
theorem Z3p (get) {P L : SV} {c : Cfg} (hP : Zi2 c P L) (hr : Zcq c = true) (hin : Zgz c) : Za0 (PCw ES) get Zbe [.agg (Z7 c P L)] = some (.int .i64 (Zte c)) := by
  refine Z4 (Za4 (fun M0 => ?_) rfl) (by simp [hP.npA])
  rw [Z20, Zapz]
  have hlenp := hP.p.Zex Za1
  have hf := Zgp hr
  have hlo := hin.lo
  obtain ⟨k, hk⟩ : ∃ k : Nat, c.lost = k := ⟨c.lost.toNat, by omega⟩
  have hm1 : (c.parts.length : Int) * (c.lost + 1) = ((c.parts.length * (k + 1) : Nat) : Int) := by rw [hk]; push_cast; rfl
  have hm2 : ((c.parts.length : Int) - 1) * (c.lost + 1) = (((c.parts.length - 1) * (k + 1) : Nat) : Int) := by rw [hk]; push_cast; rw [Int.natCast_sub hf.1]; rfl
  have b1 : c.parts.length * (k + 1) ≤ 6 * 21 := Nat.mul_le_mul hf.2.1 (by omega)
  have b2 : (c.parts.length - 1) * (k + 1) ≤ 5 * 21 := Nat.mul_le_mul (by omega) (by omega)
  have w1 : IntKind.i64.wrap (c.lost + 1) = c.lost + 1 := i64_in (by omega) (by omega)
  have w2 : IntKind.i64.wrap (c.parts.length * (c.lost + 1)) = c.parts.length * (c.lost + 1) := i64_in (by omega) (by omega)
  have w3 : IntKind.i64.wrap (c.parts.length * (c.lost + 1) + 2) = Zew c := i64_in (by omega) (by omega)
  have w4 : IntKind.i64.wrap ((c.parts.length : Int) - 1) = (c.parts.length : Int) - 1 := i64_in (by omega) (by omega)
  have w5 : IntKind.i64.wrap (((c.parts.length : Int) - 1) * (c.lost + 1)) = ((c.parts.length : Int) - 1) * (c.lost + 1) := i64_in (by omega) (by omega)
  have w6 : IntKind.i64.wrap (((c.parts.length : Int) - 1) * (c.lost + 1) + 1) = ((c.parts.length : Int) - 1) * (c.lost + 1) + 1 := i64_in (by omega) (by omega)
  have w7 : IntKind.i64.wrap ((c.parts.length : Int) + 2) = (c.parts.length : Int) + 2 := i64_in (by omega) (by omega)
  have hle : 0 ≤ Zew c := by unfold Zew; omega
  generalize hA : ((c.parts.length : Int) - 1) * (c.lost + 1) + 1 = A at *
  have f1 := fun (get : Nat → Option (List SV)) (id : Nat) (h : get id = some [.bool (decide (A ≤ c.ages)), .bool (inB c.listen (Zew c) 60000), .bool (inB c.span (Zew c) 60000)]) =>
    Zg3 [decide (A ≤ c.ages), inB c.listen (Zew c) 60000, inB c.span (Zew c) 60000] (get := get) (id := id) h (by simp) 11 (by decide)
  simp only [List.length_cons, List.length_nil] at f1
  by_cases hf1 : Zcw 11 [decide (A ≤ c.ages), inB c.listen (Zew c) 60000, inB c.span (Zew c) 60000] = 0
  · have h4 : inB c.listen (Zew c) 60000 = true ∧ inB c.span (Zew c) 60000 = true := by
      revert hf1
      cases decide (A ≤ c.ages) <;> cases inB c.listen (Zew c) 60000 <;> cases inB c.span (Zew c) 60000 <;> simp [Zcw]
    obtain ⟨h4, h5⟩ := h4
    simp only [inB, decide_eq_true_eq] at h4 h5
    have hm3 : 0 ≤ (c.parts.length : Int) * c.span ∧ (c.parts.length : Int) * c.span ≤ 6 * 60000 := by
      refine ⟨Int.mul_nonneg (by omega) (by omega), Int.mul_le_mul (by omega) (by omega) (by omega) (by omega)⟩
    have w8 : IntKind.i64.wrap ((c.parts.length : Int) * c.span) = (c.parts.length : Int) * c.span := i64_in (by omega) (by omega)
    have w9 : IntKind.i64.wrap (c.listen + (c.parts.length : Int) * c.span) = c.listen + (c.parts.length : Int) * c.span := i64_in (by omega) (by omega)
    have f3 := fun (get : Nat → Option (List SV)) (id : Nat) (h : get id = some [.bool (decide (c.listen + c.parts.length * c.span ≤ 60000)), .bool (inB c.room (c.parts.length + 2) 64)]) =>
      Zg3 [decide (c.listen + c.parts.length * c.span ≤ 60000), inB c.room (c.parts.length + 2) 64] (get := get) (id := id) h (by simp) 14 (by decide)
    simp only [List.length_cons, List.length_nil] at f3
    rw [hf1] at f1
    simp [Zn0, Zf, Zd, Ze, Zl, Zn, Zo, TK.agg, Zb, zeroS, Zi, Zg, splice, Zx, Z5, Zk, Z7, hlenp, w1, w2, w3, w4, w5, w6, w7, w8, w9, hA, f1, f3, hf1, Zf7, Zb4, Nat.add_assoc]
  · generalize Zcw 11 [decide (A ≤ c.ages), inB c.listen (Zew c) 60000, inB c.span (Zew c) 60000] = v at *
    simp [Zn0, Zf, Zd, Ze, Zl, Zn, Zo, TK.agg, Zb, zeroS, Zi, Zg, splice, Zx, Z5, Zk, Z7, hlenp, w1, w2, w3, w4, w5, w6, w7, hA, f1, hf1, Zf7, Zb4, Nat.add_assoc]

end Go.Proofs.YtfphjfbknphhjaaGreatDoor
