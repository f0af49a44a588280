/-
  Walks of the seat's functions: Bi.
-/
import Derived.Test.YtfphjfbknphhjaaGreatDoorEb2
import Derived.Test.YtfphjfbknphhjaaGreatDoorShMb
import Derived.Test.YtfphjfbknphhjaaGreatDoorLBh
import Derived.Test.YtfphjfbknphhjaaGreatDoorLzMj
import Derived.Test.YtfphjfbknphhjaaGreatDoorLzMk
import Derived.Test.YtfphjfbknphhjaaGreatDoorLzMl
import Derived.Test.YtfphjfbknphhjaaGreatDoorLzMa
import Derived.Test.YtfphjfbknphhjaaGreatDoorLzMm
import Derived.Test.YtfphjfbknphhjaaGreatDoorLzMf
import Derived.Test.YtfphjfbknphhjaaGreatDoorLzMh
import Derived.Test.YtfphjfbknphhjaaGreatDoorLzMe
import Derived.Test.YtfphjfbknphhjaaGreatDoorLWg
set_option linter.unusedVariables false
set_option linter.unusedSimpArgs false
set_option maxRecDepth 100000
namespace Go.Proofs.YtfphjfbknphhjaaGreatDoor
open Go.Proofs.YtfphjfbknphhjaaGreatDoor.Sh
/-! The document's bounds. -/
theorem Zamv (get) {P L : SV} {c : Cfg} (hP : Zi2 c P L) (h : Zgz c) : Za0 (PCw ES) get Zpw [.agg (Z7 c P L)] = some (.int .i64 (Zos c)) := by
  refine Z4 (Za4 (fun M0 => ?_) rfl) (by simp [hP.npA])
  rw [Zamg]
  have h1 := h.dc
  have hu := fun get => Zalf get h1.1 (by omega)
  have hw : IntKind.i64.wrap (c.drift * c.cycle) = c.drift * c.cycle := i64_in (by omega) (by omega)
  simp [Zy1, Zf, Zd, Ze, Zl, Zn, Zo, TK.agg, Zb, zeroS, Zi, Zg, splice, Zx, Z5, Zk, Z7, hw, hu, Zos]
theorem Zal5 (get) {P L : SV} {c : Cfg} (hP : Zi2 c P L) (h : Zgz c) : Za0 (PCw ES) get Zof [.agg (Z7 c P L)] = some (.int .i64 (Zow c)) := by
  refine Z4 (Za4 (fun M0 => ?_) rfl) (by simp [hP.npA])
  rw [Zanu]
  have hn := h.nums
  have he := hn.e
  have hs := hn.s
  have h1 := fun get => Zvt get hP h
  have h2 := fun get => Zamv get hP h
  simp only [Z7] at h1 h2
  have w1 : IntKind.i64.wrap (4 * Zdb c) = 4 * Zdb c := i64_in (by omega) (by omega)
  have w2 : IntKind.i64.wrap (2 * Zos c) = 2 * Zos c := i64_in (by omega) (by omega)
  have w3 : IntKind.i64.wrap (4 * Zdb c + 2 * Zos c) = 4 * Zdb c + 2 * Zos c := i64_in (by omega) (by omega)
  have w4 : IntKind.i64.wrap (4 * Zdb c + 2 * Zos c + 2) = 4 * Zdb c + 2 * Zos c + 2 := i64_in (by omega) (by omega)
  simp [Z0k, Zf, Zd, Ze, Zl, Zn, Zo, TK.agg, Zb, zeroS, Zi, Zg, splice, Zx, Z5, Zk, Z7, h1, h2, w1, w2, w3, w4, Zow]
theorem Zam8 (get) {P L : SV} {c : Cfg} (hP : Zi2 c P L) (h : Zgz c) : Za0 (PCw ES) get Zoc [.agg (Z7 c P L)] = some (.int .i64 (Zp3 c)) := by
  refine Z4 (Za4 (fun M0 => ?_) rfl) (by simp [hP.npA])
  rw [Zan1]
  have hn := h.nums
  have he := hn.e
  have hj := hn.j
  have hag := h.ag
  have h1 := fun get => Zvt get hP h
  have h2 := fun get => Zal5 get hP h
  simp only [Z7] at h1 h2
  have w0 : IntKind.i64.wrap (2 * c.ages) = 2 * c.ages := i64_in (by omega) (by omega)
  have w1 : IntKind.i64.wrap (4 * Zdb c) = 4 * Zdb c := i64_in (by omega) (by omega)
  have w2 : IntKind.i64.wrap (2 * c.ages * Zow c) = 2 * c.ages * Zow c := i64_in (by omega) (by omega)
  have w3 : IntKind.i64.wrap (2 * c.ages * Zow c + 4 * Zdb c) = 2 * c.ages * Zow c + 4 * Zdb c := i64_in (by omega) (by omega)
  simp [Z0u, Zf, Zd, Ze, Zl, Zn, Zo, TK.agg, Zb, zeroS, Zi, Zg, splice, Zx, Z5, Zk, Z7, h1, h2, w0, w1, w2, w3, Zp3]
theorem Z82 (get) {P L : SV} {c : Cfg} (hP : Zi2 c P L) : Za0 (PCw ES) get Zld [.agg (Z7 c P L)] = some (.int .i64 (if Zf3 c then Zo0 c else 0)) := by
  refine Z4 (Za4 (fun M0 => ?_) rfl) (by simp [hP.npA])
  rw [Zak8]
  have h1 := fun get => Zzr get hP
  simp only [Z7] at h1
  unfold Zo0
  cases hr : Zf3 c with
  | false =>
    rw [hr] at h1
    simp [Zvl, Zf, Zd, Ze, Zl, Zn, Zo, TK.agg, Zb, zeroS, Zi, Zg, splice, Zx, Z5, Zk, Z7, h1]
  | true =>
    rw [hr] at h1
    have hin : Zgz c := Zg7 (by simp [Zf3] at hr; exact hr.2)
    have hag := hin.ag
    have w : IntKind.i64.wrap (c.ages + 1) = c.ages + 1 := i64_in (by omega) (by omega)
    simp [Zvl, Zf, Zd, Ze, Zl, Zn, Zo, TK.agg, Zb, zeroS, Zi, Zg, splice, Zx, Z5, Zk, Z7, h1, w]
set_option maxHeartbeats 4000000 in
theorem Zacr {P L : SV} {c : Cfg} (hP : Zi2 c P L) (hl : c.links.length ≤ 1000000) (part : Int) : PCw ES Zmc [.agg (Z7 c P L), .int .i64 part] = some (.int .i64 (Zbj c.links part)) := by
  refine Za4 (fun M0 => ?_) rfl
  rw [Zahp]
  have hlen := hP.l.Zex Zbi
  obtain ⟨r, g1, M', g2⟩ := Zke (E := ES) (me := Zmc) (B := Zk0) (len := c.links.length) (T := fun j => Zkh (.int .i64 part) (.ptr M0.next 0 0) (.int .i64 (Zbj (c.links.take j) part)) (.int .i64 j))
    (I := fun _ M => M.blk M0.next = some [.agg (Z7 c P L)] ∧ M0.next < M.next)
    (Q := fun r => ∃ M', r = (.exit 0, ⟨(Zkh (.int .i64 part) (.ptr M0.next 0 0) (.int .i64 (Zbj (c.links.take c.links.length) part)) (.int .i64 c.links.length)).set 11 (.bool false), M'⟩))
    (fun j M hj ⟨hb, hlt⟩ => by
      left
      have ha := Links.at hP.l hj
      have hw : IntKind.i64.wrap ((j : Int) + 1) = (j : Int) + 1 := i64_in (by omega) (by omega)
      have hb0 := hb
      simp only [Z7] at hb0
      have hpn := Zn8 (c.links.take j) part
      have hpn2 : (c.links.take j).length ≤ 1000000 := by simp; omega
      have hw2 : IntKind.i64.wrap ((Zbj (c.links.take j) part : Int) + 2) = (Zbj (c.links.take j) part : Int) + 2 := i64_in (by omega) (by omega)
      refine ⟨M, ?_, hb, hlt⟩
      rw [Zur hj]
      generalize Zbj (c.links.take j) part = q at hw2 ⊢
      by_cases h1 : c.links[j].a = part
      · simp [Zk0, Zf, Zd, Ze, Zl, Zn, Zo, TK.agg, Zb, zeroS, Zi, Zg, splice, Zx, Z5, Zk, Zkh, hlen, hj, ha, hb0, h1, hw, hw2]
      · by_cases h2 : c.links[j].b = part
        · simp [Zk0, Zf, Zd, Ze, Zl, Zn, Zo, TK.agg, Zb, zeroS, Zi, Zg, splice, Zx, Z5, Zk, Zkh, hlen, hj, ha, hb0, h1, h2, hw, hw2]
        · simp [Zk0, Zf, Zd, Ze, Zl, Zn, Zo, TK.agg, Zb, zeroS, Zi, Zg, splice, Zx, Z5, Zk, Zkh, hlen, hj, ha, hb0, h1, h2, hw])
    (fun M ⟨hb, hlt⟩ => by
      have hb0 := hb
      simp only [Z7] at hb0
      exact ⟨_, by simp [Zk0, Zf, Zd, Ze, Zl, Zn, Zo, TK.agg, Zb, zeroS, Zi, Zg, splice, Zx, Z5, Zk, Zkh, hlen, hb0], by simp, M, rfl⟩) 0 ((M0.bump 2).set M0.next (some [.agg (Z7 c P L)])) (by omega) (by simp)
  subst g2
  rw [List.take_length] at g1
  have z0 : Zbj (c.links.take 0) part = 0 := rfl
  rw [z0] at g1
  simp [Zkh, Z7] at g1
  simp [Zwx, Zf, Zd, Ze, Zl, Zn, Zo, TK.agg, Zb, zeroS, Zi, Zg, splice, Zx, Z5, Zk, Z7, Zu8, g1]
theorem Zai8 (get) {P L : SV} {c : Cfg} (hP : Zi2 c P L) (hl : c.links.length ≤ 1000000) (part : Int) : Za0 (PCw ES) get Zmc [.agg (Z7 c P L), .int .i64 part] = some (.int .i64 (Zbj c.links part)) := Z4 (Zacr hP hl part) (by simp [hP.npA])

end Go.Proofs.YtfphjfbknphhjaaGreatDoor

/-
  Walks of the seat's functions: Oa.
-/
set_option linter.unusedVariables false
set_option linter.unusedSimpArgs false
set_option maxRecDepth 100000
namespace Go.Proofs.YtfphjfbknphhjaaGreatDoor
open Go.Proofs.YtfphjfbknphhjaaGreatDoor.Sh
/-! Cells: what ports know of their other sides. -/
structure Node where
  state : Int
  wait : Int
  drift : Int
  start : Int
  cycle : Int
  ages : List Int
  mask : Int
  Z : Int
structure Cel where
  nodes : List Node
  on : Bool
  start : Int
  ages : List Int
def ndC (n : Node) (A : SV) : List SV := [.int .i64 n.state, .int .i64 n.wait, .int .i64 n.drift, .int .i64 n.start, .int .i64 n.cycle, A, .int .i64 n.mask, .int .i64 n.Z]
def NdR (y : SV) (n : Node) : Prop := ∃ A, y = .agg (ndC n A) ∧ Ints A n.ages ∧ Sh.pv A = true
def Nds (x : SV) (l : List Node) : Prop := RSl NdR x l
def clC (x : Cel) (N A : SV) : List SV := [N, .bool x.on, .int .i64 x.start, A]
def ClR (y : SV) (x : Cel) : Prop := ∃ N A, y = .agg (clC x N A) ∧ Nds N x.nodes ∧ Ints A x.ages ∧ Sh.pv N = true ∧ Sh.pv A = true
def Zv7 (x : SV) (l : List Cel) : Prop := RSl ClR x l
theorem Zt3 {n : Node} {A : SV} (h : Sh.pv A = true) : Sh.pv (.agg (ndC n A)) = true := by simp [Sh.pv, pvs, ndC, h]
theorem clPv {x : Cel} {N A : SV} (h1 : Sh.pv N = true) (h2 : Sh.pv A = true) : Sh.pv (.agg (clC x N A)) = true := by simp [Sh.pv, pvs, clC, h1, h2]
theorem Zty : Elm NdR ⟨.struct [(Zc, 0), (Zc, 1), (Zc, 2), (Zp, 3), (Zp, 4), (Zv, 5), (Zc, 6), (Zc, 7)], 8, 80, some (.agg [.int .i64 0, .int .i64 0, .int .i64 0, .int .i64 0, .int .i64 0, .nilsl, .int .i64 0, .int .i64 0])⟩ :=
  ⟨fun ⟨A, h, _⟩ => by rw [h]; rfl, fun ⟨A, h, _⟩ => by rw [h]; rfl, fun ⟨A, h, _, hA⟩ => by rw [h]; exact Zac (Zt3 hA) 10, fun ⟨A, h, _⟩ => by rw [h]; rfl⟩
theorem Zwy : Elm ClR ⟨.struct [(Zj, 0), (Zan, 1)], 4, 64, some (.agg [.nilsl, .bool false, .int .i64 0, .nilsl])⟩ :=
  ⟨fun ⟨N, A, h, _⟩ => by rw [h]; rfl, fun ⟨N, A, h, _⟩ => by rw [h]; rfl, fun ⟨N, A, h, _, _, h1, h2⟩ => by rw [h]; exact Zac (clPv h1 h2) 10, fun ⟨N, A, h, _⟩ => by rw [h]; rfl⟩
def Zd5 (p0 p1 g : Int) : Int := if g = 0 then p0 else p1
/-- Each end's gateways are nodes that there are. -/
theorem Zwl {c : Cfg} (h : Zcq c = true) {j : Nat} (hj : j < c.links.length) : Zam c.links[j].a c.parts.length ∧ Zam c.links[j].b c.parts.length ∧ Zam c.links[j].pa0 (Zbx c c.links[j].a) ∧ Zam c.links[j].pa1 (Zbx c c.links[j].a) ∧ Zam c.links[j].pb0 (Zbx c c.links[j].b) ∧ Zam c.links[j].pb1 (Zbx c c.links[j].b) := by
  have he : Zcn c = none := Ze5 (by simpa [Zcq] using h)
  obtain ⟨h1, h2, h3⟩ := Z30 h hj
  have oa := (Ztu he c.links[j].a).ends (Nat.le_refl _)
  have ob := (Ztu he c.links[j].b).ends (Nat.le_refl _)
  have hlt := hj
  have ma : ∀ q ∈ Zco c.links[j].a j c.links[j], Zam q.node (Zbx c c.links[j].a) := fun q hq => oa.2 q (Zs6.2 ⟨j, hj, hj, hq⟩)
  have mb : ∀ q ∈ Zco c.links[j].b j c.links[j], Zam q.node (Zbx c c.links[j].b) := fun q hq => ob.2 q (Zs6.2 ⟨j, hj, hj, hq⟩)
  refine ⟨h1, h2, ma ⟨c.links[j].pa0, j, 0, 0⟩ ?_, ma ⟨c.links[j].pa1, j, 1, 0⟩ ?_, mb ⟨c.links[j].pb0, j, 0, 1⟩ ?_, mb ⟨c.links[j].pb1, j, 1, 1⟩ ?_⟩ <;> simp [Zco, Zfx, endOf]
end Go.Proofs.YtfphjfbknphhjaaGreatDoor

/-
  Walks of the seat's functions: Ha.
-/
set_option linter.unusedVariables false
set_option linter.unusedSimpArgs false
set_option maxRecDepth 100000
namespace Go.Proofs.YtfphjfbknphhjaaGreatDoor
open Go.Proofs.YtfphjfbknphhjaaGreatDoor.Sh
/-! How far parts are: hops.Dist, hops.Width, and the document's own. -/
theorem ints_at {x : SV} {l : List Int} (h : Ints x l) {j : Nat} (hj : j < l.length) : Z9 ES.P Zv x (.int .i64 j) = some (.rptr (l.map (SV.int .i64)) j 0 (Zwi x)) := RSl.at h Zb3 Zes (fun _ => rfl) hj
theorem mx2 (a b : Int) : mmS true [.int .i64 a, .int .i64 b] = some (.int .i64 (max a b)) := by
  simp only [mmS, mmGo, if_true]
  congr 2
  split <;> omega

end Go.Proofs.YtfphjfbknphhjaaGreatDoor

/-
  Walks of the seat's functions: Oc.
-/
set_option linter.unusedVariables false
set_option linter.unusedSimpArgs false
set_option maxRecDepth 100000
namespace Go.Proofs.YtfphjfbknphhjaaGreatDoor
open Go.Proofs.YtfphjfbknphhjaaGreatDoor.Sh
/-! Other sides of ports: port.Fars, the document's Fars. -/
structure FarV where
  on : Bool
  start : Int
  cycle : Int
  ages : List Int
def FrR (y : SV) (f : FarV) : Prop := ∃ A, y = .agg [.bool f.on, .int .i64 f.start, .int .i64 f.cycle, A] ∧ Ints A f.ages ∧ Sh.pv A = true
def FarsR (x : SV) (l : List FarV) : Prop := RSl FrR x l
theorem FarsR.snoc {items : List SV} {l : List FarV} {tl : Tl} (h : RSl FrR (.sl items tl) l) {y : SV} {f : FarV} (hy : FrR y f) : RSl FrR (.sl (items ++ [y]) tl) (l ++ [f]) := by
  have hlen : items.length = l.length := h.len
  refine ⟨rfl, by show (items ++ [y]).length = _; simp [hlen], fun j u a hu ha => ?_⟩
  have hu' : (items ++ [y])[j]? = some u := hu
  by_cases hj : j < items.length
  · rw [List.getElem?_append_left hj] at hu'
    rw [List.getElem?_append_left (by omega)] at ha
    exact h.at' j u a hu' ha
  · have hj2 : j < (items ++ [y]).length := (List.getElem?_eq_some_iff.1 hu').1
    obtain rfl : j = items.length := by simp at hj2; omega
    rw [List.getElem?_append_right (Nat.le_refl _)] at hu'
    rw [hlen, List.getElem?_append_right (Nat.le_refl _)] at ha
    simp at hu' ha
    rw [← hu', ← ha]
    exact hy
theorem Zawb (l : List Int) : ∀ y ∈ Zzg l, Sh.pv y = true := fun y hy => by
  simp only [Zzg, List.mem_map] at hy
  obtain ⟨v, _, rfl⟩ := hy
  rfl
end Go.Proofs.YtfphjfbknphhjaaGreatDoor

/-
  Walks of the seat's functions: Bl.
-/
set_option linter.unusedVariables false
set_option linter.unusedSimpArgs false
set_option maxRecDepth 100000
namespace Go.Proofs.YtfphjfbknphhjaaGreatDoor
open Go.Proofs.YtfphjfbknphhjaaGreatDoor.Sh
/-! A made network fits. -/
theorem Zsz (n : Int) : ∃ m : Nat, (Zck n).cycle = 20000 + 1000 * ((m / 16 % 8 : Nat) : Int) ∧ (Zck n).drift = 20 * ((m / 128 % 8 : Nat) : Int) ∧ (Zck n).rate = 300000 ∧ (Zck n).lost = ((m / 1024 % 2 : Nat) : Int) ∧ (Zck n).lead = 60 ∧ (Zck n).slot = 100 ∧ (Zck n).room = 12 ∧
    (Zck n).parts.length = Zaw m ∧ (Zck n).ages = (((Zaw m - 1) * (m / 1024 % 2 + 1) + 1 + m / 2048 % 4 : Nat) : Int) ∧ (Zck n).listen = ((Zsm m + m / 8192 % 2 : Nat) : Int) ∧ (Zck n).span = (Zsm m : Int) ∧ (Zck n).window = 3 * Zul (Z8m m) ∧ Zul (Zck n) = Zul (Z8m m) := by
  have h := Zyt (mOf n) (3 * Zul (Z8m (mOf n))) .nilsl .nilsl
  have h' : Z7 (Zck n) .nilsl .nilsl = _ := h
  simp only [Z7, List.cons.injEq, and_true, true_and, SV.int.injEq] at h'
  obtain ⟨h1, h2, h3, h4, h5, h6, h7, h8, h9, h10, h11⟩ := h'
  refine ⟨mOf n, ?_, ?_, h6, h8, h2, h3, h11, Zph (mOf n), h7, h9, h10, h4, ?_⟩
  · rw [h1]; omega
  · rw [h5]; omega
  · have e : Zf3 (Zck n) = Zf3 (Z8m (mOf n)) := by
      unfold Zf3 Zcq Z1s
      rw [Z1e (c := Zck n) (d := Z8m (mOf n)) rfl rfl]
      rfl
    unfold Zul
    rw [e]
    rfl
theorem Zw5 (n : Int) : Z1s (Zck n) = 0 := by
  obtain ⟨m, h1, h2, h3, h4, h5, h6, h7, h8, h9, _⟩ := Zsz n
  have hn := Zki m
  have hq2 : (Zaw m - 1) * (m / 1024 % 2 + 1) ≤ 3 * 2 := Nat.mul_le_mul (by omega) (by omega)
  unfold Z1s
  rw [if_neg (by omega), if_neg (by omega), if_neg (by omega), if_neg (by omega), if_neg (by omega)]
theorem Zadi (n : Int) : Zf3 (Zck n) = true := by simp [Zf3, Zwu, Zw5]
theorem Zaju (n : Int) : 0 ≤ (Zck n).drift * (Zck n).cycle ∧ (Zck n).drift * (Zck n).cycle ≤ 3780000 := by
  obtain ⟨m, h1, h2, _⟩ := Zsz n
  constructor
  · exact Int.mul_nonneg (by omega) (by omega)
  · have := Int.mul_le_mul (show (Zck n).drift ≤ 140 by omega) (show (Zck n).cycle ≤ 27000 by omega) (by omega) (by omega)
    omega
theorem Z85 (n : Int) : 1 ≤ Zdb (Zck n) ∧ Zdb (Zck n) ≤ 9 ∧ Zos (Zck n) ≤ 4 ∧ 0 ≤ Zos (Zck n) := by
  have h := Zaju n
  have e : 2 * (Zck n).drift * (Zck n).cycle = 2 * ((Zck n).drift * (Zck n).cycle) := by rw [Int.mul_assoc]
  unfold Zdb Zos upM
  rw [e]
  omega
theorem Zadv (n : Int) : (Zck n).window = 3 * Zdb (Zck n) := by
  obtain ⟨m, _, _, _, _, _, _, _, _, _, _, _, h12, h13⟩ := Zsz n
  rw [h12, ← h13]
  unfold Zul
  rw [Zadi n]
  rfl
theorem Zam4 (n : Int) : 0 ≤ Zp3 (Zck n) ∧ Zp3 (Zck n) ≤ 1000 := by
  obtain ⟨m, _, _, _, _, _, _, _, _, h9, _⟩ := Zsz n
  have hn := Zki m
  have hq2 : (Zaw m - 1) * (m / 1024 % 2 + 1) ≤ 3 * 2 := Nat.mul_le_mul (by omega) (by omega)
  obtain ⟨e1, e2, e3, e4⟩ := Z85 n
  have hs : 0 ≤ Zow (Zck n) ∧ Zow (Zck n) ≤ 46 := by unfold Zow; omega
  have ha : 1 ≤ (Zck n).ages ∧ (Zck n).ages ≤ 10 := by omega
  have h1 := Int.mul_nonneg (show 0 ≤ 2 * (Zck n).ages by omega) hs.1
  have h2 := Int.mul_le_mul (show 2 * (Zck n).ages ≤ 20 by omega) hs.2 hs.1 (by omega)
  unfold Zp3
  omega
theorem Zaff (n : Int) : Zsf (Zck n) = true := by
  refine Zec.2 ⟨Zwu n, Zw5 n, ?_⟩
  obtain ⟨m, h1, h2, h3, h4, h5, h6, h7, h8, h9, h10, h11, h12, h13⟩ := Zsz n
  have hn := Zki m
  have hw := Zadv n
  obtain ⟨e1, e2, e3, e4⟩ := Z85 n
  have hj := Zam4 n
  have hr := Zwu n
  have hf := Zgp hr
  have hany : Zku (Zck n) = false := by
    unfold Zku
    rw [List.any_eq_false]
    intro i hi
    have hk := Zks (Ze5 (by simpa [Zcq] using hr)) i
    have hp := Zn8 (Zck n).links i
    unfold Zlr Z5i
    rw [h5, h6, h1, hw]
    simp only [decide_eq_true_eq]
    omega
  have hrc : 6000000000 ≤ (Zck n).rate * (Zck n).cycle := by
    rw [h3]
    omega
  have hwin : Zfe (Zck n) = 0 := by
    unfold Zfe
    rw [if_neg (by omega), if_neg (by omega), if_neg (by omega), hany, if_neg (by simp), if_neg (by omega)]
  have hcalm : Zew (Zck n) = (Zsm m : Int) := by
    unfold Zew Zsm
    rw [h4, h8]
    push_cast
    rfl
  have hq : Zaw m * (m / 1024 % 2 + 1) ≤ 4 * 2 := Nat.mul_le_mul hn.2 (by omega)
  have hc10 : Zsm m ≤ 10 := by unfold Zsm; omega
  have hages : ¬ ((Zck n).ages < (((Zck n).parts.length : Int) - 1) * ((Zck n).lost + 1) + 1) := by
    rw [h9, h8, h4]
    have e : ((Zaw m : Int) - 1) * (((m / 1024 % 2 : Nat) : Int) + 1) = (((Zaw m - 1) * (m / 1024 % 2 + 1) : Nat) : Int) := by
      push_cast
      rw [Int.natCast_sub hn.1]
      rfl
    rw [e]
    omega
  have hps : ((Zck n).parts.length : Int) * (Zck n).span ≤ 4 * 10 := by
    rw [h8, h11]
    exact Int.mul_le_mul (by omega) (by omega) (by omega) (by omega)
  have hwait : Zte (Zck n) = 0 := by
    unfold Zte
    rw [if_neg hages, hcalm, if_neg (by omega), if_neg (by omega), if_neg (by omega), if_neg (by omega)]
  unfold Zng
  rw [hwin]
  exact hwait

end Go.Proofs.YtfphjfbknphhjaaGreatDoor
