/-
  Walks of the seat's functions: Eq.
-/
import Derived.Test.YtfphjfbknphhjaaGreatDoorEb2
import Derived.Test.YtfphjfbknphhjaaGreatDoorShMb
import Derived.Test.YtfphjfbknphhjaaGreatDoorLzMd
import Derived.Test.YtfphjfbknphhjaaGreatDoorLCk
import Derived.Test.YtfphjfbknphhjaaGreatDoorLRe
set_option linter.unusedVariables false
set_option linter.unusedSimpArgs false
set_option maxRecDepth 100000
namespace Go.Proofs.YtfphjfbknphhjaaGreatDoor
open Go.Proofs.YtfphjfbknphhjaaGreatDoor.Sh
/-! A right network's ports. -/
theorem Ze5 {c : Cfg} (h : (Zem c).1 = 0) : Zcn c = none := by
  unfold Zem at h
  cases he : Zcn c with
  | none => rfl
  | some ei =>
    obtain ⟨e, a⟩ := ei
    have := Zt4 he
    rw [he] at h
    simp at h
    omega
theorem Zi1 {c : Cfg} (h : Zcn c = none) : Zfu c = none ∧ Zhf c = none := by
  unfold Zcn at h
  split at h
  · cases h
  rename_i h1
  split at h
  · cases h
  rename_i h2
  exact ⟨h1, h2⟩
theorem Zxe {c : Cfg} {i : Nat} {part p0 p1 : Int} (h : endBad c i part p0 p1 = false) : p0 ≠ p1 ∧ Zam p0 (Zbx c part) ∧ Zam p1 (Zbx c part) ∧ Zn7 (c.links.take i) part p0 = false ∧ Zn7 (c.links.take i) part p1 = false := by
  simp [endBad, Zfl] at h
  obtain ⟨⟨h1, h2, h3⟩, h4, h5⟩ := h
  exact ⟨h1, h2, h4, h3, h5⟩
theorem Ztu {c : Cfg} (h : Zcn c = none) (part : Int) : Zov c.links part (Zbx c part) := by
  obtain ⟨_, h2⟩ := Zi1 h
  have hz := (Zk3 h2).2
  refine ⟨fun l hl => ?_, fun j hj e => ?_, fun j hj e => ?_⟩
  · obtain ⟨j, hj, rfl⟩ := List.mem_iff_getElem.1 hl
    exact (Zwc (Zqn (hz j hj)).1).2.2
  · have := Zxe (Zqn (hz j hj)).2.2.1
    rw [e] at this
    exact this
  · have := Zxe (Zqn (hz j hj)).2.2.2
    rw [e] at this
    exact this
theorem Zks {c : Cfg} (h : Zcn c = none) (part : Int) : 0 ≤ Zbx c part ∧ Zbx c part ≤ 12 := by
  obtain ⟨h1, _⟩ := Zi1 h
  have hp := (Zrz h1).2.2
  unfold Zbx
  cases hq : c.parts[part.toNat]? with
  | none => simp
  | some p =>
    have := hp p (List.mem_of_getElem? hq)
    simp [Znt] at this
    simp
    omega
theorem Zaao {ls : List Link} {part nodes : Int} (h : Zov ls part nodes) (h0 : 0 ≤ nodes) (hn : nodes ≤ 12) : (Zq3 ls part).length ≤ 12 := by
  obtain ⟨w1, w2⟩ := h.ends (Nat.le_refl _)
  have hnd : ((Zq3 ls part).map fun p => p.node.toNat).Nodup := by
    rw [List.nodup_iff_pairwise_ne, List.pairwise_map]
    refine (List.Pairwise.and_mem.1 w1).imp fun {p q} hh => ?_
    obtain ⟨hp, hq, hne⟩ := hh
    have := w2 p hp
    have := w2 q hq
    unfold Zam at *
    omega
  have hsub : ((Zq3 ls part).map fun p => p.node.toNat) ⊆ List.range 12 := by
    intro x hx
    obtain ⟨p, hp, rfl⟩ := List.mem_map.1 hx
    have := w2 p hp
    unfold Zam at this
    simp
    omega
  have := hnd.length_le_of_subset hsub
  simpa using this

end Go.Proofs.YtfphjfbknphhjaaGreatDoor

/-
  Walks of the seat's functions: Rg.
-/
set_option linter.unusedVariables false
set_option linter.unusedSimpArgs false
set_option maxRecDepth 100000
namespace Go.Proofs.YtfphjfbknphhjaaGreatDoor
open Go.Proofs.YtfphjfbknphhjaaGreatDoor.Sh
/-! plan.Right, ref Good. -/
def Zcq (c : Cfg) : Bool := (Zem c).1 == 0
theorem Zamd (get) {P L : SV} {c : Cfg} (hP : Zi2 c P L) (part : Int) : Za0 (PCw ES) get Zoe [.agg (Z7 c P L), .int .i64 part] = some (.bool (Zcq c && decide (Zam part c.parts.length))) := by
  refine Z4 (Za4 (fun M0 => ?_) rfl) (by simp [hP.npA])
  rw [Zalo]
  have h1 := fun get => Z4e get hP
  have hlenp := hP.p.Zex Za1
  simp only [Z7] at h1
  by_cases h : (Zem c).1 = 0 <;> simp [Zz0, Zf, Zd, Ze, Zl, Zn, Zo, TK.agg, Zb, zeroS, Zi, Zg, splice, Zx, Z5, Zk, Z7, h1, hlenp, Zcq, h]
/-- What plan.Zsl answers. -/
def Zabg (c : Cfg) (part : Int) : List Port := if Zcq c && decide (Zam part c.parts.length) then Zvh c.links part (Zbx c part) else []
theorem Zajf {P L : SV} {c : Cfg} (hP : Zi2 c P L) (hr : Zcq c = true) (part : Int) :
    ∃ y, (∀ get, Za0 (PCw ES) get Zch [.agg (Z7 c P L), .int .i64 part] = some y) ∧ Zsl y (Zvh c.links part (Zbx c part)) ∧ Sh.pv y = true := by
  have he : Zcn c = none := Ze5 (by simpa [Zcq] using hr)
  have hok := Ztu he part
  have hn := Zks he part
  have h12 := Zaao hok hn.1 hn.2
  have hl := (Zk3 (Zi1 he).2).1
  obtain ⟨y, l', h1, h2, h3, h4, h5⟩ := Zarl hP part hl h12 (fun p hp => by
    have := (hok.ends (Nat.le_refl _)).2 p hp
    unfold Zam at this
    omega)
  rw [hok.sorted h3 h4] at h2
  exact ⟨y, h1, h2, h5⟩
end Go.Proofs.YtfphjfbknphhjaaGreatDoor

/-
  Walks of the seat's functions: Bd.
-/
set_option linter.unusedVariables false
set_option linter.unusedSimpArgs false
set_option maxRecDepth 100000
namespace Go.Proofs.YtfphjfbknphhjaaGreatDoor
open Go.Proofs.YtfphjfbknphhjaaGreatDoor.Sh
/-! The document's bounds: what is in range, Edge. -/
def upM (n : Int) : Int := (n + 999999) / 1000000
theorem Zauo {n : Int} (h : 0 ≤ n) : n.tdiv 1000000 = n / 1000000 := Int.tdiv_eq_ediv_of_nonneg h
theorem Zavo {n : Int} (h : 0 ≤ n) : n.tmod 1000000 = n % 1000000 := Int.tmod_eq_emod_of_nonneg h
theorem Zak6 (get) {n : Int} (h0 : 0 ≤ n) (h1 : n ≤ 9000000000000000000) : Za0 (PCw ES) get Zrk [.int .i64 n, .int .i64 1000000] = some (.tup [.int .i64 (upM n), .bool true]) := by
  refine Z4 (Za4 (fun M0 => ?_) rfl) (by simp)
  rw [Zanc]
  have hd := Zauo h0
  have hm := Zavo h0
  have hw : IntKind.i64.wrap (n / 1000000) = n / 1000000 := i64_in (by omega) (by omega)
  have hw1 : IntKind.i64.wrap (n / 1000000 + 1) = n / 1000000 + 1 := i64_in (by omega) (by omega)
  by_cases h : 0 < n % 1000000
  · have e : upM n = n / 1000000 + 1 := by unfold upM; omega
    simp [Zvn, Zf, Zd, Ze, Zl, Zn, Zo, TK.agg, Zb, zeroS, Zi, Zg, splice, Zx, Z5, Zk, hd, hm, hw, hw1, h, e]
  · have e : upM n = n / 1000000 := by unfold upM; omega
    simp [Zvn, Zf, Zd, Ze, Zl, Zn, Zo, TK.agg, Zb, zeroS, Zi, Zg, splice, Zx, Z5, Zk, hd, hm, hw, h, e]
theorem Zalf (get) {n : Int} (h0 : 0 ≤ n) (h1 : n ≤ 9000000000000000000) : Za0 (PCw ES) get Zsb [.int .i64 n] = some (.int .i64 (upM n)) := by
  refine Z4 (Za4 (fun M0 => ?_) rfl) (by simp)
  rw [Zas5]
  have h := fun get => Zak6 get h0 h1
  simp [Zadx, Zf, Zd, Ze, Zl, Zn, Zo, TK.agg, Zb, zeroS, Zi, Zg, splice, Zx, Z5, Zk, h]
/-- The first number that is out of range; 0: none. -/
def Z1s (c : Cfg) : Int :=
  if c.cycle < 1000 ∨ 1000000 < c.cycle then 1 else if c.drift < 0 ∨ 500 < c.drift then 2 else if c.rate < 0 ∨ 400000 < c.rate then 3 else if c.ages < 1 ∨ 200 < c.ages then 4 else if c.lost < 0 ∨ 20 < c.lost then 5 else 0
set_option maxHeartbeats 4000000 in
theorem Zagn (get) {P L : SV} {c : Cfg} (hP : Zi2 c P L) : Za0 (PCw ES) get Zqt [.agg (Z7 c P L)] = some (.int .i64 (Z1s c)) := by
  refine Z4 (Za4 (fun M0 => ?_) rfl) (by simp [hP.npA])
  rw [Zap9]
  unfold Z1s
  by_cases h1 : c.cycle < 1000
  · simp [Zk6, Zf, Zd, Ze, Zl, Zn, Zo, TK.agg, Zb, zeroS, Zi, Zg, splice, Zx, Z5, Zk, Z7, h1]
  by_cases h2 : 1000000 < c.cycle
  · simp [Zk6, Zf, Zd, Ze, Zl, Zn, Zo, TK.agg, Zb, zeroS, Zi, Zg, splice, Zx, Z5, Zk, Z7, h1, h2]
  by_cases h3 : c.drift < 0
  · simp [Zk6, Zf, Zd, Ze, Zl, Zn, Zo, TK.agg, Zb, zeroS, Zi, Zg, splice, Zx, Z5, Zk, Z7, h1, h2, h3]
  by_cases h4 : 500 < c.drift
  · simp [Zk6, Zf, Zd, Ze, Zl, Zn, Zo, TK.agg, Zb, zeroS, Zi, Zg, splice, Zx, Z5, Zk, Z7, h1, h2, h3, h4]
  by_cases h5 : c.rate < 0
  · simp [Zk6, Zf, Zd, Ze, Zl, Zn, Zo, TK.agg, Zb, zeroS, Zi, Zg, splice, Zx, Z5, Zk, Z7, h1, h2, h3, h4, h5]
  by_cases h6 : 400000 < c.rate
  · simp [Zk6, Zf, Zd, Ze, Zl, Zn, Zo, TK.agg, Zb, zeroS, Zi, Zg, splice, Zx, Z5, Zk, Z7, h1, h2, h3, h4, h5, h6]
  by_cases h7 : c.ages < 1
  · simp [Zk6, Zf, Zd, Ze, Zl, Zn, Zo, TK.agg, Zb, zeroS, Zi, Zg, splice, Zx, Z5, Zk, Z7, h1, h2, h3, h4, h5, h6, h7]
  by_cases h8 : 200 < c.ages
  · simp [Zk6, Zf, Zd, Ze, Zl, Zn, Zo, TK.agg, Zb, zeroS, Zi, Zg, splice, Zx, Z5, Zk, Z7, h1, h2, h3, h4, h5, h6, h7, h8]
  by_cases h9 : c.lost < 0
  · simp [Zk6, Zf, Zd, Ze, Zl, Zn, Zo, TK.agg, Zb, zeroS, Zi, Zg, splice, Zx, Z5, Zk, Z7, h1, h2, h3, h4, h5, h6, h7, h8, h9]
  by_cases h10 : 20 < c.lost
  · simp [Zk6, Zf, Zd, Ze, Zl, Zn, Zo, TK.agg, Zb, zeroS, Zi, Zg, splice, Zx, Z5, Zk, Z7, h1, h2, h3, h4, h5, h6, h7, h8, h9, h10]
  simp [Zk6, Zf, Zd, Ze, Zl, Zn, Zo, TK.agg, Zb, zeroS, Zi, Zg, splice, Zx, Z5, Zk, Z7, h1, h2, h3, h4, h5, h6, h7, h8, h9, h10]
def Zf3 (c : Cfg) : Bool := Zcq c && decide (Z1s c = 0)
def Zdb (c : Cfg) : Int := upM (2 * c.drift * c.cycle) + 1
def Zul (c : Cfg) : Int := if Zf3 c then Zdb c else 0
theorem Z9s {c : Cfg} (h : Zcq c = true) : Zam 0 c.parts.length := by
  have h1 := Zi1 (Ze5 (by simpa [Zcq] using h))
  have h2 := h1.1
  unfold Zfu at h2
  split at h2
  · cases h2
  · unfold Zam; omega
structure Zgz (c : Cfg) : Prop where
  cy : 1000 ≤ c.cycle ∧ c.cycle ≤ 1000000
  dr : 0 ≤ c.drift ∧ c.drift ≤ 500
  ra : 0 ≤ c.rate ∧ c.rate ≤ 400000
  ag : 1 ≤ c.ages ∧ c.ages ≤ 200
  lo : 0 ≤ c.lost ∧ c.lost ≤ 20
theorem Zg7 {c : Cfg} (h : Z1s c = 0) : Zgz c := by
  unfold Z1s at h
  split at h
  · omega
  split at h
  · omega
  split at h
  · omega
  split at h
  · omega
  split at h
  · omega
  exact ⟨by omega, by omega, by omega, by omega, by omega⟩
theorem Zgz.dc {c : Cfg} (h : Zgz c) : 0 ≤ c.drift * c.cycle ∧ c.drift * c.cycle ≤ 500000000 := by
  obtain ⟨a1, a2⟩ := h.cy
  obtain ⟨b1, b2⟩ := h.dr
  constructor
  · exact Int.mul_nonneg b1 (by omega)
  · have := Int.mul_le_mul b2 a2 (by omega) (by omega)
    omega
theorem Zgz.dc2 {c : Cfg} (h : Zgz c) : 0 ≤ 2 * c.drift * c.cycle ∧ 2 * c.drift * c.cycle ≤ 1000000000 := by
  have := h.dc
  rw [Int.mul_assoc]
  omega
theorem Zzr (get) {P L : SV} {c : Cfg} (hP : Zi2 c P L) : Za0 (PCw ES) get Zhz [.agg (Z7 c P L)] = some (.bool (Zf3 c)) := by
  refine Z4 (Za4 (fun M0 => ?_) rfl) (by simp [hP.npA])
  rw [Zac2]
  have h1 := fun get => Zamd get hP 0
  have h2 := fun get => Zagn get hP
  simp only [Z7] at h1 h2
  unfold Zf3
  cases hr : Zcq c with
  | false =>
    rw [hr] at h1
    simp [Zru, Zf, Zd, Ze, Zl, Zn, Zo, TK.agg, Zb, zeroS, Zi, Zg, splice, Zx, Z5, Zk, Z7, h1, h2]
  | true =>
    have h3 := Z9s hr
    rw [hr] at h1
    simp [Zru, Zf, Zd, Ze, Zl, Zn, Zo, TK.agg, Zb, zeroS, Zi, Zg, splice, Zx, Z5, Zk, Z7, h1, h2, h3]
theorem Zvt (get) {P L : SV} {c : Cfg} (hP : Zi2 c P L) (h : Zgz c) : Za0 (PCw ES) get Zib [.agg (Z7 c P L)] = some (.int .i64 (Zdb c)) := by
  refine Z4 (Za4 (fun M0 => ?_) rfl) (by simp [hP.npA])
  rw [Zakv]
  have h2 := h.dc2
  have hu := fun get => Zalf get h2.1 (by omega)
  have hd := h.dr
  have hw : IntKind.i64.wrap (2 * c.drift) = 2 * c.drift := i64_in (by omega) (by omega)
  have hw2 : IntKind.i64.wrap (2 * c.drift * c.cycle) = 2 * c.drift * c.cycle := i64_in (by omega) (by omega)
  have hw3 : IntKind.i64.wrap (upM (2 * c.drift * c.cycle) + 1) = upM (2 * c.drift * c.cycle) + 1 := by unfold upM; exact i64_in (by omega) (by omega)
  simp [Z0j, Zf, Zd, Ze, Zl, Zn, Zo, TK.agg, Zb, zeroS, Zi, Zg, splice, Zx, Z5, Zk, Z7, hw, hw2, hw3, hu, Zdb]
theorem Zano (get) {P L : SV} {c : Cfg} (hP : Zi2 c P L) : Za0 (PCw ES) get Zm8 [.agg (Z7 c P L)] = some (.int .i64 (Zul c)) := by
  refine Z4 (Za4 (fun M0 => ?_) rfl) (by simp [hP.npA])
  rw [Zalw]
  have h1 := fun get => Zzr get hP
  simp only [Z7] at h1
  unfold Zul
  cases hr : Zf3 c with
  | false =>
    rw [hr] at h1
    simp [Zvr, Zf, Zd, Ze, Zl, Zn, Zo, TK.agg, Zb, zeroS, Zi, Zg, splice, Zx, Z5, Zk, Z7, h1]
  | true =>
    rw [hr] at h1
    have hin : Zgz c := Zg7 (by simp [Zf3] at hr; exact hr.2)
    have h2 := fun get => Zvt get hP hin
    simp only [Z7] at h2
    simp [Zvr, Zf, Zd, Ze, Zl, Zn, Zo, TK.agg, Zb, zeroS, Zi, Zg, splice, Zx, Z5, Zk, Z7, h1, h2]

end Go.Proofs.YtfphjfbknphhjaaGreatDoor
