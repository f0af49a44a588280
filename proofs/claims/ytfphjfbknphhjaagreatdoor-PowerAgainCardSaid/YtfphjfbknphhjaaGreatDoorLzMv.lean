/-
  Walks of the seat's functions: Td.
-/
import Derived.Test.YtfphjfbknphhjaaGreatDoorEb2
import Derived.Test.YtfphjfbknphhjaaGreatDoorShMb
import Derived.Test.YtfphjfbknphhjaaGreatDoorLzMu
import Derived.Test.YtfphjfbknphhjaaGreatDoorLzMo
import Derived.Test.YtfphjfbknphhjaaGreatDoorLzMa
import Derived.Test.YtfphjfbknphhjaaGreatDoorLzMt
set_option linter.unusedVariables false
set_option linter.unusedSimpArgs false
set_option maxRecDepth 100000
namespace Go.Proofs.YtfphjfbknphhjaaGreatDoor
open Go.Proofs.YtfphjfbknphhjaaGreatDoor.Sh
/-! table.Of and what is built on it. -/
theorem Z4s {c : Cfg} {P L : SV} (h : Sh.pv (.agg (Z7 c P L)) = true) : Sh.pv P = true ∧ Sh.pv L = true := by
  simp only [Sh.pv, Z7, pvs, Bool.and_eq_true] at h
  exact ⟨h.1, h.2.1⟩
theorem Zavt {E : Env} {get : Nat → Option (List SV)} {f : Nat} {xs : List SV} {v : SV} (h : Za0 (PCw E) get f xs = some v) : Sh.pv v = true := by
  unfold Za0 at h
  split at h
  case h_2 => cases h
  unfold PCw Zzd at h
  split at h
  case h_2 => cases h
  split at h
  case h_2 => cases h
  split at h
  case isFalse => cases h
  rename_i hp
  simp only [Option.some.injEq] at h
  exact h ▸ hp
/-- A part's view, told cell by cell. -/
def Zuh (c : Cfg) (P L : SV) (part : Int) (S Q : SV) : List SV :=
  [P, L, .int .i64 c.cycle, .int .i64 c.lead, .int .i64 c.slot, .int .i64 c.window, .int .i64 c.drift, .int .i64 c.rate, .int .i64 c.ages, .int .i64 c.lost, .int .i64 c.listen, .int .i64 c.span, .int .i64 c.room, .int .i64 part, S, Q,
   .int .i64 (Zdb c), .int .i64 (2 * Zdb c), .int .i64 (Zos c), .int .i64 (Zow c), .int .i64 (Zp3 c), .int .i64 (Zap7 c), .int .i64 (c.ages + 1)]
set_option maxHeartbeats 4000000 in
theorem Zaaq {P L : SV} {c : Cfg} (hP : Zi2 c P L) {p : Nat} (hp : p < c.parts.length) (h1 : 0 ≤ c.lead ∧ c.lead ≤ 1000000) (h2 : 0 ≤ c.slot ∧ c.slot ≤ 1000000) {y : SV} {ps : List Port} (hy : Zsl y ps) (hps : ps.length ≤ 100) {K : Nat} (hK : c.parts[p].nodes = (K : Int)) (hK2 : K ≤ 100) :
    ∃ z, (∀ get, Za0 (PCw ES) get Zc1 [.agg (Z7 c P L), .int .i64 p, y] = some z) ∧ Slots z (stamp c.lead c.slot (Zaa7 ps K)) ∧ Sh.pv z = true := by
  obtain ⟨z, a1, a2, a3⟩ := Z5n hP hp h1 h2 hy hps hK hK2
  exact ⟨z, fun get => Z4 a1 (by simp [hP.npA, hy.Z2q]), a2, a3⟩
set_option maxHeartbeats 4000000 in
theorem Zaam {P L : SV} {c : Cfg} (hP : Zi2 c P L) (hpv : Sh.pv (.agg (Z7 c P L)) = true) {part : Int} (h : Zaee c part = true) :
    ∃ S Q, (∀ get, Za0 (PCw ES) get Zif [.agg (Z7 c P L), .int .i64 part] = some (.tup [.agg (Zuh c P L part S Q), .bool true])) ∧ Slots S (Zaws c part) ∧ Zsl Q (Zvh c.links part (Zbx c part)) ∧ Sh.pv S = true ∧ Sh.pv Q = true := by
  obtain ⟨f1, f2, f3, f4⟩ := Zaez h
  have hf : (Zsj c).1 = 0 := by
    simp only [Zaee, Bool.and_eq_true] at h
    simpa [Zsf] using h.1
  obtain ⟨t1, t2, t3, _⟩ := tabOk f2 f4
  obtain ⟨p, rfl⟩ : ∃ p : Nat, part = p := ⟨part.toNat, by unfold Zam at f3; omega⟩
  have hp : p < c.parts.length := by unfold Zam at f3; omega
  have hn : Zbx c p = c.parts[p].nodes := Zk2 hp
  have hnb := Zks (Ze5 (by simpa [Zcq] using f1)) p
  obtain ⟨y, e1, e2, e3⟩ := Zajf hP f1 p
  have hlp := Zahb c.links p (Zbx c p)
  have hK : c.parts[p].nodes = ((Zbx c p).toNat : Int) := by omega
  obtain ⟨z, l1, l2, l3⟩ := Zaaq hP hp (by omega) (by omega) e2 (by omega) hK (by omega)
  refine ⟨z, y, fun get => Z4 (Za4 (fun M0 => ?_) ?_) (by simp [hP.npA]), l2, e2, l3, e3⟩
  · rw [Zaj0]
    have k1 := fun get => Zv4 get hP
    have k2 := fun get => Zsp get hP f2
    have hlenp := hP.p.Zex Za1
    have sz := e2.sl
    have sz2 := l2.sl
    simp only [Z7] at k1 k2 e1 l1
    have x1 : ¬ (p : Int) < 0 := by omega
    have x2 : ¬ (c.parts.length : Int) ≤ p := by omega
    simp (maxSteps := 4000000) [Zwb, Zf, Zd, Ze, Zl, Zn, Zo, TK.agg, Zb, zeroS, Zi, Zg, splice, Zx, Z5, Zk, Z7, k1, k2, hf, hlenp, hp, e1, l1, x1, x2, Zuh, Zacy, Zny, placesOf, Zeb, Zz hP.p.sl, Zz hP.l.sl, Zz sz, Zz sz2, Zax sz, Zax sz2]
  · obtain ⟨q1, q2⟩ := Z4s hpv
    simp [Sh.pv, pvs, Zuh, q1, q2, l3, e3]
end Go.Proofs.YtfphjfbknphhjaaGreatDoor

/-
  Walks of the seat's functions: Og.
-/
set_option linter.unusedVariables false
set_option linter.unusedSimpArgs false
set_option maxRecDepth 100000
namespace Go.Proofs.YtfphjfbknphhjaaGreatDoor
open Go.Proofs.YtfphjfbknphhjaaGreatDoor.Sh
/-! The example of chapter 20: its cells, reckoned. -/
def xC : Cfg := { parts := [⟨6, 1⟩, ⟨6, 1⟩], links := [⟨0, 1, 0, 1, 0, 1⟩], cycle := 20000, lead := 60, slot := 100, window := 3, drift := 0, rate := 300000, ages := 2, lost := 0, listen := 4, span := 4, room := 12 }
def xP : SV := .sl [.agg [.int .i64 6, .int .i64 1], .agg [.int .i64 6, .int .i64 1]] .ro
def xL : SV := .sl [.agg [.int .i64 0, .int .i64 1, .int .i64 0, .int .i64 1, .int .i64 0, .int .i64 1]] .ro
theorem xCfg : Zi2 xC xP xL := ⟨RSl.of_map (enc := Zc9) rfl rfl, RSl.of_map (enc := Za2) rfl rfl, by decide, by decide⟩
def xN (s : Int) : Node := ⟨s, 0, 0, 0, 0, [], 0, 0⟩
def xCel (s : Int) : Cel := ⟨List.replicate 6 (xN s), false, 0, []⟩
def Zrg (s : Int) : SV := .agg [.int .i64 s, .int .i64 0, .int .i64 0, .int .i64 0, .int .i64 0, .nilsl, .int .i64 0, .int .i64 0]
def Zapu (s : Int) : SV := .agg [.sl [Zrg s, Zrg s, Zrg s, Zrg s, Zrg s, Zrg s] .ro, .bool false, .int .i64 0, .nilsl]
def Zaab (s : Int) : SV := .sl [Zapu s, Zapu s] .ro
theorem xNds (s : Int) : NdR (Zrg s) (xN s) := ⟨.nilsl, rfl, RSl.nil _, rfl⟩
theorem xCelR (s : Int) : ClR (Zapu s) (xCel s) := by
  refine ⟨.sl [Zrg s, Zrg s, Zrg s, Zrg s, Zrg s, Zrg s] .ro, .nilsl, rfl, ⟨rfl, rfl, fun j y a hy ha => ?_⟩, RSl.nil _, rfl, rfl⟩
  have e1 : its (SV.sl [Zrg s, Zrg s, Zrg s, Zrg s, Zrg s, Zrg s] .ro) = List.replicate 6 (Zrg s) := rfl
  rw [e1, List.getElem?_replicate] at hy
  have ha' : (List.replicate 6 (xN s))[j]? = some a := ha
  rw [List.getElem?_replicate] at ha'
  split at hy
  · simp only [Option.some.injEq] at hy
    rename_i hj
    rw [if_pos hj] at ha'
    simp only [Option.some.injEq] at ha'
    rw [← hy, ← ha']
    exact xNds s
  · cases hy
theorem Zavv (s : Int) : Zv7 (Zaab s) [xCel s, xCel s] := by
  refine ⟨rfl, rfl, fun j y a hy ha => ?_⟩
  have e1 : its (Zaab s) = List.replicate 2 (Zapu s) := rfl
  rw [e1, List.getElem?_replicate] at hy
  have ha' : (List.replicate 2 (xCel s))[j]? = some a := ha
  rw [List.getElem?_replicate] at ha'
  split at hy
  · simp only [Option.some.injEq] at hy
    rename_i hj
    rw [if_pos hj] at ha'
    simp only [Option.some.injEq] at ha'
    rw [← hy, ← ha']
    exact xCelR s
  · cases hy
theorem Zakz (s : Int) : Sh.pv (Zaab s) = true := rfl
theorem Zaut : PCw ES Zb9 [.int .i64 1] = some (.agg (Z7 xC xP xL)) := Zeu 200 (by kernel_rfl)

end Go.Proofs.YtfphjfbknphhjaaGreatDoor
