/-
  Walks of the seat's functions: Fr.
-/
import Derived.Test.YtfphjfbknphhjaaGreatDoorEb2
import Derived.Test.YtfphjfbknphhjaaGreatDoorShMb
import Derived.Test.YtfphjfbknphhjaaGreatDoorLzMb
import Derived.Test.YtfphjfbknphhjaaGreatDoorLzMa
import Derived.Test.YtfphjfbknphhjaaGreatDoorEr
import Derived.Test.YtfphjfbknphhjaaGreatDoorEs
set_option linter.unusedVariables false
set_option linter.unusedSimpArgs false
set_option maxRecDepth 100000
namespace Go.Proofs.YtfphjfbknphhjaaGreatDoor
open Go.Proofs.YtfphjfbknphhjaaGreatDoor.Sh
/-! Frames that were heard. -/
structure Frame where
  kind : Int
  part : Int
  node : Int
  wait : Int
  mask : Int
  link : Int
  flag : Bool
  cycle : Int
  offset : Int
  ages : List Int
  frm : Int
  dst : Int
  seq : Int
  body : List Int
structure Zak1 where
  slot : Int
  f : Frame
  tick : Int
def Bytes (x : SV) (l : List Int) : Prop := RSl (fun y n => y = .int .u8 n) x l
theorem Ints.npn {x : SV} {l : List Int} (h : Ints x l) : Sh.np 9 x = true := RSl.np h (n := 8) fun y a h => by rw [h]; rfl
def hdC (h : Zak1) (A B : SV) : List SV := [.int .i64 h.slot, .int .i64 h.f.kind, .int .i64 h.f.part, .int .i64 h.f.node, .int .i64 h.f.wait, .int .i64 h.f.mask, .int .i64 h.f.link, .bool h.f.flag, .int .i64 h.f.cycle, .int .i64 h.f.offset, A, .int .i64 h.f.frm, .int .i64 h.f.dst, .int .i64 h.f.seq, B, .int .i64 h.tick]
def HdR (y : SV) (h : Zak1) : Prop := ∃ A B, y = .agg (hdC h A B) ∧ Ints A h.f.ages ∧ Bytes B h.f.body
theorem npAgg {n : Nat} {cs : List SV} (h : cs.all (Sh.np n) = true) : Sh.np (n + 1) (.agg cs) = true := by simp only [Sh.np, h, Bool.or_true]
theorem Zaks {n : Nat} {xs : List SV} (h : WT ES.P (n + 2) Zv xs) : ∃ l : List Int, Ints (mkV ES.P Zv xs) l ∧ xs = [mkV ES.P Zv xs] := by
  rcases Zv2 Zb3 Zes h with ⟨e1, e⟩ | ⟨items, e1, e, hl, hi⟩
  · rw [e]; exact ⟨[], RSl.nil _, e1⟩
  · rw [e]
    obtain ⟨l, hl2⟩ := RSl.exists (R := fun y (v : Int) => y = .int .i64 v) (tl := .ro) (items := items) fun y hy => by
      obtain ⟨ys, rfl, hw⟩ := hi y hy
      obtain ⟨v, _, e, _⟩ := Zl9 Zes hw
      exact ⟨v, e⟩
    exact ⟨l, hl2, e1⟩

end Go.Proofs.YtfphjfbknphhjaaGreatDoor

/-
  Walks of the seat's functions: Pk.
-/
set_option linter.unusedVariables false
set_option linter.unusedSimpArgs false
set_option maxRecDepth 100000
namespace Go.Proofs.YtfphjfbknphhjaaGreatDoor
open Go.Proofs.YtfphjfbknphhjaaGreatDoor.Sh
/-! errors.As and errors.Is: what the shadow says of them holds. -/
theorem Zaf2 : Enters ES.P Zgt := by
  refine ⟨_, Tryz.func74, by rfl, ?_⟩
  exact of_decide_eq_true (by kernel_rfl)
theorem Zafe : Enters ES.P Zi0 := by
  refine ⟨_, Tryz.func75, by rfl, ?_⟩
  exact of_decide_eq_true (by kernel_rfl)
theorem Z63 {t u : Nat} (h : Zzl.contains (t, u) = true) : (t = Zcz ∧ u = Zf2) ∨ (t = Zbo ∧ u = Zeq) := by
  simp only [Zzl, List.contains_cons, List.contains_nil, Bool.or_false, Bool.or_eq_true, beq_iff_eq, Prod.mk.injEq] at h
  rcases h with h | h
  · exact .inl h
  · exact .inr h
theorem Zaq2 (w : World) (a b c d : Obj) : RowKit.Below w.heap.size w ((((w.alloc a).alloc b).alloc c).alloc d) := by
  have h := RowKit.Below.refl w.heap.size w
  exact ((((h.alloc (Nat.le_refl _) a).alloc (by simp) b).alloc (by simp; omega) c).alloc (by simp; omega) d)
theorem as_ok {f : Nat} (hf : f = Zgt) : Z8d ES (fun f' args M => if f' = f then Zgh args M else none) := by
  subst hf
  intro f' args M r M' h
  simp only at h
  split at h
  case isFalse => cases h
  rename_i hf
  subst hf
  unfold Zgh at h
  split at h
  · simp only [Option.some.injEq, Prod.mk.injEq] at h
    obtain ⟨rfl, rfl⟩ := h
    refine ⟨Zaf2, Nat.le_refl _, fun g w fr args' hM hfr hargs => ?_⟩
    obtain ⟨u, v, rfl, h1, h2⟩ := hargs.Z69
    cases h1
    refine (as_nil v w).mono ?_
    rintro e w' ⟨rfl, rfl⟩
    exact Zo4.same hM hfr (.bool false)
  · rename_i t items i o st u id
    split at h
    case isFalse => cases h
    rename_i hp
    split at h
    case h_2 => cases h
    rename_i y hy
    split at h
    case isFalse => cases h
    rename_i hy1
    simp only [Option.some.injEq, Prod.mk.injEq] at h
    obtain ⟨rfl, rfl⟩ := h
    refine ⟨Zaf2, Nat.le_refl _, fun g w fr args' hM hfr hargs => ?_⟩
    obtain ⟨u', v', rfl, h1, h2⟩ := hargs.Z69
    cases h1 with
    | iface _ _ e' hx' he =>
    cases h2 with
    | iface _ _ p' hx2 hp' =>
    cases hp' with
    | ptr _ _ _ b hown =>
    have hraw := (hM.raw 1 Zm1 rfl).2
    have fin : ∀ w4, RowKit.Below w.heap.size w w4 → Zo4 ES g w M (M.set id (some [.rptr items i o st])) (.bool true) (.returned (.bool true)) (w4.setCell ⟨b, 0, none⟩ e') := by
      intro w4 hb
      obtain ⟨_, _, q3, q4⟩ := hM.set1 hb hy hown hy1 rfl rfl he
      exact ⟨_, g, rfl, q3, q4.weaken hfr, .bool true, fun _ _ => rfl⟩
    obtain ⟨⟨old, hold⟩, hfz, _, _⟩ := hM.set1 (RowKit.Below.refl _ _) hy hown hy1 rfl rfl he
    have e0 : 0 * g.esz id + 0 = 0 := by omega
    rw [e0]
    cases he with
    | rptr _ _ _ _ b2 start esz rv hu hc hr =>
    rcases Z63 hp with ⟨rfl, rfl⟩ | ⟨rfl, rfl⟩
    · refine (Zahn _ _ old w hraw hold hfz).mono ?_
      rintro e w' ⟨rfl, rfl⟩
      exact fin _ (Zaq2 _ _ _ _ _)
    · refine (Zai9 _ _ old w hraw hold hfz).mono ?_
      rintro e w' ⟨rfl, rfl⟩
      exact fin _ (Zaq2 _ _ _ _ _)
  · cases h
theorem is_ok {f : Nat} (hf : f = Zi0) : Z8d ES (fun f' args M => if f' = f then Zho args M else none) := by
  subst hf
  intro f' args M r M' h
  simp only at h
  split at h
  case isFalse => cases h
  rename_i hf
  subst hf
  unfold Zho at h
  split at h
  case h_2 => cases h
  rename_i t n0 c x st c' y
  have cells : ∀ {g : Gh} {w : World} {v : Value}, VR g w (.rptr [.agg [.int .i64 n0, .iface c x]] 0 0 st) v → ∃ b o, v = .pointer (some ⟨b, o, none⟩) ∧ ∃ u, w.cell? ⟨b, o + 1, none⟩ = some (.iface c u) ∧ VR g w x u ∧ ∀ z, g.sent c = some z → u = z := by
    intro g w v hv
    cases hv with
    | rptr _ _ _ _ b start esz rv hu hc hr =>
    refine ⟨b, start + 0 * esz + 0, rfl, ?_⟩
    obtain ⟨_, _, h2⟩ := hc 1 (.iface c x) rfl
    have h3 := hr 1 (.iface c x) rfl
    generalize rv 1 = z at h2 h3
    cases h3 with
    | iface _ _ u hx hu' =>
    exact ⟨u, by simpa using h2, hu', hx⟩
  split at h
  · rename_i hc
    obtain ⟨rfl, rfl, rfl⟩ := hc
    split at h
    case h_2 => cases h
    rename_i m n
    simp only [Option.some.injEq, Prod.mk.injEq] at h
    obtain ⟨rfl, rfl⟩ := h
    refine ⟨Zafe, Nat.le_refl _, fun g w fr args' hM hfr hargs => ?_⟩
    obtain ⟨u', v', rfl, h1, h2⟩ := hargs.Z69
    cases h1 with
    | iface _ _ e' hx' he =>
    cases h2 with
    | iface _ _ p' hx2 hp' =>
    obtain rfl := hp'.Znp
    obtain ⟨b, o, rfl, u, hu1, hu2, _⟩ := cells he
    obtain rfl := hu2.Znp
    refine (Zar6 b o m n w hu1).mono ?_
    rintro e w' ⟨rfl, rfl⟩
    exact Zo4.same hM hfr (.bool _)
  · split at h
    case isFalse => cases h
    rename_i hc
    obtain ⟨rfl, rfl, rfl⟩ := hc
    simp only [Option.some.injEq, Prod.mk.injEq] at h
    obtain ⟨rfl, rfl⟩ := h
    refine ⟨Zafe, Nat.le_refl _, fun g w fr args' hM hfr hargs => ?_⟩
    obtain ⟨u', v', rfl, h1, h2⟩ := hargs.Z69
    cases h1 with
    | iface _ _ e' hx' he =>
    cases h2 with
    | iface _ _ p' hx2 hp' =>
    obtain ⟨b, o, rfl, u, hu1, hu2, hu3⟩ := cells he
    obtain ⟨a, ha⟩ := (hM.sent Ze6).2 (by rfl)
    have e1 := hu3 _ ha
    have e2 := hx2 _ ha
    subst e1 e2
    refine (Zatb b o a w hu1).mono ?_
    rintro e w' ⟨rfl, rfl⟩
    exact Zo4.same hM hfr (.bool _)
theorem Zama : Zamr ES := by
  intro f p hp
  have hp' : Z4n f = some p := hp
  unfold Z4n at hp'
  split at hp'
  · rename_i hf
    simp only [Option.some.injEq] at hp'
    subst hp'
    exact as_ok hf
  split at hp'
  · rename_i hf
    simp only [Option.some.injEq] at hp'
    subst hp'
    exact is_ok hf
  · cases hp'

end Go.Proofs.YtfphjfbknphhjaaGreatDoor
