/-
  Walks of the seat's functions: Pd.
-/
import Derived.Test.YtljjmdcdlcefmaaGreatDoorEbMa
import Derived.Test.YtljjmdcdlcefmaaGreatDoorShMb
import Derived.Test.YtljjmdcdlcefmaaGreatDoorLCf
import Derived.Test.YtljjmdcdlcefmaaGreatDoorEr
import Derived.Test.YtljjmdcdlcefmaaGreatDoorEs
set_option linter.unusedVariables false
set_option linter.unusedSimpArgs false
set_option maxRecDepth 100000
namespace Go.Proofs.YtljjmdcdlcefmaaGreatDoor
open Go.Proofs.YtljjmdcdlcefmaaGreatDoor.Sh
/-! errors.As and errors.Is: what the shadow says of them holds (a seat without bounds). -/
theorem entersAs : Enters ES.P n_errors_As := by
  refine ⟨_, Tryz.func56, by rfl, ?_⟩
  exact of_decide_eq_true (by kernel_rfl)
theorem entersIs : Enters ES.P n_errors_Is := by
  refine ⟨_, Tryz.func57, by rfl, ?_⟩
  exact of_decide_eq_true (by kernel_rfl)
theorem asPairs_cases {t u : Nat} (h : asPairs.contains (t, u) = true) : t = T_p_plan_fault ∧ u = T_p_p_plan_fault := by
  simp only [asPairs, List.contains_cons, List.contains_nil, Bool.or_false, beq_iff_eq, Prod.mk.injEq] at h
  exact h
theorem below4 (w : World) (a b c d : Obj) : RowKit.Below w.heap.size w ((((w.alloc a).alloc b).alloc c).alloc d) := by
  have h := RowKit.Below.refl w.heap.size w
  exact ((((h.alloc (Nat.le_refl _) a).alloc (by simp) b).alloc (by simp; omega) c).alloc (by simp; omega) d)
theorem as_ok {f : Nat} (hf : f = n_errors_As) : ICok ES (fun f' args M => if f' = f then prim_errors_As args M else none) := by
  subst hf
  intro f' args M r M' h
  simp only at h
  split at h
  case isFalse => cases h
  rename_i hf
  subst hf
  unfold prim_errors_As at h
  split at h
  · simp only [Option.some.injEq, Prod.mk.injEq] at h
    obtain ⟨rfl, rfl⟩ := h
    refine ⟨entersAs, Nat.le_refl _, fun g w fr args' hM hfr hargs => ?_⟩
    obtain ⟨u, v, rfl, h1, h2⟩ := hargs.two_inv
    cases h1
    refine (as_nil v w).mono ?_
    rintro e w' ⟨rfl, rfl⟩
    exact CallPost.same hM hfr (.bool false)
  · rename_i t items i o st u id
    split at h
    case isFalse => cases h
    rename_i hp
    split at h
    case h_2 => cases h
    rename_i y hy
    split at h
    case isFalse => cases h
    rename_i hy1
    simp only [Option.some.injEq, Prod.mk.injEq] at h
    obtain ⟨rfl, rfl⟩ := h
    refine ⟨entersAs, Nat.le_refl _, fun g w fr args' hM hfr hargs => ?_⟩
    obtain ⟨u', v', rfl, h1, h2⟩ := hargs.two_inv
    cases h1 with
    | iface _ _ e' hx' he =>
    cases h2 with
    | iface _ _ p' hx2 hp' =>
    cases hp' with
    | ptr _ _ _ b hown =>
    have hraw := (hM.raw 0 handleV rfl).2
    have fin : ∀ w4, RowKit.Below w.heap.size w w4 → CallPost ES g w M (M.set id (some [.rptr items i o st])) (.bool true) (.returned (.bool true)) (w4.setCell ⟨b, 0, none⟩ e') := by
      intro w4 hb
      obtain ⟨_, _, q3, q4⟩ := hM.set1 hb hy hown hy1 rfl rfl he
      exact ⟨_, g, rfl, q3, q4.weaken hfr, .bool true, fun _ _ => rfl⟩
    obtain ⟨⟨old, hold⟩, hfz, _, _⟩ := hM.set1 (RowKit.Below.refl _ _) hy hown hy1 rfl rfl he
    have e0 : 0 * g.esz id + 0 = 0 := by omega
    rw [e0]
    cases he with
    | rptr _ _ _ _ b2 start esz rv hu hc hr =>
    obtain ⟨rfl, rfl⟩ := asPairs_cases hp
    refine (asP_as_hit _ _ old w hraw hold hfz).mono ?_
    rintro e w' ⟨rfl, rfl⟩
    exact fin _ (below4 _ _ _ _ _)
  · cases h
theorem is_ok {f : Nat} (hf : f = n_errors_Is) : ICok ES (fun f' args M => if f' = f then prim_errors_Is args M else none) := by
  subst hf
  intro f' args M r M' h
  simp only at h
  split at h
  case isFalse => cases h
  rename_i hf
  subst hf
  unfold prim_errors_Is at h
  split at h
  case h_2 => cases h
  rename_i t n0 c x st c' y
  have cells : ∀ {g : Gh} {w : World} {v : Value}, VR g w (.rptr [.agg [.int .i64 n0, .iface c x]] 0 0 st) v → ∃ b o, v = .pointer (some ⟨b, o, none⟩) ∧ ∃ u, w.cell? ⟨b, o + 1, none⟩ = some (.iface c u) ∧ VR g w x u ∧ ∀ z, g.sent c = some z → u = z := by
    intro g w v hv
    cases hv with
    | rptr _ _ _ _ b start esz rv hu hc hr =>
    refine ⟨b, start + 0 * esz + 0, rfl, ?_⟩
    obtain ⟨_, _, h2⟩ := hc 1 (.iface c x) rfl
    have h3 := hr 1 (.iface c x) rfl
    generalize rv 1 = z at h2 h3
    cases h3 with
    | iface _ _ u hx hu' =>
    exact ⟨u, by simpa using h2, hu', hx⟩
  split at h
  · rename_i hc
    obtain ⟨rfl, rfl, rfl⟩ := hc
    split at h
    case h_2 => cases h
    rename_i m n
    simp only [Option.some.injEq, Prod.mk.injEq] at h
    obtain ⟨rfl, rfl⟩ := h
    refine ⟨entersIs, Nat.le_refl _, fun g w fr args' hM hfr hargs => ?_⟩
    obtain ⟨u', v', rfl, h1, h2⟩ := hargs.two_inv
    cases h1 with
    | iface _ _ e' hx' he =>
    cases h2 with
    | iface _ _ p' hx2 hp' =>
    obtain rfl := hp'.int_inv
    obtain ⟨b, o, rfl, u, hu1, hu2, _⟩ := cells he
    obtain rfl := hu2.int_inv
    refine (isP_hit b o m n w hu1).mono ?_
    rintro e w' ⟨rfl, rfl⟩
    exact CallPost.same hM hfr (.bool _)
  · cases h
theorem primOk : PrimOk ES := by
  intro f p hp
  have hp' : primOf f = some p := hp
  unfold primOf at hp'
  split at hp'
  · rename_i hf
    simp only [Option.some.injEq] at hp'
    subst hp'
    exact as_ok hf
  split at hp'
  · rename_i hf
    simp only [Option.some.injEq] at hp'
    subst hp'
    exact is_ok hf
  · cases hp'

end Go.Proofs.YtljjmdcdlcefmaaGreatDoor
