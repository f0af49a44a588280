/-
  What came in, as contents: the law's walks.
-/
import Derived.Test.YtmgiiiidbglooaaCd
import Derived.Test.YtmgiiiidbglooaaShSt
set_option linter.unusedVariables false
set_option linter.unusedSimpArgs false
set_option maxRecDepth 100000
namespace Go.Proofs.Ytmgiiiidbglooaa
open Go.Proofs.Ytmgiiiidbglooaa.Sh

theorem primOk : PrimOk ES := fun f p h => by cases h

theorem ints_of {n : Nat} {xs : List SV} (h : WT ES.P (n + 2) 30 xs) : ∃ l, Ints (mkV ES.P 30 xs) l ∧ l.length < 4611686018427387904 := by
  rcases WT_slice ti30 ti3 h with ⟨_, h⟩ | ⟨items, _, h, hl, hi⟩
  · rw [h]; exact ⟨[], RSl.nil _, by simp⟩
  · rw [h]
    obtain ⟨l, hl2⟩ := RSl.exists (R := IsI .i64) (tl := .ro) (items := items) fun y hy => by
      obtain ⟨ys, rfl, hw⟩ := hi y hy
      obtain ⟨v, _, h2, _⟩ := WT_int ti3 hw
      exact ⟨v, h2⟩
    refine ⟨l, hl2, ?_⟩
    have := hl2.len
    simp [its] at this
    simp at hl
    omega

theorem con_of {n : Nat} {xs : List SV} (h : WT ES.P (n + 3) 32 xs) : ∃ c, Con (mkV ES.P 32 xs) c := by
  obtain ⟨hm, parts, rfl, hl, hp⟩ := WT_struct ti32 h
  match parts, hl with
  | [p0, p1], _ =>
    obtain ⟨v, rfl, _, _⟩ := WT_int ti2 (hp 0 _ p0 rfl rfl)
    have h1 := hp 1 _ p1 rfl rfl
    obtain ⟨l, hl1, hl2⟩ := ints_of h1
    refine ⟨(v, l), mkV ES.P 30 p1, ?_, hl1, hl2⟩
    rw [hm]
    rcases WT_slice ti30 ti3 h1 with ⟨rfl, h⟩ | ⟨items, rfl, h, _⟩ <;> rw [h] <;> rfl

theorem cons_of {n : Nat} {xs : List SV} (h : WT ES.P (n + 4) 22 xs) : ∃ l, Cons (mkV ES.P 22 xs) l ∧ l.length < 4611686018427387904 := by
  rcases WT_slice ti22 ti32 h with ⟨_, h⟩ | ⟨items, _, h, hl, hi⟩
  · rw [h]; exact ⟨[], RSl.nil _, by simp⟩
  · rw [h]
    obtain ⟨l, hl2⟩ := RSl.exists (R := Con) (tl := .ro) (items := items) fun y hy => by
      obtain ⟨ys, rfl, hw⟩ := hi y hy
      exact con_of hw
    refine ⟨l, hl2, ?_⟩
    have := hl2.len
    simp [its] at this
    simp at hl
    omega

theorem VoteTells_walk (xs0 xs1 xs2 : List SV) (h0 : WT ES.P 8 22 xs0) (h1 : WT ES.P 8 3 xs1) (h2 : WT ES.P 8 3 xs2) : ∃ M', ICw ES 3 [mkV ES.P 22 xs0, mkV ES.P 3 xs1, mkV ES.P 3 xs2] .empty = some (.bool true, M') := by
  obtain ⟨l, hl, hb⟩ := cons_of h0
  obtain ⟨v, _, hv, hw⟩ := WT_int ti3 h1
  obtain ⟨f, _, hf, _⟩ := WT_int ti3 h2
  rw [hv, hf]
  exact VoteTells_ok hl hb v f (wf64 hw) _

end Go.Proofs.Ytmgiiiidbglooaa
