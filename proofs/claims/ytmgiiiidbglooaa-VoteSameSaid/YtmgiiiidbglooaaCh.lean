/-
  The walk of VoteSame.
-/
import Derived.Test.YtmgiiiidbglooaaCe
set_option linter.unusedVariables false
set_option linter.unusedSimpArgs false
set_option maxRecDepth 100000
namespace Go.Proofs.Ytmgiiiidbglooaa
open Go.Proofs.Ytmgiiiidbglooaa.Sh

set_option maxHeartbeats 4000000 in
theorem VoteSame_ok {x y z : SV} {c d e : Int × List Int} (hx : Con x c) (hy : Con y d) (hz : Con z e) (M : Mem) :
    ∃ M', ICw ES 5 [x, y, z] M = some (.bool true, M') := by
  rw [b5]
  have c8 : ∀ get, callP (PCw ES) get 8 [] = some (.bool true) := fun get => callP_of alive_ok rfl
  have hcs : Cons (.sl [x, y, z] .snap) [c, d, e] := RSl.mk' rfl fun j u a hu ha => by
    match j, hu, ha with
    | 0, hu, ha => simp at hu ha; subst hu ha; exact hx
    | 1, hu, ha => simp at hu ha; subst hu ha; exact hy
    | 2, hu, ha => simp at hu ha; subst hu ha; exact hz
  have c9' : ∀ (get : Nat → Option (List SV)) (id : Nat), get id = some [x, y, z] → callP (PCw ES) get 9 [.own id 2 0 3] = some (.bool (decide (smallL [c, d, e]))) := fun get id hg => by
    have hp : pic get false picDepth (.own id 2 0 3) = some (.sl [x, y, z] .snap) := by
      rw [pic_snap hg (by simp) (fun u hu => by
        simp at hu
        rcases hu with rfl | rfl | rfl
        · exact np_le (by decide) hx.np
        · exact np_le (by decide) hy.np
        · exact np_le (by decide) hz.np)]
      rfl
    rw [callP_pic (ys := [.sl [x, y, z] .snap]) (by simp [hp])]
    exact small_ok hcs (by simp)
  have s14 : ∀ (get : Nat → Option (List SV)) {u v : SV} {a b : Int × List Int}, Con u a → Con v b → callP (PCw ES) get 14 [u, v] = some (.bool (decide (a = b))) := fun get u v a b hu hv => callP_of (Same_ok hu hv) (by simp [hu.np12, hv.np12])
  have s15 : ∀ (get : Nat → Option (List SV)) {u v : SV} {a b : Int × List Int}, Con u a → Con v b → callP (PCw ES) get 15 [u, v] = some (.bool (decide (a = b))) := fun get u v a b hu hv => callP_of (SameContent_ok hu hv) (by simp [hu.np12, hv.np12])
  have a1 := fun get => s14 get hx hy
  have a2 := fun get => s14 get hy hz
  have a3 := fun get => s14 get hx hz
  have a4 := fun get => s14 get hy hx
  have a5 := fun get => s14 get hx hx
  have a6 := fun get => s15 get hx hy
  clear s14 s15 hcs
  obtain ⟨ax, rfl, _⟩ := hx
  obtain ⟨ay, rfl, _⟩ := hy
  obtain ⟨az, rfl, _⟩ := hz
  by_cases hs : smallL [c, d, e]
  · have a4' : ∀ get, callP (PCw ES) get 14 [.agg [.int .i64 d.1, ay], .agg [.int .i64 c.1, ax]] = some (.bool (decide (c = d))) := fun get => by rw [a4 get]; simp [eq_comm]
    rw [decide_eq_true hs] at c9'
    simp only [decide_true] at a5
    by_cases h1 : c = d
    · simp only [decide_eq_true h1] at a1 a4' a6
      by_cases h2 : d = e
      · have h3 : c = e := h1.trans h2
        simp only [decide_eq_true h2] at a2
        simp only [decide_eq_true h3] at a3
        simp [c5, evW_reg, SV.sto, loadS, partS, TK.agg, SV.cells, c8, c9', bldSl, buildRow, a1, a2, a3, a4', a5, a6, binS_eqlB ti4, endS, resS, Nat.add_assoc]
      · simp only [decide_eq_false h2] at a2
        generalize decide (c = e) = q3 at a3
        simp [c5, evW_reg, SV.sto, loadS, partS, TK.agg, SV.cells, c8, c9', bldSl, buildRow, a1, a2, a3, a4', a5, a6, binS_eqlB ti4, endS, resS, Nat.add_assoc]
    · simp only [decide_eq_false h1] at a1 a4' a6
      generalize decide (c = e) = q3 at a3
      generalize decide (d = e) = q2 at a2
      simp [c5, evW_reg, SV.sto, loadS, partS, TK.agg, SV.cells, c8, c9', bldSl, buildRow, a1, a2, a3, a4', a5, a6, binS_eqlB ti4, endS, resS, Nat.add_assoc]
  · rw [decide_eq_false hs] at c9'
    simp [c5, evW_reg, SV.sto, loadS, partS, TK.agg, SV.cells, c8, c9', bldSl, buildRow, endS, resS, Nat.add_assoc]

theorem VoteSame_walk (xs0 xs1 xs2 : List SV) (h0 : WT ES.P 8 32 xs0) (h1 : WT ES.P 8 32 xs1) (h2 : WT ES.P 8 32 xs2) : ∃ M', ICw ES 5 [mkV ES.P 32 xs0, mkV ES.P 32 xs1, mkV ES.P 32 xs2] .empty = some (.bool true, M') := by
  obtain ⟨c, hc⟩ := con_of h0
  obtain ⟨d, hd⟩ := con_of h1
  obtain ⟨e, he⟩ := con_of h2
  exact VoteSame_ok hc hd he _

end Go.Proofs.Ytmgiiiidbglooaa
