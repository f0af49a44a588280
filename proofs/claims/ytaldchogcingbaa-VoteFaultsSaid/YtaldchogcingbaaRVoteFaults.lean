/-
  The row of VoteFaults: its walk on the shadow, said of the program.
-/
import Derived.Test.YtaldchogcingbaaRows
import Derived.Test.YtaldchogcingbaaLVg
import Derived.Test.YtaldchogcingbaaShMb
import Derived.WalkKit
import Derived.ProofKit
import Derived.OpenShut
import Derived.ShutString
import Derived.ChangeOld
import Derived.Below
import Derived.Carry
import Derived.SizedLaws
namespace Go.Proofs.Ytaldchogcingbaa.voteFaults
open Go.ChangeShapes Go.WideShapes Go.ChangeAt Go.RowKit Go.Proofs.Ytaldchogcingbaa.Sh
set_option linter.unusedVariables false
theorem primOk : PrimOk ES := fun f p h => by cases h
theorem own : ownKnob Try.prog.godebug = none := by kernel_rfl
theorem laidOut : laidOutB Try.prog = true := by kernel_rfl
theorem mixed : ES.P.follows .mixedOrders = true := Checked.mixed (C := Try.checked)
set_option maxRecDepth 100000 in
theorem lifted (os : Os) (started : os.Started) (H : Type) (enc : TypeId × Value → H) :
    ReturnsInHanded {} Try.checked os 3 .any (Rows.voteFaultsSpec.pre6 enc Try.prog Try.f3 Rows.voteFaultsRow.domain false) (Rows.voteFaultsSpec.post enc Try.prog Try.f3 false true false false) := by
  refine returnsInHanded_of_change_sized (C := Try.checked) own started (by kernel_rfl) Try.func3
    (ChangeSpec.witness6 (enc := enc) (C := Try.checked) false ⟨#[], #[.int .i64 0, .slice none 0 0, .int .u8 0, .slice none 0 0, .int .u8 0], []⟩ 8 (by kernel_rfl) (by kernel_rfl) (by kernel_rfl) (by kernel_rfl)) ?_
  intro W base args ds gs before hval0 hW hcnd hsz0 _
  have hsz : (DataW.weightsEach Try.prog (Try.f3.params.toList ++ Rows.voteFaultsSpec.plain.varTypes Try.prog) (ds ++ gs)).all (· ≤ reachBytes) = true := hsz0
  have hval : ∀ (j : Nat) t v, Try.f3.params[j]? = some t → args[j]? = some v → Value.okWide Try.prog W .any base t v := hval0
  have hW' := hW
  obtain ⟨p, q, hA0, hV, rfl, hfz, hnd⟩ := hW
  have hA : DataW.TrodAll enc Try.prog W 0 (fun _ => true) true Try.f3.params.toList args.toList ds p := hA0
  rw [Try.params3] at hA hval hsz
  obtain ⟨v0, vs0, d0, ds0, p0, q0, hargs, rfl, rfl, h0, r0⟩ := trodAll_cons hA
  obtain ⟨v1, vs1, d1, ds1, p1, q1, rfl, rfl, rfl, h1, r1⟩ := trodAll_cons r0
  obtain ⟨v2, vs2, d2, ds2, p2, q2, rfl, rfl, rfl, h2, r2⟩ := trodAll_cons r1
  obtain ⟨v3, vs3, d3, ds3, p3, q3, rfl, rfl, rfl, h3, r3⟩ := trodAll_cons r2
  obtain ⟨v4, vs4, d4, ds4, p4, q4, rfl, rfl, rfl, h4, r4⟩ := trodAll_cons r3
  obtain ⟨rfl, rfl, rfl⟩ := trodAll_nil r4
  obtain rfl : args = #[v0, v1, v2, v3, v4] := by cases args; simp_all
  obtain ⟨rfl, rfl⟩ := trodVars_none hV
  have lt0 : ∀ x ∈ p0, x.block < W.heap.size := by obtain ⟨m, hm⟩ := h0; exact DataW.trod_lt m _ _ _ hm
  obtain ⟨xs0, wt0, one0, vr0⟩ := arg_rel (ss := fun _ => none) (n := 8) (P := Try.prog) hsz (j := 0) (t := 2) rfl rfl (by kernel_rfl) h0 (hval 0 2 v0 rfl rfl)
  have lt1 : ∀ x ∈ p1, x.block < W.heap.size := by obtain ⟨m, hm⟩ := h1; exact DataW.trod_lt m _ _ _ hm
  obtain ⟨xs1, wt1, one1, vr1⟩ := arg_rel (ss := fun _ => none) (n := 8) (P := Try.prog) hsz (j := 1) (t := 22) rfl rfl (by kernel_rfl) h1 (hval 1 22 v1 rfl rfl)
  have lt2 : ∀ x ∈ p2, x.block < W.heap.size := by obtain ⟨m, hm⟩ := h2; exact DataW.trod_lt m _ _ _ hm
  obtain ⟨xs2, wt2, one2, vr2⟩ := arg_rel (ss := fun _ => none) (n := 8) (P := Try.prog) hsz (j := 2) (t := 5) rfl rfl (by kernel_rfl) h2 (hval 2 5 v2 rfl rfl)
  have lt3 : ∀ x ∈ p3, x.block < W.heap.size := by obtain ⟨m, hm⟩ := h3; exact DataW.trod_lt m _ _ _ hm
  obtain ⟨xs3, wt3, one3, vr3⟩ := arg_rel (ss := fun _ => none) (n := 8) (P := Try.prog) hsz (j := 3) (t := 23) rfl rfl (by kernel_rfl) h3 (hval 3 23 v3 rfl rfl)
  have lt4 : ∀ x ∈ p4, x.block < W.heap.size := by obtain ⟨m, hm⟩ := h4; exact DataW.trod_lt m _ _ _ hm
  obtain ⟨xs4, wt4, one4, vr4⟩ := arg_rel (ss := fun _ => none) (n := 8) (P := Try.prog) hsz (j := 4) (t := 5) rfl rfl (by kernel_rfl) h4 (hval 4 5 v4 rfl rfl)
  clear hA0 hval0 hsz0 hsz
  obtain ⟨M', hM⟩ := VoteFaults_walk xs0 xs1 xs2 xs3 xs4 wt0 wt1 wt2 wt3 wt4
  refine (law_calls (E := ES) mixed primOk (fun _ => rfl) (fun _ => rfl) (fun _ => rfl) hM (((((VRs.one1 vr0).append (VRs.one1 vr1)).append (VRs.one1 vr2)).append (VRs.one1 vr3)).append (VRs.one1 vr4))).mono fun e W' ⟨he, bel⟩ => ?_
  subst he
  exact ⟨_, rfl, _, _, _, [], _, [], hW', trodAll_mk1 (shut_bool Try.underlying4 _), (trodAll_cons_mk (Below.trod laidOut (by kernel_rfl) (of_decide_eq_true (by kernel_rfl)) h0 bel lt0) (trodAll_cons_mk (Below.trod laidOut (by kernel_rfl) (of_decide_eq_true (by kernel_rfl)) h1 bel lt1) (trodAll_cons_mk (Below.trod laidOut (by kernel_rfl) (of_decide_eq_true (by kernel_rfl)) h2 bel lt2) (trodAll_cons_mk (Below.trod laidOut (by kernel_rfl) (of_decide_eq_true (by kernel_rfl)) h3 bel lt3) (trodAll_cons_mk (Below.trod laidOut (by kernel_rfl) (of_decide_eq_true (by kernel_rfl)) h4 bel lt4) trodAll_mk0))))), rfl, bel.frame _, fun h => by cases h⟩
theorem over : Rows.voteFaultsRow.holds Try.pinned (OpenSpec.ofChange Rows.voteFaultsSpec) :=
  OpenClaim.holds_of_wide 3 Try.f3 rfl rfl rfl rfl rfl rfl rfl ⟨rfl, rfl, rfl, rfl, rfl⟩ rfl rfl rfl rfl rfl (by kernel_rfl) Try.func3 (by kernel_rfl)
    (of_decide_eq_true (by kernel_rfl)) (by unfold Func.isWrapper; first | (rw [if_pos (by decide +kernel)]; kernel_rfl) | (rw [if_neg (by decide +kernel)]; exact ⟨rfl, rfl⟩))
    (fun os started H enc _ => lifted os started H enc)
theorem proved : Rows.VoteFaultsSaid := over
#print axioms proved
end Go.Proofs.Ytaldchogcingbaa.voteFaults
namespace Go.Proofs.Ytaldchogcingbaa
/-- The row, under a short name, for the claim. -/
theorem voteFaults_holds : Rows.VoteFaultsSaid := voteFaults.proved
end Go.Proofs.Ytaldchogcingbaa
