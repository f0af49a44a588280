/-
  The row of PortTells: its walk on the shadow, said of the program; the tied card.
-/
import Derived.Test.YtljjmdcdlcefmaaGreatDoorRows
import Derived.Test.YtljjmdcdlcefmaaGreatDoorCards
import Derived.Test.YtljjmdcdlcefmaaGreatDoorTie
import Derived.Test.YtljjmdcdlcefmaaGreatDoorLOn
import Derived.Test.YtljjmdcdlcefmaaGreatDoorLPd
import Derived.Test.YtljjmdcdlcefmaaGreatDoorShMb
import Derived.WalkKit
import Derived.ProofKit
import Derived.OpenShut
import Derived.ShutString
import Derived.ChangeOld
import Derived.Below
import Derived.Carry
import Derived.SizedLaws
import Derived.ChangeSame
import Derived.ChangeVars
import Derived.JoinedOf
import Derived.RowKit
import Derived.RowKitTokens
import Derived.LaidLaws
import Derived.LaidHandle
import Derived.SevenTiedAt
namespace Go.Proofs.YtljjmdcdlcefmaaGreatDoor.portTells
open Go.ChangeShapes Go.WideShapes Go.ChangeAt Go.RowKit Go.Proofs.YtljjmdcdlcefmaaGreatDoor.Sh
set_option linter.unusedVariables false
set_option maxRecDepth 100000
theorem own : ownKnob Tryz.prog.godebug = none := by kernel_rfl
theorem laidOut : laidOutB Tryz.prog = true := by kernel_rfl
theorem mixed : ES.P.follows .mixedOrders = true := Checked.mixed (C := Tryz.checked)
theorem et : Tryz.prog.globalNamed "errors.errorType" = some 0 := by kernel_rfl
theorem rtype : (Tryz.prog.cutTypes.find? (·.1 == "internal/reflectlite.rtype")).map (·.2) = some 142 := by kernel_rfl
theorem oneRow : ((List.range 202).filter fun t => Tryz.prog.rowNamed t [101, 114, 114, 111, 114]) = [94] := by kernel_rfl
theorem size : Tryz.prog.types.size = 202 := by kernel_rfl
theorem handle_of_laid {W : World} (h : laidMetH Tryz.prog [("errors.errorType", Rows.laid_errors_errorType)] W) : W.cell? ⟨0, 0, none⟩ = some handleV := by
  have h' : laidMet Tryz.prog [] W ∧ handlesMet Tryz.prog [("errors.errorType", Rows.laid_errors_errorType)] W := h
  obtain ⟨name, u, ty, e1, e2, e3, e4, e5⟩ := h'.2 _ (List.mem_singleton.2 rfl)
  have en : name = [101, 114, 114, 111, 114] := (Option.some.inj e1).symm
  subst en
  obtain rfl := Option.some.inj (rtype.symm.trans e2)
  have hm : ty ∈ (List.range 202).filter fun t => Tryz.prog.rowNamed t [101, 114, 114, 111, 114] := List.mem_filter.2 ⟨List.mem_range.2 (by rw [← size]; exact e3), e4⟩
  rw [oneRow] at hm
  obtain rfl := List.mem_singleton.1 hm
  have hh : typeHandle Tryz.prog 94 = .pointer (some ⟨1, 94, none⟩) := by kernel_rfl
  rw [hh] at e5
  exact World.var?_cell et e5 0
noncomputable def laidWorld (os : Os) : World :=
  let w0 := World.holding Tryz.prog os ⟨#[], #[], []⟩
  { w0 with heap := w0.heap.modify 0 fun
      | .cells _ t frozen => .cells #[handleV] t frozen
      | o => o }
theorem laidWorld_met (os : Os) (args : Array Value) : laidMetH Tryz.prog [("errors.errorType", Rows.laid_errors_errorType)] ((laidWorld os).forCall (fun _ _ => 0) ⟨#[], args, []⟩).memory :=
  laidMetH_of_parts (laidMet_nil _ _) (by kernel_rfl)
theorem memTop {W : World} (hg : W.cell? ⟨0, 0, none⟩ = some handleV) : MR ES (topG W fun _ => none) W .empty (fun _ => True) :=
  topMG W (fun n items h => by cases h) (fun n v h => by
    have h' : (if n = 0 then some handleV else none) = some v := h
    split at h'
    · rename_i hn
      cases h'
      subst hn
      exact ⟨lt_of_cell? hg, hg⟩
    · cases h') (fun t => ⟨fun _ => rfl, fun h => by cases h⟩)
theorem lifted (os : Os) (started : os.Started) (H : Type) (enc : TypeId × Value → H) :
    ReturnsInHanded {} Tryz.checked os 4 .any (fun w args => (Rows.portTellsSpec.pre enc Tryz.prog Tryz.f4 [] false w args ∧ laidMetH Tryz.prog [("errors.errorType", Rows.laid_errors_errorType)] w) ∧ sizedMet enc Tryz.prog Tryz.f4 (OpenSpec.ofChange Rows.portTellsSpec) false w args) (Rows.portTellsSpec.post enc Tryz.prog Tryz.f4 false true false false) := by
  refine returnsInHanded_of_change_and (C := Tryz.checked) (X := fun w _ => laidMetH Tryz.prog [("errors.errorType", Rows.laid_errors_errorType)] w) (fun _ _ _ hh h => h.of_heap hh) own started (by kernel_rfl) Tryz.func4
    (ChangeSpec.witness_at (enc := enc) (C := Tryz.checked) (os := os) (X := fun w _ => laidMetH Tryz.prog [("errors.errorType", Rows.laid_errors_errorType)] w) false (laidWorld os) #[.int .i64 0, .int .i64 0, .slice none 0 0, .int .u8 0, .int .u8 0] 8 rfl (by kernel_rfl) (by kernel_rfl) (by kernel_rfl) (by kernel_rfl) (by kernel_rfl) (laidWorld_met os _)) ?_
  intro W base args ds gs before hval0 hW _ hsz0 hL _
  have hsz : (DataW.weightsEach Tryz.prog (Tryz.f4.params.toList ++ Rows.portTellsSpec.plain.varTypes Tryz.prog) (ds ++ gs)).all (· ≤ reachBytes) = true := hsz0
  have hval : ∀ (j : Nat) t v, Tryz.f4.params[j]? = some t → args[j]? = some v → Value.okWide Tryz.prog W .any base t v := hval0
  have hW' := hW
  have hg := handle_of_laid hL
  obtain ⟨p, q, hA0, hV, rfl, hfz, hnd⟩ := hW
  have hA : DataW.TrodAll enc Tryz.prog W 0 (fun _ => true) true Tryz.f4.params.toList args.toList ds p := hA0
  rw [Tryz.params4] at hA hval hsz
  obtain ⟨v0, vs0, d0, ds0, p0, q0, hargs, rfl, rfl, h0, r0⟩ := trodAll_cons hA
  obtain ⟨v1, vs1, d1, ds1, p1, q1, rfl, rfl, rfl, h1, r1⟩ := trodAll_cons r0
  obtain ⟨v2, vs2, d2, ds2, p2, q2, rfl, rfl, rfl, h2, r2⟩ := trodAll_cons r1
  obtain ⟨v3, vs3, d3, ds3, p3, q3, rfl, rfl, rfl, h3, r3⟩ := trodAll_cons r2
  obtain ⟨v4, vs4, d4, ds4, p4, q4, rfl, rfl, rfl, h4, r4⟩ := trodAll_cons r3
  obtain ⟨rfl, rfl, rfl⟩ := trodAll_nil r4
  obtain rfl : args = #[v0, v1, v2, v3, v4] := by cases args; simp_all
  obtain ⟨rfl, rfl⟩ := trodVars_none hV
  have lt0 : ∀ x ∈ p0, x.block < W.heap.size := by obtain ⟨m, hm⟩ := h0; exact DataW.trod_lt m _ _ _ hm
  obtain ⟨xs0, wt0, one0, vr0⟩ := arg_rel (ss := fun _ => none) (n := 8) (P := Tryz.prog) hsz (j := 0) (t := 3) rfl rfl (by kernel_rfl) h0 (hval 0 3 v0 rfl rfl)
  have lt1 : ∀ x ∈ p1, x.block < W.heap.size := by obtain ⟨m, hm⟩ := h1; exact DataW.trod_lt m _ _ _ hm
  obtain ⟨xs1, wt1, one1, vr1⟩ := arg_rel (ss := fun _ => none) (n := 8) (P := Tryz.prog) hsz (j := 1) (t := 3) rfl rfl (by kernel_rfl) h1 (hval 1 3 v1 rfl rfl)
  have lt2 : ∀ x ∈ p2, x.block < W.heap.size := by obtain ⟨m, hm⟩ := h2; exact DataW.trod_lt m _ _ _ hm
  obtain ⟨xs2, wt2, one2, vr2⟩ := arg_rel (ss := fun _ => none) (n := 8) (P := Tryz.prog) hsz (j := 2) (t := 26) rfl rfl (by kernel_rfl) h2 (hval 2 26 v2 rfl rfl)
  have lt3 : ∀ x ∈ p3, x.block < W.heap.size := by obtain ⟨m, hm⟩ := h3; exact DataW.trod_lt m _ _ _ hm
  obtain ⟨xs3, wt3, one3, vr3⟩ := arg_rel (ss := fun _ => none) (n := 8) (P := Tryz.prog) hsz (j := 3) (t := 5) rfl rfl (by kernel_rfl) h3 (hval 3 5 v3 rfl rfl)
  have lt4 : ∀ x ∈ p4, x.block < W.heap.size := by obtain ⟨m, hm⟩ := h4; exact DataW.trod_lt m _ _ _ hm
  obtain ⟨xs4, wt4, one4, vr4⟩ := arg_rel (ss := fun _ => none) (n := 8) (P := Tryz.prog) hsz (j := 4) (t := 5) rfl rfl (by kernel_rfl) h4 (hval 4 5 v4 rfl rfl)
  obtain ⟨M', hM⟩ := PortTells_walk xs0 xs1 xs2 xs3 xs4 wt0 wt1 wt2 wt3 wt4
  refine (law_callsG (E := ES) mixed primOk (memTop hg) hM (((((VRs.one1 vr0).append (VRs.one1 vr1)).append (VRs.one1 vr2)).append (VRs.one1 vr3)).append (VRs.one1 vr4))).mono fun e W' ⟨he, bel⟩ => ?_
  subst he
  exact ⟨_, rfl, _, _, _, [], _, [], hW', trodAll_mk1 (shut_bool Tryz.underlying4 _), (trodAll_cons_mk (Below.trod laidOut (by kernel_rfl) (of_decide_eq_true (by kernel_rfl)) h0 bel lt0) (trodAll_cons_mk (Below.trod laidOut (by kernel_rfl) (of_decide_eq_true (by kernel_rfl)) h1 bel lt1) (trodAll_cons_mk (Below.trod laidOut (by kernel_rfl) (of_decide_eq_true (by kernel_rfl)) h2 bel lt2) (trodAll_cons_mk (Below.trod laidOut (by kernel_rfl) (of_decide_eq_true (by kernel_rfl)) h3 bel lt3) (trodAll_cons_mk (Below.trod laidOut (by kernel_rfl) (of_decide_eq_true (by kernel_rfl)) h4 bel lt4) trodAll_mk0))))), rfl, bel.frame _, fun h => by cases h⟩
theorem rowHolds : Rows.PortTellsSaid :=
  OpenClaim.holds_of_wide 4 Tryz.f4 rfl rfl rfl rfl rfl rfl rfl ⟨rfl, rfl, rfl, rfl, rfl⟩ rfl rfl rfl rfl rfl (by kernel_rfl) Tryz.func4 (by kernel_rfl)
    (of_decide_eq_true (by kernel_rfl)) (by unfold Func.isWrapper; first | (rw [if_pos (by decide +kernel)]; kernel_rfl) | (rw [if_neg (by decide +kernel)]; exact ⟨rfl, rfl⟩))
    (fun os started H enc _ => lifted os started H enc)
theorem plainParams : (Tryz.f4.params.toList.all fun t => !Tryz.prog.wantsStandIn t) = true := by kernel_rfl
theorem proved : Rows.PortTellsCardSaid :=
  Claim7.holds_tied_plain_at .later [] [.handle] true (true, "1a61536658d3f87ae5ed2afb315bda3983f12684e719830a6764f4a5648019ef") true
    rowHolds (fun _ h => by cases h) (by kernel_rfl) (fun _ h => by cases h) portTells_row_tie rfl ⟨rfl, rfl⟩ (by kernel_rfl) rfl
    (fun f fn hf hfn => by
      obtain rfl : f = 4 := Option.some.inj ((show Tryz.prog.funcNamed "drumline/drumlinelaw20.PortTells" = some 4 by kernel_rfl).symm.trans hf) |>.symm
      obtain rfl : fn = Tryz.f4 := (Option.some.inj (Tryz.func4.symm.trans hfn)).symm
      exact ⟨by kernel_rfl, fun j t ht => by
        have hm : t ∈ Tryz.f4.params.toList := List.mem_of_getElem? (i := j) (by rw [Array.getElem?_toList]; exact ht)
        have h0 := List.all_eq_true.1 plainParams t hm
        have h1 : Tryz.prog.wantsStandIn t = false := by simpa using h0
        exact h1⟩)
    (by kernel_rfl)
#print axioms proved
end Go.Proofs.YtljjmdcdlcefmaaGreatDoor.portTells
namespace Go.Proofs.YtljjmdcdlcefmaaGreatDoor
/-- The card, under a short name, for the claim. -/
theorem portTells_holds : Rows.PortTellsCardSaid := portTells.proved
end Go.Proofs.YtljjmdcdlcefmaaGreatDoor
