/-
  The row of GaugeTrue: its walk on the shadow, said of the program; the tied card.
-/
import Derived.Test.YtomlbmbgocmiiaaDoorRows
import Derived.Test.YtomlbmbgocmiiaaDoorCards
import Derived.Test.YtomlbmbgocmiiaaDoorTie
import Derived.Test.YtomlbmbgocmiiaaDoorLIe
import Derived.Test.YtomlbmbgocmiiaaDoorLPd
import Derived.Test.YtomlbmbgocmiiaaDoorShMb
import Derived.WalkKit
import Derived.ProofKit
import Derived.OpenShut
import Derived.ShutString
import Derived.ChangeOld
import Derived.Below
import Derived.Carry
import Derived.SizedLaws
import Derived.ChangeSame
import Derived.ChangeVars
import Derived.JoinedOf
import Derived.RowKit
import Derived.RowKitTokens
import Derived.LaidLaws
import Derived.LaidHandle
import Derived.SevenTiedAt
namespace Go.Proofs.YtomlbmbgocmiiaaDoor.gaugeTrue
open Go.ChangeShapes Go.WideShapes Go.ChangeAt Go.RowKit Go.Proofs.YtomlbmbgocmiiaaDoor.Sh
set_option linter.unusedVariables false
set_option maxRecDepth 100000
theorem own : ownKnob Tryd.prog.godebug = none := by kernel_rfl
theorem laidOut : laidOutB Tryd.prog = true := by kernel_rfl
theorem mixed : ES.P.follows .mixedOrders = true := Checked.mixed (C := Tryd.checked)
theorem et : Tryd.prog.globalNamed "errors.errorType" = some 0 := by kernel_rfl
theorem rtype : (Tryd.prog.cutTypes.find? (·.1 == "internal/reflectlite.rtype")).map (·.2) = some 104 := by kernel_rfl
theorem oneRow : ((List.range 163).filter fun t => Tryd.prog.rowNamed t [101, 114, 114, 111, 114]) = [68] := by kernel_rfl
theorem size : Tryd.prog.types.size = 163 := by kernel_rfl
theorem handle_of_laid {W : World} (h : laidMetH Tryd.prog [("errors.errorType", Rows.laid_errors_errorType)] W) : W.cell? ⟨0, 0, none⟩ = some handleV := by
  have h' : laidMet Tryd.prog [] W ∧ handlesMet Tryd.prog [("errors.errorType", Rows.laid_errors_errorType)] W := h
  obtain ⟨name, u, ty, e1, e2, e3, e4, e5⟩ := h'.2 _ (List.mem_singleton.2 rfl)
  have en : name = [101, 114, 114, 111, 114] := (Option.some.inj e1).symm
  subst en
  obtain rfl := Option.some.inj (rtype.symm.trans e2)
  have hm : ty ∈ (List.range 163).filter fun t => Tryd.prog.rowNamed t [101, 114, 114, 111, 114] := List.mem_filter.2 ⟨List.mem_range.2 (by rw [← size]; exact e3), e4⟩
  rw [oneRow] at hm
  obtain rfl := List.mem_singleton.1 hm
  have hh : typeHandle Tryd.prog 68 = .pointer (some ⟨1, 68, none⟩) := by kernel_rfl
  rw [hh] at e5
  exact World.var?_cell et e5 0
noncomputable def laidWorld (os : Os) : World :=
  let w0 := World.holding Tryd.prog os ⟨#[], #[], []⟩
  { w0 with heap := w0.heap.modify 0 fun
      | .cells _ t frozen => .cells #[handleV] t frozen
      | o => o }
theorem laidWorld_met (os : Os) (args : Array Value) : laidMetH Tryd.prog [("errors.errorType", Rows.laid_errors_errorType)] ((laidWorld os).forCall (fun _ _ => 0) ⟨#[], args, []⟩).memory :=
  laidMetH_of_parts (laidMet_nil _ _) (by kernel_rfl)
theorem memTop {W : World} (hg : W.cell? ⟨0, 0, none⟩ = some handleV) : MR ES (topG W fun _ => none) W .empty (fun _ => True) :=
  topMG W (fun n items h => by cases h) (fun n v h => by
    have h' : (if n = 0 then some handleV else none) = some v := h
    split at h'
    · rename_i hn
      cases h'
      subst hn
      exact ⟨lt_of_cell? hg, hg⟩
    · cases h') (fun t => ⟨fun _ => rfl, fun h => by cases h⟩)
theorem lifted (os : Os) (started : os.Started) (H : Type) (enc : TypeId × Value → H) :
    ReturnsInHanded {} Tryd.checked os 3 .any (fun w args => (Rows.gaugeTrueSpec.pre enc Tryd.prog Tryd.f3 [] false w args ∧ laidMetH Tryd.prog [("errors.errorType", Rows.laid_errors_errorType)] w) ∧ sizedMet enc Tryd.prog Tryd.f3 (OpenSpec.ofChange Rows.gaugeTrueSpec) false w args) (Rows.gaugeTrueSpec.post enc Tryd.prog Tryd.f3 false true false false) := by
  refine returnsInHanded_of_change_and (C := Tryd.checked) (X := fun w _ => laidMetH Tryd.prog [("errors.errorType", Rows.laid_errors_errorType)] w) (fun _ _ _ hh h => h.of_heap hh) own started (by kernel_rfl) Tryd.func3
    (ChangeSpec.witness_at (enc := enc) (C := Tryd.checked) (os := os) (X := fun w _ => laidMetH Tryd.prog [("errors.errorType", Rows.laid_errors_errorType)] w) false (laidWorld os) #[.int .i64 0, .int .i64 0, .agg #[.int .i64 0, .int .i64 0], .int .i64 0, .int .u16 0] 8 rfl (by kernel_rfl) (by kernel_rfl) (by kernel_rfl) (by kernel_rfl) (by kernel_rfl) (laidWorld_met os _)) ?_
  intro W base args ds gs before hval0 hW _ hsz0 hL _
  have hsz : (DataW.weightsEach Tryd.prog (Tryd.f3.params.toList ++ Rows.gaugeTrueSpec.plain.varTypes Tryd.prog) (ds ++ gs)).all (· ≤ reachBytes) = true := hsz0
  have hval : ∀ (j : Nat) t v, Tryd.f3.params[j]? = some t → args[j]? = some v → Value.okWide Tryd.prog W .any base t v := hval0
  have hW' := hW
  have hg := handle_of_laid hL
  obtain ⟨p, q, hA0, hV, rfl, hfz, hnd⟩ := hW
  have hA : DataW.TrodAll enc Tryd.prog W 0 (fun _ => true) true Tryd.f3.params.toList args.toList ds p := hA0
  rw [Tryd.params3] at hA hval hsz
  obtain ⟨v0, vs0, d0, ds0, p0, q0, hargs, rfl, rfl, h0, r0⟩ := trodAll_cons hA
  obtain ⟨v1, vs1, d1, ds1, p1, q1, rfl, rfl, rfl, h1, r1⟩ := trodAll_cons r0
  obtain ⟨v2, vs2, d2, ds2, p2, q2, rfl, rfl, rfl, h2, r2⟩ := trodAll_cons r1
  obtain ⟨v3, vs3, d3, ds3, p3, q3, rfl, rfl, rfl, h3, r3⟩ := trodAll_cons r2
  obtain ⟨v4, vs4, d4, ds4, p4, q4, rfl, rfl, rfl, h4, r4⟩ := trodAll_cons r3
  obtain ⟨rfl, rfl, rfl⟩ := trodAll_nil r4
  obtain rfl : args = #[v0, v1, v2, v3, v4] := by cases args; simp_all
  obtain ⟨rfl, rfl⟩ := trodVars_none hV
  have lt0 : ∀ x ∈ p0, x.block < W.heap.size := by obtain ⟨m, hm⟩ := h0; exact DataW.trod_lt m _ _ _ hm
  obtain ⟨xs0, wt0, one0, vr0⟩ := arg_rel (ss := fun _ => none) (n := 8) (P := Tryd.prog) hsz (j := 0) (t := 3) rfl rfl (by kernel_rfl) h0 (hval 0 3 v0 rfl rfl)
  have lt1 : ∀ x ∈ p1, x.block < W.heap.size := by obtain ⟨m, hm⟩ := h1; exact DataW.trod_lt m _ _ _ hm
  obtain ⟨xs1, wt1, one1, vr1⟩ := arg_rel (ss := fun _ => none) (n := 8) (P := Tryd.prog) hsz (j := 1) (t := 2) rfl rfl (by kernel_rfl) h1 (hval 1 2 v1 rfl rfl)
  have lt2 : ∀ x ∈ p2, x.block < W.heap.size := by obtain ⟨m, hm⟩ := h2; exact DataW.trod_lt m _ _ _ hm
  obtain ⟨xs2, wt2, one2, vr2⟩ := arg_rel (ss := fun _ => none) (n := 8) (P := Tryd.prog) hsz (j := 2) (t := 22) rfl rfl (by kernel_rfl) h2 (hval 2 22 v2 rfl rfl)
  have lt3 : ∀ x ∈ p3, x.block < W.heap.size := by obtain ⟨m, hm⟩ := h3; exact DataW.trod_lt m _ _ _ hm
  obtain ⟨xs3, wt3, one3, vr3⟩ := arg_rel (ss := fun _ => none) (n := 8) (P := Tryd.prog) hsz (j := 3) (t := 3) rfl rfl (by kernel_rfl) h3 (hval 3 3 v3 rfl rfl)
  have lt4 : ∀ x ∈ p4, x.block < W.heap.size := by obtain ⟨m, hm⟩ := h4; exact DataW.trod_lt m _ _ _ hm
  obtain ⟨xs4, wt4, one4, vr4⟩ := arg_rel (ss := fun _ => none) (n := 8) (P := Tryd.prog) hsz (j := 4) (t := 23) rfl rfl (by kernel_rfl) h4 (hval 4 23 v4 rfl rfl)
  obtain ⟨M', hM⟩ := GaugeTrue_walk xs0 xs1 xs2 xs3 xs4 wt0 wt1 wt2 wt3 wt4
  refine (law_callsG (E := ES) mixed primOk (memTop hg) hM (((((VRs.one1 vr0).append (VRs.one1 vr1)).append (VRs.one1 vr2)).append (VRs.one1 vr3)).append (VRs.one1 vr4))).mono fun e W' ⟨he, bel⟩ => ?_
  subst he
  exact ⟨_, rfl, _, _, _, [], _, [], hW', trodAll_mk1 (shut_bool Tryd.underlying4 _), (trodAll_cons_mk (Below.trod laidOut (by kernel_rfl) (of_decide_eq_true (by kernel_rfl)) h0 bel lt0) (trodAll_cons_mk (Below.trod laidOut (by kernel_rfl) (of_decide_eq_true (by kernel_rfl)) h1 bel lt1) (trodAll_cons_mk (Below.trod laidOut (by kernel_rfl) (of_decide_eq_true (by kernel_rfl)) h2 bel lt2) (trodAll_cons_mk (Below.trod laidOut (by kernel_rfl) (of_decide_eq_true (by kernel_rfl)) h3 bel lt3) (trodAll_cons_mk (Below.trod laidOut (by kernel_rfl) (of_decide_eq_true (by kernel_rfl)) h4 bel lt4) trodAll_mk0))))), rfl, bel.frame _, fun h => by cases h⟩
theorem rowHolds : Rows.GaugeTrueSaid :=
  OpenClaim.holds_of_wide 3 Tryd.f3 rfl rfl rfl rfl rfl rfl rfl ⟨rfl, rfl, rfl, rfl, rfl⟩ rfl rfl rfl rfl rfl (by kernel_rfl) Tryd.func3 (by kernel_rfl)
    (of_decide_eq_true (by kernel_rfl)) (by unfold Func.isWrapper; first | (rw [if_pos (by decide +kernel)]; kernel_rfl) | (rw [if_neg (by decide +kernel)]; exact ⟨rfl, rfl⟩))
    (fun os started H enc _ => lifted os started H enc)
theorem plainParams : (Tryd.f3.params.toList.all fun t => !Tryd.prog.wantsStandIn t) = true := by kernel_rfl
theorem proved : Rows.GaugeTrueCardSaid :=
  Claim7.holds_tied_plain_at .later [] [.handle] true (true, "913e1a25361608e8c9776a183e9ee89cf03192c4044f7295a8b4c7ac9dd357f0") true
    rowHolds (fun _ h => by cases h) (by kernel_rfl) (fun _ h => by cases h) gaugeTrue_row_tie rfl ⟨rfl, rfl⟩ (by kernel_rfl) rfl
    (fun f fn hf hfn => by
      obtain rfl : f = 3 := Option.some.inj ((show Tryd.prog.funcNamed "drumline/drumlinelaw12.GaugeTrue" = some 3 by kernel_rfl).symm.trans hf) |>.symm
      obtain rfl : fn = Tryd.f3 := (Option.some.inj (Tryd.func3.symm.trans hfn)).symm
      exact ⟨by kernel_rfl, fun j t ht => by
        have hm : t ∈ Tryd.f3.params.toList := List.mem_of_getElem? (i := j) (by rw [Array.getElem?_toList]; exact ht)
        have h0 := List.all_eq_true.1 plainParams t hm
        have h1 : Tryd.prog.wantsStandIn t = false := by simpa using h0
        exact h1⟩)
    (by kernel_rfl)
#print axioms proved
end Go.Proofs.YtomlbmbgocmiiaaDoor.gaugeTrue
namespace Go.Proofs.YtomlbmbgocmiiaaDoor
/-- The card, under a short name, for the claim. -/
theorem gaugeTrue_holds : Rows.GaugeTrueCardSaid := gaugeTrue.proved
end Go.Proofs.YtomlbmbgocmiiaaDoor
