/-
  The row of PowerAgain: its walk on the shadow, said of the program; the tied card.
-/
import Derived.Test.YtfphjfbknphhjaaGreatDoorRows
import Derived.Test.YtfphjfbknphhjaaGreatDoorCards
import Derived.Test.YtfphjfbknphhjaaGreatDoorTie
import Derived.Test.YtfphjfbknphhjaaGreatDoorShMb
import Derived.Test.YtfphjfbknphhjaaGreatDoorLXain
import Derived.Test.YtfphjfbknphhjaaGreatDoorLXbin
import Derived.Test.YtfphjfbknphhjaaGreatDoorLzMm
import Derived.WalkKit
import Derived.ProofKit
import Derived.OpenShut
import Derived.ShutString
import Derived.ChangeOld
import Derived.Below
import Derived.Carry
import Derived.SizedLaws
import Derived.ChangeSame
import Derived.ChangeVars
import Derived.JoinedOf
import Derived.RowKit
import Derived.RowKitTokens
import Derived.LaidLaws
import Derived.LaidHandle
import Derived.SevenTiedAt
import Derived.Stop.LaidErr
namespace Go.Proofs.YtfphjfbknphhjaaGreatDoor.powerAgain
open Go.ChangeShapes Go.WideShapes Go.ChangeAt Go.RowKit Go.Proofs.YtfphjfbknphhjaaGreatDoor.Sh
set_option linter.unusedVariables false
set_option maxRecDepth 100000
theorem own : ownKnob Tryz.prog.godebug = none := by kernel_rfl
theorem laidOut : laidOutB Tryz.prog = true := by kernel_rfl
theorem mixed : ES.P.follows .mixedOrders = true := Checked.mixed (C := Tryz.checked)
theorem et : Tryz.prog.globalNamed "errors.errorType" = some 1 := by kernel_rfl
theorem rtype : (Tryz.prog.cutTypes.find? (·.1 == "internal/reflectlite.rtype")).map (·.2) = some 175 := by kernel_rfl
theorem oneRow : ((List.range 259).filter fun t => Tryz.prog.rowNamed t [101, 114, 114, 111, 114]) = [120] := by kernel_rfl
theorem size : Tryz.prog.types.size = 259 := by kernel_rfl
theorem handle_of_laid {W : World} (h : laidMetH Tryz.prog [("errors.errorType", Rows.laid_errors_errorType), ("drumline/bounds.out", Rows.laid_drumline_bounds_out)] W) : W.cell? ⟨1, 0, none⟩ = some Zm1 := by
  have h' : laidMet Tryz.prog [("drumline/bounds.out", Rows.laid_drumline_bounds_out)] W ∧ handlesMet Tryz.prog [("errors.errorType", Rows.laid_errors_errorType)] W := h
  obtain ⟨name, u, ty, e1, e2, e3, e4, e5⟩ := h'.2 _ (List.mem_singleton.2 rfl)
  have en : name = [101, 114, 114, 111, 114] := (Option.some.inj e1).symm
  subst en
  obtain rfl := Option.some.inj (rtype.symm.trans e2)
  have hm : ty ∈ (List.range 259).filter fun t => Tryz.prog.rowNamed t [101, 114, 114, 111, 114] := List.mem_filter.2 ⟨List.mem_range.2 (by rw [← size]; exact e3), e4⟩
  rw [oneRow] at hm
  obtain rfl := List.mem_singleton.1 hm
  have hh : typeHandle Tryz.prog 120 = .pointer (some ⟨2, 120, none⟩) := by kernel_rfl
  rw [hh] at e5
  exact World.var?_cell et e5 0
theorem gO : Tryz.prog.globalNamed "drumline/bounds.out" = some 0 := by kernel_rfl
theorem gOType : (Tryz.prog.globals[0]?).map (·.type) = some 120 := by kernel_rfl
theorem Zaby : "*" ++ "errors.errorString" = "*errors.errorString" := by decide
theorem rowO (u : TypeId) (h : Tryz.prog.typeName? 3 u = some "*errors.errorString") : u = 225 :=
  typeName_ptr_named (nm := "errors.errorString") (by rw [Zaby]; kernel_rfl) (by kernel_rfl) (by decide) u (by rw [Zaby]; exact h)
theorem Zi4 {W : World} (h : laidMetH Tryz.prog [("errors.errorType", Rows.laid_errors_errorType), ("drumline/bounds.out", Rows.laid_drumline_bounds_out)] W) : ∃ (a : Addr) (s : ByteArray), W.cell? ⟨0, 0, none⟩ = some (.iface 225 (.pointer (some a))) ∧ W.cell? a = some (.string s) := by
  have h' : laidMet Tryz.prog [("drumline/bounds.out", Rows.laid_drumline_bounds_out)] W ∧ handlesMet Tryz.prog [("errors.errorType", Rows.laid_errors_errorType)] W := h
  obtain ⟨a, s, hv, hc, _, _⟩ := laid_sentinel h'.1 gO gOType Tryz.underlying120 rowO Tryz.underlying225 Tryz.underlying247 rfl rfl Tryz.underlying9 (by kernel_rfl) (by kernel_rfl)
  exact ⟨a, s, by simpa using World.var?_cell gO hv 0, hc⟩
abbrev outS : ByteArray := { data := #[98, 111, 117, 110, 100, 115, 58, 32, 111, 117, 116, 32, 111, 102, 32, 114, 97, 110, 103, 101] }
noncomputable def low : Nat := (World.holding Tryz.prog default ⟨#[], #[], []⟩).heap.size
noncomputable def laidWorld (os : Os) : World :=
  let w0 := World.holding Tryz.prog os ⟨#[.cells #[.string outS] 247], #[], []⟩
  { w0 with heap := (w0.heap.modify 1 fun
      | .cells _ t frozen => .cells #[Zm1] t frozen
      | o => o).modify 0 fun
      | .cells _ t frozen => .cells #[.iface 225 (.pointer (some ⟨low, 0, none⟩))] t frozen
      | o => o }
theorem laidWorld_met (os : Os) (args : Array Value) : laidMetH Tryz.prog [("errors.errorType", Rows.laid_errors_errorType), ("drumline/bounds.out", Rows.laid_drumline_bounds_out)] ((laidWorld os).forCall (fun _ _ => 0) ⟨#[], args, []⟩).memory :=
  laidMetH_of_parts (laidMet_of_run (ps := [.cell 0 0, .cell low 0]) 8 (by kernel_rfl) (by kernel_rfl) (by kernel_rfl)) (by kernel_rfl)
def Zqi (a : Addr) : Nat → Option Value := fun t => if t = Ze6 then some (.pointer (some a)) else none
theorem Zab7 {W : World} {a : Addr} {s : ByteArray} (hg : W.cell? ⟨1, 0, none⟩ = some Zm1) (ho : W.cell? ⟨0, 0, none⟩ = some (.iface 225 (.pointer (some a)))) (ha : W.cell? a = some (.string s)) : MR ES (Zuo W (Zqi a)) W .empty (fun _ => True) :=
  Zas0 W (fun n items h => by
    have h' : (if n = 0 then some [SV.iface Ze6 (.rptr [] 0 0 true)] else none) = some items := h
    split at h'
    case isFalse => cases h'
    rename_i hn
    simp only [Option.some.injEq] at h'
    subst hn h'
    refine ⟨rfl, VR.rptr [SV.iface Ze6 (.rptr [] 0 0 true)] 0 0 true 0 0 1 (fun _ => .iface 225 (.pointer (some a))) (fun x hx => by simp only [List.mem_singleton] at hx; subst hx; rfl) (fun k c hk => ?_) (fun k c hk => ?_)⟩
    · have hk' : [SV.iface Ze6 (.rptr [] 0 0 true)][k]? = some c := hk
      cases k with
      | zero =>
        simp only [List.getElem?_cons_zero, Option.some.injEq] at hk'
        subst hk'
        exact ⟨rfl, by
          have hlt := lt_of_cell? ho
          have hst : (Zuo W (Zqi a)).stab 0 (0 + 0) := .inl hlt
          simpa [Gh.sees] using hst, ho⟩
      | succ k => simp at hk'
    · have hk' : [SV.iface Ze6 (.rptr [] 0 0 true)][k]? = some c := hk
      cases k with
      | zero =>
        simp only [List.getElem?_cons_zero, Option.some.injEq] at hk'
        subst hk'
        obtain ⟨b, o, sp⟩ := a
        have hsp : sp = none := by
          cases sp with
          | none => rfl
          | some q =>
            unfold World.cell? at ha
            split at ha
            · simp at ha
            · cases ha
        subst hsp
        refine VR.iface Ze6 _ _ (fun u hu => ?_) (VR.rptr [] 0 0 true b o 0 (fun _ => undef) (fun x hx => by cases hx) (fun k c hk => by simp [flat] at hk) (fun k c hk => by simp [flat] at hk))
        have hu' : (if Ze6 = Ze6 then some (Value.pointer (some ⟨b, o, none⟩)) else none) = some u := hu
        simpa using hu'
      | succ k => simp at hk') (fun n v h => by
    have h' : (if n = 1 then some Zm1 else none) = some v := h
    split at h'
    · rename_i hn
      cases h'
      subst hn
      exact ⟨lt_of_cell? hg, hg⟩
    · cases h') (fun t => by
    have e : ES.sent t = (t == Ze6) := rfl
    have e2 : (Zuo W (Zqi a)).sent t = (if t = Ze6 then some (.pointer (some a)) else none) := rfl
    rw [e, e2]
    by_cases ht : t = Ze6
    · subst ht
      exact ⟨fun h => by simp at h, fun _ => ⟨a, by simp⟩⟩
    · exact ⟨fun _ => by simp [ht], fun h => by simp [ht] at h⟩)
theorem lifted (os : Os) (started : os.Started) (H : Type) (enc : TypeId × Value → H) :
    ReturnsInHanded {} Tryz.checked os 5 .any (fun w args => (Rows.powerAgainSpec.pre enc Tryz.prog Tryz.f5 [] false w args ∧ laidMetH Tryz.prog [("errors.errorType", Rows.laid_errors_errorType), ("drumline/bounds.out", Rows.laid_drumline_bounds_out)] w) ∧ sizedMet enc Tryz.prog Tryz.f5 (OpenSpec.ofChange Rows.powerAgainSpec) false w args) (Rows.powerAgainSpec.post enc Tryz.prog Tryz.f5 false true false false) := by
  refine returnsInHanded_of_change_and (C := Tryz.checked) (X := fun w _ => laidMetH Tryz.prog [("errors.errorType", Rows.laid_errors_errorType), ("drumline/bounds.out", Rows.laid_drumline_bounds_out)] w) (fun _ _ _ hh h => h.of_heap hh) own started (by kernel_rfl) Tryz.func5
    (ChangeSpec.witness_at (enc := enc) (C := Tryz.checked) (os := os) (X := fun w _ => laidMetH Tryz.prog [("errors.errorType", Rows.laid_errors_errorType), ("drumline/bounds.out", Rows.laid_drumline_bounds_out)] w) false (laidWorld os) #[.int .i64 0, .slice none 0 0, .int .u8 0, .int .u8 0] 8 rfl (by kernel_rfl) (by kernel_rfl) (by kernel_rfl) (by kernel_rfl) (by kernel_rfl) (laidWorld_met os _)) ?_
  intro W base args ds gs before hval0 hW _ hsz0 hL _
  have hsz : (DataW.weightsEach Tryz.prog (Tryz.f5.params.toList ++ Rows.powerAgainSpec.plain.varTypes Tryz.prog) (ds ++ gs)).all (· ≤ reachBytes) = true := hsz0
  have hval : ∀ (j : Nat) t v, Tryz.f5.params[j]? = some t → args[j]? = some v → Value.okWide Tryz.prog W .any base t v := hval0
  have hW' := hW
  have hg := handle_of_laid hL
  obtain ⟨sa, ss, ho, hsa⟩ := Zi4 hL
  obtain ⟨p, q, hA0, hV, rfl, hfz, hnd⟩ := hW
  have hA : DataW.TrodAll enc Tryz.prog W 0 (fun _ => true) true Tryz.f5.params.toList args.toList ds p := hA0
  rw [Tryz.params5] at hA hval hsz
  obtain ⟨v0, vs0, d0, ds0, p0, q0, hargs, rfl, rfl, h0, r0⟩ := trodAll_cons hA
  obtain ⟨v1, vs1, d1, ds1, p1, q1, rfl, rfl, rfl, h1, r1⟩ := trodAll_cons r0
  obtain ⟨v2, vs2, d2, ds2, p2, q2, rfl, rfl, rfl, h2, r2⟩ := trodAll_cons r1
  obtain ⟨v3, vs3, d3, ds3, p3, q3, rfl, rfl, rfl, h3, r3⟩ := trodAll_cons r2
  obtain ⟨rfl, rfl, rfl⟩ := trodAll_nil r3
  obtain rfl : args = #[v0, v1, v2, v3] := by cases args; simp_all
  obtain ⟨rfl, rfl⟩ := trodVars_none hV
  have lt0 : ∀ x ∈ p0, x.block < W.heap.size := by obtain ⟨m, hm⟩ := h0; exact DataW.trod_lt m _ _ _ hm
  obtain ⟨xs0, wt0, one0, vr0⟩ := Zpp (ss := Zqi sa) (n := 8) (P := Tryz.prog) hsz (j := 0) (t := 3) rfl rfl (by kernel_rfl) h0 (hval 0 3 v0 rfl rfl)
  have lt1 : ∀ x ∈ p1, x.block < W.heap.size := by obtain ⟨m, hm⟩ := h1; exact DataW.trod_lt m _ _ _ hm
  obtain ⟨xs1, wt1, one1, vr1⟩ := Zpp (ss := Zqi sa) (n := 8) (P := Tryz.prog) hsz (j := 1) (t := 22) rfl rfl (by kernel_rfl) h1 (hval 1 22 v1 rfl rfl)
  have lt2 : ∀ x ∈ p2, x.block < W.heap.size := by obtain ⟨m, hm⟩ := h2; exact DataW.trod_lt m _ _ _ hm
  obtain ⟨xs2, wt2, one2, vr2⟩ := Zpp (ss := Zqi sa) (n := 8) (P := Tryz.prog) hsz (j := 2) (t := 5) rfl rfl (by kernel_rfl) h2 (hval 2 5 v2 rfl rfl)
  have lt3 : ∀ x ∈ p3, x.block < W.heap.size := by obtain ⟨m, hm⟩ := h3; exact DataW.trod_lt m _ _ _ hm
  obtain ⟨xs3, wt3, one3, vr3⟩ := Zpp (ss := Zqi sa) (n := 8) (P := Tryz.prog) hsz (j := 3) (t := 5) rfl rfl (by kernel_rfl) h3 (hval 3 5 v3 rfl rfl)
  obtain ⟨M', hM⟩ := Zx17 xs0 xs1 xs2 xs3 wt0 wt1 wt2 wt3
  refine (Zws (E := ES) mixed Zama (Zab7 hg ho hsa) hM ((((VRs.one1 vr0).append (VRs.one1 vr1)).append (VRs.one1 vr2)).append (VRs.one1 vr3))).mono fun e W' ⟨he, bel⟩ => ?_
  subst he
  exact ⟨_, rfl, _, _, _, [], _, [], hW', trodAll_mk1 (shut_bool Tryz.underlying4 _), (trodAll_cons_mk (Below.trod laidOut (by kernel_rfl) (of_decide_eq_true (by kernel_rfl)) h0 bel lt0) (trodAll_cons_mk (Below.trod laidOut (by kernel_rfl) (of_decide_eq_true (by kernel_rfl)) h1 bel lt1) (trodAll_cons_mk (Below.trod laidOut (by kernel_rfl) (of_decide_eq_true (by kernel_rfl)) h2 bel lt2) (trodAll_cons_mk (Below.trod laidOut (by kernel_rfl) (of_decide_eq_true (by kernel_rfl)) h3 bel lt3) trodAll_mk0)))), rfl, bel.frame _, fun h => by cases h⟩
theorem Zvx : Rows.PowerAgainSaid :=
  OpenClaim.holds_of_wide 5 Tryz.f5 rfl rfl rfl rfl rfl rfl rfl ⟨rfl, rfl, rfl, rfl, rfl⟩ rfl rfl rfl rfl rfl (by kernel_rfl) Tryz.func5 (by kernel_rfl)
    (of_decide_eq_true (by kernel_rfl)) (by unfold Func.isWrapper; first | (rw [if_pos (by decide +kernel)]; kernel_rfl) | (rw [if_neg (by decide +kernel)]; exact ⟨rfl, rfl⟩))
    (fun os started H enc _ => lifted os started H enc)
theorem Zp2 : (Tryz.f5.params.toList.all fun t => !Tryz.prog.wantsStandIn t) = true := by kernel_rfl
theorem proved : Rows.PowerAgainCardSaid :=
  Claim7.holds_tied_plain_at .later [] [.handle, .sentinel] true (true, "93156667d279fc29f0b9f9200cc394342773177fe55545ed117b841a9e73ef3a") true
    Zvx (fun _ h => by cases h) (by kernel_rfl) (fun _ h => by cases h) powerAgain_row_tie rfl ⟨rfl, rfl⟩ (by kernel_rfl) rfl
    (fun f fn hf hfn => by
      obtain rfl : f = 5 := Option.some.inj ((show Tryz.prog.funcNamed "drumline/drumlinelaw24.PowerAgain" = some 5 by kernel_rfl).symm.trans hf) |>.symm
      obtain rfl : fn = Tryz.f5 := (Option.some.inj (Tryz.func5.symm.trans hfn)).symm
      exact ⟨by kernel_rfl, fun j t ht => by
        have hm : t ∈ Tryz.f5.params.toList := List.mem_of_getElem? (i := j) (by rw [Array.getElem?_toList]; exact ht)
        have h0 := List.all_eq_true.1 Zp2 t hm
        have h1 : Tryz.prog.wantsStandIn t = false := by simpa using h0
        exact h1⟩)
    (by kernel_rfl)
#print axioms proved
end Go.Proofs.YtfphjfbknphhjaaGreatDoor.powerAgain
namespace Go.Proofs.YtfphjfbknphhjaaGreatDoor
/-- The card, under a short name, for the claim. -/
theorem powerAgain_holds : Rows.PowerAgainCardSaid := powerAgain.proved
end Go.Proofs.YtfphjfbknphhjaaGreatDoor
