/-
  Walks of the seat's functions: Mt.
-/
import Derived.Test.YtedmidpnfnhnlaaEb0
import Derived.Test.YtedmidpnfnhnlaaShMb
import Derived.Test.YtedmidpnfnhnlaaLMl
import Derived.Test.YtedmidpnfnhnlaaLCl
import Derived.Test.YtedmidpnfnhnlaaLzMb
import Derived.Test.YtedmidpnfnhnlaaEq
set_option linter.unusedVariables false
set_option linter.unusedSimpArgs false
set_option maxRecDepth 100000
namespace Go.Proofs.Ytedmidpnfnhnlaa
open Go.Proofs.Ytedmidpnfnhnlaa.Sh
/-! middle.Cut, middle.Mid. -/
theorem entersSort : Sh.Enters ES.P n_slices_Sort_sl_int64_int64 := by
  refine ⟨_, Try.func15, by rfl, ?_⟩
  exact of_decide_eq_true (by kernel_rfl)
theorem primOk : PrimOk ES := by
  intro f p hp
  have hp' : primOf f = some p := hp
  unfold primOf at hp'
  split at hp'
  · rename_i hf
    simp only [Option.some.injEq] at hp'
    subst hp'
    subst hf
    exact sort_ok entersSort fun blk off cap zs w h1 h2 h3 => AnyM.slices_Sort_int Try.mSort blk off cap zs w h1 h2 h3
  · cases hp'
theorem ICw_pr {E : Env} {f : Nat} {p : List SV → Mem → Option (SV × Mem)} (h : E.prim f = some p) (args : List SV) (M : Mem) : ICw E f args M = p args M := by
  apply Option.ext
  intro r
  rw [ICw_eq]
  constructor
  · rintro ⟨n, hn⟩
    cases n with
    | zero => simp [callN] at hn
    | succ n => simpa [callN, h] using hn
  · intro hr
    exact ⟨1, by simpa [callN, h] using hr⟩
theorem sort_ic {q : Nat} {l : List Int} {M : Mem} (hq : M.blk q = some (numSV l)) (hb : l.length < 1000000) : ICw ES n_slices_Sort_sl_int64_int64 [.own q 1 0 l.length] M = some (.tup [], M.set q (some (numSV (isortI l)))) := by
  rw [ICw_pr (p := prim_slices_Sort_sl_int64_int64) rfl]
  have h := numsOf_of l
  simp only [prim_slices_Sort_sl_int64_int64, prim_slices_Sort, hq]
  rw [show numSV l = l.map (SV.int .i64) from rfl, h]
  simp only [hb, and_self, if_true]
  rfl
theorem Nums.at {x : SV} {l : List Int} (h : Nums x l) {j : Nat} (hj : j < l.length) : indexAddrS ES.P T_sl_int64 x (.int .i64 j) = some (.rptr (l.map (SV.int .i64)) j 0 (stOf x)) := RSl.at h ti_sl_int64 ti_int64 (fun _ => rfl) hj
theorem Nums.ld {l : List Int} {j : Nat} (hj : j < l.length) (get : Nat → Option (List SV)) (z : Bool) : loadS ES.P get T_int64 (.rptr (l.map (SV.int .i64)) j 0 z) = some (.int .i64 l[j]) := loadS_rptr ti_int64 (x := .int .i64 l[j]) (by simp [hj]) rfl
theorem half_div {n : Nat} (h : 1 ≤ n) : IntKind.i64.wrap (((n : Int) - 1).tdiv 2) = IntKind.i64.wrap (((n - 1) / 2 : Nat) : Int) := by
  rw [Int.tdiv_eq_ediv_of_nonneg (by omega)]
  congr 1
  omega
set_option maxHeartbeats 4000000 in
theorem middle_Cut_c {x : SV} {l : List Int} (hx : Nums x l) (hb : l.length ≤ 100000) (f : Int) :
    ∃ z, (∀ get, callP (PCw ES) get n_middle_Cut [x, .int .i64 f] = some (.tup [z, .bool (cutOk l f)])) ∧ Nums z (if cutOk l f then cutL l f.toNat else []) := by
  have hlen := hx.lenS ti_sl_int64
  by_cases h0 : f < 0
  · have e : cutOk l f = false := by simp only [cutOk, decide_eq_false_iff_not]; omega
    refine ⟨.nilsl, fun get => callP_of (PCw_ex (fun M0 => ?_) rfl) (by simp [hx.np]), by rw [e]; exact RSl.nil _⟩
    rw [b_middle_Cut, e]
    simp [c_middle_Cut, evW_reg, evW_chkr, isCst, TK.agg, zeroS, endS, resS, h0]
  · obtain ⟨k, rfl⟩ : ∃ k : Nat, f = k := ⟨f.toNat, by omega⟩
    by_cases h1 : l.length < 1
    · have e : cutOk l k = false := by simp only [cutOk, decide_eq_false_iff_not]; omega
      have h1' : (l.length : Int) < 1 := by omega
      refine ⟨.nilsl, fun get => callP_of (PCw_ex (fun M0 => ?_) rfl) (by simp [hx.np]), by rw [e]; exact RSl.nil _⟩
      rw [b_middle_Cut, e]
      simp [c_middle_Cut, evW_reg, evW_chkr, isCst, TK.agg, zeroS, endS, resS, h0, hlen, h1']
    · have h1' : ¬ (l.length : Int) < 1 := by omega
      have w1 : IntKind.i64.wrap ((l.length : Int) - 1) = (l.length : Int) - 1 := i64_in (by omega) (by omega)
      have w2 : IntKind.i64.wrap (((l.length : Int) - 1).tdiv 2) = ((l.length : Int) - 1) / 2 := by
        rw [Int.tdiv_eq_ediv_of_nonneg (by omega)]
        exact i64_in (by omega) (by omega)
      by_cases h2 : ((l.length : Int) - 1) / 2 < k
      · have e : cutOk l k = false := by simp only [cutOk, decide_eq_false_iff_not]; omega
        refine ⟨.nilsl, fun get => callP_of (PCw_ex (fun M0 => ?_) rfl) (by simp [hx.np]), by rw [e]; exact RSl.nil _⟩
        rw [b_middle_Cut, e]
        simp [c_middle_Cut, evW_reg, evW_chkr, isCst, TK.agg, zeroS, endS, resS, h0, hlen, h1', w1, w2, h2]
      · have e : cutOk l k = true := by simp only [cutOk, decide_eq_true_eq]; omega
        have hk : 2 * k + 1 ≤ l.length := by omega
        have w3 : IntKind.i64.wrap ((l.length : Int) - k) = ((l.length - k : Nat) : Int) := by rw [i64_in (by omega) (by omega)]; omega
        have main : ∀ M0 : Mem, ∃ z M', ICw ES n_middle_Cut [x, .int .i64 k] M0 = some (.tup [.own z 1 0 (l.length - 2 * k), .bool true], M') ∧ M'.blk z = some (numSV (cutL l k)) := by
          intro M0
          rw [b_middle_Cut]
          obtain ⟨o, M1, c1, c2, c3, c4, c5⟩ := clone_sl_int64_int64 hx (by omega) (M0.bump 3)
          rcases c2 with ⟨q1, _⟩ | ⟨q, rfl, q2, q3⟩
          · have : (numSV l).length = 0 := by rw [q1]; rfl
            rw [numSV_len] at this
            omega
          · rw [numSV_len] at c1
            have s1 := sort_ic (M := M1.bump 2) (l := l) q2 (by omega)
            obtain ⟨M3, d1, d2, d3⟩ := cloneOwn_sl_int64_int64 (q := q) (i := k) (n := l.length - 2 * k) (l := isortI l) (M := (((M1.bump 2).set q (some (numSV (isortI l)))).bump 10)) (by simp) (by show q < M1.next + 2 + 10; omega) (by rw [isortI_len]; omega) (by omega) (by rw [isortI_len]; omega)
            have sl : sliceS ES.P T_sl_int64 (.own q 1 0 l.length) (some (.int .i64 k)) (some (.int .i64 ((l.length - k : Nat) : Int))) none = some (.own q 1 k (l.length - 2 * k)) := by
              have n1 : natS (.int .i64 (k : Int)) = some k := by simp [natS]
              have n2 : natS (.int .i64 ((l.length - k : Nat) : Int)) = some (l.length - k) := by simp only [natS]; rw [if_pos (by omega)]; simp
              have b1 : k ≤ l.length - k ∧ l.length - k ≤ l.length := by omega
              have b2 : ¬ k = l.length - k := by omega
              have b3 : l.length - k - k = l.length - 2 * k := by omega
              simp only [sliceS, ti_sl_int64, ti_int64, boundsS, n1, n2]
              simp [b1, b2, b3]
            have hlo : lenS ES.P T_sl_int64 (.own q 1 0 l.length) = some (.int .i64 l.length) := by simp [lenS]
            refine ⟨_, M3, ?_, d2⟩
            simp [c_middle_Cut, evW_reg, evW_chkr, isCst, TK.agg, zeroS, endS, resS, h0, hlen, h1', w1, w2, h2, c1, s1, hlo, w3, sl, d1]
        obtain ⟨z, M', m1, m2⟩ := main Mem.empty
        have hlc : (numSV (cutL l k)).length = l.length - 2 * k := by rw [numSV_len, cutL_len hk]
        have hpl : ∀ y ∈ numSV (cutL l k), Sh.pv y = true := fun y hy => by
          simp only [numSV, List.mem_map] at hy
          obtain ⟨v, _, rfl⟩ := hy
          rfl
        have hp : pic M'.blk true 11 (.own z 1 0 (l.length - 2 * k)) = some (.sl (numSV (cutL l k)) .ro) := by
          unfold pic
          have hle : 0 + (l.length - 2 * k) ≤ (numSV (cutL l k)).length := by omega
          simp only [Sh.pv, Bool.false_eq_true, if_false, m2, if_pos hle, List.drop_zero]
          rw [← hlc, List.take_length, mapM_id fun x hx => pic_np (np_of_pv (hpl x hx) _)]
          rfl
        have hv : Sh.pv (.sl (numSV (cutL l k)) .ro) = true := by simp [Sh.pv, pvs_iff.2 hpl]
        have hpt : pic M'.blk true picDepth (.tup [.own z 1 0 (l.length - 2 * k), .bool true]) = some (.tup [.sl (numSV (cutL l k)) .ro, .bool true]) := by
          have hb0 : pic M'.blk true 11 (.bool true) = some (.bool true) := pic_np (np_of_pv rfl _)
          show pic M'.blk true (11 + 1) _ = _
          unfold pic
          simp only [Sh.pv, pvs, Bool.false_and, Bool.false_eq_true, if_false]
          simp [hp, hb0]
        refine ⟨.sl (numSV (cutL l k)) .ro, fun get => callP_of (PCw_pic m1 hpt (by simp [Sh.pv, pvs, pvs_iff.2 hpl])) (by simp [hx.np]) |>.trans (by rw [e]), ?_⟩
        rw [e]
        exact RSl.of_map rfl rfl

end Go.Proofs.Ytedmidpnfnhnlaa

/-
  Walks of the seat's functions: Mu.
-/
set_option linter.unusedVariables false
set_option linter.unusedSimpArgs false
set_option maxRecDepth 100000
namespace Go.Proofs.Ytedmidpnfnhnlaa
open Go.Proofs.Ytedmidpnfnhnlaa.Sh
/-! middle.Mid. -/
theorem middle_Mid_1_c (get : Nat → Option (List SV)) (x : Int) : callP (PCw ES) get n_middle_Mid_1 [.int .i64 x] = some (.bool (!decide (isTime x))) := by
  refine callP_of (PCw_ex (fun M => ?_) rfl) rfl
  rw [b_middle_Mid_1]
  simp [c_middle_Mid_1, evW_reg, evW_chkr, isCst, loadS, partS, TK.agg, fieldAddrS, zeroS, storeS, setPart, splice, endS, resS, fieldS]
set_option maxHeartbeats 4000000 in
theorem middle_Mid_c (get) {x : SV} {l : List Int} (hx : Nums x l) (hb : l.length ≤ 100000) (f : Int) : callP (PCw ES) get n_middle_Mid [x, .int .i64 f] = some (.tup [.int .i64 (midG l f).1, .bool (midG l f).2]) := by
  refine callP_of (PCw_ex (fun M => ?_) rfl) (by simp [hx.np])
  rw [b_middle_Mid]
  obtain ⟨z, k1, k2⟩ := middle_Cut_c hx hb f
  have hc := fun get => slices_ContainsFunc_sl_int64_int64_c get Elm.int ti_int64 hx (by omega) (f := n_middle_Mid_1) (a := []) (c := []) (npF (by rfl)) (fun x => !decide (isTime x)) (fun get y v hy _ => by subst hy; exact middle_Mid_1_c get v) rfl
  rw [timesL_any] at hc
  unfold midG
  cases hok : cutOk l f with
  | false =>
    rw [hok] at k1
    simp [c_middle_Mid, evW_reg, evW_chkr, isCst, TK.agg, zeroS, endS, resS, k1]
  | true =>
    rw [hok] at k1 k2
    cases ht : timesL l with
    | false =>
      rw [ht] at hc
      simp [c_middle_Mid, evW_reg, evW_chkr, isCst, TK.agg, zeroS, endS, resS, k1, hc]
    | true =>
      rw [ht] at hc
      obtain ⟨k, rfl, hk⟩ := cutOk_nat hok
      simp only [if_true, Int.toNat_natCast] at k2
      have hl := cutL_len hk
      have p0 : 0 < (cutL l k).length := by omega
      have p1 : (cutL l k).length - 1 < (cutL l k).length := by omega
      have a0 := Nums.at k2 p0
      have d0 := Nums.ld p0
      have a1 := Nums.at k2 p1
      have d1 := Nums.ld p1
      have e0 := cutL_at hk p0
      have e1 := cutL_at hk p1
      rw [e0] at d0
      rw [e1] at d1
      have t0 := isortI_time ht (k := k + 0) (by rw [isortI_len]; omega)
      have t1 := isortI_time ht (k := k + ((cutL l k).length - 1)) (by rw [isortI_len]; omega)
      unfold isTime at t0 t1
      have hm : mid2 (isortI l) k = (isortI l).getD (k + 0) 0 + (isortI l).getD (k + ((cutL l k).length - 1)) 0 := by
        unfold mid2
        have : (isortI l).length - 1 - k = k + ((cutL l k).length - 1) := by rw [isortI_len]; omega
        rw [this]
        rfl
      rw [show (cutL l k).length - 1 = ((cutL l k).length - 1) from rfl] at a1
      generalize (isortI l).getD (k + 0) 0 = u at *
      generalize (isortI l).getD (k + ((cutL l k).length - 1)) 0 = w at *
      have hlz := k2.lenS ti_sl_int64
      have w1 : IntKind.i64.wrap (((cutL l k).length : Int) - 1) = (((cutL l k).length - 1 : Nat) : Int) := by rw [i64_in (by omega) (by omega)]; omega
      have w2 : IntKind.i64.wrap (u + w) = u + w := i64_in (by omega) (by omega)
      have hfl := fun get => ticks_Floor_c get (a := u + w) (b := 2) ⟨by omega, by omega⟩
      have ef : floorG (u + w) 2 = ((u + w) / 2, true) := by unfold floorG; rw [if_neg (by omega)]
      rw [ef] at hfl
      have a0' : indexAddrS ES.P T_sl_int64 z (.int .i64 0) = some (.rptr ((cutL l k).map (SV.int .i64)) 0 0 (stOf z)) := a0
      simp only [Bool.and_self, if_true, Int.toNat_natCast, hm]
      generalize (cutL l k).map (SV.int .i64) = items at *
      simp [c_middle_Mid, evW_reg, evW_chkr, isCst, TK.agg, zeroS, endS, resS, k1, hc, a0', d0, hlz, w1, a1, d1, w2, hfl]

end Go.Proofs.Ytedmidpnfnhnlaa
