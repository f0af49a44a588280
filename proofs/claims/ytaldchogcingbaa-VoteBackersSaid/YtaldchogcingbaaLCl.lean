/-
  Walks of the seat's functions: Cl.
-/
import Derived.Test.YtaldchogcingbaaEb0
import Derived.Test.YtaldchogcingbaaShMb
import Derived.Test.YtaldchogcingbaaLSl
set_option linter.unusedVariables false
set_option linter.unusedSimpArgs false
set_option maxRecDepth 100000
namespace Go.Proofs.Ytaldchogcingbaa
open Go.Proofs.Ytaldchogcingbaa.Sh
/-! slices.Clone in the caller's memory. -/
def numSV (l : List Int) : List SV := l.map (.int .i64)
theorem numSV_len (l : List Int) : (numSV l).length = l.length := by simp [numSV]
theorem unif_num (l : List Int) : Sh.unif 1 (numSV l) = true := unif_iff.2 fun y hy => by
  simp only [numSV, List.mem_map] at hy
  obtain ⟨v, _, rfl⟩ := hy
  rfl
def Nums (x : SV) (l : List Int) : Prop := RSl (fun y n => y = .int .i64 n) x l
theorem Nums.np {x : SV} {l : List Int} (h : Nums x l) : Sh.np picDepth x = true := np_le (by decide) (RSl.np h (n := 9) fun y a h => by rw [h]; rfl)
set_option maxHeartbeats 4000000 in
theorem clone_sl_int_int {x : SV} {l : List Int} (hx : Nums x l) (hb : l.length ≤ 1000000) (M : Mem) :
    ∃ o M', ICw ES n_slices_Clone_sl_int_int [x] M = some (o, M') ∧ OutR 1 o M' (numSV l) ∧ Old M M' ∧ M.next ≤ M'.next ∧ (∀ id e a b, o = .own id e a b → M.next ≤ id) := by
  rw [b_slices_Clone_sl_int_int]
  have hm := hx.map
  have hs := hx.sl
  have hlen := hx.len
  cases x <;> simp [isSl] at hs
  · have : l = [] := by simp [its] at hlen; exact List.length_eq_zero_iff.1 hlen.symm
    subst this
    refine ⟨.nilsl, M, ?_, .inl ⟨rfl, rfl⟩, by simp, Nat.le_refl _, by simp⟩
    simp [c_slices_Clone_sl_int_int, evW_reg, evW_chkr, evW_chfr, isCst, TK.agg, zeroS, endS, resS, binS, eqS]
  · rename_i items tl
    simp only [its] at hm hlen
    have b : bldSl ES.P T_sl_int 0 M.next [] = some (.own M.next 1 0 0, []) := by simp [bldSl, buildRow]
    have hu : Sh.unif 1 items = true := by rw [hm]; exact unif_num l
    by_cases h0 : items = []
    · have : l = [] := by rw [h0] at hlen; simp at hlen; exact List.length_eq_zero_iff.1 hlen.symm
      subst this
      subst h0
      have ha : appendS ES.P ((M.bump 4).set M.next (some [])).blk (M.next + 2) T_sl_int T_sl_int (.own M.next 1 0 0) (.sl [] tl) = some (.own M.next 1 0 0, []) := by
        rw [appendS_own (ys := []) (xs := []) ti_sl_int ti_sl_int ti_int rfl rfl (by decide) rfl rfl rfl rfl (by simp) (by simp) (by simp) (by simp)]
        rfl
      refine ⟨.own M.next 1 0 0, (M.bump 4).set M.next (some []), ?_, .inr ⟨M.next, by simp [numSV], by simp [numSV], by show M.next < M.next + 4; omega⟩, by simp, by show M.next ≤ M.next + 4; omega, fun id e a b hh => by cases hh; omega⟩
      simp [c_slices_Clone_sl_int_int, evW_reg, evW_chkr, evW_chfr, isCst, TK.agg, zeroS, endS, resS, binS, eqS, b, ha]
    · have he : items.isEmpty = false := by cases items with | nil => exact absurd rfl h0 | cons _ _ => rfl
      have ha : appendS ES.P ((M.bump 4).set M.next (some [])).blk (M.next + 2) T_sl_int T_sl_int (.own M.next 1 0 0) (.sl items tl) = some (.own (M.next + 2) 1 0 items.length, [(M.next, none), (M.next + 2, some items)]) := by
        rw [appendS_own (ys := items) (xs := []) ti_sl_int ti_sl_int ti_int rfl rfl (by decide) hu rfl rfl rfl (by simp) (by simp) (by show (0 + items.length) * 8 ≤ _; omega) (by omega), he]
        simp
      refine ⟨.own (M.next + 2) 1 0 items.length, (((M.bump 4).set M.next (some [])).set M.next none).set (M.next + 2) (some items), ?_, .inr ⟨M.next + 2, by rw [numSV_len, hlen], by simp; rw [hm]; rfl, by show M.next + 2 < M.next + 4; omega⟩, ?_, by show M.next ≤ M.next + 4; omega, fun id e a b hh => by cases hh; omega⟩
      · simp [c_slices_Clone_sl_int_int, evW_reg, evW_chkr, evW_chfr, isCst, TK.agg, zeroS, endS, resS, binS, eqS, b, ha]
      · intro id hid
        have q1 : ¬ id = M.next := by omega
        have q2 : ¬ id = M.next + 2 := by omega
        simp [q1, q2]
/-- A part of a list of the call's own. -/
theorem cloneOwn_sl_int_int {q i n : Nat} {l : List Int} {M : Mem} (hq : M.blk q = some (numSV l)) (hqn : q < M.next) (hi : i + n ≤ l.length) (hn : 0 < n) (hb : l.length ≤ 1000000) :
    ∃ M', ICw ES n_slices_Clone_sl_int_int [.own q 1 i n] M = some (.own (M.next + 2) 1 0 n, M') ∧ M'.blk (M.next + 2) = some (numSV ((l.drop i).take n)) ∧ M.next + 2 < M'.next := by
  rw [b_slices_Clone_sl_int_int]
  have b : bldSl ES.P T_sl_int 0 M.next [] = some (.own M.next 1 0 0, []) := by simp [bldSl, buildRow]
  have e0 : ((numSV l).drop i).take n = numSV ((l.drop i).take n) := by simp [numSV, List.map_drop, List.map_take]
  have hlen : (numSV ((l.drop i).take n)).length = n := by rw [numSV_len, List.length_take, List.length_drop]; omega
  have hne : ¬ q = M.next := by omega
  have hit : itemsS ((M.bump 4).set M.next (some [])).blk (.own q 1 i n) = some (numSV ((l.drop i).take n)) := by
    have h1 : ((M.bump 4).set M.next (some [])).blk q = some (numSV l) := by simp [hne, hq]
    simp only [itemsS, h1, numSV_len, if_pos hi, e0]
  have he : (numSV ((l.drop i).take n)).isEmpty = false := by
    cases hh : numSV ((l.drop i).take n) with
    | nil => rw [hh] at hlen; simp at hlen; omega
    | cons _ _ => rfl
  have ha : appendS ES.P ((M.bump 4).set M.next (some [])).blk (M.next + 2) T_sl_int T_sl_int (.own M.next 1 0 0) (.own q 1 i n) = some (.own (M.next + 2) 1 0 n, [(M.next, none), (M.next + 2, some (numSV ((l.drop i).take n)))]) := by
    rw [appendS_own (ys := numSV ((l.drop i).take n)) (xs := []) ti_sl_int ti_sl_int ti_int rfl hit (by decide) (unif_num _) rfl rfl rfl (by simp) (by simp) (by rw [hlen]; show (0 + n) * 8 ≤ _; omega) (by rw [hlen]; omega), he]
    simp [hlen]
  refine ⟨(((M.bump 4).set M.next (some [])).set M.next none).set (M.next + 2) (some (numSV ((l.drop i).take n))), ?_, by simp, by show M.next + 2 < M.next + 4; omega⟩
  simp [c_slices_Clone_sl_int_int, evW_reg, evW_chkr, evW_chfr, isCst, TK.agg, zeroS, endS, resS, binS, eqS, b, ha]

end Go.Proofs.Ytaldchogcingbaa
