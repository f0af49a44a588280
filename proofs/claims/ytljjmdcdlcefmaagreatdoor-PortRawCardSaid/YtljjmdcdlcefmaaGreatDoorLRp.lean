/-
  Walks of the seat's functions: Rp.
-/
import Derived.Test.YtljjmdcdlcefmaaGreatDoorEbMa
import Derived.Test.YtljjmdcdlcefmaaGreatDoorShMb
import Derived.Test.YtljjmdcdlcefmaaGreatDoorLCf
set_option linter.unusedVariables false
set_option linter.unusedSimpArgs false
set_option maxRecDepth 100000
namespace Go.Proofs.YtljjmdcdlcefmaaGreatDoor
open Go.Proofs.YtljjmdcdlcefmaaGreatDoor.Sh
/-! slices.Repeat of one number; slices.Index. -/
theorem bits_Mul1_c (get) {n : Nat} (h1 : 1 ≤ n) (h6 : n ≤ 6) : callP (PCw ES) get n_math_bits_Mul [.int .u64 1, .int .u64 n] = some (.tup [.int .u64 0, .int .u64 n]) := by
  have h : n = 1 ∨ n = 2 ∨ n = 3 ∨ n = 4 ∨ n = 5 ∨ n = 6 := by omega
  rcases h with rfl | rfl | rfl | rfl | rfl | rfl
  all_goals exact callP_of (PCw_closed 20 (by kernel_rfl)) rfl

theorem rep_step (v z : SV) {m n : Nat} (hm : m ≤ n) : (List.replicate m v ++ List.replicate (n - m) z).take m ++ (List.replicate m v).take (min m (n - m)) ++ (List.replicate m v ++ List.replicate (n - m) z).drop (m + min m (n - m)) =
    List.replicate (m + min m (n - m)) v ++ List.replicate (n - (m + min m (n - m))) z := by
  have h1 : (List.replicate m v ++ List.replicate (n - m) z).take m = List.replicate m v := by
    rw [List.take_append_of_le_length (by simp)]; simp
  have h2 : (List.replicate m v).take (min m (n - m)) = List.replicate (min m (n - m)) v := by
    rw [List.take_replicate]; congr 1; omega
  have h3 : (List.replicate m v ++ List.replicate (n - m) z).drop (m + min m (n - m)) = List.replicate (n - (m + min m (n - m))) z := by
    rw [List.drop_append, List.drop_replicate, List.drop_replicate]
    have : m - (m + min m (n - m)) = 0 := by omega
    rw [this]
    simp only [List.replicate_zero, List.nil_append, List.length_replicate]
    congr 1; omega
  rw [h1, h2, h3, ← List.replicate_append_replicate]
theorem rep_loop {n q : Nat} (v : Int) (h6 : n ≤ 6) : ∀ (k m : Nat) (M : Mem), n - m ≤ k → 1 ≤ m → m ≤ n → M.blk q = some (List.replicate m (.int .i64 v) ++ List.replicate (n - m) (.int .i64 0)) → q < M.next →
    ∃ M', evW ES n_slices_Repeat_sl_int_int c_slices_Repeat_sl_int_int_L0 ⟨h_slices_Repeat_sl_int_int_0 (.own q 1 0 n) (.int .i64 m), M⟩ =
      some (.exit 0, ⟨(h_slices_Repeat_sl_int_int_0 (.own q 1 0 n) (.int .i64 n)).set 37 (.bool false), M'⟩) ∧ M'.blk q = some (List.replicate n (.int .i64 v)) ∧ M.next ≤ M'.next ∧ ∀ id, id ≠ q → id < M.next → M'.blk id = M.blk id
  | 0, m, M, hk, h1, hm, hb, hlt => by
    obtain rfl : m = n := by omega
    unfold c_slices_Repeat_sl_int_int_L0
    rw [evW_loop]
    refine ⟨M, ?_, by simpa using hb, Nat.le_refl _, fun _ _ _ => rfl⟩
    simp [c_slices_Repeat_sl_int_int_B0, evW_reg, evW_chkr, evW_chfr, isCst, TK.agg, zeroS, endS, resS, h_slices_Repeat_sl_int_int_0, lenS]
  | k + 1, m, M, hk, h1, hm, hb, hlt => by
    by_cases hmn : m = n
    · exact rep_loop v h6 0 m M (by omega) h1 hm hb hlt
    have hmn' : (m : Int) < n := by omega
    have hlt' : m < n := by omega
    have hst := rep_step (.int .i64 v) (.int .i64 0) hm
    generalize hj : min m (n - m) = j at hst
    have hw : IntKind.i64.wrap ((m : Int) + (j : Int)) = ((m + j : Nat) : Int) := by rw [i64_in (by omega) (by omega)]; omega
    have hs1 : sliceS ES.P T_sl_int (.own q 1 0 n) (some (.int .i64 m)) none none = some (.own q 1 m (n - m)) := by
      simp [sliceS, boundsS, natS, hm, hmn]
    have hs2 : sliceS ES.P T_sl_int (.own q 1 0 n) none (some (.int .i64 m)) none = some (.own q 1 0 m) := by
      have : ¬ (0 = m) := by omega
      simp [sliceS, boundsS, natS, hm, this]
    have hcp : ∀ get : Nat → Option (List SV), get q = some (List.replicate m (.int .i64 v) ++ List.replicate (n - m) (.int .i64 0)) → copyS ES.P get T_sl_int (.own q 1 m (n - m)) (.own q 1 0 m) =
        some (.int .i64 j, [(q, some (List.replicate (m + j) (.int .i64 v) ++ List.replicate (n - (m + j)) (.int .i64 0)))]) := by
      intro get hg
      have hit : itemsS get (.own q 1 0 m) = some (List.replicate m (.int .i64 v)) := by
        simp only [itemsS, hg]
        rw [if_pos (by simp)]
        rw [List.drop_zero, List.take_append_of_le_length (by simp)]
        simp
      have hu : Sh.unif 1 (List.replicate m (SV.int .i64 v)) = true := by simp [Sh.unif]
      simp only [copyS, ti_sl_int, ti_int, hit, hg]
      rw [if_pos ⟨trivial, trivial, rfl, by simp, hu⟩]
      simp only [List.length_replicate, hj, hst]
    obtain ⟨M', g1, g2, g3, g4⟩ := rep_loop (q := q) v h6 k (m + j) ((M.bump 10).set q (some (List.replicate (m + j) (.int .i64 v) ++ List.replicate (n - (m + j)) (.int .i64 0)))) (by omega) (by omega) (by omega) (by simp) (by simp; omega)
    refine ⟨M', ?_, g2, by simp at g3; omega, fun id hid hl => by rw [g4 id hid (by simp; omega)]; simp [hid]⟩
    rw [← g1]
    unfold c_slices_Repeat_sl_int_int_L0
    rw [evW_loop]
    simp [c_slices_Repeat_sl_int_int_B0, evW_reg, evW_chkr, evW_chfr, isCst, TK.agg, zeroS, endS, resS, h_slices_Repeat_sl_int_int_0, lenS, hmn', hlt', hs1, hs2, hcp, hb, hlt, hw]
theorem Repeat_ok {n id : Nat} (v : Int) (h1 : 1 ≤ n) (h6 : n ≤ 6) (M : Mem) (hb : M.blk id = some [.int .i64 v]) (hlt : id < M.next) : ∃ M' q, ICw ES n_slices_Repeat_sl_int_int [.own id 1 0 1, .int .i64 n] M = some (.own q 1 0 n, M') ∧
    M'.blk q = some (List.replicate n (.int .i64 v)) ∧ q < M'.next ∧ M.next ≤ q ∧ Old M M' := by
  rw [b_slices_Repeat_sl_int_int]
  have w1 : IntKind.u64.wrap (1 : Int) = 1 := rfl
  have w2 : IntKind.u64.wrap (n : Int) = n := by rw [IntKind.wrap_u64]; omega
  have w3 : IntKind.i64.wrap (n : Int) = n := i64_in (by omega) (by omega)
  have hn0 : ¬ ((n : Int) < 0) := by omega
  have hn1 : ¬ (9223372036854775807 < (n : Int)) := by omega
  have hmk : ∀ a, mkSl ES.P T_sl_int a (.int .i64 n) (.int .i64 n) = some (.own a 1 0 n, List.replicate n (.int .i64 0)) := by
    intro a
    simp [mkSl]
    omega
  have hcp : ∀ get : Nat → Option (List SV), get (M.next + 2) = some (List.replicate n (.int .i64 0)) → get id = some [.int .i64 v] → copyS ES.P get T_sl_int (.own (M.next + 2) 1 0 n) (.own id 1 0 1) =
      some (.int .i64 1, [(M.next + 2, some (List.replicate 1 (.int .i64 v) ++ List.replicate (n - 1) (.int .i64 0)))]) := by
    intro get hg hg2
    have hit : itemsS get (.own id 1 0 1) = some [.int .i64 v] := by simp [itemsS, hg2]
    have hu : Sh.unif 1 [SV.int .i64 v] = true := by simp [Sh.unif]
    simp only [copyS, ti_sl_int, ti_int, hit, hg]
    rw [if_pos ⟨trivial, trivial, rfl, by simp, hu⟩]
    have : min 1 n = 1 := by omega
    simp [this]
  obtain ⟨M', g1, g2, g3, g4⟩ := rep_loop (q := M.next + 2) v h6 n 1 ((((M.bump 4).set (M.next + 2) (some (List.replicate n (.int .i64 0)))).bump 4).set (M.next + 2) (some (List.replicate 1 (.int .i64 v) ++ List.replicate (n - 1) (.int .i64 0)))) (by omega) (by omega) h1 (by simp) (by simp)
  have hold : Old M M' := by
    intro i hi
    rw [g4 i (by omega) (by simp; omega)]
    have : ¬ (i = M.next + 2) := by omega
    simp [this]
  refine ⟨M', M.next + 2, ?_, g2, by simp at g3; omega, by omega, hold⟩
  simp [h_slices_Repeat_sl_int_int_0] at g1
  have hne : ¬ (id = M.next + 2) := by omega
  simp [c_slices_Repeat_sl_int_int, evW_reg, evW_chkr, evW_chfr, isCst, TK.agg, zeroS, endS, resS, lenS, convS, w1, w2, w3, hn0, hn1, bits_Mul1_c _ h1 h6, hmk, hcp, hb, hne, g1]
/-- The first place of a number; -1. -/
def idxI (l : List Int) (v : Int) : Int := match (List.range l.length).find? (fun j => (l[j]?.map fun x => decide (v = x)).getD false) with
  | some i => (i : Int)
  | none => -1
theorem Index_ok {x : SV} {l : List Int} (hx : Ints x l) (hb : l.length < 4611686018427387904) (v : Int) : PCw ES n_slices_Index_sl_int_int [x, .int .i64 v] = some (.int .i64 (idxI l v)) := by
  refine PCw_ex (fun M => ?_) rfl
  rw [b_slices_Index_sl_int_int]
  obtain ⟨r, h1, M', h2⟩ := loop_find (E := ES) (me := n_slices_Index_sl_int_int) (B := c_slices_Index_sl_int_int_B0) (len := l.length) (T := fun j => h_slices_Index_sl_int_int_0 x (.int .i64 v) (.int .i64 l.length) (.int .i64 j))
    (I := fun _ _ => True) (p := fun j => (l[j]?.map fun x => decide (v = x)).getD false)
    (Q := fun o r => ∃ M', r = match o with
      | some j => (.ret, ⟨(h_slices_Index_sl_int_int_0 .bad .bad .bad .bad).set 4 (.int .i64 j), M'⟩)
      | none => (.exit 0, ⟨(h_slices_Index_sl_int_int_0 x (.int .i64 v) (.int .i64 l.length) (.int .i64 l.length)).set 9 (.bool false), M'⟩))
    (fun j M hj _ hpj => by
      obtain ⟨y, hy, _, ha, hl⟩ := RSl.item hx ti_sl_int ti_int Elm.int hj
      subst hy
      have hw : IntKind.i64.wrap ((j : Int) + 1) = (j : Int) + 1 := i64_in (by omega) (by omega)
      simp [hj] at hpj
      simp [c_slices_Index_sl_int_int_B0, evW_reg, evW_chkr, evW_chfr, isCst, TK.agg, zeroS, endS, resS, h_slices_Index_sl_int_int_0, hj, ha, hl, hpj, hw])
    (fun j M hj _ hpj => by
      obtain ⟨y, hy, _, ha, hl⟩ := RSl.item hx ti_sl_int ti_int Elm.int hj
      subst hy
      simp [hj] at hpj
      simp [c_slices_Index_sl_int_int_B0, evW_reg, evW_chkr, evW_chfr, isCst, TK.agg, zeroS, endS, resS, h_slices_Index_sl_int_int_0, hj, ha, hl, hpj])
    (fun M _ => by simp [c_slices_Index_sl_int_int_B0, evW_reg, evW_chkr, evW_chfr, isCst, TK.agg, zeroS, endS, resS, h_slices_Index_sl_int_int_0]) M trivial
  unfold idxI
  cases hf : (List.range l.length).find? (fun j => (l[j]?.map fun x => decide (v = x)).getD false) with
  | none =>
    rw [hf] at h2
    subst h2
    simp [h_slices_Index_sl_int_int_0] at h1
    simp [c_slices_Index_sl_int_int, evW_reg, evW_chkr, evW_chfr, isCst, TK.agg, zeroS, endS, resS, hx.lenS ti_sl_int, c_slices_Index_sl_int_int_L0, h1]
  | some j =>
    rw [hf] at h2
    subst h2
    simp [h_slices_Index_sl_int_int_0] at h1
    simp [c_slices_Index_sl_int_int, evW_reg, evW_chkr, evW_chfr, isCst, TK.agg, zeroS, endS, resS, hx.lenS ti_sl_int, c_slices_Index_sl_int_int_L0, h1]
theorem Index_c (get) {x : SV} {l : List Int} (hx : Ints x l) (hb : l.length < 4611686018427387904) (v : Int) : callP (PCw ES) get n_slices_Index_sl_int_int [x, .int .i64 v] = some (.int .i64 (idxI l v)) := callP_of (Index_ok hx hb v) (by simp [hx.np12])

end Go.Proofs.YtljjmdcdlcefmaaGreatDoor
