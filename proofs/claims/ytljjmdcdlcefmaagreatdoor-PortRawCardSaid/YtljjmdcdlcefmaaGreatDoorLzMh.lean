/-
  Walks of the seat's functions: Cl.
-/
import Derived.Test.YtljjmdcdlcefmaaGreatDoorEbMa
import Derived.Test.YtljjmdcdlcefmaaGreatDoorShMb
import Derived.Test.YtljjmdcdlcefmaaGreatDoorLSl
set_option linter.unusedVariables false
set_option linter.unusedSimpArgs false
set_option maxRecDepth 100000
namespace Go.Proofs.YtljjmdcdlcefmaaGreatDoor
open Go.Proofs.YtljjmdcdlcefmaaGreatDoor.Sh
/-! slices.Clone in the caller's memory. -/
def numSV (l : List Int) : List SV := l.map (.int .i64)
theorem numSV_len (l : List Int) : (numSV l).length = l.length := by simp [numSV]
theorem unif_num (l : List Int) : Sh.unif 1 (numSV l) = true := unif_iff.2 fun y hy => by
  simp only [numSV, List.mem_map] at hy
  obtain ⟨v, _, rfl⟩ := hy
  rfl
def Nums (x : SV) (l : List Int) : Prop := RSl (fun y n => y = .int .i64 n) x l
theorem Nums.np {x : SV} {l : List Int} (h : Nums x l) : Sh.np picDepth x = true := np_le (by decide) (RSl.np h (n := 9) fun y a h => by rw [h]; rfl)
set_option maxHeartbeats 4000000 in
theorem clone_sl_int_int {x : SV} {l : List Int} (hx : Nums x l) (hb : l.length ≤ 1000000) (M : Mem) :
    ∃ o M', ICw ES n_slices_Clone_sl_int_int [x] M = some (o, M') ∧ OutR 1 o M' (numSV l) ∧ Old M M' ∧ M.next ≤ M'.next ∧ (∀ id e a b, o = .own id e a b → M.next ≤ id) := by
  rw [b_slices_Clone_sl_int_int]
  have hm := hx.map
  have hs := hx.sl
  have hlen := hx.len
  cases x <;> simp [isSl] at hs
  · have : l = [] := by simp [its] at hlen; exact List.length_eq_zero_iff.1 hlen.symm
    subst this
    refine ⟨.nilsl, M, ?_, .inl ⟨rfl, rfl⟩, by simp, Nat.le_refl _, by simp⟩
    simp [c_slices_Clone_sl_int_int, evW_reg, evW_chkr, evW_chfr, isCst, TK.agg, zeroS, endS, resS, binS, eqS]
  · rename_i items tl
    simp only [its] at hm hlen
    have b : bldSl ES.P T_sl_int 0 M.next [] = some (.own M.next 1 0 0, []) := by simp [bldSl, buildRow]
    have hu : Sh.unif 1 items = true := by rw [hm]; exact unif_num l
    by_cases h0 : items = []
    · have : l = [] := by rw [h0] at hlen; simp at hlen; exact List.length_eq_zero_iff.1 hlen.symm
      subst this
      subst h0
      have ha : appendS ES.P ((M.bump 4).set M.next (some [])).blk (M.next + 2) T_sl_int T_sl_int (.own M.next 1 0 0) (.sl [] tl) = some (.own M.next 1 0 0, []) := by
        rw [appendS_own (ys := []) (xs := []) ti_sl_int ti_sl_int ti_int rfl rfl (by decide) rfl rfl rfl rfl (by simp) (by simp) (by simp) (by simp)]
        rfl
      refine ⟨.own M.next 1 0 0, (M.bump 4).set M.next (some []), ?_, .inr ⟨M.next, by simp [numSV], by simp [numSV], by show M.next < M.next + 4; omega⟩, by simp, by show M.next ≤ M.next + 4; omega, fun id e a b hh => by cases hh; omega⟩
      simp [c_slices_Clone_sl_int_int, evW_reg, evW_chkr, evW_chfr, isCst, TK.agg, zeroS, endS, resS, binS, eqS, b, ha]
    · have he : items.isEmpty = false := by cases items with | nil => exact absurd rfl h0 | cons _ _ => rfl
      have ha : appendS ES.P ((M.bump 4).set M.next (some [])).blk (M.next + 2) T_sl_int T_sl_int (.own M.next 1 0 0) (.sl items tl) = some (.own (M.next + 2) 1 0 items.length, [(M.next, none), (M.next + 2, some items)]) := by
        rw [appendS_own (ys := items) (xs := []) ti_sl_int ti_sl_int ti_int rfl rfl (by decide) hu rfl rfl rfl (by simp) (by simp) (by show (0 + items.length) * 8 ≤ _; omega) (by omega), he]
        simp
      refine ⟨.own (M.next + 2) 1 0 items.length, (((M.bump 4).set M.next (some [])).set M.next none).set (M.next + 2) (some items), ?_, .inr ⟨M.next + 2, by rw [numSV_len, hlen], by simp; rw [hm]; rfl, by show M.next + 2 < M.next + 4; omega⟩, ?_, by show M.next ≤ M.next + 4; omega, fun id e a b hh => by cases hh; omega⟩
      · simp [c_slices_Clone_sl_int_int, evW_reg, evW_chkr, evW_chfr, isCst, TK.agg, zeroS, endS, resS, binS, eqS, b, ha]
      · intro id hid
        have q1 : ¬ id = M.next := by omega
        have q2 : ¬ id = M.next + 2 := by omega
        simp [q1, q2]
/-- A part of a list of the call's own. -/
theorem cloneOwn_sl_int_int {q i n : Nat} {l : List Int} {M : Mem} (hq : M.blk q = some (numSV l)) (hqn : q < M.next) (hi : i + n ≤ l.length) (hn : 0 < n) (hb : l.length ≤ 1000000) :
    ∃ M', ICw ES n_slices_Clone_sl_int_int [.own q 1 i n] M = some (.own (M.next + 2) 1 0 n, M') ∧ M'.blk (M.next + 2) = some (numSV ((l.drop i).take n)) ∧ M.next + 2 < M'.next := by
  rw [b_slices_Clone_sl_int_int]
  have b : bldSl ES.P T_sl_int 0 M.next [] = some (.own M.next 1 0 0, []) := by simp [bldSl, buildRow]
  have e0 : ((numSV l).drop i).take n = numSV ((l.drop i).take n) := by simp [numSV, List.map_drop, List.map_take]
  have hlen : (numSV ((l.drop i).take n)).length = n := by rw [numSV_len, List.length_take, List.length_drop]; omega
  have hne : ¬ q = M.next := by omega
  have hit : itemsS ((M.bump 4).set M.next (some [])).blk (.own q 1 i n) = some (numSV ((l.drop i).take n)) := by
    have h1 : ((M.bump 4).set M.next (some [])).blk q = some (numSV l) := by simp [hne, hq]
    simp only [itemsS, h1, numSV_len, if_pos hi, e0]
  have he : (numSV ((l.drop i).take n)).isEmpty = false := by
    cases hh : numSV ((l.drop i).take n) with
    | nil => rw [hh] at hlen; simp at hlen; omega
    | cons _ _ => rfl
  have ha : appendS ES.P ((M.bump 4).set M.next (some [])).blk (M.next + 2) T_sl_int T_sl_int (.own M.next 1 0 0) (.own q 1 i n) = some (.own (M.next + 2) 1 0 n, [(M.next, none), (M.next + 2, some (numSV ((l.drop i).take n)))]) := by
    rw [appendS_own (ys := numSV ((l.drop i).take n)) (xs := []) ti_sl_int ti_sl_int ti_int rfl hit (by decide) (unif_num _) rfl rfl rfl (by simp) (by simp) (by rw [hlen]; show (0 + n) * 8 ≤ _; omega) (by rw [hlen]; omega), he]
    simp [hlen]
  refine ⟨(((M.bump 4).set M.next (some [])).set M.next none).set (M.next + 2) (some (numSV ((l.drop i).take n))), ?_, by simp, by show M.next + 2 < M.next + 4; omega⟩
  simp [c_slices_Clone_sl_int_int, evW_reg, evW_chkr, evW_chfr, isCst, TK.agg, zeroS, endS, resS, binS, eqS, b, ha]

end Go.Proofs.YtljjmdcdlcefmaaGreatDoor

/-
  Walks of the seat's functions: Ap.
-/
set_option linter.unusedVariables false
set_option linter.unusedSimpArgs false
set_option maxRecDepth 100000
namespace Go.Proofs.YtljjmdcdlcefmaaGreatDoor
open Go.Proofs.YtljjmdcdlcefmaaGreatDoor.Sh
/-! append of whatever list: a slice that came in, or a part of one of the call's own. -/
def Keeps (o : SV) (M M' : Mem) : Prop := ∀ id, id < M.next → (∀ e a b, o ≠ .own id e a b) → M'.blk id = M.blk id
theorem killO_oth {o : SV} {X : Mem} {s : Nat} (hne : ∀ e a b, o ≠ .own s e a b) : (X.sets (killO o)).blk s = X.blk s := by
  cases o <;> simp [killO, Mem.sets]
  rename_i id e a b
  intro hh
  subst hh
  exact absurd rfl (hne e a b)
theorem OutR.nextS {P : Program} {get : Nat → Option (List SV)} {o x : SV} {M X : Mem} {items ys : List SV} {a t e s1 b1 : Nat} {z1 : Option SV} {te : TI} {z : SV} (ht : tiOf P t = some ⟨.slice e, s1, b1, z1⟩) (hte : tiOf P e = some te)
    (hz : te.zero = some z) (h0 : 0 < te.size) (hsz : z.sto = true) (hc : z.cells.length = te.size) (hI : OutR te.size o M items) (h1 : (items.length + ys.length) * te.bytes ≤ 140737488355328) (h2 : items.length + ys.length ≤ 140737488355328)
    (hg : ∀ id, id < M.next → get id = M.blk id) (hx : itemsS get x = some ys) (hf : srcFits (.slice e) te.size x = true) (hu : Sh.unif te.size ys = true) (hX : Old M X) (hXn : a < X.next) (hMX : M.next ≤ X.next) (hMa : M.next ≤ a) :
    ∃ o' kl, appendS P get a t t o x = some (o', kl) ∧ OutR te.size o' (X.sets kl) (items ++ ys) ∧ Keeps o M (X.sets kl) ∧ (X.sets kl).next = X.next ∧ (∀ id e a b, o' = .own id e a b → M.next ≤ id ∨ o' = o) := by
  by_cases hy : ys = []
  · subst hy
    refine ⟨o, [], ?_, by simpa using hI.old hX hMX, fun id hid _ => hX id hid, rfl, fun _ _ _ _ _ => .inr rfl⟩
    rcases hI with ⟨rfl, rfl⟩ | ⟨id, rfl, hid, hlt⟩
    · rw [appendS_nil (ys := []) ht ht hte hz hx h0 hu hf hsz hc (by simp) (by simp)]
      rfl
    · rw [appendS_own (ys := []) (xs := items) ht ht hte hz hx h0 hu hf hsz hc ((hg id hlt).trans hid) (Nat.le_refl _) h1 h2]
      rfl
  · have he : ys.isEmpty = false := by cases ys with | nil => exact absurd rfl hy | cons _ _ => rfl
    refine ⟨.own a te.size 0 (items.length + ys.length), killO o ++ [(a, some (items ++ ys))], ?_, .inr ⟨a, by simp, by simp, by simpa using hXn⟩, fun id hid hne => ?_, by simp, fun id e a' b h => by cases h; exact .inl hMa⟩
    · rcases hI with ⟨rfl, rfl⟩ | ⟨id, rfl, hid, hlt⟩
      · rw [appendS_nil (ys := ys) ht ht hte hz hx h0 hu hf hsz hc (by simpa using h1) (by simpa using h2), he]
        simp [killO]
      · rw [appendS_own (ys := ys) (xs := items) ht ht hte hz hx h0 hu hf hsz hc ((hg id hlt).trans hid) (Nat.le_refl _) h1 h2, he]
        simp [killO]
    · rw [Mem.sets_append]
      show ((X.sets (killO o)).set a (some (items ++ ys))).blk id = _
      rw [Mem.blk_set, if_neg (by omega), killO_oth hne]
      exact hX id hid
/-- A place is found: a number more in order. -/
theorem insert_sorts {pre cur : List Int} (h : cur.Perm pre ∧ cur.Pairwise (· ≤ ·)) {x : Int} {k : Nat} (hk : k ≤ cur.length) (h1 : ∀ j (hj : j < cur.length), j < k → cur[j] ≤ x) (h2 : ∀ j (hj : j < cur.length), k ≤ j → x ≤ cur[j]) :
    (cur.take k ++ [x] ++ cur.drop k).Perm (pre ++ [x]) ∧ (cur.take k ++ [x] ++ cur.drop k).Pairwise (· ≤ ·) := by
  constructor
  · rw [List.append_assoc]
    have a1 : (cur.take k ++ ([x] ++ cur.drop k)).Perm (cur.take k ++ (cur.drop k ++ [x])) := List.Perm.append_left _ List.perm_append_comm
    refine a1.trans ?_
    rw [← List.append_assoc, List.take_append_drop]
    exact h.1.append_right _
  · rw [List.pairwise_append, List.pairwise_append]
    refine ⟨⟨h.2.sublist (List.take_sublist _ _), by simp, fun a ha b hb => ?_⟩, h.2.sublist (List.drop_sublist _ _), fun a ha b hb => ?_⟩
    · simp at hb
      subst hb
      obtain ⟨j, hj, rfl⟩ := List.mem_iff_getElem.1 ha
      rw [List.length_take] at hj
      rw [List.getElem_take]
      exact h1 j (by omega) (by omega)
    · obtain ⟨i, hi, rfl⟩ := List.mem_iff_getElem.1 hb
      rw [List.length_drop] at hi
      have hb' := h2 (k + i) (by omega) (by omega)
      rw [List.getElem_drop]
      rcases List.mem_append.1 ha with ha | ha
      · obtain ⟨j, hj, rfl⟩ := List.mem_iff_getElem.1 ha
        rw [List.length_take] at hj
        rw [List.getElem_take]
        have := h1 j (by omega) (by omega)
        omega
      · simp at ha
        subst ha
        exact hb'

end Go.Proofs.YtljjmdcdlcefmaaGreatDoor
