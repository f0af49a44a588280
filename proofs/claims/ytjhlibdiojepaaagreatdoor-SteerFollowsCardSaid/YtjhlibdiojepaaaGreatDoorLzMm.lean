/-
  Walks of the seat's functions: Sk.
-/
import Derived.Test.YtjhlibdiojepaaaGreatDoorEbMa
import Derived.Test.YtjhlibdiojepaaaGreatDoorShMb
import Derived.Test.YtjhlibdiojepaaaGreatDoorLzMl
import Derived.Test.YtjhlibdiojepaaaGreatDoorLVp
set_option linter.unusedVariables false
set_option linter.unusedSimpArgs false
set_option maxRecDepth 100000
namespace Go.Proofs.YtjhlibdiojepaaaGreatDoor
open Go.Proofs.YtjhlibdiojepaaaGreatDoor.Sh
/-! The program's Adopt; the law SteerAdopts. -/
theorem pv_its {x : SV} (h : isSl x = true) (hv : Sh.pv x = true) : ∀ y ∈ its x, Sh.pv y = true := by
  cases x <;> simp [isSl] at h
  · simp [its]
  · simp only [Sh.pv, Bool.and_eq_true] at hv
    exact pvs_iff.1 hv.2
theorem off_pv {o : Offer} {A : SV} (h : Sh.pv (.agg (offC o A)) = true) : Sh.pv A = true := by
  simp only [Sh.pv, offC, pvs, Bool.and_eq_true] at h
  exact h.2.2.2.2.2.2.2.1
set_option maxHeartbeats 4000000 in
theorem steer_Lists_B0 {z o : SV} {os : List Offer} (hz : Offers z os) (hzv : Sh.pv z = true) (h30 : os.length ≤ 30) {items : List SV} {M : Mem} {j : Nat} (hj : j < os.length) (hI : OutR 1 o M items) (hL : ListIs items (listsO (os.take j))) (hp : ∀ y ∈ items, Sh.pv y = true) :
    ∃ M' o' items', evW ES n_steer_Lists c_steer_Lists_B0 ⟨h_steer_Lists_0 o z (.int .i64 os.length) (.int .i64 j), M⟩ = some (.normal, ⟨h_steer_Lists_0 o' z (.int .i64 os.length) (.int .i64 ((j + 1 : Nat) : Int)), M'⟩) ∧ OutR 1 o' M' items' ∧ ListIs items' (listsO (os.take (j + 1))) ∧ ∀ y ∈ items', Sh.pv y = true := by
  have hw : IntKind.i64.wrap ((j : Int) + 1) = (j : Int) + 1 := i64_in (by omega) (by omega)
  obtain ⟨y, ⟨A, rfl, hA, _⟩, hy, q1, q2⟩ := RSl.item hz ti_sl_api_Offer ti_api_Offer elmOff hj
  have h9 := hA.np9
  have hAc := sl_cells hA.sl
  have hAs := sl_sto hA.sl
  have hAv := off_pv (pv_its hz.sl hzv _ (List.mem_of_getElem? hy))
  have hlen : items.length ≤ 1000 := by
    have := hL.1
    rw [listsO, List.length_map, List.length_take] at this
    omega
  obtain ⟨o', X', a1, a2, a3, a4, a5, a6⟩ := list_next (get := ((((M.bump 4).set (M.next + 2) (some [.agg (offC os[j] A)])).bump 6).set (M.next + 4 + 3) (some [A])).blk) (X := (((M.bump 4).set (M.next + 2) (some [.agg (offC os[j] A)])).bump 6).set (M.next + 4 + 3) (some [A])) (a := M.next + 4 + 4) (s := M.next + 4 + 3) (v := A) hI (by omega)
    (fun id hid => by
      have e : ¬ id = M.next + 4 + 3 := by omega
      have e' : ¬ id = M.next + 2 := by omega
      simp [e, e']) hAc (by simp) (fun id hid => by
      have e : ¬ id = M.next + 4 + 3 := by omega
      have e' : ¬ id = M.next + 2 := by omega
      simp [e, e']) (by simp) (by omega)
  refine ⟨X', o', items ++ [A], ?_, a3, ?_, ?_⟩
  · have b : bldSl ES.P T_sl_sl_int 1 (M.next + 4 + 3) [(0, A)] = some (.own (M.next + 4 + 3) 1 0 1, [A]) := by simp [bldSl, buildRow, hAc, hAs]
    simp only [offC] at a1 a2 q2
    try simp at a1 a2
    have q3 : loadS ES.P ((M.bump 4).set (M.next + 2) (some [.agg [.int .i64 os[j].node, .int .i64 os[j].link, .int .i64 os[j].slot, .bool os[j].flag, .int .i64 os[j].cycle, .int .i64 os[j].offset, .int .i64 os[j].tick, A]])).blk T_sl_int (.ptr (M.next + 2) 0 7) = some A := by simp [loadS, partS, TK.agg]
    have e1 : ∀ (X : Mem) (k : Nat), (X.bump k).blk = X.blk := fun _ _ => rfl
    simp (maxSteps := 4000000) [c_steer_Lists_B0, evW_reg, evW_chkr, isCst, TK.agg, zeroS, endS, resS, fieldAddrS, h_steer_Lists_0, hj, q1, q2, q3, b, a1, a2, hw, storeS, setPart, e1]
  · unfold listsO
    rw [List.take_succ_eq_append_getElem hj, List.map_append]
    exact hL.snoc hA h9
  · intro y hy
    rcases List.mem_append.1 hy with h | h
    · exact hp y h
    · simp at h; subst h; exact hAv
set_option maxHeartbeats 4000000 in
theorem steer_Lists_c {z : SV} {os : List Offer} (hz : Offers z os) (hzv : Sh.pv z = true) (h30 : os.length ≤ 30) : ∃ y, (∀ get, callP (PCw ES) get n_steer_Lists [z] = some y) ∧ Lists y (listsO os) := by
  obtain ⟨y, items, k1, ⟨k2, _⟩, k5, k6, k7⟩ := PCw_out (E := ES) (f := n_steer_Lists) (esz := 1) (args := [z]) (Pr := fun items => ListIs items (listsO os) ∧ ∀ y ∈ items, Sh.pv y = true) (fun M0 => by
    rw [b_steer_Lists]
    have hl := hz.lenS ti_sl_api_Offer
    obtain ⟨r, g1, Ma, oa, rfl, items, ia, iL, iv⟩ := loop_st (E := ES) (me := n_steer_Lists) (B := c_steer_Lists_B0) (β := SV) (len := os.length) (T := fun j o => h_steer_Lists_0 o z (.int .i64 os.length) (.int .i64 j))
      (I := fun j o M => ∃ items, OutR 1 o M items ∧ ListIs items (listsO (os.take j)) ∧ ∀ y ∈ items, Sh.pv y = true)
      (Q := fun r => ∃ M' o, r = (.exit 0, ⟨(h_steer_Lists_0 o z (.int .i64 os.length) (.int .i64 os.length)).set 9 (.bool false), M'⟩) ∧ ∃ items, OutR 1 o M' items ∧ ListIs items (listsO os) ∧ ∀ y ∈ items, Sh.pv y = true)
      (fun j o M hj ⟨items, i1, i2, i3⟩ => by
        left
        obtain ⟨M', o', items', a1, a2⟩ := steer_Lists_B0 hz hzv h30 hj i1 i2 i3
        exact ⟨o', M', a1, items', a2⟩)
      (fun o M ⟨items, i1, i2, i3⟩ => ⟨_, by simp [c_steer_Lists_B0, evW_reg, evW_chkr, isCst, TK.agg, zeroS, endS, resS, h_steer_Lists_0], by simp, M, o, rfl, items, i1, by rw [List.take_length] at i2; exact i2, i3⟩) 0 .nilsl M0 (by omega)
      ⟨[], .inl ⟨rfl, rfl⟩, ⟨rfl, fun j y l h => by simp at h⟩, by simp⟩
    simp [h_steer_Lists_0] at g1
    refine ⟨oa, Ma, items, ?_, ia, iL, iv⟩
    simp [c_steer_Lists, evW_reg, evW_chkr, isCst, TK.agg, zeroS, endS, resS, hl, c_steer_Lists_L0, g1]) (fun items h => h.2)
  exact ⟨y, fun get => callP_of k1 (by simp [hz.npE elmOff]), k2.rsl k5 k6⟩
set_option maxHeartbeats 4000000 in
theorem clone_ic {x : SV} {l : List Int} (hx : Ints x l) (hb : l.length ≤ 1000000) (M : Mem) :
    ∃ o M', ICw ES n_slices_Clone_sl_int_int [x] M = some (o, M') ∧ OutR 1 o M' (intSV l) ∧ Old M M' ∧ M.next ≤ M'.next ∧ (∀ id e a b, o = .own id e a b → M.next ≤ id) := by
  rw [b_slices_Clone_sl_int_int]
  have hm := hx.map
  have hs := hx.sl
  have hlen := hx.len
  cases x <;> simp [isSl] at hs
  · have : l = [] := by simp [its] at hlen; exact List.length_eq_zero_iff.1 hlen.symm
    subst this
    refine ⟨.nilsl, M, ?_, .inl ⟨rfl, rfl⟩, by simp, Nat.le_refl _, by simp⟩
    simp [c_slices_Clone_sl_int_int, evW_reg, evW_chkr, isCst, TK.agg, zeroS, endS, resS, binS, eqS]
  · rename_i items tl
    simp only [its] at hm hlen
    have e1 : ∀ (X : Mem) (k : Nat), (X.bump k).blk = X.blk := fun _ _ => rfl
    have b : bldSl ES.P T_sl_int 0 M.next [] = some (.own M.next 1 0 0, []) := by simp [bldSl, buildRow]
    have hu : Sh.unif 1 items = true := by
      rw [hm]
      exact unif_iff.2 fun y hy => by
        simp only [List.mem_map] at hy
        obtain ⟨v, _, rfl⟩ := hy
        rfl
    by_cases h0 : items = []
    · have : l = [] := by rw [h0] at hlen; simp at hlen; exact List.length_eq_zero_iff.1 hlen.symm
      subst this
      subst h0
      have ha : appendS ES.P ((M.bump 4).set M.next (some [])).blk (M.next + 2) T_sl_int T_sl_int (.own M.next 1 0 0) (.sl [] tl) = some (.own M.next 1 0 0, []) := by
        rw [appendS_own (ys := []) (xs := []) ti_sl_int ti_sl_int ti_int rfl rfl (by decide) rfl rfl rfl rfl (by simp) (by simp) (by simp) (by simp)]
        rfl
      refine ⟨.own M.next 1 0 0, (M.bump 4).set M.next (some []), ?_, .inr ⟨M.next, by simp [intSV], by simp [intSV], by show M.next < M.next + 4; omega⟩, by simp, by show M.next ≤ M.next + 4; omega, fun id e a b hh => by cases hh; omega⟩
      simp [c_slices_Clone_sl_int_int, evW_reg, evW_chkr, isCst, TK.agg, zeroS, endS, resS, binS, eqS, b, ha]
    · have he : items.isEmpty = false := by cases items with | nil => exact absurd rfl h0 | cons _ _ => rfl
      have ha : appendS ES.P ((M.bump 4).set M.next (some [])).blk (M.next + 2) T_sl_int T_sl_int (.own M.next 1 0 0) (.sl items tl) = some (.own (M.next + 2) 1 0 items.length, [(M.next, none), (M.next + 2, some items)]) := by
        rw [appendS_own (ys := items) (xs := []) ti_sl_int ti_sl_int ti_int rfl rfl (by decide) hu rfl rfl rfl (by simp) (by simp) (by show (0 + items.length) * 8 ≤ _; omega) (by omega), he]
        simp
      refine ⟨.own (M.next + 2) 1 0 items.length, (((M.bump 4).set M.next (some [])).set M.next none).set (M.next + 2) (some items), ?_, .inr ⟨M.next + 2, by rw [intSV_len, hlen], by simp; rw [hm]; rfl, by show M.next + 2 < M.next + 4; omega⟩, ?_, by show M.next ≤ M.next + 4; omega, fun id e a b hh => by cases hh; omega⟩
      · simp [c_slices_Clone_sl_int_int, evW_reg, evW_chkr, isCst, TK.agg, zeroS, endS, resS, binS, eqS, b, ha]
      · intro id hid
        have q1 : ¬ id = M.next := by omega
        have q2 : ¬ id = M.next + 2 := by omega
        simp [q1, q2]

end Go.Proofs.YtjhlibdiojepaaaGreatDoor

/-
  Walks of the seat's functions: Sn.
-/
set_option linter.unusedVariables false
set_option linter.unusedSimpArgs false
set_option maxRecDepth 100000
namespace Go.Proofs.YtjhlibdiojepaaaGreatDoor
open Go.Proofs.YtjhlibdiojepaaaGreatDoor.Sh
/-! The law SteerAdopts: its walk. -/
set_option maxHeartbeats 4000000 in
theorem steer_Adopt_1_ok {y L : SV} {o : Offer} {l : List Int} (hy : OffR y o) (hL : Ints L l) (gone : Int) (s1 s2 s3 : Bool) {p : Nat} (hp : p < l.length) : PCw ES n_steer_Adopt_1 [y, .rptr [.int .i64 p] 0 0 s1, .rptr [.int .i64 gone] 0 0 s2, .rptr [L] 0 0 s3] = some (.bool (decide (atG o.ages p (boundG gone) + 1 = l[p]?.getD 0))) := by
  refine PCw_ex (fun M => ?_) rfl
  obtain ⟨A, rfl, hA, _⟩ := hy
  rw [b_steer_Adopt_1]
  have k := fun get => ages_At_c get hA p gone
  have hbg := boundG_in gone
  have hat := atG_in hbg.1 o.ages p
  generalize boundG gone = g at *
  have hw : IntKind.i64.wrap (atG o.ages p g + 1) = atG o.ages p g + 1 := i64_in (by omega) (by omega)
  have a1 := Ints.at hL hp
  have a2 := Ints.ld hp
  have hLc := sl_cells hL.sl
  have q1 : ∀ get, loadS ES.P get T_int (.rptr [.int .i64 p] 0 0 s1) = some (.int .i64 p) := fun get => by simp [loadS, partS, TK.agg]
  have q2 : ∀ get, loadS ES.P get T_int (.rptr [.int .i64 gone] 0 0 s2) = some (.int .i64 gone) := fun get => by simp [loadS, partS, TK.agg]
  have q3 : ∀ get, loadS ES.P get T_sl_int (.rptr [L] 0 0 s3) = some L := fun get => by simp [loadS, partS, TK.agg, hLc]
  have q4 : ∀ (get : Nat → Option (List SV)) (b : Nat), get b = some [.agg (offC o A)] → loadS ES.P get T_sl_int (.ptr b 0 7) = some A := fun get b h => by
    simp only [offC] at h
    simp [loadS, h, partS, TK.agg]
  generalize hoff : SV.agg (offC o A) = yy at q4
  have hys : yy.sto = true := by rw [← hoff]; rfl
  simp (maxSteps := 4000000) [c_steer_Adopt_1, evW_reg, evW_chkr, isCst, TK.agg, zeroS, endS, resS, fieldAddrS, q1, q2, q3, q4, k, hw, a1, a2, hp, hys]
theorem steer_Adopt_1_no {y L : SV} {o : Offer} (hy : OffR y o) (gone : Int) (s1 s2 s3 : Bool) : PCw ES n_steer_Adopt_1 [y, .rptr [.int .i64 (-1)] 0 0 s1, .rptr [.int .i64 gone] 0 0 s2, .rptr [L] 0 0 s3] = some (.bool false) := by
  refine PCw_ex (fun M => ?_) rfl
  obtain ⟨A, rfl, hA, _⟩ := hy
  rw [b_steer_Adopt_1]
  have q1 : ∀ get, loadS ES.P get T_int (.rptr [.int .i64 (-1)] 0 0 s1) = some (.int .i64 (-1)) := fun get => by simp [loadS, partS, TK.agg]
  generalize hoff : SV.agg (offC o A) = yy
  have hys : yy.sto = true := by rw [← hoff]; rfl
  simp (maxSteps := 4000000) [c_steer_Adopt_1, evW_reg, evW_chkr, isCst, TK.agg, zeroS, endS, resS, q1, hys]
theorem out_len {P : Program} {esz : Nat} {o : SV} {M : Mem} {items : List SV} (h : OutR esz o M items) {t e a b : Nat} {z : Option SV} (ht : tiOf P t = some ⟨.slice e, a, b, z⟩) : Sh.lenS P t o = some (.int .i64 items.length) := by
  rcases h with ⟨rfl, rfl⟩ | ⟨id, rfl, _⟩ <;> simp [Sh.lenS, ht]
theorem idxOf_false {α : Type} (l : List α) : idxOf (fun _ => false) l = -1 := by
  rcases idxOf_neg (p := fun _ : α => false) (l := l) with ⟨h, _⟩ | ⟨i, _, _, h, _⟩
  · exact h
  · cases h
/-- The call that looks for an offer. -/
theorem adopt_find {z L : SV} {os : List Offer} (hz : Offers z os) (h30 : os.length ≤ 30) {parts self gone : Int} (hL : Ints L (newL os parts self gone)) (hLv : Sh.pv L = true) {root : Int} (hr : root = match firstP (newL os parts self gone) self (boundG gone) with | some p => (p : Int) | none => -1)
    {get : Nat → Option (List SV)} {a b c : Nat} (ha : get a = some [.int .i64 root]) (hb : get b = some [.int .i64 gone]) (hc : get c = some [L]) :
    callP (PCw ES) get n_slices_IndexFunc_sl_api_Offer_api_Offer [z, .fn n_steer_Adopt_1 [] [.ptr a 0 0, .ptr b 0 0, .ptr c 0 0]] = some (.int .i64 (adoptG os parts self gone)) := by
  have p1 : pic get false 11 (.ptr a 0 0) = some (.rptr [.int .i64 root] 0 0 false) := pic_ptr ha (by simp; rfl)
  have p2 : pic get false 11 (.ptr b 0 0) = some (.rptr [.int .i64 gone] 0 0 false) := pic_ptr hb (by simp; rfl)
  have p3 : pic get false 11 (.ptr c 0 0) = some (.rptr [L] 0 0 false) := pic_ptr hc (by simpa using hLv)
  have hnl : Sh.np picDepth (.rptr [L] 0 0 false) = true := by
    show (Sh.pv _ || ([L].all (Sh.np 11))) = true
    simp [np_of_pv hLv]
  rw [callP_pic (ys := [z, .fn n_steer_Adopt_1 [] [.rptr [.int .i64 root] 0 0 false, .rptr [.int .i64 gone] 0 0 false, .rptr [L] 0 0 false]])]
  · unfold adoptG
    cases hf : firstP (newL os parts self gone) self (boundG gone) with
    | none =>
      rw [hf] at hr
      dsimp only at hr ⊢
      subst hr
      have key : PCw ES n_slices_IndexFunc_sl_api_Offer_api_Offer [z, .fn n_steer_Adopt_1 [] [.rptr [.int .i64 (-1)] 0 0 false, .rptr [.int .i64 gone] 0 0 false, .rptr [L] 0 0 false]] = some (.int .i64 (idxOf (fun _ : Offer => false) os)) := slices_IndexFunc_sl_api_Offer_api_Offer_ok elmOff ti_api_Offer hz (by omega) (npF (by rfl)) (fun _ => false) (fun get y o hy _ => callP_of (steer_Adopt_1_no hy gone false false false) (by
        simp only [List.all_append, List.all_cons, List.all_nil, Bool.and_true, Bool.and_eq_true, List.cons_append, List.nil_append]
        exact ⟨elmOff.np12 hy, rfl, rfl, hnl⟩))
      rw [idxOf_false] at key
      exact key
    | some p =>
      rw [hf] at hr
      dsimp only at hr ⊢
      subst hr
      obtain ⟨hp, _, _⟩ := firstP_spec hf
      exact slices_IndexFunc_sl_api_Offer_api_Offer_ok elmOff ti_api_Offer hz (by omega) (npF (by rfl)) (fun o : Offer => decide (atG o.ages p (boundG gone) + 1 = (newL os parts self gone)[p]?.getD 0)) (fun get y o hy _ => callP_of (steer_Adopt_1_ok hy hL gone false false false hp) (by
        simp only [List.all_append, List.all_cons, List.all_nil, Bool.and_true, Bool.and_eq_true, List.cons_append, List.nil_append]
        exact ⟨elmOff.np12 hy, rfl, rfl, hnl⟩))
  · have q : pic get false picDepth (.fn n_steer_Adopt_1 [] [.ptr a 0 0, .ptr b 0 0, .ptr c 0 0]) = some (.fn n_steer_Adopt_1 [] [.rptr [.int .i64 root] 0 0 false, .rptr [.int .i64 gone] 0 0 false, .rptr [L] 0 0 false]) := pic_fn (by simp [p1, p2, p3]) rfl
    simp [pic_np (hz.npE elmOff), q]
theorem adoptG_cases (os : List Offer) (parts self gone : Int) : adoptG os parts self gone = -1 ∨ ∃ k : Nat, adoptG os parts self gone = k := by
  unfold adoptG
  cases hf : firstP (newL os parts self gone) self (boundG gone) with
  | none => exact .inl rfl
  | some p =>
    obtain ⟨hp, hs, hl⟩ := firstP_spec hf
    obtain ⟨k, _, hk⟩ := whoP_there hp hs hl
    exact .inr ⟨k, hk⟩
theorem impClone : ((ES.prim n_slices_Clone_sl_int_int).isSome || ES.imp n_steer_Adopt n_slices_Clone_sl_int_int) = true := by rfl
set_option maxHeartbeats 8000000 in
theorem steer_Adopt_c {z : SV} {os : List Offer} (hz : Offers z os) (hzv : Sh.pv z = true) (h30 : os.length ≤ 30) (parts self gone : Int) :
    ∃ L, (∀ get, callP (PCw ES) get n_steer_Adopt [z, .int .i64 parts, .int .i64 self, .int .i64 gone] = some (.tup [.int .i64 (adoptG os parts self gone), if adoptG os parts self gone = -1 then .nilsl else L])) ∧ Ints L (newL os parts self gone) ∧ Sh.pv L = true := by
  obtain ⟨F, f1, f2, _⟩ := ages_Fresh_c parts self gone
  obtain ⟨Y, y1, y2⟩ := steer_Lists_c hz hzv h30
  obtain ⟨L, n1, hL, hLv⟩ := ages_Next_c f2 y2 (by simp [listsO]; omega) self gone
  have hL' : Ints L (newL os parts self gone) := hL
  have h6 := (newL_len os parts self gone).1
  have hroot := root_first (self := self) (gone := gone) h6 (fun p h => newL_in h)
  have hfind := fun {get : Nat → Option (List SV)} {a b c : Nat} => adopt_find (get := get) (a := a) (b := b) (c := c) hz h30 hL' hLv hroot
  have hcases := adoptG_cases os parts self gone
  have hLc := sl_cells hL'.sl
  have hLs := sl_sto hL'.sl
  refine ⟨L, fun get => callP_of (PCw_ex (fun M0 => ?_) ?_) (by simp [hz.npE elmOff]), hL', hLv⟩
  · rw [b_steer_Adopt]
    obtain ⟨o, M3, c1, c2, c3, c4, c5⟩ := clone_ic hL' (by omega) (((((M0.bump 3).set M0.next (some [.int .i64 gone])).bump 11).set (M0.next + 3 + 9) (some [L])).bump 3)
    have hn3 : M0.next + 3 + 11 + 3 ≤ M3.next := c4
    have hg3 : M3.blk M0.next = some [.int .i64 gone] := by
      rw [c3 M0.next (by show M0.next < M0.next + 3 + 11 + 3; omega)]
      have e : ¬ M0.next = M0.next + 3 + 9 := by omega
      show (((((M0.bump 3).set M0.next _).bump 11).set (M0.next + 3 + 9) _)).blk M0.next = _
      rw [Mem.blk_set, if_neg e]
      show ((M0.bump 3).set M0.next _).blk M0.next = _
      rw [Mem.blk_set, if_pos rfl]
    have hl3 : M3.blk (M0.next + 3 + 9) = some [L] := by
      rw [c3 (M0.next + 3 + 9) (by show M0.next + 3 + 9 < M0.next + 3 + 11 + 3; omega)]
      show (((((M0.bump 3).set M0.next _).bump 11).set (M0.next + 3 + 9) _)).blk (M0.next + 3 + 9) = _
      rw [Mem.blk_set, if_pos rfl]
    generalize newL os parts self gone = l at *
    have hlo := out_len (P := ES.P) c2 ti_sl_int
    rw [intSV_len] at hlo
    have e1 : ∀ (X : Mem) (k : Nat), (X.bump k).blk = X.blk := fun _ _ => rfl
    have hp0 : ∀ (get : Nat → Option (List SV)) (v : Int), pic get false picDepth (.int .i64 v) = some (.int .i64 v) := fun get v => pic_np (np_of_pv rfl _)
    -- memory in which the others stand, whether the own age was set or not
    have others : ∃ M4, (M0.next + 3 + 11 + 3 ≤ M4.next) ∧ M4.blk M0.next = some [.int .i64 gone] ∧ M4.blk (M0.next + 3 + 9) = some [L] ∧ callP (PCw ES) M4.blk n_ages_Root [o, .int .i64 gone] = some (.int .i64 (rootG (othersL l self) gone)) ∧
        ((∃ (q s : Nat), o = .own q 1 0 l.length ∧ self = s ∧ s < l.length ∧ M3.blk q = some (intSV l) ∧ M3.set q (some (intSV (l.set s 201))) = M4) ∨ (¬ (0 ≤ self ∧ self < l.length) ∧ M4 = M3)) := by
      by_cases hs : 0 ≤ self ∧ self < l.length
      · obtain ⟨s, rfl⟩ : ∃ s : Nat, self = s := ⟨self.toNat, by omega⟩
        have hsl : s < l.length := by omega
        rcases c2 with ⟨q1, _⟩ | ⟨q, rfl, q2, q3⟩
        · have : (intSV l).length = 0 := by rw [q1]; rfl
          rw [intSV_len] at this
          omega
        · rw [intSV_len] at c5
          have hq := c5 q _ _ _ rfl
          have hq' : M0.next + 3 + 11 + 3 ≤ q := hq
          have hO : othersL l (s : Int) = l.set s 201 := by unfold othersL; rw [if_pos (by omega)]; simp
          have hM : (M3.set q (some (intSV (l.set s 201)))).blk q = some (intSV (l.set s 201)) := by simp
          have hpic := ints_pic (q := q) (l := l.set s 201) hM (by simpa using q3)
          obtain ⟨yy, r1, r2⟩ := hpic
          rw [List.length_set] at r1
          refine ⟨M3.set q (some (intSV (l.set s 201))), hn3, ?_, ?_, ?_, .inl ⟨q, s, by rw [intSV_len], rfl, hsl, q2, rfl⟩⟩
          · have e : ¬ M0.next = q := by omega
            simp [e, hg3]
          · have e : ¬ M0.next + 3 + 9 = q := by omega
            simp [e, hl3]
          · rw [hO, intSV_len]
            have := ages_Root_c (M3.set q (some (intSV (l.set s 201)))).blk r2 gone
            rw [callP_pic (ys := [yy, .int .i64 gone]) (by simp [pic_np r2.np12, hp0])] at this
            rw [callP_pic (ys := [yy, .int .i64 gone]) (by simp [r1, hp0])]
            exact this
      · have hO : othersL l self = l := by unfold othersL; rw [if_neg hs]
        obtain ⟨yy, r1, r2, r3, _⟩ := c2.pic (fun x hx => by
          simp only [intSV, List.mem_map] at hx
          obtain ⟨v, _, rfl⟩ := hx
          exact np_of_pv rfl _)
        have hy : Ints yy l := RSl.of_map r2 r3
        refine ⟨M3, hn3, hg3, hl3, ?_, .inr ⟨hs, rfl⟩⟩
        rw [hO]
        have := ages_Root_c M3.blk hy gone
        rw [callP_pic (ys := [yy, .int .i64 gone]) (by simp [pic_np hy.np12, hp0])] at this
        rw [callP_pic (ys := [yy, .int .i64 gone]) (by simp [r1, hp0])]
        exact this
    obtain ⟨M4, m1, m2, m3, m4, m5⟩ := others
    have d1 : ¬ M0.next = M4.next + 3 := by omega
    have d2 : ¬ M0.next + 3 + 9 = M4.next + 3 := by omega
    have hix := hfind (get := ((M4.bump 5).set (M4.next + 3) (some [.int .i64 (rootG (othersL l self) gone)])).blk) (a := M4.next + 3) (b := M0.next) (c := M0.next + 3 + 9) (by simp) (by simp [d1, m2]) (by simp [d2, m3])
    generalize adoptG os parts self gone = v at *
    generalize rootG (othersL l self) gone = root at *
    rcases m5 with ⟨q, s, rfl, rfl, hsl, q2, hM4⟩ | ⟨hns, rfl⟩
    · have his : (intSV l)[s]? = some (.int .i64 l[s]) := by simp [intSV, hsl]
      have hix2 := own_int (q := q) hsl
      rcases hcases with rfl | ⟨k, rfl⟩
      · simp (maxSteps := 4000000) [c_steer_Adopt, evW_reg, evW_chkr, isCst, loadS, partS, TK.agg, fieldAddrS, zeroS, storeS, setPart, splice, endS, resS, fieldS, f1, y1, n1, hLc, hLs, c1, hlo, hsl, hix2, q2, his, intSV_set, hM4, m2, m3, m4, hix, e1, d1, d2]
      · have hk : ¬ (k : Int) < 0 := by omega
        have hk1 : ¬ (k : Int) = -1 := by omega
        simp (maxSteps := 4000000) [c_steer_Adopt, evW_reg, evW_chkr, isCst, loadS, partS, TK.agg, fieldAddrS, zeroS, storeS, setPart, splice, endS, resS, fieldS, f1, y1, n1, hLc, hLs, c1, hlo, hsl, hix2, q2, his, intSV_set, hM4, m2, m3, m4, hix, e1, d1, d2, hk, hk1]
    · by_cases h0 : 0 ≤ self
      · have h1 : ¬ self < l.length := by omega
        rcases hcases with rfl | ⟨k, rfl⟩
        · simp (maxSteps := 4000000) [c_steer_Adopt, evW_reg, evW_chkr, isCst, loadS, partS, TK.agg, fieldAddrS, zeroS, storeS, setPart, splice, endS, resS, fieldS, f1, y1, n1, hLc, hLs, c1, hlo, h0, h1, m2, m3, m4, hix, e1, d1, d2]
        · have hk : ¬ (k : Int) < 0 := by omega
          have hk1 : ¬ (k : Int) = -1 := by omega
          simp (maxSteps := 4000000) [c_steer_Adopt, evW_reg, evW_chkr, isCst, loadS, partS, TK.agg, fieldAddrS, zeroS, storeS, setPart, splice, endS, resS, fieldS, f1, y1, n1, hLc, hLs, c1, hlo, h0, h1, m2, m3, m4, hix, e1, d1, d2, hk, hk1]
      · rcases hcases with rfl | ⟨k, rfl⟩
        · simp (maxSteps := 4000000) [c_steer_Adopt, evW_reg, evW_chkr, isCst, loadS, partS, TK.agg, fieldAddrS, zeroS, storeS, setPart, splice, endS, resS, fieldS, f1, y1, n1, hLc, hLs, c1, hlo, h0, m2, m3, m4, hix, e1, d1, d2]
        · have hk : ¬ (k : Int) < 0 := by omega
          have hk1 : ¬ (k : Int) = -1 := by omega
          simp (maxSteps := 4000000) [c_steer_Adopt, evW_reg, evW_chkr, isCst, loadS, partS, TK.agg, fieldAddrS, zeroS, storeS, setPart, splice, endS, resS, fieldS, f1, y1, n1, hLc, hLs, c1, hlo, h0, m2, m3, m4, hix, e1, d1, d2, hk, hk1]
  · simp only [Sh.pv, pvs, Bool.true_and, Bool.and_true]
    split
    · rfl
    · exact hLv
set_option maxHeartbeats 4000000 in
theorem SteerAdopts_walk (xs0 xs1 xs2 xs3 : List SV) (h0 : WT ES.P 8 T_sl_api_Offer xs0) (h1 : WT ES.P 8 T_int xs1) (h2 : WT ES.P 8 T_int xs2) (h3 : WT ES.P 8 T_int xs3) :
    ∃ M', ICw ES n_l16_SteerAdopts [mkV ES.P T_sl_api_Offer xs0, mkV ES.P T_int xs1, mkV ES.P T_int xs2, mkV ES.P T_int xs3] .empty = some (.bool true, M') := by
  obtain ⟨os, hz⟩ := offers_of h0
  have hzv : Sh.pv (mkV ES.P T_sl_api_Offer xs0) = true := mkV_pv (WT_pv _ _ _ h0)
  obtain ⟨parts, _, e1, _⟩ := WT_int ti_int h1
  obtain ⟨self, _, e2, _⟩ := WT_int ti_int h2
  obtain ⟨gone, _, e3, _⟩ := WT_int ti_int h3
  rw [e1, e2, e3, b_l16_SteerAdopts]
  generalize mkV ES.P T_sl_api_Offer xs0 = z at *
  have k0 := fun get => l16_small_c get hz
  cases hs : smallO os with
  | false =>
    rw [hs] at k0
    simp [c_l16_SteerAdopts, evW_reg, evW_chkr, isCst, TK.agg, zeroS, endS, resS, k0]
  | true =>
    rw [hs] at k0
    have h30 := (smallO_len hs).1
    obtain ⟨L1, k1, q1, _⟩ := steer_Adopt_c hz hzv h30 parts self gone
    obtain ⟨L2, k2, q2, _⟩ := r10_Adopt_c hz h30 parts self gone
    have h6 := (newL_len os parts self gone).1
    by_cases hv : adoptG os parts self gone = -1
    · simp only [hv, if_true] at k1 k2
      have k3 := fun get => r1_SameInts_c get (x := .nilsl) (y := .nilsl) (l := []) (RSl.nil _) (RSl.nil _) (by simp)
      simp [c_l16_SteerAdopts, evW_reg, evW_chkr, isCst, TK.agg, zeroS, endS, resS, k0, k1, k2, k3]
    · simp only [hv, if_false] at k1 k2
      have k3 := fun get => r1_SameInts_c get q1 q2 (by omega)
      simp [c_l16_SteerAdopts, evW_reg, evW_chkr, isCst, TK.agg, zeroS, endS, resS, k0, k1, k2, k3]

end Go.Proofs.YtjhlibdiojepaaaGreatDoor
