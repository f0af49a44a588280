/-
  Walks of the seat's functions: Mv.
-/
import Derived.Test.YtedmidpnfnhnlaaEb0
import Derived.Test.YtedmidpnfnhnlaaShMb
import Derived.Test.YtedmidpnfnhnlaaLzMc
import Derived.Test.YtedmidpnfnhnlaaLAp
set_option linter.unusedVariables false
set_option linter.unusedSimpArgs false
set_option maxRecDepth 100000
namespace Go.Proofs.Ytedmidpnfnhnlaa
open Go.Proofs.Ytedmidpnfnhnlaa.Sh
/-! The law MiddleNear. -/
theorem l13_alive_ok : PCw ES n_l13_alive [] = some (.bool true) := PCw_closed 200 (by kernel_rfl)
@[simp] theorem l13_alive_c (get) : callP (PCw ES) get n_l13_alive [] = some (.bool true) := callP_of l13_alive_ok rfl
theorem numSV_snoc (l : List Int) (v : Int) : numSV l ++ [.int .i64 v] = numSV (l ++ [v]) := by simp [numSV]
theorem num_next {get : Nat → Option (List SV)} {o : SV} {M X : Mem} {l : List Int} {a s : Nat} {v : Int} (hI : OutR 1 o M (numSV l)) (hl : l.length ≤ 1000000) (hg : ∀ id, id < M.next → get id = M.blk id) (hs : get s = some [.int .i64 v]) (hX : Old M X) (hXn : a < X.next) (hMX : M.next ≤ X.next) (hMa : M.next ≤ a) :
    ∃ o' kl, appendS ES.P get a T_sl_int64 T_sl_int64 o (.own s 1 0 1) = some (o', kl) ∧ OutR 1 o' (X.sets kl) (numSV (l ++ [v])) ∧ Keeps o M (X.sets kl) ∧ (X.sets kl).next = X.next ∧ (∀ id e a b, o' = .own id e a b → M.next ≤ id ∨ o' = o) := by
  rw [← numSV_snoc]
  exact OutR.nextS (P := ES.P) (te := ⟨.int .i64, 1, 8, some (.int .i64 0)⟩) ti_sl_int64 ti_int64 rfl (by decide) rfl rfl hI (by rw [numSV_len]; show (l.length + 1) * 8 ≤ _; omega) (by rw [numSV_len]; show l.length + 1 ≤ _; omega) hg (by simp [itemsS, hs]) (by simp [srcFits]) rfl hX hXn hMX hMa
theorem nums_pic {o : SV} {M : Mem} {l : List Int} (h : OutR 1 o M (numSV l)) : ∃ y, pic M.blk false picDepth o = some y ∧ Nums y l := by
  obtain ⟨y, h1, h2, h3, _⟩ := OutR.pic h (fun x hx => by
    simp only [numSV, List.mem_map] at hx
    obtain ⟨v, _, rfl⟩ := hx
    exact np_of_pv rfl _)
  exact ⟨y, h1, RSl.of_map h2 h3⟩
theorem mid_own {o : SV} {M : Mem} {l : List Int} (h : OutR 1 o M (numSV l)) (hb : l.length ≤ 100000) (f : Int) : callP (PCw ES) M.blk n_middle_Mid [o, .int .i64 f] = some (.tup [.int .i64 (midG l f).1, .bool (midG l f).2]) := by
  obtain ⟨y, h1, h2⟩ := nums_pic h
  have := middle_Mid_c M.blk h2 hb f
  have hp0 : pic M.blk false picDepth (.int .i64 f) = some (.int .i64 f) := pic_np (np_of_pv rfl _)
  rw [callP_pic (ys := [y, .int .i64 f]) (by simp [pic_np h2.np, hp0])] at this
  rw [callP_pic (ys := [y, .int .i64 f]) (by simp [h1, hp0])]
  exact this
theorem i32_of {n : Nat} {xs : List SV} (h : WT ES.P (n + 2) T_sl_int32 xs) : ∃ l : List Int, RSl (fun y v => y = .int .i32 v) (mkV ES.P T_sl_int32 xs) l ∧ (∀ v ∈ l, -2147483648 ≤ v ∧ v ≤ 2147483647) := by
  rcases WT_slice ti_sl_int32 ti_int32 h with ⟨e1, h⟩ | ⟨items, e1, h, hl, hi⟩
  · rw [h]; exact ⟨[], RSl.nil _, by simp⟩
  · rw [h]
    obtain ⟨l, hl2⟩ := RSl.exists (R := fun y (v : Int) => y = .int .i32 v ∧ -2147483648 ≤ v ∧ v ≤ 2147483647) (tl := .ro) (items := items) fun y hy => by
      obtain ⟨ys, rfl, hw⟩ := hi y hy
      obtain ⟨v, _, e, w⟩ := WT_int ti_int32 hw
      refine ⟨v, e, ?_⟩
      simp [Lit.wf, IntKind.min, IntKind.max, IntKind.bits, IntKind.signed] at w
      omega
    refine ⟨l, ⟨hl2.sl, hl2.len, fun j y a hy ha => (hl2.at' j y a hy ha).1⟩, fun v hv => ?_⟩
    obtain ⟨j, hj, rfl⟩ := List.mem_iff_getElem.1 hv
    obtain ⟨y, hy, hr⟩ := hl2.get hj
    exact hr.2
theorem i16_of {n : Nat} {xs : List SV} (h : WT ES.P (n + 2) T_sl_int16 xs) : ∃ l : List Int, RSl (fun y v => y = .int .i16 v) (mkV ES.P T_sl_int16 xs) l ∧ (∀ v ∈ l, -32768 ≤ v ∧ v ≤ 32767) := by
  rcases WT_slice ti_sl_int16 ti_int16 h with ⟨e1, h⟩ | ⟨items, e1, h, hl, hi⟩
  · rw [h]; exact ⟨[], RSl.nil _, by simp⟩
  · rw [h]
    obtain ⟨l, hl2⟩ := RSl.exists (R := fun y (v : Int) => y = .int .i16 v ∧ -32768 ≤ v ∧ v ≤ 32767) (tl := .ro) (items := items) fun y hy => by
      obtain ⟨ys, rfl, hw⟩ := hi y hy
      obtain ⟨v, _, e, w⟩ := WT_int ti_int16 hw
      refine ⟨v, e, ?_⟩
      simp [Lit.wf, IntKind.min, IntKind.max, IntKind.bits, IntKind.signed] at w
      omega
    refine ⟨l, ⟨hl2.sl, hl2.len, fun j y a hy ha => (hl2.at' j y a hy ha).1⟩, fun v hv => ?_⟩
    obtain ⟨j, hj, rfl⟩ := List.mem_iff_getElem.1 hv
    obtain ⟨y, hy, hr⟩ := hl2.get hj
    exact hr.2
theorem i32_item {x : SV} {l : List Int} (h : RSl (fun y v => y = .int .i32 v) x l) {j : Nat} (hj : j < l.length) : indexAddrS ES.P T_sl_int32 x (.int .i64 j) = some (.rptr (l.map (SV.int .i32)) j 0 (stOf x)) ∧ ∀ get z, loadS ES.P get T_int32 (.rptr (l.map (SV.int .i32)) j 0 z) = some (.int .i32 l[j]) :=
  ⟨RSl.at (enc := SV.int .i32) h ti_sl_int32 ti_int32 (fun _ => rfl) hj, fun get z => loadS_rptr ti_int32 (x := .int .i32 l[j]) (by simp [hj]) rfl⟩
theorem i16_item {x : SV} {l : List Int} (h : RSl (fun y v => y = .int .i16 v) x l) {j : Nat} (hj : j < l.length) : indexAddrS ES.P T_sl_int16 x (.int .i64 j) = some (.rptr (l.map (SV.int .i16)) j 0 (stOf x)) ∧ ∀ get z, loadS ES.P get T_int16 (.rptr (l.map (SV.int .i16)) j 0 z) = some (.int .i16 l[j]) :=
  ⟨RSl.at (enc := SV.int .i16) h ti_sl_int16 ti_int16 (fun _ => rfl) hj, fun get z => loadS_rptr ti_int16 (x := .int .i16 l[j]) (by simp [hj]) rfl⟩
theorem u8_wf {v : Int} (h : (Lit.int .u8 v).wf = true) : 0 ≤ v ∧ v ≤ 255 := by
  simp [Lit.wf, IntKind.min, IntKind.max, IntKind.bits, IntKind.signed] at h
  omega
/-- The other list. -/
def offAt (l off : List Int) (d : Int) (i : Nat) : Int := l.getD i 0 + (off.getD i 0).tmod (d + 1)
set_option maxHeartbeats 4000000 in
theorem Near_B0 {x y oa ob : SV} {l off : List Int} (hx : RSl (fun y v => y = .int .i32 v) x l) (hy : RSl (fun y v => y = .int .i16 v) y off) (hl32 : ∀ v ∈ l, -2147483648 ≤ v ∧ v ≤ 2147483647) (ho16 : ∀ v ∈ off, -32768 ≤ v ∧ v ≤ 32767) (h40 : l.length ≤ 40) (hlo : l.length ≤ off.length) {d : Int} (hd : 0 ≤ d ∧ d ≤ 255) (t9 : SV)
    {M : Mem} {j : Nat} (hj : j < l.length) (hA : OutR 1 oa M (numSV (l.take j))) (hB : OutR 1 ob M (numSV ((List.range j).map (offAt l off d)))) (hne : ∀ id e a b, ob = .own id e a b → ∀ e a b, oa ≠ .own id e a b) :
    ∃ M' oa' ob', evW ES n_l13_MiddleNear c_l13_MiddleNear_B0 ⟨h_l13_MiddleNear_0 x y t9 (.int .i64 d) oa ob (.int .i64 j), M⟩ = some (.normal, ⟨h_l13_MiddleNear_0 x y t9 (.int .i64 d) oa' ob' (.int .i64 ((j + 1 : Nat) : Int)), M'⟩) ∧
      OutR 1 oa' M' (numSV (l.take (j + 1))) ∧ OutR 1 ob' M' (numSV ((List.range (j + 1)).map (offAt l off d))) ∧ (∀ id e a b, ob' = .own id e a b → ∀ e a b, oa' ≠ .own id e a b) := by
  have hw : IntKind.i64.wrap ((j : Int) + 1) = (j : Int) + 1 := i64_in (by omega) (by omega)
  have hlx := hx.lenS ti_sl_int32
  have hjo : j < off.length := by omega
  obtain ⟨a1, a2⟩ := i32_item hx hj
  obtain ⟨b1, b2⟩ := i16_item hy hjo
  have hv := hl32 _ (List.getElem_mem hj)
  have ho := ho16 _ (List.getElem_mem hjo)
  have wv : IntKind.i64.wrap l[j] = l[j] := i64_in (by omega) (by omega)
  have wo : IntKind.i64.wrap off[j] = off[j] := i64_in (by omega) (by omega)
  have wd : IntKind.i64.wrap (d + 1) = d + 1 := i64_in (by omega) (by omega)
  have hz : d + 1 ≠ 0 := by omega
  have t1 := Int.tmod_lt_of_pos off[j] (show 0 < d + 1 by omega)
  have t2 := Int.lt_tmod_of_pos off[j] (show 0 < d + 1 by omega)
  have ws : IntKind.i64.wrap (l[j] + off[j].tmod (d + 1)) = l[j] + off[j].tmod (d + 1) := i64_in (by omega) (by omega)
  have eoff : offAt l off d j = l[j] + off[j].tmod (d + 1) := by simp [offAt, hj, hjo]
  generalize hsum : l[j] + off[j].tmod (d + 1) = u at *
  obtain ⟨oa', k1, p1, p2, p3, p4, p5⟩ := num_next (get := ((M.bump 9).set (M.next + 6) (some [.int .i64 l[j]])).blk) (X := (M.bump 9).set (M.next + 6) (some [.int .i64 l[j]])) (a := M.next + 7) (s := M.next + 6) (v := l[j]) hA (by rw [List.length_take]; omega)
    (fun id hid => by
      have e : ¬ id = M.next + 6 := by omega
      simp [e]) (by simp) (fun id hid => by
      have e : ¬ id = M.next + 6 := by omega
      simp [e]) (by simp) (by show M.next ≤ M.next + 9; omega) (by omega)
  rw [show l.take j ++ [l[j]] = l.take (j + 1) from (List.take_succ_eq_append_getElem hj).symm] at p2
  generalize hM1 : (((M.bump 9).set (M.next + 6) (some [.int .i64 l[j]])).sets k1) = M1 at *
  have hn1 : M1.next = M.next + 9 := p4
  have hB1 : OutR 1 ob M1 (numSV ((List.range j).map (offAt l off d))) := by
    rcases hB with ⟨q1, q2⟩ | ⟨id, q1, q2, q3⟩
    · exact .inl ⟨q1, q2⟩
    · exact .inr ⟨id, q1, (p3 id q3 (hne id _ _ _ q1)).trans q2, by omega⟩
  obtain ⟨ob', k2, r1, r2, r3, r4, r5⟩ := num_next (get := seenM ((M1.bump 18).set (M1.next + 15) (some [.int .i64 u])) M1.next 18 (some [0, 1, 2, 3, 4, 5, 6, 7, 8, 9, 10, 11, 12, 13, 14, 15])) (X := (M1.bump 18).set (M1.next + 15) (some [.int .i64 u])) (a := M1.next + 16) (s := M1.next + 15) (v := u) hB1 (by simp; omega)
    (fun id hid => by
      have e : ¬ id = M1.next + 15 := by omega
      simp [e, hid]) (by simp) (fun id hid => by
      have e : ¬ id = M1.next + 15 := by omega
      simp [e]) (by simp) (by show M1.next ≤ M1.next + 18; omega) (by omega)
  have ha1 : ∀ id e a b, oa' = .own id e a b → id < M1.next := fun id e a b hh => by
    rcases p2 with ⟨_, q⟩ | ⟨i, q, _, q3⟩
    · rw [q] at hh; cases hh
    · rw [q] at hh; cases hh; exact q3
  have hne1 : ∀ id e a b, oa' = .own id e a b → ∀ e a b, ob ≠ .own id e a b := fun id e a b hh e' a' b' hh2 => by
    have hidM : id < M.next := by
      rcases hB with ⟨_, q⟩ | ⟨i, q, _, q3⟩
      · rw [q] at hh2; cases hh2
      · rw [q] at hh2; cases hh2; exact q3
    rcases p5 id e a b hh with h | h
    · omega
    · rw [h] at hh
      exact hne id _ _ _ hh2 _ _ _ hh
  refine ⟨_, oa', ob', ?_, ?_, by simpa [List.range_succ, eoff] using r2, ?_⟩
  rotate_left
  · rcases p2 with ⟨q1, q2⟩ | ⟨id, q1, q2, q3⟩
    · exact .inl ⟨q1, q2⟩
    · exact .inr ⟨id, q1, (r3 id q3 (hne1 id _ _ _ q1)).trans q2, by rw [r4]; show id < M1.next + 18; omega⟩
  · intro id e a b hh e' a' b' hh2
    have hlt := ha1 id _ _ _ hh2
    rcases r5 id e a b hh with h | h
    · omega
    · rw [h] at hh
      exact hne1 id _ _ _ hh2 _ _ _ hh
  · have b0 : ∀ (q : Nat) (v : Int), bldSl ES.P T_sl_int64 1 q [(0, .int .i64 v)] = some (.own q 1 0 1, [.int .i64 v]) := fun q v => by simp [bldSl, buildRow]
    have e1 : ∀ (X : Mem) (k : Nat), (X.bump k).blk = X.blk := fun _ _ => rfl
    try simp at p1 r1 hM1
    simp (maxSteps := 4000000) [c_l13_MiddleNear_B0, evW_reg, evW_chkr, isCst, TK.agg, zeroS, endS, resS, h_l13_MiddleNear_0, hlx, hj, a1, a2, b1, b2, wv, wo, wd, binS_rem hz, hsum, ws, b0, p1, hM1, r1, hw, convS]

end Go.Proofs.Ytedmidpnfnhnlaa

/-
  Walks of the seat's functions: Mw.
-/
set_option linter.unusedVariables false
set_option linter.unusedSimpArgs false
set_option maxRecDepth 100000
namespace Go.Proofs.Ytedmidpnfnhnlaa
open Go.Proofs.Ytedmidpnfnhnlaa.Sh
/-! The law MiddleNear: its walk. -/
theorem mid_time {l : List Int} {f : Nat} (h : 2 * f + 1 ≤ l.length) (ht : ∀ x ∈ l, isTime x) : -1099511627776 ≤ mid2 (isortI l) f / 2 ∧ mid2 (isortI l) f / 2 ≤ 1099511627776 := by
  have hl := isortI_len l
  have t0 := isortI_time (timesL_iff.2 ht) (k := f) (by omega)
  have t1 := isortI_time (timesL_iff.2 ht) (k := (isortI l).length - 1 - f) (by omega)
  unfold isTime at t0 t1
  unfold mid2
  omega
theorem rem_nat {v : Int} (h : 0 ≤ v) {k : Nat} (hk : 0 < k) : ∃ p : Nat, p < k ∧ v.tmod k = p := by
  refine ⟨(v.tmod k).toNat, ?_, ?_⟩
  · have := Int.tmod_lt_of_pos v (show 0 < (k : Int) by omega)
    have := Int.tmod_nonneg (k : Int) h
    omega
  · have := Int.tmod_nonneg (k : Int) h
    omega
@[simp] theorem cv_u8 (get : Nat → Option (List SV)) (v : Int) : convS ES.P get T_uint8 T_int (.int .u8 v) = some (.int .i64 (IntKind.i64.wrap v)) := by simp [convS]
set_option maxHeartbeats 8000000 in
theorem MiddleNear_walk (xs0 xs1 xs2 xs3 : List SV) (h0 : WT ES.P 8 T_sl_int32 xs0) (h1 : WT ES.P 8 T_sl_int16 xs1) (h2 : WT ES.P 8 T_uint8 xs2) (h3 : WT ES.P 8 T_uint8 xs3) :
    ∃ M', ICw ES n_l13_MiddleNear [mkV ES.P T_sl_int32 xs0, mkV ES.P T_sl_int16 xs1, mkV ES.P T_uint8 xs2, mkV ES.P T_uint8 xs3] .empty = some (.bool true, M') := by
  obtain ⟨l, hx, hl32⟩ := i32_of h0
  obtain ⟨off, hy, ho16⟩ := i16_of h1
  obtain ⟨fa, _, e2, w2⟩ := WT_int ti_uint8 h2
  obtain ⟨d, _, e3, w3⟩ := WT_int ti_uint8 h3
  have b2 := u8_wf w2
  have b3 := u8_wf w3
  rw [e2, e3, b_l13_MiddleNear]
  generalize mkV ES.P T_sl_int32 xs0 = x at *
  generalize mkV ES.P T_sl_int16 xs1 = y at *
  have l1 := hx.lenS ti_sl_int32
  have l2 := hy.lenS ti_sl_int16
  obtain ⟨f, hf4, hfe⟩ := rem_nat b2.1 (show 0 < 4 by omega)
  have hfe' : fa.tmod 4 = f := hfe
  have x1 : IntKind.i64.wrap fa = fa := i64_in (by omega) (by omega)
  have x2 : IntKind.i64.wrap d = d := i64_in (by omega) (by omega)
  have x3 : IntKind.i64.wrap (2 * (f : Int)) = 2 * (f : Int) := i64_in (by omega) (by omega)
  have x4 : IntKind.i64.wrap (2 * (f : Int) + 1) = 2 * (f : Int) + 1 := i64_in (by omega) (by omega)
  by_cases c1 : 40 < (l.length : Int)
  · simp (maxSteps := 4000000) [c_l13_MiddleNear, evW_reg, evW_chkr, isCst, TK.agg, zeroS, endS, resS, l1, l2, x1, x2, hfe', c1]
  · by_cases c2 : (off.length : Int) < l.length
    · have c2' : off.length < l.length := by omega
      simp (maxSteps := 4000000) [c_l13_MiddleNear, evW_reg, evW_chkr, isCst, TK.agg, zeroS, endS, resS, l1, l2, x1, x2, hfe', c1, c2, c2']
    · have c2' : ¬ off.length < l.length := by omega
      by_cases c3 : (l.length : Int) < 2 * (f : Int) + 1
      · simp (maxSteps := 4000000) [c_l13_MiddleNear, evW_reg, evW_chkr, isCst, TK.agg, zeroS, endS, resS, l1, l2, x1, x2, x3, x4, hfe', c1, c2, c2', c3]
      · have hn : 2 * f + 1 ≤ l.length := by omega
        generalize hB : (List.range l.length).map (offAt l off d) = B
        have hBl : B.length = l.length := by rw [← hB]; simp
        obtain ⟨r, g1, Ma, ⟨oa, ob⟩, rfl, iA, iB, _⟩ := loop_st (E := ES) (me := n_l13_MiddleNear) (B := c_l13_MiddleNear_B0) (β := SV × SV) (len := l.length) (T := fun j o => h_l13_MiddleNear_0 x y (.int .i64 f) (.int .i64 d) o.1 o.2 (.int .i64 j))
          (I := fun j o M => OutR 1 o.1 M (numSV (l.take j)) ∧ OutR 1 o.2 M (numSV ((List.range j).map (offAt l off d))) ∧ (∀ id e a b, o.2 = .own id e a b → ∀ e a b, o.1 ≠ .own id e a b))
          (Q := fun r => ∃ M' o, r = (.exit 0, ⟨(h_l13_MiddleNear_0 x y (.int .i64 f) (.int .i64 d) o.1 o.2 (.int .i64 l.length)).set 49 (.bool false), M'⟩) ∧ OutR 1 o.1 M' (numSV l) ∧ OutR 1 o.2 M' (numSV B) ∧ True)
          (fun j o M hj ⟨i1, i2, i3⟩ => by
            left
            obtain ⟨M', oa', ob', a1, a2, a3, a4⟩ := Near_B0 hx hy hl32 ho16 (by omega) (by omega) b3 (.int .i64 f) hj i1 i2 i3
            exact ⟨(oa', ob'), M', a1, a2, a3, a4⟩)
          (fun o M ⟨i1, i2, i3⟩ => ⟨_, by simp [c_l13_MiddleNear_B0, evW_reg, evW_chkr, isCst, TK.agg, zeroS, endS, resS, h_l13_MiddleNear_0, l1], by simp, M, o, rfl, by rw [List.take_length] at i1; exact i1, by rw [← hB]; exact i2, trivial⟩) 0 (.nilsl, .nilsl) Mem.empty (by omega)
          ⟨.inl ⟨rfl, rfl⟩, .inl ⟨rfl, rfl⟩, by simp⟩
        simp only at iA iB
        have hAt : ∀ v ∈ l, isTime v := fun v hv => by have := hl32 v hv; unfold isTime; omega
        have hbe : ∀ i (h1 : i < l.length) (h2 : i < B.length), B[i] = l[i] + (off[i]'(by omega)).tmod (d + 1) := fun i h1 h2 => by
          have hio : i < off.length := by omega
          subst hB
          simp [offAt, h1, hio]
        have hdt : ∀ v : Int, -d ≤ v.tmod (d + 1) ∧ v.tmod (d + 1) ≤ d := fun v => by
          have t1 := Int.tmod_lt_of_pos v (show 0 < d + 1 by omega)
          have t2 := Int.lt_tmod_of_pos v (show 0 < d + 1 by omega)
          omega
        have hBt : ∀ v ∈ B, isTime v := fun v hv => by
          obtain ⟨i, hi, rfl⟩ := List.mem_iff_getElem.1 hv
          have h1 : i < l.length := by omega
          rw [hbe i h1 hi]
          have := hl32 _ (List.getElem_mem h1)
          have := hdt (off[i]'(by omega))
          unfold isTime
          omega
        have n1 := mid_near (a := l) (b := B) (f := f) (d := d) hBl.symm hn (fun i h1 h2 => by rw [hbe i h1 h2]; have := hdt (off[i]'(by omega)); omega)
        have n2 := mid_near (a := B) (b := l) (f := f) (d := d) hBl (by omega) (fun i h1 h2 => by rw [hbe i h2 h1]; have := hdt (off[i]'(by omega)); omega)
        have m1 := mid_time hn hAt
        have m2 := mid_time (l := B) (f := f) (by omega) hBt
        have q1 := mid_own iA (by omega) f
        have q2 := mid_own iB (by omega) f
        rw [midG_ok hn hAt] at q1
        rw [midG_ok (by omega) hBt] at q2
        generalize mid2 (isortI l) f / 2 = u at *
        generalize mid2 (isortI B) f / 2 = v at *
        have y1 : IntKind.i64.wrap (u - v) = u - v := i64_in (by omega) (by omega)
        have y2 : IntKind.i64.wrap (v - u) = v - u := i64_in (by omega) (by omega)
        have z1 : u - v ≤ d := by omega
        have z2 : v - u ≤ d := by omega
        simp [h_l13_MiddleNear_0] at g1
        simp (maxSteps := 4000000) [c_l13_MiddleNear, evW_reg, evW_chkr, isCst, TK.agg, zeroS, endS, resS, l1, l2, x1, x2, x3, x4, hfe', c1, c2, c2', c3, c_l13_MiddleNear_L0, g1, q1, q2, y1, y2, z1, z2]

end Go.Proofs.Ytedmidpnfnhnlaa

/-
  Walks of the seat's functions: Mx.
-/
set_option linter.unusedVariables false
set_option linter.unusedSimpArgs false
set_option maxRecDepth 100000
namespace Go.Proofs.Ytedmidpnfnhnlaa
open Go.Proofs.Ytedmidpnfnhnlaa.Sh
/-! The law MiddleTurned. -/
def Apart (o2 o : SV) : Prop := ∀ id e a b, o2 = .own id e a b → ∀ e a b, o ≠ .own id e a b
theorem Apart.symm {o2 o : SV} (h : Apart o2 o) : Apart o o2 := fun id e a b h1 e' a' b' h2 => h id _ _ _ h2 _ _ _ h1
/-- A number more, and what becomes of other lists. -/
theorem num_app {o : SV} {M : Mem} {l : List Int} (n s a : Nat) (v : Int) (hI : OutR 1 o M (numSV l)) (hl : l.length ≤ 1000000) (hs : M.next ≤ s) (hs2 : s < M.next + n) (ha : M.next ≤ a) (ha2 : a < M.next + n) :
    ∃ o' k M1, appendS ES.P ((M.bump n).set s (some [.int .i64 v])).blk a T_sl_int64 T_sl_int64 o (.own s 1 0 1) = some (o', k) ∧ ((M.bump n).set s (some [.int .i64 v])).sets k = M1 ∧ OutR 1 o' M1 (numSV (l ++ [v])) ∧ M1.next = M.next + n ∧
      ∀ o2 l2, OutR 1 o2 M (numSV l2) → Apart o2 o → OutR 1 o2 M1 (numSV l2) ∧ Apart o2 o' := by
  obtain ⟨o', k, p1, p2, p3, p4, p5⟩ := num_next (get := ((M.bump n).set s (some [.int .i64 v])).blk) (X := (M.bump n).set s (some [.int .i64 v])) (a := a) (s := s) (v := v) hI hl
    (fun id hid => by
      have e : ¬ id = s := by omega
      simp [e]) (by simp) (fun id hid => by
      have e : ¬ id = s := by omega
      simp [e]) (by show a < M.next + n; omega) (by show M.next ≤ M.next + n; omega) ha
  have hn : (((M.bump n).set s (some [.int .i64 v])).sets k).next = M.next + n := p4
  refine ⟨o', k, _, p1, rfl, p2, hn, fun o2 l2 h2 hne => ⟨?_, fun id e a' b hh e' a'' b' hh2 => ?_⟩⟩
  · rcases h2 with ⟨q1, q2⟩ | ⟨id, q1, q2, q3⟩
    · exact .inl ⟨q1, q2⟩
    · exact .inr ⟨id, q1, (p3 id q3 (hne id _ _ _ q1)).trans q2, by omega⟩
  · have hidM : id < M.next := by
      rcases h2 with ⟨_, q⟩ | ⟨i, q, _, q3⟩
      · rw [q] at hh; cases hh
      · rw [q] at hh; cases hh; exact q3
    rcases p5 id _ _ _ hh2 with h | h
    · omega
    · rw [h] at hh2
      exact hne id _ _ _ hh _ _ _ hh2
structure L3 (M : Mem) (a b c : SV) (A B C : List Int) : Prop where
  ha : OutR 1 a M (numSV A)
  hb : OutR 1 b M (numSV B)
  hc : OutR 1 c M (numSV C)
  ab : Apart b a
  ac : Apart c a
  bc : Apart c b
set_option maxHeartbeats 8000000 in
theorem Turned_B0 {x oa ob oc t7 : SV} {l : List Int} (hx : RSl (fun y v => y = .int .i32 v) x l) (hl32 : ∀ v ∈ l, -2147483648 ≤ v ∧ v ≤ 2147483647) (h60 : l.length ≤ 60) {d : Int} (hd : -2147483648 ≤ d ∧ d ≤ 2147483647)
    {M : Mem} {j : Nat} (hj : j < l.length) (h : L3 M oa ob oc (l.take j) (l.reverse.take j) ((l.map (· + d)).take j)) :
    ∃ M' oa' ob' oc', evW ES n_l13_MiddleTurned c_l13_MiddleTurned_B0 ⟨h_l13_MiddleTurned_0 x (.int .i32 d) t7 oa ob oc (.int .i64 j), M⟩ = some (.normal, ⟨h_l13_MiddleTurned_0 x (.int .i32 d) t7 oa' ob' oc' (.int .i64 ((j + 1 : Nat) : Int)), M'⟩) ∧
      L3 M' oa' ob' oc' (l.take (j + 1)) (l.reverse.take (j + 1)) ((l.map (· + d)).take (j + 1)) := by
  have hw : IntKind.i64.wrap ((j : Int) + 1) = (j : Int) + 1 := i64_in (by omega) (by omega)
  have hlx := hx.lenS ti_sl_int32
  have hjr : l.length - 1 - j < l.length := by omega
  obtain ⟨a1, a2⟩ := i32_item hx hj
  obtain ⟨b1, b2⟩ := i32_item hx hjr
  have hv := hl32 _ (List.getElem_mem hj)
  have hr := hl32 _ (List.getElem_mem hjr)
  have wv : IntKind.i64.wrap l[j] = l[j] := i64_in (by omega) (by omega)
  have wr : IntKind.i64.wrap l[l.length - 1 - j] = l[l.length - 1 - j] := i64_in (by omega) (by omega)
  have wd : IntKind.i64.wrap d = d := i64_in (by omega) (by omega)
  have ws : IntKind.i64.wrap (l[j] + d) = l[j] + d := i64_in (by omega) (by omega)
  have w1 : IntKind.i64.wrap ((l.length : Int) - 1) = (l.length : Int) - 1 := i64_in (by omega) (by omega)
  have w2 : IntKind.i64.wrap ((l.length : Int) - 1 - j) = ((l.length - 1 - j : Nat) : Int) := by rw [i64_in (by omega) (by omega)]; omega
  have eA : l.take j ++ [l[j]] = l.take (j + 1) := (List.take_succ_eq_append_getElem hj).symm
  have eB : l.reverse.take j ++ [l[l.length - 1 - j]] = l.reverse.take (j + 1) := by
    rw [List.take_succ_eq_append_getElem (show j < l.reverse.length by simpa using hj)]
    simp [List.getElem_reverse]
  have eC : (l.map (· + d)).take j ++ [l[j] + d] = (l.map (· + d)).take (j + 1) := by
    rw [List.take_succ_eq_append_getElem (show j < (l.map (· + d)).length by simpa using hj)]
    simp
  obtain ⟨oa', k1, M1, p1, m1, p2, n1, p3⟩ := num_app 9 (M.next + 6) (M.next + 7) l[j] h.ha (by rw [List.length_take]; omega) (by omega) (by omega) (by omega) (by omega)
  obtain ⟨hb1, ab1⟩ := p3 ob _ h.hb h.ab
  obtain ⟨hc1, ac1⟩ := p3 oc _ h.hc h.ac
  obtain ⟨ob', k2, M2, q1, m2, q2, n2, q3⟩ := num_app 13 (M1.next + 10) (M1.next + 11) l[l.length - 1 - j] hb1 (by rw [List.length_take]; simp; omega) (by omega) (by omega) (by omega) (by omega)
  obtain ⟨ha2, ba2⟩ := q3 oa' _ p2 ab1.symm
  obtain ⟨hc2, bc2⟩ := q3 oc _ hc1 h.bc
  obtain ⟨oc', k3, M3, r1, m3, r2, n3, r3⟩ := num_app 12 (M2.next + 9) (M2.next + 10) (l[j] + d) hc2 (by rw [List.length_take]; simp; omega) (by omega) (by omega) (by omega) (by omega)
  obtain ⟨ha3, ca3⟩ := r3 oa' _ ha2 ac1.symm
  obtain ⟨hb3, cb3⟩ := r3 ob' _ q2 bc2.symm
  rw [eA] at ha3
  rw [eB] at hb3
  rw [eC] at r2
  refine ⟨M3, oa', ob', oc', ?_, ⟨ha3, hb3, r2, ba2.symm, ca3.symm, cb3.symm⟩⟩
  have b0 : ∀ (q : Nat) (v : Int), bldSl ES.P T_sl_int64 1 q [(0, .int .i64 v)] = some (.own q 1 0 1, [.int .i64 v]) := fun q v => by simp [bldSl, buildRow]
  generalize l[l.length - 1 - j] = r at *
  generalize l[j] = v at *
  simp (maxSteps := 4000000) [c_l13_MiddleTurned_B0, evW_reg, evW_chkr, isCst, TK.agg, zeroS, endS, resS, h_l13_MiddleTurned_0, hlx, hj, a1, a2, w1, w2, b1, b2, wv, wr, wd, ws, b0, p1, m1, q1, m2, r1, m3, hw, convS]
theorem i32_wf {v : Int} (h : (Lit.int .i32 v).wf = true) : -2147483648 ≤ v ∧ v ≤ 2147483647 := by
  simp [Lit.wf, IntKind.min, IntKind.max, IntKind.bits, IntKind.signed] at h
  omega
set_option maxHeartbeats 8000000 in
theorem MiddleTurned_walk (xs0 xs1 xs2 : List SV) (h0 : WT ES.P 8 T_sl_int32 xs0) (h1 : WT ES.P 8 T_uint8 xs1) (h2 : WT ES.P 8 T_int32 xs2) :
    ∃ M', ICw ES n_l13_MiddleTurned [mkV ES.P T_sl_int32 xs0, mkV ES.P T_uint8 xs1, mkV ES.P T_int32 xs2] .empty = some (.bool true, M') := by
  obtain ⟨l, hx, hl32⟩ := i32_of h0
  obtain ⟨fa, _, e1, w1⟩ := WT_int ti_uint8 h1
  obtain ⟨d, _, e2, w2⟩ := WT_int ti_int32 h2
  have b1 := u8_wf w1
  have hd := i32_wf w2
  rw [e1, e2, b_l13_MiddleTurned]
  generalize mkV ES.P T_sl_int32 xs0 = x at *
  have l1 := hx.lenS ti_sl_int32
  obtain ⟨f, hf4, hfe⟩ := rem_nat b1.1 (show 0 < 4 by omega)
  have hfe' : fa.tmod 4 = f := hfe
  have x1 : IntKind.i64.wrap fa = fa := i64_in (by omega) (by omega)
  have x2 : IntKind.i64.wrap d = d := i64_in (by omega) (by omega)
  have x3 : IntKind.i64.wrap (2 * (f : Int)) = 2 * (f : Int) := i64_in (by omega) (by omega)
  have x4 : IntKind.i64.wrap (2 * (f : Int) + 1) = 2 * (f : Int) + 1 := i64_in (by omega) (by omega)
  by_cases c1 : 60 < (l.length : Int)
  · simp (maxSteps := 4000000) [c_l13_MiddleTurned, evW_reg, evW_chkr, isCst, TK.agg, zeroS, endS, resS, l1, x1, hfe', c1]
  · obtain ⟨r, g1, Ma, ⟨oa, ob, oc⟩, rfl, iA, iB, iC⟩ := loop_st (E := ES) (me := n_l13_MiddleTurned) (B := c_l13_MiddleTurned_B0) (β := SV × SV × SV) (len := l.length) (T := fun j o => h_l13_MiddleTurned_0 x (.int .i32 d) (.int .i64 f) o.1 o.2.1 o.2.2 (.int .i64 j))
      (I := fun j o M => L3 M o.1 o.2.1 o.2.2 (l.take j) (l.reverse.take j) ((l.map (· + d)).take j))
      (Q := fun r => ∃ M' o, r = (.exit 0, ⟨(h_l13_MiddleTurned_0 x (.int .i32 d) (.int .i64 f) o.1 o.2.1 o.2.2 (.int .i64 l.length)).set 32 (.bool false), M'⟩) ∧ OutR 1 o.1 M' (numSV l) ∧ OutR 1 o.2.1 M' (numSV l.reverse) ∧ OutR 1 o.2.2 M' (numSV (l.map (· + d))))
      (fun j o M hj hI => by
        left
        obtain ⟨M', oa', ob', oc', a1, a2⟩ := Turned_B0 (t7 := .int .i64 f) hx hl32 (by omega) hd hj hI
        exact ⟨(oa', ob', oc'), M', a1, a2⟩)
      (fun o M hI => ⟨_, by simp [c_l13_MiddleTurned_B0, evW_reg, evW_chkr, isCst, TK.agg, zeroS, endS, resS, h_l13_MiddleTurned_0, l1], by simp, M, o, rfl, by have := hI.ha; rwa [List.take_length] at this, by have := hI.hb; rwa [List.take_of_length_le (by simp)] at this, by have := hI.hc; rwa [List.take_of_length_le (by simp)] at this⟩) 0 (.nilsl, .nilsl, .nilsl) Mem.empty (by omega)
      ⟨.inl ⟨rfl, rfl⟩, .inl ⟨rfl, rfl⟩, .inl ⟨rfl, rfl⟩, fun _ _ _ _ h => (by cases h), fun _ _ _ _ h => (by cases h), fun _ _ _ _ h => (by cases h)⟩
    simp only at iA iB iC
    simp [h_l13_MiddleTurned_0] at g1
    have q1 := mid_own iA (by omega) f
    have q2 := mid_own iB (by simp; omega) f
    have q3 := mid_own iC (by simp; omega) f
    by_cases c3 : (l.length : Int) < 2 * (f : Int) + 1
    · rw [midG_no (by omega)] at q1
      rw [midG_no (by simp; omega)] at q2
      rw [midG_no (by simp; omega)] at q3
      simp (maxSteps := 4000000) [c_l13_MiddleTurned, evW_reg, evW_chkr, isCst, TK.agg, zeroS, endS, resS, l1, x1, x3, x4, hfe', c1, c3, c_l13_MiddleTurned_L0, g1, q1, q2, q3]
    · have hn : 2 * f + 1 ≤ l.length := by omega
      have hAt : ∀ v ∈ l, isTime v := fun v hv => by have := hl32 v hv; unfold isTime; omega
      have hBt : ∀ v ∈ l.reverse, isTime v := fun v hv => hAt v (List.mem_reverse.1 hv)
      have hCt : ∀ v ∈ l.map (· + d), isTime v := fun v hv => by
        obtain ⟨w, hw, rfl⟩ := List.mem_map.1 hv
        have := hl32 w hw
        unfold isTime
        omega
      have m1 := mid_time hn hAt
      have e1 : mid2 (isortI (l.map (· + d))) f / 2 = mid2 (isortI l) f / 2 + d := by
        rw [isortI_shift, mid2_shift (by rw [isortI_len]; omega)]
        omega
      rw [midG_ok hn hAt] at q1
      rw [midG_ok (by simp; omega) hBt, isortI_perm_eq (List.reverse_perm l)] at q2
      rw [midG_ok (by simp; omega) hCt, e1] at q3
      generalize mid2 (isortI l) f / 2 = u at *
      have y1 : IntKind.i64.wrap (u + d) = u + d := i64_in (by omega) (by omega)
      simp (maxSteps := 4000000) [c_l13_MiddleTurned, evW_reg, evW_chkr, isCst, TK.agg, zeroS, endS, resS, l1, x1, x2, x3, x4, hfe', c1, c3, c_l13_MiddleTurned_L0, g1, q1, q2, q3, y1, convS]

end Go.Proofs.Ytedmidpnfnhnlaa

/-
  Walks of the seat's functions: My.
-/
set_option linter.unusedVariables false
set_option linter.unusedSimpArgs false
set_option maxRecDepth 100000
namespace Go.Proofs.Ytedmidpnfnhnlaa
open Go.Proofs.Ytedmidpnfnhnlaa.Sh
/-! The law MiddleWithin. -/
theorem mm_min (a b : Int) : mmS false [.int .i64 a, .int .i64 b] = some (.int .i64 (min a b)) := by
  simp only [mmS, mmGo, Bool.false_eq_true, if_false]
  congr 2
  split <;> omega
theorem mm_max (a b : Int) : mmS true [.int .i64 a, .int .i64 b] = some (.int .i64 (max a b)) := by
  simp only [mmS, mmGo, if_true]
  congr 2
  split <;> omega
def LowHigh (low high : Int) (l : List Int) : Prop := (∀ x ∈ l, low ≤ x ∧ x ≤ high) ∧ isTime low ∧ isTime high
theorem LowHigh.snoc {low high v : Int} {l : List Int} (h : LowHigh low high l) (hv : isTime v) : LowHigh (min low v) (max high v) (l ++ [v]) := by
  obtain ⟨h1, h2, h3⟩ := h
  unfold isTime at h2 h3 hv
  refine ⟨fun x hx => ?_, by unfold isTime; omega, by unfold isTime; omega⟩
  rcases List.mem_append.1 hx with hx | hx
  · have := h1 x hx
    omega
  · simp at hx
    omega
set_option maxHeartbeats 8000000 in
theorem Within_B0 {x y o : SV} {l : List Int} (hx : RSl (fun y v => y = .int .i32 v) x l) (hl32 : ∀ v ∈ l, -2147483648 ≤ v ∧ v ≤ 2147483647) (h40 : l.length ≤ 40) (t7 : SV) {low high : Int}
    {M : Mem} {j : Nat} (hj : j < l.length) (h1 : OutR 1 o M (numSV (l.take j))) (h2 : LowHigh low high (l.take j)) :
    ∃ M' o' low' high', evW ES n_l13_MiddleWithin c_l13_MiddleWithin_B0 ⟨h_l13_MiddleWithin_0 x y t7 (.int .i64 low) (.int .i64 high) o (.int .i64 j), M⟩ = some (.normal, ⟨h_l13_MiddleWithin_0 x y t7 (.int .i64 low') (.int .i64 high') o' (.int .i64 ((j + 1 : Nat) : Int)), M'⟩) ∧
      OutR 1 o' M' (numSV (l.take (j + 1))) ∧ LowHigh low' high' (l.take (j + 1)) := by
  have hw : IntKind.i64.wrap ((j : Int) + 1) = (j : Int) + 1 := i64_in (by omega) (by omega)
  have hlx := hx.lenS ti_sl_int32
  obtain ⟨a1, a2⟩ := i32_item hx hj
  have hv := hl32 _ (List.getElem_mem hj)
  have wv : IntKind.i64.wrap l[j] = l[j] := i64_in (by omega) (by omega)
  have eA : l.take j ++ [l[j]] = l.take (j + 1) := (List.take_succ_eq_append_getElem hj).symm
  obtain ⟨oa', k1, M1, p1, m1, p2, n1, p3⟩ := num_app 5 (M.next + 2) (M.next + 3) l[j] h1 (by rw [List.length_take]; omega) (by omega) (by omega) (by omega) (by omega)
  have h3 := h2.snoc (v := l[j]) (by unfold isTime; omega)
  rw [eA] at p2 h3
  refine ⟨M1, oa', _, _, ?_, p2, h3⟩
  have b0 : ∀ (q : Nat) (v : Int), bldSl ES.P T_sl_int64 1 q [(0, .int .i64 v)] = some (.own q 1 0 1, [.int .i64 v]) := fun q v => by simp [bldSl, buildRow]
  generalize l[j] = v at *
  simp (maxSteps := 4000000) [c_l13_MiddleWithin_B0, evW_reg, evW_chkr, isCst, TK.agg, zeroS, endS, resS, h_l13_MiddleWithin_0, hlx, hj, a1, a2, wv, b0, p1, m1, hw, convS, mm_min, mm_max]
/-- A number ahead of a list. -/
theorem num_ahead {o : SV} {M : Mem} {l : List Int} (n s a a2 : Nat) (v : Int) (hI : OutR 1 o M (numSV l)) (hl : l.length ≤ 1000000) (hs : M.next ≤ s) (hs2 : s < M.next + n) (ha : M.next ≤ a) (ha2 : a < M.next + n) (hb : M.next ≤ a2) (hb2 : a2 < M.next + n) (hne : s ≠ a) (hne2 : a < a2) :
    ∃ o1 k1 o' k M1, appendS ES.P ((M.bump n).set s (some [.int .i64 v])).blk a T_sl_int64 T_sl_int64 .nilsl (.own s 1 0 1) = some (o1, k1) ∧ appendS ES.P (((M.bump n).set s (some [.int .i64 v])).sets k1).blk a2 T_sl_int64 T_sl_int64 o1 o = some (o', k) ∧
      (((M.bump n).set s (some [.int .i64 v])).sets k1).sets k = M1 ∧ OutR 1 o' M1 (numSV (v :: l)) ∧ M1.next = M.next + n := by
  have p1 : appendS ES.P ((M.bump n).set s (some [.int .i64 v])).blk a T_sl_int64 T_sl_int64 .nilsl (.own s 1 0 1) = some (.own a 1 0 1, [(a, some [.int .i64 v])]) := by
    rw [appendS_nil (ys := [.int .i64 v]) ti_sl_int64 ti_sl_int64 ti_int64 (z := .int .i64 0) rfl (by simp [itemsS]) (by decide) rfl (by simp [srcFits]) rfl rfl (by show 1 * 8 ≤ 140737488355328; decide) (by show 1 ≤ 140737488355328; decide)]
    rfl
  refine ⟨.own a 1 0 1, [(a, some [.int .i64 v])], ?_⟩
  generalize hX1 : ((M.bump n).set s (some [.int .i64 v])).sets [(a, some [.int .i64 v])] = X1 at *
  have hn : X1.next = M.next + n := by rw [← hX1]; rfl
  have hOld : Old M X1 := fun id hid => by
    rw [← hX1]
    have e : ¬ id = s := by omega
    have e2 : ¬ id = a := by omega
    simp [Mem.sets, e, e2]
  have ha1 : X1.blk a = some (numSV [v]) := by rw [← hX1]; simp [Mem.sets, numSV]
  obtain ⟨o', k, q1, q2, q3, q4, q5⟩ := OutR.nextS (P := ES.P) (te := ⟨.int .i64, 1, 8, some (.int .i64 0)⟩) (get := X1.blk) (o := .own a 1 0 1) (items := numSV [v]) (M := { X1 with next := a2 }) (x := o) (ys := numSV l) (X := X1) (a := a2) ti_sl_int64 ti_int64 rfl (by decide) rfl rfl
    (.inr ⟨a, rfl, ha1, hne2⟩) (by simp [numSV]; show (1 + l.length) * 8 ≤ _; omega) (by simp [numSV]; omega) (fun id hid => rfl) (by
      rcases hI with ⟨e, rfl⟩ | ⟨id, rfl, hid, hlt⟩
      · rw [e]; rfl
      · have := hOld id hlt
        simp [itemsS, this, hid]) (by
      rcases hI with ⟨e, rfl⟩ | ⟨id, rfl, hid, hlt⟩
      · simp [srcFits]
      · simp [srcFits]) (unif_num l) (fun id _ => rfl) (by omega) (by show a2 ≤ X1.next; omega) (Nat.le_refl _)
  exact ⟨o', k, _, p1, q1, rfl, by simpa [numSV] using q2, by rw [q4]; exact hn⟩
set_option maxHeartbeats 8000000 in
theorem Within_B1 {y o : SV} {w r : List Int} (hy : Nums y w) (hw10 : w.length ≤ 10) (hr : r.length ≤ 100) (t7 t8 t9 : SV)
    {M : Mem} {j : Nat} (hj : j < w.length) (h1 : OutR 1 o M (numSV ((w.take j).reverse ++ r))) (hv : isTime w[j]) :
    ∃ M' o', evW ES n_l13_MiddleWithin c_l13_MiddleWithin_B1 ⟨h_l13_MiddleWithin_1 y t7 t8 t9 o (.int .i64 j), M⟩ = some (.normal, ⟨h_l13_MiddleWithin_1 y t7 t8 t9 o' (.int .i64 ((j + 1 : Nat) : Int)), M'⟩) ∧
      OutR 1 o' M' (numSV ((w.take (j + 1)).reverse ++ r)) := by
  have hw : IntKind.i64.wrap ((j : Int) + 1) = (j : Int) + 1 := i64_in (by omega) (by omega)
  have hlx := hy.lenS ti_sl_int64
  have a1 := hy.at hj
  have a2 := Nums.ld hj
  have eA : (w.take (j + 1)).reverse ++ r = w[j] :: ((w.take j).reverse ++ r) := by
    rw [List.take_succ_eq_append_getElem hj, List.reverse_append]
    rfl
  obtain ⟨o1, k1, oa', k2, M1, p1, p2, m1, p3, n1⟩ := num_ahead 9 (M.next + 4) (M.next + 5) (M.next + 7) w[j] h1 (by simp; omega) (by omega) (by omega) (by omega) (by omega) (by omega) (by omega) (by omega) (by omega)
  rw [← eA] at p3
  refine ⟨M1, oa', ?_, p3⟩
  have b0 : ∀ (q : Nat) (v : Int), bldSl ES.P T_sl_int64 1 q [(0, .int .i64 v)] = some (.own q 1 0 1, [.int .i64 v]) := fun q v => by simp [bldSl, buildRow]
  unfold isTime at hv
  have hv1 : ¬ w[j] < -1099511627776 := by omega
  have hv2 : ¬ 1099511627776 < w[j] := by omega
  generalize w[j] = v at *
  simp (maxSteps := 4000000) [c_l13_MiddleWithin_B1, evW_reg, evW_chkr, isCst, TK.agg, zeroS, endS, resS, h_l13_MiddleWithin_1, hlx, hj, a1, a2, b0, hv1, hv2, p1, p2, m1, hw]
set_option maxHeartbeats 8000000 in
theorem Within_B1_no {y o : SV} {w : List Int} (hy : Nums y w) (t7 t8 t9 : SV) {M : Mem} {j : Nat} (hj : j < w.length) (hv : ¬ isTime w[j]) :
    ∃ M', evW ES n_l13_MiddleWithin c_l13_MiddleWithin_B1 ⟨h_l13_MiddleWithin_1 y t7 t8 t9 o (.int .i64 j), M⟩ = some (.ret, ⟨(h_l13_MiddleWithin_1 .bad .bad .bad .bad .bad .bad).set 6 (.bool true), M'⟩) := by
  have hlx := hy.lenS ti_sl_int64
  have a1 := hy.at hj
  have a2 := Nums.ld hj
  unfold isTime at hv
  by_cases hv1 : w[j] < -1099511627776
  · generalize w[j] = v at *
    simp (maxSteps := 4000000) [c_l13_MiddleWithin_B1, evW_reg, evW_chkr, isCst, TK.agg, zeroS, endS, resS, h_l13_MiddleWithin_1, hlx, hj, a1, a2, hv1]
  · have hv2 : 1099511627776 < w[j] := by omega
    generalize w[j] = v at *
    simp (maxSteps := 4000000) [c_l13_MiddleWithin_B1, evW_reg, evW_chkr, isCst, TK.agg, zeroS, endS, resS, h_l13_MiddleWithin_1, hlx, hj, a1, a2, hv1, hv2]
theorem nums_of {n : Nat} {xs : List SV} (h : WT ES.P (n + 2) T_sl_int64 xs) : ∃ l : List Int, RSl (fun y n => y = .int .i64 n) (mkV ES.P T_sl_int64 xs) l ∧ l.length < 4611686018427387904 ∧ ∀ v ∈ l, I64 v := by
  rcases WT_slice ti_sl_int64 ti_int64 h with ⟨_, h⟩ | ⟨items, _, h, hl, hi⟩
  · rw [h]; exact ⟨[], RSl.nil _, by simp, by simp⟩
  · rw [h]
    obtain ⟨l, hl2⟩ := RSl.exists (R := fun y (n : Int) => y = .int .i64 n ∧ I64 n) (tl := .ro) (items := items) fun y hy => by
      obtain ⟨ys, rfl, hw⟩ := hi y hy
      obtain ⟨v, _, h2, hw⟩ := WT_int ti_int64 hw
      exact ⟨v, h2, wf64 hw⟩
    refine ⟨l, ⟨hl2.sl, hl2.len, fun j y a hy ha => (hl2.at' j y a hy ha).1⟩, ?_, fun v hv => ?_⟩
    · have := hl2.len
      simp [its] at this
      simp at hl
      omega
    · obtain ⟨j, hj, rfl⟩ := List.mem_iff_getElem.1 hv
      obtain ⟨y, hy, hr⟩ := hl2.get hj
      exact hr.2
theorem num_len {o : SV} {M : Mem} {l : List Int} (h : OutR 1 o M (numSV l)) : lenS ES.P T_sl_int64 o = some (.int .i64 l.length) := by
  rcases h with ⟨e, rfl⟩ | ⟨id, rfl, _⟩
  · have : l = [] := by simpa [numSV] using e
    subst this
    simp [lenS, ti_sl_int64]
  · simp [lenS, ti_sl_int64, numSV]
set_option maxHeartbeats 16000000 in
theorem MiddleWithin_walk (xs0 xs1 xs2 : List SV) (h0 : WT ES.P 8 T_sl_int32 xs0) (h1 : WT ES.P 8 T_sl_int64 xs1) (h2 : WT ES.P 8 T_uint8 xs2) :
    ∃ M', ICw ES n_l13_MiddleWithin [mkV ES.P T_sl_int32 xs0, mkV ES.P T_sl_int64 xs1, mkV ES.P T_uint8 xs2] .empty = some (.bool true, M') := by
  obtain ⟨l, hx, hl32⟩ := i32_of h0
  obtain ⟨w, hy, hwl, _⟩ := nums_of h1
  obtain ⟨fa, _, e2, w2⟩ := WT_int ti_uint8 h2
  have b2 := u8_wf w2
  rw [e2, b_l13_MiddleWithin]
  generalize mkV ES.P T_sl_int32 xs0 = x at *
  generalize mkV ES.P T_sl_int64 xs1 = y at *
  have l1 := hx.lenS ti_sl_int32
  have l2 := hy.lenS ti_sl_int64
  obtain ⟨f, hf4, hfe⟩ := rem_nat b2.1 (show 0 < 4 by omega)
  have hfe' : fa.tmod 4 = f := hfe
  have x1 : IntKind.i64.wrap fa = fa := i64_in (by omega) (by omega)
  have x3 : IntKind.i64.wrap (2 * (f : Int)) = 2 * (f : Int) := i64_in (by omega) (by omega)
  have x4 : IntKind.i64.wrap (2 * (f : Int) + 1) = 2 * (f : Int) + 1 := i64_in (by omega) (by omega)
  have x5 : IntKind.i64.wrap ((f : Int) + 1) = (f : Int) + 1 := i64_in (by omega) (by omega)
  by_cases c1 : (l.length : Int) < (f : Int) + 1
  · simp (maxSteps := 4000000) [c_l13_MiddleWithin, evW_reg, evW_chkr, isCst, TK.agg, zeroS, endS, resS, l1, l2, x1, x5, hfe', c1]
  by_cases c2 : 40 < (l.length : Int)
  · simp (maxSteps := 4000000) [c_l13_MiddleWithin, evW_reg, evW_chkr, isCst, TK.agg, zeroS, endS, resS, l1, l2, x1, x5, hfe', c1, c2]
  by_cases c3 : (f : Int) < (w.length : Int)
  · have c3' : f < w.length := by omega
    simp (maxSteps := 4000000) [c_l13_MiddleWithin, evW_reg, evW_chkr, isCst, TK.agg, zeroS, endS, resS, l1, l2, x1, x5, hfe', c1, c2, c3, c3']
  have c3' : ¬ f < w.length := by omega
  have hl0 : 0 < l.length := by omega
  obtain ⟨a1, a2⟩ := i32_item hx hl0
  have a1' : indexAddrS ES.P T_sl_int32 x (.int .i64 0) = some (.rptr (l.map (SV.int .i32)) 0 0 (stOf x)) := a1
  have hv := hl32 _ (List.getElem_mem hl0)
  have wv : IntKind.i64.wrap l[0] = l[0] := i64_in (by omega) (by omega)
  have hv0 : isTime l[0] := by unfold isTime; omega
  generalize l[0] = v0 at *
  obtain ⟨r, g1, Ma, oa, low, high, rfl, iA, iL⟩ := loop_st (E := ES) (me := n_l13_MiddleWithin) (B := c_l13_MiddleWithin_B0) (β := Int × Int × SV) (len := l.length) (T := fun j o => h_l13_MiddleWithin_0 x y (.int .i64 f) (.int .i64 o.1) (.int .i64 o.2.1) o.2.2 (.int .i64 j))
    (I := fun j o M => OutR 1 o.2.2 M (numSV (l.take j)) ∧ LowHigh o.1 o.2.1 (l.take j))
    (Q := fun r => ∃ M' o low high, r = (.exit 0, ⟨(h_l13_MiddleWithin_0 x y (.int .i64 f) (.int .i64 low) (.int .i64 high) o (.int .i64 l.length)).set 51 (.bool false), M'⟩) ∧ OutR 1 o M' (numSV l) ∧ LowHigh low high l)
    (fun j o M hj ⟨i1, i2⟩ => by
      left
      obtain ⟨M', o', lo', hi', q1, q2, q3⟩ := Within_B0 (y := y) hx hl32 (by omega) (.int .i64 f) hj i1 i2
      exact ⟨(lo', hi', o'), M', q1, q2, q3⟩)
    (fun o M ⟨i1, i2⟩ => ⟨_, by simp [c_l13_MiddleWithin_B0, evW_reg, evW_chkr, isCst, TK.agg, zeroS, endS, resS, h_l13_MiddleWithin_0, l1], by simp, M, o.2.2, o.1, o.2.1, rfl, by rwa [List.take_length] at i1, by rwa [List.take_length] at i2⟩) 0 (v0, v0, .nilsl) Mem.empty (by omega)
    ⟨.inl ⟨rfl, rfl⟩, fun _ h => absurd h (by simp), hv0, hv0⟩
  simp [h_l13_MiddleWithin_0] at g1
  obtain ⟨r, g2, hQ⟩ := loop_st (E := ES) (me := n_l13_MiddleWithin) (B := c_l13_MiddleWithin_B1) (β := SV) (len := w.length) (T := fun j o => h_l13_MiddleWithin_1 y (.int .i64 f) (.int .i64 low) (.int .i64 high) o (.int .i64 j))
    (I := fun j o M => OutR 1 o M (numSV ((w.take j).reverse ++ l)) ∧ ∀ v ∈ w.take j, isTime v)
    (Q := fun r => (∃ M' o, r = (.exit 2, ⟨(h_l13_MiddleWithin_1 y (.int .i64 f) (.int .i64 low) (.int .i64 high) o (.int .i64 w.length)).set 72 (.bool false), M'⟩) ∧ OutR 1 o M' (numSV (w.reverse ++ l)) ∧ ∀ v ∈ w, isTime v) ∨
      ∃ M', r = (.ret, ⟨(h_l13_MiddleWithin_1 .bad .bad .bad .bad .bad .bad).set 6 (.bool true), M'⟩))
    (fun j o M hj ⟨i1, i2⟩ => by
      by_cases hv : isTime w[j]
      · left
        obtain ⟨M', o', q1, q2⟩ := Within_B1 hy (by omega) (by omega) (.int .i64 f) (.int .i64 low) (.int .i64 high) hj i1 hv
        refine ⟨o', M', q1, q2, fun v hv' => ?_⟩
        rw [List.take_succ_eq_append_getElem hj] at hv'
        rcases List.mem_append.1 hv' with h | h
        · exact i2 v h
        · rw [List.mem_singleton.1 h]; exact hv
      · right
        obtain ⟨M', q1⟩ := Within_B1_no (o := o) (M := M) hy (.int .i64 f) (.int .i64 low) (.int .i64 high) hj hv
        exact ⟨_, q1, by simp, .inr ⟨M', rfl⟩⟩)
    (fun o M ⟨i1, i2⟩ => ⟨_, by simp [c_l13_MiddleWithin_B1, evW_reg, evW_chkr, isCst, TK.agg, zeroS, endS, resS, h_l13_MiddleWithin_1, l2], by simp, .inl ⟨M, o, rfl, by rwa [List.take_length] at i1, by rwa [List.take_length] at i2⟩⟩) 0 oa Ma (by omega)
    ⟨by simpa using iA, by simp⟩
  rcases hQ with ⟨Mb, ob, rfl, iB, hwt⟩ | ⟨Mb, rfl⟩
  · simp [h_l13_MiddleWithin_1] at g2
    have q1 := mid_own iB (by simp; omega) f
    have l3 := num_len iB
    have hlen : (w.reverse ++ l).length = w.length + l.length := by simp
    rw [hlen] at l3
    by_cases c4 : ((w.length + l.length : Nat) : Int) < 2 * (f : Int) + 1
    · rw [midG_no (by omega)] at q1
      have c4' : (w.length : Int) + l.length < 2 * (f : Int) + 1 := by omega
      simp (maxSteps := 4000000) [c_l13_MiddleWithin, evW_reg, evW_chkr, isCst, TK.agg, zeroS, endS, resS, l1, l2, x1, x3, x4, x5, hfe', c1, c2, c3, c3', a1', a2, wv, convS, c_l13_MiddleWithin_L0, c_l13_MiddleWithin_L1, g1, g2, q1, l3, c4']
    · have hn : 2 * f + 1 ≤ (w.reverse ++ l).length := by omega
      have c4' : ¬ (w.length : Int) + l.length < 2 * (f : Int) + 1 := by omega
      have hAt : ∀ v ∈ w.reverse ++ l, isTime v := fun v hv => by
        rcases List.mem_append.1 hv with h | h
        · exact hwt v (List.mem_reverse.1 h)
        · have := hl32 v h
          unfold isTime
          omega
      have m1 := mid_within (f := f) (low := low) (high := high) (isortI_sorts (w.reverse ++ l)) (by simp; omega) (by rw [isortI_len]; omega) (fun v hv => (iL.1 v hv).1) (fun v hv => (iL.1 v hv).2)
      rw [midG_ok hn hAt] at q1
      generalize mid2 (isortI (w.reverse ++ l)) f / 2 = u at *
      have z1 := m1.1
      have z2 := m1.2
      simp (maxSteps := 4000000) [c_l13_MiddleWithin, evW_reg, evW_chkr, isCst, TK.agg, zeroS, endS, resS, l1, l2, x1, x3, x4, x5, hfe', c1, c2, c3, c3', a1', a2, wv, convS, c_l13_MiddleWithin_L0, c_l13_MiddleWithin_L1, g1, g2, q1, l3, c4', z1, z2]
  · simp [h_l13_MiddleWithin_1] at g2
    simp (maxSteps := 4000000) [c_l13_MiddleWithin, evW_reg, evW_chkr, isCst, TK.agg, zeroS, endS, resS, l1, l2, x1, x3, x4, x5, hfe', c1, c2, c3, c3', a1', a2, wv, convS, c_l13_MiddleWithin_L0, c_l13_MiddleWithin_L1, g1, g2]

end Go.Proofs.Ytedmidpnfnhnlaa

/-
  Walks of the seat's functions: Mz.
-/
set_option linter.unusedVariables false
set_option linter.unusedSimpArgs false
set_option maxRecDepth 100000
namespace Go.Proofs.Ytedmidpnfnhnlaa
open Go.Proofs.Ytedmidpnfnhnlaa.Sh
/-! The law MiddleHalves (under way: see NOTES.md). -/
theorem u16_of {n : Nat} {xs : List SV} (h : WT ES.P (n + 2) T_sl_uint16 xs) : ∃ l : List Int, RSl (fun y v => y = .int .u16 v) (mkV ES.P T_sl_uint16 xs) l ∧ (∀ v ∈ l, 0 ≤ v ∧ v ≤ 65535) := by
  rcases WT_slice ti_sl_uint16 ti_uint16 h with ⟨e1, h⟩ | ⟨items, e1, h, hl, hi⟩
  · rw [h]; exact ⟨[], RSl.nil _, by simp⟩
  · rw [h]
    obtain ⟨l, hl2⟩ := RSl.exists (R := fun y (v : Int) => y = .int .u16 v ∧ 0 ≤ v ∧ v ≤ 65535) (tl := .ro) (items := items) fun y hy => by
      obtain ⟨ys, rfl, hw⟩ := hi y hy
      obtain ⟨v, _, e, w⟩ := WT_int ti_uint16 hw
      refine ⟨v, e, ?_⟩
      simp [Lit.wf, IntKind.min, IntKind.max, IntKind.bits, IntKind.signed] at w
      omega
    refine ⟨l, ⟨hl2.sl, hl2.len, fun j y a hy ha => (hl2.at' j y a hy ha).1⟩, fun v hv => ?_⟩
    obtain ⟨j, hj, rfl⟩ := List.mem_iff_getElem.1 hv
    obtain ⟨y, hy, hr⟩ := hl2.get hj
    exact hr.2
theorem u16_item {x : SV} {l : List Int} (h : RSl (fun y v => y = .int .u16 v) x l) {j : Nat} (hj : j < l.length) : indexAddrS ES.P T_sl_uint16 x (.int .i64 j) = some (.rptr (l.map (SV.int .u16)) j 0 (stOf x)) ∧ ∀ get z, loadS ES.P get T_uint16 (.rptr (l.map (SV.int .u16)) j 0 z) = some (.int .u16 l[j]) :=
  ⟨RSl.at (enc := SV.int .u16) h ti_sl_uint16 ti_uint16 (fun _ => rfl) hj, fun get z => loadS_rptr ti_uint16 (x := .int .u16 l[j]) (by simp [hj]) rfl⟩
theorem mm_min3 (a b c : Int) : mmS false [.int .i64 a, .int .i64 b, .int .i64 c] = some (.int .i64 (min (min a b) c)) := by
  simp only [mmS, mmGo, Bool.false_eq_true, if_false]
  congr 2
  split <;> split <;> omega
theorem mm_max3 (a b c : Int) : mmS true [.int .i64 a, .int .i64 b, .int .i64 c] = some (.int .i64 (max (max a b) c)) := by
  simp only [mmS, mmGo, if_true]
  congr 2
  split <;> split <;> omega
@[simp] theorem ixw_0 (id i o : Nat) : indexAddrS ES.P T_a2_sl_int32 (.ptr id i o) (.int .i64 0) = some (.ptr id i o) := by simp [indexAddrS, natS]
@[simp] theorem ixw_1 (id i o : Nat) : indexAddrS ES.P T_a2_sl_int32 (.ptr id i o) (.int .i64 1) = some (.ptr id i (o + 1)) := by simp [indexAddrS, natS]
/-- The wrong numbers: an array of two slices. -/
theorem wrong_of {n : Nat} {xs : List SV} (h : WT ES.P (n + 3) T_a2_sl_int32 xs) : ∃ y0 y1, ∃ w0 w1 : List Int, mkV ES.P T_a2_sl_int32 xs = .agg [y0, y1] ∧ RSl (fun y v => y = .int .i32 v) y0 w0 ∧ RSl (fun y v => y = .int .i32 v) y1 w1 ∧ (∀ v ∈ w0, -2147483648 ≤ v ∧ v ≤ 2147483647) ∧ (∀ v ∈ w1, -2147483648 ≤ v ∧ v ≤ 2147483647) := by
  obtain ⟨hm, parts, rfl, hl, hp⟩ := WT_arr ti_a2_sl_int32 h
  obtain ⟨p0, p1, rfl⟩ : ∃ a b, parts = [a, b] := by
    match parts, hl with
    | [a, b], _ => exact ⟨a, b, rfl⟩
  have one : ∀ p, WT ES.P (n + 2) T_sl_int32 p → p = [mkV ES.P T_sl_int32 p] := fun p hw => by
    rcases WT_slice ti_sl_int32 ti_int32 hw with ⟨e1, e2⟩ | ⟨items, e1, e2, _⟩ <;> rw [e2] <;> exact e1
  have q0 := hp p0 (by simp)
  have q1 := hp p1 (by simp)
  obtain ⟨w0, a1, a2⟩ := i32_of q0
  obtain ⟨w1, b1, b2⟩ := i32_of q1
  refine ⟨_, _, w0, w1, ?_, a1, b1, a2, b2⟩
  rw [hm]
  have e0 := one p0 q0
  have e1 := one p1 q1
  generalize mkV ES.P T_sl_int32 p0 = z0 at *
  generalize mkV ES.P T_sl_int32 p1 = z1 at *
  subst e0
  subst e1
  rfl
theorem box_ld {M : Mem} {b : Nat} {y0 y1 : SV} {w0 w1 : List Int} (h : M.blk b = some [.agg [y0, y1]]) (h0 : RSl (fun y v => y = .int .i32 v) y0 w0) (h1 : RSl (fun y v => y = .int .i32 v) y1 w1) :
    loadS ES.P M.blk T_sl_int32 (.ptr b 0 0) = some y0 ∧ loadS ES.P M.blk T_sl_int32 (.ptr b 0 1) = some y1 := by
  have e0 := h0.sl
  have e1 := h1.sl
  constructor
  · cases y0 <;> simp [isSl] at e0 <;> simp [loadS, ti_sl_int32, h, partS, TK.agg]
  · cases y1 <;> simp [isSl] at e1 <;> simp [loadS, ti_sl_int32, h, partS, TK.agg]
/-- num_app, and what becomes of other blocks. -/
theorem num_app2 {o : SV} {M : Mem} {l : List Int} (n s a : Nat) (v : Int) (hI : OutR 1 o M (numSV l)) (hl : l.length ≤ 1000000) (hs : M.next ≤ s) (hs2 : s < M.next + n) (ha : M.next ≤ a) (ha2 : a < M.next + n) :
    ∃ o' k M1, appendS ES.P ((M.bump n).set s (some [.int .i64 v])).blk a T_sl_int64 T_sl_int64 o (.own s 1 0 1) = some (o', k) ∧ ((M.bump n).set s (some [.int .i64 v])).sets k = M1 ∧ OutR 1 o' M1 (numSV (l ++ [v])) ∧ M1.next = M.next + n ∧ Keeps o M M1 ∧ (∀ id e a b, o' = .own id e a b → M.next ≤ id ∨ o' = o) := by
  obtain ⟨o', k, p1, p2, p3, p4, p5⟩ := num_next (get := ((M.bump n).set s (some [.int .i64 v])).blk) (X := (M.bump n).set s (some [.int .i64 v])) (a := a) (s := s) (v := v) hI hl
    (fun id hid => by
      have e : ¬ id = s := by omega
      simp [e]) (by simp) (fun id hid => by
      have e : ¬ id = s := by omega
      simp [e]) (by show a < M.next + n; omega) (by show M.next ≤ M.next + n; omega) ha
  exact ⟨o', k, _, p1, rfl, p2, p4, p3, p5⟩
def hvA (l w0 : List Int) (f i : Nat) : Int := if i < f then w0.getD i 0 else l.getD i 0
def hvB (l off : List Int) (d : Int) (w1 : List Int) (f i : Nat) : Int := if i < f then w1.getD i 0 else offAt l off d i
structure HI (M : Mem) (b : Nat) (y0 y1 oa ob : SV) (A B : List Int) (low high : Int) (f : Nat) : Prop where
  hm : M.blk b = some [.agg [y0, y1]]
  lt : b < M.next
  ha : OutR 1 oa M (numSV A)
  hb : OutR 1 ob M (numSV B)
  ab : Apart ob oa
  na : ∀ e p q, oa ≠ .own b e p q
  nb : ∀ e p q, ob ≠ .own b e p q
  lo : ∀ v, v ∈ A.drop f ∨ v ∈ B.drop f → low ≤ v ∧ v ≤ high
  tl : isTime low
  th : isTime high
/-- Both lists a number longer. -/
theorem HI.next {M : Mem} {b : Nat} {y0 y1 oa ob : SV} {A B : List Int} {low high low' high' u v : Int} {f : Nat} (h : HI M b y0 y1 oa ob A B low high f) (hA : A.length ≤ 1000) (hB : B.length ≤ 1000)
    (hl : ∀ x, x ∈ (A ++ [u]).drop f ∨ x ∈ (B ++ [v]).drop f → low' ≤ x ∧ x ≤ high') (t1 : isTime low') (t2 : isTime high') :
    ∃ oa' k1 M1 ob' k2 M2, appendS ES.P ((M.bump 5).set (M.next + 2) (some [.int .i64 u])).blk (M.next + 3) T_sl_int64 T_sl_int64 oa (.own (M.next + 2) 1 0 1) = some (oa', k1) ∧ ((M.bump 5).set (M.next + 2) (some [.int .i64 u])).sets k1 = M1 ∧
      appendS ES.P ((M1.bump 5).set (M1.next + 2) (some [.int .i64 v])).blk (M1.next + 3) T_sl_int64 T_sl_int64 ob (.own (M1.next + 2) 1 0 1) = some (ob', k2) ∧ ((M1.bump 5).set (M1.next + 2) (some [.int .i64 v])).sets k2 = M2 ∧
      HI M2 b y0 y1 oa' ob' (A ++ [u]) (B ++ [v]) low' high' f := by
  have hbl := h.lt
  obtain ⟨oa', k1, M1, p1, m1, p2, n1, p3, p4⟩ := num_app2 5 (M.next + 2) (M.next + 3) u h.ha (by omega) (by omega) (by omega) (by omega) (by omega)
  obtain ⟨qa, k1', M1', p1', m1', p2', n1', q⟩ := num_app 5 (M.next + 2) (M.next + 3) u h.ha (by omega) (by omega) (by omega) (by omega) (by omega)
  rw [p1] at p1'
  obtain ⟨rfl, rfl⟩ : oa' = qa ∧ k1 = k1' := by simpa using p1'
  obtain rfl : M1 = M1' := m1.symm.trans m1'
  obtain ⟨hb1, ab1⟩ := q ob B h.hb h.ab
  have na1 : ∀ e p q, oa' ≠ .own b e p q := fun e p q hh => by
    rcases p4 _ _ _ _ hh with h1 | h1
    · omega
    · exact h.na e p q (h1 ▸ hh)
  obtain ⟨ob', k2, M2, r1, m2, r2, n2, r3, r4⟩ := num_app2 5 (M1.next + 2) (M1.next + 3) v hb1 (by omega) (by omega) (by omega) (by omega) (by omega)
  obtain ⟨qb, k2', M2', r1', m2', r2', n2', s⟩ := num_app 5 (M1.next + 2) (M1.next + 3) v hb1 (by omega) (by omega) (by omega) (by omega) (by omega)
  rw [r1] at r1'
  obtain ⟨rfl, rfl⟩ : ob' = qb ∧ k2 = k2' := by simpa using r1'
  obtain rfl : M2 = M2' := m2.symm.trans m2'
  obtain ⟨ha2, ba2⟩ := s oa' _ p2 ab1.symm
  have nb2 : ∀ e p q, ob' ≠ .own b e p q := fun e p q hh => by
    rcases r4 _ _ _ _ hh with h1 | h1
    · omega
    · exact h.nb e p q (h1 ▸ hh)
  refine ⟨oa', k1, M1, ob', k2, M2, p1, m1, r1, m2, ⟨?_, by omega, ha2, r2, ba2.symm, na1, nb2, hl, t1, t2⟩⟩
  rw [r3 b (by omega) h.nb, p3 b hbl h.na]
  exact h.hm

end Go.Proofs.Ytedmidpnfnhnlaa

/-
  Walks of the seat's functions: Na.
-/
set_option linter.unusedVariables false
set_option linter.unusedSimpArgs false
set_option maxRecDepth 100000
namespace Go.Proofs.Ytedmidpnfnhnlaa
open Go.Proofs.Ytedmidpnfnhnlaa.Sh
/-! The law MiddleHalves. -/
theorem hv_snoc (g : Nat → Int) (j : Nat) : (List.range j).map g ++ [g j] = (List.range (j + 1)).map g := by simp [List.range_succ]
theorem hv_drop {g : Nat → Int} {j f : Nat} {x : Int} (h : x ∈ ((List.range j).map g).drop f) : ∃ i, f ≤ i ∧ i < j ∧ x = g i := by
  obtain ⟨k, hk, rfl⟩ := List.mem_iff_getElem.1 h
  rw [List.length_drop, List.length_map, List.length_range] at hk
  exact ⟨f + k, by omega, by omega, by simp [List.getElem_drop]⟩
theorem hv_mem (g : Nat → Int) {j f i : Nat} (h1 : f ≤ i) (h2 : i < j) : g i ∈ ((List.range j).map g).drop f := by
  rw [List.mem_iff_getElem]
  exact ⟨i - f, by simp; omega, by simp [List.getElem_drop, show f + (i - f) = i by omega]⟩
set_option maxHeartbeats 16000000 in
theorem Halves_B0 {x y y0 y1 oa ob : SV} {l off w0 w1 : List Int} (hx : RSl (fun y v => y = .int .u16 v) x l) (hy : RSl (fun y v => y = .int .i16 v) y off) (h0 : RSl (fun y v => y = .int .i32 v) y0 w0) (h1 : RSl (fun y v => y = .int .i32 v) y1 w1)
    (hlu : ∀ v ∈ l, 0 ≤ v ∧ v ≤ 65535) (ho16 : ∀ v ∈ off, -32768 ≤ v ∧ v ≤ 32767) (hw0 : ∀ v ∈ w0, -2147483648 ≤ v ∧ v ≤ 2147483647) (hw1 : ∀ v ∈ w1, -2147483648 ≤ v ∧ v ≤ 2147483647) (h40 : l.length ≤ 40) (hlo : l.length ≤ off.length) {f : Nat} (hf0 : f ≤ w0.length) (hf1 : f ≤ w1.length) {d : Int} (hd : 0 ≤ d ∧ d ≤ 255)
    {M : Mem} {b j : Nat} {low high : Int} (hj : j < l.length) (h : HI M b y0 y1 oa ob ((List.range j).map (hvA l w0 f)) ((List.range j).map (hvB l off d w1 f)) low high f) :
    ∃ M' oa' ob' low' high', evW ES n_l13_MiddleHalves c_l13_MiddleHalves_B0 ⟨h_l13_MiddleHalves_0 x y (.ptr b 0 0) (.int .i64 f) (.int .i64 d) oa ob (.int .i64 low) (.int .i64 high) (.int .i64 j), M⟩ = some (.normal, ⟨h_l13_MiddleHalves_0 x y (.ptr b 0 0) (.int .i64 f) (.int .i64 d) oa' ob' (.int .i64 low') (.int .i64 high') (.int .i64 ((j + 1 : Nat) : Int)), M'⟩) ∧
      HI M' b y0 y1 oa' ob' ((List.range (j + 1)).map (hvA l w0 f)) ((List.range (j + 1)).map (hvB l off d w1 f)) low' high' f := by
  have hw : IntKind.i64.wrap ((j : Int) + 1) = (j : Int) + 1 := i64_in (by omega) (by omega)
  have hlx := hx.lenS ti_sl_uint16
  have hjo : j < off.length := by omega
  obtain ⟨a1, a2⟩ := u16_item hx hj
  obtain ⟨b1, b2⟩ := i16_item hy hjo
  obtain ⟨d1, d2⟩ := box_ld h.hm h0 h1
  have hv := hlu _ (List.getElem_mem hj)
  have ho := ho16 _ (List.getElem_mem hjo)
  have wv : IntKind.i64.wrap l[j] = l[j] := i64_in (by omega) (by omega)
  have wo : IntKind.i64.wrap off[j] = off[j] := i64_in (by omega) (by omega)
  have wd : IntKind.i64.wrap (d + 1) = d + 1 := i64_in (by omega) (by omega)
  have hz : d + 1 ≠ 0 := by omega
  have t1 := Int.tmod_lt_of_pos off[j] (show 0 < d + 1 by omega)
  have t2 := Int.lt_tmod_of_pos off[j] (show 0 < d + 1 by omega)
  have ws : IntKind.i64.wrap (l[j] + off[j].tmod (d + 1)) = l[j] + off[j].tmod (d + 1) := i64_in (by omega) (by omega)
  have bs0 : ∀ (q : Nat) (v : Int), bldSl ES.P T_sl_int64 1 q [(0, .int .i64 v)] = some (.own q 1 0 1, [.int .i64 v]) := fun q v => by simp [bldSl, buildRow]
  have g1 : ((List.range j).map (hvA l w0 f)).length ≤ 1000 := by simp; omega
  have g2 : ((List.range j).map (hvB l off d w1 f)).length ≤ 1000 := by simp; omega
  have tl := h.tl
  have th := h.th
  unfold isTime at tl th
  by_cases c1 : (j : Int) < f
  · have c1' : j < f := by omega
    obtain ⟨e1, e2⟩ := i32_item h0 (show j < w0.length by omega)
    obtain ⟨e3, e4⟩ := i32_item h1 (show j < w1.length by omega)
    have r0 := hw0 _ (List.getElem_mem (show j < w0.length by omega))
    have r1 := hw1 _ (List.getElem_mem (show j < w1.length by omega))
    have q0 : IntKind.i64.wrap (w0[j]'(by omega)) = w0[j]'(by omega) := i64_in (by omega) (by omega)
    have q1 : IntKind.i64.wrap (w1[j]'(by omega)) = w1[j]'(by omega) := i64_in (by omega) (by omega)
    have ea : hvA l w0 f j = w0[j]'(by omega) := by simp [hvA, c1', show j < w0.length by omega]
    have eb : hvB l off d w1 f j = w1[j]'(by omega) := by simp [hvB, c1', show j < w1.length by omega]
    obtain ⟨oa', k1, M1, ob', k2, M2, p1, m1, p2, m2, hI⟩ := h.next (u := hvA l w0 f j) (v := hvB l off d w1 f j) (low' := low) (high' := high) g1 g2 (fun z hz => by
      rw [hv_snoc, hv_snoc] at hz
      rcases hz with hz | hz <;> obtain ⟨i, i1, i2, _⟩ := hv_drop hz <;> omega) h.tl h.th
    rw [hv_snoc, hv_snoc] at hI
    refine ⟨M2, oa', ob', low, high, ?_, hI⟩
    rw [ea] at p1 m1
    rw [eb] at p2 m2
    simp (maxSteps := 4000000) [c_l13_MiddleHalves_B0, evW_reg, evW_chkr, isCst, TK.agg, zeroS, endS, resS, h_l13_MiddleHalves_0, hlx, hj, a1, a2, b1, b2, d1, d2, wv, wo, wd, hz, ws, c1, c1', e1, e2, e3, e4, q0, q1, bs0, p1, m1, p2, m2, hw, convS]
  · have c1' : ¬ j < f := by omega
    have ea : hvA l w0 f j = l[j] := by simp [hvA, c1', hj]
    have eb : hvB l off d w1 f j = l[j] + off[j].tmod (d + 1) := by simp [hvB, c1', offAt, hj, hjo]
    generalize hu : l[j] = u at *
    generalize hv' : u + off[j].tmod (d + 1) = v at *
    by_cases c2 : j = f
    · subst c2
      obtain ⟨oa', k1, M1, ob', k2, M2, p1, m1, p2, m2, hI⟩ := h.next (u := hvA l w0 j j) (v := hvB l off d w1 j j) (low' := min u v) (high' := max u v) g1 g2 (fun z hz => by
        rw [hv_snoc, hv_snoc] at hz
        rcases hz with hz | hz <;> obtain ⟨i, i1, i2, rfl⟩ := hv_drop hz <;> obtain rfl : i = j := by omega
        · rw [ea]; omega
        · rw [eb]; omega) (by unfold isTime; omega) (by unfold isTime; omega)
      rw [hv_snoc, hv_snoc] at hI
      refine ⟨M2, oa', ob', _, _, ?_, hI⟩
      rw [ea] at p1 m1
      rw [eb] at p2 m2
      simp (maxSteps := 4000000) [c_l13_MiddleHalves_B0, evW_reg, evW_chkr, isCst, TK.agg, zeroS, endS, resS, h_l13_MiddleHalves_0, hlx, hj, a1, a2, b1, b2, wv, wo, wd, hz, ws, hv', bs0, p1, m1, p2, m2, hw, convS, mm_min, mm_max]
    · have c2' : ¬ (j : Int) = f := by omega
      obtain ⟨oa', k1, M1, ob', k2, M2, p1, m1, p2, m2, hI⟩ := h.next (u := hvA l w0 f j) (v := hvB l off d w1 f j) (low' := min (min low u) v) (high' := max (max high u) v) g1 g2 (fun z hz => by
        rw [hv_snoc, hv_snoc] at hz
        rcases hz with hz | hz <;> obtain ⟨i, i1, i2, rfl⟩ := hv_drop hz <;> by_cases hij : i = j
        · subst hij; rw [ea]; omega
        · have := h.lo _ (.inl (hv_mem _ i1 (show i < j by omega))); omega
        · subst hij; rw [eb]; omega
        · have := h.lo _ (.inr (hv_mem _ i1 (show i < j by omega))); omega) (by unfold isTime; omega) (by unfold isTime; omega)
      rw [hv_snoc, hv_snoc] at hI
      refine ⟨M2, oa', ob', _, _, ?_, hI⟩
      rw [ea] at p1 m1
      rw [eb] at p2 m2
      simp (maxSteps := 4000000) [c_l13_MiddleHalves_B0, evW_reg, evW_chkr, isCst, TK.agg, zeroS, endS, resS, h_l13_MiddleHalves_0, hlx, hj, a1, a2, b1, b2, wv, wo, wd, hz, ws, hv', c1, c1', c2, c2', bs0, p1, m1, p2, m2, hw, convS, mm_min3, mm_max3]
set_option maxHeartbeats 16000000 in
theorem MiddleHalves_walk (xs0 xs1 xs2 xs3 xs4 : List SV) (h0 : WT ES.P 8 T_sl_uint16 xs0) (h1 : WT ES.P 8 T_sl_int16 xs1) (h2 : WT ES.P 8 T_a2_sl_int32 xs2) (h3 : WT ES.P 8 T_uint8 xs3) (h4 : WT ES.P 8 T_uint8 xs4) :
    ∃ M', ICw ES n_l13_MiddleHalves [mkV ES.P T_sl_uint16 xs0, mkV ES.P T_sl_int16 xs1, mkV ES.P T_a2_sl_int32 xs2, mkV ES.P T_uint8 xs3, mkV ES.P T_uint8 xs4] .empty = some (.bool true, M') := by
  obtain ⟨l, hx, hlu⟩ := u16_of h0
  obtain ⟨off, hy, ho16⟩ := i16_of h1
  obtain ⟨y0, y1, w0, w1, ew, hw0, hw1, hb0, hb1⟩ := wrong_of h2
  obtain ⟨fa, _, e2, w2⟩ := WT_int ti_uint8 h3
  obtain ⟨d, _, e3, w3⟩ := WT_int ti_uint8 h4
  have b2 := u8_wf w2
  have b3 := u8_wf w3
  rw [ew, e2, e3, b_l13_MiddleHalves]
  generalize mkV ES.P T_sl_uint16 xs0 = x at *
  generalize mkV ES.P T_sl_int16 xs1 = y at *
  have l1 := hx.lenS ti_sl_uint16
  have l2 := hy.lenS ti_sl_int16
  have l3 := hw0.lenS ti_sl_int32
  have l4 := hw1.lenS ti_sl_int32
  obtain ⟨f, hf4, hfe⟩ := rem_nat b2.1 (show 0 < 4 by omega)
  have hfe' : fa.tmod 4 = f := hfe
  have x1 : IntKind.i64.wrap fa = fa := i64_in (by omega) (by omega)
  have x2 : IntKind.i64.wrap d = d := i64_in (by omega) (by omega)
  have x3 : IntKind.i64.wrap (3 * (f : Int)) = 3 * (f : Int) := i64_in (by omega) (by omega)
  have x4 : IntKind.i64.wrap (3 * (f : Int) + 1) = 3 * (f : Int) + 1 := i64_in (by omega) (by omega)
  generalize hM0 : ((Mem.empty.bump 2).set 0 (some [.agg [y0, y1]])) = M0
  have hm0 : M0.blk 0 = some [.agg [y0, y1]] := by rw [← hM0]; simp
  have hn0 : M0.next = 2 := by rw [← hM0]; rfl
  obtain ⟨d1, d2⟩ := box_ld hm0 hw0 hw1
  by_cases c1 : 40 < (l.length : Int)
  · simp (maxSteps := 4000000) [c_l13_MiddleHalves, evW_reg, evW_chkr, isCst, TK.agg, zeroS, endS, resS, l1, l2, l3, l4, x1, x2, x3, x4, hfe', c1, hM0, d1, d2]
  by_cases c2 : (off.length : Int) < l.length
  · have c2' : off.length < l.length := by omega
    simp (maxSteps := 4000000) [c_l13_MiddleHalves, evW_reg, evW_chkr, isCst, TK.agg, zeroS, endS, resS, l1, l2, l3, l4, x1, x2, x3, x4, hfe', c1, c2, c2', hM0, d1, d2]
  have c2' : ¬ off.length < l.length := by omega
  by_cases c3 : (l.length : Int) < 3 * (f : Int) + 1
  · simp (maxSteps := 4000000) [c_l13_MiddleHalves, evW_reg, evW_chkr, isCst, TK.agg, zeroS, endS, resS, l1, l2, l3, l4, x1, x2, x3, x4, hfe', c1, c2, c2', c3, hM0, d1, d2]
  by_cases c4 : (w0.length : Int) < f
  · have c4' : w0.length < f := by omega
    simp (maxSteps := 4000000) [c_l13_MiddleHalves, evW_reg, evW_chkr, isCst, TK.agg, zeroS, endS, resS, l1, l2, l3, l4, x1, x2, x3, x4, hfe', c1, c2, c2', c3, c4, c4', hM0, d1, d2]
  have c4' : ¬ w0.length < f := by omega
  by_cases c5 : (w1.length : Int) < f
  · have c5' : w1.length < f := by omega
    simp (maxSteps := 4000000) [c_l13_MiddleHalves, evW_reg, evW_chkr, isCst, TK.agg, zeroS, endS, resS, l1, l2, l3, l4, x1, x2, x3, x4, hfe', c1, c2, c2', c3, c4, c4', c5, c5', hM0, d1, d2]
  have c5' : ¬ w1.length < f := by omega
  have hn : 3 * f + 1 ≤ l.length := by omega
  obtain ⟨r, g1, Ma, oa, ob, low, high, rfl, hI⟩ := loop_st (E := ES) (me := n_l13_MiddleHalves) (B := c_l13_MiddleHalves_B0) (β := SV × SV × Int × Int) (len := l.length) (T := fun j o => h_l13_MiddleHalves_0 x y (.ptr 0 0 0) (.int .i64 f) (.int .i64 d) o.1 o.2.1 (.int .i64 o.2.2.1) (.int .i64 o.2.2.2) (.int .i64 j))
    (I := fun j o M => HI M 0 y0 y1 o.1 o.2.1 ((List.range j).map (hvA l w0 f)) ((List.range j).map (hvB l off d w1 f)) o.2.2.1 o.2.2.2 f)
    (Q := fun r => ∃ M' oa ob low high, r = (.exit 0, ⟨(h_l13_MiddleHalves_0 x y (.ptr 0 0 0) (.int .i64 f) (.int .i64 d) oa ob (.int .i64 low) (.int .i64 high) (.int .i64 l.length)).set 70 (.bool false), M'⟩) ∧ HI M' 0 y0 y1 oa ob ((List.range l.length).map (hvA l w0 f)) ((List.range l.length).map (hvB l off d w1 f)) low high f)
    (fun j o M hj hI => by
      left
      obtain ⟨M', oa', ob', lo', hi', q1, q2⟩ := Halves_B0 hx hy hw0 hw1 hlu ho16 hb0 hb1 (by omega) (by omega) (by omega) (by omega) b3 hj hI
      exact ⟨(oa', ob', lo', hi'), M', q1, q2⟩)
    (fun o M hI => ⟨_, by simp [c_l13_MiddleHalves_B0, evW_reg, evW_chkr, isCst, TK.agg, zeroS, endS, resS, h_l13_MiddleHalves_0, l1], by simp, M, o.1, o.2.1, o.2.2.1, o.2.2.2, rfl, hI⟩) 0 (.nilsl, .nilsl, 0, 0) M0 (by omega)
    ⟨hm0, by omega, .inl ⟨rfl, rfl⟩, .inl ⟨rfl, rfl⟩, fun _ _ _ _ h => (by cases h), fun _ _ _ h => (by cases h), fun _ _ _ h => (by cases h), fun v hv => by simp at hv, by show isTime 0; unfold isTime; omega, by show isTime 0; unfold isTime; omega⟩
  simp [h_l13_MiddleHalves_0] at g1
  have hAe : ∀ i, f ≤ i → i < l.length → hvA l w0 f i = l.getD i 0 := fun i h1 h2 => by unfold hvA; rw [if_neg (by omega)]
  have hBe : ∀ i, f ≤ i → i < l.length → hvB l off d w1 f i = l.getD i 0 + (off.getD i 0).tmod (d + 1) := fun i h1 h2 => by unfold hvB offAt; rw [if_neg (by omega)]
  have hdt : ∀ v : Int, -d ≤ v.tmod (d + 1) ∧ v.tmod (d + 1) ≤ d := fun v => by
    have t1 := Int.tmod_lt_of_pos v (show 0 < d + 1 by omega)
    have t2 := Int.lt_tmod_of_pos v (show 0 < d + 1 by omega)
    omega
  have hlg : ∀ i, 0 ≤ l.getD i 0 ∧ l.getD i 0 ≤ 65535 := fun i => by
    by_cases hi : i < l.length
    · have := hlu _ (List.getElem_mem hi)
      simpa [hi] using this
    · simp [show l.length ≤ i by omega]
  have hwg : ∀ (w : List Int), (∀ v ∈ w, -2147483648 ≤ v ∧ v ≤ 2147483647) → ∀ i, -2147483648 ≤ w.getD i 0 ∧ w.getD i 0 ≤ 2147483647 := fun w hw i => by
    by_cases hi : i < w.length
    · have := hw _ (List.getElem_mem hi)
      simpa [hi] using this
    · simp [show w.length ≤ i by omega]
  generalize hA : (List.range l.length).map (hvA l w0 f) = A at *
  generalize hB : (List.range l.length).map (hvB l off d w1 f) = B at *
  have hAl : A.length = l.length := by rw [← hA]; simp
  have hBl : B.length = l.length := by rw [← hB]; simp
  have hAg : ∀ i (h : i < A.length), A[i] = hvA l w0 f i := fun i h => by subst hA; simp
  have hBg : ∀ i (h : i < B.length), B[i] = hvB l off d w1 f i := fun i h => by subst hB; simp
  have hAt : ∀ v ∈ A, isTime v := fun v hv => by
    obtain ⟨i, hi, rfl⟩ := List.mem_iff_getElem.1 hv
    rw [hAg i hi]
    have q1 := hwg w0 hb0 i
    have q2 := hlg i
    unfold hvA isTime
    split <;> omega
  have hBt : ∀ v ∈ B, isTime v := fun v hv => by
    obtain ⟨i, hi, rfl⟩ := List.mem_iff_getElem.1 hv
    rw [hBg i hi]
    have q1 := hwg w1 hb1 i
    have q2 := hlg i
    have q3 := hdt (off.getD i 0)
    unfold hvB offAt isTime
    split <;> omega
  have sA : Sorts (A.take f ++ A.drop f) (isortI A) := by rw [List.take_append_drop]; exact isortI_sorts A
  have sB : Sorts (B.take f ++ B.drop f) (isortI B) := by rw [List.take_append_drop]; exact isortI_sorts B
  have lA := isortI_len A
  have lB := isortI_len B
  have lo := hI.lo
  have k1 := mid_halves (f := f) (d := d) (low := low) (high := high) sA sB (by rw [List.length_take]; omega) (by rw [List.length_take]; omega) (by rw [List.length_drop, List.length_drop]; omega) (by omega) b3.1
    (fun i h1 h2 => by
      rw [List.length_drop] at h1 h2
      rw [List.getElem_drop, List.getElem_drop, hAg _ (by omega), hBg _ (by omega), hAe _ (by omega) (by omega), hBe _ (by omega) (by omega)]
      have := hdt (off.getD (f + i) 0)
      omega) (fun v hv => (lo v (.inr hv)).1) (fun v hv => (lo v (.inl hv)).2) (fun v hv => (lo v (.inl hv)).1) (fun v hv => (lo v (.inr hv)).2) sorts_exists
  have k2 := mid_halves (f := f) (d := d) (low := low) (high := high) sB sA (by rw [List.length_take]; omega) (by rw [List.length_take]; omega) (by rw [List.length_drop, List.length_drop]; omega) (by omega) b3.1
    (fun i h1 h2 => by
      rw [List.length_drop] at h1 h2
      rw [List.getElem_drop, List.getElem_drop, hAg _ (by omega), hBg _ (by omega), hAe _ (by omega) (by omega), hBe _ (by omega) (by omega)]
      have := hdt (off.getD (f + i) 0)
      omega) (fun v hv => (lo v (.inl hv)).1) (fun v hv => (lo v (.inr hv)).2) (fun v hv => (lo v (.inr hv)).1) (fun v hv => (lo v (.inl hv)).2) sorts_exists
  have m1 := mid_time (l := A) (f := f) (by omega) hAt
  have m2 := mid_time (l := B) (f := f) (by omega) hBt
  have hlh : low ≤ high := by
    have hf : f < A.length := by omega
    have := lo A[f] (.inl (by rw [List.mem_iff_getElem]; exact ⟨0, by simp; omega, by simp [List.getElem_drop]⟩))
    omega
  have q1 := mid_own hI.ha (by omega) f
  have q2 := mid_own hI.hb (by omega) f
  have tl := hI.tl
  have th := hI.th
  rw [midG_ok (by omega) hAt] at q1
  rw [midG_ok (by omega) hBt] at q2
  generalize hu : mid2 (isortI A) f / 2 = u at k1 k2 m1 m2 q1 q2
  generalize hv : mid2 (isortI B) f / 2 = v at k1 k2 m1 m2 q1 q2
  unfold isTime at tl th
  have eq : (high - low).tdiv 2 = (high - low) / 2 := Int.tdiv_eq_ediv_of_nonneg (by omega)
  have y1' : IntKind.i64.wrap (u - v) = u - v := i64_in (by omega) (by omega)
  have y2' : IntKind.i64.wrap (v - u) = v - u := i64_in (by omega) (by omega)
  have y3 : IntKind.i64.wrap (high - low) = high - low := i64_in (by omega) (by omega)
  have y4 : IntKind.i64.wrap ((high - low) / 2) = (high - low) / 2 := i64_in (by omega) (by omega)
  have y5 : IntKind.i64.wrap ((high - low) / 2 + d) = (high - low) / 2 + d := i64_in (by omega) (by omega)
  have y6 : IntKind.i64.wrap ((high - low) / 2 + d + 1) = (high - low) / 2 + d + 1 := i64_in (by omega) (by omega)
  have z1 : u - v ≤ (high - low) / 2 + d + 1 := by omega
  have z2 : v - u ≤ (high - low) / 2 + d + 1 := by omega
  simp (maxSteps := 4000000) [c_l13_MiddleHalves, evW_reg, evW_chkr, isCst, TK.agg, zeroS, endS, resS, l1, l2, l3, l4, x1, x2, x3, x4, hfe', c1, c2, c2', c3, c4, c4', c5, c5', hM0, d1, d2, c_l13_MiddleHalves_L0, g1, q1, q2, eq, y1', y2', y3, y4, y5, y6, z1, z2]

end Go.Proofs.Ytedmidpnfnhnlaa

/-
  Walks of the seat's functions: Nb.
-/
set_option linter.unusedVariables false
set_option linter.unusedSimpArgs false
set_option maxRecDepth 100000
namespace Go.Proofs.Ytedmidpnfnhnlaa
open Go.Proofs.Ytedmidpnfnhnlaa.Sh
/-! The law MiddleTells. -/
theorem bounds_of {n i j : Nat} {lo hi : Option SV} (hl : (match lo with | none => some 0 | some v => natS v) = some i) (hh : (match hi with | none => some n | some v => natS v) = some j) (hij : i ≤ j) (hj : j ≤ n) : boundsS n lo hi none = some (i, j, none) := by
  cases lo <;> cases hi <;> simp only [Option.some.injEq] at hl hh <;> (try subst hl) <;> (try subst hh) <;> simp_all [boundsS]
theorem num_slice {o : SV} {M : Mem} {l : List Int} (h : OutR 1 o M (numSV l)) {lo hi : Option SV} {i j : Nat} (hl : (match lo with | none => some 0 | some v => natS v) = some i) (hh : (match hi with | none => some l.length | some v => natS v) = some j) (hij : i ≤ j) (hj : j ≤ l.length) :
    ∃ z, sliceS ES.P T_sl_int64 o lo hi none = some z ∧ (∀ get, (∀ id, id < M.next → get id = M.blk id) → itemsS get z = some (numSV ((l.drop i).take (j - i)))) ∧ srcFits (.slice T_int64) 1 z = true := by
  have hb := bounds_of hl hh hij hj
  rcases h with ⟨e, rfl⟩ | ⟨id, rfl, hid, hlt⟩
  · have : l = [] := by simpa [numSV] using e
    subst this
    refine ⟨.nilsl, ?_, fun get _ => by simp [itemsS, numSV], rfl⟩
    simp only [List.length_nil] at hb
    simp [sliceS, ti_sl_int64, ti_int64, hb]
  · rw [numSV_len]
    by_cases he : i = j
    · subst he
      refine ⟨.sl [] .ro, ?_, fun get _ => by simp [itemsS, numSV], rfl⟩
      simp [sliceS, ti_sl_int64, ti_int64, hb]
    · refine ⟨.own id 1 i (j - i), ?_, fun get hg => ?_, rfl⟩
      · simp [sliceS, ti_sl_int64, ti_int64, hb, he]
      · simp only [itemsS, hg id hlt, hid, numSV_len]
        rw [if_pos (by omega)]
        simp [numSV, List.map_drop, List.map_take]
theorem num_at {o : SV} {M : Mem} {l : List Int} (h : OutR 1 o M (numSV l)) {j : Nat} (hj : j < l.length) : ∃ p, indexAddrS ES.P T_sl_int64 o (.int .i64 j) = some p ∧ loadS ES.P M.blk T_int64 p = some (.int .i64 l[j]) := by
  rcases h with ⟨e, rfl⟩ | ⟨id, rfl, hid, hlt⟩
  · have : l = [] := by simpa [numSV] using e
    subst this
    simp at hj
  · refine ⟨.ptr id j 0, ?_, ?_⟩
    · simp [indexAddrS, ti_sl_int64, ti_int64, natS, numSV_len, hj]
    · simp [loadS, ti_int64, hid, numSV, hj, partS, TK.agg]
theorem sorted_B0 {x o : SV} {l cur : List Int} (hx : Nums x l) {M : Mem} (h : OutR 1 o M (numSV cur)) {i k : Nat} (hi : i < l.length) (hb : l.length ≤ 100000) (hk : k < cur.length) (hc : cur.length ≤ 100000) (hle : cur[k] ≤ l[i]) :
    evW ES n_r10_sorted c_r10_sorted_B0 ⟨h_r10_sorted_0 x o (.int .i64 i) (.int .i64 k), M⟩ = some (.normal, ⟨h_r10_sorted_0 x o (.int .i64 i) (.int .i64 ((k + 1 : Nat) : Int)), M⟩) := by
  have hw : IntKind.i64.wrap ((k : Int) + 1) = (k : Int) + 1 := i64_in (by omega) (by omega)
  have a1 := hx.at hi
  have a2 := Nums.ld hi
  have lo := num_len h
  obtain ⟨p, b1, b2⟩ := num_at h hk
  simp [c_r10_sorted_B0, evW_reg, evW_chkr, isCst, TK.agg, zeroS, endS, resS, h_r10_sorted_0, lo, hk, a1, a2, b1, b2, hle, hw]
theorem sorted_B0_no {x o : SV} {l cur : List Int} (hx : Nums x l) {M : Mem} (h : OutR 1 o M (numSV cur)) {i k : Nat} (hi : i < l.length) (hb : l.length ≤ 100000) (hk : k < cur.length) (hc : cur.length ≤ 100000) (hle : ¬ cur[k] ≤ l[i]) :
    evW ES n_r10_sorted c_r10_sorted_B0 ⟨h_r10_sorted_0 x o (.int .i64 i) (.int .i64 k), M⟩ = some (.exit 2, ⟨(h_r10_sorted_0 x o (.int .i64 i) (.int .i64 k)).set 26 (.bool false), M⟩) := by
  have a1 := hx.at hi
  have a2 := Nums.ld hi
  have lo := num_len h
  obtain ⟨p, b1, b2⟩ := num_at h hk
  simp [c_r10_sorted_B0, evW_reg, evW_chkr, isCst, TK.agg, zeroS, endS, resS, h_r10_sorted_0, lo, hk, a1, a2, b1, b2, hle]
theorem sorted_B0_end {x o : SV} {cur : List Int} {M : Mem} (h : OutR 1 o M (numSV cur)) {i : Nat} :
    evW ES n_r10_sorted c_r10_sorted_B0 ⟨h_r10_sorted_0 x o (.int .i64 i) (.int .i64 cur.length), M⟩ = some (.exit 2, ⟨(h_r10_sorted_0 x o (.int .i64 i) (.int .i64 cur.length)).set 26 (.bool false), M⟩) := by
  have lo := num_len h
  simp [c_r10_sorted_B0, evW_reg, evW_chkr, isCst, TK.agg, zeroS, endS, resS, h_r10_sorted_0, lo]
theorem three_app {M : Mem} {z1 z3 : SV} {A B : List Int} (v : Int) (hA : A.length ≤ 100000) (hB : B.length ≤ 100000)
    (s2 : ∀ get, (∀ id, id < M.next → get id = M.blk id) → itemsS get z1 = some (numSV A)) (s3 : srcFits (.slice T_int64) 1 z1 = true) (s5 : ∀ get, (∀ id, id < M.next → get id = M.blk id) → itemsS get z3 = some (numSV B)) (s6 : srcFits (.slice T_int64) 1 z3 = true) :
    ∃ o1 k1 o2 k2 o3 k3 M3, appendS ES.P (seenM (M.bump 15) M.next 15 (some [0, 1, 2])) (M.next + 3) T_sl_int64 T_sl_int64 .nilsl z1 = some (o1, k1) ∧
      appendS ES.P (seenM (((M.bump 15).sets k1).set (M.next + 8) (some [.int .i64 v])) M.next 15 (some [0, 1, 2, 3, 4, 5, 6, 7, 8])) (M.next + 9) T_sl_int64 T_sl_int64 o1 (.own (M.next + 8) 1 0 1) = some (o2, k2) ∧
      appendS ES.P (seenM ((((M.bump 15).sets k1).set (M.next + 8) (some [.int .i64 v])).sets k2) M.next 15 (some [0, 1, 2, 3, 4, 5, 6, 7, 8, 9, 10, 11, 12])) (M.next + 13) T_sl_int64 T_sl_int64 o2 z3 = some (o3, k3) ∧
      ((((M.bump 15).sets k1).set (M.next + 8) (some [.int .i64 v])).sets k2).sets k3 = M3 ∧ OutR 1 o3 M3 (numSV (A ++ [v] ++ B)) := by
  have i1 := s2 (seenM (M.bump 15) M.next 15 (some [0, 1, 2])) (fun id hid => by simp [hid])
  have hs1 : ∀ X : Mem, itemsS (seenM (X.set (M.next + 8) (some [.int .i64 v])) M.next 15 (some [0, 1, 2, 3, 4, 5, 6, 7, 8])) (.own (M.next + 8) 1 0 1) = some [.int .i64 v] := fun X => by simp [itemsS]
  have e1 := appendS_nil (P := ES.P) (get := seenM (M.bump 15) M.next 15 (some [0, 1, 2])) (a := M.next + 3) (t := T_sl_int64) (t2 := T_sl_int64) (z := .int .i64 0) ti_sl_int64 ti_sl_int64 ti_int64 rfl i1 (by decide) (unif_num A) s3 rfl rfl (by rw [numSV_len]; show A.length * 8 ≤ _; omega) (by rw [numSV_len]; omega)
  by_cases hA0 : A = []
  · subst hA0
    have e2 := appendS_nil (P := ES.P) (get := seenM (((M.bump 15).sets []).set (M.next + 8) (some [.int .i64 v])) M.next 15 (some [0, 1, 2, 3, 4, 5, 6, 7, 8])) (a := M.next + 9) (t := T_sl_int64) (t2 := T_sl_int64) (z := .int .i64 0) ti_sl_int64 ti_sl_int64 ti_int64 rfl (hs1 _) (by decide) rfl (by simp [srcFits]) rfl rfl (by show 1 * 8 ≤ 140737488355328; decide) (by show 1 ≤ 140737488355328; decide)
    refine ⟨.nilsl, [], .own (M.next + 9) 1 0 1, [(M.next + 9, some [.int .i64 v])], ?_⟩
    generalize hX : (((M.bump 15).sets []).set (M.next + 8) (some [.int .i64 v])).sets [(M.next + 9, some [.int .i64 v])] = X
    have hn : X.next = M.next + 15 := by rw [← hX]; rfl
    have hOld : Old M X := fun id hid => by
      rw [← hX]
      have q1 : ¬ id = M.next + 8 := by omega
      have q2 : ¬ id = M.next + 9 := by omega
      simp [Mem.sets, q1, q2]
    have hb : X.blk (M.next + 9) = some (numSV [v]) := by rw [← hX]; simp [Mem.sets, numSV]
    obtain ⟨o3, k3, p1, p2, _, _, _⟩ := OutR.nextS (P := ES.P) (te := ⟨.int .i64, 1, 8, some (.int .i64 0)⟩) (get := seenM X M.next 15 (some [0, 1, 2, 3, 4, 5, 6, 7, 8, 9, 10, 11, 12])) (o := .own (M.next + 9) 1 0 1) (x := z3) (M := { X with next := M.next + 10 }) (items := numSV [v]) (ys := numSV B) (X := X) (a := M.next + 13) ti_sl_int64 ti_int64 rfl (by decide) rfl rfl
      (.inr ⟨M.next + 9, rfl, hb, by show M.next + 9 < M.next + 10; omega⟩) (by simp only [numSV_len]; show (1 + B.length) * 8 ≤ _; omega) (by simp only [numSV_len]; show 1 + B.length ≤ _; omega)
      (fun id hid => by
        have hid' : id < M.next + 10 := hid
        by_cases hlt : id < M.next
        · simp [hlt]
        · obtain ⟨k, rfl⟩ : ∃ k, id = M.next + k := ⟨id - M.next, by omega⟩
          have : k < 10 := by omega
          simp
          intro _ _
          omega) (s5 _ (fun id hid => by simp [hid, hOld id hid])) s6 (unif_num B) (fun id _ => rfl) (by omega) (by show M.next + 10 ≤ X.next; omega) (by show M.next + 10 ≤ M.next + 13; omega)
    refine ⟨o3, k3, _, by simpa [numSV] using e1, by simpa using e2, p1, rfl, ?_⟩
    simpa [numSV] using p2
  · have hl : 0 < A.length := List.length_pos_iff.2 hA0
    have he : (numSV A).isEmpty = false := by cases A with | nil => exact absurd rfl hA0 | cons _ _ => rfl
    rw [he] at e1
    simp only [Bool.false_eq_true, if_false, numSV_len] at e1
    have e2 := appendS_own (P := ES.P) (id := M.next + 3) (len := A.length) (xs := numSV A) (get := seenM (((M.bump 15).sets [(M.next + 3, some (numSV A))]).set (M.next + 8) (some [.int .i64 v])) M.next 15 (some [0, 1, 2, 3, 4, 5, 6, 7, 8])) (a := M.next + 9) (t := T_sl_int64) (t2 := T_sl_int64) (z := .int .i64 0) ti_sl_int64 ti_sl_int64 ti_int64 rfl (hs1 _) (by decide) rfl (by simp [srcFits]) rfl rfl (by simp [Mem.sets]) (by rw [numSV_len]; omega) (by show (A.length + 1) * 8 ≤ 140737488355328; omega) (by show A.length + 1 ≤ 140737488355328; omega)
    simp only [List.isEmpty_cons, Bool.false_eq_true, if_false, List.length_cons, List.length_nil, Nat.zero_add] at e2
    rw [show (numSV A).take A.length ++ [.int .i64 v] = numSV (A ++ [v]) by rw [← numSV_len A, List.take_length, numSV_snoc]] at e2
    generalize hX : (((M.bump 15).sets [(M.next + 3, some (numSV A))]).set (M.next + 8) (some [.int .i64 v])).sets [(M.next + 3, none), (M.next + 9, some (numSV (A ++ [v])))] = X
    have hn : X.next = M.next + 15 := by rw [← hX]; rfl
    have hOld : Old M X := fun id hid => by
      rw [← hX]
      have q1 : ¬ id = M.next + 8 := by omega
      have q2 : ¬ id = M.next + 9 := by omega
      have q3 : ¬ id = M.next + 3 := by omega
      simp [Mem.sets, q1, q2, q3]
    have hb : X.blk (M.next + 9) = some (numSV (A ++ [v])) := by rw [← hX]; simp [Mem.sets]
    have hl1 : (A ++ [v]).length = A.length + 1 := by simp
    obtain ⟨o3, k3, p1, p2, _, _, _⟩ := OutR.nextS (P := ES.P) (te := ⟨.int .i64, 1, 8, some (.int .i64 0)⟩) (get := seenM X M.next 15 (some [0, 1, 2, 3, 4, 5, 6, 7, 8, 9, 10, 11, 12])) (o := .own (M.next + 9) 1 0 (A.length + 1)) (x := z3) (M := { X with next := M.next + 10 }) (items := numSV (A ++ [v])) (ys := numSV B) (X := X) (a := M.next + 13) ti_sl_int64 ti_int64 rfl (by decide) rfl rfl
      (.inr ⟨M.next + 9, by rw [numSV_len, hl1], hb, by show M.next + 9 < M.next + 10; omega⟩) (by simp only [numSV_len, hl1]; show (A.length + 1 + B.length) * 8 ≤ _; omega) (by simp only [numSV_len, hl1]; omega)
      (fun id hid => by
        have hid' : id < M.next + 10 := hid
        by_cases hlt : id < M.next
        · simp [hlt]
        · obtain ⟨k, rfl⟩ : ∃ k, id = M.next + k := ⟨id - M.next, by omega⟩
          have : k < 10 := by omega
          simp
          intro _ _
          omega) (s5 _ (fun id hid => by simp [hid, hOld id hid])) s6 (unif_num B) (fun id _ => rfl) (by omega) (by show M.next + 10 ≤ X.next; omega) (by show M.next + 10 ≤ M.next + 13; omega)
    subst hX
    refine ⟨_, _, _, _, o3, k3, _, e1, e2, p1, rfl, ?_⟩
    simpa [numSV] using p2
set_option maxHeartbeats 4000000 in
theorem sorted_B1 {x o : SV} {l cur : List Int} (hx : Nums x l) {M : Mem} (h : OutR 1 o M (numSV cur)) {i : Nat} (hi : i < l.length) (hb : l.length ≤ 100000) (hc : cur.length = i) (hp : cur.Perm (l.take i) ∧ cur.Pairwise (· ≤ ·)) :
    ∃ M' o' cur', evW ES n_r10_sorted c_r10_sorted_B1 ⟨h_r10_sorted_1 x o (.int .i64 i), M⟩ = some (.normal, ⟨h_r10_sorted_1 x o' (.int .i64 ((i + 1 : Nat) : Int)), M'⟩) ∧ OutR 1 o' M' (numSV cur') ∧ cur'.length = i + 1 ∧ cur'.Perm (l.take (i + 1)) ∧ cur'.Pairwise (· ≤ ·) := by
  have hw : IntKind.i64.wrap ((i : Int) + 1) = (i : Int) + 1 := i64_in (by omega) (by omega)
  have hlx := hx.lenS ti_sl_int64
  have a1 := hx.at hi
  have a2 := Nums.ld hi
  have main : ∃ k, k ≤ cur.length ∧ evW ES n_r10_sorted (.loop c_r10_sorted_B0) ⟨h_r10_sorted_0 x o (.int .i64 i) (.int .i64 0), M⟩ = some (.exit 2, ⟨(h_r10_sorted_0 x o (.int .i64 i) (.int .i64 k)).set 26 (.bool false), M⟩) ∧ (∀ j (hj : j < cur.length), j < k → cur[j] ≤ l[i]) ∧ (k < cur.length → ∀ hk : k < cur.length, ¬ cur[k] ≤ l[i]) := by
    obtain ⟨r, g1, g2⟩ := loop_find (E := ES) (me := n_r10_sorted) (B := c_r10_sorted_B0) (len := cur.length) (T := fun k => h_r10_sorted_0 x o (.int .i64 i) (.int .i64 k)) (I := fun _ M' => M' = M) (p := fun j => (cur[j]?.map fun x => !decide (x ≤ l[i])).getD false)
      (Q := fun f r => r = (.exit 2, ⟨(h_r10_sorted_0 x o (.int .i64 i) (.int .i64 ((f.getD cur.length : Nat) : Int))).set 26 (.bool false), M⟩))
      (fun j M' hj hM hpj => by
        subst hM
        simp [hj] at hpj
        exact ⟨_, sorted_B0 hx h hi hb hj (by omega) hpj, rfl⟩)
      (fun j M' hj hM hpj => by
        subst hM
        simp [hj] at hpj
        exact ⟨_, sorted_B0_no hx h hi hb hj (by omega) (by omega), by simp, rfl⟩)
      (fun M' hM => by
        subst hM
        exact ⟨_, sorted_B0_end h, by simp, rfl⟩) M rfl
    subst g2
    cases hf : (List.range cur.length).find? (fun j => (cur[j]?.map fun x => !decide (x ≤ l[i])).getD false) with
    | none =>
      rw [hf] at g1
      refine ⟨cur.length, Nat.le_refl _, g1, fun j hj _ => ?_, fun hk => by omega⟩
      have := List.find?_eq_none.1 hf j (by simp [hj])
      simpa [hj] using this
    | some k =>
      rw [hf] at g1
      obtain ⟨h1, u1, u2, h2, h3⟩ := List.find?_eq_some_iff_append.1 hf
      have hkm := List.mem_of_find?_eq_some hf
      have hk : k < cur.length := by simpa using hkm
      refine ⟨k, by omega, g1, fun j hj hjk => ?_, fun _ _ => by simpa [hk] using h1⟩
      have hja : j ∈ u1 := by
        have e1 : (List.range cur.length)[u1.length]? = some k := by rw [h2]; simp
        have hlt : u1.length < cur.length := by
          have := congrArg List.length h2
          simp at this
          omega
        have e2 : u1.length = k := by simpa [hlt] using e1
        have e3 : (List.range cur.length)[j]? = u1[j]? := by rw [h2, List.getElem?_append_left (by omega)]
        rw [List.getElem?_range hj] at e3
        exact List.mem_of_getElem? e3.symm
      have := h3 j hja
      simpa [hj] using this
  obtain ⟨k, hk, g1, k1, k2⟩ := main
  simp [h_r10_sorted_0] at g1
  obtain ⟨z1, s1, s2, s3⟩ := num_slice h (lo := none) (hi := some (.int .i64 k)) (i := 0) (j := k) rfl (by simp [natS]) (by omega) hk
  obtain ⟨z3, s4, s5, s6⟩ := num_slice h (lo := some (.int .i64 k)) (hi := none) (i := k) (j := cur.length) (by simp [natS]) rfl hk (by omega)
  have b0 : ∀ (q : Nat) (v : Int), bldSl ES.P T_sl_int64 1 q [(0, .int .i64 v)] = some (.own q 1 0 1, [.int .i64 v]) := fun q v => by simp [bldSl, buildRow]
  obtain ⟨o1, q1, o2, q2, o3, q3, M3, p1, p2, p3, m3, hO⟩ := three_app (M := M) (A := cur.take k) (B := cur.drop k) l[i] (by rw [List.length_take]; omega) (by rw [List.length_drop]; omega)
    (fun get hg => by simpa using s2 get hg) s3 (fun get hg => by
      have := s5 get hg
      rwa [List.take_of_length_le (by rw [List.length_drop]; exact Nat.le_refl _)] at this) s6
  have hso : ∀ a b (ha : a < cur.length) (hb : b < cur.length), a ≤ b → cur[a] ≤ cur[b] := fun a b ha hb hab => by
    rcases Nat.lt_or_eq_of_le hab with hlt | rfl
    · exact List.pairwise_iff_getElem.1 hp.2 a b ha hb hlt
    · exact Int.le_refl _
  obtain ⟨w1, w2⟩ := insert_sorts hp hk k1 (fun j hj hkj => by
    have := k2 (by omega) (by omega)
    have := hso k j (by omega) hj hkj
    omega)
  refine ⟨M3, o3, cur.take k ++ [l[i]] ++ cur.drop k, ?_, hO, ?_, ?_, w2⟩
  · generalize l[i] = v at *
    simp [c_r10_sorted_B1, evW_reg, evW_chkr, isCst, TK.agg, zeroS, endS, resS, h_r10_sorted_1, hlx, hi, a1, a2, c_r10_sorted_L0, g1, hw, s1, s4, b0, p1, p2, p3, m3]
  · rw [w1.length_eq]; simp; omega
  · rw [List.take_succ_eq_append_getElem hi]; exact w1
theorem r10_sorted_ic {x : SV} {l : List Int} (hx : Nums x l) (hb : l.length ≤ 100000) (M : Mem) : ∃ o M', ICw ES n_r10_sorted [x] M = some (o, M') ∧ OutR 1 o M' (numSV (isortI l)) := by
  rw [b_r10_sorted]
  have hlx := hx.lenS ti_sl_int64
  obtain ⟨r, g1, Ma, o, cur, rfl, hO, hp⟩ := loop_st (E := ES) (me := n_r10_sorted) (B := c_r10_sorted_B1) (β := SV × List Int) (len := l.length) (T := fun j o => h_r10_sorted_1 x o.1 (.int .i64 j))
    (I := fun j o M => OutR 1 o.1 M (numSV o.2) ∧ o.2.length = j ∧ o.2.Perm (l.take j) ∧ o.2.Pairwise (· ≤ ·))
    (Q := fun r => ∃ M' o cur, r = (.exit 0, ⟨(h_r10_sorted_1 x o (.int .i64 l.length)).set 9 (.bool false), M'⟩) ∧ OutR 1 o M' (numSV cur) ∧ cur.Perm l ∧ cur.Pairwise (· ≤ ·))
    (fun j o M hj ⟨i1, i2, i3⟩ => by
      left
      obtain ⟨M', o', cur', q1, q2, q3, q4⟩ := sorted_B1 hx i1 hj hb i2 i3
      exact ⟨(o', cur'), M', q1, q2, q3, q4⟩)
    (fun o M ⟨i1, i2, i3, i4⟩ => ⟨_, by simp [c_r10_sorted_B1, evW_reg, evW_chkr, isCst, TK.agg, zeroS, endS, resS, h_r10_sorted_1, hlx], by simp, M, o.1, o.2, rfl, i1, by rwa [List.take_length] at i3, i4⟩) 0 (.nilsl, []) M (by omega)
    ⟨.inl ⟨rfl, rfl⟩, rfl, by simp, List.Pairwise.nil⟩
  have e : cur = isortI l := Sorts.uniq (l := l) ⟨hp.1, hp.2⟩ (isortI_sorts l)
  subst e
  simp [h_r10_sorted_1] at g1
  refine ⟨o, Ma, ?_, hO⟩
  simp [c_r10_sorted, evW_reg, evW_chkr, isCst, TK.agg, zeroS, endS, resS, c_r10_sorted_L1, g1]
theorem r10_sorted_c {x : SV} {l : List Int} (hx : Nums x l) (hb : l.length ≤ 100000) : ∃ z, (∀ get, callP (PCw ES) get n_r10_sorted [x] = some z) ∧ Nums z (isortI l) := by
  obtain ⟨z, items, h1, h2, h3, h4, _⟩ := PCw_out (E := ES) (f := n_r10_sorted) (args := [x]) (Pr := fun items => items = numSV (isortI l)) (fun M => by
    obtain ⟨o, M', q1, q2⟩ := r10_sorted_ic hx hb M
    exact ⟨o, M', _, q1, q2, rfl⟩) (fun items h y hy => by
    rw [h] at hy
    simp only [numSV, List.mem_map] at hy
    obtain ⟨v, _, rfl⟩ := hy
    rfl)
  subst h2
  exact ⟨z, fun get => callP_of h1 (by simp [hx.np]), RSl.of_map h3 h4⟩
theorem nums_part {y : SV} {l : List Int} (h : Nums y l) {i j : Nat} (hij : i ≤ j) (hj : j ≤ l.length) : ∃ z, sliceS ES.P T_sl_int64 y (some (.int .i64 i)) (some (.int .i64 j)) none = some z ∧ (∀ get, itemsS get z = some (numSV ((l.drop i).take (j - i)))) ∧ srcFits (.slice T_int64) 1 z = true := by
  have hm := h.map
  have hs := h.sl
  have hb : ∀ n, n = l.length → boundsS n (some (.int .i64 i)) (some (.int .i64 j)) none = some (i, j, none) := fun n hn => bounds_of (by simp [natS]) (by simp [natS]) hij (by omega)
  have hlen := h.len
  cases y <;> simp [isSl] at hs
  · have : l = [] := by simp [its] at hlen; exact List.length_eq_zero_iff.1 hlen.symm
    subst this
    have hb0 := hb 0 rfl
    refine ⟨.nilsl, ?_, fun get => by simp [itemsS, numSV], rfl⟩
    simp [sliceS, ti_sl_int64, ti_int64, hb0]
  · rename_i items tl
    simp only [its] at hm hlen
    have hb0 := hb _ hlen
    have hu : Sh.unif 1 items = true := by rw [hm]; exact unif_num l
    have e : (items.drop i).take (j - i) = numSV ((l.drop i).take (j - i)) := by rw [hm]; simp [numSV, List.map_drop, List.map_take]
    refine ⟨.sl ((items.drop i).take (j - i)) (match tl with | .full => if j = items.length then .full else .ro | q => q), ?_, fun get => by simp [itemsS, e], rfl⟩
    cases tl <;> simp [sliceS, ti_sl_int64, ti_int64, hb0, hu]
set_option maxHeartbeats 4000000 in
theorem r10_Cut_c {x : SV} {l : List Int} (hx : Nums x l) (hb : l.length ≤ 100000) (f : Int) :
    ∃ z, (∀ get, callP (PCw ES) get n_r10_Cut [x, .int .i64 f] = some (.tup [z, .bool (cutOk l f)])) ∧ Nums z (if cutOk l f then cutL l f.toNat else []) := by
  have hlen := hx.lenS ti_sl_int64
  by_cases h0 : f < 0
  · have e : cutOk l f = false := by simp only [cutOk, decide_eq_false_iff_not]; omega
    refine ⟨.nilsl, fun get => callP_of (PCw_ex (fun M0 => ?_) rfl) (by simp [hx.np]), by rw [e]; exact RSl.nil _⟩
    rw [b_r10_Cut, e]
    simp [c_r10_Cut, evW_reg, evW_chkr, isCst, TK.agg, zeroS, endS, resS, h0, hlen]
  · obtain ⟨k, rfl⟩ : ∃ k : Nat, f = k := ⟨f.toNat, by omega⟩
    by_cases h1 : l = []
    · subst h1
      have e : cutOk [] k = false := by simp only [cutOk, decide_eq_false_iff_not, List.length_nil]; omega
      refine ⟨.nilsl, fun get => callP_of (PCw_ex (fun M0 => ?_) rfl) (by simp [hx.np]), by rw [e]; exact RSl.nil _⟩
      rw [b_r10_Cut, e]
      simp only [List.length_nil] at hlen
      simp [c_r10_Cut, evW_reg, evW_chkr, isCst, TK.agg, zeroS, endS, resS, h0, hlen]
    · have hp : 0 < l.length := List.length_pos_iff.2 h1
      have w1 : IntKind.i64.wrap ((l.length : Int) - 1) = (l.length : Int) - 1 := i64_in (by omega) (by omega)
      have w2 : IntKind.i64.wrap (((l.length : Int) - 1).tdiv 2) = ((l.length : Int) - 1) / 2 := by
        rw [Int.tdiv_eq_ediv_of_nonneg (by omega)]
        exact i64_in (by omega) (by omega)
      by_cases h2 : ((l.length : Int) - 1) / 2 < k
      · have e : cutOk l k = false := by simp only [cutOk, decide_eq_false_iff_not]; omega
        refine ⟨.nilsl, fun get => callP_of (PCw_ex (fun M0 => ?_) rfl) (by simp [hx.np]), by rw [e]; exact RSl.nil _⟩
        rw [b_r10_Cut, e]
        simp [c_r10_Cut, evW_reg, evW_chkr, isCst, TK.agg, zeroS, endS, resS, h0, hlen, h1, w1, w2, h2]
      · have e : cutOk l k = true := by simp only [cutOk, decide_eq_true_eq]; omega
        have hk : 2 * k + 1 ≤ l.length := by omega
        have w3 : IntKind.i64.wrap ((l.length : Int) - k) = ((l.length - k : Nat) : Int) := by rw [i64_in (by omega) (by omega)]; omega
        rw [e]
        simp only [if_true, Int.toNat_natCast]
        have key : ∃ z items, PCw ES n_r10_Cut [x, .int .i64 k] = some (.tup [z, .bool true]) ∧ items = numSV (cutL l k) ∧ isSl z = true ∧ its z = items := by
          obtain ⟨y, y1, y2⟩ := r10_sorted_c hx hb
          obtain ⟨z, z1, z2, z3⟩ := nums_part y2 (i := k) (j := l.length - k) (by omega) (by rw [isortI_len]; omega)
          have ec : ((isortI l).drop k).take (l.length - k - k) = cutL l k := by unfold cutL; congr 1; omega
          rw [ec] at z2
          have hlc : (numSV (cutL l k)).length = l.length - 2 * k := by rw [numSV_len, cutL_len hk]
          have main : ∀ M0 : Mem, ∃ q M', ICw ES n_r10_Cut [x, .int .i64 k] M0 = some (.tup [.own q 1 0 (l.length - 2 * k), .bool true], M') ∧ M'.blk q = some (numSV (cutL l k)) := by
            intro M0
            rw [b_r10_Cut]
            have ha : ∀ get a, appendS ES.P get a T_sl_int64 T_sl_int64 .nilsl z = some (.own a 1 0 (l.length - 2 * k), [(a, some (numSV (cutL l k)))]) := fun get a => by
              have he : (numSV (cutL l k)).isEmpty = false := by
                cases hh : numSV (cutL l k) with
                | nil => rw [hh] at hlc; simp at hlc; omega
                | cons _ _ => rfl
              rw [appendS_nil (ys := numSV (cutL l k)) ti_sl_int64 ti_sl_int64 ti_int64 (z := .int .i64 0) rfl (z2 get) (by decide) (unif_num _) z3 rfl rfl (by rw [hlc]; show (l.length - 2 * k) * 8 ≤ _; omega) (by rw [hlc]; omega), he]
              simp [hlc]
            refine ⟨_, _, by simp [c_r10_Cut, evW_reg, evW_chkr, isCst, TK.agg, zeroS, endS, resS, h0, hlen, h1, w1, w2, w3, h2, y1, z1, ha]; exact ⟨rfl, rfl⟩, by simp [Mem.sets]⟩
          obtain ⟨q, M', m1, m2⟩ := main Mem.empty
          have hpl : ∀ y ∈ numSV (cutL l k), Sh.pv y = true := fun y hy => by
            simp only [numSV, List.mem_map] at hy
            obtain ⟨v, _, rfl⟩ := hy
            rfl
          have hp : pic M'.blk true 11 (.own q 1 0 (l.length - 2 * k)) = some (.sl (numSV (cutL l k)) .ro) := by
            unfold pic
            have hle : 0 + (l.length - 2 * k) ≤ (numSV (cutL l k)).length := by omega
            simp only [Sh.pv, Bool.false_eq_true, if_false, m2, if_pos hle, List.drop_zero]
            rw [← hlc, List.take_length, mapM_id fun x hx => pic_np (np_of_pv (hpl x hx) _)]
            rfl
          have hpt : pic M'.blk true picDepth (.tup [.own q 1 0 (l.length - 2 * k), .bool true]) = some (.tup [.sl (numSV (cutL l k)) .ro, .bool true]) := by
            have hb0 : pic M'.blk true 11 (.bool true) = some (.bool true) := pic_np (np_of_pv rfl _)
            show pic M'.blk true (11 + 1) _ = _
            unfold pic
            simp only [Sh.pv, pvs, Bool.false_and, Bool.false_eq_true, if_false]
            simp [hp, hb0]
          exact ⟨.sl (numSV (cutL l k)) .ro, _, PCw_pic m1 hpt (by simp [Sh.pv, pvs, pvs_iff.2 hpl]), rfl, rfl, rfl⟩
        obtain ⟨z, _, k1, rfl, k3, k4⟩ := key
        exact ⟨z, fun get => callP_of k1 (by simp [hx.np]), RSl.of_map k3 k4⟩

end Go.Proofs.Ytedmidpnfnhnlaa

/-
  Walks of the seat's functions: Nc.
-/
set_option linter.unusedVariables false
set_option linter.unusedSimpArgs false
set_option maxRecDepth 100000
namespace Go.Proofs.Ytedmidpnfnhnlaa
open Go.Proofs.Ytedmidpnfnhnlaa.Sh
/-! The law MiddleTells. -/
set_option maxHeartbeats 4000000 in
theorem r10_Mid_c (get) {x : SV} {l : List Int} (hx : Nums x l) (hb : l.length ≤ 100000) (f : Int) : callP (PCw ES) get n_r10_Mid [x, .int .i64 f] = some (.tup [.int .i64 (midG l f).1, .bool (midG l f).2]) := by
  refine callP_of (PCw_ex (fun M => ?_) rfl) (by simp [hx.np])
  rw [b_r10_Mid]
  obtain ⟨z, k1, k2⟩ := r10_Cut_c hx hb f
  have hc := fun get => r10_times_c get hx (by omega)
  unfold midG
  cases hok : cutOk l f with
  | false =>
    rw [hok] at k1
    simp [c_r10_Mid, evW_reg, evW_chkr, isCst, TK.agg, zeroS, endS, resS, k1]
  | true =>
    rw [hok] at k1 k2
    cases ht : timesL l with
    | false =>
      rw [ht] at hc
      simp [c_r10_Mid, evW_reg, evW_chkr, isCst, TK.agg, zeroS, endS, resS, k1, hc]
    | true =>
      rw [ht] at hc
      obtain ⟨k, rfl, hk⟩ := cutOk_nat hok
      simp only [if_true, Int.toNat_natCast] at k2
      have hl := cutL_len hk
      have p0 : 0 < (cutL l k).length := by omega
      have p1 : (cutL l k).length - 1 < (cutL l k).length := by omega
      have a0 := Nums.at k2 p0
      have d0 := Nums.ld p0
      have a1 := Nums.at k2 p1
      have d1 := Nums.ld p1
      have e0 := cutL_at hk p0
      have e1 := cutL_at hk p1
      rw [e0] at d0
      rw [e1] at d1
      have t0 := isortI_time ht (k := k + 0) (by rw [isortI_len]; omega)
      have t1 := isortI_time ht (k := k + ((cutL l k).length - 1)) (by rw [isortI_len]; omega)
      unfold isTime at t0 t1
      have hm : mid2 (isortI l) k = (isortI l).getD (k + 0) 0 + (isortI l).getD (k + ((cutL l k).length - 1)) 0 := by
        unfold mid2
        have : (isortI l).length - 1 - k = k + ((cutL l k).length - 1) := by rw [isortI_len]; omega
        rw [this]
        rfl
      rw [show (cutL l k).length - 1 = ((cutL l k).length - 1) from rfl] at a1
      generalize (isortI l).getD (k + 0) 0 = u at *
      generalize (isortI l).getD (k + ((cutL l k).length - 1)) 0 = w at *
      have hlz := k2.lenS ti_sl_int64
      have w1 : IntKind.i64.wrap (((cutL l k).length : Int) - 1) = (((cutL l k).length - 1 : Nat) : Int) := by rw [i64_in (by omega) (by omega)]; omega
      have w2 : IntKind.i64.wrap (u + w) = u + w := i64_in (by omega) (by omega)
      have hfl := fun get => r1_Floor_c get (a := u + w) (b := 2) (by unfold I64; omega)
      have ef : floorG (u + w) 2 = ((u + w) / 2, true) := by unfold floorG; rw [if_neg (by omega)]
      rw [ef] at hfl
      have a0' : indexAddrS ES.P T_sl_int64 z (.int .i64 0) = some (.rptr ((cutL l k).map (SV.int .i64)) 0 0 (stOf z)) := a0
      simp only [Bool.and_self, if_true, Int.toNat_natCast, hm]
      generalize (cutL l k).map (SV.int .i64) = items at *
      simp [c_r10_Mid, evW_reg, evW_chkr, isCst, TK.agg, zeroS, endS, resS, k1, hc, a0', d0, hlz, w1, a1, d1, w2, hfl]
theorem r1_SameLongs_c (get) {x y : SV} {l : List Int} (hx : Nums x l) (hy : Nums y l) (hb : l.length ≤ 100000) : callP (PCw ES) get n_r1_SameLongs [x, y] = some (.bool true) := by
  refine callP_of (PCw_ex (fun M0 => ?_) rfl) (by simp [hx.np, hy.np])
  rw [b_r1_SameLongs]
  have l1 := hx.lenS ti_sl_int64
  have l2 := hy.lenS ti_sl_int64
  obtain ⟨r, g1, M', g2⟩ := loop_up (E := ES) (me := n_r1_SameLongs) (B := c_r1_SameLongs_B0) (len := l.length) (T := fun j => h_r1_SameLongs_0 x y (.int .i64 j)) (I := fun _ _ => True)
    (Q := fun r => ∃ M', r = (.exit 0, ⟨(h_r1_SameLongs_0 x y (.int .i64 l.length)).set 14 (.bool false), M'⟩))
    (fun j M hj _ => by
      left
      have hw : IntKind.i64.wrap ((j : Int) + 1) = (j : Int) + 1 := i64_in (by omega) (by omega)
      have a1 := hx.at hj
      have a2 := hy.at hj
      have a3 := Nums.ld hj
      exact ⟨M, by simp [c_r1_SameLongs_B0, evW_reg, evW_chkr, isCst, TK.agg, zeroS, endS, resS, h_r1_SameLongs_0, l1, l2, hj, a1, a2, a3, hw], trivial⟩)
    (fun M _ => ⟨_, by simp [c_r1_SameLongs_B0, evW_reg, evW_chkr, isCst, TK.agg, zeroS, endS, resS, h_r1_SameLongs_0, l1, l2], by simp, M, rfl⟩) 0 M0 (by omega) trivial
  subst g2
  simp [h_r1_SameLongs_0] at g1
  simp [c_r1_SameLongs, evW_reg, evW_chkr, isCst, TK.agg, zeroS, endS, resS, l1, l2, c_r1_SameLongs_L0, g1]
theorem cutL_le (l : List Int) (k : Nat) : (cutL l k).length ≤ l.length := by
  unfold cutL
  rw [List.length_take, List.length_drop, isortI_len]
  omega
set_option maxHeartbeats 4000000 in
theorem MiddleTells_walk (xs0 xs1 : List SV) (h0 : WT ES.P 8 T_sl_int64 xs0) (h1 : WT ES.P 8 T_int xs1) :
    ∃ M', ICw ES n_l13_MiddleTells [mkV ES.P T_sl_int64 xs0, mkV ES.P T_int xs1] .empty = some (.bool true, M') := by
  obtain ⟨l, hx, _, _⟩ := nums_of h0
  obtain ⟨f, _, e1, _⟩ := WT_int ti_int h1
  rw [e1, b_l13_MiddleTells]
  generalize mkV ES.P T_sl_int64 xs0 = x at *
  have l1 := hx.lenS ti_sl_int64
  by_cases c1 : 100 < (l.length : Int)
  · simp (maxSteps := 4000000) [c_l13_MiddleTells, evW_reg, evW_chkr, isCst, TK.agg, zeroS, endS, resS, l1, c1]
  · obtain ⟨z1, a1, a2⟩ := middle_Cut_c (l := l) hx (by omega) f
    obtain ⟨z2, b1, b2⟩ := r10_Cut_c (l := l) hx (by omega) f
    have m1 := fun get => middle_Mid_c get (l := l) hx (by omega) f
    have m2 := fun get => r10_Mid_c get (l := l) hx (by omega) f
    have hs := fun get => r1_SameLongs_c get a2 b2 (by
      have := cutL_le l f.toNat
      split
      · omega
      · simp)
    generalize cutOk l f = v1 at *
    generalize (midG l f).1 = u at *
    generalize (midG l f).2 = v2 at *
    have be : ∀ b : Bool, binS ES.P .eql T_bool false (.bool b) (.bool b) = some (.bool true) := fun b => by cases b <;> rfl
    cases v1 <;> cases v2 <;> simp (maxSteps := 4000000) [c_l13_MiddleTells, evW_reg, evW_chkr, isCst, TK.agg, zeroS, endS, resS, l1, c1, a1, b1, m1, m2, hs, be]

end Go.Proofs.Ytedmidpnfnhnlaa
