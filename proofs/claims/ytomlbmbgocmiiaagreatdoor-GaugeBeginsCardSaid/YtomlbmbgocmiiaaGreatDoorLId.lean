/-
  Walks of the seat's functions: Id.
-/
import Derived.Test.YtomlbmbgocmiiaaGreatDoorEbMa
import Derived.Test.YtomlbmbgocmiiaaGreatDoorShMb
import Derived.Test.YtomlbmbgocmiiaaGreatDoorLIc
import Derived.Test.YtomlbmbgocmiiaaGreatDoorLBl
import Derived.Test.YtomlbmbgocmiiaaGreatDoorLBn
set_option linter.unusedVariables false
set_option linter.unusedSimpArgs false
set_option maxRecDepth 100000
namespace Go.Proofs.YtomlbmbgocmiiaaGreatDoor
open Go.Proofs.YtomlbmbgocmiiaaGreatDoor.Sh
/-! The law GaugeAlike. -/
def zf : Frame := ⟨0, 0, 0, 0, 0, 0, false, 0, 0, [], 0, 0, 0, []⟩
def hdZ (n : Nat) (ts : List Int) (i : Nat) : Heard := ⟨((i % n : Nat) : Int), zf, ts.getD i 0⟩
def hdE (h : Heard) : SV := .agg (hdC h .nilsl .nilsl)
theorem hdE_np (n : Nat) (ts : List Int) (i : Nat) : Sh.np 10 (hdE (hdZ n ts i)) = true := hdNp (h := hdZ n ts i) (RSl.nil _) (RSl.nil _)
theorem heardsZ {y : SV} {n m : Nat} {ts : List Int} (h1 : isSl y = true) (h2 : its y = ((List.range m).map (hdZ n ts)).map hdE) : Heards y ((List.range m).map (hdZ n ts)) := by
  have h := RSl.of_map (enc := hdE) h1 h2
  refine ⟨h.sl, h.len, fun j y a hy ha => ?_⟩
  have e := h.at' j y a hy ha
  have hm := List.mem_of_getElem? ha
  simp only [List.mem_map] at hm
  obtain ⟨i, _, rfl⟩ := hm
  exact ⟨.nilsl, .nilsl, e, RSl.nil _, RSl.nil _⟩
/-- When it began, by a clock. -/
def begV (sl : List Slot) (p : Int) (ts : List Int) (i : Nat) : Int := ts.getD i 0 - (slotAt sl ((i % sl.length : Nat) : Int)).tick + (slotAt sl ((i % sl.length : Nat) : Int)).tick * p / 1000000
theorem beginG_in {t p a : Int} (ht : 0 ≤ t ∧ t ≤ 1000000) (hp : -1000000 ≤ p ∧ p ≤ 1000000) (ha : -1099511627776 ≤ a ∧ a ≤ 1099511627776) : beginG t p a = (a - t + t * p / 1000000, true) := by
  have hm := mul_abs (x := t) (p := p) (a := 1000000) (b := 1000000) (by omega) (by omega) (by omega) (by omega)
  have e1 : scaleG t p = (t * p / 1000000, true) := by
    unfold scaleG isTime
    rw [if_neg (by omega)]
  have e2 : realG t p = t - t * p / 1000000 := by
    unfold realG w64
    rw [e1]
    exact i64_in (by omega) (by omega)
  unfold beginG isTime w64
  rw [if_neg (by omega), e2]
  congr 1
  rw [i64_in (by omega) (by omega)]
  omega
theorem beg_diff {t p q D C : Int} (ht : 0 ≤ t ∧ t ≤ C) (hp : -D ≤ p ∧ p ≤ D) (hq : -D ≤ q ∧ q ≤ D) (hD : 0 ≤ D) : t * p / 1000000 - t * q / 1000000 ≤ upM (2 * D * C) := by
  have h1 : t * (p - q) ≤ t * (2 * D) := Int.mul_le_mul_of_nonneg_left (by omega) ht.1
  have h2 : t * (2 * D) ≤ C * (2 * D) := Int.mul_le_mul_of_nonneg_right ht.2 (by omega)
  have h3 : t * (p - q) = t * p - t * q := by rw [Int.mul_sub]
  have h4 : C * (2 * D) = 2 * D * C := Int.mul_comm _ _
  unfold upM
  omega
theorem starts_hdZ {sl : List Slot} (h0 : 0 < sl.length) {C : Int} (hC : C ≤ 1000000) (hs : ∀ s ∈ sl, 0 ≤ s.tick ∧ s.tick ≤ C) {p : Int} (hp : -500 ≤ p ∧ p ≤ 500) {ts : List Int} (ht : ∀ v ∈ ts, -2147483648 ≤ v ∧ v ≤ 2147483647) (m : Nat) :
    startsG sl p ((List.range m).map (hdZ sl.length ts)) = (List.range m).map (begV sl p ts) := by
  have key : ∀ i, startG sl p (hdZ sl.length ts i) = some (begV sl p ts i) := fun i => by
    have hlt : i % sl.length < sl.length := Nat.mod_lt _ h0
    have hin : 0 ≤ ((i % sl.length : Nat) : Int) ∧ ((i % sl.length : Nat) : Int) < sl.length := by omega
    obtain ⟨j, ej, hj, e2⟩ := slotAt_in hin.1 hin.2
    have hst := hs _ (List.getElem_mem hj)
    rw [← e2] at hst
    have hti : -2147483648 ≤ ts.getD i 0 ∧ ts.getD i 0 ≤ 2147483647 := by
      by_cases hi : i < ts.length
      · have := ht _ (List.getElem_mem hi)
        simpa [hi] using this
      · simp [show ts.length ≤ i by omega]
    have hb := beginG_in (t := (slotAt sl ((i % sl.length : Nat) : Int)).tick) (p := p) (a := ts.getD i 0) (by omega) (by omega) (by omega)
    unfold startG hdZ
    simp only
    rw [if_pos hin, hb]
    rfl
  unfold startsG
  rw [List.filterMap_map]
  have : (startG sl p ∘ hdZ sl.length ts) = fun i => some (begV sl p ts i) := funext key
  rw [this]
  exact congrFun List.filterMap_eq_map' _
theorem slots_in {c : Cfg} {part : Int} (h : inFit c part = true) : 0 < (slotsL c part).length ∧ ∀ s ∈ slotsL c part, 0 ≤ s.tick ∧ s.tick ≤ c.cycle := by
  obtain ⟨f1, f2, f3, f4⟩ := inFit_right h
  have tk := tabOk f2 f4
  obtain ⟨t1, t2, t3, t4⟩ := tk
  obtain ⟨p, rfl⟩ : ∃ p : Nat, part = p := ⟨part.toNat, by unfold inMany at f3; omega⟩
  have hp : p < c.parts.length := by unfold inMany at f3; omega
  have hn : nodesAt c p = c.parts[p].nodes := nodesAt_in hp
  have he : checkErr c = none := checkG_zero (by simpa [rightC] using f1)
  have hnb := nodesAt_le he p
  have hpb := (partsErr_none (checkErr_none he).1).2.2 c.parts[p] (List.getElem_mem hp)
  have hn1 : 1 ≤ nodesAt c p := by
    rw [hn]
    simp only [partBad, decide_eq_false_iff_not] at hpb
    omega
  have hen := t4 p hp
  have hpl := portsL_len c.links p (nodesAt c p)
  have hlen : (slotsL c p).length = 3 * (portsL c.links p (nodesAt c p)).length + (nodesAt c p).toNat := by simp [slotsL, kindsC, kindsL_len]
  have hple : (portsL c.links p (nodesAt c p)).length ≤ portsN c.links p := by
    have hok := portsOk_of he p
    have hs : sortedP ((endsL c.links p).mergeSort fun a b => decide (a.node ≤ b.node)) := by
      have := List.pairwise_mergeSort (le := fun a b : Port => decide (a.node ≤ b.node)) (fun a b c h1 h2 => by simp at *; omega) (fun a b => by simp; omega) (endsL c.links p)
      exact this.imp fun h => by simpa using h
    rw [← hok.sorted (List.mergeSort_perm _ _) hs, (List.mergeSort_perm _ _).length_eq]
    have := endsL_count (part := (p : Int)) hok.ab c.links.length (Nat.le_refl _)
    rw [List.take_length] at this
    exact Nat.le_of_eq this
  refine ⟨by omega, fun s hs => ?_⟩
  obtain ⟨i, hi, rfl⟩ := List.mem_iff_getElem.1 hs
  have e : (slotsL c p)[i].tick = c.lead + i * c.slot := by simp [slotsL, stamp]
  have h1 : 0 ≤ (i : Int) * c.slot := Int.mul_nonneg (by omega) (by omega)
  have h2 : (i : Int) * c.slot ≤ (3 * (portsN c.links p : Int) + nodesAt c p) * c.slot := Int.mul_le_mul_of_nonneg_right (by omega) (by omega)
  rw [e]
  unfold slotsEnd at hen
  omega
structure AlI (K : List SV) (b : Nat) (o : SV) (items : List SV) (M : Mem) : Prop where
  hc : M.blk b = some [.agg K]
  lt : b < M.next
  ho : OutR 16 o M items
  ne : ∀ e p q, o ≠ .own b e p q
set_option maxHeartbeats 8000000 in
theorem Alike_B0 {K : List SV} (hlk : K.length = 13) {s : SV} {sl : List Slot} {k : Int} (hs1 : ∀ get, callP (PCw ES) get n_r5_Slots [.agg K, .int .i64 k] = some s) (hS : Slots s sl) (h0 : 0 < sl.length) {x : SV} {l : List Int} (hx : RSl (fun y v => y = .int .i32 v) x l) (hl32 : ∀ v ∈ l, -2147483648 ≤ v ∧ v ≤ 2147483647) (h40 : l.length ≤ 40) (p q : SV) {b : Nat} {o : SV} {M : Mem} {j : Nat} (hj : j < l.length)
    (h : AlI K b o ((List.range j).map fun i => hdE (hdZ sl.length l i)) M) :
    ∃ M' o', evW ES n_l12_GaugeAlike c_l12_GaugeAlike_B0 ⟨h_l12_GaugeAlike_0 x (.ptr b 0 0) p q (.int .i64 k) o (.int .i64 j), M⟩ = some (.normal, ⟨h_l12_GaugeAlike_0 x (.ptr b 0 0) p q (.int .i64 k) o' (.int .i64 ((j + 1 : Nat) : Int)), M'⟩) ∧
      AlI K b o' ((List.range (j + 1)).map fun i => hdE (hdZ sl.length l i)) M' := by
  have hw : IntKind.i64.wrap ((j : Int) + 1) = (j : Int) + 1 := i64_in (by omega) (by omega)
  have hlx := hx.lenS ti_sl_int32
  have hls := hS.lenS ti_sl_api_Slot
  have a1 : indexAddrS ES.P T_sl_int32 x (.int .i64 j) = some (.rptr (l.map (SV.int .i32)) j 0 (stOf x)) := RSl.at (enc := SV.int .i32) hx ti_sl_int32 ti_int32 (fun _ => rfl) hj
  have a2 : (l.map (SV.int .i32))[j]? = some (.int .i32 l[j]) := by simp [hj]
  have hv := hl32 _ (List.getElem_mem hj)
  have wv : IntKind.i64.wrap l[j] = l[j] := i64_in (by omega) (by omega)
  have hmod : (j : Int).tmod sl.length = ((j % sl.length : Nat) : Int) := by
    rw [Int.tmod_eq_emod_of_nonneg (by omega)]
    rfl
  have hbr : binS ES.P .rem T_int false (.int .i64 j) (.int .i64 sl.length) = some (.int .i64 ((j % sl.length : Nat) : Int)) := by rw [← hmod]; exact binS_rem (by omega)
  have eE : hdE (hdZ sl.length l j) = .agg [.int .i64 ((j % sl.length : Nat) : Int), .int .i64 0, .int .i64 0, .int .i64 0, .int .i64 0, .int .i64 0, .int .i64 0, .bool false, .int .i64 0, .int .i64 0, .nilsl, .int .i64 0, .int .i64 0, .int .i64 0, .nilsl, .int .i64 l[j]] := by simp [hdE, hdZ, hdC, zf, hj]
  rw [show ((List.range (j + 1)).map fun i => hdE (hdZ sl.length l i)) = ((List.range j).map fun i => hdE (hdZ sl.length l i)) ++ [hdE (hdZ sl.length l j)] by simp [List.range_succ]]
  have hlen : ((List.range j).map fun i => hdE (hdZ sl.length l i)).length ≤ 100 := by simp; omega
  generalize ((List.range j).map fun i => hdE (hdZ sl.length l i)) = cur at *
  rw [eE]
  generalize (j % sl.length : Nat) = jm at *
  generalize List.map (SV.int .i32) l = xs at a1 a2
  generalize l[j] = v at *
  generalize hE : SV.agg [.int .i64 (jm : Int), .int .i64 0, .int .i64 0, .int .i64 0, .int .i64 0, .int .i64 0, .int .i64 0, .bool false, .int .i64 0, .int .i64 0, .nilsl, .int .i64 0, .int .i64 0, .int .i64 0, .nilsl, .int .i64 v] = e at *
  have hec : e.cells.length = 16 := by rw [← hE]; rfl
  have hlt := h.lt
  have hcb := h.hc
  obtain ⟨o', k', p1, p2, p3, p4, p5⟩ := OutR.nextS (P := ES.P) (get := seenM ((M.bump 16).set (M.next + 13) (some [e])) M.next 16 (some [0, 1, 2, 3, 4, 5, 6, 7, 8, 9, 10, 11, 12, 13])) (o := o) (x := .own (M.next + 13) 16 0 1) (M := M) (items := cur) (ys := [e]) (X := (M.bump 16).set (M.next + 13) (some [e])) (a := M.next + 14) ti_sl_api_Heard ti_api_Heard rfl (by decide) rfl rfl h.ho
    (by show (cur.length + 1) * 160 ≤ 140737488355328; omega) (by show cur.length + 1 ≤ 140737488355328; omega)
    (fun id hid => by
      have e1 : ¬ id = M.next + 13 := by omega
      simp [hid, e1]) (by simp [itemsS]) (by simp [srcFits]) (by simp [Sh.unif, hec]) (fun id hid => by
      have e1 : ¬ id = M.next + 13 := by omega
      simp [e1]) (by show M.next + 14 < M.next + 16; omega) (by show M.next ≤ M.next + 16; omega) (by omega)
  refine ⟨_, o', ?_, ⟨(p3 b hlt h.ne).trans hcb, by rw [p4]; show b < M.next + 16; omega, p2, fun e' a' c' hh => ?_⟩⟩
  · have nb : ¬ b = M.next + 13 := by omega
    have bl : bldS ES.P T_api_Heard [(0, .int .i64 jm), (2, .int .i64 v)] = some e := by rw [← hE]; simp [bldS, placesOf, buildS, splice]
    have bs : ∀ q, bldSl ES.P T_sl_api_Heard 1 q [(0, e)] = some (.own q 16 0 1, [e]) := fun q => by rw [← hE]; simp [bldSl, buildRow]
    simp (maxSteps := 4000000) [c_l12_GaugeAlike_B0, evW_reg, evW_chkr, isCst, loadS, partS, TK.agg, fieldAddrS, zeroS, storeS, setPart, splice, endS, resS, fieldS, h_l12_GaugeAlike_0, hlx, hj, hcb, hlt, hlk, hs1, hls, hbr, a1, a2, wv, convS, bl, bs, p1, hw]
  · rcases p5 b e' a' c' hh with h1 | h1
    · omega
    · exact h.ne e' a' c' (h1 ▸ hh)
set_option maxHeartbeats 4000000 in
theorem Alike_B1 {K : List SV} (hlk : K.length = 13) {e : Int} (he : ∀ get, callP (PCw ES) get n_bounds_Edge [.agg K] = some (.int .i64 e)) {za zb : SV} {A B : List Int} (hA : Nums za A) (hB : Nums zb B) (hl : A.length = B.length) (h40 : A.length ≤ 40)
    (hAb : ∀ j (h : j < A.length) (h2 : j < B.length), -10000000000 ≤ A[j] ∧ A[j] ≤ 10000000000 ∧ -10000000000 ≤ B[j] ∧ B[j] ≤ 10000000000 ∧ A[j] - B[j] < e ∧ B[j] - A[j] < e) {b : Nat} {M : Mem} (hcb : M.blk b = some [.agg K]) {j : Nat} (hj : j < A.length) :
    evW ES n_l12_GaugeAlike c_l12_GaugeAlike_B1 ⟨h_l12_GaugeAlike_1 (.ptr b 0 0) za zb (.int .i64 j), M⟩ = some (.normal, ⟨h_l12_GaugeAlike_1 (.ptr b 0 0) za zb (.int .i64 ((j + 1 : Nat) : Int)), M⟩) := by
  have hw : IntKind.i64.wrap ((j : Int) + 1) = (j : Int) + 1 := i64_in (by omega) (by omega)
  have hj2 : j < B.length := by omega
  have l1 := hA.lenS ti_sl_int64
  have a1 : indexAddrS ES.P T_sl_int64 za (.int .i64 j) = some (.rptr (A.map (SV.int .i64)) j 0 (stOf za)) := RSl.at (enc := SV.int .i64) hA ti_sl_int64 ti_int64 (fun _ => rfl) hj
  have a2 : (A.map (SV.int .i64))[j]? = some (.int .i64 A[j]) := by simp [hj]
  have b1 : indexAddrS ES.P T_sl_int64 zb (.int .i64 j) = some (.rptr (B.map (SV.int .i64)) j 0 (stOf zb)) := RSl.at (enc := SV.int .i64) hB ti_sl_int64 ti_int64 (fun _ => rfl) hj2
  have b2 : (B.map (SV.int .i64))[j]? = some (.int .i64 B[j]) := by simp [hj2]
  obtain ⟨q1, q2, q3, q4, q5, q6⟩ := hAb j hj hj2
  have w1 : IntKind.i64.wrap (A[j] - B[j]) = A[j] - B[j] := i64_in (by omega) (by omega)
  have w2 : IntKind.i64.wrap (B[j] - A[j]) = B[j] - A[j] := i64_in (by omega) (by omega)
  have c1 : ¬ e ≤ A[j] - B[j] := by omega
  have c2 : ¬ e ≤ B[j] - A[j] := by omega
  generalize A.map (SV.int .i64) = xs at a1 a2
  generalize B.map (SV.int .i64) = ys at b1 b2
  generalize A[j] = u at *
  generalize B[j] = v at *
  simp (maxSteps := 4000000) [c_l12_GaugeAlike_B1, evW_reg, evW_chkr, isCst, loadS, partS, TK.agg, fieldAddrS, zeroS, storeS, setPart, splice, endS, resS, fieldS, h_l12_GaugeAlike_1, l1, hj, a1, a2, b1, b2, hcb, hlk, he, w1, w2, c1, c2, hw]
theorem begins_own {K : List SV} {o : SV} {M : Mem} {items : List SV} {z y : SV} {k p : Int} (ho : OutR 16 o M items) (hnp : ∀ x ∈ items, Sh.np 11 x = true) (hK : np picDepth (.agg K) = true) (hy : pic M.blk false picDepth o = some y) (hny : Sh.np picDepth y = true)
    (h : ∀ get, callP (PCw ES) get n_gauge_Begins [.agg K, .int .i64 k, .int .i64 p, y] = some z) : callP (PCw ES) M.blk n_gauge_Begins [.agg K, .int .i64 k, .int .i64 p, o] = some z := by
  have := h M.blk
  have hp0 : ∀ f : Int, pic M.blk false picDepth (.int .i64 f) = some (.int .i64 f) := fun f => pic_np (np_of_pv rfl _)
  rw [callP_pic (ys := [.agg K, .int .i64 k, .int .i64 p, y]) (by simp [pic_np hny, pic_np hK, hp0])] at this
  rw [callP_pic (ys := [.agg K, .int .i64 k, .int .i64 p, y]) (by simp [hy, pic_np hK, hp0])]
  exact this
theorem hd_len {o : SV} {M : Mem} {items : List SV} (h : OutR 16 o M items) : lenS ES.P T_sl_api_Heard o = some (.int .i64 items.length) := by
  rcases h with ⟨rfl, rfl⟩ | ⟨id, rfl, _⟩ <;> simp [lenS]
set_option maxHeartbeats 16000000 in
theorem GaugeAlike_walk (xs0 xs1 xs2 xs3 : List SV) (h0 : WT ES.P 8 T_int xs0) (h1 : WT ES.P 8 T_uint8 xs1) (h2 : WT ES.P 8 T_a2_int xs2) (h3 : WT ES.P 8 T_sl_int32 xs3) :
    ∃ M', ICw ES n_l12_GaugeAlike [mkV ES.P T_int xs0, mkV ES.P T_uint8 xs1, mkV ES.P T_a2_int xs2, mkV ES.P T_sl_int32 xs3] .empty = some (.bool true, M') := by
  obtain ⟨n, _, e0, _⟩ := WT_int ti_int h0
  obtain ⟨u, _, e1, hu⟩ := WT_int ti_uint8 h1
  have e2 := (WT_arr ti_a2_int h2).1
  obtain ⟨p, q, rfl, _, _⟩ := a2_of h2
  obtain ⟨l, hx, hl32⟩ : ∃ l : List Int, RSl (fun y v => y = .int .i32 v) (mkV ES.P T_sl_int32 xs3) l ∧ (∀ v ∈ l, -2147483648 ≤ v ∧ v ≤ 2147483647) := by
    rcases WT_slice ti_sl_int32 ti_int32 h3 with ⟨e1, h⟩ | ⟨items, e1, h, hl, hi⟩
    · rw [h]; exact ⟨[], RSl.nil _, by simp⟩
    · rw [h]
      obtain ⟨l, hl2⟩ := RSl.exists (R := fun y (v : Int) => y = .int .i32 v ∧ -2147483648 ≤ v ∧ v ≤ 2147483647) (tl := .ro) (items := items) fun y hy => by
        obtain ⟨ys, rfl, hw⟩ := hi y hy
        obtain ⟨v, _, e, w⟩ := WT_int ti_int32 hw
        refine ⟨v, e, ?_⟩
        simp [Lit.wf, IntKind.min, IntKind.max, IntKind.bits, IntKind.signed] at w
        omega
      refine ⟨l, ⟨hl2.sl, hl2.len, fun j y a hy ha => (hl2.at' j y a hy ha).1⟩, fun v hv => ?_⟩
      obtain ⟨j, hj, rfl⟩ := List.mem_iff_getElem.1 hv
      obtain ⟨y, hy, hr⟩ := hl2.get hj
      exact hr.2
  rw [e0, e1, e2, b_l12_GaugeAlike]
  generalize mkV ES.P T_sl_int32 xs3 = x at *
  have hlx := hx.lenS ti_sl_int32
  obtain ⟨P, L, hm, hP⟩ := Made_c n
  have hpv := callPv (hm fun _ => none)
  have hfit := made_fit n
  have hrg := made_ranged n
  generalize madeC n = c at *
  have hu8 := wf8 hu
  obtain ⟨g1, g2, g3⟩ := fitG_spec.1 hfit
  have hin := outN_zero g2
  have hd := hin.dr
  have hcy := hin.cy
  have hfr := right_facts g1
  have hlenp := hP.p.lenS ti_sl_api_Part
  have x1 : IntKind.i64.wrap u = u := i64_in (by omega) (by omega)
  have x2 : IntKind.i64.wrap (-c.drift) = -c.drift := i64_in (by omega) (by omega)
  have hlk : (cfgC c P L).length = 13 := rfl
  have hK6' : (cfgC c P L)[6]? = some (.int .i64 c.drift) := rfl
  have hK0' : (cfgC c P L)[0]? = some P := rfl
  have hEdge := fun get => bounds_Edge_c get hP
  simp only [hrg, if_true, val_Edge] at hEdge
  have hBeg := fun k p => @gauge_Begins_c P L c hP hpv k p
  have hSlots := fun k => r5_Slots_c hP k
  have hnK := hP.npA
  generalize cfgC c P L = K at *
  have hK6 : K[6]'(by omega) = .int .i64 c.drift := by simpa [hlk] using hK6'
  have hK0 : K[0]'(by omega) = P := by simpa [hlk] using hK0'
  by_cases c1 : 40 < (l.length : Int)
  · simp (maxSteps := 4000000) [c_l12_GaugeAlike, evW_reg, evW_chkr, isCst, loadS, partS, TK.agg, fieldAddrS, zeroS, storeS, setPart, splice, endS, resS, fieldS, hlx, c1]
  by_cases c2 : p < -c.drift
  · simp (maxSteps := 4000000) [c_l12_GaugeAlike, evW_reg, evW_chkr, isCst, loadS, partS, TK.agg, fieldAddrS, zeroS, storeS, setPart, splice, endS, resS, fieldS, hlx, c1, hm, hlk, hK6, x2, c2]
  by_cases c3 : c.drift < p
  · simp (maxSteps := 4000000) [c_l12_GaugeAlike, evW_reg, evW_chkr, isCst, loadS, partS, TK.agg, fieldAddrS, zeroS, storeS, setPart, splice, endS, resS, fieldS, hlx, c1, hm, hlk, hK6, x2, c2, c3]
  by_cases c4 : q < -c.drift
  · simp (maxSteps := 4000000) [c_l12_GaugeAlike, evW_reg, evW_chkr, isCst, loadS, partS, TK.agg, fieldAddrS, zeroS, storeS, setPart, splice, endS, resS, fieldS, hlx, c1, hm, hlk, hK6, x2, c2, c3, c4]
  by_cases c5 : c.drift < q
  · simp (maxSteps := 4000000) [c_l12_GaugeAlike, evW_reg, evW_chkr, isCst, loadS, partS, TK.agg, fieldAddrS, zeroS, storeS, setPart, splice, endS, resS, fieldS, hlx, c1, hm, hlk, hK6, x2, c2, c3, c4, c5]
  obtain ⟨k, hk1, hk2⟩ : ∃ k : Int, u.tmod c.parts.length = k ∧ 0 ≤ k ∧ k < c.parts.length := ⟨_, rfl, Int.tmod_nonneg _ hu8.1, Int.tmod_lt_of_pos _ (by omega)⟩
  have hbr : binS ES.P .rem T_int false (.int .i64 u) (.int .i64 c.parts.length) = some (.int .i64 k) := by rw [← hk1]; exact binS_rem (by omega)
  have hinf : inFit c k = true := by
    have : inMany k c.parts.length := hk2
    simp [inFit, hfit, this]
  obtain ⟨s, s1, s2, _⟩ := hSlots k
  have hsl : slotsG c k = slotsL c k := by simp [slotsG, hinf]
  have hb48 := slotsG_le c k
  obtain ⟨s3, s4⟩ := slots_in hinf
  rw [hsl] at s2 hb48
  have hB1 := hBeg k
  rw [hsl] at hB1
  generalize slotsL c k = sl at *
  obtain ⟨r, l1, Ma, o, rfl, hI⟩ := loop_st (E := ES) (me := n_l12_GaugeAlike) (B := c_l12_GaugeAlike_B0) (β := SV) (len := l.length) (T := fun j o => h_l12_GaugeAlike_0 x (.ptr 4 0 0) (.int .i64 p) (.int .i64 q) (.int .i64 k) o (.int .i64 j))
    (I := fun j o M => AlI K 4 o ((List.range j).map fun i => hdE (hdZ sl.length l i)) M)
    (Q := fun r => ∃ M' o, r = (.exit 0, ⟨(h_l12_GaugeAlike_0 x (.ptr 4 0 0) (.int .i64 p) (.int .i64 q) (.int .i64 k) o (.int .i64 l.length)).set 65 (.bool false), M'⟩) ∧ AlI K 4 o ((List.range l.length).map fun i => hdE (hdZ sl.length l i)) M')
    (fun j o M hj hI => by
      left
      obtain ⟨M', o', a1, a2⟩ := Alike_B0 hlk s1 s2 s3 hx hl32 (by omega) (.int .i64 p) (.int .i64 q) hj hI
      exact ⟨o', M', a1, a2⟩)
    (fun o M hI => ⟨_, by simp [c_l12_GaugeAlike_B0, evW_reg, evW_chkr, isCst, TK.agg, zeroS, endS, resS, h_l12_GaugeAlike_0, hlx], by simp, M, o, rfl, hI⟩) 0 .nilsl ((((Mem.empty.bump 2).set 0 (some [.agg [.int .i64 p, .int .i64 q]])).bump 4).set 4 (some [.agg K])) (by omega)
    ⟨by simp, by show 4 < 6; omega, .inl ⟨rfl, rfl⟩, fun _ _ _ h => by cases h⟩
  simp [h_l12_GaugeAlike_0] at l1
  have hcb := hI.hc
  have hit : ((List.range l.length).map fun i => hdE (hdZ sl.length l i)) = ((List.range l.length).map (hdZ sl.length l)).map hdE := by rw [List.map_map]; rfl
  have hnp : ∀ y ∈ ((List.range l.length).map fun i => hdE (hdZ sl.length l i)), Sh.np 11 y = true := fun y hy => by
    simp only [List.mem_map] at hy
    obtain ⟨i, _, rfl⟩ := hy
    exact np_le (by decide) (hdE_np _ _ i)
  have hlo := hd_len hI.ho
  simp only [List.length_map, List.length_range] at hlo
  obtain ⟨y, y1, y2, y3, y4⟩ := hI.ho.pic hnp
  rw [hit] at y3
  have hys := heardsZ (n := sl.length) (m := l.length) (ts := l) y2 y3
  obtain ⟨za, za1, za2⟩ := hB1 p hys (by simp; omega)
  obtain ⟨zb, zb1, zb2⟩ := hB1 q hys (by simp; omega)
  rw [starts_hdZ s3 hcy.2 s4 (by omega) hl32] at za2 zb2
  have qa := begins_own hI.ho hnp hnK y1 y4 za1
  have qb := begins_own hI.ho hnp hnK y1 y4 zb1
  have la := za2.lenS ti_sl_int64
  have lb := zb2.lenS ti_sl_int64
  simp only [List.length_map, List.length_range] at la lb
  have hAb : ∀ j (h : j < ((List.range l.length).map (begV sl p l)).length) (h2 : j < ((List.range l.length).map (begV sl q l)).length), -10000000000 ≤ ((List.range l.length).map (begV sl p l))[j] ∧ ((List.range l.length).map (begV sl p l))[j] ≤ 10000000000 ∧ -10000000000 ≤ ((List.range l.length).map (begV sl q l))[j] ∧ ((List.range l.length).map (begV sl q l))[j] ≤ 10000000000 ∧
      ((List.range l.length).map (begV sl p l))[j] - ((List.range l.length).map (begV sl q l))[j] < edgeN c ∧ ((List.range l.length).map (begV sl q l))[j] - ((List.range l.length).map (begV sl p l))[j] < edgeN c := fun j h h2 => by
    simp only [List.getElem_map, List.getElem_range]
    have hj : j < l.length := by simpa using h
    have hlt : j % sl.length < sl.length := Nat.mod_lt _ s3
    obtain ⟨i, ei, hi, e2⟩ := slotAt_in (l := sl) (i := ((j % sl.length : Nat) : Int)) (by omega) (by omega)
    have hst := s4 _ (List.getElem_mem hi)
    rw [← e2] at hst
    have hv := hl32 _ (List.getElem_mem hj)
    have ev : l.getD j 0 = l[j] := by simp [hj]
    unfold begV
    rw [ev]
    generalize (slotAt sl ((j % sl.length : Nat) : Int)).tick = t at *
    have d1 := beg_diff (t := t) (p := p) (q := q) (D := c.drift) (C := c.cycle) hst (by omega) (by omega) hd.1
    have d2 := beg_diff (t := t) (p := q) (q := p) (D := c.drift) (C := c.cycle) hst (by omega) (by omega) hd.1
    have m1 := mul_abs (x := t) (p := p) (a := 1000000) (b := 1000000) (by omega) (by omega) (by omega) (by omega)
    have m2 := mul_abs (x := t) (p := q) (a := 1000000) (b := 1000000) (by omega) (by omega) (by omega) (by omega)
    unfold edgeN
    omega
  obtain ⟨r, l2, M', g2⟩ := loop_up (E := ES) (me := n_l12_GaugeAlike) (B := c_l12_GaugeAlike_B1) (len := l.length) (T := fun j => h_l12_GaugeAlike_1 (.ptr 4 0 0) za zb (.int .i64 j)) (I := fun _ M => M.blk 4 = some [.agg K])
    (Q := fun r => ∃ M', r = (.exit 2, ⟨(h_l12_GaugeAlike_1 (.ptr 4 0 0) za zb (.int .i64 l.length)).set 108 (.bool false), M'⟩))
    (fun j M hj hI => by
      left
      exact ⟨M, Alike_B1 hlk hEdge za2 zb2 (by simp) (by simp; omega) hAb hI (by simpa using hj), hI⟩)
    (fun M hI => ⟨_, by simp [c_l12_GaugeAlike_B1, evW_reg, evW_chkr, isCst, TK.agg, zeroS, endS, resS, h_l12_GaugeAlike_1, la], by simp, M, rfl⟩) 0 Ma (by omega) hcb
  subst g2
  simp [h_l12_GaugeAlike_1] at l2
  simp (maxSteps := 4000000) [c_l12_GaugeAlike, evW_reg, evW_chkr, isCst, loadS, partS, TK.agg, fieldAddrS, zeroS, storeS, setPart, splice, endS, resS, fieldS, hlx, c1, hm, hlk, hK6, hK0, hlenp, x1, x2, c2, c3, c4, c5, hbr, c_l12_GaugeAlike_L0, c_l12_GaugeAlike_L1, l1, hcb, qa, qb, la, lb, hlo, l2]

end Go.Proofs.YtomlbmbgocmiiaaGreatDoor
