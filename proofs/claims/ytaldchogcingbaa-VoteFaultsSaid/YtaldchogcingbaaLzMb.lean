/-
  Walks of the seat's functions: Vc.
-/
import Derived.Test.YtaldchogcingbaaEb0
import Derived.Test.YtaldchogcingbaaShMb
import Derived.Test.YtaldchogcingbaaLzMa
import Derived.Test.YtaldchogcingbaaLAp
set_option linter.unusedVariables false
set_option linter.unusedSimpArgs false
set_option maxRecDepth 100000
namespace Go.Proofs.Ytaldchogcingbaa
open Go.Proofs.Ytaldchogcingbaa.Sh
/-! Frames of a kind. -/
theorem RSl.snoc {α : Type} {R : SV → α → Prop} {items : List SV} {tl : Tl} {l : List α} {y : SV} {h : α} (hl : RSl R (.sl items tl) l) (hy : R y h) : RSl R (.sl (items ++ [y]) tl) (l ++ [h]) := by
  refine ⟨rfl, by have := hl.len; simp [its] at this ⊢; exact this, fun j u a hu ha => ?_⟩
  have hlen := hl.len
  simp only [its] at hlen hu
  rw [List.getElem?_append] at hu ha
  rw [← hlen] at ha
  split at hu
  · rename_i hlt
    rw [if_pos hlt] at ha
    exact hl.at' j u a hu ha
  · rename_i hlt
    rw [if_neg hlt] at ha
    have : j - items.length = 0 := by
      have := (List.getElem?_eq_some_iff.1 hu).1
      simp at this
      omega
    rw [this] at hu ha
    simp at hu ha
    subst hu ha
    exact hy
theorem RSl.nil' {α : Type} {R : SV → α → Prop} {tl : Tl} : RSl R (.sl [] tl) [] := ⟨rfl, rfl, fun j u a hu ha => by simp at ha⟩
theorem RSl.out {α : Type} {R : SV → α → Prop} {y : SV} {items : List SV} {l : List α} (h : RSl R (.sl items .ro) l) (h1 : isSl y = true) (h2 : its y = items) : RSl R y l :=
  ⟨h1, by rw [h2]; exact h.len, fun j u a hu ha => h.at' j u a (by show items[j]? = _; rw [← h2]; exact hu) ha⟩
theorem RSl.mem {α : Type} {R : SV → α → Prop} {items : List SV} {l : List α} (h : RSl R (.sl items .ro) l) {y : SV} (hy : y ∈ items) : ∃ a, a ∈ l ∧ R y a := by
  obtain ⟨j, hj, rfl⟩ := List.mem_iff_getElem.1 hy
  have hlen : items.length = l.length := h.len
  exact ⟨l[j], List.getElem_mem (by omega), h.at' j items[j] l[j] (by show items[j]? = _; simp [hj]) (by simp [show j < l.length by omega])⟩
/-- One item more behind a list of the call's own. -/
theorem appOneG {T e s1 b1 : Nat} {z1 : Option SV} {te : TI} {z : SV} (ht : tiOf ES.P T = some ⟨.slice e, s1, b1, z1⟩) (hte : tiOf ES.P e = some te) (hz : te.zero = some z) (h0 : 0 < te.size) (hsz : z.sto = true) (hc : z.cells.length = te.size)
    {o : SV} {M X : Mem} {items : List SV} {y : SV} (hI : OutR te.size o M items) (hy : y.cells.length = te.size) (hb : te.bytes ≤ 1000) (h1 : items.length ≤ 1000000) (hX : Old M X) (hn : M.next ≤ X.next) (A s t : Nat) (ht2 : t < A) (hst : s ≤ t) {get : Nat → Option (List SV)} (hg : ∀ id, id < X.next → get id = X.blk id) (hgs : get (X.next + s) = some [y]) :
    ∃ o' k M1, appendS ES.P get (X.next + t) T T o (.own (X.next + s) te.size 0 1) = some (o', k) ∧ ((X.bump A).set (X.next + s) (some [y])).sets k = M1 ∧ OutR te.size o' M1 (items ++ [y]) ∧ Keeps o X M1 ∧ M1.next = X.next + A ∧ (∀ id e a b, o' = .own id e a b → X.next ≤ id ∨ o' = o) := by
  have hmul : (items.length + 1) * te.bytes ≤ 140737488355328 := by
    have := Nat.mul_le_mul (show items.length + 1 ≤ 1000001 by omega) hb
    omega
  obtain ⟨o', k, p1, p2, p3, p4, p5⟩ := OutR.nextS (P := ES.P) (te := te) (get := get) (o := o) (x := .own (X.next + s) te.size 0 1) (M := X) (items := items) (ys := [y]) (X := (X.bump A).set (X.next + s) (some [y])) (a := X.next + t) ht hte hz h0 hsz hc (hI.old hX hn) hmul (by show items.length + 1 ≤ _; omega)
    hg (by simp [itemsS, hgs]) (by simp [srcFits]) (by simp [Sh.unif, hy]) (fun id hid => by
      have e : ¬ id = X.next + s := by omega
      simp [e]) (by show X.next + t < X.next + A; omega) (by show X.next ≤ X.next + A; omega) (by omega)
  exact ⟨o', k, _, p1, rfl, p2, p3, by rw [p4]; rfl, p5⟩
theorem appOne {T e s1 b1 : Nat} {z1 : Option SV} {te : TI} {z : SV} (ht : tiOf ES.P T = some ⟨.slice e, s1, b1, z1⟩) (hte : tiOf ES.P e = some te) (hz : te.zero = some z) (h0 : 0 < te.size) (hsz : z.sto = true) (hc : z.cells.length = te.size)
    {o : SV} {M X : Mem} {items : List SV} {y : SV} (hI : OutR te.size o M items) (hy : y.cells.length = te.size) (hb : te.bytes ≤ 1000) (h1 : items.length ≤ 1000000) (hX : Old M X) (hn : M.next ≤ X.next) (A s t : Nat) (ht2 : t < A) (hst : s ≤ t) :
    ∃ o' k M1, appendS ES.P ((X.bump A).set (X.next + s) (some [y])).blk (X.next + t) T T o (.own (X.next + s) te.size 0 1) = some (o', k) ∧ ((X.bump A).set (X.next + s) (some [y])).sets k = M1 ∧ OutR te.size o' M1 (items ++ [y]) ∧ Keeps o X M1 ∧ M1.next = X.next + A ∧ (∀ id e a b, o' = .own id e a b → X.next ≤ id ∨ o' = o) :=
  appOneG ht hte hz h0 hsz hc hI hy hb h1 hX hn A s t ht2 hst (fun id hid => by
      have e : ¬ id = X.next + s := by omega
      simp [e]) (by simp)
theorem filter_take {α : Type} (p : α → Bool) {l : List α} {j : Nat} (h : j < l.length) : (l.take (j + 1)).filter p = (l.take j).filter p ++ (if p l[j] then [l[j]] else []) := by
  rw [List.take_succ_eq_append_getElem h, List.filter_append]
  cases hp : p l[j] <;> simp [hp]
theorem zHeard : (⟨.struct [(T_int, 0), (T_api_Frame, 1), (T_int64, 15)], 16, 160, some (.agg [.int .i64 0, .int .i64 0, .int .i64 0, .int .i64 0, .int .i64 0, .int .i64 0, .int .i64 0, .bool false, .int .i64 0, .int .i64 0, .nilsl, .int .i64 0, .int .i64 0, .int .i64 0, .nilsl, .int .i64 0])⟩ : TI).zero = some (.agg [.int .i64 0, .int .i64 0, .int .i64 0, .int .i64 0, .int .i64 0, .int .i64 0, .int .i64 0, .bool false, .int .i64 0, .int .i64 0, .nilsl, .int .i64 0, .int .i64 0, .int .i64 0, .nilsl, .int .i64 0]) := rfl
theorem hdApp {o : SV} {M X : Mem} {items : List SV} {h : Heard} {A B : SV} (hI : OutR 16 o M items) (h1 : items.length ≤ 1000000) (hX : Old M X) (hn : M.next ≤ X.next) (D s t : Nat) (ht2 : t < D) (hst : s ≤ t) :
    ∃ o' k M1, appendS ES.P ((X.bump D).set (X.next + s) (some [.agg (hdC h A B)])).blk (X.next + t) T_sl_api_Heard T_sl_api_Heard o (.own (X.next + s) 16 0 1) = some (o', k) ∧ ((X.bump D).set (X.next + s) (some [.agg (hdC h A B)])).sets k = M1 ∧ OutR 16 o' M1 (items ++ [.agg (hdC h A B)]) ∧ Keeps o X M1 ∧ M1.next = X.next + D ∧ (∀ id e a b, o' = .own id e a b → X.next ≤ id ∨ o' = o) :=
  appOne ti_sl_api_Heard ti_api_Heard zHeard (by decide) rfl rfl hI rfl (by decide) h1 hX hn D s t ht2 hst
theorem conApp {o : SV} {M X : Mem} {items : List SV} {v : Int} {A : SV} (hI : OutR 2 o M items) (h1 : items.length ≤ 1000000) (hX : Old M X) (hn : M.next ≤ X.next) (D s t : Nat) (ht2 : t < D) (hst : s ≤ t) :
    ∃ o' k M1, appendS ES.P ((X.bump D).set (X.next + s) (some [.agg [.int .i64 v, A]])).blk (X.next + t) T_sl_api_Content T_sl_api_Content o (.own (X.next + s) 2 0 1) = some (o', k) ∧ ((X.bump D).set (X.next + s) (some [.agg [.int .i64 v, A]])).sets k = M1 ∧ OutR 2 o' M1 (items ++ [.agg [.int .i64 v, A]]) ∧ Keeps o X M1 ∧ M1.next = X.next + D ∧ (∀ id e a b, o' = .own id e a b → X.next ≤ id ∨ o' = o) :=
  appOne (te := ⟨.struct [(T_int64, 0), (T_sl_int, 1)], 2, 32, some (.agg [.int .i64 0, .nilsl])⟩) ti_sl_api_Content ti_api_Content rfl (by decide) rfl rfl hI rfl (by decide) h1 hX hn D s t ht2 hst
theorem conAppL {o : SV} {M X : Mem} {items : List SV} {v : Int} {A : SV} (hI : OutR 2 o M items) (h1 : items.length ≤ 1000000) (hX : Old M X) (hn : M.next ≤ X.next) (D s t : Nat) (ht2 : t < D) (hst : s ≤ t) (L : List Nat) (hL : L.contains s = true) :
    ∃ o' k M1, appendS ES.P (seenM ((X.bump D).set (X.next + s) (some [.agg [.int .i64 v, A]])) X.next D (some L)) (X.next + t) T_sl_api_Content T_sl_api_Content o (.own (X.next + s) 2 0 1) = some (o', k) ∧ ((X.bump D).set (X.next + s) (some [.agg [.int .i64 v, A]])).sets k = M1 ∧ OutR 2 o' M1 (items ++ [.agg [.int .i64 v, A]]) ∧ Keeps o X M1 ∧ M1.next = X.next + D ∧ (∀ id e a b, o' = .own id e a b → X.next ≤ id ∨ o' = o) :=
  appOneG (te := ⟨.struct [(T_int64, 0), (T_sl_int, 1)], 2, 32, some (.agg [.int .i64 0, .nilsl])⟩) ti_sl_api_Content ti_api_Content rfl (by decide) rfl rfl hI rfl (by decide) h1 hX hn D s t ht2 hst (fun id hid => by
      have e : ¬ id = X.next + s := by omega
      simp [hid, e]) (by have h9 : s ∈ L := by simpa using hL
                         simp [h9])
theorem Heards.npE {x : SV} {l : List Heard} (h : Heards x l) : Sh.np picDepth x = true := RSl.npE h elmHd
def HdsO (x : SV) (l : List Heard) : Prop := RSl HdO x l
theorem HdsO.r {x : SV} {l : List Heard} (h : HdsO x l) : Heards x l := ⟨h.sl, h.len, fun j y a hy ha => (h.at' j y a hy ha).r⟩
def kindG (l : List Heard) (kd : Int) : List Heard := l.filter fun h => decide (h.f.kind = kd)
def hdsOk (l : List Heard) : Prop := l.length ≤ 100000 ∧ ∀ h ∈ l, hdOk h
theorem bldHd (h : Heard) (A B : SV) (hA : A.cells.length = 1) (hB : B.cells.length = 1) (sA : A.sto = true) (sB : B.sto = true) (q : Nat) : bldSl ES.P T_sl_api_Heard 1 q [(0, .agg (hdC h A B))] = some (.own q 16 0 1, [.agg (hdC h A B)]) := by
  simp [bldSl, buildRow, hdC]
set_option maxHeartbeats 8000000 in
theorem vote_Kind_c {x : SV} {l : List Heard} (hx : Heards x l) (hk : hdsOk l) (kd : Int) : ∃ z, (∀ get, callP (PCw ES) get n_vote_Kind [x, .int .i64 kd] = some z) ∧ HdsO z (kindG l kd) ∧ Sh.pv z = true := by
  have hlx := hx.lenS ti_sl_api_Heard
  obtain ⟨hk1, hk2⟩ := hk
  obtain ⟨z, items, h1, h2, h3, h4, h5⟩ := PCw_out (E := ES) (f := n_vote_Kind) (esz := 16) (args := [x, .int .i64 kd]) (Pr := fun items => HdsO (.sl items .ro) (kindG l kd)) (fun M0 => by
    rw [b_vote_Kind]
    obtain ⟨r, g1, Ma, o, items, rfl, hO, hit⟩ := loop_st (E := ES) (me := n_vote_Kind) (B := c_vote_Kind_B0) (β := SV × List SV) (len := l.length) (T := fun j o => h_vote_Kind_0 (.int .i64 kd) o.1 x (.int .i64 l.length) (.int .i64 j))
      (I := fun j o M => OutR 16 o.1 M o.2 ∧ HdsO (.sl o.2 .ro) (kindG (l.take j) kd))
      (Q := fun r => ∃ M' o items, r = (.exit 0, ⟨(h_vote_Kind_0 (.int .i64 kd) o x (.int .i64 l.length) (.int .i64 l.length)).set 11 (.bool false), M'⟩) ∧ OutR 16 o M' items ∧ HdsO (.sl items .ro) (kindG l kd))
      (fun j o M hj ⟨i1, i2⟩ => by
        left
        obtain ⟨o, items⟩ := o
        simp only at i1 i2
        obtain ⟨u, hu0, hu, hi, _⟩ := hx.item ti_sl_api_Heard ti_api_Heard elmHd hj
        have hw : IntKind.i64.wrap ((j : Int) + 1) = (j : Int) + 1 := i64_in (by omega) (by omega)
        obtain ⟨y', y1, y2⟩ := vote_clone_c hu0 (hk2 _ (List.getElem_mem hj))
        obtain ⟨A, B, rfl, hA, hB⟩ := hu0
        have hil : items.length ≤ 1000000 := by
          have h1 := i2.len
          have h2 := List.length_filter_le (fun h : Heard => decide (h.f.kind = kd)) (l.take j)
          simp [its, kindG] at h1 h2
          omega
        unfold kindG at i2 ⊢
        rw [filter_take _ hj]
        generalize l[j] = h at *
        obtain ⟨X, eX⟩ : ∃ X, X = (M.bump 4).set (M.next + 2) (some [.agg (hdC h A B)]) := ⟨_, rfl⟩
        have hXn : X.next = M.next + 4 := by rw [eX]; rfl
        have hX : Old M X := fun id hid => by
          have q1 : ¬ id = M.next + 2 := by omega
          simp [eX, q1]
        by_cases hc : h.f.kind = kd
        · obtain ⟨A', B', rfl, hA', hB', pA, pB⟩ := y2
          obtain ⟨o', k, M1, p1, p2, p3, _⟩ := hdApp (h := h) (A := A') (B := B') i1 hil hX (by omega) 6 3 4 (by decide) (by decide)
          have bs := bldHd h A' B' (by rw [sl_cells hA'.sl]; rfl) (by rw [sl_cells hB'.sl]; rfl) (sl_sto hA'.sl) (sl_sto hB'.sl)
          rw [hXn] at p1 p2
          rw [eX] at p1 p2
          refine ⟨(o', items ++ [.agg (hdC h A' B')]), M1, ?_, p3, ?_⟩
          · simp only [hdC, hc] at hu y1 p1 p2 bs ⊢
            simp (maxSteps := 4000000) [c_vote_Kind_B0, evW_reg, evW_chkr, evW_chfr, isCst, loadS, partS, TK.agg, fieldAddrS, zeroS, storeS, setPart, splice, endS, resS, fieldS, h_vote_Kind_0, hj, hi, hu, hw, hc, y1, bs, p1, p2, Mem.set2, sl_cells hA.sl, sl_sto hA.sl, sl_cells hB.sl, sl_sto hB.sl]
          · simp only [hc, decide_true, if_true]
            exact RSl.snoc i2 ⟨A', B', rfl, hA', hB', pA, pB⟩
        · refine ⟨(o, items), X, ?_, i1.old hX (by omega), by simpa [hc] using i2⟩
          simp only [hdC] at hu eX
          rw [eX]
          simp (maxSteps := 4000000) [c_vote_Kind_B0, evW_reg, evW_chkr, evW_chfr, isCst, loadS, partS, TK.agg, fieldAddrS, zeroS, storeS, setPart, splice, endS, resS, fieldS, h_vote_Kind_0, hj, hi, hu, hw, hc, Mem.set2, sl_cells hA.sl, sl_sto hA.sl, sl_cells hB.sl, sl_sto hB.sl])
      (fun o M ⟨i1, i2⟩ => ⟨_, by simp [c_vote_Kind_B0, evW_reg, evW_chkr, evW_chfr, isCst, TK.agg, zeroS, endS, resS, h_vote_Kind_0], by simp, M, o.1, o.2, rfl, i1, by rwa [List.take_length] at i2⟩) 0 (.nilsl, []) M0 (by omega) ⟨.inl ⟨rfl, rfl⟩, RSl.nil'⟩
    simp [h_vote_Kind_0] at g1
    refine ⟨o, Ma, items, ?_, hO, hit⟩
    simp [c_vote_Kind, evW_reg, evW_chkr, evW_chfr, isCst, TK.agg, zeroS, endS, resS, hlx, c_vote_Kind_L0, g1]) (fun items h y hy => by
      obtain ⟨a, _, ha⟩ := RSl.mem h hy
      exact ha.pv)
  exact ⟨z, fun get => callP_of h1 (by simp [hx.npE]), RSl.out h2 h3 h4, h5⟩

end Go.Proofs.Ytaldchogcingbaa

/-
  Walks of the seat's functions: Vd.
-/
set_option linter.unusedVariables false
set_option linter.unusedSimpArgs false
set_option maxRecDepth 100000
namespace Go.Proofs.Ytaldchogcingbaa
open Go.Proofs.Ytaldchogcingbaa.Sh
/-! Which frames back what wins. -/
theorem cnt_pos {l : List Cn} {i : Nat} (h : i < l.length) : 0 < cnt l[i] l := by
  unfold cnt
  exact List.countP_pos_iff.2 ⟨l[i], List.getElem_mem h, by simp⟩
theorem winUp_spec {l : List Cn} : ∀ j, j ≤ l.length → (∀ i (h : i < l.length), i < j → cnt l[i] l ≤ (winUp l j).2 ∧ (cnt l[i] l = (winUp l j).2 → (winUp l j).1 ≤ i)) ∧
    (0 < j → ∃ a, ∃ h : a < l.length, a < j ∧ (winUp l j).1 = (a : Int) ∧ cnt l[a] l = (winUp l j).2)
  | 0, _ => ⟨fun i _ h => by omega, fun h => by omega⟩
  | j + 1, hj => by
    obtain ⟨h1, h2⟩ := winUp_spec (l := l) j (by omega)
    have hs := winUp_succ (l := l) (j := j) (by omega)
    by_cases hc : cnt l[j] l > (winUp l j).2
    · rw [if_pos hc] at hs
      rw [hs]
      refine ⟨fun i hi hij => ?_, fun _ => ⟨j, by omega, by omega, rfl, rfl⟩⟩
      rcases Nat.lt_or_ge i j with h | h
      · have := (h1 i hi h).1
        refine ⟨by simp only; omega, fun he => ?_⟩
        simp only at he
        omega
      · obtain rfl : i = j := by omega
        exact ⟨Nat.le_refl _, fun _ => Int.le_refl _⟩
    · rw [if_neg hc] at hs
      rw [hs]
      have hp := cnt_pos (l := l) (i := j) (by omega)
      have hj0 : 0 < j := by
        rcases Nat.eq_zero_or_pos j with h | h
        · subst h
          simp [winUp] at hc
          omega
        · exact h
      obtain ⟨a, ha, haj, e1, e2⟩ := h2 hj0
      refine ⟨fun i hi hij => ?_, fun _ => ⟨a, ha, by omega, e1, e2⟩⟩
      rcases Nat.lt_or_ge i j with h | h
      · exact h1 i hi h
      · obtain rfl : i = j := by omega
        exact ⟨by omega, fun _ => by omega⟩
def conOf (h : Heard) : Cn := (h.f.cycle, h.f.ages)
/-- The contents among which one wins. -/
def consOf (l : List Heard) : List Cn := l.map conOf
def winner (l : List Heard) : Option Cn := (consOf l)[(winUp (consOf l) (consOf l).length).1.toNat]?
def isWin (ks : List Heard) (h : Heard) : Bool := decide (winner ks = some (conOf h))
/-- Those that back what wins. -/
def backG (l : List Heard) : List Heard := (kindG l 2).filter (isWin (kindG l 2))
theorem kind_ok {l : List Heard} (h : hdsOk l) (kd : Int) : hdsOk (kindG l kd) := ⟨Nat.le_trans (List.length_filter_le _ _) h.1, fun x hx => h.2 x (List.mem_filter.1 hx).1⟩
theorem win_at {ks : List Heard} (h : 0 < ks.length) : ∃ a, ∃ ha : a < ks.length, (winUp (consOf ks) (consOf ks).length).1 = (a : Int) ∧ winner ks = some (conOf ks[a]) := by
  have hl : (consOf ks).length = ks.length := by simp [consOf]
  obtain ⟨a, ha, _, e, _⟩ := (winUp_spec (l := consOf ks) (consOf ks).length (Nat.le_refl _)).2 (by omega)
  have ha' : a < ks.length := by omega
  refine ⟨a, ha', e, ?_⟩
  unfold winner
  rw [e]
  simp [consOf, ha']
theorem cons_snap {id : Nat} {items : List SV} {cs : List Cn} {M : Mem} (h : M.blk id = some items) (hc : Cons (.sl items .ro) cs) : pic M.blk false picDepth (.own id 2 0 items.length) = some (.sl items .snap) := by
  rw [pic_snap h (Nat.le_refl _) (fun u hu => by
    obtain ⟨a, _, ha⟩ := RSl.mem hc hu
    exact np_le (by decide) ha.np)]
  simp
theorem win_out {o : SV} {M : Mem} {items : List SV} {cs : List Cn} (ho : OutR 2 o M items) (hc : Cons (.sl items .ro) cs) (f : Nat) (r : SV) (hf : ∀ x, Cons x cs → PCw ES f [x] = some r) : callP (PCw ES) M.blk f [o] = some r := by
  rcases ho with ⟨rfl, rfl⟩ | ⟨id, rfl, hid, _⟩
  · exact callP_of (hf _ ⟨rfl, hc.len, fun j y a h => by simp [its] at h⟩) rfl
  · rw [callP_pic (ys := [.sl items .snap]) (by simp [cons_snap hid hc])]
    exact hf _ (hc.of_its rfl rfl)
set_option maxHeartbeats 8000000 in
theorem Backers_L0 {y : SV} {ks : List Heard} (hy : Heards y ks) (hk : hdsOk ks) (M : Mem) : ∃ o M' items,
    evW ES n_vote_Backers c_vote_Backers_L0 ⟨h_vote_Backers_0 y .nilsl y (.int .i64 ks.length) (.int .i64 0), M⟩ = some (.exit 0, ⟨(h_vote_Backers_0 y o y (.int .i64 ks.length) (.int .i64 ks.length)).set 16 (.bool false), M'⟩) ∧
      OutR 2 o M' items ∧ Cons (.sl items .ro) (consOf ks) := by
  obtain ⟨hk1, hk2⟩ := hk
  obtain ⟨r, g1, o, M', items, rfl, h2, h3⟩ := loop_st (E := ES) (me := n_vote_Backers) (B := c_vote_Backers_B0) (β := SV) (len := ks.length) (T := fun j o => h_vote_Backers_0 y o y (.int .i64 ks.length) (.int .i64 j))
    (I := fun j o M => ∃ items, OutR 2 o M items ∧ Cons (.sl items .ro) (consOf (ks.take j)))
    (Q := fun r => ∃ o M' items, r = (.exit 0, ⟨(h_vote_Backers_0 y o y (.int .i64 ks.length) (.int .i64 ks.length)).set 16 (.bool false), M'⟩) ∧ OutR 2 o M' items ∧ Cons (.sl items .ro) (consOf ks))
    (fun j o M hj ⟨items, i1, i2⟩ => by
      left
      obtain ⟨u, ⟨A, B, rfl, hA, hB⟩, hu, hi, _⟩ := hy.item ti_sl_api_Heard ti_api_Heard elmHd hj
      have hw : IntKind.i64.wrap ((j : Int) + 1) = (j : Int) + 1 := i64_in (by omega) (by omega)
      have hil : items.length ≤ 1000000 := by
        have h1 := i2.len
        simp [its, consOf] at h1
        omega
      have hf : consOf (ks.take (j + 1)) = consOf (ks.take j) ++ [conOf ks[j]] := by
        unfold consOf
        rw [List.take_succ_eq_append_getElem hj, List.map_append]
        rfl
      obtain ⟨y', y1, ⟨A', rfl, a1, a2⟩, _⟩ := vote_Of_c hA hB (hk2 _ (List.getElem_mem hj)).1
      rw [hf]
      generalize ks[j] = h at *
      obtain ⟨X, eX⟩ : ∃ X, X = (M.bump 4).set (M.next + 2) (some [.agg (hdC h A B)]) := ⟨_, rfl⟩
      have hXn : X.next = M.next + 4 := by rw [eX]; rfl
      have hX : Old M X := fun id hid => by
        have q1 : ¬ id = M.next + 2 := by omega
        simp [eX, q1]
      obtain ⟨o', k, M1, p1, p2, p3, _⟩ := conApp (v := h.f.cycle) (A := A') i1 hil hX (by omega) 7 4 5 (by decide) (by decide)
      have bs : ∀ q, bldSl ES.P T_sl_api_Content 1 q [(0, .agg [.int .i64 h.f.cycle, A'])] = some (.own q 2 0 1, [.agg [.int .i64 h.f.cycle, A']]) := fun q => by
        have e1 : A'.cells.length = 1 := by rw [sl_cells a1.sl]; rfl
        simp [bldSl, buildRow, e1, sl_sto a1.sl]
      rw [hXn] at p1 p2
      rw [eX] at p1 p2
      refine ⟨o', M1, ?_, _, p3, RSl.snoc i2 ⟨A', rfl, a1, a2⟩⟩
      simp only [hdC, frC] at hu y1 p1 p2
      simp (maxSteps := 4000000) [c_vote_Backers_B0, evW_reg, evW_chkr, evW_chfr, isCst, loadS, partS, TK.agg, fieldAddrS, zeroS, storeS, setPart, splice, endS, resS, fieldS, h_vote_Backers_0, hj, hi, hu, hw, y1, bs, p1, p2, Mem.set2, sl_cells hA.sl, sl_sto hA.sl, sl_cells hB.sl, sl_sto hB.sl])
    (fun o M ⟨items, i1, i2⟩ => by
      rw [List.take_length] at i2
      exact ⟨_, by simp [c_vote_Backers_B0, evW_reg, evW_chkr, evW_chfr, isCst, TK.agg, zeroS, endS, resS, h_vote_Backers_0], by simp, o, M, items, rfl, i1, i2⟩) 0 .nilsl M (by omega) ⟨[], .inl ⟨rfl, rfl⟩, RSl.nil'⟩
  exact ⟨o, M', items, g1, h2, h3⟩
structure BkI (ks : List Heard) (all : SV) (ci : List SV) (o : SV) (items : List SV) (M : Mem) (j : Nat) : Prop where
  ha : OutR 2 all M ci
  ho : OutR 16 o M items
  ne : ∀ i e a b i' e' a' b', all = .own i e a b → o = .own i' e' a' b' → i ≠ i'
  hr : HdsO (.sl items .ro) ((ks.take j).filter (isWin ks))
set_option maxHeartbeats 8000000 in
theorem Backers_B1 {y : SV} {ks : List Heard} (hy : HdsO y ks) (hk : hdsOk ks) {all : SV} {ci : List SV} (hc : Cons (.sl ci .ro) (consOf ks)) {a : Nat} (ha : a < ks.length) (hwin : winner ks = some (conOf ks[a])) {o : SV} {items : List SV} {M : Mem} {j : Nat} (hj : j < ks.length) (h : BkI ks all ci o items M j) :
    ∃ M' o' items', evW ES n_vote_Backers c_vote_Backers_B1 ⟨h_vote_Backers_1 all (.int .i64 a) o y (.int .i64 ks.length) (.int .i64 j), M⟩ = some (.normal, ⟨h_vote_Backers_1 all (.int .i64 a) o' y (.int .i64 ks.length) (.int .i64 ((j + 1 : Nat) : Int)), M'⟩) ∧ BkI ks all ci o' items' M' (j + 1) := by
  obtain ⟨hk1, hk2⟩ := hk
  obtain ⟨hal, ho, hne, hr⟩ := h
  have hcl := hc.len
  simp only [its, consOf, List.length_map] at hcl
  rcases hal with ⟨rfl, _⟩ | ⟨id, rfl, hid, hlt⟩
  · subst_vars; simp at hcl; omega
  have hgj := hc.at' j ci[j] (conOf ks[j]) (by show ci[j]? = _; simp [show j < ci.length by omega]) (by simp [consOf, hj])
  have hga := hc.at' a ci[a] (conOf ks[a]) (by show ci[a]? = _; simp [show a < ci.length by omega]) (by simp [consOf, ha])
  have ej : ci[j]? = some ci[j] := by simp [show j < ci.length by omega]
  have ea : ci[a]? = some ci[a] := by simp [show a < ci.length by omega]
  have hS := fun get => vote_Same_c get hgj hga
  have own : ∀ k : Nat, k < ks.length → indexAddrS ES.P T_sl_api_Content (.own id 2 0 ci.length) (.int .i64 k) = some (.ptr id k 0) := fun k hk => by
    have : k < ci.length := by omega
    simp [indexAddrS, natS, this]
  have owj := own j hj
  have owa := own a ha
  obtain ⟨Aj, ejA, aj1, _⟩ := hgj
  obtain ⟨Aa, eaA, aa1, _⟩ := hga
  rw [ejA] at ej hS
  rw [eaA] at ea hS
  obtain ⟨u, _, hu, hi, _⟩ := hy.r.item ti_sl_api_Heard ti_api_Heard elmHd hj
  obtain ⟨A, B, rfl, hA, hB, pA, pB⟩ : HdO u ks[j] := hy.at' j u ks[j] hu (by simp [hj])
  have hw : IntKind.i64.wrap ((j : Int) + 1) = (j : Int) + 1 := i64_in (by omega) (by omega)
  have hil : items.length ≤ 1000000 := by
    have h1 := hr.len
    have h2 := List.length_filter_le (isWin ks) (ks.take j)
    simp [its] at h1 h2
    omega
  have hiw : isWin ks ks[j] = decide (conOf ks[j] = conOf ks[a]) := by
    unfold isWin
    rw [hwin]
    simp [eq_comm]
  obtain ⟨X, eX⟩ : ∃ X, X = (M.bump 6).set (M.next + 3) (some [.agg (hdC ks[j] A B)]) := ⟨_, rfl⟩
  have hXn : X.next = M.next + 6 := by rw [eX]; rfl
  have hX : Old M X := fun id hid => by
    have q1 : ¬ id = M.next + 3 := by omega
    simp [eX, q1]
  have hne3 : ¬ id = M.next + 3 := by omega
  have hidX : X.blk id = some ci := (hX id hlt).trans hid
  by_cases hcc : conOf ks[j] = conOf ks[a]
  · rw [decide_eq_true hcc] at hS hiw
    obtain ⟨o', k, M1, p1, p2, p3, p4, p5, p6⟩ := hdApp (h := ks[j]) (A := A) (B := B) ho hil hX (by omega) 5 2 3 (by decide) (by decide)
    have bs := bldHd ks[j] A B (by rw [sl_cells hA.sl]; rfl) (by rw [sl_cells hB.sl]; rfl) (sl_sto hA.sl) (sl_sto hB.sl)
    rw [hXn] at p1 p2 p5 p6
    have hkeep : M1.blk id = some ci := (p4 id (by omega) (fun e a' b' hh => hne id 2 0 _ id e a' b' rfl hh rfl)).trans hidX
    rw [eX] at p1 p2
    refine ⟨M1, o', items ++ [.agg (hdC ks[j] A B)], ?_, ⟨.inr ⟨id, rfl, hkeep, by omega⟩, p3, fun i e a1 b1 i' e' a' b' q1 q2 => ?_, ?_⟩⟩
    · simp only [hdC] at hu p1 p2 bs
      simp (maxSteps := 4000000) [c_vote_Backers_B1, evW_reg, evW_chkr, evW_chfr, isCst, loadS, partS, TK.agg, fieldAddrS, zeroS, storeS, setPart, splice, endS, resS, fieldS, h_vote_Backers_1, hj, hi, hu, hw, hid, hne3, owj, owa, ej, ea, hS, bs, p1, p2, Mem.set2, sl_cells hA.sl, sl_sto hA.sl, sl_cells hB.sl, sl_sto hB.sl, sl_cells aj1.sl, sl_sto aj1.sl, sl_cells aa1.sl, sl_sto aa1.sl]
    · cases q1
      rcases p6 i' e' a' b' q2 with h1 | h1
      · omega
      · exact hne id 2 0 _ i' e' a' b' rfl (h1 ▸ q2)
    · rw [filter_take _ hj, hiw]
      simp only [if_true]
      exact RSl.snoc hr ⟨A, B, rfl, hA, hB, pA, pB⟩
  · rw [decide_eq_false hcc] at hS hiw
    refine ⟨X, o, items, ?_, ⟨.inr ⟨id, rfl, hidX, by omega⟩, ho.old hX (by omega), hne, ?_⟩⟩
    · simp only [hdC] at hu eX
      rw [eX]
      simp (maxSteps := 4000000) [c_vote_Backers_B1, evW_reg, evW_chkr, evW_chfr, isCst, loadS, partS, TK.agg, fieldAddrS, zeroS, storeS, setPart, splice, endS, resS, fieldS, h_vote_Backers_1, hj, hi, hu, hw, hid, hne3, owj, owa, ej, ea, hS, Mem.set2, sl_cells hA.sl, sl_sto hA.sl, sl_cells hB.sl, sl_sto hB.sl, sl_cells aj1.sl, sl_sto aj1.sl, sl_cells aa1.sl, sl_sto aa1.sl]
    · rw [filter_take _ hj, hiw]
      simpa using hr
set_option maxHeartbeats 8000000 in
theorem vote_Backers_p {x : SV} {l : List Heard} (hx : Heards x l) (hk : hdsOk l) : ∃ z, PCw ES n_vote_Backers [x] = some z ∧ HdsO z (backG l) ∧ Sh.pv z = true := by
  obtain ⟨y, y1, y2, y3⟩ := vote_Kind_c hx hk 2
  have hk2 := kind_ok hk 2
  have hly := y2.r.lenS ti_sl_api_Heard
  unfold backG
  generalize kindG l 2 = ks at *
  have hlc : (consOf ks).length = ks.length := by simp [consOf]
  have hks : ks.length ≤ 100000 := hk2.1
  obtain ⟨z, items, h1, h2, h3, h4, h5⟩ := PCw_out (E := ES) (f := n_vote_Backers) (esz := 16) (args := [x]) (Pr := fun items => HdsO (.sl items .ro) (ks.filter (isWin ks))) (fun M0 => by
    rw [b_vote_Backers]
    obtain ⟨all, M1, ci, f1, f2, f3⟩ := Backers_L0 y2.r hk2 M0
    have hW := win_out f2 f3 n_vote_Win _ (fun x hx => vote_Win_p hx (by omega))
    simp [h_vote_Backers_0] at f1
    obtain ⟨r, g1, Ma, o, items, rfl, hO, hit⟩ : ∃ r, evW ES n_vote_Backers c_vote_Backers_L1 ⟨h_vote_Backers_1 all (.int .i64 (winUp (consOf ks) (consOf ks).length).1) .nilsl y (.int .i64 ks.length) (.int .i64 0), M1⟩ = some r ∧ ∃ M' o items, r = (.exit 2, ⟨(h_vote_Backers_1 all (.int .i64 (winUp (consOf ks) (consOf ks).length).1) o y (.int .i64 ks.length) (.int .i64 ks.length)).set 34 (.bool false), M'⟩) ∧ OutR 16 o M' items ∧ HdsO (.sl items .ro) (ks.filter (isWin ks)) := by
      by_cases h0 : ks.length = 0
      · have : ks = [] := List.length_eq_zero_iff.1 h0
        subst this
        refine ⟨_, ?_, M1, .nilsl, [], rfl, .inl ⟨rfl, rfl⟩, RSl.nil'⟩
        show evW ES n_vote_Backers (.loop c_vote_Backers_B1) _ = _
        rw [evW_loop]
        simp [c_vote_Backers_B1, evW_reg, evW_chkr, evW_chfr, isCst, TK.agg, zeroS, endS, resS, h_vote_Backers_1]
      · obtain ⟨a, ha, e1, e2⟩ := win_at (ks := ks) (by omega)
        rw [e1]
        exact loop_st (E := ES) (me := n_vote_Backers) (B := c_vote_Backers_B1) (β := SV × List SV) (len := ks.length) (T := fun j o => h_vote_Backers_1 all (.int .i64 a) o.1 y (.int .i64 ks.length) (.int .i64 j))
          (I := fun j o M => BkI ks all ci o.1 o.2 M j)
          (Q := fun r => ∃ M' o items, r = (.exit 2, ⟨(h_vote_Backers_1 all (.int .i64 a) o y (.int .i64 ks.length) (.int .i64 ks.length)).set 34 (.bool false), M'⟩) ∧ OutR 16 o M' items ∧ HdsO (.sl items .ro) (ks.filter (isWin ks)))
          (fun j o M hj hI => by
            left
            obtain ⟨M', o', items', a1, a2⟩ := Backers_B1 y2 hk2 f3 ha e2 hj hI
            exact ⟨(o', items'), M', a1, a2⟩)
          (fun o M hI => ⟨_, by simp [c_vote_Backers_B1, evW_reg, evW_chkr, evW_chfr, isCst, TK.agg, zeroS, endS, resS, h_vote_Backers_1], by simp, M, o.1, o.2, rfl, hI.ho, by have := hI.hr; rwa [List.take_length] at this⟩) 0 (.nilsl, []) M1 (by omega) ⟨f2, .inl ⟨rfl, rfl⟩, (fun _ _ _ _ _ _ _ _ _ h => (by cases h)), RSl.nil'⟩
    simp [h_vote_Backers_1] at g1
    refine ⟨o, Ma, items, ?_, hO, hit⟩
    simp [c_vote_Backers, evW_reg, evW_chkr, evW_chfr, isCst, TK.agg, zeroS, endS, resS, y1, hly, f1, hW, g1]) (fun items h y hy => by
      obtain ⟨a, _, ha⟩ := RSl.mem h hy
      exact ha.pv)
  exact ⟨z, h1, RSl.out h2 h3 h4, h5⟩
theorem vote_Backers_c {x : SV} {l : List Heard} (hx : Heards x l) (hk : hdsOk l) : ∃ z, (∀ get, callP (PCw ES) get n_vote_Backers [x] = some z) ∧ HdsO z (backG l) ∧ Sh.pv z = true := by
  obtain ⟨z, h1, h2, h3⟩ := vote_Backers_p hx hk
  exact ⟨z, fun get => callP_of h1 (by simp [hx.npE]), h2, h3⟩

end Go.Proofs.Ytaldchogcingbaa

/-
  Walks of the seat's functions: Ve.
-/
set_option linter.unusedVariables false
set_option linter.unusedSimpArgs false
set_option maxRecDepth 100000
namespace Go.Proofs.Ytaldchogcingbaa
open Go.Proofs.Ytaldchogcingbaa.Sh
/-! The document's backers. -/
def Apart (o p : SV) : Prop := ∀ i e a b i' e' a' b', o = .own i e a b → p = .own i' e' a' b' → i ≠ i'
theorem OutR.keepK {n : Nat} {p o : SV} {M X M1 : Mem} {items : List SV} (h : OutR n p M items) (hX : Old M X) (hn : M.next ≤ X.next) (hk : Keeps o X M1) (hn2 : X.next ≤ M1.next) (hap : Apart p o) : OutR n p M1 items := by
  rcases h with ⟨h1, h2⟩ | ⟨id, rfl, h2, h3⟩
  · exact .inl ⟨h1, h2⟩
  · exact .inr ⟨id, rfl, (hk id (by omega) (fun e a b hh => hap id n 0 _ id e a b rfl hh rfl)).trans ((hX id h3).trans h2), by omega⟩
theorem Apart.new {n : Nat} {p o o' : SV} {M X : Mem} {items : List SV} (h : OutR n p M items) (hn : M.next ≤ X.next) (h6 : ∀ id e a b, o' = .own id e a b → X.next ≤ id ∨ o' = o) (hap : Apart p o) : Apart p o' := fun i e a b i' e' a' b' q1 q2 => by
  rcases h6 i' e' a' b' q2 with h1 | h1
  · rcases h with ⟨_, h2⟩ | ⟨id, h2, _, h3⟩
    · rw [h2] at q1; cases q1
    · rw [h2] at q1; cases q1; omega
  · exact hap i e a b i' e' a' b' q1 (h1 ▸ q2)
theorem Apart.symm {o p : SV} (h : Apart o p) : Apart p o := fun i e a b i' e' a' b' q1 q2 => fun hh => h i' e' a' b' i e a b q2 q1 hh.symm
theorem Apart.nil {p : SV} : Apart p .nilsl := fun _ _ _ _ _ _ _ _ _ h => (by cases h)
structure RbI (of wh : SV) (hi ci : List SV) (l : List Heard) (M : Mem) : Prop where
  ho : OutR 16 of M hi
  hw : OutR 2 wh M ci
  ap : Apart of wh
  hr : Heards (.sl hi .ro) (kindG l 2)
  cr : Cons (.sl ci .ro) (consOf (kindG l 2))
set_option maxHeartbeats 16000000 in
theorem rBackers_B0 {x : SV} {l : List Heard} (hx : Heards x l) (hk : hdsOk l) {of wh : SV} {hi ci : List SV} {M : Mem} {j : Nat} (hj : j < l.length) (h : RbI of wh hi ci (l.take j) M) :
    ∃ M' of' wh' hi' ci', evW ES n_r10_Backers c_r10_Backers_B0 ⟨h_r10_Backers_0 x of wh (.int .i64 j), M⟩ = some (.normal, ⟨h_r10_Backers_0 x of' wh' (.int .i64 ((j + 1 : Nat) : Int)), M'⟩) ∧ RbI of' wh' hi' ci' (l.take (j + 1)) M' := by
  obtain ⟨hk1, hk2⟩ := hk
  obtain ⟨ho, hwh, ap, hr, cr⟩ := h
  have hlx := hx.lenS ti_sl_api_Heard
  obtain ⟨u, ⟨A, B, rfl, hA, hB⟩, hu, hui, _⟩ := hx.item ti_sl_api_Heard ti_api_Heard elmHd hj
  have hw : IntKind.i64.wrap ((j : Int) + 1) = (j : Int) + 1 := i64_in (by omega) (by omega)
  have hkl : (kindG (l.take j) 2).length ≤ j := by
    have h2 := List.length_filter_le (fun h : Heard => decide (h.f.kind = 2)) (l.take j)
    simp [kindG] at h2 ⊢
    omega
  have hil : hi.length ≤ 1000000 := by
    have h1 := hr.len
    simp [its] at h1
    omega
  have hcl : ci.length ≤ 1000000 := by
    have h1 := cr.len
    simp [its, consOf] at h1
    omega
  have hag := (hk2 _ (List.getElem_mem hj)).1
  have hkt : kindG (l.take (j + 1)) 2 = kindG (l.take j) 2 ++ (if decide (l[j].f.kind = 2) then [l[j]] else []) := by
    unfold kindG
    exact filter_take _ hj
  by_cases hc : l[j].f.kind = 2
  · rw [decide_eq_true hc] at hkt
    simp only [if_true] at hkt
    obtain ⟨o1, k1, M1, p1, p2, p3, p4, p5, p6⟩ := hdApp (h := l[j]) (A := A) (B := B) ho hil (show Old M M by simp) (Nat.le_refl _) 8 5 6 (by decide) (by decide)
    have hwh1 := OutR.keepK hwh (X := M) (by simp) (Nat.le_refl _) p4 (by omega) ap.symm
    have ap1 := (Apart.new hwh (Nat.le_refl _) p6 ap.symm)
    obtain ⟨o2, k2, M2, r1, r2, r3, r4, r5, r6⟩ := conAppL (v := l[j].f.cycle) (A := A) hwh1 hcl (show Old M1 M1 by simp) (Nat.le_refl _) 17 14 15 (by decide) (by decide) [0, 1, 2, 3, 4, 5, 6, 7, 8, 9, 10, 11, 12, 13, 14] rfl
    have ho2 := OutR.keepK p3 (X := M1) (by simp) (Nat.le_refl _) r4 (by omega) ap1.symm
    have ap2 := Apart.new p3 (Nat.le_refl _) r6 ap1.symm
    have bs := bldHd l[j] A B (by rw [sl_cells hA.sl]; rfl) (by rw [sl_cells hB.sl]; rfl) (sl_sto hA.sl) (sl_sto hB.sl)
    have bc : ∀ q, bldSl ES.P T_sl_api_Content 1 q [(0, .agg [.int .i64 l[j].f.cycle, A])] = some (.own q 2 0 1, [.agg [.int .i64 l[j].f.cycle, A]]) := fun q => by
      have e1 : A.cells.length = 1 := by rw [sl_cells hA.sl]; rfl
      simp [bldSl, buildRow, e1, sl_sto hA.sl]
    have bb : ∀ q, bldS ES.P T_api_Content [(0, .int .i64 q), (1, A)] = some (.agg [.int .i64 q, A]) := fun q => by simp [bldS, placesOf, buildS, splice, sl_cells hA.sl, sl_sto hA.sl]
    refine ⟨M2, o1, o2, _, _, ?_, ⟨ho2, r3, ap2, by rw [hkt]; exact RSl.snoc hr ⟨A, B, rfl, hA, hB⟩, ?_⟩⟩
    · generalize l[j] = h at *
      simp only [hdC, hc] at hu p1 p2 bs
      rw [p5] at r1 r2
      simp (maxSteps := 4000000) [-seenM_some, c_r10_Backers_B0, evW_reg, evW_chkr, evW_chfr, isCst, loadS, partS, TK.agg, fieldAddrS, zeroS, storeS, setPart, splice, endS, resS, fieldS, h_r10_Backers_0, hlx, hj, hui, hu, hw, bs, bc, bb, p1, p2, p5, r1, r2, sl_cells hA.sl, sl_sto hA.sl, sl_cells hB.sl, sl_sto hB.sl]
    · rw [hkt]
      simp only [consOf, List.map_append, List.map_cons, List.map_nil]
      exact RSl.snoc cr ⟨A, rfl, hA, hag⟩
  · rw [decide_eq_false hc] at hkt
    simp only [Bool.false_eq_true, if_false, List.append_nil] at hkt
    refine ⟨M, of, wh, hi, ci, ?_, ⟨ho, hwh, ap, by rw [hkt]; exact hr, by rw [hkt]; exact cr⟩⟩
    generalize l[j] = h at *
    simp only [hdC] at hu
    simp (maxSteps := 4000000) [c_r10_Backers_B0, evW_reg, evW_chkr, evW_chfr, isCst, loadS, partS, TK.agg, fieldAddrS, zeroS, storeS, setPart, splice, endS, resS, fieldS, h_r10_Backers_0, hlx, hj, hui, hu, hw, hc, sl_cells hA.sl, sl_sto hA.sl, sl_cells hB.sl, sl_sto hB.sl]
structure RcI (ks : List Heard) (of wh : SV) (hi ci : List SV) (o : SV) (items : List SV) (M : Mem) (j : Nat) : Prop where
  ho : OutR 16 of M hi
  hw : OutR 2 wh M ci
  hu : OutR 16 o M items
  a1 : Apart of o
  a2 : Apart wh o
  hr : HdsO (.sl items .ro) ((ks.take j).filter (isWin ks))
set_option maxHeartbeats 16000000 in
theorem rBackers_B1 {ks : List Heard} (hk : hdsOk ks) {of wh : SV} {hi ci : List SV} (hh : Heards (.sl hi .ro) ks) (hc : Cons (.sl ci .ro) (consOf ks)) {a : Nat} (ha : a < ks.length) (hwin : winner ks = some (conOf ks[a])) {o : SV} {items : List SV} {M : Mem} {j : Nat} (hj : j < ks.length) (h : RcI ks of wh hi ci o items M j) :
    ∃ M' o' items', evW ES n_r10_Backers c_r10_Backers_B1 ⟨h_r10_Backers_1 of wh (.int .i64 a) o (.int .i64 j), M⟩ = some (.normal, ⟨h_r10_Backers_1 of wh (.int .i64 a) o' (.int .i64 ((j + 1 : Nat) : Int)), M'⟩) ∧ RcI ks of wh hi ci o' items' M' (j + 1) := by
  obtain ⟨hk1, hk2⟩ := hk
  obtain ⟨hof, hwh, ho, ap1, ap2, hr⟩ := h
  have hcl := hc.len
  have hhl := hh.len
  simp only [its, consOf, List.length_map] at hcl hhl
  obtain ⟨id, rfl, hid, hlt⟩ : ∃ id, wh = .own id 2 0 ci.length ∧ M.blk id = some ci ∧ id < M.next := by
    rcases hwh with ⟨h1, _⟩ | h1
    · subst h1; simp at hcl; omega
    · exact h1
  obtain ⟨iq, rfl, hiq, hqt⟩ : ∃ id, of = .own id 16 0 hi.length ∧ M.blk id = some hi ∧ id < M.next := by
    rcases hof with ⟨h1, _⟩ | h1
    · subst h1; simp at hhl; omega
    · exact h1
  have hgj := hc.at' j ci[j] (conOf ks[j]) (by show ci[j]? = _; simp [show j < ci.length by omega]) (by simp [consOf, hj])
  have hga := hc.at' a ci[a] (conOf ks[a]) (by show ci[a]? = _; simp [show a < ci.length by omega]) (by simp [consOf, ha])
  have hgh := hh.at' j hi[j] ks[j] (by show hi[j]? = _; simp [show j < hi.length by omega]) (by simp [hj])
  have ej : ci[j]? = some ci[j] := by simp [show j < ci.length by omega]
  have ea : ci[a]? = some ci[a] := by simp [show a < ci.length by omega]
  have eh : hi[j]? = some hi[j] := by simp [show j < hi.length by omega]
  have hS := fun get => r10_SameContent_c get hgj hga
  obtain ⟨y', y1, y2⟩ := r10_CopyHeard_c hgh (hk2 _ (List.getElem_mem hj))
  have own : ∀ k : Nat, k < ks.length → indexAddrS ES.P T_sl_api_Content (.own id 2 0 ci.length) (.int .i64 k) = some (.ptr id k 0) := fun k hk => by
    have : k < ci.length := by omega
    simp [indexAddrS, natS, this]
  have ownh : indexAddrS ES.P T_sl_api_Heard (.own iq 16 0 hi.length) (.int .i64 j) = some (.ptr iq j 0) := by
    have : j < hi.length := by omega
    simp [indexAddrS, natS, this]
  have owj := own j hj
  have owa := own a ha
  obtain ⟨Aj, ejA, aj1, _⟩ := hgj
  obtain ⟨Aa, eaA, aa1, _⟩ := hga
  obtain ⟨A, B, ehA, hA, hB⟩ := hgh
  rw [ejA] at ej hS
  rw [eaA] at ea hS
  rw [ehA] at eh y1
  have hlo : lenS ES.P T_sl_api_Heard (.own iq 16 0 hi.length) = some (.int .i64 ks.length) := by simp [lenS, hhl]
  have hw : IntKind.i64.wrap ((j : Int) + 1) = (j : Int) + 1 := i64_in (by omega) (by omega)
  have hil : items.length ≤ 1000000 := by
    have h1 := hr.len
    have h2 := List.length_filter_le (isWin ks) (ks.take j)
    simp [its] at h1 h2
    omega
  have hiw : isWin ks ks[j] = decide (conOf ks[j] = conOf ks[a]) := by
    unfold isWin
    rw [hwin]
    simp [eq_comm]
  have hof2 : OutR 16 (.own iq 16 0 hi.length) M hi := .inr ⟨iq, rfl, hiq, hqt⟩
  have hwh2 : OutR 2 (.own id 2 0 ci.length) M ci := .inr ⟨id, rfl, hid, hlt⟩
  by_cases hcc : conOf ks[j] = conOf ks[a]
  · rw [decide_eq_true hcc] at hS hiw
    obtain ⟨A', B', rfl, hA', hB', pA, pB⟩ := y2
    obtain ⟨o', k, M1, p1, p2, p3, p4, p5, p6⟩ := hdApp (h := ks[j]) (A := A') (B := B') ho hil (show Old M M by simp) (Nat.le_refl _) 9 6 7 (by decide) (by decide)
    have bs := bldHd ks[j] A' B' (by rw [sl_cells hA'.sl]; rfl) (by rw [sl_cells hB'.sl]; rfl) (sl_sto hA'.sl) (sl_sto hB'.sl)
    refine ⟨M1, o', items ++ [.agg (hdC ks[j] A' B')], ?_, ⟨OutR.keepK hof2 (X := M) (by simp) (Nat.le_refl _) p4 (by omega) ap1, OutR.keepK hwh2 (X := M) (by simp) (Nat.le_refl _) p4 (by omega) ap2, p3, Apart.new hof2 (Nat.le_refl _) p6 ap1, Apart.new hwh2 (Nat.le_refl _) p6 ap2, ?_⟩⟩
    · generalize ks[j] = h at *
      simp only [hdC] at eh y1 p1 p2 bs
      simp (maxSteps := 4000000) [c_r10_Backers_B1, evW_reg, evW_chkr, evW_chfr, isCst, loadS, partS, TK.agg, fieldAddrS, zeroS, storeS, setPart, splice, endS, resS, fieldS, h_r10_Backers_1, hlo, hj, hw, hid, hiq, owj, owa, ownh, ej, ea, eh, hS, y1, bs, p1, p2, sl_cells hA.sl, sl_sto hA.sl, sl_cells hB.sl, sl_sto hB.sl, sl_cells aj1.sl, sl_sto aj1.sl, sl_cells aa1.sl, sl_sto aa1.sl]
    · rw [filter_take _ hj, hiw]
      simp only [if_true]
      exact RSl.snoc hr ⟨A', B', rfl, hA', hB', pA, pB⟩
  · rw [decide_eq_false hcc] at hS hiw
    refine ⟨M, o, items, ?_, ⟨hof2, hwh2, ho, ap1, ap2, ?_⟩⟩
    · generalize ks[j] = h at *
      simp (maxSteps := 4000000) [c_r10_Backers_B1, evW_reg, evW_chkr, evW_chfr, isCst, loadS, partS, TK.agg, fieldAddrS, zeroS, storeS, setPart, splice, endS, resS, fieldS, h_r10_Backers_1, hlo, hj, hw, hid, hiq, owj, owa, ej, ea, hS, sl_cells aj1.sl, sl_sto aj1.sl, sl_cells aa1.sl, sl_sto aa1.sl]
    · rw [filter_take _ hj, hiw]
      simpa using hr
set_option maxHeartbeats 8000000 in
theorem r10_Backers_c {x : SV} {l : List Heard} (hx : Heards x l) (hk : hdsOk l) : ∃ z, (∀ get, callP (PCw ES) get n_r10_Backers [x] = some z) ∧ HdsO z (backG l) ∧ Sh.pv z = true := by
  have hk2 := kind_ok hk 2
  have hlx := hx.lenS ti_sl_api_Heard
  have hks : (kindG l 2).length ≤ 100000 := hk2.1
  have hlc : (consOf (kindG l 2)).length = (kindG l 2).length := by simp [consOf]
  obtain ⟨z, items, h1, h2, h3, h4, h5⟩ := PCw_out (E := ES) (f := n_r10_Backers) (esz := 16) (args := [x]) (Pr := fun items => HdsO (.sl items .ro) (backG l)) (fun M0 => by
    rw [b_r10_Backers]
    obtain ⟨r, f1, M1, of, wh, hi, ci, rfl, f2⟩ := loop_st (E := ES) (me := n_r10_Backers) (B := c_r10_Backers_B0) (β := SV × SV × List SV × List SV) (len := l.length) (T := fun j o => h_r10_Backers_0 x o.1 o.2.1 (.int .i64 j))
      (I := fun j o M => RbI o.1 o.2.1 o.2.2.1 o.2.2.2 (l.take j) M)
      (Q := fun r => ∃ M' of wh hi ci, r = (.exit 0, ⟨(h_r10_Backers_0 x of wh (.int .i64 l.length)).set 13 (.bool false), M'⟩) ∧ RbI of wh hi ci l M')
      (fun j o M hj hI => by
        left
        obtain ⟨M', of', wh', hi', ci', a1, a2⟩ := rBackers_B0 hx hk hj hI
        exact ⟨(of', wh', hi', ci'), M', a1, a2⟩)
      (fun o M hI => ⟨_, by simp [c_r10_Backers_B0, evW_reg, evW_chkr, evW_chfr, isCst, TK.agg, zeroS, endS, resS, h_r10_Backers_0, hlx], by simp, M, o.1, o.2.1, o.2.2.1, o.2.2.2, rfl, by rwa [List.take_length] at hI⟩) 0 (.nilsl, .nilsl, [], []) M0 (by omega) ⟨.inl ⟨rfl, rfl⟩, .inl ⟨rfl, rfl⟩, Apart.nil, RSl.nil', RSl.nil'⟩
    obtain ⟨ho, hwh, ap, hr, cr⟩ := f2
    have hW := win_out hwh cr n_r10_Win _ (fun x hx => r10_Win_p hx (by omega))
    simp [h_r10_Backers_0] at f1
    unfold backG
    generalize kindG l 2 = ks at *
    have hhl : hi.length = ks.length := hr.len
    obtain ⟨r, g1, Ma, o, items, rfl, hO, hit⟩ : ∃ r, evW ES n_r10_Backers c_r10_Backers_L1 ⟨h_r10_Backers_1 of wh (.int .i64 (winUp (consOf ks) (consOf ks).length).1) .nilsl (.int .i64 0), M1⟩ = some r ∧ ∃ M' o items, r = (.exit 2, ⟨(h_r10_Backers_1 of wh (.int .i64 (winUp (consOf ks) (consOf ks).length).1) o (.int .i64 ks.length)).set 54 (.bool false), M'⟩) ∧ OutR 16 o M' items ∧ HdsO (.sl items .ro) (ks.filter (isWin ks)) := by
      have hlo : lenS ES.P T_sl_api_Heard of = some (.int .i64 ks.length) := by
        rcases ho with ⟨e1, rfl⟩ | ⟨id, rfl, _, _⟩
        · rw [e1] at hhl
          simp [lenS, ← hhl]
        · simp [lenS, hhl]
      by_cases h0 : ks.length = 0
      · rw [h0] at hlo
        have : ks = [] := List.length_eq_zero_iff.1 h0
        subst this
        refine ⟨_, ?_, M1, .nilsl, [], rfl, .inl ⟨rfl, rfl⟩, RSl.nil'⟩
        show evW ES n_r10_Backers (.loop c_r10_Backers_B1) _ = _
        rw [evW_loop]
        simp [c_r10_Backers_B1, evW_reg, evW_chkr, evW_chfr, isCst, TK.agg, zeroS, endS, resS, h_r10_Backers_1, hlo]
      · obtain ⟨a, ha, e1, e2⟩ := win_at (ks := ks) (by omega)
        rw [e1]
        exact loop_st (E := ES) (me := n_r10_Backers) (B := c_r10_Backers_B1) (β := SV × List SV) (len := ks.length) (T := fun j o => h_r10_Backers_1 of wh (.int .i64 a) o.1 (.int .i64 j))
          (I := fun j o M => RcI ks of wh hi ci o.1 o.2 M j)
          (Q := fun r => ∃ M' o items, r = (.exit 2, ⟨(h_r10_Backers_1 of wh (.int .i64 a) o (.int .i64 ks.length)).set 54 (.bool false), M'⟩) ∧ OutR 16 o M' items ∧ HdsO (.sl items .ro) (ks.filter (isWin ks)))
          (fun j o M hj hI => by
            left
            obtain ⟨M', o', items', a1, a2⟩ := rBackers_B1 hk2 hr cr ha e2 hj hI
            exact ⟨(o', items'), M', a1, a2⟩)
          (fun o M hI => ⟨_, by simp [c_r10_Backers_B1, evW_reg, evW_chkr, evW_chfr, isCst, TK.agg, zeroS, endS, resS, h_r10_Backers_1, hlo], by simp, M, o.1, o.2, rfl, hI.hu, by have := hI.hr; rwa [List.take_length] at this⟩) 0 (.nilsl, []) M1 (by omega) ⟨ho, hwh, .inl ⟨rfl, rfl⟩, Apart.nil, Apart.nil, RSl.nil'⟩
    simp [h_r10_Backers_1] at g1
    refine ⟨o, Ma, items, ?_, hO, hit⟩
    simp [c_r10_Backers, evW_reg, evW_chkr, evW_chfr, isCst, TK.agg, zeroS, endS, resS, c_r10_Backers_L0, f1, hW, g1]) (fun items h y hy => by
      obtain ⟨a, _, ha⟩ := RSl.mem h hy
      exact ha.pv)
  exact ⟨z, fun get => callP_of h1 (by simp [hx.npE]), RSl.out h2 h3 h4, h5⟩

end Go.Proofs.Ytaldchogcingbaa

/-
  Walks of the seat's functions: Vf.
-/
set_option linter.unusedVariables false
set_option linter.unusedSimpArgs false
set_option maxRecDepth 100000
namespace Go.Proofs.Ytaldchogcingbaa
open Go.Proofs.Ytaldchogcingbaa.Sh
/-! Masks; the same frames; few; the law VoteBackers. -/
theorem u64_in {n : Int} (h1 : 0 ≤ n) (h2 : n < 18446744073709551616) : IntKind.u64.wrap n = n := by
  simp [IntKind.wrap, IntKind.bits, IntKind.signed]; omega
def maskOne (m : Int) (h : Heard) : Int := if 0 ≤ h.f.node ∧ h.f.node < 12 then orI .i64 m (shlI .i64 1 h.f.node) else m
/-- Which nodes said them. -/
def maskG (l : List Heard) : Int := l.foldl maskOne 0
set_option maxHeartbeats 4000000 in
theorem vote_Mask_c (get) {x : SV} {l : List Heard} (hx : Heards x l) (hb : l.length ≤ 1000000) : callP (PCw ES) get n_vote_Mask [x] = some (.int .i64 (maskG l)) := by
  refine callP_of (PCw_ex (fun M0 => ?_) rfl) (by simp [hx.npE])
  rw [b_vote_Mask]
  have hlx := hx.lenS ti_sl_api_Heard
  obtain ⟨r, g1, M', rfl⟩ := loop_up (E := ES) (me := n_vote_Mask) (B := c_vote_Mask_B0) (len := l.length) (T := fun j => h_vote_Mask_0 (.int .i64 (maskG (l.take j))) x (.int .i64 l.length) (.int .i64 j)) (I := fun j M' => True)
    (Q := fun r => ∃ M', r = (.exit 0, ⟨(h_vote_Mask_0 (.int .i64 (maskG l)) x (.int .i64 l.length) (.int .i64 l.length)).set 10 (.bool false), M'⟩))
    (fun j M hj _ => by
      left
      obtain ⟨u, ⟨A, B, rfl, hA, hB⟩, hu, hui, _⟩ := hx.item ti_sl_api_Heard ti_api_Heard elmHd hj
      have hw : IntKind.i64.wrap ((j : Int) + 1) = (j : Int) + 1 := i64_in (by omega) (by omega)
      have hm : maskG (l.take (j + 1)) = maskOne (maskG (l.take j)) l[j] := foldl_take hj
      rw [hm]
      unfold maskOne
      generalize maskG (l.take j) = m at *
      generalize l[j] = h at *
      refine ⟨(M.bump 4).set (M.next + 2) (some [.agg (hdC h A B)]), ?_, trivial⟩
      simp only [hdC] at hu ⊢
      by_cases h1 : 0 ≤ h.f.node
      · by_cases h2 : h.f.node < 12
        · simp (maxSteps := 4000000) [c_vote_Mask_B0, evW_reg, evW_chkr, evW_chfr, isCst, loadS, partS, TK.agg, fieldAddrS, zeroS, storeS, setPart, splice, endS, resS, fieldS, h_vote_Mask_0, hj, hui, hu, hw, h1, h2, binS_shl h1, Mem.set2, sl_cells hA.sl, sl_sto hA.sl, sl_cells hB.sl, sl_sto hB.sl]
        · simp (maxSteps := 4000000) [c_vote_Mask_B0, evW_reg, evW_chkr, evW_chfr, isCst, loadS, partS, TK.agg, fieldAddrS, zeroS, storeS, setPart, splice, endS, resS, fieldS, h_vote_Mask_0, hj, hui, hu, hw, h1, h2, Mem.set2, sl_cells hA.sl, sl_sto hA.sl, sl_cells hB.sl, sl_sto hB.sl]
      · simp (maxSteps := 4000000) [c_vote_Mask_B0, evW_reg, evW_chkr, evW_chfr, isCst, loadS, partS, TK.agg, fieldAddrS, zeroS, storeS, setPart, splice, endS, resS, fieldS, h_vote_Mask_0, hj, hui, hu, hw, h1, Mem.set2, sl_cells hA.sl, sl_sto hA.sl, sl_cells hB.sl, sl_sto hB.sl])
    (fun M _ => by
      rw [List.take_length]
      exact ⟨_, by simp [c_vote_Mask_B0, evW_reg, evW_chkr, evW_chfr, isCst, TK.agg, zeroS, endS, resS, h_vote_Mask_0], by simp, M, rfl⟩) 0 M0 (by omega) trivial
  simp [h_vote_Mask_0, maskG] at g1
  simp [c_vote_Mask, evW_reg, evW_chkr, evW_chfr, isCst, TK.agg, zeroS, endS, resS, hlx, c_vote_Mask_L0, g1, maskG]
set_option maxHeartbeats 4000000 in
theorem r10_Mask_c (get) {x : SV} {l : List Heard} (hx : Heards x l) (hb : l.length ≤ 1000000) : callP (PCw ES) get n_r10_Mask [x] = some (.int .i64 (maskG l)) := by
  refine callP_of (PCw_ex (fun M0 => ?_) rfl) (by simp [hx.npE])
  rw [b_r10_Mask]
  have hlx := hx.lenS ti_sl_api_Heard
  obtain ⟨r, g1, M', rfl⟩ := loop_up (E := ES) (me := n_r10_Mask) (B := c_r10_Mask_B0) (len := l.length) (T := fun j => h_r10_Mask_0 x (.int .i64 (maskG (l.take j))) (.int .i64 j)) (I := fun j M' => True)
    (Q := fun r => ∃ M', r = (.exit 0, ⟨(h_r10_Mask_0 x (.int .i64 (maskG l)) (.int .i64 l.length)).set 9 (.bool false), M'⟩))
    (fun j M hj _ => by
      left
      obtain ⟨u, ⟨A, B, rfl, hA, hB⟩, hu, hui, _⟩ := hx.item ti_sl_api_Heard ti_api_Heard elmHd hj
      have hw : IntKind.i64.wrap ((j : Int) + 1) = (j : Int) + 1 := i64_in (by omega) (by omega)
      have hm : maskG (l.take (j + 1)) = maskOne (maskG (l.take j)) l[j] := foldl_take hj
      rw [hm]
      unfold maskOne
      generalize maskG (l.take j) = m at *
      generalize l[j] = h at *
      refine ⟨M, ?_, trivial⟩
      simp only [hdC] at hu ⊢
      by_cases h1 : 0 ≤ h.f.node
      · by_cases h2 : h.f.node < 12
        · have hu' : IntKind.u64.wrap h.f.node = h.f.node := u64_in h1 (by omega)
          simp (maxSteps := 4000000) [c_r10_Mask_B0, evW_reg, evW_chkr, evW_chfr, isCst, loadS, partS, TK.agg, fieldAddrS, zeroS, storeS, setPart, splice, endS, resS, fieldS, h_r10_Mask_0, hlx, hj, hui, hu, hw, h1, h2, binS_shl h1, convS, hu']
        · simp (maxSteps := 4000000) [c_r10_Mask_B0, evW_reg, evW_chkr, evW_chfr, isCst, loadS, partS, TK.agg, fieldAddrS, zeroS, storeS, setPart, splice, endS, resS, fieldS, h_r10_Mask_0, hlx, hj, hui, hu, hw, h1, h2]
      · simp (maxSteps := 4000000) [c_r10_Mask_B0, evW_reg, evW_chkr, evW_chfr, isCst, loadS, partS, TK.agg, fieldAddrS, zeroS, storeS, setPart, splice, endS, resS, fieldS, h_r10_Mask_0, hlx, hj, hui, hu, hw, h1])
    (fun M _ => by
      rw [List.take_length]
      exact ⟨_, by simp [c_r10_Mask_B0, evW_reg, evW_chkr, evW_chfr, isCst, TK.agg, zeroS, endS, resS, h_r10_Mask_0, hlx], by simp, M, rfl⟩) 0 M0 (by omega) trivial
  simp [h_r10_Mask_0, maskG] at g1
  simp [c_r10_Mask, evW_reg, evW_chkr, evW_chfr, isCst, TK.agg, zeroS, endS, resS, hlx, c_r10_Mask_L0, g1, maskG]
def bytesL (l : List Int) : List UInt8 := l.map fun n => UInt8.ofNat n.toNat
theorem bytesOf_map : ∀ {items : List SV} {l : List Int}, items.length = l.length → (∀ (j : Nat) (y : SV) (a : Int), items[j]? = some y → l[j]? = some a → y = .int .u8 a) → bytesOf items = some (bytesL l)
  | [], [], _, _ => rfl
  | [], _ :: _, h, _ => by simp at h
  | _ :: _, [], h, _ => by simp at h
  | x :: r, a :: l, h, hr => by
    have hx := hr 0 x a rfl rfl
    subst hx
    have ih := bytesOf_map (items := r) (l := l) (by simpa using h) fun j y b hy hb => hr (j + 1) y b (by simpa using hy) (by simpa using hb)
    simp [bytesOf, ih, bytesL]
theorem conv_bytes {x : SV} {l : List Int} (hx : Bytes x l) (get : Nat → Option (List SV)) : convS ES.P get T_sl_uint8 T_string x = some (.str ⟨(bytesL l).toArray⟩) := by
  have hs := hx.sl
  have hl := hx.len
  have ha := hx.at'
  cases x <;> simp [isSl] at hs
  · have : l = [] := by simpa [its] using hl.symm
    subst this
    simp [convS, bytesL]
    rfl
  · simp only [its] at hl ha
    simp [convS, bytesOf_map hl ha]
theorem binS_strs (t : Nat) (c : Bool) (s : ByteArray) : binS ES.P .eql t c (.str s) (.str s) = some (.bool true) := by
  simp [binS, Go.binOp, Op.stringOp, semV, pure]
theorem frNp {f : Frame} {A B : SV} (hA : Ints A f.ages) (hB : Bytes B f.body) : Sh.np 10 (.agg (frC f A B)) = true := by
  have h9 := hA.npn
  have h8 := hB.np9
  have hb : ∀ b, Sh.np 9 (.bool b) = true := fun b => np_of_pv rfl 9
  exact npAgg (by simp only [frC, List.all_cons, List.all_nil, np_int, hb, h9, h8, Bool.and_true])
set_option maxHeartbeats 8000000 in
theorem r1_Same_c (get) {f : Frame} {A B A' B' : SV} (hA : Ints A f.ages) (hB : Bytes B f.body) (hA' : Ints A' f.ages) (hB' : Bytes B' f.body) (hl : f.ages.length ≤ 1000000) : callP (PCw ES) get n_r1_Same [.agg (frC f A B), .agg (frC f A' B')] = some (.bool true) := by
  refine callP_of (PCw_ex (fun M => ?_) rfl) (by simp [np_le (m := picDepth) (by decide) (frNp hA hB), np_le (m := picDepth) (by decide) (frNp hA' hB')])
  rw [b_r1_Same]
  have c18 := fun get => r1_SameInts_d get hA hA' hl
  simp only [decide_true] at c18
  have e1 := conv_bytes hB
  have e2 := conv_bytes hB'
  have bn : ∀ b : Bool, binS ES.P .neq T_bool false (.bool b) (.bool b) = some (.bool false) := fun b => by cases b <;> rfl
  simp (maxSteps := 4000000) [c_r1_Same, evW_reg, evW_chkr, evW_chfr, isCst, loadS, partS, TK.agg, fieldAddrS, zeroS, storeS, setPart, splice, endS, resS, fieldS, frC, c18, e1, e2, binS_strs, bn, sl_cells hA.sl, sl_sto hA.sl, sl_cells hB.sl, sl_sto hB.sl, sl_cells hA'.sl, sl_sto hA'.sl, sl_cells hB'.sl, sl_sto hB'.sl]
set_option maxHeartbeats 8000000 in
theorem r10_SameHeard_c (get) {x y : SV} {l : List Heard} (hx : Heards x l) (hy : Heards y l) (hk : hdsOk l) : callP (PCw ES) get n_r10_SameHeard [x, y] = some (.bool true) := by
  refine callP_of (PCw_ex (fun M0 => ?_) rfl) (by simp [hx.npE, hy.npE])
  rw [b_r10_SameHeard]
  obtain ⟨hk1, hk2⟩ := hk
  have hlx := hx.lenS ti_sl_api_Heard
  have hly := hy.lenS ti_sl_api_Heard
  obtain ⟨r, g1, M', rfl⟩ := loop_up (E := ES) (me := n_r10_SameHeard) (B := c_r10_SameHeard_B0) (len := l.length) (T := fun j => h_r10_SameHeard_0 x y (.int .i64 j)) (I := fun j M' => True)
    (Q := fun r => ∃ M', r = (.exit 0, ⟨(h_r10_SameHeard_0 x y (.int .i64 l.length)).set 14 (.bool false), M'⟩))
    (fun j M hj _ => by
      left
      obtain ⟨u, ⟨A, B, rfl, hA, hB⟩, hu, hui, _⟩ := hx.item ti_sl_api_Heard ti_api_Heard elmHd hj
      obtain ⟨v, ⟨A', B', rfl, hA', hB'⟩, hv, hvi, _⟩ := hy.item ti_sl_api_Heard ti_api_Heard elmHd hj
      have hw : IntKind.i64.wrap ((j : Int) + 1) = (j : Int) + 1 := i64_in (by omega) (by omega)
      have hs := fun get => r1_Same_c get hA hB hA' hB' (hk2 _ (List.getElem_mem hj)).1
      generalize l[j] = h at *
      refine ⟨M, ?_, trivial⟩
      simp only [hdC] at hu hv
      simp only [frC] at hs
      simp (maxSteps := 4000000) [c_r10_SameHeard_B0, evW_reg, evW_chkr, evW_chfr, isCst, loadS, partS, TK.agg, fieldAddrS, zeroS, storeS, setPart, splice, endS, resS, fieldS, h_r10_SameHeard_0, hlx, hly, hj, hui, hu, hvi, hv, hw, hs, sl_cells hA.sl, sl_sto hA.sl, sl_cells hB.sl, sl_sto hB.sl, sl_cells hA'.sl, sl_sto hA'.sl, sl_cells hB'.sl, sl_sto hB'.sl])
    (fun M _ => ⟨_, by simp [c_r10_SameHeard_B0, evW_reg, evW_chkr, evW_chfr, isCst, TK.agg, zeroS, endS, resS, h_r10_SameHeard_0, hlx], by simp, M, rfl⟩) 0 M0 (by omega) trivial
  simp [h_r10_SameHeard_0] at g1
  simp [c_r10_SameHeard, evW_reg, evW_chkr, evW_chfr, isCst, TK.agg, zeroS, endS, resS, hlx, hly, c_r10_SameHeard_L0, g1]
def bigH (h : Heard) : Bool := decide (30 < h.f.ages.length) || decide (100 < h.f.body.length)
def fewB (l : List Heard) : Bool := decide (l.length ≤ 60) && !(l.any bigH)
theorem find_none_any {α : Type} (l : List α) (p : α → Bool) : (List.range l.length).find? (fun j => (l[j]?.map p).getD false) = none ↔ l.any p = false := by
  rw [List.find?_eq_none, List.any_eq_false]
  constructor
  · intro h x hx
    obtain ⟨j, hj, rfl⟩ := List.mem_iff_getElem.1 hx
    have := h j (by simp [hj])
    simpa [hj] using this
  · intro h j hj
    have hj' : j < l.length := by simpa using hj
    have := h l[j] (List.getElem_mem hj')
    simpa [hj'] using this
theorem few_ok {l : List Heard} (h : fewB l = true) : l.length ≤ 60 ∧ hdsOk l := by
  simp only [fewB, Bool.and_eq_true, decide_eq_true_eq, Bool.not_eq_true', List.any_eq_false] at h
  refine ⟨h.1, by omega, fun x hx => ?_⟩
  have h1 := h.2 x hx
  simp only [bigH, Bool.or_eq_true, not_or, decide_eq_true_eq] at h1
  exact ⟨by omega, by omega⟩
set_option maxHeartbeats 4000000 in
theorem l14_few_c (get) {x : SV} {l : List Heard} (hx : Heards x l) : callP (PCw ES) get n_l14_few [x] = some (.bool (fewB l)) := by
  refine callP_of (PCw_ex (fun M0 => ?_) rfl) (by simp [hx.npE])
  rw [b_l14_few]
  have hlx := hx.lenS ti_sl_api_Heard
  unfold fewB
  by_cases c1 : l.length ≤ 60
  case neg =>
    have c1' : 60 < (l.length : Int) := by omega
    simp [c_l14_few, evW_reg, evW_chkr, evW_chfr, isCst, TK.agg, zeroS, endS, resS, hlx, c1, c1']
  have c1' : ¬ 60 < (l.length : Int) := by omega
  obtain ⟨r, g1, g2⟩ := loop_find (E := ES) (me := n_l14_few) (B := c_l14_few_B0) (len := l.length) (T := fun k => h_l14_few_0 x (.int .i64 k)) (I := fun _ M' => M' = M0) (p := fun k => (l[k]?.map bigH).getD false)
    (Q := fun f r => r = (match f with | some _ => (.ret, ⟨(h_l14_few_0 .bad .bad).set 2 (.bool false), M0⟩) | none => (.exit 0, ⟨(h_l14_few_0 x (.int .i64 l.length)).set 10 (.bool false), M0⟩)))
    (fun j M' hj hM hp => by
      subst hM
      have hw : IntKind.i64.wrap ((j : Int) + 1) = (j : Int) + 1 := i64_in (by omega) (by omega)
      obtain ⟨u, ⟨A, B, rfl, hA, hB⟩, hu, hui, _⟩ := hx.item ti_sl_api_Heard ti_api_Heard elmHd hj
      have la := hA.lenS ti_sl_int
      have lb := hB.lenS ti_sl_uint8
      simp only [List.getElem?_eq_getElem hj, Option.map_some, Option.getD_some, bigH, Bool.or_eq_false_iff, decide_eq_false_iff_not] at hp
      have q1 : ¬ 30 < (l[j].f.ages.length : Int) := by omega
      have q2 : ¬ 100 < (l[j].f.body.length : Int) := by omega
      simp only [hdC] at hu
      exact ⟨M', by simp (maxSteps := 4000000) [c_l14_few_B0, evW_reg, evW_chkr, evW_chfr, isCst, loadS, partS, TK.agg, fieldAddrS, zeroS, storeS, setPart, splice, endS, resS, fieldS, h_l14_few_0, hlx, hj, hui, hu, la, lb, q1, q2, hw], rfl⟩)
    (fun j M' hj hM hp => by
      subst hM
      obtain ⟨u, ⟨A, B, rfl, hA, hB⟩, hu, hui, _⟩ := hx.item ti_sl_api_Heard ti_api_Heard elmHd hj
      have la := hA.lenS ti_sl_int
      have lb := hB.lenS ti_sl_uint8
      simp only [List.getElem?_eq_getElem hj, Option.map_some, Option.getD_some, bigH, Bool.or_eq_true, decide_eq_true_eq] at hp
      simp only [hdC] at hu
      by_cases p1 : 30 < l[j].f.ages.length
      · have q1 : 30 < (l[j].f.ages.length : Int) := by omega
        simp (maxSteps := 4000000) [c_l14_few_B0, evW_reg, evW_chkr, evW_chfr, isCst, loadS, partS, TK.agg, fieldAddrS, zeroS, storeS, setPart, splice, endS, resS, fieldS, h_l14_few_0, hlx, hj, hui, hu, la, lb, q1, p1]
      · have q1 : ¬ 30 < (l[j].f.ages.length : Int) := by omega
        have q2 : 100 < (l[j].f.body.length : Int) := by omega
        have p2 : 100 < l[j].f.body.length := by omega
        simp (maxSteps := 4000000) [c_l14_few_B0, evW_reg, evW_chkr, evW_chfr, isCst, loadS, partS, TK.agg, fieldAddrS, zeroS, storeS, setPart, splice, endS, resS, fieldS, h_l14_few_0, hlx, hj, hui, hu, la, lb, q1, q2, p1, p2])
    (fun M' hM => by
      subst hM
      simp [c_l14_few_B0, evW_reg, evW_chkr, evW_chfr, isCst, TK.agg, zeroS, endS, resS, h_l14_few_0, hlx]) M0 rfl
  subst g2
  have hf := find_none_any l bigH
  cases hh : (List.range l.length).find? (fun k => (l[k]?.map bigH).getD false) with
  | none =>
    rw [hh] at g1
    have e := hf.1 hh
    simp [h_l14_few_0] at g1
    simp [c_l14_few, evW_reg, evW_chkr, evW_chfr, isCst, TK.agg, zeroS, endS, resS, hlx, c1, c1', c_l14_few_L0, g1, e]
  | some k =>
    rw [hh] at g1
    have e : l.any bigH = true := by
      cases hc : l.any bigH with
      | true => rfl
      | false => rw [hf.2 hc] at hh; cases hh
    simp [h_l14_few_0] at g1
    simp [c_l14_few, evW_reg, evW_chkr, evW_chfr, isCst, TK.agg, zeroS, endS, resS, hlx, c1, c1', c_l14_few_L0, g1, e]
theorem l14_alive_ok : PCw ES n_l14_alive [] = some (.bool true) := PCw_closed 60 (by kernel_rfl)
@[simp] theorem l14_alive_c (get) : callP (PCw ES) get n_l14_alive [] = some (.bool true) := callP_of l14_alive_ok rfl
theorem back_ok {l : List Heard} (h : hdsOk l) : hdsOk (backG l) := by
  have hk := kind_ok h 2
  exact ⟨Nat.le_trans (List.length_filter_le _ _) hk.1, fun x hx => hk.2 x (List.mem_filter.1 hx).1⟩
set_option maxHeartbeats 4000000 in
theorem VoteBackers_walk (xs0 : List SV) (h0 : WT ES.P 8 T_sl_api_Heard xs0) : ∃ M', ICw ES n_l14_VoteBackers [mkV ES.P T_sl_api_Heard xs0] .empty = some (.bool true, M') := by
  obtain ⟨l, hx⟩ := heards_of h0
  rw [b_l14_VoteBackers]
  generalize mkV ES.P T_sl_api_Heard xs0 = x at *
  have hf := fun get => l14_few_c get hx
  cases hc : fewB l with
  | false =>
    rw [hc] at hf
    simp (maxSteps := 4000000) [c_l14_VoteBackers, evW_reg, evW_chkr, evW_chfr, isCst, loadS, partS, TK.agg, fieldAddrS, zeroS, storeS, setPart, splice, endS, resS, fieldS, hf]
  | true =>
    rw [hc] at hf
    obtain ⟨h60, hk⟩ := few_ok hc
    obtain ⟨z1, a1, a2, _⟩ := vote_Backers_c hx hk
    obtain ⟨z2, b1, b2, _⟩ := r10_Backers_c hx hk
    have hs := fun get => r10_SameHeard_c get a2.r b2.r (back_ok hk)
    have m1 := fun get => vote_Mask_c get hx (by omega)
    have m2 := fun get => r10_Mask_c get hx (by omega)
    simp (maxSteps := 4000000) [c_l14_VoteBackers, evW_reg, evW_chkr, evW_chfr, isCst, loadS, partS, TK.agg, fieldAddrS, zeroS, storeS, setPart, splice, endS, resS, fieldS, hf, a1, b1, hs, m1, m2]

end Go.Proofs.Ytaldchogcingbaa
