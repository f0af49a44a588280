/-
  Walks of the seat's functions: Is.
-/
import Derived.Test.YtfphjfbknphhjaaGreatDoorEb2
import Derived.Test.YtfphjfbknphhjaaGreatDoorShMb
import Derived.Test.YtfphjfbknphhjaaGreatDoorLzMc
set_option linter.unusedVariables false
set_option linter.unusedSimpArgs false
set_option maxRecDepth 100000
namespace Go.Proofs.YtfphjfbknphhjaaGreatDoor
open Go.Proofs.YtfphjfbknphhjaaGreatDoor.Sh
/-! slices.SortFunc of few ports: by their nodes. -/
theorem Z2i (a b : Port) (h : -1000 ≤ a.node ∧ a.node ≤ 1000 ∧ -1000 ≤ b.node ∧ b.node ≤ 1000) : PCw ES Zbf [Zap a, Zap b] = some (.int .i64 (a.node - b.node)) := by
  refine Za4 (fun M => ?_) rfl
  rw [Z78]
  have hw : IntKind.i64.wrap (a.node - b.node) = a.node - b.node := i64_in (by omega) (by omega)
  simp [Zr1, Zf, Zd, Ze, Zl, Zn, Zo, TK.agg, Zb, zeroS, Zi, Zg, splice, Zx, Z5, Zk, hw]
theorem Z7r (get) (a b : Port) (h : -1000 ≤ a.node ∧ a.node ≤ 1000 ∧ -1000 ≤ b.node ∧ b.node ≤ 1000) : Za0 (PCw ES) get Zbf [Zap a, Zap b] = some (.int .i64 (a.node - b.node)) :=
  Z4 (Z2i a b h) (by simp [Z38])
def Z95 (l : List Port) : Prop := ∀ p ∈ l, 0 ≤ p.node ∧ p.node ≤ 1000
def Zk9 (l : List Port) : Prop := l.Pairwise fun x y => x.node ≤ y.node
def Zcj (l : List Port) : List SV := l.map Zap
theorem Z8y (l : List Port) (j : Nat) : (Zcj l)[j]? = l[j]?.map Zap := by simp [Zcj]
theorem Zan4 {q len j : Nat} (h : j < len) : Z9 ES.P Zaf (.own q 4 0 len) (.int .i64 j) = some (.ptr q j 0) := by simp [Z9, Zs4, h]
theorem Zavw (M : Mem) (a : Nat) (x y : Option (List SV)) : (M.set a x).set a y = M.set a y := by
  simp only [Mem.set, Mem.mk.injEq, true_and, and_true]
  funext j
  by_cases h : j = a <;> simp [h]
theorem Zacz {E : Env} {me : Nat} {B : C} {s s' : St} {e : Ex} (h : evW E me B s = some (e, s')) (he : e ≠ .normal) : evW E me (.loop B) s = some (e, s') := by
  rw [Zbl, h]
  cases e <;> first | rfl | exact absurd rfl he
set_option maxHeartbeats 4000000 in
theorem Zauv {q len b i : Nat} : ∀ (j : Nat) (p1 p2 post : List Port) (x : Port) (M : Mem), p1.length = j → (p1 ++ x :: (p2 ++ post)).length = len → len ≤ 100 → M.blk q = some (Zcj (p1 ++ x :: (p2 ++ post))) → q < M.next →
    Zk9 (p1 ++ p2) → (∀ y ∈ p2, x.node ≤ y.node) → Z95 (p1 ++ x :: (p2 ++ post)) →
    ∃ M' r1 j', evW ES Zaa Zc5 ⟨Zao (.own q 4 0 len) (.int .i64 0) (.int .i64 b) (.fn Zbf [] []) (.int .i64 i) (.int .i64 j), M⟩ =
      some (.exit 2, ⟨(Zao (.own q 4 0 len) (.int .i64 0) (.int .i64 b) (.fn Zbf [] []) (.int .i64 i) j').set 34 (.bool false), M'⟩) ∧
      M'.blk q = some (Zcj (r1 ++ post)) ∧ r1.Perm (p1 ++ x :: p2) ∧ Zk9 r1 ∧ M.next ≤ M'.next := by
  intro j
  induction j with
  | zero =>
    intro p1 p2 post x M h1 h2 h3 hq hlt hs hx hsm
    obtain rfl : p1 = [] := List.length_eq_zero_iff.1 h1
    refine ⟨M.bump 17, x :: p2, .int .i64 0, ?_, by simpa using hq, List.Perm.refl _, ?_, by simp⟩
    · exact Zacz (by simp [Zbh, Zf, Zd, Ze, Zl, Zn, Zo, TK.agg, Zb, zeroS, Zi, Zg, splice, Zx, Z5, Zk, Zao]) (by simp)
    · exact List.pairwise_cons.2 ⟨hx, hs⟩
  | succ j ih =>
    intro p1 p2 post x M h1 h2 h3 hq hlt hs hx hsm
    obtain ⟨p, y, rfl⟩ : ∃ p y, p1 = p ++ [y] := ⟨p1.dropLast, p1.getLast (by intro h; subst h; simp at h1), (List.dropLast_concat_getLast _).symm⟩
    have hp : p.length = j := by simpa using h1
    have hjl : j + 1 < len := by simp at h2; omega
    have ix : Z9 ES.P Zaf (.own q 4 0 len) (.int .i64 ((j : Int) + 1)) = some (.ptr q (j + 1) 0) := by
      have := Zan4 (q := q) (len := len) (j := j + 1) (by simp at h2; omega)
      simpa using this
    have iy := Zan4 (q := q) (len := len) (j := j) (by simp at h2; omega)
    have hcx : (Zcj (p ++ [y] ++ x :: (p2 ++ post)))[j + 1]? = some (Zap x) := by rw [Z8y]; simp [← hp]
    have hcy : (Zcj (p ++ [y] ++ x :: (p2 ++ post)))[j]? = some (Zap y) := by rw [Z8y]; simp [← hp]
    have sx := hsm x (by simp)
    have sy := hsm y (by simp)
    have hcmp := fun get => Z7r get x y ⟨by omega, by omega, by omega, by omega⟩
    have hw : IntKind.i64.wrap (j : Int) = j := i64_in (by omega) (by omega)
    have hwm : IntKind.i64.wrap ((j : Int) + 1 - 1) = j := by rw [i64_in (by omega) (by omega)]; omega
    have hl1 : j + 1 < (Zcj (p ++ [y] ++ x :: (p2 ++ post))).length := by simp [Zcj]; simp at h2; omega
    have hl0 : j < (Zcj (p ++ [y] ++ x :: (p2 ++ post))).length := by omega
    have hex : (Zcj (p ++ [y] ++ x :: (p2 ++ post)))[j + 1] = Zap x := by have := hcx; rw [List.getElem?_eq_getElem hl1] at this; simpa using this
    have hey : (Zcj (p ++ [y] ++ x :: (p2 ++ post)))[j] = Zap y := by have := hcy; rw [List.getElem?_eq_getElem hl0] at this; simpa using this
    have hne : ∀ k, (q = M.next + k) = False := fun k => by simp; omega
    have hgt : (0 : Int) < (j : Int) + 1 := by omega
    have hnf := npF (f := Zbf) (by rfl) Zaa
    by_cases hlt2 : x.node < y.node
    · have hlt3 : x.node - y.node < 0 := by omega
      have hsw : ((Zcj (p ++ [y] ++ x :: (p2 ++ post))).set (j + 1) (Zap y)).set j (Zap x) = Zcj (p ++ x :: ((y :: p2) ++ post)) := by
        simp only [Zcj, List.map_append, List.map_cons, List.map_nil]
        subst hp
        simp [List.set_append]
      obtain ⟨M', r1, j', e1, e2, e3, e4, e5⟩ := ih p (y :: p2) post x ((M.bump 17).set q (some (Zcj (p ++ x :: ((y :: p2) ++ post))))) hp (by simp at h2 ⊢; omega) h3 (by simp) (by simp; omega) (by simpa using hs)
        (fun z hz => by
          rcases List.mem_cons.1 hz with h | h
          · subst h; omega
          · exact hx z h) (fun z hz => hsm z (by simp at hz ⊢; grind))
      refine ⟨M', r1, j', ?_, e2, e3.trans (by simpa using (List.Perm.append_left p (List.Perm.swap y x p2))), e4, by simp at e5; omega⟩
      clear ih hs hsm
      generalize Zcj (p ++ x :: ((y :: p2) ++ post)) = ls2 at *
      generalize Zcj (p ++ [y] ++ x :: (p2 ++ post)) = ls at *
      have hB : evW ES Zaa Zbh ⟨Zao (.own q 4 0 len) (.int .i64 0) (.int .i64 b) (.fn Zbf [] []) (.int .i64 i) (.int .i64 ((j + 1 : Nat) : Int)), M⟩ =
          some (.normal, ⟨Zao (.own q 4 0 len) (.int .i64 0) (.int .i64 b) (.fn Zbf [] []) (.int .i64 i) (.int .i64 j), (M.bump 17).set q (some ls2)⟩) := by
        simp [Zbh, Zf, Zd, Ze, Zl, Zn, Zo, TK.agg, Zb, zeroS, Zi, Zg, splice, Zx, Z5, Zk, Zao, hgt, ix, iy, hq, hlt, hne, hw, hwm, hcx, hcy, hl1, hl0, hex, hey, hcmp, hlt3, Zo7 hnf, hsw, Zavw]
      rw [← e1]
      unfold Zc5
      rw [Zbl, hB]
    · have hlt3 : ¬ (x.node - y.node < 0) := by omega
      refine ⟨M.bump 17, p ++ [y] ++ x :: p2, .int .i64 ((j + 1 : Nat) : Int), ?_, by simpa using hq, List.Perm.refl _, ?_, by simp⟩
      · clear hsm hs ih
        generalize Zcj (p ++ [y] ++ x :: (p2 ++ post)) = ls at *
        exact Zacz (by simp [Zbh, Zf, Zd, Ze, Zl, Zn, Zo, TK.agg, Zb, zeroS, Zi, Zg, splice, Zx, Z5, Zk, Zao, hgt, ix, iy, hq, hlt, hne, hw, hwm, hcx, hcy, hl1, hl0, hex, hey, hcmp, hlt3, Zo7 hnf]) (by simp)
      · unfold Zk9 at hs ⊢
        rw [List.pairwise_append] at hs ⊢
        refine ⟨hs.1, List.pairwise_cons.2 ⟨hx, hs.2.1⟩, fun a ha b hb => ?_⟩
        rcases List.mem_cons.1 hb with rfl | hb
        · have h4 := hs.1
          rw [List.pairwise_append] at h4
          rcases List.mem_append.1 ha with h5 | h5
          · have := h4.2.2 a h5 y (by simp); omega
          · simp at h5; subst h5; omega
        · exact hs.2.2 a ha b hb
set_option maxHeartbeats 4000000 in
theorem Zas4 {q len : Nat} (hl : len ≤ 100) {l : List Port} (hlen : l.length = len) (hsm : Z95 l) (M : Mem) (hq : M.blk q = some (Zcj l)) (hlt : q < M.next) :
    ∃ M' l', ICw ES Zaa [.own q 4 0 len, .int .i64 0, .int .i64 len, .fn Zbf [] []] M = some (.tup [], M') ∧
      M'.blk q = some (Zcj l') ∧ l'.Perm l ∧ Zk9 l' ∧ M.next ≤ M'.next := by
  rw [Zfv]
  have step : ∀ (i : Nat) (l1 : List Port) (M1 : Mem), 1 ≤ i → i < len → l1.Perm l → Zk9 (l1.take i) → M1.blk q = some (Zcj l1) → q < M1.next →
      ∃ M' l2, evW ES Zaa Za3 ⟨Zay (.own q 4 0 len) (.int .i64 0) (.int .i64 len) (.fn Zbf [] []) (.int .i64 i), M1⟩ =
        some (.normal, ⟨Zay (.own q 4 0 len) (.int .i64 0) (.int .i64 len) (.fn Zbf [] []) (.int .i64 ((i + 1 : Nat) : Int)), M'⟩) ∧
        l2.Perm l ∧ Zk9 (l2.take (i + 1)) ∧ M'.blk q = some (Zcj l2) ∧ M1.next ≤ M'.next := by
    intro i l1 M1 h1 h2 hp hs hb hlt1
    have hl1 : l1.length = len := by rw [hp.length_eq]; exact hlen
    have hi : i < l1.length := by omega
    have hsplit : l1 = l1.take i ++ l1[i] :: ([] ++ l1.drop (i + 1)) := by simp
    obtain ⟨M', r1, j', e1, e2, e3, e4, e5⟩ := Zauv (q := q) (len := len) (b := len) (i := i) i (l1.take i) [] (l1.drop (i + 1)) l1[i] M1 (by simp; omega) (by rw [← hsplit]; exact hl1) hl (by rw [← hsplit]; exact hb) hlt1 (by simpa using hs) (by simp) (by rw [← hsplit]; exact fun p hp' => hsm p (hp.mem_iff.1 hp'))
    have hw : IntKind.i64.wrap ((i : Int) + 1) = (i : Int) + 1 := i64_in (by omega) (by omega)
    have hr : r1.length = i + 1 := by rw [e3.length_eq]; simp; omega
    refine ⟨M', r1 ++ l1.drop (i + 1), ?_, ?_, ?_, e2, e5⟩
    · simp [Zao] at e1
      simp [Za3, Zf, Zd, Ze, Zl, Zn, Zo, TK.agg, Zb, zeroS, Zi, Zg, splice, Zx, Z5, Zk, Zay, h2, e1, hw]
    · refine List.Perm.trans ?_ hp
      have := e3.append_right (l1.drop (i + 1))
      refine this.trans (List.Perm.of_eq ?_)
      simp
    · rw [List.take_append_of_le_length (by omega), List.take_of_length_le (by omega)]
      exact e4
  obtain ⟨r, g1, M', l', rfl, k1, k2, k3, k4⟩ := Zke (E := ES) (me := Zaa) (B := Za3) (len := max 1 len)
    (T := fun i => Zay (.own q 4 0 len) (.int .i64 0) (.int .i64 len) (.fn Zbf [] []) (.int .i64 i))
    (I := fun i M1 => 1 ≤ i ∧ ∃ l1, l1.Perm l ∧ Zk9 (l1.take i) ∧ M1.blk q = some (Zcj l1) ∧ M.next ≤ M1.next)
    (Q := fun r => ∃ M' l', r = (.exit 0, ⟨(Zay (.own q 4 0 len) (.int .i64 0) (.int .i64 len) (.fn Zbf [] []) (.int .i64 ((max 1 len : Nat) : Int))).set 14 (.bool false), M'⟩) ∧ M'.blk q = some (Zcj l') ∧ l'.Perm l ∧ Zk9 l' ∧ M.next ≤ M'.next)
    (fun i M1 hi ⟨h1, l1, h2, h3, h4, h5⟩ => by
      left
      obtain ⟨M', l2, e1, e2, e3, e4, e5⟩ := step i l1 M1 h1 (by omega) h2 h3 h4 (by omega)
      exact ⟨M', e1, by omega, l2, e2, e3, e4, by omega⟩)
    (fun M1 ⟨h1, l1, h2, h3, h4, h5⟩ => by
      have hc : ¬ (((max 1 len : Nat) : Int) < (len : Int)) := by omega
      refine ⟨_, by simp [Za3, Zf, Zd, Ze, Zl, Zn, Zo, TK.agg, Zb, zeroS, Zi, Zg, splice, Zx, Z5, Zk, Zay, hc], by simp, M1, l1, rfl, h4, h2, ?_, h5⟩
      rwa [List.take_of_length_le (by rw [h2.length_eq]; omega)] at h3) 1 M (by omega) ⟨by omega, l, List.Perm.refl _, by
        cases l with
        | nil => simp [Zk9]
        | cons a t => simp [Zk9], hq, Nat.le_refl _⟩
  simp [Zay] at g1
  refine ⟨M', l', ?_, k1, k2, k3, k4⟩
  have h1w : IntKind.i64.wrap 1 = 1 := rfl
  simp [Zca, Zf, Zd, Ze, Zl, Zn, Zo, TK.agg, Zb, zeroS, Zi, Zg, splice, Zx, Z5, Zk, Zc4, g1, h1w]
theorem Zxd (n : Nat) (h : n ≤ 12) : ∃ v : Int, PCw ES Zpm [.int .u64 n] = some (.int .i64 v) := by
  have : n = 0 ∨ n = 1 ∨ n = 2 ∨ n = 3 ∨ n = 4 ∨ n = 5 ∨ n = 6 ∨ n = 7 ∨ n = 8 ∨ n = 9 ∨ n = 10 ∨ n = 11 ∨ n = 12 := by omega
  rcases this with rfl | rfl | rfl | rfl | rfl | rfl | rfl | rfl | rfl | rfl | rfl | rfl | rfl
  · exact ⟨0, Zeu 60 (by kernel_rfl)⟩
  · exact ⟨1, Zeu 60 (by kernel_rfl)⟩
  · exact ⟨2, Zeu 60 (by kernel_rfl)⟩
  · exact ⟨2, Zeu 60 (by kernel_rfl)⟩
  · exact ⟨3, Zeu 60 (by kernel_rfl)⟩
  · exact ⟨3, Zeu 60 (by kernel_rfl)⟩
  · exact ⟨3, Zeu 60 (by kernel_rfl)⟩
  · exact ⟨3, Zeu 60 (by kernel_rfl)⟩
  · exact ⟨4, Zeu 60 (by kernel_rfl)⟩
  · exact ⟨4, Zeu 60 (by kernel_rfl)⟩
  · exact ⟨4, Zeu 60 (by kernel_rfl)⟩
  · exact ⟨4, Zeu 60 (by kernel_rfl)⟩
  · exact ⟨4, Zeu 60 (by kernel_rfl)⟩
set_option maxHeartbeats 4000000 in
theorem Zadq {q len : Nat} (hl : len ≤ 12) {l : List Port} (hlen : l.length = len) (hsm : Z95 l) (M : Mem) (hq : M.blk q = some (Zcj l)) (hlt : q < M.next) :
    ∃ M' l', ICw ES Zaj [.own q 4 0 len, .fn Zbf [] []] M = some (.tup [], M') ∧
      M'.blk q = some (Zcj l') ∧ l'.Perm l ∧ Zk9 l' ∧ M.next ≤ M'.next := by
  rw [Zfy]
  obtain ⟨v, hv⟩ := Zxd len hl
  have hvc := fun get => Z4 (get := get) hv rfl
  have hw : IntKind.u64.wrap (len : Int) = len := by rw [IntKind.wrap_u64]; omega
  have hw2 : IntKind.i64.wrap (len : Int) = len := i64_in (by omega) (by omega)
  have h12 : (len : Int) ≤ 12 := by omega
  obtain ⟨M', l', g1, g2, g3, g4, g5⟩ := Zas4 (q := q) (len := len) (by omega) hlen hsm ((M.bump 7).bump 5) (by simpa using hq) (by simp; omega)
  have hp : ICw ES Zy [.own q 4 0 len, .int .i64 0, .int .i64 len, .int .i64 v, .fn Zbf [] []] (M.bump 7) = some (.tup [], M') := by
    rw [Zh4]
    simp [Zda, Zf, Zd, Ze, Zl, Zn, Zo, TK.agg, Zb, zeroS, Zi, Zg, splice, Zx, Z5, Zk, Zd4, Zbl, Zd7, h12, hw2, g1]
  refine ⟨M', l', ?_, g2, g3, g4, by simp at g5; omega⟩
  simp [Zcb, Zf, Zd, Ze, Zl, Zn, Zo, TK.agg, Zb, zeroS, Zi, Zg, splice, Zx, Z5, Zk, Zex, Zz8, hw, hvc, hp]
theorem Zabu (M : Mem) : ∃ M', ICw ES Zaj [.nilsl, .fn Zbf [] []] M = some (.tup [], M') ∧ M.next ≤ M'.next := by
  rw [Zfy]
  obtain ⟨v, hv⟩ := Zxd 0 (by omega)
  have hvc := fun get => Z4 (get := get) hv rfl
  have h1w : IntKind.i64.wrap 1 = 1 := rfl
  have h0w : IntKind.i64.wrap 0 = 0 := rfl
  have h0u : IntKind.u64.wrap 0 = 0 := rfl
  simp at hvc
  have hi : ICw ES Zaa [.nilsl, .int .i64 0, .int .i64 0, .fn Zbf [] []] ((M.bump 7).bump 5) = some (.tup [], (M.bump 7).bump 5) := by
    rw [Zfv]
    simp [Zca, Zf, Zd, Ze, Zl, Zn, Zo, TK.agg, Zb, zeroS, Zi, Zg, splice, Zx, Z5, Zk, Zc4, Zbl, Za3, h1w]
  have hp : ICw ES Zy [.nilsl, .int .i64 0, .int .i64 0, .int .i64 v, .fn Zbf [] []] (M.bump 7) = some (.tup [], (M.bump 7).bump 5) := by
    rw [Zh4]
    simp [Zda, Zf, Zd, Ze, Zl, Zn, Zo, TK.agg, Zb, zeroS, Zi, Zg, splice, Zx, Z5, Zk, Zd4, Zbl, Zd7, h0w, hi]
  refine ⟨(M.bump 7).bump 5, ?_, by simp; omega⟩
  simp [Zcb, Zf, Zd, Ze, Zl, Zn, Zo, TK.agg, Zb, zeroS, Zi, Zg, splice, Zx, Z5, Zk, Zex, Zz8, h0u, hvc, hp]

end Go.Proofs.YtfphjfbknphhjaaGreatDoor
