/-
  Walks of the seat's functions: Sl.
-/
import Derived.Test.YtfphjfbknphhjaaGreatDoorEb2
import Derived.Test.YtfphjfbknphhjaaGreatDoorShMb
set_option linter.unusedVariables false
set_option linter.unusedSimpArgs false
set_option maxRecDepth 100000
namespace Go.Proofs.YtfphjfbknphhjaaGreatDoor
open Go.Proofs.YtfphjfbknphhjaaGreatDoor.Sh
/-! What the library's functions on slices do. -/

def idxOf {α : Type} (p : α → Bool) (l : List α) : Int := match (List.range l.length).find? (fun j => (l[j]?.map p).getD false) with
  | some i => (i : Int)
  | none => -1

theorem Zaln {α : Type} {p : α → Bool} {l : List α} : (idxOf p l = -1 ∧ ∀ a ∈ l, p a = false) ∨ ∃ i, ∃ h : i < l.length, idxOf p l = i ∧ p l[i] = true ∧ ∀ j (hj : j < i), p (l[j]'(by omega)) = false := by
  unfold idxOf
  cases h : (List.range l.length).find? (fun j => (l[j]?.map p).getD false) with
  | none =>
    left
    rw [List.find?_range_eq_none] at h
    refine ⟨rfl, fun a ha => ?_⟩
    obtain ⟨j, hj, rfl⟩ := List.mem_iff_getElem.1 ha
    have := h j hj
    simpa [hj] using this
  | some i =>
    right
    rw [List.find?_range_eq_some] at h
    obtain ⟨h1, h2, h3⟩ := h
    have hi : i < l.length := by simpa using h2
    refine ⟨i, hi, rfl, by simpa [hi] using h1, fun j hj => ?_⟩
    have := h3 j hj
    have hj' : j < l.length := by omega
    simpa [hj'] using this

theorem Ztf {α : Type} (p : α → Bool) (l : List α) : decide (0 ≤ idxOf p l) = l.any p := by
  rcases Zaln (p := p) (l := l) with ⟨h1, h2⟩ | ⟨i, hi, h1, h2, h3⟩
  · rw [h1, List.any_eq_false.2 (fun a ha => by simp [h2 a ha])]; rfl
  · rw [h1, List.any_eq_true.2 ⟨l[i], List.getElem_mem hi, h2⟩]; simp
theorem Zoi {α : Type} {R : SV → α → Prop} {te : TI} (hE : Elm R te) (hte : Zbz ES.P Zc = some te) {x : SV} {l : List α} (hx : RSl R x l) (hb : l.length < 4611686018427387904) {f : Nat} {a c : List SV}
    (hnp : ∀ me, ((ES.prim f).isSome || ES.imp me f) = false) (p : α → Bool) (hp : ∀ get y v, R y v → v ∈ l → Za0 (PCw ES) get f (a ++ y :: c) = some (.bool (p v))) :
    PCw ES Zbd [x, .fn f a c] = some (.int .i64 (idxOf p l)) := by
  refine Za4 (fun M => ?_) rfl
  rw [Zou]
  obtain ⟨r, h1, M', h2⟩ := Zdc (E := ES) (me := Zbd) (B := Zcc) (len := l.length) (T := fun j => Za9 x (.fn f a c) (.int .i64 l.length) (.int .i64 j))
    (I := fun _ _ => True) (p := fun j => (l[j]?.map p).getD false)
    (Q := fun o r => ∃ M', r = match o with
      | some j => (.ret, ⟨(Za9 .Z .Z .Z .Z).set 4 (.int .i64 j), M'⟩)
      | none => (.exit 0, ⟨(Za9 x (.fn f a c) (.int .i64 l.length) (.int .i64 l.length)).set 9 (.bool false), M'⟩))
    (fun j M hj _ hpj => by
      obtain ⟨y, hy, _, ha, hl⟩ := hx.item Zb3 hte hE hj
      have hw : IntKind.i64.wrap ((j : Int) + 1) = (j : Int) + 1 := i64_in (by omega) (by omega)
      have hc := fun get => hp get y _ hy (List.getElem_mem hj)
      simp [hj] at hpj
      rw [hpj] at hc
      simp [Zcc, Zf, Zd, Ze, Zl, TK.agg, zeroS, Zx, Z5, Za9, hj, ha, hl, Zo7 (hnp _), hc, hw])
    (fun j M hj _ hpj => by
      obtain ⟨y, hy, _, ha, hl⟩ := hx.item Zb3 hte hE hj
      have hc := fun get => hp get y _ hy (List.getElem_mem hj)
      simp [hj] at hpj
      rw [hpj] at hc
      simp [Zcc, Zf, Zd, Ze, Zl, TK.agg, zeroS, Zx, Z5, Za9, hj, ha, hl, Zo7 (hnp _), hc])
    (fun M _ => by simp [Zcc, Zf, Zd, Ze, Zl, TK.agg, zeroS, Zx, Z5, Za9]) M trivial
  unfold idxOf
  cases hf : (List.range l.length).find? (fun j => (l[j]?.map p).getD false) with
  | none =>
    rw [hf] at h2
    subst h2
    simp [Za9] at h1
    simp [Zd0, Zf, Zd, Ze, Zl, TK.agg, zeroS, Zx, Z5, hx.Zex Zb3, Ze0, h1]
  | some j =>
    rw [hf] at h2
    subst h2
    simp [Za9] at h1
    simp [Zd0, Zf, Zd, Ze, Zl, TK.agg, zeroS, Zx, Z5, hx.Zex Zb3, Ze0, h1]
theorem Zox (get : Nat → Option (List SV)) {α : Type} {R : SV → α → Prop} {te : TI} (hE : Elm R te) (hte : Zbz ES.P Zc = some te) {x : SV} {l : List α} (hx : RSl R x l) (hb : l.length < 4611686018427387904) {f : Nat} {a c : List SV}
    (hnp : ∀ me, ((ES.prim f).isSome || ES.imp me f) = false) (p : α → Bool) (hp : ∀ get y v, R y v → v ∈ l → Za0 (PCw ES) get f (a ++ y :: c) = some (.bool (p v))) (hn : np Zar (.fn f a c) = true) :
    Za0 (PCw ES) get Zbd [x, .fn f a c] = some (.int .i64 (idxOf p l)) := Z4 (Zoi hE hte hx hb hnp p hp) (by simp [hx.npE hE, hn])
theorem Zjt {α : Type} {R : SV → α → Prop} {te : TI} (hE : Elm R te) (hte : Zbz ES.P Zw = some te) {x : SV} {l : List α} (hx : RSl R x l) (hb : l.length < 4611686018427387904) {f : Nat} {a c : List SV}
    (hnp : ∀ me, ((ES.prim f).isSome || ES.imp me f) = false) (p : α → Bool) (hp : ∀ get y v, R y v → v ∈ l → Za0 (PCw ES) get f (a ++ y :: c) = some (.bool (p v))) :
    PCw ES Zas [x, .fn f a c] = some (.int .i64 (idxOf p l)) := by
  refine Za4 (fun M => ?_) rfl
  rw [Zkd]
  obtain ⟨r, h1, M', h2⟩ := Zdc (E := ES) (me := Zas) (B := Zbc) (len := l.length) (T := fun j => Zak x (.fn f a c) (.int .i64 l.length) (.int .i64 j))
    (I := fun _ _ => True) (p := fun j => (l[j]?.map p).getD false)
    (Q := fun o r => ∃ M', r = match o with
      | some j => (.ret, ⟨(Zak .Z .Z .Z .Z).set 4 (.int .i64 j), M'⟩)
      | none => (.exit 0, ⟨(Zak x (.fn f a c) (.int .i64 l.length) (.int .i64 l.length)).set 9 (.bool false), M'⟩))
    (fun j M hj _ hpj => by
      obtain ⟨y, hy, _, ha, hl⟩ := hx.item Zbi hte hE hj
      have hw : IntKind.i64.wrap ((j : Int) + 1) = (j : Int) + 1 := i64_in (by omega) (by omega)
      have hc := fun get => hp get y _ hy (List.getElem_mem hj)
      simp [hj] at hpj
      rw [hpj] at hc
      simp [Zbc, Zf, Zd, Ze, Zl, TK.agg, zeroS, Zx, Z5, Zak, hj, ha, hl, Zo7 (hnp _), hc, hw])
    (fun j M hj _ hpj => by
      obtain ⟨y, hy, _, ha, hl⟩ := hx.item Zbi hte hE hj
      have hc := fun get => hp get y _ hy (List.getElem_mem hj)
      simp [hj] at hpj
      rw [hpj] at hc
      simp [Zbc, Zf, Zd, Ze, Zl, TK.agg, zeroS, Zx, Z5, Zak, hj, ha, hl, Zo7 (hnp _), hc])
    (fun M _ => by simp [Zbc, Zf, Zd, Ze, Zl, TK.agg, zeroS, Zx, Z5, Zak]) M trivial
  unfold idxOf
  cases hf : (List.range l.length).find? (fun j => (l[j]?.map p).getD false) with
  | none =>
    rw [hf] at h2
    subst h2
    simp [Zak] at h1
    simp [Zb6, Zf, Zd, Ze, Zl, TK.agg, zeroS, Zx, Z5, hx.Zex Zbi, Zcr, h1]
  | some j =>
    rw [hf] at h2
    subst h2
    simp [Zak] at h1
    simp [Zb6, Zf, Zd, Ze, Zl, TK.agg, zeroS, Zx, Z5, hx.Zex Zbi, Zcr, h1]
theorem Zj5 (get : Nat → Option (List SV)) {α : Type} {R : SV → α → Prop} {te : TI} (hE : Elm R te) (hte : Zbz ES.P Zw = some te) {x : SV} {l : List α} (hx : RSl R x l) (hb : l.length < 4611686018427387904) {f : Nat} {a c : List SV}
    (hnp : ∀ me, ((ES.prim f).isSome || ES.imp me f) = false) (p : α → Bool) (hp : ∀ get y v, R y v → v ∈ l → Za0 (PCw ES) get f (a ++ y :: c) = some (.bool (p v))) (hn : np Zar (.fn f a c) = true) :
    Za0 (PCw ES) get Zas [x, .fn f a c] = some (.int .i64 (idxOf p l)) := Z4 (Zjt hE hte hx hb hnp p hp) (by simp [hx.npE hE, hn])
theorem Zjv {α : Type} {R : SV → α → Prop} {te : TI} (hE : Elm R te) (hte : Zbz ES.P Zh = some te) {x : SV} {l : List α} (hx : RSl R x l) (hb : l.length < 4611686018427387904) {f : Nat} {a c : List SV}
    (hnp : ∀ me, ((ES.prim f).isSome || ES.imp me f) = false) (p : α → Bool) (hp : ∀ get y v, R y v → v ∈ l → Za0 (PCw ES) get f (a ++ y :: c) = some (.bool (p v))) :
    PCw ES Zat [x, .fn f a c] = some (.int .i64 (idxOf p l)) := by
  refine Za4 (fun M => ?_) rfl
  rw [Zj2]
  obtain ⟨r, h1, M', h2⟩ := Zdc (E := ES) (me := Zat) (B := Zbb) (len := l.length) (T := fun j => Zal x (.fn f a c) (.int .i64 l.length) (.int .i64 j))
    (I := fun _ _ => True) (p := fun j => (l[j]?.map p).getD false)
    (Q := fun o r => ∃ M', r = match o with
      | some j => (.ret, ⟨(Zal .Z .Z .Z .Z).set 4 (.int .i64 j), M'⟩)
      | none => (.exit 0, ⟨(Zal x (.fn f a c) (.int .i64 l.length) (.int .i64 l.length)).set 9 (.bool false), M'⟩))
    (fun j M hj _ hpj => by
      obtain ⟨y, hy, _, ha, hl⟩ := hx.item Zae hte hE hj
      have hw : IntKind.i64.wrap ((j : Int) + 1) = (j : Int) + 1 := i64_in (by omega) (by omega)
      have hc := fun get => hp get y _ hy (List.getElem_mem hj)
      simp [hj] at hpj
      rw [hpj] at hc
      simp [Zbb, Zf, Zd, Ze, Zl, TK.agg, zeroS, Zx, Z5, Zal, hj, ha, hl, Zo7 (hnp _), hc, hw])
    (fun j M hj _ hpj => by
      obtain ⟨y, hy, _, ha, hl⟩ := hx.item Zae hte hE hj
      have hc := fun get => hp get y _ hy (List.getElem_mem hj)
      simp [hj] at hpj
      rw [hpj] at hc
      simp [Zbb, Zf, Zd, Ze, Zl, TK.agg, zeroS, Zx, Z5, Zal, hj, ha, hl, Zo7 (hnp _), hc])
    (fun M _ => by simp [Zbb, Zf, Zd, Ze, Zl, TK.agg, zeroS, Zx, Z5, Zal]) M trivial
  unfold idxOf
  cases hf : (List.range l.length).find? (fun j => (l[j]?.map p).getD false) with
  | none =>
    rw [hf] at h2
    subst h2
    simp [Zal] at h1
    simp [Zb5, Zf, Zd, Ze, Zl, TK.agg, zeroS, Zx, Z5, hx.Zex Zae, Zcs, h1]
  | some j =>
    rw [hf] at h2
    subst h2
    simp [Zal] at h1
    simp [Zb5, Zf, Zd, Ze, Zl, TK.agg, zeroS, Zx, Z5, hx.Zex Zae, Zcs, h1]
theorem Zkj (get : Nat → Option (List SV)) {α : Type} {R : SV → α → Prop} {te : TI} (hE : Elm R te) (hte : Zbz ES.P Zh = some te) {x : SV} {l : List α} (hx : RSl R x l) (hb : l.length < 4611686018427387904) {f : Nat} {a c : List SV}
    (hnp : ∀ me, ((ES.prim f).isSome || ES.imp me f) = false) (p : α → Bool) (hp : ∀ get y v, R y v → v ∈ l → Za0 (PCw ES) get f (a ++ y :: c) = some (.bool (p v))) (hn : np Zar (.fn f a c) = true) :
    Za0 (PCw ES) get Zat [x, .fn f a c] = some (.int .i64 (idxOf p l)) := Z4 (Zjv hE hte hx hb hnp p hp) (by simp [hx.npE hE, hn])
theorem Zml {α : Type} {R : SV → α → Prop} {te : TI} (hE : Elm R te) (hte : Zbz ES.P Zc = some te) {x : SV} {l : List α} (hx : RSl R x l) (hb : l.length < 4611686018427387904) {f : Nat} {a c : List SV}
    (hnp : ∀ me, ((ES.prim f).isSome || ES.imp me f) = false) (p : α → Bool) (hp : ∀ get y v, R y v → v ∈ l → Za0 (PCw ES) get f (a ++ y :: c) = some (.bool (p v))) (hn : np Zar (.fn f a c) = true) :
    PCw ES Za6 [x, .fn f a c] = some (.bool (l.any p)) := by
  refine Za4 (fun M => ?_) rfl
  rw [Znc]
  simp [Ze1, Zf, Zd, Ze, Zl, TK.agg, zeroS, Zx, Z5, Zox _ hE hte hx hb hnp p hp hn, Ztf]
theorem Zek {α : Type} {R : SV → α → Prop} {te : TI} (hE : Elm R te) (hte : Zbz ES.P Zw = some te) {x : SV} {l : List α} (hx : RSl R x l) (hb : l.length < 4611686018427387904) {f : Nat} {a c : List SV}
    (hnp : ∀ me, ((ES.prim f).isSome || ES.imp me f) = false) (p : α → Bool) (hp : ∀ get y v, R y v → v ∈ l → Za0 (PCw ES) get f (a ++ y :: c) = some (.bool (p v))) (hn : np Zar (.fn f a c) = true) :
    PCw ES Z8 [x, .fn f a c] = some (.bool (l.any p)) := by
  refine Za4 (fun M => ?_) rfl
  rw [Zi8]
  simp [Zct, Zf, Zd, Ze, Zl, TK.agg, zeroS, Zx, Z5, Zj5 _ hE hte hx hb hnp p hp hn, Ztf]
theorem Zis {α : Type} {R : SV → α → Prop} {te : TI} (hE : Elm R te) (hte : Zbz ES.P Zh = some te) {x : SV} {l : List α} (hx : RSl R x l) (hb : l.length < 4611686018427387904) {f : Nat} {a c : List SV}
    (hnp : ∀ me, ((ES.prim f).isSome || ES.imp me f) = false) (p : α → Bool) (hp : ∀ get y v, R y v → v ∈ l → Za0 (PCw ES) get f (a ++ y :: c) = some (.bool (p v))) (hn : np Zar (.fn f a c) = true) :
    PCw ES Zai [x, .fn f a c] = some (.bool (l.any p)) := by
  refine Za4 (fun M => ?_) rfl
  rw [Zi7]
  simp [Zcv, Zf, Zd, Ze, Zl, TK.agg, zeroS, Zx, Z5, Zkj _ hE hte hx hb hnp p hp hn, Ztf]
end Go.Proofs.YtfphjfbknphhjaaGreatDoor

/-
  Walks of the seat's functions: Cl.
-/
set_option linter.unusedVariables false
set_option linter.unusedSimpArgs false
set_option maxRecDepth 100000
namespace Go.Proofs.YtfphjfbknphhjaaGreatDoor
open Go.Proofs.YtfphjfbknphhjaaGreatDoor.Sh
/-! slices.Clone in the caller's memory. -/
def Zzg (l : List Int) : List SV := l.map (.int .i64)
theorem Zabf (l : List Int) : (Zzg l).length = l.length := by simp [Zzg]
def Nums (x : SV) (l : List Int) : Prop := RSl (fun y n => y = .int .i64 n) x l
theorem Nums.np {x : SV} {l : List Int} (h : Nums x l) : Sh.np Zar x = true := Zwn (by decide) (RSl.np h (n := 9) fun y a h => by rw [h]; rfl)
end Go.Proofs.YtfphjfbknphhjaaGreatDoor

/-
  Walks of the seat's functions: Vp.
-/
set_option linter.unusedVariables false
set_option linter.unusedSimpArgs false
set_option maxRecDepth 100000
namespace Go.Proofs.YtfphjfbknphhjaaGreatDoor
open Go.Proofs.YtfphjfbknphhjaaGreatDoor.Sh
/-! What comes in is plain. -/
theorem Z4j {P : Program} {e : Nat} {ys : List SV} (h : pvs ys = true) : Sh.pv (mkV P e ys) = true := by
  unfold mkV
  split
  · simpa [Sh.pv] using h
  · cases ys with
    | nil => rfl
    | cons y r => simp only [pvs, Bool.and_eq_true] at h; exact h.1
theorem Z7a {P : Program} : ∀ (n t : Nat) (xs : List SV), WT P n t xs → pvs xs = true
  | 0, _, _, h => by simp [WT] at h
  | n + 1, t, xs, h => by
    unfold WT at h
    split at h
    · obtain ⟨b, rfl⟩ := h; rfl
    · obtain ⟨b, rfl, _⟩ := h; rfl
    · obtain ⟨b, rfl, _⟩ := h; rfl
    · rcases h with rfl | ⟨items, rfl, _, hi⟩
      · rfl
      · simp only [pvs, Sh.pv, Bool.and_true, Bool.and_eq_true]
        refine ⟨rfl, Zkf.2 fun y hy => ?_⟩
        obtain ⟨ys, rfl, hw⟩ := hi y hy
        exact Z4j (Z7a n _ ys hw)
    · obtain ⟨parts, rfl, hl, hp⟩ := h
      refine Zkf.2 fun x hx => ?_
      obtain ⟨p, hp1, hx2⟩ := List.mem_flatten.1 hx
      obtain ⟨i, hi, rfl⟩ := List.mem_iff_getElem.1 hp1
      have hi2 := hi
      rw [hl] at hi2
      exact Zkf.1 (Z7a n _ _ (hp i _ _ (Array.getElem?_eq_getElem hi2) (List.getElem?_eq_getElem hi))) x hx2
    · obtain ⟨parts, rfl, hl, hp⟩ := h
      refine Zkf.2 fun x hx => ?_
      obtain ⟨p, hp1, hx2⟩ := List.mem_flatten.1 hx
      exact Zkf.1 (Z7a n _ _ (hp p hp1)) x hx2
    · cases h

end Go.Proofs.YtfphjfbknphhjaaGreatDoor

/-
  Walks of the seat's functions: Ap.
-/
set_option linter.unusedVariables false
set_option linter.unusedSimpArgs false
set_option maxRecDepth 100000
namespace Go.Proofs.YtfphjfbknphhjaaGreatDoor
open Go.Proofs.YtfphjfbknphhjaaGreatDoor.Sh
/-! append of whatever list: a slice that came in, or a part of one of the call's own. -/
def Keeps (o : SV) (M M' : Mem) : Prop := ∀ id, id < M.next → (∀ e a b, o ≠ .own id e a b) → M'.blk id = M.blk id
theorem Z1a {o : SV} {X : Mem} {s : Nat} (hne : ∀ e a b, o ≠ .own s e a b) : (X.sets (Zrd o)).blk s = X.blk s := by
  cases o <;> simp [Zrd, Mem.sets]
  rename_i id e a b
  intro hh
  subst hh
  exact absurd rfl (hne e a b)
theorem Zg1.Zas8 {P : Program} {get : Nat → Option (List SV)} {o x : SV} {M X : Mem} {items ys : List SV} {a t e s1 b1 : Nat} {z1 : Option SV} {te : TI} {z : SV} (ht : Zbz P t = some ⟨.slice e, s1, b1, z1⟩) (hte : Zbz P e = some te)
    (hz : te.zero = some z) (h0 : 0 < te.size) (hsz : z.sto = true) (hc : z.cells.length = te.size) (hI : Zg1 te.size o M items) (h1 : (items.length + ys.length) * te.bytes ≤ 140737488355328) (h2 : items.length + ys.length ≤ 140737488355328)
    (hg : ∀ id, id < M.next → get id = M.blk id) (hx : Zkn get x = some ys) (hf : Zj0 (.slice e) te.size x = true) (hu : Sh.Zv5 te.size ys = true) (hX : Old M X) (hXn : a < X.next) (hMX : M.next ≤ X.next) (hMa : M.next ≤ a) :
    ∃ o' kl, Zef P get a t t o x = some (o', kl) ∧ Zg1 te.size o' (X.sets kl) (items ++ ys) ∧ Keeps o M (X.sets kl) ∧ (X.sets kl).next = X.next ∧ (∀ id e a b, o' = .own id e a b → M.next ≤ id ∨ o' = o) := by
  by_cases hy : ys = []
  · subst hy
    refine ⟨o, [], ?_, by simpa using hI.old hX hMX, fun id hid _ => hX id hid, rfl, fun _ _ _ _ _ => .inr rfl⟩
    rcases hI with ⟨rfl, rfl⟩ | ⟨id, rfl, hid, hlt⟩
    · rw [Zpr (ys := []) ht ht hte hz hx h0 hu hf hsz hc (by simp) (by simp)]
      rfl
    · rw [Zlv (ys := []) (xs := items) ht ht hte hz hx h0 hu hf hsz hc ((hg id hlt).trans hid) (Nat.le_refl _) h1 h2]
      rfl
  · have he : ys.isEmpty = false := by cases ys with | nil => exact absurd rfl hy | cons _ _ => rfl
    refine ⟨.own a te.size 0 (items.length + ys.length), Zrd o ++ [(a, some (items ++ ys))], ?_, .inr ⟨a, by simp, by simp, by simpa using hXn⟩, fun id hid hne => ?_, by simp, fun id e a' b h => by cases h; exact .inl hMa⟩
    · rcases hI with ⟨rfl, rfl⟩ | ⟨id, rfl, hid, hlt⟩
      · rw [Zpr (ys := ys) ht ht hte hz hx h0 hu hf hsz hc (by simpa using h1) (by simpa using h2), he]
        simp [Zrd]
      · rw [Zlv (ys := ys) (xs := items) ht ht hte hz hx h0 hu hf hsz hc ((hg id hlt).trans hid) (Nat.le_refl _) h1 h2, he]
        simp [Zrd]
    · rw [Mem.Zr6]
      show ((X.sets (Zrd o)).set a (some (items ++ ys))).blk id = _
      rw [Mem.Ziy, if_neg (by omega), Z1a hne]
      exact hX id hid
end Go.Proofs.YtfphjfbknphhjaaGreatDoor
