/-
  The shadow interpreter, text 17: slices, numbers, for the walks. No condition.
-/
import Derived.Test.YtbdliphlolajaaaDoorShSq
import Derived.Laws.Small
set_option linter.unusedVariables false
set_option linter.unusedSimpArgs false
namespace Go.Proofs.YtbdliphlolajaaaDoor.Sh
variable {P : Program} {α : Type}

/-- The items of a slice that came in. -/
def its : SV → List SV
  | .sl l _ => l
  | _ => []
def isSl : SV → Bool
  | .nilsl => true
  | .sl _ _ => true
  | _ => false
def stOf : SV → Bool
  | .sl _ tl => tl != .snap
  | _ => true

/-- A slice whose items stand for those of a list. -/
structure RSl (R : SV → α → Prop) (x : SV) (l : List α) : Prop where
  sl : isSl x = true
  len : (its x).length = l.length
  at' : ∀ (j : Nat) (y : SV) (a : α), (its x)[j]? = some y → l[j]? = some a → R y a

def IsI (k : IntKind) (y : SV) (n : Int) : Prop := y = .int k n

theorem RSl.get {R : SV → α → Prop} {x : SV} {l : List α} (h : RSl R x l) {j : Nat} (hj : j < l.length) : ∃ y, (its x)[j]? = some y ∧ R y l[j] := by
  have hj' : j < (its x).length := by rw [h.len]; exact hj
  exact ⟨(its x)[j], by simp [hj'], h.at' j _ _ (by simp [hj']) (by simp [hj])⟩

theorem RSl.np {R : SV → α → Prop} {x : SV} {l : List α} (h : RSl R x l) {n : Nat} (hR : ∀ y a, R y a → np n y = true) : np (n + 1) x = true := by
  have hs := h.sl
  have ha := h.len
  cases x <;> simp [isSl] at hs
  · exact np_of_pv rfl _
  · rename_i items tl
    simp only [Sh.np, Bool.or_eq_true]
    refine .inr (List.all_eq_true.2 fun y hy => ?_)
    obtain ⟨j, hj, rfl⟩ := List.mem_iff_getElem.1 hy
    have hj' : j < l.length := by rw [← ha]; exact hj
    exact hR _ l[j] (h.at' j _ _ (by simp [its, hj]) (by simp [hj']))

theorem RSl.pv {R : SV → α → Prop} {items : List SV} {tl : Tl} {l : List α} (h : RSl R (.sl items tl) l) (hR : ∀ y a, R y a → Sh.pv y = true) : ∀ y ∈ items, Sh.pv y = true := by
  intro y hy
  obtain ⟨j, hj, rfl⟩ := List.mem_iff_getElem.1 hy
  have hj' : j < l.length := by rw [← h.len]; exact hj
  exact hR _ l[j] (h.at' j _ _ (by simp [its, hj]) (by simp [hj']))

theorem RSl.nil (R : SV → α → Prop) : RSl R .nilsl [] := ⟨rfl, rfl, fun j y a h => by simp [its] at h⟩

theorem RSl.mk' {R : SV → α → Prop} {items : List SV} {tl : Tl} {l : List α} (hl : items.length = l.length) (h : ∀ (j : Nat) (y : SV) (a : α), items[j]? = some y → l[j]? = some a → R y a) : RSl R (.sl items tl) l :=
  ⟨rfl, hl, h⟩

theorem lenS_sl {x : SV} {t e a b : Nat} {z : Option SV} (h : isSl x = true) (ht : tiOf P t = some ⟨.slice e, a, b, z⟩) : lenS P t x = some (.int .i64 (its x).length) := by
  cases x <;> simp [isSl] at h <;> simp [lenS, ht, its]

theorem RSl.lenS {R : SV → α → Prop} {x : SV} {l : List α} (h : RSl R x l) {t e a b : Nat} {z : Option SV} (ht : tiOf P t = some ⟨.slice e, a, b, z⟩) : Sh.lenS P t x = some (.int .i64 l.length) := by
  rw [lenS_sl h.sl ht, h.len]

theorem indexAddr_sl {x y : SV} {t e a b : Nat} {z : Option SV} {te : TI} {k : IntKind} {i : Int} {j : Nat} (h : isSl x = true) (ht : tiOf P t = some ⟨.slice e, a, b, z⟩) (hte : tiOf P e = some te)
    (hi : i = (j : Int)) (hy : (its x)[j]? = some y) (hc : y.cells.length = te.size) : indexAddrS P t x (.int k i) = some (.rptr (its x) j 0 (stOf x)) := by
  subst hi
  cases x <;> simp [isSl] at h
  · simp [its] at hy
  · rename_i items tl
    have hn : natS (.int k (j : Int)) = some j := by simp [natS]
    simp only [its] at hy ⊢
    simp only [indexAddrS, ht, hn, hte, hy, hc, if_true, stOf]

/-- The address of an item, and the item. -/
theorem RSl.addr {R : SV → α → Prop} {x : SV} {l : List α} (h : RSl R x l) {t e a b : Nat} {z : Option SV} {te : TI} (ht : tiOf P t = some ⟨.slice e, a, b, z⟩) (hte : tiOf P e = some te)
    (hR : ∀ y a, R y a → y.cells.length = te.size) {j : Nat} (hj : j < l.length) : ∃ y, R y l[j] ∧ (its x)[j]? = some y ∧ ∀ (k : IntKind) (i : Int), i = (j : Int) → indexAddrS P t x (.int k i) = some (.rptr (its x) j 0 (stOf x)) := by
  obtain ⟨y, hy, hr⟩ := h.get hj
  exact ⟨y, hr, hy, fun k i hi => indexAddr_sl h.sl ht hte hi hy (hR _ _ hr)⟩

theorem loadS_rptr {get : Nat → Option (List SV)} {t i o : Nat} {items : List SV} {st : Bool} {x y : SV} {ti : TI} (ht : tiOf P t = some ti) (hx : items[i]? = some x) (hp : partS ti x o = some y) :
    loadS P get t (.rptr items i o st) = some y := by
  simp only [loadS, ht, hx, hp]

theorem i64_in {n : Int} (h1 : -9223372036854775808 ≤ n) (h2 : n ≤ 9223372036854775807) : IntKind.i64.wrap n = n := by rw [IntKind.wrap_i64]; omega
theorem u8_in {n : Int} (h1 : 0 ≤ n) (h2 : n ≤ 255) : IntKind.u8.wrap n = n := by rw [IntKind.wrap_u8]; omega

/-! ### Numbers -/
variable {t : Nat} {c : Bool} {k : IntKind} {a b : Int}

@[simp] theorem binS_add : binS P .add t c (.int k a) (.int k b) = some (.int k (k.wrap (a + b))) := by simp [binS, Go.binOp, Op.intArith, semV, pure]
@[simp] theorem binS_sub : binS P .sub t c (.int k a) (.int k b) = some (.int k (k.wrap (a - b))) := by simp [binS, Go.binOp, Op.intArith, semV, pure]
@[simp] theorem binS_mul : binS P .mul t c (.int k a) (.int k b) = some (.int k (k.wrap (a * b))) := by simp [binS, Go.binOp, Op.intArith, semV, pure]
@[simp] theorem binS_lss : binS P .lss t c (.int k a) (.int k b) = some (.bool (decide (a < b))) := by simp [binS, Go.binOp, Op.intCmp, semV, pure]
@[simp] theorem binS_leq : binS P .leq t c (.int k a) (.int k b) = some (.bool (decide (a ≤ b))) := by simp [binS, Go.binOp, Op.intCmp, semV, pure]
@[simp] theorem binS_gtr : binS P .gtr t c (.int k a) (.int k b) = some (.bool (decide (b < a))) := by simp [binS, Go.binOp, Op.intCmp, semV, pure]
@[simp] theorem binS_geq : binS P .geq t c (.int k a) (.int k b) = some (.bool (decide (b ≤ a))) := by simp [binS, Go.binOp, Op.intCmp, semV, pure]
@[simp] theorem binS_eql : binS P .eql t c (.int k a) (.int k b) = some (.bool (decide (a = b))) := by simp [binS, Go.binOp, Op.intCmp, semV, pure]; rfl
@[simp] theorem binS_neq : binS P .neq t c (.int k a) (.int k b) = some (.bool (decide (a ≠ b))) := by simp [binS, Go.binOp, Op.intCmp, semV, pure]; rfl
theorem binS_eqlB {x y : Bool} {s bs : Nat} {z : Option SV} (ht : tiOf P t = some ⟨.bool, s, bs, z⟩) : binS P .eql t c (.bool x) (.bool y) = some (.bool (x == y)) := by simp [binS, eqS, ht]
theorem binS_neqB {x y : Bool} {s bs : Nat} {z : Option SV} (ht : tiOf P t = some ⟨.bool, s, bs, z⟩) : binS P .neq t c (.bool x) (.bool y) = some (.bool (!(x == y))) := by simp [binS, eqS, ht]
def shlI (k : IntKind) (x y : Int) : Int := k.wrap (x * 2 ^ (min y.toNat k.bits))
def orI (k : IntKind) (x y : Int) : Int := k.wrap (BitVec.ofInt k.bits x ||| BitVec.ofInt k.bits y).toNat
theorem binS_shl {yk : IntKind} (h : 0 ≤ b) : binS P .shl t c (.int k a) (.int yk b) = some (.int k (shlI k a b)) := by
  have h' : ¬ b < 0 := by omega
  simp [binS, Go.binOp, Op.shift, semV, pure, h', shlI]
@[simp] theorem binS_or : binS P .or t c (.int k a) (.int k b) = some (.int k (orI k a b)) := by simp [binS, Go.binOp, Op.intBits, semV, pure, orI]
@[simp] theorem unS_not (b : Bool) : unS .not (.bool b) = some (.bool (!b)) := rfl

/-- A loop that counts up: what holds at its head, round by round. -/
theorem loop_up {E : Env} {me : Nat} {B : C} {T : Nat → List SV} {I : Nat → Mem → Prop} {len : Nat} {Q : Ex × St → Prop}
    (step : ∀ j M, j < len → I j M → (∃ M', evW E me B ⟨T j, M⟩ = some (.normal, ⟨T (j + 1), M'⟩) ∧ I (j + 1) M') ∨ ∃ r, evW E me B ⟨T j, M⟩ = some r ∧ r.1 ≠ .normal ∧ Q r)
    (fin : ∀ M, I len M → ∃ r, evW E me B ⟨T len, M⟩ = some r ∧ r.1 ≠ .normal ∧ Q r) (j : Nat) (M : Mem) (hj : j ≤ len) (hI : I j M) :
    ∃ r, evW E me (.loop B) ⟨T j, M⟩ = some r ∧ Q r := by
  have out : ∀ s : St, (∃ r, evW E me B s = some r ∧ r.1 ≠ .normal ∧ Q r) → ∃ r, evW E me (.loop B) s = some r ∧ Q r := by
    rintro s ⟨⟨e, s'⟩, h, he, hq⟩
    refine ⟨(e, s'), ?_, hq⟩
    rw [evW_loop, h]
    cases e with
    | normal => exact absurd rfl he
    | exit => rfl
    | ret => rfl
  obtain ⟨n, hn⟩ : ∃ n, n = len - j := ⟨_, rfl⟩
  induction n generalizing j M with
  | zero =>
    obtain rfl : j = len := by omega
    exact out _ (fin M hI)
  | succ n ih =>
    rcases step j M (by omega) hI with ⟨M', h, hI'⟩ | h
    · rw [evW_loop, h]
      exact ih (j + 1) M' (by omega) hI' (by omega)
    · exact out _ h

/-- The same, where what the temps hold hangs on a state of its own. -/
theorem loop_st {E : Env} {me : Nat} {B : C} {β : Type} {T : Nat → β → List SV} {I : Nat → β → Mem → Prop} {len : Nat} {Q : Ex × St → Prop}
    (step : ∀ j b M, j < len → I j b M → (∃ b' M', evW E me B ⟨T j b, M⟩ = some (.normal, ⟨T (j + 1) b', M'⟩) ∧ I (j + 1) b' M') ∨ ∃ r, evW E me B ⟨T j b, M⟩ = some r ∧ r.1 ≠ .normal ∧ Q r)
    (fin : ∀ b M, I len b M → ∃ r, evW E me B ⟨T len b, M⟩ = some r ∧ r.1 ≠ .normal ∧ Q r) (j : Nat) (b : β) (M : Mem) (hj : j ≤ len) (hI : I j b M) :
    ∃ r, evW E me (.loop B) ⟨T j b, M⟩ = some r ∧ Q r := by
  have out : ∀ s : St, (∃ r, evW E me B s = some r ∧ r.1 ≠ .normal ∧ Q r) → ∃ r, evW E me (.loop B) s = some r ∧ Q r := by
    rintro s ⟨⟨e, s'⟩, h, he, hq⟩
    refine ⟨(e, s'), ?_, hq⟩
    rw [evW_loop, h]
    cases e with
    | normal => exact absurd rfl he
    | exit => rfl
    | ret => rfl
  obtain ⟨n, hn⟩ : ∃ n, n = len - j := ⟨_, rfl⟩
  induction n generalizing j b M with
  | zero =>
    obtain rfl : j = len := by omega
    exact out _ (fin b M hI)
  | succ n ih =>
    rcases step j b M (by omega) hI with ⟨b', M', h, hI'⟩ | h
    · rw [evW_loop, h]
      exact ih (j + 1) b' M' (by omega) hI' (by omega)
    · exact out _ h

/-! ### append -/

theorem appendS_nil {get : Nat → Option (List SV)} {a t t2 e s1 b1 : Nat} {z1 : Option SV} {k2 te : TI} {z x : SV} {ys : List SV} (ht : tiOf P t = some ⟨.slice e, s1, b1, z1⟩) (ht2 : tiOf P t2 = some k2) (hte : tiOf P e = some te)
    (hz : te.zero = some z) (hx : itemsS get x = some ys) (h0 : 0 < te.size) (hu : unif te.size ys = true) (hf : srcFits k2.kind te.size x = true) (hs : z.sto = true) (hc : z.cells.length = te.size)
    (h1 : ys.length * te.bytes ≤ 140737488355328) (h2 : ys.length ≤ 140737488355328) :
    appendS P get a t t2 .nilsl x = some (if ys.isEmpty then (.nilsl, []) else (.own a te.size 0 ys.length, [(a, some ys)])) := by
  simp only [appendS, ht, ht2, hte, hz, hx]
  rw [if_pos ⟨h0, hu, hf, hs, hc⟩]
  cases hy : ys.isEmpty
  · simp only [Bool.false_eq_true, if_false]
    rw [if_pos ⟨h1, h2⟩]
  · simp

theorem appendS_own {get : Nat → Option (List SV)} {a t t2 e s1 b1 id len : Nat} {z1 : Option SV} {k2 te : TI} {z x : SV} {xs ys : List SV} (ht : tiOf P t = some ⟨.slice e, s1, b1, z1⟩) (ht2 : tiOf P t2 = some k2) (hte : tiOf P e = some te)
    (hz : te.zero = some z) (hx : itemsS get x = some ys) (h0 : 0 < te.size) (hu : unif te.size ys = true) (hf : srcFits k2.kind te.size x = true) (hs : z.sto = true) (hc : z.cells.length = te.size)
    (hg : get id = some xs) (hl : len ≤ xs.length) (h1 : (len + ys.length) * te.bytes ≤ 140737488355328) (h2 : len + ys.length ≤ 140737488355328) :
    appendS P get a t t2 (.own id te.size 0 len) x = some (if ys.isEmpty then (.own id te.size 0 len, []) else (.own a te.size 0 (len + ys.length), [(id, none), (a, some (xs.take len ++ ys))])) := by
  simp only [appendS, ht, ht2, hte, hz, hx]
  rw [if_pos ⟨h0, hu, hf, hs, hc⟩]
  cases hy : ys.isEmpty
  · simp only [Bool.false_eq_true, if_false, hg]
    rw [if_pos ⟨trivial, trivial, hl, h1, h2⟩]
  · simp

theorem itemsS_sl {get : Nat → Option (List SV)} {x : SV} (h : isSl x = true) : itemsS get x = some (its x) := by
  cases x <;> simp [isSl] at h <;> rfl

theorem srcFits_sl {e n : Nat} {x : SV} (h : isSl x = true) : srcFits (.slice e) n x = true := by
  cases x <;> simp [isSl] at h <;> rfl

theorem RSl.unif {R : SV → α → Prop} {x : SV} {l : List α} (h : RSl R x l) {n : Nat} (hR : ∀ y a, R y a → y.cells.length = n) : Sh.unif n (its x) = true := by
  refine unif_iff.2 fun y hy => ?_
  obtain ⟨j, hj, rfl⟩ := List.mem_iff_getElem.1 hy
  have hj' : j < l.length := by rw [← h.len]; exact hj
  exact hR _ l[j] (h.at' j _ _ (by simp [hj]) (by simp [hj']))

theorem RSl.pvs {R : SV → α → Prop} {x : SV} {l : List α} (h : RSl R x l) (hR : ∀ y a, R y a → Sh.pv y = true) : ∀ y ∈ its x, Sh.pv y = true := by
  intro y hy
  obtain ⟨j, hj, rfl⟩ := List.mem_iff_getElem.1 hy
  have hj' : j < l.length := by rw [← h.len]; exact hj
  exact hR _ l[j] (h.at' j _ _ (by simp [hj]) (by simp [hj']))

/-- The same items, in another slice. -/
theorem RSl.of_its {R : SV → α → Prop} {x y : SV} {l : List α} (h : RSl R x l) (hy : isSl y = true) (he : its y = its x) : RSl R y l :=
  ⟨hy, by rw [he]; exact h.len, fun j u a hu ha => h.at' j u a (by rw [← he]; exact hu) ha⟩

/-- What a function gathers: nothing yet, or a block of its own. -/
def OutR (esz : Nat) (o : SV) (M : Mem) (items : List SV) : Prop := (items = [] ∧ o = .nilsl) ∨ ∃ id, o = .own id esz 0 items.length ∧ M.blk id = some items ∧ id < M.next

theorem PCw_out {E : Env} {f esz : Nat} {args : List SV} {Pr : List SV → Prop} (h : ∀ M, ∃ o M' items, ICw E f args M = some (o, M') ∧ OutR esz o M' items ∧ Pr items) (hp : ∀ items, Pr items → ∀ y ∈ items, Sh.pv y = true) :
    ∃ y items, PCw E f args = some y ∧ Pr items ∧ isSl y = true ∧ its y = items ∧ Sh.pv y = true := by
  obtain ⟨o, M', items, h1, h2, h3⟩ := h .empty
  rcases h2 with ⟨rfl, rfl⟩ | ⟨id, rfl, h4, _⟩
  · exact ⟨.nilsl, [], PCw_of h1 rfl, h3, rfl, rfl, rfl⟩
  · have hpl := hp items h3
    have := pic_own (esz := esz) h4 (Nat.le_refl _) hpl
    rw [List.take_length] at this
    have hv : Sh.pv (.sl items .ro) = true := by simp [Sh.pv, pv_items hpl]
    exact ⟨.sl items .ro, items, PCw_pic h1 this hv, h3, rfl, rfl, hv⟩

/-- One more is gathered. -/
theorem append_one {get : Nat → Option (List SV)} {a t e s1 b1 s : Nat} {z1 : Option SV} {te : TI} {z v : SV} (ht : tiOf P t = some ⟨.slice e, s1, b1, z1⟩) (hte : tiOf P e = some te)
    (hz : te.zero = some z) (h0 : 0 < te.size) (hsz : z.sto = true) (hc : z.cells.length = te.size) (hv : v.cells.length = te.size) (hs : get s = some [v]) (hb : te.bytes ≤ 140737488355328) :
    appendS P get a t t .nilsl (.own s te.size 0 1) = some (.own a te.size 0 1, [(a, some [v])]) := by
  rw [appendS_nil (ys := [v]) ht ht hte hz (by simp [itemsS, hs]) h0 (by simp [Sh.unif, hv]) (by simp [srcFits]) hsz hc (by simpa using hb) (by simp)]
  rfl

theorem append_more {get : Nat → Option (List SV)} {a t e s1 b1 s id : Nat} {z1 : Option SV} {te : TI} {z v : SV} {items : List SV} (ht : tiOf P t = some ⟨.slice e, s1, b1, z1⟩) (hte : tiOf P e = some te)
    (hz : te.zero = some z) (h0 : 0 < te.size) (hsz : z.sto = true) (hc : z.cells.length = te.size) (hv : v.cells.length = te.size) (hs : get s = some [v]) (hi : get id = some items)
    (h1 : (items.length + 1) * te.bytes ≤ 140737488355328) (h2 : items.length + 1 ≤ 140737488355328) :
    appendS P get a t t (.own id te.size 0 items.length) (.own s te.size 0 1) = some (.own a te.size 0 (items.length + 1), [(id, none), (a, some (items ++ [v]))]) := by
  rw [appendS_own (ys := [v]) (xs := items) ht ht hte hz (by simp [itemsS, hs]) h0 (by simp [Sh.unif, hv]) (by simp [srcFits]) hsz hc hi (Nat.le_refl _) (by simpa using h1) (by simpa using h2)]
  simp

@[simp] theorem Mem.eta (M : Mem) : (⟨M.blk, M.next⟩ : Mem) = M := rfl

theorem PCw_ex {E : Env} {f : Nat} {args : List SV} {v : SV} (h : ∀ M, ∃ M', ICw E f args M = some (v, M')) (hv : pv v = true) : PCw E f args = some v := by
  obtain ⟨M', h'⟩ := h .empty
  exact PCw_of h' hv

theorem PCw_own {E : Env} {f esz : Nat} {args items : List SV} (h : ∀ M, ∃ M' id, ICw E f args M = some (.own id esz 0 items.length, M') ∧ M'.blk id = some items) (hp : ∀ y ∈ items, Sh.pv y = true) : PCw E f args = some (.sl items .ro) := by
  obtain ⟨M', id, h1, h2⟩ := h .empty
  have := pic_own (esz := esz) h2 (Nat.le_refl _) hp
  rw [List.take_length] at this
  exact PCw_pic h1 this (by simp [Sh.pv, pv_items hp])

theorem PCw_closed {E : Env} {f : Nat} {args : List SV} {r : SV} (n : Nat) (h : pcOf (callN E n) f args = some r) : PCw E f args = some r := pcOf_mono (callN_le n) _ _ _ h

theorem RSl.exists {R : SV → α → Prop} {tl : Tl} : ∀ {items : List SV}, (∀ y ∈ items, ∃ a, R y a) → ∃ l, RSl R (.sl items tl) l
  | [], _ => ⟨[], rfl, rfl, fun j y a h => by simp [its] at h⟩
  | y :: r, h => by
    obtain ⟨a, ha⟩ := h y (by simp)
    obtain ⟨l, hl⟩ := RSl.exists (tl := tl) (items := r) fun z hz => h z (by simp [hz])
    refine ⟨a :: l, rfl, by have := hl.len; simp [its] at this ⊢; exact this, fun j z b hj hb => ?_⟩
    cases j with
    | zero => simp [its] at hj hb; subst hj hb; exact ha
    | succ j => exact hl.at' j z b (by simpa [its] using hj) (by simpa using hb)

theorem RSl.of_nil {R : SV → α → Prop} : RSl R .nilsl ([] : List α) := RSl.nil R

end Go.Proofs.YtbdliphlolajaaaDoor.Sh
