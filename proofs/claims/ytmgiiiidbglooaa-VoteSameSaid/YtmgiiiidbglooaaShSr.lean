/-
  The shadow interpreter, text 17: slices, numbers, for the walks. No condition.
-/
import Derived.Test.YtmgiiiidbglooaaShSq
import Derived.Laws.Small
set_option linter.unusedVariables false
set_option linter.unusedSimpArgs false
namespace Go.Proofs.Ytmgiiiidbglooaa.Sh
variable {P : Program} {α : Type}

/-- The items of a slice that came in. -/
def its : SV → List SV
  | .sl l _ => l
  | _ => []
def isSl : SV → Bool
  | .nilsl => true
  | .sl _ _ => true
  | _ => false
def stOf : SV → Bool
  | .sl _ tl => tl != .snap
  | _ => true

/-- A slice whose items stand for those of a list. -/
structure RSl (R : SV → α → Prop) (x : SV) (l : List α) : Prop where
  sl : isSl x = true
  len : (its x).length = l.length
  at' : ∀ (j : Nat) (y : SV) (a : α), (its x)[j]? = some y → l[j]? = some a → R y a

def IsI (k : IntKind) (y : SV) (n : Int) : Prop := y = .int k n

theorem RSl.get {R : SV → α → Prop} {x : SV} {l : List α} (h : RSl R x l) {j : Nat} (hj : j < l.length) : ∃ y, (its x)[j]? = some y ∧ R y l[j] := by
  have hj' : j < (its x).length := by rw [h.len]; exact hj
  exact ⟨(its x)[j], by simp [hj'], h.at' j _ _ (by simp [hj']) (by simp [hj])⟩

theorem RSl.np {R : SV → α → Prop} {x : SV} {l : List α} (h : RSl R x l) {n : Nat} (hR : ∀ y a, R y a → np n y = true) : np (n + 1) x = true := by
  have hs := h.sl
  have ha := h.len
  cases x <;> simp [isSl] at hs
  · exact np_of_pv rfl _
  · rename_i items tl
    simp only [Sh.np, Bool.or_eq_true]
    refine .inr (List.all_eq_true.2 fun y hy => ?_)
    obtain ⟨j, hj, rfl⟩ := List.mem_iff_getElem.1 hy
    have hj' : j < l.length := by rw [← ha]; exact hj
    exact hR _ l[j] (h.at' j _ _ (by simp [its, hj]) (by simp [hj']))

theorem RSl.pv {R : SV → α → Prop} {items : List SV} {tl : Tl} {l : List α} (h : RSl R (.sl items tl) l) (hR : ∀ y a, R y a → Sh.pv y = true) : ∀ y ∈ items, Sh.pv y = true := by
  intro y hy
  obtain ⟨j, hj, rfl⟩ := List.mem_iff_getElem.1 hy
  have hj' : j < l.length := by rw [← h.len]; exact hj
  exact hR _ l[j] (h.at' j _ _ (by simp [its, hj]) (by simp [hj']))

theorem RSl.nil (R : SV → α → Prop) : RSl R .nilsl [] := ⟨rfl, rfl, fun j y a h => by simp [its] at h⟩

theorem RSl.mk' {R : SV → α → Prop} {items : List SV} {tl : Tl} {l : List α} (hl : items.length = l.length) (h : ∀ (j : Nat) (y : SV) (a : α), items[j]? = some y → l[j]? = some a → R y a) : RSl R (.sl items tl) l :=
  ⟨rfl, hl, h⟩

theorem lenS_sl {x : SV} {t e a b : Nat} {z : Option SV} (h : isSl x = true) (ht : tiOf P t = some ⟨.slice e, a, b, z⟩) : lenS P t x = some (.int .i64 (its x).length) := by
  cases x <;> simp [isSl] at h <;> simp [lenS, ht, its]

theorem RSl.lenS {R : SV → α → Prop} {x : SV} {l : List α} (h : RSl R x l) {t e a b : Nat} {z : Option SV} (ht : tiOf P t = some ⟨.slice e, a, b, z⟩) : Sh.lenS P t x = some (.int .i64 l.length) := by
  rw [lenS_sl h.sl ht, h.len]

theorem indexAddr_sl {x y : SV} {t e a b : Nat} {z : Option SV} {te : TI} {k : IntKind} {i : Int} {j : Nat} (h : isSl x = true) (ht : tiOf P t = some ⟨.slice e, a, b, z⟩) (hte : tiOf P e = some te)
    (hi : i = (j : Int)) (hy : (its x)[j]? = some y) (hc : y.cells.length = te.size) : indexAddrS P t x (.int k i) = some (.rptr (its x) j 0 (stOf x)) := by
  subst hi
  cases x <;> simp [isSl] at h
  · simp [its] at hy
  · rename_i items tl
    have hn : natS (.int k (j : Int)) = some j := by simp [natS]
    simp only [its] at hy ⊢
    simp only [indexAddrS, ht, hn, hte, hy, hc, if_true, stOf]

/-- The address of an item, and the item. -/
theorem RSl.addr {R : SV → α → Prop} {x : SV} {l : List α} (h : RSl R x l) {t e a b : Nat} {z : Option SV} {te : TI} (ht : tiOf P t = some ⟨.slice e, a, b, z⟩) (hte : tiOf P e = some te)
    (hR : ∀ y a, R y a → y.cells.length = te.size) {j : Nat} (hj : j < l.length) : ∃ y, R y l[j] ∧ (its x)[j]? = some y ∧ ∀ (k : IntKind) (i : Int), i = (j : Int) → indexAddrS P t x (.int k i) = some (.rptr (its x) j 0 (stOf x)) := by
  obtain ⟨y, hy, hr⟩ := h.get hj
  exact ⟨y, hr, hy, fun k i hi => indexAddr_sl h.sl ht hte hi hy (hR _ _ hr)⟩

theorem loadS_rptr {get : Nat → Option (List SV)} {t i o : Nat} {items : List SV} {st : Bool} {x y : SV} {ti : TI} (ht : tiOf P t = some ti) (hx : items[i]? = some x) (hp : partS ti x o = some y) :
    loadS P get t (.rptr items i o st) = some y := by
  simp only [loadS, ht, hx, hp]

theorem i64_in {n : Int} (h1 : -9223372036854775808 ≤ n) (h2 : n ≤ 9223372036854775807) : IntKind.i64.wrap n = n := by rw [IntKind.wrap_i64]; omega
theorem u8_in {n : Int} (h1 : 0 ≤ n) (h2 : n ≤ 255) : IntKind.u8.wrap n = n := by rw [IntKind.wrap_u8]; omega

/-! ### Numbers -/
variable {t : Nat} {c : Bool} {k : IntKind} {a b : Int}

@[simp] theorem binS_add : binS P .add t c (.int k a) (.int k b) = some (.int k (k.wrap (a + b))) := by simp [binS, Go.binOp, Op.intArith, semV, pure]
@[simp] theorem binS_sub : binS P .sub t c (.int k a) (.int k b) = some (.int k (k.wrap (a - b))) := by simp [binS, Go.binOp, Op.intArith, semV, pure]
@[simp] theorem binS_mul : binS P .mul t c (.int k a) (.int k b) = some (.int k (k.wrap (a * b))) := by simp [binS, Go.binOp, Op.intArith, semV, pure]
@[simp] theorem binS_lss : binS P .lss t c (.int k a) (.int k b) = some (.bool (decide (a < b))) := by simp [binS, Go.binOp, Op.intCmp, semV, pure]
@[simp] theorem binS_leq : binS P .leq t c (.int k a) (.int k b) = some (.bool (decide (a ≤ b))) := by simp [binS, Go.binOp, Op.intCmp, semV, pure]
@[simp] theorem binS_gtr : binS P .gtr t c (.int k a) (.int k b) = some (.bool (decide (b < a))) := by simp [binS, Go.binOp, Op.intCmp, semV, pure]
@[simp] theorem binS_geq : binS P .geq t c (.int k a) (.int k b) = some (.bool (decide (b ≤ a))) := by simp [binS, Go.binOp, Op.intCmp, semV, pure]
@[simp] theorem binS_eql : binS P .eql t c (.int k a) (.int k b) = some (.bool (decide (a = b))) := by simp [binS, Go.binOp, Op.intCmp, semV, pure]; rfl
@[simp] theorem binS_neq : binS P .neq t c (.int k a) (.int k b) = some (.bool (decide (a ≠ b))) := by simp [binS, Go.binOp, Op.intCmp, semV, pure]; rfl
theorem binS_eqlB {x y : Bool} {s bs : Nat} {z : Option SV} (ht : tiOf P t = some ⟨.bool, s, bs, z⟩) : binS P .eql t c (.bool x) (.bool y) = some (.bool (x == y)) := by simp [binS, eqS, ht]
theorem binS_neqB {x y : Bool} {s bs : Nat} {z : Option SV} (ht : tiOf P t = some ⟨.bool, s, bs, z⟩) : binS P .neq t c (.bool x) (.bool y) = some (.bool (!(x == y))) := by simp [binS, eqS, ht]
@[simp] theorem unS_not (b : Bool) : unS .not (.bool b) = some (.bool (!b)) := rfl

/-- A loop that counts up: what holds at its head, round by round. -/
theorem loop_up {E : Env} {me : Nat} {B : C} {T : Nat → List SV} {I : Nat → Mem → Prop} {len : Nat} {Q : Ex × St → Prop}
    (step : ∀ j M, j < len → I j M → (∃ M', evW E me B ⟨T j, M⟩ = some (.normal, ⟨T (j + 1), M'⟩) ∧ I (j + 1) M') ∨ ∃ r, evW E me B ⟨T j, M⟩ = some r ∧ r.1 ≠ .normal ∧ Q r)
    (fin : ∀ M, I len M → ∃ r, evW E me B ⟨T len, M⟩ = some r ∧ r.1 ≠ .normal ∧ Q r) (j : Nat) (M : Mem) (hj : j ≤ len) (hI : I j M) :
    ∃ r, evW E me (.loop B) ⟨T j, M⟩ = some r ∧ Q r := by
  have out : ∀ s : St, (∃ r, evW E me B s = some r ∧ r.1 ≠ .normal ∧ Q r) → ∃ r, evW E me (.loop B) s = some r ∧ Q r := by
    rintro s ⟨⟨e, s'⟩, h, he, hq⟩
    refine ⟨(e, s'), ?_, hq⟩
    rw [evW_loop, h]
    cases e with
    | normal => exact absurd rfl he
    | exit => rfl
    | ret => rfl
  obtain ⟨n, hn⟩ : ∃ n, n = len - j := ⟨_, rfl⟩
  induction n generalizing j M with
  | zero =>
    obtain rfl : j = len := by omega
    exact out _ (fin M hI)
  | succ n ih =>
    rcases step j M (by omega) hI with ⟨M', h, hI'⟩ | h
    · rw [evW_loop, h]
      exact ih (j + 1) M' (by omega) hI' (by omega)
    · exact out _ h

@[simp] theorem Mem.eta (M : Mem) : (⟨M.blk, M.next⟩ : Mem) = M := rfl

theorem PCw_ex {E : Env} {f : Nat} {args : List SV} {v : SV} (h : ∀ M, ∃ M', ICw E f args M = some (v, M')) (hv : pv v = true) : PCw E f args = some v := by
  obtain ⟨M', h'⟩ := h .empty
  exact PCw_of h' hv

theorem PCw_closed {E : Env} {f : Nat} {args : List SV} {r : SV} (n : Nat) (h : pcOf (callN E n) f args = some r) : PCw E f args = some r := pcOf_mono (callN_le n) _ _ _ h

theorem RSl.exists {R : SV → α → Prop} {tl : Tl} : ∀ {items : List SV}, (∀ y ∈ items, ∃ a, R y a) → ∃ l, RSl R (.sl items tl) l
  | [], _ => ⟨[], rfl, rfl, fun j y a h => by simp [its] at h⟩
  | y :: r, h => by
    obtain ⟨a, ha⟩ := h y (by simp)
    obtain ⟨l, hl⟩ := RSl.exists (tl := tl) (items := r) fun z hz => h z (by simp [hz])
    refine ⟨a :: l, rfl, by have := hl.len; simp [its] at this ⊢; exact this, fun j z b hj hb => ?_⟩
    cases j with
    | zero => simp [its] at hj hb; subst hj hb; exact ha
    | succ j => exact hl.at' j z b (by simpa [its] using hj) (by simpa using hb)

theorem RSl.of_nil {R : SV → α → Prop} : RSl R .nilsl ([] : List α) := RSl.nil R

end Go.Proofs.Ytmgiiiidbglooaa.Sh
