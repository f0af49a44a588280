/-
  The shadow interpreter, text 21: items of a type, calls of function values. No condition.
-/
import Derived.Test.YtbdliphlolajaaaDoorShMc
set_option linter.unusedVariables false
set_option linter.unusedSimpArgs false
namespace Go.Proofs.YtbdliphlolajaaaDoor.Sh
variable {P : Program} {α : Type}

/-! ### Items of a type -/

/-- What is asked of what stands for an item: so many cells, whole, plain to hand on. -/
structure Elm (R : SV → α → Prop) (te : TI) : Prop where
  cells : ∀ {y a}, R y a → y.cells.length = te.size
  part : ∀ {y a}, R y a → partS te y 0 = some y
  np : ∀ {y a}, R y a → np 10 y = true
  sto : ∀ {y a}, R y a → y.sto = true

theorem RSl.item {R : SV → α → Prop} {x : SV} {l : List α} (h : RSl R x l) {t e a b : Nat} {z : Option SV} {te : TI} (ht : tiOf P t = some ⟨.slice e, a, b, z⟩) (hte : tiOf P e = some te) (hE : Elm R te)
    {j : Nat} (hj : j < l.length) : ∃ y, R y l[j] ∧ (its x)[j]? = some y ∧ indexAddrS P t x (.int .i64 j) = some (.rptr (its x) j 0 (stOf x)) ∧ ∀ get, loadS P get e (.rptr (its x) j 0 (stOf x)) = some y := by
  obtain ⟨y, hy, hr⟩ := h.get hj
  exact ⟨y, hr, hy, indexAddr_sl h.sl ht hte rfl hy (hE.cells hr), fun get => loadS_rptr hte hy (hE.part hr)⟩

theorem RSl.npE {R : SV → α → Prop} {x : SV} {l : List α} {te : TI} (h : RSl R x l) (hE : Elm R te) : Sh.np picDepth x = true := np_le (by decide) (RSl.np h (n := 10) fun _ _ h => hE.np h)
theorem Elm.np12 {R : SV → α → Prop} {te : TI} (hE : Elm R te) {y : SV} {a : α} (h : R y a) : Sh.np picDepth y = true := np_le (by decide) (hE.np h)

/-- A row of plain data of a scalar kind. -/
theorem Elm.int {k : IntKind} {b : Nat} {z : Option SV} : Elm (fun y (n : Int) => y = .int k n) ⟨.int k, 1, b, z⟩ :=
  ⟨fun h => by rw [h]; rfl, fun h => by rw [h]; rfl, fun h => by rw [h]; rfl, fun h => by rw [h]; rfl⟩

/-! ### Calls of what a temp holds -/

def callT (E : Env) (me : Nat) (pc : PC) (ic : IC) (n0 sz k : Nat) (lm : Option (List Nat)) (r : List Ins) (d : Nat) (T : List SV) (M : Mem) (g : SV) (args : List SV) : Option St :=
  match g with
  | .fn f a c => if ((E.prim f).isSome || E.imp me f) = true then (ic f (a ++ args ++ c) M).bind fun q => exL E me pc ic n0 sz (k + 1) r ⟨T.set d q.1, q.2⟩
      else (callP pc (seenM M n0 sz lm) f (a ++ args ++ c)).bind fun y => exL E me pc ic n0 sz (k + 1) r ⟨T.set d y, M⟩
  | _ => none

theorem callT_fn {E : Env} {me n0 sz k : Nat} {pc : PC} {ic : IC} {lm : Option (List Nat)} {r : List Ins} {d : Nat} {T : List SV} {M : Mem} {f : Nat} {a c args : List SV} (h : ((E.prim f).isSome || E.imp me f) = false) :
    callT E me pc ic n0 sz k lm r d T M (.fn f a c) args = (callP pc (seenM M n0 sz lm) f (a ++ args ++ c)).bind fun y => exL E me pc ic n0 sz (k + 1) r ⟨T.set d y, M⟩ := by
  simp only [callT, h, Bool.false_eq_true, if_false]

@[simp] theorem exL_callt {E : Env} {me n0 sz k : Nat} {pc : PC} {ic : IC} {lm : Option (List Nat)} {r : List Ins} (d t : Nat) {T : List SV} {M : Mem} (xs : Array Operand) (ts : Array Nat) :
    exL E me pc ic n0 sz k (⟨some d, .call { callee := .value (.tmp t), args := xs, argTypes := ts }, none, lm⟩ :: r) ⟨T, M⟩ = callT E me pc ic n0 sz k lm r d T M (T.getD t (.tup [])) (xs.toList.map (evO E T)) := by
  simp only [exL, exI, wantI, impOf, impCall, actOf, act, evO_tmp, callT]
  cases hT : T.getD t (.tup []) <;> simp only [hT] <;> first | rfl | skip
  rename_i f a c
  cases h : ((E.prim f).isSome || E.imp me f)
  case true =>
    simp only [h, if_true]
    cases ic f (a ++ xs.toList.map (evO E T) ++ c) M <;> rfl
  case false =>
    simp only [h, Bool.false_eq_true, if_false, callP]
    cases List.mapM (pic (seenM M n0 sz lm) false picDepth) (a ++ xs.toList.map (evO E T) ++ c) with
    | none => rfl
    | some args =>
      simp only
      cases pc f args <;> rfl

theorem foldl_take {α β : Type} {f : β → α → β} {b : β} {l : List α} {j : Nat} (h : j < l.length) : (l.take (j + 1)).foldl f b = f ((l.take j).foldl f b) l[j] := by
  rw [List.take_succ_eq_append_getElem h, List.foldl_append]; rfl

theorem pic_ptr {get : Nat → Option (List SV)} {st : Bool} {n id i o : Nat} {items : List SV} (hg : get id = some items) (hp : ∀ x ∈ items, pv x = true) : pic get st (n + 1) (.ptr id i o) = some (.rptr items i o st) := by
  unfold pic
  simp only [pv, Bool.false_eq_true, if_false, hg]
  rw [mapM_id fun x hx => pic_np (np_of_pv (hp x hx) _)]

/-- A function value that holds variables of the caller's, handed on. -/
theorem pic_fn {get : Nat → Option (List SV)} {st : Bool} {n f : Nat} {cs ds : List SV} (h : cs.mapM (pic get st n) = some ds) (hp : pvs cs = false) : pic get st (n + 1) (.fn f [] cs) = some (.fn f [] ds) := by
  unfold pic
  have : pv (.fn f [] cs) = false := by simp [pv, pvs, hp]
  simp only [this, Bool.false_eq_true, if_false]
  rw [h]
  rfl

theorem RSl.take {R : SV → α → Prop} {items : List SV} {tl tl' : Tl} {l : List α} (h : RSl R (.sl items tl) l) (n : Nat) : RSl R (.sl (items.take n) tl') (l.take n) := by
  refine ⟨rfl, ?_, fun j y a hy ha => ?_⟩
  · have := h.len
    simp [its] at this ⊢
    omega
  · simp only [its] at hy
    rw [List.getElem?_take] at hy ha
    split at hy
    · rename_i hj
      rw [if_pos hj] at ha
      exact h.at' j y a hy ha
    · cases hy

/-- The first so many of a slice that came in. -/
theorem RSl.pre {R : SV → α → Prop} {x : SV} {l : List α} (h : RSl R x l) {t e a b : Nat} {z : Option SV} {te : TI} (ht : tiOf P t = some ⟨.slice e, a, b, z⟩) (hte : tiOf P e = some te) (hE : Elm R te) {n : Nat} (hn : n ≤ l.length) :
    ∃ y, sliceS P t x none (some (.int .i64 n)) none = some y ∧ RSl R y (l.take n) := by
  have hlen := h.len
  have hs := h.sl
  cases x <;> simp [isSl] at hs
  · refine ⟨.nilsl, ?_, ?_⟩
    · have : n = 0 := by simp [its] at hlen; omega
      subst this
      simp [sliceS, ht, hte, boundsS, natS]
    · have : l = [] := by
        simp [its] at hlen
        exact List.length_eq_zero_iff.1 hlen.symm
      subst this
      simpa using RSl.nil R
  · rename_i items tl
    have hu : Sh.unif te.size items = true := RSl.unif h (fun y a hy => hE.cells hy)
    have hle : n ≤ items.length := by simp only [its] at hlen; omega
    have ht' := fun tl' => RSl.take (tl' := tl') h n
    clear h hlen
    cases tl <;> exact ⟨.sl (items.take n) _, by simp only [sliceS, ht, hte, boundsS, natS]; simp [hle, hu]; rfl, ht' _⟩

end Go.Proofs.YtbdliphlolajaaaDoor.Sh
