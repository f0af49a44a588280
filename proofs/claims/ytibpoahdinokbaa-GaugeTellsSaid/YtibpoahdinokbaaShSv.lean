/-
  The shadow interpreter, text 21: items of a type, calls of function values. No condition.
-/
import Derived.Test.YtibpoahdinokbaaShSu
set_option linter.unusedVariables false
set_option linter.unusedSimpArgs false
namespace Go.Proofs.Ytibpoahdinokbaa.Sh
variable {P : Program} {α : Type}

/-! ### Items of a type -/

/-- What is asked of what stands for an item: so many cells, whole, plain to hand on. -/
structure Elm (R : SV → α → Prop) (te : TI) : Prop where
  cells : ∀ {y a}, R y a → y.cells.length = te.size
  part : ∀ {y a}, R y a → partS te y 0 = some y
  np : ∀ {y a}, R y a → np 10 y = true
  sto : ∀ {y a}, R y a → y.sto = true

theorem RSl.item {R : SV → α → Prop} {x : SV} {l : List α} (h : RSl R x l) {t e a b : Nat} {z : Option SV} {te : TI} (ht : tiOf P t = some ⟨.slice e, a, b, z⟩) (hte : tiOf P e = some te) (hE : Elm R te)
    {j : Nat} (hj : j < l.length) : ∃ y, R y l[j] ∧ (its x)[j]? = some y ∧ indexAddrS P t x (.int .i64 j) = some (.rptr (its x) j 0 (stOf x)) ∧ ∀ get, loadS P get e (.rptr (its x) j 0 (stOf x)) = some y := by
  obtain ⟨y, hy, hr⟩ := h.get hj
  exact ⟨y, hr, hy, indexAddr_sl h.sl ht hte rfl hy (hE.cells hr), fun get => loadS_rptr hte hy (hE.part hr)⟩

theorem RSl.npE {R : SV → α → Prop} {x : SV} {l : List α} {te : TI} (h : RSl R x l) (hE : Elm R te) : Sh.np picDepth x = true := np_le (by decide) (RSl.np h (n := 10) fun _ _ h => hE.np h)
theorem Elm.np12 {R : SV → α → Prop} {te : TI} (hE : Elm R te) {y : SV} {a : α} (h : R y a) : Sh.np picDepth y = true := np_le (by decide) (hE.np h)

/-- A row of plain data of a scalar kind. -/
theorem Elm.int {k : IntKind} {b : Nat} {z : Option SV} : Elm (fun y (n : Int) => y = .int k n) ⟨.int k, 1, b, z⟩ :=
  ⟨fun h => by rw [h]; rfl, fun h => by rw [h]; rfl, fun h => by rw [h]; rfl, fun h => by rw [h]; rfl⟩

/-! ### Calls of what a temp holds -/

def callT (E : Env) (me : Nat) (pc : PC) (ic : IC) (n0 sz k : Nat) (lm : Option (List Nat)) (r : List Ins) (d : Nat) (T : List SV) (M : Mem) (g : SV) (args : List SV) : Option St :=
  match g with
  | .fn f a c => if ((E.prim f).isSome || E.imp me f) = true then (ic f (a ++ args ++ c) M).bind fun q => exL E me pc ic n0 sz (k + 1) r ⟨T.set d q.1, q.2⟩
      else (callP pc (seenM M n0 sz lm) f (a ++ args ++ c)).bind fun y => exL E me pc ic n0 sz (k + 1) r ⟨T.set d y, M⟩
  | _ => none

theorem callT_fn {E : Env} {me n0 sz k : Nat} {pc : PC} {ic : IC} {lm : Option (List Nat)} {r : List Ins} {d : Nat} {T : List SV} {M : Mem} {f : Nat} {a c args : List SV} (h : ((E.prim f).isSome || E.imp me f) = false) :
    callT E me pc ic n0 sz k lm r d T M (.fn f a c) args = (callP pc (seenM M n0 sz lm) f (a ++ args ++ c)).bind fun y => exL E me pc ic n0 sz (k + 1) r ⟨T.set d y, M⟩ := by
  simp only [callT, h, Bool.false_eq_true, if_false]

@[simp] theorem exL_callt {E : Env} {me n0 sz k : Nat} {pc : PC} {ic : IC} {lm : Option (List Nat)} {r : List Ins} (d t : Nat) {T : List SV} {M : Mem} (xs : Array Operand) (ts : Array Nat) :
    exL E me pc ic n0 sz k (⟨some d, .call { callee := .value (.tmp t), args := xs, argTypes := ts }, none, lm⟩ :: r) ⟨T, M⟩ = callT E me pc ic n0 sz k lm r d T M (T.getD t (.tup [])) (xs.toList.map (evO E T)) := by
  simp only [exL, exI, wantI, impOf, impCall, actOf, act, evO_tmp, callT]
  cases hT : T.getD t (.tup []) <;> simp only [hT] <;> first | rfl | skip
  rename_i f a c
  cases h : ((E.prim f).isSome || E.imp me f)
  case true =>
    simp only [h, if_true]
    cases ic f (a ++ xs.toList.map (evO E T) ++ c) M <;> rfl
  case false =>
    simp only [h, Bool.false_eq_true, if_false, callP]
    cases List.mapM (pic (seenM M n0 sz lm) false picDepth) (a ++ xs.toList.map (evO E T) ++ c) with
    | none => rfl
    | some args =>
      simp only
      cases pc f args <;> rfl

theorem foldl_take {α β : Type} {f : β → α → β} {b : β} {l : List α} {j : Nat} (h : j < l.length) : (l.take (j + 1)).foldl f b = f ((l.take j).foldl f b) l[j] := by
  rw [List.take_succ_eq_append_getElem h, List.foldl_append]; rfl

end Go.Proofs.Ytibpoahdinokbaa.Sh
