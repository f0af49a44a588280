/-
  The shadow interpreter, text 16: its equations as rules for 'simp'. No condition.
-/
import Derived.Test.YtbdliphlolajaaaDoorShSp
set_option linter.unusedVariables false
set_option linter.unusedSimpArgs false
namespace Go.Proofs.YtbdliphlolajaaaDoor.Sh
variable {E : Env}

attribute [simp] evW_skip evW_exit evW_ret evW_cond evW_seq evW_block

/-! ### Temps, constants -/

@[simp] theorem evO_tmp (T : List SV) (t : Nat) : evO E T (.tmp t) = T.getD t (.tup []) := rfl
@[simp] theorem evO_func (T : List SV) (f : Nat) : evO E T (.func f) = .fn f [] [] := rfl
@[simp] theorem evO_int (T : List SV) (k : IntKind) (n : Int) : evO E T (.const (.int k n)) = .int k n := rfl
@[simp] theorem evO_bool (T : List SV) (b : Bool) : evO E T (.const (.bool b)) = .bool b := rfl
@[simp] theorem evO_str (T : List SV) (s : ByteArray) : evO E T (.const (.string s)) = .str s := rfl
@[simp] theorem evO_nilsl (T : List SV) : evO E T (.const (.slice none 0 0)) = .nilsl := rfl
@[simp] theorem evO_nilp (T : List SV) : evO E T (.const (.pointer none)) = .nilp := rfl
@[simp] theorem evO_nili (T : List SV) : evO E T (.const .nilIface) = .nili := rfl
@[simp] theorem evO_nilf (T : List SV) : evO E T (.const .nilFunc) = .nilf := rfl
@[simp] theorem evO_global (T : List SV) (g : Nat) : evO E T (.global g) = match E.G g with | some items => .rptr items 0 0 true | none => .bad := rfl
theorem evO_const (T : List SV) (v : Value) : evO E T (.const v) = ofVal v := rfl

@[simp] theorem forget_nil (T : List SV) : forget [] T = T := rfl
@[simp] theorem forget_cons (d : Nat) (r : List Nat) (T : List SV) : forget (d :: r) T = forget r (T.set d .bad) := rfl

/-! ### Cells -/

@[simp] theorem cells_bool_ (b : Bool) : (SV.bool b).cells = [(SV.bool b)] := rfl
@[simp] theorem sto_bool_ (b : Bool) : (SV.bool b).sto = true := rfl
@[simp] theorem cells_int_ (k : IntKind) (n : Int) : (SV.int k n).cells = [(SV.int k n)] := rfl
@[simp] theorem sto_int_ (k : IntKind) (n : Int) : (SV.int k n).sto = true := rfl
@[simp] theorem cells_str_ (s : ByteArray) : (SV.str s).cells = [(SV.str s)] := rfl
@[simp] theorem sto_str_ (s : ByteArray) : (SV.str s).sto = true := rfl
@[simp] theorem cells_nilp_ : SV.nilp.cells = [SV.nilp] := rfl
@[simp] theorem sto_nilp_ : SV.nilp.sto = true := rfl
@[simp] theorem cells_ptr_ (i j o : Nat) : (SV.ptr i j o).cells = [(SV.ptr i j o)] := rfl
@[simp] theorem sto_ptr_ (i j o : Nat) : (SV.ptr i j o).sto = true := rfl
@[simp] theorem cells_rptr_ (l : List SV) (i o : Nat) (st : Bool) : (SV.rptr l i o st).cells = [(SV.rptr l i o st)] := rfl
@[simp] theorem sto_rptr_ (l : List SV) (i o : Nat) (st : Bool) : (SV.rptr l i o st).sto = true := rfl
@[simp] theorem cells_nilsl_ : SV.nilsl.cells = [SV.nilsl] := rfl
@[simp] theorem sto_nilsl_ : SV.nilsl.sto = true := rfl
@[simp] theorem cells_sl_ (l : List SV) (tl : Tl) : (SV.sl l tl).cells = [(SV.sl l tl)] := rfl
@[simp] theorem sto_sl_ (l : List SV) (tl : Tl) : (SV.sl l tl).sto = true := rfl
@[simp] theorem cells_own_ (i e j n : Nat) : (SV.own i e j n).cells = [(SV.own i e j n)] := rfl
@[simp] theorem sto_own_ (i e j n : Nat) : (SV.own i e j n).sto = true := rfl
@[simp] theorem cells_fn_ (f : Nat) (a c : List SV) : (SV.fn f a c).cells = [(SV.fn f a c)] := rfl
@[simp] theorem sto_fn_ (f : Nat) (a c : List SV) : (SV.fn f a c).sto = true := rfl
@[simp] theorem cells_nilf_ : SV.nilf.cells = [SV.nilf] := rfl
@[simp] theorem sto_nilf_ : SV.nilf.sto = true := rfl
@[simp] theorem cells_iface_ (t : Nat) (v : SV) : (SV.iface t v).cells = [(SV.iface t v)] := rfl
@[simp] theorem sto_iface_ (t : Nat) (v : SV) : (SV.iface t v).sto = true := rfl
@[simp] theorem cells_nili_ : SV.nili.cells = [SV.nili] := rfl
@[simp] theorem sto_nili_ : SV.nili.sto = true := rfl
@[simp] theorem cells_agg_ (cs : List SV) : (SV.agg cs).cells = cs := rfl
@[simp] theorem sto_agg_ (cs : List SV) : (SV.agg cs).sto = true := rfl

/-! ### Memory -/

@[simp] theorem Mem.blk_set (M : Mem) (i j : Nat) (b : Option (List SV)) : (M.set i b).blk j = if j = i then b else M.blk j := rfl
@[simp] theorem Mem.next_set (M : Mem) (i : Nat) (b : Option (List SV)) : (M.set i b).next = M.next := rfl
def Mem.bump (M : Mem) (n : Nat) : Mem := ⟨M.blk, M.next + n⟩
@[simp] theorem Mem.bump_zero (M : Mem) : M.bump 0 = M := rfl
@[simp] theorem Mem.blk_bump (M : Mem) (n j : Nat) : (M.bump n).blk j = M.blk j := rfl
@[simp] theorem Mem.next_bump (M : Mem) (n : Nat) : (M.bump n).next = M.next + n := rfl
@[simp] theorem Mem.sets_nil (M : Mem) : M.sets [] = M := rfl
@[simp] theorem Mem.sets_cons (M : Mem) (p : Nat × Option (List SV)) (r) : M.sets (p :: r) = (M.set p.1 p.2).sets r := rfl
@[simp] theorem Mem.empty_next : Mem.empty.next = 0 := rfl
@[simp] theorem Mem.empty_blk (j : Nat) : Mem.empty.blk j = none := rfl
@[simp] theorem seenM_none (M : Mem) (n0 sz : Nat) : seenM M n0 sz none = M.blk := rfl
@[simp] theorem seenM_some (M : Mem) (n0 sz id : Nat) (l : List Nat) : seenM M n0 sz (some l) id = if decide (id < n0) || decide (n0 + sz ≤ id) || l.contains (id - n0) then M.blk id else none := rfl

/-! ### Regions -/

theorem evW_reg (me : Nat) (ri : RI) (T : List SV) (M : Mem) :
    evW E me (.reg ri) ⟨T, M⟩ = match exL E me (PCw E) (ICw E) M.next ri.size 0 ri.ops ⟨T, M.bump ri.adv⟩ with
      | some s' => some (.normal, ⟨forget ri.dead s'.tmps, s'.mem⟩)
      | none => none := by
  rw [evW_region]
  unfold regW regS
  show (match (match exL E me (PCw E) (ICw E) M.next ri.size 0 ri.ops ⟨T, M.bump ri.adv⟩ with | some s' => some (⟨forget ri.dead s'.tmps, s'.mem⟩ : St) | none => none) with | some s' => some (Ex.normal, s') | none => none) = _
  cases exL E me (PCw E) (ICw E) M.next ri.size 0 ri.ops ⟨T, M.bump ri.adv⟩ <;> rfl

variable {me n0 sz k : Nat} {pc : PC} {ic : IC} {r : List Ins} {lm : Option (List Nat)} {T : List SV} {M : Mem}

@[simp] theorem exL_nil (s : St) : exL E me pc ic n0 sz k [] s = some s := rfl

theorem exL_plain {d : Option Nat} {op : Op} (hi : ∀ ρ, impOf E me ρ op = none) :
    exL E me pc ic n0 sz k (⟨d, op, none, lm⟩ :: r) ⟨T, M⟩ = (actOf E pc (n0 + k) (evO E T) (seenM M n0 sz lm) op).bind fun q => exL E me pc ic n0 sz (k + 1) r ⟨putS T d q.1, M.sets q.2⟩ := by
  simp only [exL, exI, wantI, hi]
  cases actOf E pc (n0 + k) (evO E T) (seenM M n0 sz lm) op <;> rfl

theorem exL_val {d : Nat} {op : Op} (x : (Operand → SV) → (Nat → Option (List SV)) → Option SV) (hi : ∀ ρ, impOf E me ρ op = none)
    (ha : ∀ a ρ get, actOf E pc a ρ get op = match x ρ get with | some y => some (y, []) | none => none) :
    exL E me pc ic n0 sz k (⟨some d, op, none, lm⟩ :: r) ⟨T, M⟩ = (x (evO E T) (seenM M n0 sz lm)).bind fun y => exL E me pc ic n0 sz (k + 1) r ⟨T.set d y, M⟩ := by
  rw [exL_plain hi, ha]
  cases x (evO E T) (seenM M n0 sz lm) <;> rfl

@[simp] theorem exL_move (d : Nat) (x : Operand) : exL E me pc ic n0 sz k (⟨some d, .move x, none, lm⟩ :: r) ⟨T, M⟩ = exL E me pc ic n0 sz (k + 1) r ⟨T.set d (evO E T x), M⟩ :=
  exL_val (fun ρ _ => some (ρ x)) (fun _ => rfl) (fun _ _ _ => rfl)
@[simp] theorem exL_assign (d : Nat) (x : Operand) : exL E me pc ic n0 sz k (⟨some d, .assign x, none, lm⟩ :: r) ⟨T, M⟩ = exL E me pc ic n0 sz (k + 1) r ⟨T.set d (evO E T x), M⟩ :=
  exL_val (fun ρ _ => some (ρ x)) (fun _ => rfl) (fun _ _ _ => rfl)
@[simp] theorem exL_load (d t : Nat) (x : Operand) : exL E me pc ic n0 sz k (⟨some d, .load t x, none, lm⟩ :: r) ⟨T, M⟩ = (loadS E.P (seenM M n0 sz lm) t (evO E T x)).bind fun y => exL E me pc ic n0 sz (k + 1) r ⟨T.set d y, M⟩ :=
  exL_val (fun ρ get => loadS E.P get t (ρ x)) (fun _ => rfl) (fun _ _ _ => rfl)
@[simp] theorem exL_bin (d t t' : Nat) (op : BinOp) (x y : Operand) : exL E me pc ic n0 sz k (⟨some d, .binOp op t x y t', none, lm⟩ :: r) ⟨T, M⟩ = (binS E.P op t (isCst x || isCst y) (evO E T x) (evO E T y)).bind fun y => exL E me pc ic n0 sz (k + 1) r ⟨T.set d y, M⟩ :=
  exL_val (fun ρ get => binS E.P op t (isCst x || isCst y) (ρ x) (ρ y)) (fun _ => rfl) (fun _ _ _ => rfl)
@[simp] theorem exL_un (d t : Nat) (op : UnOp) (x : Operand) : exL E me pc ic n0 sz k (⟨some d, .unOp op t x, none, lm⟩ :: r) ⟨T, M⟩ = (unS op (evO E T x)).bind fun y => exL E me pc ic n0 sz (k + 1) r ⟨T.set d y, M⟩ :=
  exL_val (fun ρ get => unS op (ρ x)) (fun _ => rfl) (fun _ _ _ => rfl)
@[simp] theorem exL_conv (d s t : Nat) (x : Operand) : exL E me pc ic n0 sz k (⟨some d, .convert s t x, none, lm⟩ :: r) ⟨T, M⟩ = (convS E.P (seenM M n0 sz lm) s t (evO E T x)).bind fun y => exL E me pc ic n0 sz (k + 1) r ⟨T.set d y, M⟩ :=
  exL_val (fun ρ get => convS E.P get s t (ρ x)) (fun _ => rfl) (fun _ _ _ => rfl)
@[simp] theorem exL_slice (d t : Nat) (x : Operand) (a b c : Option Operand) : exL E me pc ic n0 sz k (⟨some d, .slice t x a b c, none, lm⟩ :: r) ⟨T, M⟩ = (sliceS E.P t (evO E T x) (a.map (evO E T)) (b.map (evO E T)) (c.map (evO E T))).bind fun y => exL E me pc ic n0 sz (k + 1) r ⟨T.set d y, M⟩ :=
  exL_val (fun ρ get => sliceS E.P t (ρ x) (a.map ρ) (b.map ρ) (c.map ρ)) (fun _ => rfl) (fun _ _ _ => rfl)
@[simp] theorem exL_fieldAddr (d t f : Nat) (x : Operand) : exL E me pc ic n0 sz k (⟨some d, .fieldAddr t x f, none, lm⟩ :: r) ⟨T, M⟩ = (fieldAddrS E.P t (evO E T x) f).bind fun y => exL E me pc ic n0 sz (k + 1) r ⟨T.set d y, M⟩ :=
  exL_val (fun ρ get => fieldAddrS E.P t (ρ x) f) (fun _ => rfl) (fun _ _ _ => rfl)
@[simp] theorem exL_field (d t f : Nat) (x : Operand) : exL E me pc ic n0 sz k (⟨some d, .field t x f, none, lm⟩ :: r) ⟨T, M⟩ = (fieldS E.P t (evO E T x) f).bind fun y => exL E me pc ic n0 sz (k + 1) r ⟨T.set d y, M⟩ :=
  exL_val (fun ρ get => fieldS E.P t (ρ x) f) (fun _ => rfl) (fun _ _ _ => rfl)
@[simp] theorem exL_indexAddr (d t : Nat) (x i : Operand) : exL E me pc ic n0 sz k (⟨some d, .indexAddr t x i, none, lm⟩ :: r) ⟨T, M⟩ = (indexAddrS E.P t (evO E T x) (evO E T i)).bind fun y => exL E me pc ic n0 sz (k + 1) r ⟨T.set d y, M⟩ :=
  exL_val (fun ρ get => indexAddrS E.P t (ρ x) (ρ i)) (fun _ => rfl) (fun _ _ _ => rfl)
@[simp] theorem exL_index (d t : Nat) (x i : Operand) : exL E me pc ic n0 sz k (⟨some d, .index t x i, none, lm⟩ :: r) ⟨T, M⟩ = (indexS E.P t (evO E T x) (evO E T i)).bind fun y => exL E me pc ic n0 sz (k + 1) r ⟨T.set d y, M⟩ :=
  exL_val (fun ρ get => indexS E.P t (ρ x) (ρ i)) (fun _ => rfl) (fun _ _ _ => rfl)
@[simp] theorem exL_typeAssert (d s t : Nat) (x : Operand) (ok : Bool) : exL E me pc ic n0 sz k (⟨some d, .typeAssert x s t ok, none, lm⟩ :: r) ⟨T, M⟩ = (assertS E.P (evO E T x) t ok).bind fun y => exL E me pc ic n0 sz (k + 1) r ⟨T.set d y, M⟩ :=
  exL_val (fun ρ get => assertS E.P (ρ x) t ok) (fun _ => rfl) (fun _ _ _ => rfl)

def extractS (i : Nat) : SV → Option SV
  | .tup vs => vs[i]?
  | _ => none
@[simp] theorem extractS_tup (i : Nat) (vs : List SV) : extractS i (.tup vs) = vs[i]? := rfl
@[simp] theorem exL_extract (d i : Nat) (x : Operand) : exL E me pc ic n0 sz k (⟨some d, .extract x i, none, lm⟩ :: r) ⟨T, M⟩ = (extractS i (evO E T x)).bind fun y => exL E me pc ic n0 sz (k + 1) r ⟨T.set d y, M⟩ :=
  exL_val (fun ρ get => extractS i (ρ x)) (fun _ => rfl) (fun a ρ get => by
    simp only [actOf, act, extractS]
    cases ρ x <;> rfl)

def pickS (p q : SV) : SV → Option SV
  | .bool b => some (if b then p else q)
  | _ => none
@[simp] theorem pickS_bool (p q : SV) (b : Bool) : pickS p q (.bool b) = some (if b then p else q) := rfl
@[simp] theorem exL_pick (d : Nat) (c p q : Operand) : exL E me pc ic n0 sz k (⟨some d, .pick c p q, none, lm⟩ :: r) ⟨T, M⟩ = (pickS (evO E T p) (evO E T q) (evO E T c)).bind fun y => exL E me pc ic n0 sz (k + 1) r ⟨T.set d y, M⟩ :=
  exL_val (fun ρ get => pickS (ρ p) (ρ q) (ρ c)) (fun _ => rfl) (fun a ρ get => by
    simp only [actOf, act, pickS]
    cases ρ c <;> rfl)

def nilS : SV → Option SV
  | .ptr id i o => some (.ptr id i o)
  | .rptr l i o st => some (.rptr l i o st)
  | .iface t y => some (.iface t y)
  | .fn f p q => some (.fn f p q)
  | _ => none
@[simp] theorem nilS_ptr (id i o : Nat) : nilS (.ptr id i o) = some (.ptr id i o) := rfl
@[simp] theorem nilS_rptr (l i o st) : nilS (.rptr l i o st) = some (.rptr l i o st) := rfl
@[simp] theorem nilS_iface (t y) : nilS (.iface t y) = some (.iface t y) := rfl
@[simp] theorem nilS_fn (f p q) : nilS (.fn f p q) = some (.fn f p q) := rfl
@[simp] theorem exL_nilCheck (d : Nat) (x : Operand) : exL E me pc ic n0 sz k (⟨some d, .nilCheck x, none, lm⟩ :: r) ⟨T, M⟩ = (nilS (evO E T x)).bind fun y => exL E me pc ic n0 sz (k + 1) r ⟨T.set d y, M⟩ :=
  exL_val (fun ρ get => nilS (ρ x)) (fun _ => rfl) (fun a ρ get => by
    simp only [actOf, act, nilS]
    cases ρ x <;> rfl)
@[simp] theorem exL_nilCheck' (x : Operand) : exL E me pc ic n0 sz k (⟨none, .nilCheck x, none, lm⟩ :: r) ⟨T, M⟩ = (nilS (evO E T x)).bind fun y => exL E me pc ic n0 sz (k + 1) r ⟨T, M⟩ := by
  rw [exL_plain (fun _ => rfl)]
  simp only [actOf, act, nilS]
  cases evO E T x <;> rfl

def makeIS (P : Program) (t : Nat) (x : SV) : Option SV := match tiOf P t with
  | some ⟨.iface, _, _, _⟩ => none
  | some _ => some (.iface t x)
  | none => none
@[simp] theorem exL_makeInterface (d t : Nat) (x : Operand) : exL E me pc ic n0 sz k (⟨some d, .makeInterface t x, none, lm⟩ :: r) ⟨T, M⟩ = (if E.sent t = true then none else makeIS E.P t (evO E T x)).bind fun y => exL E me pc ic n0 sz (k + 1) r ⟨T.set d y, M⟩ :=
  exL_val (fun ρ get => if E.sent t = true then none else makeIS E.P t (ρ x)) (fun _ => rfl) (fun a ρ get => by
    simp only [actOf, act, makeIS]
    cases hs : E.sent t with
    | true => rfl
    | false =>
      simp only [Bool.false_eq_true, if_false]
      cases tiOf E.P t with
      | none => rfl
      | some ti =>
        obtain ⟨kd, a1, a2, a3⟩ := ti
        cases kd <;> rfl)

@[simp] theorem exL_makeFunc (d f : Nat) (a c : Array Operand) : exL E me pc ic n0 sz k (⟨some d, .makeFunc (.func f) a c, none, lm⟩ :: r) ⟨T, M⟩ = exL E me pc ic n0 sz (k + 1) r ⟨T.set d (.fn f (a.toList.map (evO E T)) (c.toList.map (evO E T))), M⟩ :=
  exL_val (fun ρ _ => some (.fn f (a.toList.map ρ) (c.toList.map ρ))) (fun _ => rfl) (fun _ _ _ => rfl)

@[simp] theorem exL_len (d t : Nat) (x : Operand) : exL E me pc ic n0 sz k (⟨some d, .call { callee := .builtin .len, args := #[x], argTypes := #[t] }, none, lm⟩ :: r) ⟨T, M⟩ = (lenS E.P t (evO E T x)).bind fun y => exL E me pc ic n0 sz (k + 1) r ⟨T.set d y, M⟩ :=
  exL_val (fun ρ get => lenS E.P t (ρ x)) (fun _ => rfl) (fun _ _ _ => rfl)
@[simp] theorem exL_min (d : Nat) (xs : Array Operand) (ts : Array Nat) : exL E me pc ic n0 sz k (⟨some d, .call { callee := .builtin .min, args := xs, argTypes := ts }, none, lm⟩ :: r) ⟨T, M⟩ = (mmS false (xs.toList.map (evO E T))).bind fun y => exL E me pc ic n0 sz (k + 1) r ⟨T.set d y, M⟩ :=
  exL_val (fun ρ get => mmS false (xs.toList.map ρ)) (fun _ => rfl) (fun _ _ _ => rfl)
@[simp] theorem exL_max (d : Nat) (xs : Array Operand) (ts : Array Nat) : exL E me pc ic n0 sz k (⟨some d, .call { callee := .builtin .max, args := xs, argTypes := ts }, none, lm⟩ :: r) ⟨T, M⟩ = (mmS true (xs.toList.map (evO E T))).bind fun y => exL E me pc ic n0 sz (k + 1) r ⟨T.set d y, M⟩ :=
  exL_val (fun ρ get => mmS true (xs.toList.map ρ)) (fun _ => rfl) (fun _ _ _ => rfl)

@[simp] theorem exL_box (d t : Nat) (x : Operand) : exL E me pc ic n0 sz k (⟨some d, .box t x, none, lm⟩ :: r) ⟨T, M⟩ =
    if (evO E T x).sto then exL E me pc ic n0 sz (k + 1) r ⟨T.set d (.ptr (n0 + k) 0 0), M.set (n0 + k) (some [evO E T x])⟩ else none := by
  rw [exL_plain (fun _ => rfl)]
  simp only [actOf, act]
  split <;> rfl

def zeroS (P : Program) (t : Nat) : Option SV := match tiOf P t with
  | some ti => match ti.zero with
    | some z => if z.sto then some z else none
    | none => none
  | none => none
@[simp] theorem exL_alloc (d t : Nat) : exL E me pc ic n0 sz k (⟨some d, .alloc t, none, lm⟩ :: r) ⟨T, M⟩ =
    (zeroS E.P t).bind fun z => exL E me pc ic n0 sz (k + 1) r ⟨T.set d (.ptr (n0 + k) 0 0), M.set (n0 + k) (some [z])⟩ := by
  rw [exL_plain (fun _ => rfl)]
  simp only [actOf, act, zeroS]
  cases tiOf E.P t with
  | none => rfl
  | some ti =>
    obtain ⟨kd, a1, a2, a3⟩ := ti
    cases a3 with
    | none => rfl
    | some z =>
      cases hz : z.sto <;> simp [hz, putS]

@[simp] theorem exL_store (t : Nat) (x y : Operand) : exL E me pc ic n0 sz k (⟨none, .store t x y, none, lm⟩ :: r) ⟨T, M⟩ =
    (storeS E.P (seenM M n0 sz lm) t (evO E T x) (evO E T y)).bind fun u => exL E me pc ic n0 sz (k + 1) r ⟨T, M.sets u⟩ := by
  rw [exL_plain (fun _ => rfl)]
  simp only [actOf, act]
  cases storeS E.P (seenM M n0 sz lm) t (evO E T x) (evO E T y) <;> rfl

@[simp] theorem exL_append (d t t2 : Nat) (x y : Operand) : exL E me pc ic n0 sz k (⟨some d, .call { callee := .builtin .append, args := #[x, y], argTypes := #[t, t2] }, none, lm⟩ :: r) ⟨T, M⟩ =
    (appendS E.P (seenM M n0 sz lm) (n0 + k) t t2 (evO E T x) (evO E T y)).bind fun q => exL E me pc ic n0 sz (k + 1) r ⟨T.set d q.1, M.sets q.2⟩ := by
  rw [exL_plain (fun _ => rfl)]
  rfl

@[simp] theorem exL_copy (d t t2 : Nat) (x y : Operand) : exL E me pc ic n0 sz k (⟨some d, .call { callee := .builtin .copy, args := #[x, y], argTypes := #[t, t2] }, none, lm⟩ :: r) ⟨T, M⟩ =
    (copyS E.P (seenM M n0 sz lm) t (evO E T x) (evO E T y)).bind fun q => exL E me pc ic n0 sz (k + 1) r ⟨T.set d q.1, M.sets q.2⟩ := by
  rw [exL_plain (fun _ => rfl)]
  rfl

def bldS (P : Program) (t : Nat) (l : List (Nat × SV)) : Option SV := match tiOf P t with
  | some ti => match ti.zero, placesOf P ti.kind with
    | some (.agg zs), some pl => match buildS pl zs l with | some cs => some (.agg cs) | none => none
    | _, _ => none
  | none => none
@[simp] theorem exL_build (d t : Nat) (ps : Array (Nat × Operand)) : exL E me pc ic n0 sz k (⟨some d, .build t ps, none, lm⟩ :: r) ⟨T, M⟩ =
    (bldS E.P t (ps.toList.map fun p => (p.1, evO E T p.2))).bind fun y => exL E me pc ic n0 sz (k + 1) r ⟨T.set d y, M⟩ :=
  exL_val (fun ρ get => bldS E.P t (ps.toList.map fun p => (p.1, ρ p.2))) (fun _ => rfl) (fun a ρ get => by
    simp only [actOf, act, bldS]
    cases tiOf E.P t with
    | none => rfl
    | some ti =>
      simp only
      generalize ti.zero = z
      generalize placesOf E.P ti.kind = q
      cases z with
      | none => rfl
      | some z =>
        cases z <;> first | rfl | (cases q <;> rfl))

def bldSl (P : Program) (t len a : Nat) (l : List (Nat × SV)) : Option (SV × List SV) := match tiOf P t with
  | some ⟨.slice e, _, _, _⟩ => match tiOf P e with
    | some te => match te.zero with
      | some z => if z.sto = true ∧ z.cells.length = te.size ∧ 0 < te.size ∧ len * te.size ≤ 16777216 then
          (match buildRow te.size len (List.replicate len z) l with
          | some xs => some (.own a te.size 0 len, xs)
          | none => none) else none
      | none => none
    | none => none
  | _ => none
@[simp] theorem exL_buildSlice (d t len : Nat) (ps : Array (Nat × Operand)) : exL E me pc ic n0 sz k (⟨some d, .buildSlice t len ps, none, lm⟩ :: r) ⟨T, M⟩ =
    (bldSl E.P t len (n0 + k) (ps.toList.map fun p => (p.1, evO E T p.2))).bind fun q => exL E me pc ic n0 sz (k + 1) r ⟨T.set d q.1, M.set (n0 + k) (some q.2)⟩ := by
  rw [exL_plain (fun _ => rfl)]
  simp only [actOf, act, bldSl]
  cases tiOf E.P t with
  | none => rfl
  | some ti =>
    obtain ⟨kd, a1, a2, a3⟩ := ti
    cases kd <;> first | rfl | skip
    rename_i e
    simp only
    cases tiOf E.P e with
    | none => rfl
    | some te =>
      simp only
      cases te.zero with
      | none => rfl
      | some z =>
        simp only
        split
        · rename_i hc
          generalize buildRow te.size len (List.replicate len z) _ = q
          cases q <;> rfl
        · rfl

def mkSl (P : Program) (t a : Nat) (l c : SV) : Option (SV × List SV) := match tiOf P t with
  | some ⟨.slice e, _, _, _⟩ => match tiOf P e, l, c with
    | some te, .int .i64 n, .int .i64 m => match te.zero with
      | some z => if z.sto = true ∧ z.cells.length = te.size ∧ 0 < te.size ∧ n = m ∧ 0 ≤ n ∧ n * te.bytes ≤ 281474976710656 ∧ n ≤ 281474976710656 then
          some (.own a te.size 0 n.toNat, List.replicate n.toNat z) else none
      | none => none
    | _, _, _ => none
  | _ => none
@[simp] theorem exL_makeSlice (d t : Nat) (l c : Operand) : exL E me pc ic n0 sz k (⟨some d, .makeSlice t l c, none, lm⟩ :: r) ⟨T, M⟩ =
    (mkSl E.P t (n0 + k) (evO E T l) (evO E T c)).bind fun q => exL E me pc ic n0 sz (k + 1) r ⟨T.set d q.1, M.set (n0 + k) (some q.2)⟩ := by
  rw [exL_plain (fun _ => rfl)]
  simp only [actOf, act, mkSl]
  cases tiOf E.P t with
  | none => rfl
  | some ti =>
    obtain ⟨kd, a1, a2, a3⟩ := ti
    cases kd <;> first | rfl | skip
    rename_i e
    simp only
    cases tiOf E.P e with
    | none => rfl
    | some te =>
      generalize evO E T l = x
      generalize evO E T c = y
      cases x <;> first | rfl | skip
      rename_i k1 n1
      cases k1 <;> first | rfl | skip
      cases y <;> first | rfl | skip
      rename_i k2 n2
      cases k2 <;> first | rfl | skip
      simp only
      cases te.zero with
      | none => rfl
      | some z =>
        simp only
        split <;> rfl

/-! ### Calls -/

/-- A call by number, in memory of its own. -/
def callP (pc : PC) (get : Nat → Option (List SV)) (f : Nat) (xs : List SV) : Option SV :=
  match xs.mapM (pic get false picDepth) with
  | some args => pc f args
  | none => none

theorem exL_call (d f : Nat) (xs : Array Operand) (ts : Array Nat) (h : ((E.prim f).isSome || E.imp me f) = false) :
    exL E me pc ic n0 sz k (⟨some d, .call { callee := .value (.func f), args := xs, argTypes := ts }, none, lm⟩ :: r) ⟨T, M⟩ =
      (callP pc (seenM M n0 sz lm) f (xs.toList.map (evO E T))).bind fun y => exL E me pc ic n0 sz (k + 1) r ⟨T.set d y, M⟩ := by
  have hi : impOf E me (evO E T) (.call { callee := .value (.func f), args := xs, argTypes := ts }) = none := by
    simp [impOf, impCall, h]
  simp only [exL, exI, wantI, hi]
  simp only [actOf, act, evO_func, callP, List.append_nil, List.nil_append]
  cases List.mapM (pic (seenM M n0 sz lm) false picDepth) (xs.toList.map (evO E T)) with
  | none => rfl
  | some args =>
    simp only
    cases pc f args <;> rfl

theorem exL_callv (d t : Nat) (xs : Array Operand) (ts : Array Nat) {f : Nat} {a c : List SV} (hf : T.getD t (.tup []) = .fn f a c) (h : ((E.prim f).isSome || E.imp me f) = false) :
    exL E me pc ic n0 sz k (⟨some d, .call { callee := .value (.tmp t), args := xs, argTypes := ts }, none, lm⟩ :: r) ⟨T, M⟩ =
      (callP pc (seenM M n0 sz lm) f (a ++ xs.toList.map (evO E T) ++ c)).bind fun y => exL E me pc ic n0 sz (k + 1) r ⟨T.set d y, M⟩ := by
  have hi : impOf E me (evO E T) (.call { callee := .value (.tmp t), args := xs, argTypes := ts }) = none := by
    simp only [impOf, impCall, evO_tmp, hf, h, Bool.false_eq_true, if_false]
  simp only [exL, exI, wantI, hi]
  simp only [actOf, act, evO_tmp, hf, callP]
  cases List.mapM (pic (seenM M n0 sz lm) false picDepth) (a ++ xs.toList.map (evO E T) ++ c) with
  | none => rfl
  | some args =>
    simp only
    cases pc f args <;> rfl

theorem exL_callI (d f : Nat) (xs : Array Operand) (ts : Array Nat) (h : ((E.prim f).isSome || E.imp me f) = true) :
    exL E me pc ic n0 sz k (⟨some d, .call { callee := .value (.func f), args := xs, argTypes := ts }, none, lm⟩ :: r) ⟨T, M⟩ =
      (ic f (xs.toList.map (evO E T)) M).bind fun q => exL E me pc ic n0 sz (k + 1) r ⟨T.set d q.1, q.2⟩ := by
  have hi : impOf E me (evO E T) (.call { callee := .value (.func f), args := xs, argTypes := ts }) = some (f, xs.toList.map (evO E T)) := by
    simp [impOf, impCall, h]
  simp only [exL, exI, wantI, hi]
  cases ic f (xs.toList.map (evO E T)) M <;> rfl

/-- A function's body, by its short code. -/
theorem ICw_run {f : Nat} {fn : Func} {c' : C} {rs : List ResultVar} {args T' : List SV} (hp : E.prim f = none) (hf : E.P.funcs[f]? = some fn) (hb : fn.body.map (comp E f) = some c')
    (hn : decide (fn.name = "runtime.NumGoroutine") = false) (hr : fn.results.toList = rs) (hT : args ++ List.replicate (fn.ntmps - args.length) .bad = T') (M : Mem) :
    ICw E f args M = endS E rs (evW E f c' ⟨T', M⟩) := by
  cases hc : fn.body with
  | none => rw [hc] at hb; cases hb
  | some c =>
    rw [hc] at hb
    simp only [Option.map_some, Option.some.injEq] at hb
    subst hb hr hT
    exact ICw_body hp hf hc (of_decide_eq_false hn) args M

/-! ### Guards -/

theorem exL_guard_no {d : Option Nat} {op : Op} {t : Nat} {want b : Bool} (hb : T[t]? = some (.bool b)) (h : (b == want) = false) :
    exL E me pc ic n0 sz k (⟨d, op, some (some t, want), lm⟩ :: r) ⟨T, M⟩ = exL E me pc ic n0 sz (k + 1) r ⟨putS T d (.tup []), M⟩ := by
  simp only [exL, exI, wantI, hb, h]

theorem exL_guard_skip {d : Option Nat} {op : Op} {t : Nat} {want : Bool} (hb : T[t]? = some (.tup [])) :
    exL E me pc ic n0 sz k (⟨d, op, some (some t, want), lm⟩ :: r) ⟨T, M⟩ = exL E me pc ic n0 sz (k + 1) r ⟨putS T d (.tup []), M⟩ := by
  simp only [exL, exI, wantI, hb]

theorem exL_guard_yes {d : Option Nat} {op : Op} {t : Nat} {want b : Bool} (hb : T[t]? = some (.bool b)) (h : (b == want) = true) :
    exL E me pc ic n0 sz k (⟨d, op, some (some t, want), lm⟩ :: r) ⟨T, M⟩ = exL E me pc ic n0 sz k (⟨d, op, none, lm⟩ :: r) ⟨T, M⟩ := by
  simp only [exL, exI, wantI, hb, h]

@[simp] theorem exL_t_yes {d : Option Nat} {op : Op} {t : Nat} (h : T[t]? = some (.bool true)) :
    exL E me pc ic n0 sz k (⟨d, op, some (some t, true), lm⟩ :: r) ⟨T, M⟩ = exL E me pc ic n0 sz k (⟨d, op, none, lm⟩ :: r) ⟨T, M⟩ := exL_guard_yes h rfl
@[simp] theorem exL_t_no {d : Option Nat} {op : Op} {t : Nat} (h : T[t]? = some (.bool false)) :
    exL E me pc ic n0 sz k (⟨d, op, some (some t, true), lm⟩ :: r) ⟨T, M⟩ = exL E me pc ic n0 sz (k + 1) r ⟨putS T d (.tup []), M⟩ := exL_guard_no h rfl
@[simp] theorem exL_f_yes {d : Option Nat} {op : Op} {t : Nat} (h : T[t]? = some (.bool false)) :
    exL E me pc ic n0 sz k (⟨d, op, some (some t, false), lm⟩ :: r) ⟨T, M⟩ = exL E me pc ic n0 sz k (⟨d, op, none, lm⟩ :: r) ⟨T, M⟩ := exL_guard_yes h rfl
@[simp] theorem exL_f_no {d : Option Nat} {op : Op} {t : Nat} (h : T[t]? = some (.bool true)) :
    exL E me pc ic n0 sz k (⟨d, op, some (some t, false), lm⟩ :: r) ⟨T, M⟩ = exL E me pc ic n0 sz (k + 1) r ⟨putS T d (.tup []), M⟩ := exL_guard_no h rfl
@[simp] theorem exL_g_skip {d : Option Nat} {op : Op} {t : Nat} {want : Bool} (h : T[t]? = some (.tup [])) :
    exL E me pc ic n0 sz k (⟨d, op, some (some t, want), lm⟩ :: r) ⟨T, M⟩ = exL E me pc ic n0 sz (k + 1) r ⟨putS T d (.tup []), M⟩ := exL_guard_skip h

@[simp] theorem putS_some (T : List SV) (d : Nat) (v : SV) : putS T (some d) v = T.set d v := rfl
@[simp] theorem putS_none (T : List SV) (v : SV) : putS T none v = T := rfl

/-! ### Pictures -/

/-- Nothing in it, so deep, names memory of a call's own. -/
def np : Nat → SV → Bool
  | 0, x => pv x
  | n + 1, x => pv x || (match x with
    | .sl items _ => items.all (np n)
    | .rptr items _ _ _ => items.all (np n)
    | .fn _ a b => a.all (np n) && b.all (np n)
    | .iface _ v => np n v
    | .agg cs => cs.all (np n)
    | .tup vs => vs.all (np n)
    | _ => false)

theorem mapM_id {f : SV → Option SV} : ∀ {l : List SV}, (∀ x ∈ l, f x = some x) → l.mapM f = some l
  | [], _ => rfl
  | x :: r, h => by
    rw [List.mapM_cons, h x (by simp), mapM_id (l := r) fun y hy => h y (by simp [hy])]
    rfl

theorem np_of_pv {x : SV} (h : pv x = true) : ∀ n, np n x = true
  | 0 => h
  | n + 1 => by simp [np, h]

theorem pic_np {get : Nat → Option (List SV)} {st : Bool} : ∀ {n : Nat} {x : SV}, np n x = true → pic get st n x = some x
  | 0, x, h => by simp only [np] at h; simp [pic, h]
  | n + 1, x, h => by
    unfold pic
    cases hp : pv x with
    | true => simp
    | false =>
      simp only [np, hp, Bool.false_or] at h
      simp only [Bool.false_eq_true, if_false]
      have all : ∀ l : List SV, l.all (np n) = true → l.mapM (pic get st n) = some l := fun l hl => mapM_id fun y hy => pic_np (List.all_eq_true.1 hl y hy)
      cases x <;> simp only [Bool.and_eq_true] at h <;> first | (cases h; done) | skip
      · dsimp only; rw [all _ h]
      · dsimp only; rw [all _ h]
      · dsimp only; rw [all _ h.1, all _ h.2]
      · dsimp only; rw [pic_np h]
      · dsimp only; rw [all _ h]
      · dsimp only; rw [all _ h]

theorem np_le : ∀ {n m : Nat} {x : SV}, n ≤ m → np n x = true → np m x = true
  | 0, m, x, _, h => np_of_pv h m
  | n + 1, 0, x, hl, h => by omega
  | n + 1, m + 1, x, hl, h => by
    have ih : ∀ {x : SV}, np n x = true → np m x = true := fun h => np_le (by omega) h
    simp only [np, Bool.or_eq_true] at h ⊢
    rcases h with h | h
    · exact .inl h
    · refine .inr ?_
      cases x <;> simp only [Bool.and_eq_true, List.all_eq_true] at h ⊢ <;> first | (cases h; done) | skip
      · exact fun y hy => ih (h y hy)
      · exact fun y hy => ih (h y hy)
      · exact ⟨fun y hy => ih (h.1 y hy), fun y hy => ih (h.2 y hy)⟩
      · exact ih h
      · exact fun y hy => ih (h y hy)
      · exact fun y hy => ih (h y hy)

theorem callP_np {pc : PC} {get : Nat → Option (List SV)} {f : Nat} {xs : List SV} (h : ∀ x ∈ xs, np picDepth x = true) : callP pc get f xs = pc f xs := by
  unfold callP
  rw [mapM_id fun x hx => pic_np (h x hx)]

theorem callP_of {pc : PC} {get : Nat → Option (List SV)} {f : Nat} {xs : List SV} {v : SV} (h : pc f xs = some v) (hn : xs.all (np picDepth) = true) : callP pc get f xs = some v := by
  rw [callP_np fun x hx => List.all_eq_true.1 hn x hx, h]

/-- What a call hands back, where it is plain. -/
theorem PCw_of {f : Nat} {args : List SV} {v : SV} {M : Mem} (h : ICw E f args .empty = some (v, M)) (hv : pv v = true) : PCw E f args = some v := by
  unfold PCw pcOf
  rw [h]
  simp only
  rw [pic_np (np_of_pv hv _)]
  simp [hv]

theorem PCw_pic {f : Nat} {args : List SV} {v v' : SV} {M : Mem} (h : ICw E f args .empty = some (v, M)) (hp : pic M.blk true picDepth v = some v') (hv : pv v' = true) : PCw E f args = some v' := by
  unfold PCw pcOf
  rw [h]
  simp only
  rw [hp]
  simp [hv]

theorem pv_items : ∀ {l : List SV}, (∀ x ∈ l, pv x = true) → pvs l = true
  | [], _ => rfl
  | x :: r, h => by simp only [pvs, h x (by simp), pv_items (l := r) fun y hy => h y (by simp [hy]), Bool.and_self]

/-- A slice of a call's own, handed on: a picture. -/
theorem pic_snap {get : Nat → Option (List SV)} {id esz len : Nat} {items : List SV} (hg : get id = some items) (hl : len ≤ items.length) (hp : ∀ x ∈ items, np 11 x = true) :
    pic get false picDepth (.own id esz 0 len) = some (.sl (items.take len) .snap) := by
  unfold picDepth pic
  simp only [pv, Bool.false_eq_true, if_false, hg, Nat.zero_add, if_pos hl, List.drop_zero]
  rw [mapM_id fun x hx => pic_np (hp x (List.mem_of_mem_take hx))]

theorem callP_pic {pc : PC} {get : Nat → Option (List SV)} {f : Nat} {xs ys : List SV} (h : xs.mapM (pic get false picDepth) = some ys) : callP pc get f xs = pc f ys := by
  unfold callP
  rw [h]

/-- A slice of a call's own, handed back: a list. -/
theorem pic_own {get : Nat → Option (List SV)} {id esz len : Nat} {items : List SV} (hg : get id = some items) (hl : len ≤ items.length) (hp : ∀ x ∈ items, pv x = true) :
    pic get true picDepth (.own id esz 0 len) = some (.sl (items.take len) .ro) := by
  unfold picDepth pic
  simp only [pv, Bool.false_eq_true, if_false, hg, Nat.zero_add, if_pos hl, List.drop_zero]
  rw [mapM_id fun x hx => pic_np (np_of_pv (hp x (List.mem_of_mem_take hx)) _)]
  simp

end Go.Proofs.YtbdliphlolajaaaDoor.Sh
