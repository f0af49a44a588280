/-
  The shadow interpreter, text 16: its equations as rules for 'simp'. No condition.
-/
import Derived.Test.YtbdliphlolajaaaDoorShMb
import Derived.Laws.Small
set_option linter.unusedVariables false
set_option linter.unusedSimpArgs false
namespace Go.Proofs.YtbdliphlolajaaaDoor.Sh
variable {E : Env}

attribute [simp] evW_skip evW_exit evW_ret evW_cond evW_seq evW_block

/-! ### Temps, constants -/

@[simp] theorem evO_tmp (T : List SV) (t : Nat) : evO E T (.tmp t) = T.getD t (.tup []) := rfl
@[simp] theorem evO_func (T : List SV) (f : Nat) : evO E T (.func f) = .fn f [] [] := rfl
@[simp] theorem evO_int (T : List SV) (k : IntKind) (n : Int) : evO E T (.const (.int k n)) = .int k n := rfl
@[simp] theorem evO_bool (T : List SV) (b : Bool) : evO E T (.const (.bool b)) = .bool b := rfl
@[simp] theorem evO_str (T : List SV) (s : ByteArray) : evO E T (.const (.string s)) = .str s := rfl
@[simp] theorem evO_nilsl (T : List SV) : evO E T (.const (.slice none 0 0)) = .nilsl := rfl
@[simp] theorem evO_nilp (T : List SV) : evO E T (.const (.pointer none)) = .nilp := rfl
@[simp] theorem evO_nili (T : List SV) : evO E T (.const .nilIface) = .nili := rfl
@[simp] theorem evO_nilf (T : List SV) : evO E T (.const .nilFunc) = .nilf := rfl
@[simp] theorem evO_global (T : List SV) (g : Nat) : evO E T (.global g) = match E.G g with | some items => .rptr items 0 0 true | none => .bad := rfl
theorem evO_const (T : List SV) (v : Value) : evO E T (.const v) = ofVal v := rfl

@[simp] theorem forget_nil (T : List SV) : forget [] T = T := rfl
@[simp] theorem forget_cons (d : Nat) (r : List Nat) (T : List SV) : forget (d :: r) T = forget r (T.set d .bad) := rfl

/-! ### Cells -/

@[simp] theorem cells_bool_ (b : Bool) : (SV.bool b).cells = [(SV.bool b)] := rfl
@[simp] theorem sto_bool_ (b : Bool) : (SV.bool b).sto = true := rfl
@[simp] theorem cells_int_ (k : IntKind) (n : Int) : (SV.int k n).cells = [(SV.int k n)] := rfl
@[simp] theorem sto_int_ (k : IntKind) (n : Int) : (SV.int k n).sto = true := rfl
@[simp] theorem cells_str_ (s : ByteArray) : (SV.str s).cells = [(SV.str s)] := rfl
@[simp] theorem sto_str_ (s : ByteArray) : (SV.str s).sto = true := rfl
@[simp] theorem cells_nilp_ : SV.nilp.cells = [SV.nilp] := rfl
@[simp] theorem sto_nilp_ : SV.nilp.sto = true := rfl
@[simp] theorem cells_ptr_ (i j o : Nat) : (SV.ptr i j o).cells = [(SV.ptr i j o)] := rfl
@[simp] theorem sto_ptr_ (i j o : Nat) : (SV.ptr i j o).sto = true := rfl
@[simp] theorem cells_rptr_ (l : List SV) (i o : Nat) (st : Bool) : (SV.rptr l i o st).cells = [(SV.rptr l i o st)] := rfl
@[simp] theorem sto_rptr_ (l : List SV) (i o : Nat) (st : Bool) : (SV.rptr l i o st).sto = true := rfl
@[simp] theorem cells_nilsl_ : SV.nilsl.cells = [SV.nilsl] := rfl
@[simp] theorem sto_nilsl_ : SV.nilsl.sto = true := rfl
@[simp] theorem cells_sl_ (l : List SV) (tl : Tl) : (SV.sl l tl).cells = [(SV.sl l tl)] := rfl
@[simp] theorem sto_sl_ (l : List SV) (tl : Tl) : (SV.sl l tl).sto = true := rfl
@[simp] theorem cells_own_ (i e j n : Nat) : (SV.own i e j n).cells = [(SV.own i e j n)] := rfl
@[simp] theorem sto_own_ (i e j n : Nat) : (SV.own i e j n).sto = true := rfl
@[simp] theorem cells_fn_ (f : Nat) (a c : List SV) : (SV.fn f a c).cells = [(SV.fn f a c)] := rfl
@[simp] theorem sto_fn_ (f : Nat) (a c : List SV) : (SV.fn f a c).sto = true := rfl
@[simp] theorem cells_nilf_ : SV.nilf.cells = [SV.nilf] := rfl
@[simp] theorem sto_nilf_ : SV.nilf.sto = true := rfl
@[simp] theorem cells_iface_ (t : Nat) (v : SV) : (SV.iface t v).cells = [(SV.iface t v)] := rfl
@[simp] theorem sto_iface_ (t : Nat) (v : SV) : (SV.iface t v).sto = true := rfl
@[simp] theorem cells_nili_ : SV.nili.cells = [SV.nili] := rfl
@[simp] theorem sto_nili_ : SV.nili.sto = true := rfl
@[simp] theorem cells_agg_ (cs : List SV) : (SV.agg cs).cells = cs := rfl
@[simp] theorem sto_agg_ (cs : List SV) : (SV.agg cs).sto = true := rfl

/-! ### Memory -/

@[simp] theorem Mem.blk_set (M : Mem) (i j : Nat) (b : Option (List SV)) : (M.set i b).blk j = if j = i then b else M.blk j := rfl
@[simp] theorem Mem.next_set (M : Mem) (i : Nat) (b : Option (List SV)) : (M.set i b).next = M.next := rfl
def Mem.bump (M : Mem) (n : Nat) : Mem := ⟨M.blk, M.next + n⟩
@[simp] theorem Mem.bump_zero (M : Mem) : M.bump 0 = M := rfl
@[simp] theorem Mem.blk_bump (M : Mem) (n j : Nat) : (M.bump n).blk j = M.blk j := rfl
@[simp] theorem Mem.next_bump (M : Mem) (n : Nat) : (M.bump n).next = M.next + n := rfl
@[simp] theorem Mem.sets_nil (M : Mem) : M.sets [] = M := rfl
@[simp] theorem Mem.sets_cons (M : Mem) (p : Nat × Option (List SV)) (r) : M.sets (p :: r) = (M.set p.1 p.2).sets r := rfl
@[simp] theorem Mem.empty_next : Mem.empty.next = 0 := rfl
@[simp] theorem Mem.empty_blk (j : Nat) : Mem.empty.blk j = none := rfl
@[simp] theorem seenM_none (M : Mem) (n0 sz : Nat) : seenM M n0 sz none = M.blk := rfl
@[simp] theorem seenM_some (M : Mem) (n0 sz id : Nat) (l : List Nat) : seenM M n0 sz (some l) id = if decide (id < n0) || decide (n0 + sz ≤ id) || l.contains (id - n0) then M.blk id else none := rfl

/-! ### Regions -/

theorem evW_reg (me : Nat) (ri : RI) (T : List SV) (M : Mem) :
    evW E me (.reg ri) ⟨T, M⟩ = match exL E me (PCw E) (ICw E) M.next ri.size 0 ri.ops ⟨T, M.bump ri.adv⟩ with
      | some s' => some (.normal, ⟨forget ri.dead s'.tmps, s'.mem⟩)
      | none => none := by
  rw [evW_region]
  unfold regW regS
  show (match (match exL E me (PCw E) (ICw E) M.next ri.size 0 ri.ops ⟨T, M.bump ri.adv⟩ with | some s' => some (⟨forget ri.dead s'.tmps, s'.mem⟩ : St) | none => none) with | some s' => some (Ex.normal, s') | none => none) = _
  cases exL E me (PCw E) (ICw E) M.next ri.size 0 ri.ops ⟨T, M.bump ri.adv⟩ <;> rfl

theorem evW_chkr (me : Nat) (ri : RI) (t : Nat) (x : Operand) (d : Nat) (T : List SV) (M : Mem) :
    evW E me (.chk ri t x d) ⟨T, M⟩ = match exL E me (PCw E) (ICw E) M.next ri.size 0 ri.ops ⟨T, M.bump ri.adv⟩ with
      | some s' => (match loadS E.P s'.mem.blk t (evO E (forget ri.dead s'.tmps) x) with
        | some v => if svSame v ((forget ri.dead s'.tmps).getD d .bad) then some (.normal, ⟨T, M⟩) else none
        | none => none)
      | none => none := by
  rw [evW_chk]
  unfold regW regS
  show (match (match exL E me (PCw E) (ICw E) M.next ri.size 0 ri.ops ⟨T, M.bump ri.adv⟩ with | some s' => some (⟨forget ri.dead s'.tmps, s'.mem⟩ : St) | none => none) with | some s1 => _ | none => none) = _
  cases exL E me (PCw E) (ICw E) M.next ri.size 0 ri.ops ⟨T, M.bump ri.adv⟩ <;> rfl
@[simp] theorem svSame_nil : svSame .nilsl .nilsl = true := rfl
@[simp] theorem svSame_own (a b c d : Nat) : svSame (.own a b c d) (.own a b c d) = true := by simp [svSame]
@[simp] theorem svSame_int (k : IntKind) (n : Int) : svSame (.int k n) (.int k n) = true := by simp [svSame]

variable {me n0 sz k : Nat} {pc : PC} {ic : IC} {r : List Ins} {lm : Option (List Nat)} {T : List SV} {M : Mem}

@[simp] theorem exL_nil (s : St) : exL E me pc ic n0 sz k [] s = some s := rfl

theorem exL_plain {d : Option Nat} {op : Op} (hi : ∀ ρ, impOf E me ρ op = none) :
    exL E me pc ic n0 sz k (⟨d, op, none, lm⟩ :: r) ⟨T, M⟩ = (actOf E pc (n0 + k) (evO E T) (seenM M n0 sz lm) op).bind fun q => exL E me pc ic n0 sz (k + 1) r ⟨putS T d q.1, M.sets q.2⟩ := by
  simp only [exL, exI, wantI, hi]
  cases actOf E pc (n0 + k) (evO E T) (seenM M n0 sz lm) op <;> rfl

theorem exL_val {d : Nat} {op : Op} (x : (Operand → SV) → (Nat → Option (List SV)) → Option SV) (hi : ∀ ρ, impOf E me ρ op = none)
    (ha : ∀ a ρ get, actOf E pc a ρ get op = match x ρ get with | some y => some (y, []) | none => none) :
    exL E me pc ic n0 sz k (⟨some d, op, none, lm⟩ :: r) ⟨T, M⟩ = (x (evO E T) (seenM M n0 sz lm)).bind fun y => exL E me pc ic n0 sz (k + 1) r ⟨T.set d y, M⟩ := by
  rw [exL_plain hi, ha]
  cases x (evO E T) (seenM M n0 sz lm) <;> rfl

@[simp] theorem exL_move (d : Nat) (x : Operand) : exL E me pc ic n0 sz k (⟨some d, .move x, none, lm⟩ :: r) ⟨T, M⟩ = exL E me pc ic n0 sz (k + 1) r ⟨T.set d (evO E T x), M⟩ :=
  exL_val (fun ρ _ => some (ρ x)) (fun _ => rfl) (fun _ _ _ => rfl)
@[simp] theorem exL_assign (d : Nat) (x : Operand) : exL E me pc ic n0 sz k (⟨some d, .assign x, none, lm⟩ :: r) ⟨T, M⟩ = exL E me pc ic n0 sz (k + 1) r ⟨T.set d (evO E T x), M⟩ :=
  exL_val (fun ρ _ => some (ρ x)) (fun _ => rfl) (fun _ _ _ => rfl)
@[simp] theorem exL_load (d t : Nat) (x : Operand) : exL E me pc ic n0 sz k (⟨some d, .load t x, none, lm⟩ :: r) ⟨T, M⟩ = (loadS E.P (seenM M n0 sz lm) t (evO E T x)).bind fun y => exL E me pc ic n0 sz (k + 1) r ⟨T.set d y, M⟩ :=
  exL_val (fun ρ get => loadS E.P get t (ρ x)) (fun _ => rfl) (fun _ _ _ => rfl)
@[simp] theorem exL_bin (d t t' : Nat) (op : BinOp) (x y : Operand) : exL E me pc ic n0 sz k (⟨some d, .binOp op t x y t', none, lm⟩ :: r) ⟨T, M⟩ = (binS E.P op t (isCst x || isCst y) (evO E T x) (evO E T y)).bind fun y => exL E me pc ic n0 sz (k + 1) r ⟨T.set d y, M⟩ :=
  exL_val (fun ρ get => binS E.P op t (isCst x || isCst y) (ρ x) (ρ y)) (fun _ => rfl) (fun _ _ _ => rfl)
@[simp] theorem exL_un (d t : Nat) (op : UnOp) (x : Operand) : exL E me pc ic n0 sz k (⟨some d, .unOp op t x, none, lm⟩ :: r) ⟨T, M⟩ = (unS op (evO E T x)).bind fun y => exL E me pc ic n0 sz (k + 1) r ⟨T.set d y, M⟩ :=
  exL_val (fun ρ get => unS op (ρ x)) (fun _ => rfl) (fun _ _ _ => rfl)
@[simp] theorem exL_conv (d s t : Nat) (x : Operand) : exL E me pc ic n0 sz k (⟨some d, .convert s t x, none, lm⟩ :: r) ⟨T, M⟩ = (convS E.P (seenM M n0 sz lm) s t (evO E T x)).bind fun y => exL E me pc ic n0 sz (k + 1) r ⟨T.set d y, M⟩ :=
  exL_val (fun ρ get => convS E.P get s t (ρ x)) (fun _ => rfl) (fun _ _ _ => rfl)
@[simp] theorem exL_slice (d t : Nat) (x : Operand) (a b c : Option Operand) : exL E me pc ic n0 sz k (⟨some d, .slice t x a b c, none, lm⟩ :: r) ⟨T, M⟩ = (sliceS E.P t (evO E T x) (a.map (evO E T)) (b.map (evO E T)) (c.map (evO E T))).bind fun y => exL E me pc ic n0 sz (k + 1) r ⟨T.set d y, M⟩ :=
  exL_val (fun ρ get => sliceS E.P t (ρ x) (a.map ρ) (b.map ρ) (c.map ρ)) (fun _ => rfl) (fun _ _ _ => rfl)
@[simp] theorem exL_fieldAddr (d t f : Nat) (x : Operand) : exL E me pc ic n0 sz k (⟨some d, .fieldAddr t x f, none, lm⟩ :: r) ⟨T, M⟩ = (fieldAddrS E.P t (evO E T x) f).bind fun y => exL E me pc ic n0 sz (k + 1) r ⟨T.set d y, M⟩ :=
  exL_val (fun ρ get => fieldAddrS E.P t (ρ x) f) (fun _ => rfl) (fun _ _ _ => rfl)
@[simp] theorem exL_field (d t f : Nat) (x : Operand) : exL E me pc ic n0 sz k (⟨some d, .field t x f, none, lm⟩ :: r) ⟨T, M⟩ = (fieldS E.P t (evO E T x) f).bind fun y => exL E me pc ic n0 sz (k + 1) r ⟨T.set d y, M⟩ :=
  exL_val (fun ρ get => fieldS E.P t (ρ x) f) (fun _ => rfl) (fun _ _ _ => rfl)
@[simp] theorem exL_indexAddr (d t : Nat) (x i : Operand) : exL E me pc ic n0 sz k (⟨some d, .indexAddr t x i, none, lm⟩ :: r) ⟨T, M⟩ = (indexAddrS E.P t (evO E T x) (evO E T i)).bind fun y => exL E me pc ic n0 sz (k + 1) r ⟨T.set d y, M⟩ :=
  exL_val (fun ρ get => indexAddrS E.P t (ρ x) (ρ i)) (fun _ => rfl) (fun _ _ _ => rfl)
@[simp] theorem exL_index (d t : Nat) (x i : Operand) : exL E me pc ic n0 sz k (⟨some d, .index t x i, none, lm⟩ :: r) ⟨T, M⟩ = (indexS E.P t (evO E T x) (evO E T i)).bind fun y => exL E me pc ic n0 sz (k + 1) r ⟨T.set d y, M⟩ :=
  exL_val (fun ρ get => indexS E.P t (ρ x) (ρ i)) (fun _ => rfl) (fun _ _ _ => rfl)
@[simp] theorem exL_typeAssert (d s t : Nat) (x : Operand) (ok : Bool) : exL E me pc ic n0 sz k (⟨some d, .typeAssert x s t ok, none, lm⟩ :: r) ⟨T, M⟩ = (assertS E.P (evO E T x) t ok).bind fun y => exL E me pc ic n0 sz (k + 1) r ⟨T.set d y, M⟩ :=
  exL_val (fun ρ get => assertS E.P (ρ x) t ok) (fun _ => rfl) (fun _ _ _ => rfl)

def extractS (i : Nat) : SV → Option SV
  | .tup vs => vs[i]?
  | _ => none
@[simp] theorem extractS_tup (i : Nat) (vs : List SV) : extractS i (.tup vs) = vs[i]? := rfl
@[simp] theorem exL_extract (d i : Nat) (x : Operand) : exL E me pc ic n0 sz k (⟨some d, .extract x i, none, lm⟩ :: r) ⟨T, M⟩ = (extractS i (evO E T x)).bind fun y => exL E me pc ic n0 sz (k + 1) r ⟨T.set d y, M⟩ :=
  exL_val (fun ρ get => extractS i (ρ x)) (fun _ => rfl) (fun a ρ get => by
    simp only [actOf, act, extractS]
    cases ρ x <;> rfl)

def pickS (p q : SV) : SV → Option SV
  | .bool b => some (if b then p else q)
  | _ => none
@[simp] theorem pickS_bool (p q : SV) (b : Bool) : pickS p q (.bool b) = some (if b then p else q) := rfl
@[simp] theorem exL_pick (d : Nat) (c p q : Operand) : exL E me pc ic n0 sz k (⟨some d, .pick c p q, none, lm⟩ :: r) ⟨T, M⟩ = (pickS (evO E T p) (evO E T q) (evO E T c)).bind fun y => exL E me pc ic n0 sz (k + 1) r ⟨T.set d y, M⟩ :=
  exL_val (fun ρ get => pickS (ρ p) (ρ q) (ρ c)) (fun _ => rfl) (fun a ρ get => by
    simp only [actOf, act, pickS]
    cases ρ c <;> rfl)

def nilS : SV → Option SV
  | .ptr id i o => some (.ptr id i o)
  | .rptr l i o st => some (.rptr l i o st)
  | .iface t y => some (.iface t y)
  | .fn f p q => some (.fn f p q)
  | _ => none
@[simp] theorem nilS_ptr (id i o : Nat) : nilS (.ptr id i o) = some (.ptr id i o) := rfl
@[simp] theorem nilS_rptr (l i o st) : nilS (.rptr l i o st) = some (.rptr l i o st) := rfl
@[simp] theorem nilS_iface (t y) : nilS (.iface t y) = some (.iface t y) := rfl
@[simp] theorem nilS_fn (f p q) : nilS (.fn f p q) = some (.fn f p q) := rfl
@[simp] theorem exL_nilCheck (d : Nat) (x : Operand) : exL E me pc ic n0 sz k (⟨some d, .nilCheck x, none, lm⟩ :: r) ⟨T, M⟩ = (nilS (evO E T x)).bind fun y => exL E me pc ic n0 sz (k + 1) r ⟨T.set d y, M⟩ :=
  exL_val (fun ρ get => nilS (ρ x)) (fun _ => rfl) (fun a ρ get => by
    simp only [actOf, act, nilS]
    cases ρ x <;> rfl)
@[simp] theorem exL_nilCheck' (x : Operand) : exL E me pc ic n0 sz k (⟨none, .nilCheck x, none, lm⟩ :: r) ⟨T, M⟩ = (nilS (evO E T x)).bind fun y => exL E me pc ic n0 sz (k + 1) r ⟨T, M⟩ := by
  rw [exL_plain (fun _ => rfl)]
  simp only [actOf, act, nilS]
  cases evO E T x <;> rfl

def makeIS (P : Program) (t : Nat) (x : SV) : Option SV := match tiOf P t with
  | some ⟨.iface, _, _, _⟩ => none
  | some _ => some (.iface t x)
  | none => none
@[simp] theorem exL_makeInterface (d t : Nat) (x : Operand) : exL E me pc ic n0 sz k (⟨some d, .makeInterface t x, none, lm⟩ :: r) ⟨T, M⟩ = (if E.sent t = true then none else makeIS E.P t (evO E T x)).bind fun y => exL E me pc ic n0 sz (k + 1) r ⟨T.set d y, M⟩ :=
  exL_val (fun ρ get => if E.sent t = true then none else makeIS E.P t (ρ x)) (fun _ => rfl) (fun a ρ get => by
    simp only [actOf, act, makeIS]
    cases hs : E.sent t with
    | true => rfl
    | false =>
      simp only [Bool.false_eq_true, if_false]
      cases tiOf E.P t with
      | none => rfl
      | some ti =>
        obtain ⟨kd, a1, a2, a3⟩ := ti
        cases kd <;> rfl)

@[simp] theorem exL_makeFunc (d f : Nat) (a c : Array Operand) : exL E me pc ic n0 sz k (⟨some d, .makeFunc (.func f) a c, none, lm⟩ :: r) ⟨T, M⟩ = exL E me pc ic n0 sz (k + 1) r ⟨T.set d (.fn f (a.toList.map (evO E T)) (c.toList.map (evO E T))), M⟩ :=
  exL_val (fun ρ _ => some (.fn f (a.toList.map ρ) (c.toList.map ρ))) (fun _ => rfl) (fun _ _ _ => rfl)

@[simp] theorem exL_len (d t : Nat) (x : Operand) : exL E me pc ic n0 sz k (⟨some d, .call { callee := .builtin .len, args := #[x], argTypes := #[t] }, none, lm⟩ :: r) ⟨T, M⟩ = (lenS E.P t (evO E T x)).bind fun y => exL E me pc ic n0 sz (k + 1) r ⟨T.set d y, M⟩ :=
  exL_val (fun ρ get => lenS E.P t (ρ x)) (fun _ => rfl) (fun _ _ _ => rfl)
@[simp] theorem exL_min (d : Nat) (xs : Array Operand) (ts : Array Nat) : exL E me pc ic n0 sz k (⟨some d, .call { callee := .builtin .min, args := xs, argTypes := ts }, none, lm⟩ :: r) ⟨T, M⟩ = (mmS false (xs.toList.map (evO E T))).bind fun y => exL E me pc ic n0 sz (k + 1) r ⟨T.set d y, M⟩ :=
  exL_val (fun ρ get => mmS false (xs.toList.map ρ)) (fun _ => rfl) (fun _ _ _ => rfl)
@[simp] theorem exL_max (d : Nat) (xs : Array Operand) (ts : Array Nat) : exL E me pc ic n0 sz k (⟨some d, .call { callee := .builtin .max, args := xs, argTypes := ts }, none, lm⟩ :: r) ⟨T, M⟩ = (mmS true (xs.toList.map (evO E T))).bind fun y => exL E me pc ic n0 sz (k + 1) r ⟨T.set d y, M⟩ :=
  exL_val (fun ρ get => mmS true (xs.toList.map ρ)) (fun _ => rfl) (fun _ _ _ => rfl)

@[simp] theorem exL_box (d t : Nat) (x : Operand) : exL E me pc ic n0 sz k (⟨some d, .box t x, none, lm⟩ :: r) ⟨T, M⟩ =
    if (evO E T x).sto then exL E me pc ic n0 sz (k + 1) r ⟨T.set d (.ptr (n0 + k) 0 0), M.set (n0 + k) (some [evO E T x])⟩ else none := by
  rw [exL_plain (fun _ => rfl)]
  simp only [actOf, act]
  split <;> rfl

def zeroS (P : Program) (t : Nat) : Option SV := match tiOf P t with
  | some ti => match ti.zero with
    | some z => if z.sto then some z else none
    | none => none
  | none => none
@[simp] theorem exL_alloc (d t : Nat) : exL E me pc ic n0 sz k (⟨some d, .alloc t, none, lm⟩ :: r) ⟨T, M⟩ =
    (zeroS E.P t).bind fun z => exL E me pc ic n0 sz (k + 1) r ⟨T.set d (.ptr (n0 + k) 0 0), M.set (n0 + k) (some [z])⟩ := by
  rw [exL_plain (fun _ => rfl)]
  simp only [actOf, act, zeroS]
  cases tiOf E.P t with
  | none => rfl
  | some ti =>
    obtain ⟨kd, a1, a2, a3⟩ := ti
    cases a3 with
    | none => rfl
    | some z =>
      cases hz : z.sto <;> simp [hz, putS]

@[simp] theorem exL_store (t : Nat) (x y : Operand) : exL E me pc ic n0 sz k (⟨none, .store t x y, none, lm⟩ :: r) ⟨T, M⟩ =
    (storeS E.P (seenM M n0 sz lm) t (evO E T x) (evO E T y)).bind fun u => exL E me pc ic n0 sz (k + 1) r ⟨T, M.sets u⟩ := by
  rw [exL_plain (fun _ => rfl)]
  simp only [actOf, act]
  cases storeS E.P (seenM M n0 sz lm) t (evO E T x) (evO E T y) <;> rfl

@[simp] theorem exL_append (d t t2 : Nat) (x y : Operand) : exL E me pc ic n0 sz k (⟨some d, .call { callee := .builtin .append, args := #[x, y], argTypes := #[t, t2] }, none, lm⟩ :: r) ⟨T, M⟩ =
    (appendS E.P (seenM M n0 sz lm) (n0 + k) t t2 (evO E T x) (evO E T y)).bind fun q => exL E me pc ic n0 sz (k + 1) r ⟨T.set d q.1, M.sets q.2⟩ := by
  rw [exL_plain (fun _ => rfl)]
  rfl

@[simp] theorem exL_copy (d t t2 : Nat) (x y : Operand) : exL E me pc ic n0 sz k (⟨some d, .call { callee := .builtin .copy, args := #[x, y], argTypes := #[t, t2] }, none, lm⟩ :: r) ⟨T, M⟩ =
    (copyS E.P (seenM M n0 sz lm) t (evO E T x) (evO E T y)).bind fun q => exL E me pc ic n0 sz (k + 1) r ⟨T.set d q.1, M.sets q.2⟩ := by
  rw [exL_plain (fun _ => rfl)]
  rfl

def bldS (P : Program) (t : Nat) (l : List (Nat × SV)) : Option SV := match tiOf P t with
  | some ti => match ti.zero, placesOf P ti.kind with
    | some (.agg zs), some pl => match buildS pl zs l with | some cs => some (.agg cs) | none => none
    | _, _ => none
  | none => none
@[simp] theorem exL_build (d t : Nat) (ps : Array (Nat × Operand)) : exL E me pc ic n0 sz k (⟨some d, .build t ps, none, lm⟩ :: r) ⟨T, M⟩ =
    (bldS E.P t (ps.toList.map fun p => (p.1, evO E T p.2))).bind fun y => exL E me pc ic n0 sz (k + 1) r ⟨T.set d y, M⟩ :=
  exL_val (fun ρ get => bldS E.P t (ps.toList.map fun p => (p.1, ρ p.2))) (fun _ => rfl) (fun a ρ get => by
    simp only [actOf, act, bldS]
    cases tiOf E.P t with
    | none => rfl
    | some ti =>
      simp only
      generalize ti.zero = z
      generalize placesOf E.P ti.kind = q
      cases z with
      | none => rfl
      | some z =>
        cases z <;> first | rfl | (cases q <;> rfl))

def bldSl (P : Program) (t len a : Nat) (l : List (Nat × SV)) : Option (SV × List SV) := match tiOf P t with
  | some ⟨.slice e, _, _, _⟩ => match tiOf P e with
    | some te => match te.zero with
      | some z => if z.sto = true ∧ z.cells.length = te.size ∧ 0 < te.size ∧ len * te.size ≤ 16777216 then
          (match buildRow te.size len (List.replicate len z) l with
          | some xs => some (.own a te.size 0 len, xs)
          | none => none) else none
      | none => none
    | none => none
  | _ => none
@[simp] theorem exL_buildSlice (d t len : Nat) (ps : Array (Nat × Operand)) : exL E me pc ic n0 sz k (⟨some d, .buildSlice t len ps, none, lm⟩ :: r) ⟨T, M⟩ =
    (bldSl E.P t len (n0 + k) (ps.toList.map fun p => (p.1, evO E T p.2))).bind fun q => exL E me pc ic n0 sz (k + 1) r ⟨T.set d q.1, M.set (n0 + k) (some q.2)⟩ := by
  rw [exL_plain (fun _ => rfl)]
  simp only [actOf, act, bldSl]
  cases tiOf E.P t with
  | none => rfl
  | some ti =>
    obtain ⟨kd, a1, a2, a3⟩ := ti
    cases kd <;> first | rfl | skip
    rename_i e
    simp only
    cases tiOf E.P e with
    | none => rfl
    | some te =>
      simp only
      cases te.zero with
      | none => rfl
      | some z =>
        simp only
        split
        · rename_i hc
          generalize buildRow te.size len (List.replicate len z) _ = q
          cases q <;> rfl
        · rfl

def mkSl (P : Program) (t a : Nat) (l c : SV) : Option (SV × List SV) := match tiOf P t with
  | some ⟨.slice e, _, _, _⟩ => match tiOf P e, l, c with
    | some te, .int .i64 n, .int .i64 m => match te.zero with
      | some z => if z.sto = true ∧ z.cells.length = te.size ∧ 0 < te.size ∧ n = m ∧ 0 ≤ n ∧ n * te.bytes ≤ 281474976710656 ∧ n ≤ 281474976710656 then
          some (.own a te.size 0 n.toNat, List.replicate n.toNat z) else none
      | none => none
    | _, _, _ => none
  | _ => none
@[simp] theorem exL_makeSlice (d t : Nat) (l c : Operand) : exL E me pc ic n0 sz k (⟨some d, .makeSlice t l c, none, lm⟩ :: r) ⟨T, M⟩ =
    (mkSl E.P t (n0 + k) (evO E T l) (evO E T c)).bind fun q => exL E me pc ic n0 sz (k + 1) r ⟨T.set d q.1, M.set (n0 + k) (some q.2)⟩ := by
  rw [exL_plain (fun _ => rfl)]
  simp only [actOf, act, mkSl]
  cases tiOf E.P t with
  | none => rfl
  | some ti =>
    obtain ⟨kd, a1, a2, a3⟩ := ti
    cases kd <;> first | rfl | skip
    rename_i e
    simp only
    cases tiOf E.P e with
    | none => rfl
    | some te =>
      generalize evO E T l = x
      generalize evO E T c = y
      cases x <;> first | rfl | skip
      rename_i k1 n1
      cases k1 <;> first | rfl | skip
      cases y <;> first | rfl | skip
      rename_i k2 n2
      cases k2 <;> first | rfl | skip
      simp only
      cases te.zero with
      | none => rfl
      | some z =>
        simp only
        split <;> rfl

/-! ### Calls -/

/-- A call by number, in memory of its own. -/
def callP (pc : PC) (get : Nat → Option (List SV)) (f : Nat) (xs : List SV) : Option SV :=
  match xs.mapM (pic get false picDepth) with
  | some args => pc f args
  | none => none

theorem exL_call (d f : Nat) (xs : Array Operand) (ts : Array Nat) (h : ((E.prim f).isSome || E.imp me f) = false) :
    exL E me pc ic n0 sz k (⟨some d, .call { callee := .value (.func f), args := xs, argTypes := ts }, none, lm⟩ :: r) ⟨T, M⟩ =
      (callP pc (seenM M n0 sz lm) f (xs.toList.map (evO E T))).bind fun y => exL E me pc ic n0 sz (k + 1) r ⟨T.set d y, M⟩ := by
  have hi : impOf E me (evO E T) (.call { callee := .value (.func f), args := xs, argTypes := ts }) = none := by
    simp [impOf, impCall, h]
  simp only [exL, exI, wantI, hi]
  simp only [actOf, act, evO_func, callP, List.append_nil, List.nil_append]
  cases List.mapM (pic (seenM M n0 sz lm) false picDepth) (xs.toList.map (evO E T)) with
  | none => rfl
  | some args =>
    simp only
    cases pc f args <;> rfl

theorem exL_callv (d t : Nat) (xs : Array Operand) (ts : Array Nat) {f : Nat} {a c : List SV} (hf : T.getD t (.tup []) = .fn f a c) (h : ((E.prim f).isSome || E.imp me f) = false) :
    exL E me pc ic n0 sz k (⟨some d, .call { callee := .value (.tmp t), args := xs, argTypes := ts }, none, lm⟩ :: r) ⟨T, M⟩ =
      (callP pc (seenM M n0 sz lm) f (a ++ xs.toList.map (evO E T) ++ c)).bind fun y => exL E me pc ic n0 sz (k + 1) r ⟨T.set d y, M⟩ := by
  have hi : impOf E me (evO E T) (.call { callee := .value (.tmp t), args := xs, argTypes := ts }) = none := by
    simp only [impOf, impCall, evO_tmp, hf, h, Bool.false_eq_true, if_false]
  simp only [exL, exI, wantI, hi]
  simp only [actOf, act, evO_tmp, hf, callP]
  cases List.mapM (pic (seenM M n0 sz lm) false picDepth) (a ++ xs.toList.map (evO E T) ++ c) with
  | none => rfl
  | some args =>
    simp only
    cases pc f args <;> rfl

theorem exL_callI (d f : Nat) (xs : Array Operand) (ts : Array Nat) (h : ((E.prim f).isSome || E.imp me f) = true) :
    exL E me pc ic n0 sz k (⟨some d, .call { callee := .value (.func f), args := xs, argTypes := ts }, none, lm⟩ :: r) ⟨T, M⟩ =
      (ic f (xs.toList.map (evO E T)) M).bind fun q => exL E me pc ic n0 sz (k + 1) r ⟨T.set d q.1, q.2⟩ := by
  have hi : impOf E me (evO E T) (.call { callee := .value (.func f), args := xs, argTypes := ts }) = some (f, xs.toList.map (evO E T)) := by
    simp [impOf, impCall, h]
  simp only [exL, exI, wantI, hi]
  cases ic f (xs.toList.map (evO E T)) M <;> rfl

/-- A function's body, by its short code. -/
theorem ICw_run {f : Nat} {fn : Func} {c' : C} {rs : List ResultVar} {args T' : List SV} (hp : E.prim f = none) (hf : E.P.funcs[f]? = some fn) (hb : fn.body.map (comp E f) = some c')
    (hn : decide (fn.name = "runtime.NumGoroutine") = false) (hr : fn.results.toList = rs) (hT : args ++ List.replicate (fn.ntmps - args.length) .bad = T') (M : Mem) :
    ICw E f args M = endS E rs (evW E f c' ⟨T', M⟩) := by
  cases hc : fn.body with
  | none => rw [hc] at hb; cases hb
  | some c =>
    rw [hc] at hb
    simp only [Option.map_some, Option.some.injEq] at hb
    subst hb hr hT
    exact ICw_body hp hf hc (of_decide_eq_false hn) args M

/-! ### Guards -/

theorem exL_guard_no {d : Option Nat} {op : Op} {t : Nat} {want b : Bool} (hb : T[t]? = some (.bool b)) (h : (b == want) = false) :
    exL E me pc ic n0 sz k (⟨d, op, some (some t, want), lm⟩ :: r) ⟨T, M⟩ = exL E me pc ic n0 sz (k + 1) r ⟨putS T d (.tup []), M⟩ := by
  simp only [exL, exI, wantI, hb, h]

theorem exL_guard_skip {d : Option Nat} {op : Op} {t : Nat} {want : Bool} (hb : T[t]? = some (.tup [])) :
    exL E me pc ic n0 sz k (⟨d, op, some (some t, want), lm⟩ :: r) ⟨T, M⟩ = exL E me pc ic n0 sz (k + 1) r ⟨putS T d (.tup []), M⟩ := by
  simp only [exL, exI, wantI, hb]

theorem exL_guard_yes {d : Option Nat} {op : Op} {t : Nat} {want b : Bool} (hb : T[t]? = some (.bool b)) (h : (b == want) = true) :
    exL E me pc ic n0 sz k (⟨d, op, some (some t, want), lm⟩ :: r) ⟨T, M⟩ = exL E me pc ic n0 sz k (⟨d, op, none, lm⟩ :: r) ⟨T, M⟩ := by
  simp only [exL, exI, wantI, hb, h]

@[simp] theorem exL_t_yes {d : Option Nat} {op : Op} {t : Nat} (h : T[t]? = some (.bool true)) :
    exL E me pc ic n0 sz k (⟨d, op, some (some t, true), lm⟩ :: r) ⟨T, M⟩ = exL E me pc ic n0 sz k (⟨d, op, none, lm⟩ :: r) ⟨T, M⟩ := exL_guard_yes h rfl
@[simp] theorem exL_t_no {d : Option Nat} {op : Op} {t : Nat} (h : T[t]? = some (.bool false)) :
    exL E me pc ic n0 sz k (⟨d, op, some (some t, true), lm⟩ :: r) ⟨T, M⟩ = exL E me pc ic n0 sz (k + 1) r ⟨putS T d (.tup []), M⟩ := exL_guard_no h rfl
@[simp] theorem exL_f_yes {d : Option Nat} {op : Op} {t : Nat} (h : T[t]? = some (.bool false)) :
    exL E me pc ic n0 sz k (⟨d, op, some (some t, false), lm⟩ :: r) ⟨T, M⟩ = exL E me pc ic n0 sz k (⟨d, op, none, lm⟩ :: r) ⟨T, M⟩ := exL_guard_yes h rfl
@[simp] theorem exL_f_no {d : Option Nat} {op : Op} {t : Nat} (h : T[t]? = some (.bool true)) :
    exL E me pc ic n0 sz k (⟨d, op, some (some t, false), lm⟩ :: r) ⟨T, M⟩ = exL E me pc ic n0 sz (k + 1) r ⟨putS T d (.tup []), M⟩ := exL_guard_no h rfl
@[simp] theorem exL_g_skip {d : Option Nat} {op : Op} {t : Nat} {want : Bool} (h : T[t]? = some (.tup [])) :
    exL E me pc ic n0 sz k (⟨d, op, some (some t, want), lm⟩ :: r) ⟨T, M⟩ = exL E me pc ic n0 sz (k + 1) r ⟨putS T d (.tup []), M⟩ := exL_guard_skip h

@[simp] theorem putS_some (T : List SV) (d : Nat) (v : SV) : putS T (some d) v = T.set d v := rfl
@[simp] theorem putS_none (T : List SV) (v : SV) : putS T none v = T := rfl

/-! ### Pictures -/

/-- Nothing in it, so deep, names memory of a call's own. -/
def np : Nat → SV → Bool
  | 0, x => pv x
  | n + 1, x => pv x || (match x with
    | .sl items _ => items.all (np n)
    | .rptr items _ _ _ => items.all (np n)
    | .fn _ a b => a.all (np n) && b.all (np n)
    | .iface _ v => np n v
    | .agg cs => cs.all (np n)
    | .tup vs => vs.all (np n)
    | _ => false)

theorem mapM_id {f : SV → Option SV} : ∀ {l : List SV}, (∀ x ∈ l, f x = some x) → l.mapM f = some l
  | [], _ => rfl
  | x :: r, h => by
    rw [List.mapM_cons, h x (by simp), mapM_id (l := r) fun y hy => h y (by simp [hy])]
    rfl

theorem np_of_pv {x : SV} (h : pv x = true) : ∀ n, np n x = true
  | 0 => h
  | n + 1 => by simp [np, h]

theorem pic_np {get : Nat → Option (List SV)} {st : Bool} : ∀ {n : Nat} {x : SV}, np n x = true → pic get st n x = some x
  | 0, x, h => by simp only [np] at h; simp [pic, h]
  | n + 1, x, h => by
    unfold pic
    cases hp : pv x with
    | true => simp
    | false =>
      simp only [np, hp, Bool.false_or] at h
      simp only [Bool.false_eq_true, if_false]
      have all : ∀ l : List SV, l.all (np n) = true → l.mapM (pic get st n) = some l := fun l hl => mapM_id fun y hy => pic_np (List.all_eq_true.1 hl y hy)
      cases x <;> simp only [Bool.and_eq_true] at h <;> first | (cases h; done) | skip
      · dsimp only; rw [all _ h]
      · dsimp only; rw [all _ h]
      · dsimp only; rw [all _ h.1, all _ h.2]
      · dsimp only; rw [pic_np h]
      · dsimp only; rw [all _ h]
      · dsimp only; rw [all _ h]

theorem np_le : ∀ {n m : Nat} {x : SV}, n ≤ m → np n x = true → np m x = true
  | 0, m, x, _, h => np_of_pv h m
  | n + 1, 0, x, hl, h => by omega
  | n + 1, m + 1, x, hl, h => by
    have ih : ∀ {x : SV}, np n x = true → np m x = true := fun h => np_le (by omega) h
    simp only [np, Bool.or_eq_true] at h ⊢
    rcases h with h | h
    · exact .inl h
    · refine .inr ?_
      cases x <;> simp only [Bool.and_eq_true, List.all_eq_true] at h ⊢ <;> first | (cases h; done) | skip
      · exact fun y hy => ih (h y hy)
      · exact fun y hy => ih (h y hy)
      · exact ⟨fun y hy => ih (h.1 y hy), fun y hy => ih (h.2 y hy)⟩
      · exact ih h
      · exact fun y hy => ih (h y hy)
      · exact fun y hy => ih (h y hy)

theorem callP_np {pc : PC} {get : Nat → Option (List SV)} {f : Nat} {xs : List SV} (h : ∀ x ∈ xs, np picDepth x = true) : callP pc get f xs = pc f xs := by
  unfold callP
  rw [mapM_id fun x hx => pic_np (h x hx)]

theorem callP_of {pc : PC} {get : Nat → Option (List SV)} {f : Nat} {xs : List SV} {v : SV} (h : pc f xs = some v) (hn : xs.all (np picDepth) = true) : callP pc get f xs = some v := by
  rw [callP_np fun x hx => List.all_eq_true.1 hn x hx, h]

/-- What a call hands back, where it is plain. -/
theorem PCw_of {f : Nat} {args : List SV} {v : SV} {M : Mem} (h : ICw E f args .empty = some (v, M)) (hv : pv v = true) : PCw E f args = some v := by
  unfold PCw pcOf
  rw [h]
  simp only
  rw [pic_np (np_of_pv hv _)]
  simp [hv]

theorem PCw_pic {f : Nat} {args : List SV} {v v' : SV} {M : Mem} (h : ICw E f args .empty = some (v, M)) (hp : pic M.blk true picDepth v = some v') (hv : pv v' = true) : PCw E f args = some v' := by
  unfold PCw pcOf
  rw [h]
  simp only
  rw [hp]
  simp [hv]

theorem pv_items : ∀ {l : List SV}, (∀ x ∈ l, pv x = true) → pvs l = true
  | [], _ => rfl
  | x :: r, h => by simp only [pvs, h x (by simp), pv_items (l := r) fun y hy => h y (by simp [hy]), Bool.and_self]

/-- A slice of a call's own, handed on: a picture. -/
theorem pic_snap {get : Nat → Option (List SV)} {id esz len : Nat} {items : List SV} (hg : get id = some items) (hl : len ≤ items.length) (hp : ∀ x ∈ items, np 11 x = true) :
    pic get false picDepth (.own id esz 0 len) = some (.sl (items.take len) .snap) := by
  unfold picDepth pic
  simp only [pv, Bool.false_eq_true, if_false, hg, Nat.zero_add, if_pos hl, List.drop_zero]
  rw [mapM_id fun x hx => pic_np (hp x (List.mem_of_mem_take hx))]

theorem callP_pic {pc : PC} {get : Nat → Option (List SV)} {f : Nat} {xs ys : List SV} (h : xs.mapM (pic get false picDepth) = some ys) : callP pc get f xs = pc f ys := by
  unfold callP
  rw [h]

/-- A slice of a call's own, handed back: a list. -/
theorem pic_own {get : Nat → Option (List SV)} {id esz len : Nat} {items : List SV} (hg : get id = some items) (hl : len ≤ items.length) (hp : ∀ x ∈ items, pv x = true) :
    pic get true picDepth (.own id esz 0 len) = some (.sl (items.take len) .ro) := by
  unfold picDepth pic
  simp only [pv, Bool.false_eq_true, if_false, hg, Nat.zero_add, if_pos hl, List.drop_zero]
  rw [mapM_id fun x hx => pic_np (np_of_pv (hp x (List.mem_of_mem_take hx)) _)]
  simp

end Go.Proofs.YtbdliphlolajaaaDoor.Sh

/-
  The shadow interpreter, text 17: slices, numbers, for the walks. No condition.
-/
set_option linter.unusedVariables false
set_option linter.unusedSimpArgs false
namespace Go.Proofs.YtbdliphlolajaaaDoor.Sh
variable {P : Program} {α : Type}

/-- The items of a slice that came in. -/
def its : SV → List SV
  | .sl l _ => l
  | _ => []
def isSl : SV → Bool
  | .nilsl => true
  | .sl _ _ => true
  | _ => false
def stOf : SV → Bool
  | .sl _ tl => tl != .snap
  | _ => true

/-- A slice whose items stand for those of a list. -/
structure RSl (R : SV → α → Prop) (x : SV) (l : List α) : Prop where
  sl : isSl x = true
  len : (its x).length = l.length
  at' : ∀ (j : Nat) (y : SV) (a : α), (its x)[j]? = some y → l[j]? = some a → R y a

def IsI (k : IntKind) (y : SV) (n : Int) : Prop := y = .int k n

theorem RSl.get {R : SV → α → Prop} {x : SV} {l : List α} (h : RSl R x l) {j : Nat} (hj : j < l.length) : ∃ y, (its x)[j]? = some y ∧ R y l[j] := by
  have hj' : j < (its x).length := by rw [h.len]; exact hj
  exact ⟨(its x)[j], by simp [hj'], h.at' j _ _ (by simp [hj']) (by simp [hj])⟩

theorem RSl.np {R : SV → α → Prop} {x : SV} {l : List α} (h : RSl R x l) {n : Nat} (hR : ∀ y a, R y a → np n y = true) : np (n + 1) x = true := by
  have hs := h.sl
  have ha := h.len
  cases x <;> simp [isSl] at hs
  · exact np_of_pv rfl _
  · rename_i items tl
    simp only [Sh.np, Bool.or_eq_true]
    refine .inr (List.all_eq_true.2 fun y hy => ?_)
    obtain ⟨j, hj, rfl⟩ := List.mem_iff_getElem.1 hy
    have hj' : j < l.length := by rw [← ha]; exact hj
    exact hR _ l[j] (h.at' j _ _ (by simp [its, hj]) (by simp [hj']))

theorem RSl.pv {R : SV → α → Prop} {items : List SV} {tl : Tl} {l : List α} (h : RSl R (.sl items tl) l) (hR : ∀ y a, R y a → Sh.pv y = true) : ∀ y ∈ items, Sh.pv y = true := by
  intro y hy
  obtain ⟨j, hj, rfl⟩ := List.mem_iff_getElem.1 hy
  have hj' : j < l.length := by rw [← h.len]; exact hj
  exact hR _ l[j] (h.at' j _ _ (by simp [its, hj]) (by simp [hj']))

theorem RSl.nil (R : SV → α → Prop) : RSl R .nilsl [] := ⟨rfl, rfl, fun j y a h => by simp [its] at h⟩

theorem RSl.mk' {R : SV → α → Prop} {items : List SV} {tl : Tl} {l : List α} (hl : items.length = l.length) (h : ∀ (j : Nat) (y : SV) (a : α), items[j]? = some y → l[j]? = some a → R y a) : RSl R (.sl items tl) l :=
  ⟨rfl, hl, h⟩

theorem lenS_sl {x : SV} {t e a b : Nat} {z : Option SV} (h : isSl x = true) (ht : tiOf P t = some ⟨.slice e, a, b, z⟩) : lenS P t x = some (.int .i64 (its x).length) := by
  cases x <;> simp [isSl] at h <;> simp [lenS, ht, its]

theorem RSl.lenS {R : SV → α → Prop} {x : SV} {l : List α} (h : RSl R x l) {t e a b : Nat} {z : Option SV} (ht : tiOf P t = some ⟨.slice e, a, b, z⟩) : Sh.lenS P t x = some (.int .i64 l.length) := by
  rw [lenS_sl h.sl ht, h.len]

theorem indexAddr_sl {x y : SV} {t e a b : Nat} {z : Option SV} {te : TI} {k : IntKind} {i : Int} {j : Nat} (h : isSl x = true) (ht : tiOf P t = some ⟨.slice e, a, b, z⟩) (hte : tiOf P e = some te)
    (hi : i = (j : Int)) (hy : (its x)[j]? = some y) (hc : y.cells.length = te.size) : indexAddrS P t x (.int k i) = some (.rptr (its x) j 0 (stOf x)) := by
  subst hi
  cases x <;> simp [isSl] at h
  · simp [its] at hy
  · rename_i items tl
    have hn : natS (.int k (j : Int)) = some j := by simp [natS]
    simp only [its] at hy ⊢
    simp only [indexAddrS, ht, hn, hte, hy, hc, if_true, stOf]

/-- The address of an item, and the item. -/
theorem RSl.addr {R : SV → α → Prop} {x : SV} {l : List α} (h : RSl R x l) {t e a b : Nat} {z : Option SV} {te : TI} (ht : tiOf P t = some ⟨.slice e, a, b, z⟩) (hte : tiOf P e = some te)
    (hR : ∀ y a, R y a → y.cells.length = te.size) {j : Nat} (hj : j < l.length) : ∃ y, R y l[j] ∧ (its x)[j]? = some y ∧ ∀ (k : IntKind) (i : Int), i = (j : Int) → indexAddrS P t x (.int k i) = some (.rptr (its x) j 0 (stOf x)) := by
  obtain ⟨y, hy, hr⟩ := h.get hj
  exact ⟨y, hr, hy, fun k i hi => indexAddr_sl h.sl ht hte hi hy (hR _ _ hr)⟩

theorem loadS_rptr {get : Nat → Option (List SV)} {t i o : Nat} {items : List SV} {st : Bool} {x y : SV} {ti : TI} (ht : tiOf P t = some ti) (hx : items[i]? = some x) (hp : partS ti x o = some y) :
    loadS P get t (.rptr items i o st) = some y := by
  simp only [loadS, ht, hx, hp]

theorem i64_in {n : Int} (h1 : -9223372036854775808 ≤ n) (h2 : n ≤ 9223372036854775807) : IntKind.i64.wrap n = n := by rw [IntKind.wrap_i64]; omega
theorem u8_in {n : Int} (h1 : 0 ≤ n) (h2 : n ≤ 255) : IntKind.u8.wrap n = n := by rw [IntKind.wrap_u8]; omega

/-! ### Numbers -/
variable {t : Nat} {c : Bool} {k : IntKind} {a b : Int}

@[simp] theorem binS_add : binS P .add t c (.int k a) (.int k b) = some (.int k (k.wrap (a + b))) := by simp [binS, Go.binOp, Op.intArith, semV, pure]
@[simp] theorem binS_sub : binS P .sub t c (.int k a) (.int k b) = some (.int k (k.wrap (a - b))) := by simp [binS, Go.binOp, Op.intArith, semV, pure]
@[simp] theorem binS_mul : binS P .mul t c (.int k a) (.int k b) = some (.int k (k.wrap (a * b))) := by simp [binS, Go.binOp, Op.intArith, semV, pure]
@[simp] theorem binS_lss : binS P .lss t c (.int k a) (.int k b) = some (.bool (decide (a < b))) := by simp [binS, Go.binOp, Op.intCmp, semV, pure]
@[simp] theorem binS_leq : binS P .leq t c (.int k a) (.int k b) = some (.bool (decide (a ≤ b))) := by simp [binS, Go.binOp, Op.intCmp, semV, pure]
@[simp] theorem binS_gtr : binS P .gtr t c (.int k a) (.int k b) = some (.bool (decide (b < a))) := by simp [binS, Go.binOp, Op.intCmp, semV, pure]
@[simp] theorem binS_geq : binS P .geq t c (.int k a) (.int k b) = some (.bool (decide (b ≤ a))) := by simp [binS, Go.binOp, Op.intCmp, semV, pure]
@[simp] theorem binS_eql : binS P .eql t c (.int k a) (.int k b) = some (.bool (decide (a = b))) := by simp [binS, Go.binOp, Op.intCmp, semV, pure]; rfl
@[simp] theorem binS_neq : binS P .neq t c (.int k a) (.int k b) = some (.bool (decide (a ≠ b))) := by simp [binS, Go.binOp, Op.intCmp, semV, pure]; rfl
theorem binS_eqlB {x y : Bool} {s bs : Nat} {z : Option SV} (ht : tiOf P t = some ⟨.bool, s, bs, z⟩) : binS P .eql t c (.bool x) (.bool y) = some (.bool (x == y)) := by simp [binS, eqS, ht]
theorem binS_neqB {x y : Bool} {s bs : Nat} {z : Option SV} (ht : tiOf P t = some ⟨.bool, s, bs, z⟩) : binS P .neq t c (.bool x) (.bool y) = some (.bool (!(x == y))) := by simp [binS, eqS, ht]
def shlI (k : IntKind) (x y : Int) : Int := k.wrap (x * 2 ^ (min y.toNat k.bits))
def orI (k : IntKind) (x y : Int) : Int := k.wrap (BitVec.ofInt k.bits x ||| BitVec.ofInt k.bits y).toNat
theorem binS_shl {yk : IntKind} (h : 0 ≤ b) : binS P .shl t c (.int k a) (.int yk b) = some (.int k (shlI k a b)) := by
  have h' : ¬ b < 0 := by omega
  simp [binS, Go.binOp, Op.shift, semV, pure, h', shlI]
@[simp] theorem binS_or : binS P .or t c (.int k a) (.int k b) = some (.int k (orI k a b)) := by simp [binS, Go.binOp, Op.intBits, semV, pure, orI]
@[simp] theorem unS_not (b : Bool) : unS .not (.bool b) = some (.bool (!b)) := rfl

/-- A loop that counts up: what holds at its head, round by round. -/
theorem loop_up {E : Env} {me : Nat} {B : C} {T : Nat → List SV} {I : Nat → Mem → Prop} {len : Nat} {Q : Ex × St → Prop}
    (step : ∀ j M, j < len → I j M → (∃ M', evW E me B ⟨T j, M⟩ = some (.normal, ⟨T (j + 1), M'⟩) ∧ I (j + 1) M') ∨ ∃ r, evW E me B ⟨T j, M⟩ = some r ∧ r.1 ≠ .normal ∧ Q r)
    (fin : ∀ M, I len M → ∃ r, evW E me B ⟨T len, M⟩ = some r ∧ r.1 ≠ .normal ∧ Q r) (j : Nat) (M : Mem) (hj : j ≤ len) (hI : I j M) :
    ∃ r, evW E me (.loop B) ⟨T j, M⟩ = some r ∧ Q r := by
  have out : ∀ s : St, (∃ r, evW E me B s = some r ∧ r.1 ≠ .normal ∧ Q r) → ∃ r, evW E me (.loop B) s = some r ∧ Q r := by
    rintro s ⟨⟨e, s'⟩, h, he, hq⟩
    refine ⟨(e, s'), ?_, hq⟩
    rw [evW_loop, h]
    cases e with
    | normal => exact absurd rfl he
    | exit => rfl
    | ret => rfl
  obtain ⟨n, hn⟩ : ∃ n, n = len - j := ⟨_, rfl⟩
  induction n generalizing j M with
  | zero =>
    obtain rfl : j = len := by omega
    exact out _ (fin M hI)
  | succ n ih =>
    rcases step j M (by omega) hI with ⟨M', h, hI'⟩ | h
    · rw [evW_loop, h]
      exact ih (j + 1) M' (by omega) hI' (by omega)
    · exact out _ h

/-- The same, where what the temps hold hangs on a state of its own. -/
theorem loop_st {E : Env} {me : Nat} {B : C} {β : Type} {T : Nat → β → List SV} {I : Nat → β → Mem → Prop} {len : Nat} {Q : Ex × St → Prop}
    (step : ∀ j b M, j < len → I j b M → (∃ b' M', evW E me B ⟨T j b, M⟩ = some (.normal, ⟨T (j + 1) b', M'⟩) ∧ I (j + 1) b' M') ∨ ∃ r, evW E me B ⟨T j b, M⟩ = some r ∧ r.1 ≠ .normal ∧ Q r)
    (fin : ∀ b M, I len b M → ∃ r, evW E me B ⟨T len b, M⟩ = some r ∧ r.1 ≠ .normal ∧ Q r) (j : Nat) (b : β) (M : Mem) (hj : j ≤ len) (hI : I j b M) :
    ∃ r, evW E me (.loop B) ⟨T j b, M⟩ = some r ∧ Q r := by
  have out : ∀ s : St, (∃ r, evW E me B s = some r ∧ r.1 ≠ .normal ∧ Q r) → ∃ r, evW E me (.loop B) s = some r ∧ Q r := by
    rintro s ⟨⟨e, s'⟩, h, he, hq⟩
    refine ⟨(e, s'), ?_, hq⟩
    rw [evW_loop, h]
    cases e with
    | normal => exact absurd rfl he
    | exit => rfl
    | ret => rfl
  obtain ⟨n, hn⟩ : ∃ n, n = len - j := ⟨_, rfl⟩
  induction n generalizing j b M with
  | zero =>
    obtain rfl : j = len := by omega
    exact out _ (fin b M hI)
  | succ n ih =>
    rcases step j b M (by omega) hI with ⟨b', M', h, hI'⟩ | h
    · rw [evW_loop, h]
      exact ih (j + 1) b' M' (by omega) hI' (by omega)
    · exact out _ h

/-! ### append -/

theorem appendS_nil {get : Nat → Option (List SV)} {a t t2 e s1 b1 : Nat} {z1 : Option SV} {k2 te : TI} {z x : SV} {ys : List SV} (ht : tiOf P t = some ⟨.slice e, s1, b1, z1⟩) (ht2 : tiOf P t2 = some k2) (hte : tiOf P e = some te)
    (hz : te.zero = some z) (hx : itemsS get x = some ys) (h0 : 0 < te.size) (hu : unif te.size ys = true) (hf : srcFits k2.kind te.size x = true) (hs : z.sto = true) (hc : z.cells.length = te.size)
    (h1 : ys.length * te.bytes ≤ 140737488355328) (h2 : ys.length ≤ 140737488355328) :
    appendS P get a t t2 .nilsl x = some (if ys.isEmpty then (.nilsl, []) else (.own a te.size 0 ys.length, [(a, some ys)])) := by
  simp only [appendS, ht, ht2, hte, hz, hx]
  rw [if_pos ⟨h0, hu, hf, hs, hc⟩]
  cases hy : ys.isEmpty
  · simp only [Bool.false_eq_true, if_false]
    rw [if_pos ⟨h1, h2⟩]
  · simp

theorem appendS_own {get : Nat → Option (List SV)} {a t t2 e s1 b1 id len : Nat} {z1 : Option SV} {k2 te : TI} {z x : SV} {xs ys : List SV} (ht : tiOf P t = some ⟨.slice e, s1, b1, z1⟩) (ht2 : tiOf P t2 = some k2) (hte : tiOf P e = some te)
    (hz : te.zero = some z) (hx : itemsS get x = some ys) (h0 : 0 < te.size) (hu : unif te.size ys = true) (hf : srcFits k2.kind te.size x = true) (hs : z.sto = true) (hc : z.cells.length = te.size)
    (hg : get id = some xs) (hl : len ≤ xs.length) (h1 : (len + ys.length) * te.bytes ≤ 140737488355328) (h2 : len + ys.length ≤ 140737488355328) :
    appendS P get a t t2 (.own id te.size 0 len) x = some (if ys.isEmpty then (.own id te.size 0 len, []) else (.own a te.size 0 (len + ys.length), [(id, none), (a, some (xs.take len ++ ys))])) := by
  simp only [appendS, ht, ht2, hte, hz, hx]
  rw [if_pos ⟨h0, hu, hf, hs, hc⟩]
  cases hy : ys.isEmpty
  · simp only [Bool.false_eq_true, if_false, hg]
    rw [if_pos ⟨trivial, trivial, hl, h1, h2⟩]
  · simp

theorem itemsS_sl {get : Nat → Option (List SV)} {x : SV} (h : isSl x = true) : itemsS get x = some (its x) := by
  cases x <;> simp [isSl] at h <;> rfl

theorem srcFits_sl {e n : Nat} {x : SV} (h : isSl x = true) : srcFits (.slice e) n x = true := by
  cases x <;> simp [isSl] at h <;> rfl

theorem RSl.unif {R : SV → α → Prop} {x : SV} {l : List α} (h : RSl R x l) {n : Nat} (hR : ∀ y a, R y a → y.cells.length = n) : Sh.unif n (its x) = true := by
  refine unif_iff.2 fun y hy => ?_
  obtain ⟨j, hj, rfl⟩ := List.mem_iff_getElem.1 hy
  have hj' : j < l.length := by rw [← h.len]; exact hj
  exact hR _ l[j] (h.at' j _ _ (by simp [hj]) (by simp [hj']))

theorem RSl.pvs {R : SV → α → Prop} {x : SV} {l : List α} (h : RSl R x l) (hR : ∀ y a, R y a → Sh.pv y = true) : ∀ y ∈ its x, Sh.pv y = true := by
  intro y hy
  obtain ⟨j, hj, rfl⟩ := List.mem_iff_getElem.1 hy
  have hj' : j < l.length := by rw [← h.len]; exact hj
  exact hR _ l[j] (h.at' j _ _ (by simp [hj]) (by simp [hj']))

/-- The same items, in another slice. -/
theorem RSl.of_its {R : SV → α → Prop} {x y : SV} {l : List α} (h : RSl R x l) (hy : isSl y = true) (he : its y = its x) : RSl R y l :=
  ⟨hy, by rw [he]; exact h.len, fun j u a hu ha => h.at' j u a (by rw [← he]; exact hu) ha⟩

/-- What a function gathers: nothing yet, or a block of its own. -/
def OutR (esz : Nat) (o : SV) (M : Mem) (items : List SV) : Prop := (items = [] ∧ o = .nilsl) ∨ ∃ id, o = .own id esz 0 items.length ∧ M.blk id = some items ∧ id < M.next

theorem PCw_out {E : Env} {f esz : Nat} {args : List SV} {Pr : List SV → Prop} (h : ∀ M, ∃ o M' items, ICw E f args M = some (o, M') ∧ OutR esz o M' items ∧ Pr items) (hp : ∀ items, Pr items → ∀ y ∈ items, Sh.pv y = true) :
    ∃ y items, PCw E f args = some y ∧ Pr items ∧ isSl y = true ∧ its y = items ∧ Sh.pv y = true := by
  obtain ⟨o, M', items, h1, h2, h3⟩ := h .empty
  rcases h2 with ⟨rfl, rfl⟩ | ⟨id, rfl, h4, _⟩
  · exact ⟨.nilsl, [], PCw_of h1 rfl, h3, rfl, rfl, rfl⟩
  · have hpl := hp items h3
    have := pic_own (esz := esz) h4 (Nat.le_refl _) hpl
    rw [List.take_length] at this
    have hv : Sh.pv (.sl items .ro) = true := by simp [Sh.pv, pv_items hpl]
    exact ⟨.sl items .ro, items, PCw_pic h1 this hv, h3, rfl, rfl, hv⟩

/-- One more is gathered. -/
theorem append_one {get : Nat → Option (List SV)} {a t e s1 b1 s : Nat} {z1 : Option SV} {te : TI} {z v : SV} (ht : tiOf P t = some ⟨.slice e, s1, b1, z1⟩) (hte : tiOf P e = some te)
    (hz : te.zero = some z) (h0 : 0 < te.size) (hsz : z.sto = true) (hc : z.cells.length = te.size) (hv : v.cells.length = te.size) (hs : get s = some [v]) (hb : te.bytes ≤ 140737488355328) :
    appendS P get a t t .nilsl (.own s te.size 0 1) = some (.own a te.size 0 1, [(a, some [v])]) := by
  rw [appendS_nil (ys := [v]) ht ht hte hz (by simp [itemsS, hs]) h0 (by simp [Sh.unif, hv]) (by simp [srcFits]) hsz hc (by simpa using hb) (by simp)]
  rfl

theorem append_more {get : Nat → Option (List SV)} {a t e s1 b1 s id : Nat} {z1 : Option SV} {te : TI} {z v : SV} {items : List SV} (ht : tiOf P t = some ⟨.slice e, s1, b1, z1⟩) (hte : tiOf P e = some te)
    (hz : te.zero = some z) (h0 : 0 < te.size) (hsz : z.sto = true) (hc : z.cells.length = te.size) (hv : v.cells.length = te.size) (hs : get s = some [v]) (hi : get id = some items)
    (h1 : (items.length + 1) * te.bytes ≤ 140737488355328) (h2 : items.length + 1 ≤ 140737488355328) :
    appendS P get a t t (.own id te.size 0 items.length) (.own s te.size 0 1) = some (.own a te.size 0 (items.length + 1), [(id, none), (a, some (items ++ [v]))]) := by
  rw [appendS_own (ys := [v]) (xs := items) ht ht hte hz (by simp [itemsS, hs]) h0 (by simp [Sh.unif, hv]) (by simp [srcFits]) hsz hc hi (Nat.le_refl _) (by simpa using h1) (by simpa using h2)]
  simp

@[simp] theorem Mem.eta (M : Mem) : (⟨M.blk, M.next⟩ : Mem) = M := rfl

theorem PCw_ex {E : Env} {f : Nat} {args : List SV} {v : SV} (h : ∀ M, ∃ M', ICw E f args M = some (v, M')) (hv : pv v = true) : PCw E f args = some v := by
  obtain ⟨M', h'⟩ := h .empty
  exact PCw_of h' hv

theorem PCw_own {E : Env} {f esz : Nat} {args items : List SV} (h : ∀ M, ∃ M' id, ICw E f args M = some (.own id esz 0 items.length, M') ∧ M'.blk id = some items) (hp : ∀ y ∈ items, Sh.pv y = true) : PCw E f args = some (.sl items .ro) := by
  obtain ⟨M', id, h1, h2⟩ := h .empty
  have := pic_own (esz := esz) h2 (Nat.le_refl _) hp
  rw [List.take_length] at this
  exact PCw_pic h1 this (by simp [Sh.pv, pv_items hp])

theorem PCw_closed {E : Env} {f : Nat} {args : List SV} {r : SV} (n : Nat) (h : pcOf (callN E n) f args = some r) : PCw E f args = some r := pcOf_mono (callN_le n) _ _ _ h

theorem RSl.exists {R : SV → α → Prop} {tl : Tl} : ∀ {items : List SV}, (∀ y ∈ items, ∃ a, R y a) → ∃ l, RSl R (.sl items tl) l
  | [], _ => ⟨[], rfl, rfl, fun j y a h => by simp [its] at h⟩
  | y :: r, h => by
    obtain ⟨a, ha⟩ := h y (by simp)
    obtain ⟨l, hl⟩ := RSl.exists (tl := tl) (items := r) fun z hz => h z (by simp [hz])
    refine ⟨a :: l, rfl, by have := hl.len; simp [its] at this ⊢; exact this, fun j z b hj hb => ?_⟩
    cases j with
    | zero => simp [its] at hj hb; subst hj hb; exact ha
    | succ j => exact hl.at' j z b (by simpa [its] using hj) (by simpa using hb)

theorem RSl.of_nil {R : SV → α → Prop} : RSl R .nilsl ([] : List α) := RSl.nil R

end Go.Proofs.YtbdliphlolajaaaDoor.Sh

/-
  The shadow interpreter, text 20: loops that look for something, memory that is old, what is gathered. No condition.
-/
set_option linter.unusedVariables false
set_option linter.unusedSimpArgs false
namespace Go.Proofs.YtbdliphlolajaaaDoor.Sh
variable {P : Program} {α : Type}

/-! ### Loops -/

/-- A loop that looks for the first j of a kind. -/
theorem loop_find {E : Env} {me : Nat} {B : C} {T : Nat → List SV} {I : Nat → Mem → Prop} {len : Nat} {p : Nat → Bool} {Q : Option Nat → Ex × St → Prop}
    (step : ∀ j M, j < len → I j M → p j = false → ∃ M', evW E me B ⟨T j, M⟩ = some (.normal, ⟨T (j + 1), M'⟩) ∧ I (j + 1) M')
    (hit : ∀ j M, j < len → I j M → p j = true → ∃ r, evW E me B ⟨T j, M⟩ = some r ∧ r.1 ≠ .normal ∧ Q (some j) r)
    (fin : ∀ M, I len M → ∃ r, evW E me B ⟨T len, M⟩ = some r ∧ r.1 ≠ .normal ∧ Q none r) (M : Mem) (hI : I 0 M) :
    ∃ r, evW E me (.loop B) ⟨T 0, M⟩ = some r ∧ Q ((List.range len).find? p) r := by
  have key := loop_up (E := E) (me := me) (B := B) (T := T) (len := len) (I := fun j M => I j M ∧ ∀ i < j, p i = false) (Q := fun r => Q ((List.range len).find? p) r)
    (fun j M hj ⟨hI, hn⟩ => by
      cases hp : p j with
      | false =>
        left
        obtain ⟨M', h1, h2⟩ := step j M hj hI hp
        exact ⟨M', h1, h2, fun i hi => by
          rcases Nat.lt_or_ge i j with h | h
          · exact hn i h
          · obtain rfl : i = j := by omega
            exact hp⟩
      | true =>
        right
        obtain ⟨r, h1, h2, h3⟩ := hit j M hj hI hp
        refine ⟨r, h1, h2, ?_⟩
        have : (List.range len).find? p = some j := by
          rw [List.find?_range_eq_some]
          exact ⟨hp, by simpa using hj, fun i hi => by simp [hn i hi]⟩
        rw [this]
        exact h3)
    (fun M ⟨hI, hn⟩ => by
      obtain ⟨r, h1, h2, h3⟩ := fin M hI
      refine ⟨r, h1, h2, ?_⟩
      have : (List.range len).find? p = none := by
        rw [List.find?_range_eq_none]
        exact fun i hi => by simp [hn i hi]
      rw [this]
      exact h3) 0 M (Nat.zero_le _) ⟨hI, fun i hi => by omega⟩
  exact key

/-! ### Memory -/

/-- What was there is there. -/
def Old (M M' : Mem) : Prop := ∀ id, id < M.next → M'.blk id = M.blk id
@[simp] theorem Old.rfl' (M : Mem) : Old M M = True := by simp [Old]
@[simp] theorem Old.bump (M M' : Mem) (k : Nat) : Old M (M'.bump k) = Old M M' := rfl
@[simp] theorem Old.set (M M' : Mem) (k : Nat) (b : Option (List SV)) : Old M (M'.set (M.next + k) b) = Old M M' := by
  apply propext
  constructor <;> intro h id hid <;> have := h id hid
  · rwa [Mem.blk_set, if_neg (by omega)] at this
  · rwa [Mem.blk_set, if_neg (by omega)]
@[simp] theorem Old.set0 (M M' : Mem) (b : Option (List SV)) : Old M (M'.set M.next b) = Old M M' := Old.set M M' 0 b
@[simp] theorem Old.set2 (M M' : Mem) (k j : Nat) (b : Option (List SV)) : Old M (M'.set (M.next + k + j) b) = Old M M' := by rw [Nat.add_assoc]; exact Old.set M M' (k + j) b
@[simp] theorem Old.set3 (M M' : Mem) (k j i : Nat) (b : Option (List SV)) : Old M (M'.set (M.next + k + j + i) b) = Old M M' := by rw [Nat.add_assoc, Nat.add_assoc]; exact Old.set M M' (k + (j + i)) b
@[simp] theorem Old.set4 (M M' : Mem) (k j i h : Nat) (b : Option (List SV)) : Old M (M'.set (M.next + k + j + i + h) b) = Old M M' := by rw [Nat.add_assoc, Nat.add_assoc, Nat.add_assoc]; exact Old.set M M' (k + (j + (i + h))) b

@[simp] theorem Mem.sets_append (M : Mem) (u v : List (Nat × Option (List SV))) : M.sets (u ++ v) = (M.sets u).sets v := by
  induction u generalizing M with
  | nil => rfl
  | cons p r ih => exact ih _
@[simp] theorem Mem.next_sets (M : Mem) (u : List (Nat × Option (List SV))) : (M.sets u).next = M.next := by
  induction u generalizing M with
  | nil => rfl
  | cons p r ih => exact ih _

/-! ### Gathering -/

/-- What becomes of the block that is appended to. -/
def killO : SV → List (Nat × Option (List SV))
  | .own id _ _ _ => [(id, none)]
  | _ => []

theorem OutR.app {get : Nat → Option (List SV)} {o : SV} {M : Mem} {items : List SV} {a s t e s1 b1 : Nat} {z1 : Option SV} {te : TI} {z v : SV} (ht : tiOf P t = some ⟨.slice e, s1, b1, z1⟩) (hte : tiOf P e = some te)
    (hz : te.zero = some z) (h0 : 0 < te.size) (hsz : z.sto = true) (hc : z.cells.length = te.size) (hI : OutR te.size o M items) (h1 : (items.length + 1) * te.bytes ≤ 140737488355328) (h2 : items.length + 1 ≤ 140737488355328)
    (hg : ∀ id, id < M.next → get id = M.blk id) (hv : v.cells.length = te.size) (hs : get s = some [v]) :
    appendS P get a t t o (.own s te.size 0 1) = some (.own a te.size 0 (items.length + 1), killO o ++ [(a, some (items ++ [v]))]) := by
  rcases hI with ⟨rfl, rfl⟩ | ⟨id, rfl, hid, hlt⟩
  · exact append_one ht hte hz h0 hsz hc hv hs (by simpa using h1)
  · exact append_more ht hte hz h0 hsz hc hv hs ((hg id hlt).trans hid) h1 h2

theorem OutR.snoc {esz a : Nat} {M : Mem} {items : List SV} {v : SV} (h1 : M.blk a = some (items ++ [v])) (h2 : a < M.next) : OutR esz (.own a esz 0 (items.length + 1)) M (items ++ [v]) :=
  .inr ⟨a, by simp, h1, h2⟩

/-- What was gathered stays, where memory goes on. -/
theorem OutR.old {esz : Nat} {o : SV} {M M' : Mem} {items : List SV} (h : OutR esz o M items) (ho : Old M M') (hn : M.next ≤ M'.next) : OutR esz o M' items := by
  rcases h with ⟨rfl, rfl⟩ | ⟨id, rfl, hid, hlt⟩
  · exact .inl ⟨rfl, rfl⟩
  · exact .inr ⟨id, rfl, (ho id hlt).trans hid, by omega⟩

/-- What was gathered, handed on: a picture. -/
theorem OutR.pic {esz : Nat} {o : SV} {M : Mem} {items : List SV} (h : OutR esz o M items) (hp : ∀ x ∈ items, np 11 x = true) :
    ∃ y, pic M.blk false picDepth o = some y ∧ isSl y = true ∧ its y = items ∧ Sh.np picDepth y = true := by
  rcases h with ⟨rfl, rfl⟩ | ⟨id, rfl, hid, _⟩
  · exact ⟨.nilsl, rfl, rfl, rfl, rfl⟩
  · refine ⟨.sl items .snap, ?_, rfl, rfl, ?_⟩
    · rw [pic_snap hid (Nat.le_refl _) hp]; simp
    · simp only [picDepth, np, Bool.or_eq_true]
      exact .inr (List.all_eq_true.2 hp)

theorem RSl.snoc {R : SV → α → Prop} {items : List SV} {tl : Tl} {l : List α} {y : SV} {h : α} (hl : RSl R (.sl items tl) l) (hy : R y h) : RSl R (.sl (items ++ [y]) tl) (l ++ [h]) := by
  refine ⟨rfl, by have := hl.len; simp [its] at this ⊢; exact this, fun j u a hu ha => ?_⟩
  have hlen := hl.len
  simp only [its] at hlen hu
  rw [List.getElem?_append] at hu ha
  rw [← hlen] at ha
  split at hu
  · rename_i hlt
    rw [if_pos hlt] at ha
    exact hl.at' j u a hu ha
  · rename_i hlt
    rw [if_neg hlt] at ha
    have : j - items.length = 0 := by
      have := (List.getElem?_eq_some_iff.1 hu).1
      simp at this
      omega
    rw [this] at hu ha
    simp at hu ha
    subst hu ha
    exact hy

theorem RSl.empty {R : SV → α → Prop} {tl : Tl} : RSl R (.sl [] tl) ([] : List α) := ⟨rfl, rfl, fun j y a h => by simp [its] at h⟩

/-! ### Rows of plain data: a list, each written by a function -/

theorem RSl.map {enc : α → SV} {x : SV} {l : List α} (h : RSl (fun y a => y = enc a) x l) : its x = l.map enc := by
  apply List.ext_getElem
  · rw [h.len, List.length_map]
  · intro j h1 h2
    have h2' : j < l.length := by simpa using h2
    rw [List.getElem_map]
    exact h.at' j _ _ (by simp [h1]) (by simp [h2'])

theorem RSl.of_map {enc : α → SV} {x : SV} {l : List α} (hs : isSl x = true) (h : its x = l.map enc) : RSl (fun y a => y = enc a) x l :=
  ⟨hs, by rw [h, List.length_map], fun j y a hy ha => by
    rw [h, List.getElem?_map, ha] at hy
    simpa using hy.symm⟩

/-- The address of an item of such a row. -/
theorem RSl.at {enc : α → SV} {x : SV} {l : List α} (h : RSl (fun y a => y = enc a) x l) {t e a b : Nat} {z : Option SV} {te : TI} (ht : tiOf P t = some ⟨.slice e, a, b, z⟩) (hte : tiOf P e = some te)
    (hc : ∀ a, (enc a).cells.length = te.size) {j : Nat} (hj : j < l.length) : indexAddrS P t x (.int .i64 j) = some (.rptr (l.map enc) j 0 (stOf x)) := by
  rw [← h.map]
  exact indexAddr_sl h.sl ht hte rfl (y := enc l[j]) (by rw [h.map]; simp [hj]) (hc _)

/-! ### Numbers -/
variable {t : Nat} {c : Bool} {k : IntKind} {a b : Int}
@[simp] theorem binS_quo (h : b ≠ 0) : binS P .quo t c (.int k a) (.int k b) = some (.int k (k.wrap (a.tdiv b))) := by simp [binS, Go.binOp, Op.intDiv, semV, pure, h]
@[simp] theorem binS_rem (h : b ≠ 0) : binS P .rem t c (.int k a) (.int k b) = some (.int k (a.tmod b)) := by simp [binS, Go.binOp, Op.intDiv, semV, pure, h]
@[simp] theorem binS_shr {yk : IntKind} (h : 0 ≤ b) : binS P .shr t c (.int k a) (.int yk b) = some (.int k (a.fdiv (2 ^ (min b.toNat k.bits)))) := by
  have h' : ¬ b < 0 := by omega
  simp [binS, Go.binOp, Op.shift, semV, pure, h']
def andI (k : IntKind) (x y : Int) : Int := k.wrap (BitVec.ofInt k.bits x &&& BitVec.ofInt k.bits y).toNat
@[simp] theorem binS_and : binS P .and t c (.int k a) (.int k b) = some (.int k (andI k a b)) := by simp [binS, Go.binOp, Op.intBits, semV, pure, andI]
@[simp] theorem unS_neg : unS .neg (.int k a) = some (.int k (k.wrap (0 - a))) := by simp [unS, Op.unary, Op.intArith, semV, pure]
@[simp] theorem mm_min2 : mmS false [.int k a, .int k b] = some (.int k (min a b)) := by
  simp only [mmS, mmGo, Bool.false_eq_true, if_false]; congr 2; rw [Int.min_def]; split <;> split <;> omega
@[simp] theorem mm_max2 : mmS true [.int k a, .int k b] = some (.int k (max a b)) := by
  simp only [mmS, mmGo, if_true]; congr 2; rw [Int.max_def]; split <;> split <;> omega
@[simp] theorem mm_min3 {d : Int} : mmS false [.int k a, .int k b, .int k d] = some (.int k (min (min a b) d)) := by
  simp only [mmS, mmGo, Bool.false_eq_true, if_false]; congr 2; simp only [Int.min_def]; repeat' split <;> omega
@[simp] theorem mm_max3 {d : Int} : mmS true [.int k a, .int k b, .int k d] = some (.int k (max (max a b) d)) := by
  simp only [mmS, mmGo, if_true]; congr 2; simp only [Int.max_def]; repeat' split <;> omega

/-- Within what an int64 holds. -/
def I64 (n : Int) : Prop := -9223372036854775808 ≤ n ∧ n ≤ 9223372036854775807
theorem I64.wrap {n : Int} (h : I64 n) : IntKind.i64.wrap n = n := i64_in h.1 h.2
theorem I64.of_wrap (n : Int) : I64 (IntKind.i64.wrap n) := by unfold I64; rw [IntKind.wrap_i64]; omega
def w64 (n : Int) : Int := IntKind.i64.wrap n

end Go.Proofs.YtbdliphlolajaaaDoor.Sh
