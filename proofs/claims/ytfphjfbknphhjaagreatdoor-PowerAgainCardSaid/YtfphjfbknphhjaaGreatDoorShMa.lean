/-
  The shadow interpreter: a Go function of the loaded program is run on plain trees (slices are lists), without orders that are left open and without addresses. Text 1: its definitions. No condition.
-/
import Derived.Orders
import Derived.Below
import Derived.KernelRfl
import Derived.Laws.StructEq
import Derived.Laws.Small
import Derived.Laws.Cells
import Derived.WalkKit
import Derived.Laws.BytesString
import Derived.Deep.AppendSrc
import Derived.Deep.Upon
import Derived.Laws.CopyRow
set_option linter.unusedVariables false
namespace Go.Proofs.YtfphjfbknphhjaaGreatDoor.Sh

/-- What is known of a list's tail: nothing; that there is no room behind it; that it is a picture of memory that may turn later. -/
inductive Tl where
  | ro | full | snap
  deriving DecidableEq, Inhabited

/-- Values as trees. -/
inductive SV where
  | bool (b : Bool)
  | int (k : IntKind) (n : Int)
  | str (s : ByteArray)
  | nilp
  | ptr (id i o : Nat)
  | rptr (items : List SV) (i o : Nat) (st : Bool)
  | nilsl
  | sl (items : List SV) (tl : Tl)
  | own (id esz i len : Nat)
  | fn (f : Nat) (first caps : List SV)
  | nilf
  | iface (t : Nat) (v : SV)
  | nili
  | agg (cells : List SV)
  | tup (vs : List SV)
  | Z
  deriving Inhabited

def SV.cells : SV → List SV
  | .agg cs => cs
  | v => [v]

/-- May the value be one cell of a row? -/
def SV.one : SV → Bool
  | .agg _ | .tup _ | .Z => false
  | _ => true

/-- May the value be stored? -/
def SV.sto : SV → Bool
  | .tup _ | .Z => false
  | _ => true

def flat (items : List SV) : List SV := items.flatMap SV.cells

/-- Has each item so many cells? -/
def Zv5 (n : Nat) (items : List SV) : Bool := items.all fun x => x.cells.length == n

structure Mem where
  blk : Nat → Option (List SV)
  next : Nat

def Mem.empty : Mem := ⟨fun _ => none, 0⟩
def Mem.set (M : Mem) (id : Nat) (b : Option (List SV)) : Mem := ⟨fun j => if j = id then b else M.blk j, M.next⟩
def Mem.sets (M : Mem) : List (Nat × Option (List SV)) → Mem
  | [] => M
  | (id, b) :: r => (M.set id b).sets r

inductive Ex where
  | normal | exit (id : Nat) | ret
  deriving DecidableEq

structure St where
  tmps : List SV
  mem : Mem

/-! ### Constants, types -/

def Zw8 : Value → SV
  | .bool b => .bool b
  | .int k n => .int k n
  | .string s => .str s
  | .pointer none => .nilp
  | .slice none 0 0 => .nilsl
  | .nilFunc => .nilf
  | .nilIface => .nili
  | _ => .Z

def Zuf : Value → SV
  | .agg cs => if (cs.toList.map Zw8).all SV.one then .agg (cs.toList.map Zw8) else .Z
  | .tuple vs => if vs.size = 0 then .tup [] else .Z
  | v => Zw8 v

inductive TK where
  | bool | int (k : IntKind) | str | ptr | slice (e : Nat) | arr (n e : Nat) | struct (fs : List (Nat × Nat)) | iface | func | other
  deriving DecidableEq, Inhabited

structure TI where
  kind : TK
  size : Nat
  bytes : Nat
  zero : Option SV

def TK.agg : TK → Bool
  | .struct _ | .arr _ _ => true
  | _ => false

def Zxi : TypeDesc → TK
  | .bool => .bool
  | .int k => .int k
  | .string => .str
  | .pointer _ => .ptr
  | .slice e => .slice e
  | .array n e => .arr n e
  | .struct fs => .struct (fs.toList.map fun f => (f.type, f.offset))
  | .interface _ => .iface
  | .func _ _ _ => .func
  | _ => .other

/-- What the shadow uses of a type. -/
def Zbz (P : Program) (t : Nat) : Option TI :=
  match P.underlying t, P.info? t with
  | some d, some i => some ⟨Zxi d, i.size, i.bytes, i.zero.map Zuf⟩
  | _, _ => none

/-- The places of a struct's or an array's parts: where, and how many cells. -/
def placesOf (P : Program) : TK → Option (Nat → Option (Nat × Nat))
  | .struct fs => match fs.mapM (fun f => match Zbz P f.1 with | some x => some (f.2, x.size) | none => none) with
    | some ps => some (fun i => ps[i]?)
    | none => none
  | .arr _ e => match Zbz P e with
    | some x => some (fun i => some (i * x.size, x.size))
    | none => none
  | _ => none

structure Env where
  P : Program
  G : Nat → Option (List SV)
  prim : Nat → Option (List SV → Mem → Option (SV × Mem))
  imp : Nat → Nat → Bool
  dead : Nat → Nat → List Nat
  raw : Nat → Option Value := fun _ => none
  sent : Nat → Bool := fun _ => false

def evO (E : Env) (tmps : List SV) : Operand → SV
  | .tmp t => tmps.getD t (.tup [])
  | .const v => Zuf v
  | .global g => match E.G g with
    | some items => .rptr items 0 0 true
    | none => .Z
  | .func f => .fn f [] []

/-! ### Pictures of memory -/

mutual
/-- A plain tree: nothing in it hangs on memory that may turn. -/
def pv : SV → Bool
  | .ptr .. => false
  | .own .. => false
  | .sl items tl => (tl != .snap) && pvs items
  | .rptr items _ _ st => st && pvs items
  | .fn _ a b => pvs a && pvs b
  | .iface _ v => pv v
  | .agg cs => pvs cs
  | .tup vs => pvs vs
  | _ => true
def pvs : List SV → Bool
  | [] => true
  | v :: r => pv v && pvs r
end

/-- A picture of a value: what memory it names is read. 'st': it will not turn any more. -/
def pic (get : Nat → Option (List SV)) (st : Bool) : Nat → SV → Option SV
  | 0, v => if pv v then some v else none
  | n + 1, v =>
    if pv v then some v else
    match v with
    | .ptr id i o => match get id with
      | some items => match items.mapM (pic get st n) with
        | some items' => some (.rptr items' i o st)
        | none => none
      | none => none
    | .own id esz i len => match get id with
      | some items => if i + len ≤ items.length then
          match ((items.drop i).take len).mapM (pic get st n) with
          | some items' => some (.sl items' (if st then .ro else .snap))
          | none => none
        else none
      | none => none
    | .sl items tl => match items.mapM (pic get st n) with
      | some items' => some (.sl items' tl)
      | none => none
    | .rptr items i o s => match items.mapM (pic get st n) with
      | some items' => some (.rptr items' i o s)
      | none => none
    | .fn f a b => match a.mapM (pic get st n), b.mapM (pic get st n) with
      | some a', some b' => some (.fn f a' b')
      | _, _ => none
    | .iface t v => match pic get st n v with
      | some v' => some (.iface t v')
      | none => none
    | .agg cs => match cs.mapM (pic get st n) with
      | some cs' => some (.agg cs')
      | none => none
    | .tup vs => match vs.mapM (pic get st n) with
      | some vs' => some (.tup vs')
      | none => none
    | v => some v

def Zar : Nat := 12

/-- Nothing in it, so deep, names memory of a call's own. -/
def np : Nat → SV → Bool
  | 0, x => pv x
  | n + 1, x => pv x || (match x with
    | .sl items _ => items.all (np n)
    | .rptr items _ _ _ => items.all (np n)
    | .fn _ a b => a.all (np n) && b.all (np n)
    | .iface _ v => np n v
    | .agg cs => cs.all (np n)
    | .tup vs => vs.all (np n)
    | _ => false)

/-! ### Operations -/

def Z2o : Sem Value → Option SV
  | .pure (.int k n) => some (.int k n)
  | .pure (.bool b) => some (.bool b)
  | .pure (.string s) => some (.str s)
  | _ => none

/-- Structs of whole numbers alone, one cell each. -/
def Zafx (P : Program) : TK → Bool
  | .struct fs => fs.all fun f => match Zbz P f.1 with | some ⟨.int _, 1, _, _⟩ => true | _ => false
  | _ => false

/-- Does the struct's field j lie at j? -/
def Zalr : Nat → List (Nat × Nat) → Bool
  | _, [] => true
  | j, (_, o) :: r => o == j && Zalr (j + 1) r

def Zxh : List SV → List SV → Option Bool
  | [], [] => some true
  | .int k a :: r, .int k' b :: s => if k = k' then
      match Zxh r s with
      | some c => some ((a == b) && c)
      | none => none
    else none
  | _, _ => none

/-- no field is blank -/
def Zwf (P : Program) (t : Nat) : Bool := match P.underlying t with
  | some (.struct fs) => fs.all fun f => f.name != "_"
  | _ => false

def eqS (P : Program) (t : Nat) (cst : Bool) (x y : SV) : Option Bool :=
  match Zbz P t with
  | none => none
  | some ti =>
    match ti.kind, x, y with
    | .bool, .bool a, .bool b => some (a == b)
    | .slice _, .nilsl, .nilsl => some true
    | .slice _, .nilsl, .sl _ _ => some false
    | .slice _, .nilsl, .own _ _ _ _ => some false
    | .slice _, .sl _ _, .nilsl => some false
    | .slice _, .own _ _ _ _, .nilsl => some false
    | .ptr, .nilp, .nilp => some true
    | .ptr, .nilp, .ptr _ _ _ => some false
    | .ptr, .nilp, .rptr _ _ _ _ => some false
    | .ptr, .ptr _ _ _, .nilp => some false
    | .ptr, .rptr _ _ _ _, .nilp => some false
    | .iface, .nili, .nili => if cst then some true else none
    | .iface, .nili, .iface _ _ => some false
    | .iface, .iface _ _, .nili => some false
    | .func, .nilf, .nilf => some true
    | .func, .nilf, .fn _ _ _ => some false
    | .func, .fn _ _ _, .nilf => some false
    | .struct fs, .agg xs, .agg ys =>
      if P.stoodInHeld t = false ∧ P.eqGuardType P.depth t = false ∧ Zafx P (.struct fs) = true ∧ Zalr 0 fs = true ∧ xs.length = fs.length ∧ ys.length = fs.length ∧ Zwf P t = true then Zxh xs ys else none
    | _, _, _ => none

def Zoq (P : Program) (op : BinOp) (t : Nat) (cst : Bool) (x y : SV) : Option SV :=
  match x, y with
  | .int k a, .int k' b => Z2o (Go.binOp op t (.int k a) (.int k' b))
  | .str a, .str b => Z2o (Go.binOp op t (.string a) (.string b))
  | x, y => match op with
    | .eql => match eqS P t cst x y with | some b => some (.bool b) | none => none
    | .neq => match eqS P t cst x y with | some b => some (.bool (!b)) | none => none
    | _ => none

def unS (op : UnOp) : SV → Option SV
  | .int k n => Z2o (Op.unary op (.int k n))
  | .bool b => Z2o (Op.unary op (.bool b))
  | _ => none

def bytesOf : List SV → Option (List UInt8)
  | [] => some []
  | .int .u8 n :: r => match bytesOf r with
    | some l => some (UInt8.ofNat n.toNat :: l)
    | none => none
  | _ :: _ => none

def splice (cs : List SV) (o : Nat) (ds : List SV) : List SV := cs.take o ++ ds ++ cs.drop (o + ds.length)

def Zeb (pl : Nat → Option (Nat × Nat)) : List SV → List (Nat × SV) → Option (List SV)
  | cs, [] => some cs
  | cs, (i, v) :: r => match pl i with
    | some (o, n) => if v.sto = true ∧ v.cells.length = n ∧ o + n ≤ cs.length then Zeb pl (splice cs o v.cells) r else none
    | none => none

def Zb4 (n len : Nat) : List SV → List (Nat × SV) → Option (List SV)
  | xs, [] => some xs
  | xs, (i, v) :: r => if v.sto = true ∧ v.cells.length = n ∧ i < len then Zb4 n len (xs.set i v) r else none

/-- A part of an item: the type's cells from 'o' on. -/
def Zo (ti : TI) (x : SV) (o : Nat) : Option SV :=
  if ti.kind.agg then
    if o = 0 ∧ ti.size = x.cells.length then some (.agg x.cells)
    else if o + ti.size ≤ x.cells.length then some (.agg ((x.cells.drop o).take ti.size)) else none
  else x.cells[o]?

def Zn (P : Program) (get : Nat → Option (List SV)) (t : Nat) (a : SV) : Option SV :=
  match Zbz P t with
  | none => none
  | some ti =>
    match a with
    | .ptr id i o => match get id with
      | some items => match items[i]? with
        | some x => Zo ti x o
        | none => none
      | none => none
    | .rptr items i o _ => match items[i]? with
      | some x => Zo ti x o
      | none => none
    | _ => none

/-- An item in which the cells from 'o' on are a value's. -/
def Zg (x : SV) (o : Nat) (v : SV) : Option SV :=
  if o = 0 ∧ v.cells.length = x.cells.length then some (if x.cells.length = 1 then (match x with | .agg _ => .agg v.cells | _ => (v.cells.headD .Z)) else v)
  else match x with
    | .agg cs => if o + v.cells.length ≤ cs.length then some (.agg (splice cs o v.cells)) else none
    | _ => none

def Zi (P : Program) (get : Nat → Option (List SV)) (t : Nat) (a v : SV) : Option (List (Nat × Option (List SV))) :=
  match Zbz P t with
  | none => none
  | some ti =>
    match a with
    | .ptr id i o => match get id with
      | some items => match items[i]? with
        | some x => if v.sto = true ∧ v.cells.length = ti.size then
            match Zg x o v with
            | some x' => some [(id, some (items.set i x'))]
            | none => none
          else none
        | none => none
      | none => none
    | _ => none

def Zs4 : SV → Option Nat
  | .int _ n => if 0 ≤ n then some n.toNat else none
  | _ => none

/-- the bounds of a slice: low, high -/
def Zpq (len : Nat) (lo hi mx : Option SV) : Option (Nat × Nat × Option Nat) :=
  match (match mx with | none => some none | some v => (Zs4 v).map some) with
  | none => none
  | some m =>
    match (match hi with | none => some len | some v => Zs4 v) with
    | none => none
    | some h =>
      match (match lo with | none => some 0 | some v => Zs4 v) with
      | none => none
      | some l =>
        match hi, m with
        | _, none => if l ≤ h ∧ h ≤ len then some (l, h, none) else none
        | some _, some m => if l ≤ h ∧ h ≤ m ∧ m ≤ len then some (l, h, some m) else none
        | none, some _ => none

def Zse (P : Program) (t : Nat) (x : SV) (lo hi mx : Option SV) : Option SV :=
  match Zbz P t with
  | none => none
  | some ti =>
    match ti.kind, x with
    | .str, .str s => match Zpq s.size lo hi mx with
      | some (l, h, none) => some (.str (s.extract l h))
      | _ => none
    | .slice e, .nilsl => match Zbz P e, Zpq 0 lo hi mx with
      | some _, some _ => some .nilsl
      | _, _ => none
    | .slice e, .sl items tl => match Zbz P e, Zpq items.length lo hi mx with
      | some te, some (l, h, m) =>
        if Zv5 te.size items then
          some (.sl ((items.drop l).take (h - l)) (match m with
            | some m => if m = h then (match tl with | .snap => .snap | _ => .full) else (match tl with | .full => .ro | q => q)
            | none => match tl with | .full => if h = items.length then .full else .ro | q => q))
        else none
      | _, _ => none
    | .slice e, .own id esz i len => match Zbz P e, Zpq len lo hi mx with
      | some te, some (l, h, m) =>
        if te.size = esz then
          if l = h then some (.sl [] (if m = some h then .full else .ro)) else some (.own id esz (i + l) (h - l))
        else none
      | _, _ => none
    | _, _ => none

def Zb (P : Program) (t : Nat) (a : SV) (f : Nat) : Option SV :=
  match Zbz P t with
  | some ⟨.struct fs, _, _, _⟩ => match fs[f]? with
    | some (ft, off) => match Zbz P ft with
      | some fi => if fi.size = 0 then none else
        match a with
        | .ptr id i o => some (.ptr id i (o + off))
        | .rptr items i o st => some (.rptr items i (o + off) st)
        | _ => none
      | none => none
    | none => none
  | _ => none

def Zk (P : Program) (t : Nat) (x : SV) (f : Nat) : Option SV :=
  match Zbz P t with
  | some ⟨.struct fs, _, _, _⟩ => match fs[f]?, x with
    | some (ft, off), .agg cs => match Zbz P ft with
      | some fi => Zo fi (.agg cs) off
      | none => none
    | _, _ => none
  | _ => none

def Z9 (P : Program) (t : Nat) (x ix : SV) : Option SV :=
  match Zbz P t, Zs4 ix with
  | some ti, some j =>
    match ti.kind with
    | .arr n e => match Zbz P e with
      | some te => if j < n then
          match x with
          | .ptr id i o => some (.ptr id i (o + j * te.size))
          | .rptr items i o st => some (.rptr items i (o + j * te.size) st)
          | _ => none
        else none
      | none => none
    | .slice e => match Zbz P e with
      | some te =>
        match x with
        | .own id esz i len => if j < len ∧ esz = te.size then some (.ptr id (i + j) 0) else none
        | .sl items tl => match items[j]? with
          | some y => if y.cells.length = te.size then some (.rptr items j 0 (tl != .snap)) else none
          | none => none
        | _ => none
      | none => none
    | _ => none
  | _, _ => none

def Zt5 (P : Program) (t : Nat) (x ix : SV) : Option SV :=
  match Zbz P t, Zs4 ix with
  | some ti, some j =>
    match ti.kind, x with
    | .arr n e, .agg cs => match Zbz P e with
      | some te => if j < n then Zo te (.agg cs) (j * te.size) else none
      | none => none
    | .str, .str s => match s[j]? with
      | some b => some (.int .u8 b.toNat)
      | none => none
    | _, _ => none
  | _, _ => none

def Zz8 (P : Program) (get : Nat → Option (List SV)) (src dst : Nat) (x : SV) : Option SV :=
  match Zbz P src, Zbz P dst with
  | some a, some b =>
    match a.kind, b.kind, x with
    | .int _, .int k, .int _ n => some (.int k (k.wrap n))
    | .str, .str, .str s => some (.str s)
    | .slice e, .str, .nilsl => match Zbz P e with | some ⟨.int .u8, _, _, _⟩ => some (.str ByteArray.empty) | _ => none
    | .slice e, .str, .sl items _ => match Zbz P e with | some ⟨.int .u8, _, _, _⟩ => (match bytesOf items with | some l => some (.str ⟨l.toArray⟩) | none => none) | _ => none
    | .slice e, .str, .own id esz i len => match Zbz P e, get id with
      | some ⟨.int .u8, _, _, _⟩, some items => if i + len ≤ items.length ∧ esz = 1 then (match bytesOf ((items.drop i).take len) with | some l => some (.str ⟨l.toArray⟩) | none => none) else none
      | _, _ => none
    | _, _, _ => none
  | _, _ => none

def Zex (P : Program) (t : Nat) : SV → Option SV
  | .str s => match Zbz P t with | some ⟨.str, _, _, _⟩ => some (.int .i64 s.size) | _ => none
  | .nilsl => match Zbz P t with | some ⟨.slice _, _, _, _⟩ => some (.int .i64 0) | _ => none
  | .sl items _ => match Zbz P t with | some ⟨.slice _, _, _, _⟩ => some (.int .i64 items.length) | _ => none
  | .own _ _ _ len => match Zbz P t with | some ⟨.slice _, _, _, _⟩ => some (.int .i64 len) | _ => none
  | .agg _ => match Zbz P t with | some ⟨.arr n _, _, _, _⟩ => some (.int .i64 n) | _ => none
  | _ => none

def mmGo (mx : Bool) (k : IntKind) (a : Int) : List SV → Option SV
  | [] => some (.int k a)
  | .int _ b :: r => mmGo mx k (if mx then (if b > a then b else a) else (if b < a then b else a)) r
  | _ => none

def mmS (mx : Bool) : List SV → Option SV
  | .int k a :: r => mmGo mx k a r
  | _ => none

def Z1o (P : Program) (x : SV) (t : Nat) (ok : Bool) : Option SV :=
  match Zbz P t with
  | none => none
  | some ti =>
    match ti.kind with
    | .iface => none
    | _ => match x with
      | .nili => if ok then (match ti.zero with | some z => some (.tup [z, .bool false]) | none => none) else none
      | .iface u v => if u = t then some (if ok then .tup [v, .bool true] else v)
          else if ok then (match ti.zero with | some z => some (.tup [z, .bool false]) | none => none) else none
      | _ => none

/-- The items of a slice (or of a string's bytes). -/
def Zkn (get : Nat → Option (List SV)) : SV → Option (List SV)
  | .nilsl => some []
  | .sl items _ => some items
  | .own id _ i len => match get id with
    | some items => if i + len ≤ items.length then some ((items.drop i).take len) else none
    | none => none
  | .str s => some (s.data.toList.map fun b => .int .u8 b.toNat)
  | _ => none

/-- May the source be appended to items of so many cells? -/
def Zj0 (k : TK) (esz : Nat) : SV → Bool
  | .own _ e _ _ => e == esz && (match k with | .slice _ => true | _ => false)
  | .str _ => esz == 1 && (match k with | .str => true | _ => false)
  | _ => (match k with | .slice _ => true | _ => false)

/-- 'append': what it hands back, and what becomes of memory ('a': the number of the new block). -/
def Zef (P : Program) (get : Nat → Option (List SV)) (a : Nat) (t t2 : Nat) (s x : SV) : Option (SV × List (Nat × Option (List SV))) :=
  match Zbz P t, Zbz P t2 with
  | some ⟨.slice e, _, _, _⟩, some k2 =>
    match Zbz P e with
    | some te =>
      match te.zero, Zkn get x with
      | some z, some ys =>
        if 0 < te.size ∧ Zv5 te.size ys = true ∧ Zj0 k2.kind te.size x = true ∧ z.sto = true ∧ z.cells.length = te.size then
          match s with
          | .nilsl => if ys.isEmpty then some (.nilsl, []) else if ys.length * te.bytes ≤ 140737488355328 ∧ ys.length ≤ 140737488355328 then some (.own a te.size 0 ys.length, [(a, some ys)]) else none
          | .sl xs .full => if ys.isEmpty then some (.sl xs .full, []) else if Zv5 te.size xs = true ∧ (xs.length + ys.length) * te.bytes ≤ 140737488355328 ∧ xs.length + ys.length ≤ 140737488355328 then some (.own a te.size 0 (xs.length + ys.length), [(a, some (xs ++ ys))]) else none
          | .own id esz i len => if ys.isEmpty then some (.own id esz i len, []) else
            match get id with
            | some xs => if esz = te.size ∧ i = 0 ∧ len ≤ xs.length ∧ (len + ys.length) * te.bytes ≤ 140737488355328 ∧ len + ys.length ≤ 140737488355328 then some (.own a te.size 0 (len + ys.length), [(id, none), (a, some (xs.take len ++ ys))]) else none
            | none => none
          | _ => none
        else none
      | _, _ => none
    | none => none
  | _, _ => none

def isStr : SV → Bool
  | .str _ => true
  | _ => false

/-- 'copy', items of one cell each: how many, and what becomes of memory. -/
def copyS (P : Program) (get : Nat → Option (List SV)) (t : Nat) (d x : SV) : Option (SV × List (Nat × Option (List SV))) :=
  match Zbz P t with
  | some ⟨.slice e, _, _, _⟩ => match Zbz P e with
    | some te => match d, Zkn get x with
      | .own id esz i len, some ys => match get id with
        | some xs => if te.size = 1 ∧ esz = 1 ∧ isStr x = false ∧ i + len ≤ xs.length ∧ Zv5 1 ys = true then
            some (.int .i64 (min ys.length len : Nat), [(id, some (xs.take i ++ ys.take (min ys.length len) ++ xs.drop (i + min ys.length len)))])
          else none
        | none => none
      | _, _ => none
    | none => none
  | _ => none

def Zl : Operand → Bool
  | .const _ => true
  | _ => false

/-- What an operation does: a value, and what becomes of blocks. 'pc': a call in memory of its own; 'a': the number of a new block; 'get': memory as it may be looked at. -/
def act (E : Env) (pc : Nat → List SV → Option SV) (a : Nat) (ρ : Operand → SV) (get : Nat → Option (List SV)) (o : Oper) : Option (SV × List (Nat × Option (List SV))) :=
  let v (x : Option SV) : Option (SV × List (Nat × Option (List SV))) := match x with | some y => some (y, []) | none => none
  match o.op with
  | .move x | .assign x => some (ρ x, [])
  | .pick c p q => match ρ c with
    | .bool b => some (if b then ρ p else ρ q, [])
    | _ => none
  | .alloc t => match Zbz E.P t with
    | some ti => match ti.zero with
      | some z => if z.sto then some (.ptr a 0 0, [(a, some [z])]) else none
      | none => none
    | none => none
  | .box t x => if (ρ x).sto then some (.ptr a 0 0, [(a, some [ρ x])]) else none
  | .build t parts => match Zbz E.P t with
    | some ti => match ti.zero, placesOf E.P ti.kind with
      | some (.agg zs), some pl => v (match Zeb pl zs (parts.toList.map fun p => (p.1, ρ p.2)) with | some cs => some (.agg cs) | none => none)
      | _, _ => none
    | none => none
  | .buildSlice t len parts => match Zbz E.P t with
    | some ⟨.slice e, _, _, _⟩ => match Zbz E.P e with
      | some te => match te.zero with
        | some z => if z.sto = true ∧ z.cells.length = te.size ∧ 0 < te.size ∧ len * te.size ≤ 16777216 then
            (match Zb4 te.size len (List.replicate len z) (parts.toList.map fun p => (p.1, ρ p.2)) with
            | some xs => some (.own a te.size 0 len, [(a, some xs)])
            | none => none) else none
        | none => none
      | none => none
    | _ => none
  | .load t x => v (Zn E.P get t (ρ x))
  | .store t x y => match Zi E.P get t (ρ x) (ρ y) with
    | some u => some (.tup [], u)
    | none => none
  | .nilCheck x => match ρ x with
    | .ptr id i o => some (.ptr id i o, [])
    | .rptr l i o st => some (.rptr l i o st, [])
    | .iface t y => some (.iface t y, [])
    | .fn f p q => some (.fn f p q, [])
    | _ => none
  | .binOp op t x y _ => v (Zoq E.P op t (Zl x || Zl y) (ρ x) (ρ y))
  | .unOp op _ x => v (unS op (ρ x))
  | .convert s d x => v (Zz8 E.P get s d (ρ x))
  | .makeInterface t x => if E.sent t then none else match Zbz E.P t with
    | some ⟨.iface, _, _, _⟩ => none
    | some _ => some (.iface t (ρ x), [])
    | none => none
  | .makeFunc (.func f) first caps => some (.fn f (first.toList.map ρ) (caps.toList.map ρ), [])
  | .makeSlice t l c => match Zbz E.P t with
    | some ⟨.slice e, _, _, _⟩ => match Zbz E.P e, ρ l, ρ c with
      | some te, .int .i64 n, .int .i64 m => match te.zero with
        | some z => if z.sto = true ∧ z.cells.length = te.size ∧ 0 < te.size ∧ n = m ∧ 0 ≤ n ∧ n * te.bytes ≤ 281474976710656 ∧ n ≤ 281474976710656 then
            some (.own a te.size 0 n.toNat, [(a, some (List.replicate n.toNat z))]) else none
        | none => none
      | _, _, _ => none
    | _ => none
  | .slice t x lo hi mx => v (Zse E.P t (ρ x) (lo.map ρ) (hi.map ρ) (mx.map ρ))
  | .fieldAddr t x f => v (Zb E.P t (ρ x) f)
  | .field t x f => v (Zk E.P t (ρ x) f)
  | .indexAddr t x i => v (Z9 E.P t (ρ x) (ρ i))
  | .index t x i => v (Zt5 E.P t (ρ x) (ρ i))
  | .typeAssert x _ t ok => v (Z1o E.P (ρ x) t ok)
  | .extract t i => match ρ t with
    | .tup vs => v (vs[i]?)
    | _ => none
  | .call c => match c.callee with
    | .builtin .len => match c.args.toList, c.argTypes.toList with
      | [x], [t] => v (Zex E.P t (ρ x))
      | _, _ => none
    | .builtin .min => v (mmS false (c.args.toList.map ρ))
    | .builtin .max => v (mmS true (c.args.toList.map ρ))
    | .builtin .copy => match c.args.toList, c.argTypes.toList with
      | [d, x], [t, _] => copyS E.P get t (ρ d) (ρ x)
      | _, _ => none
    | .builtin .append => match c.args.toList, c.argTypes.toList with
      | [s, x], [t, t2] => Zef E.P get a t t2 (ρ s) (ρ x)
      | _, _ => none
    | .value g => match ρ g with
      | .fn f first caps => match (first ++ c.args.toList.map ρ ++ caps).mapM (pic get false Zar) with
        | some args => v (pc f args)
        | none => none
      | _ => none
    | _ => none
  | _ => none

/-- Is the operation a call in the caller's memory? Then: of which function, with what. -/
def Zd8 (E : Env) (me : Nat) (ρ : Operand → SV) (o : Oper) : Option (Nat × List SV) :=
  match o.op with
  | .call { callee := .value g, args, .. } => match ρ g with
    | .fn f first caps => if (E.prim f).isSome || E.imp me f then some (f, first ++ args.toList.map ρ ++ caps) else none
    | _ => none
  | _ => none

/-! ### Regions -/

inductive Cls where
  | p | r | a | w | c | ra
  deriving DecidableEq

def Zak3 (args : Array Operand) : Bool := match args.toList with
  | .const (.slice none 0 0) :: _ => true
  | _ => false

def Cls.mk : Cls → Bool
  | .a | .ra => true
  | _ => false

def cls (E : Env) (me : Nat) (op : Op) : Cls :=
  match op with
  | .load .. | .convert .. => .r
  | .alloc .. | .box .. | .buildSlice .. | .makeSlice .. => .a
  | .store .. => .w
  | .call { callee := .builtin .append, args, .. } => if Zak3 args then .ra else .w
  | .call { callee := .builtin .copy, .. } => .w
  | .call { callee := .builtin _, .. } => .p
  | .call { callee := .value (.func f), .. } => if (E.prim f).isSome || E.imp me f then .c else .r
  | .call _ => .c
  | _ => .p

def Zbr (E : Env) (me : Nat) (op : Op) : Bool :=
  match cls E me op with
  | .a | .c | .ra => true
  | .w => (match op with | .store .. => false | _ => true)
  | _ => false

/-- The operations ahead of each, all of them, as the bits of a number. -/
def Zawh (ops : List Oper) : List Nat :=
  ops.foldl (fun acc o => acc ++ [o.after.toList.foldl (fun m e => if Region.binds .any e then (m ||| (1 <<< e.on)) ||| acc.getD e.on 0 else m) 0]) []

/-- The operations ahead of each, all of them. -/
def Ztv (ops : List Oper) : List (List Nat) := (Zawh ops).map fun m => (List.range ops.length).filter fun i => m.testBit i

def compat : Cls → Cls → Bool
  | .p, _ | _, .p => true
  | .r, .r | .r, .a | .a, .r | .a, .a | .w, .a | .a, .w | .r, .ra | .ra, .r | .ra, .ra | .ra, .a | .a, .ra => true
  | _, _ => false

def Zzf (E : Env) (me : Nat) (ops : Array Oper) (b : List (List Nat)) (i j : Nat) : Bool :=
  (b.getD j []).contains i ||
  (!(b.getD i []).contains j &&
   match ops[i]?, ops[j]? with
   | some x, some y => x.apart ops y && compat (cls E me x.op) (cls E me y.op)
   | _, _ => false)

/-- May a region's operations be done in any order that its edges allow? 'p', 'q': the two that may come in either order all the same. -/
def Zw3 (E : Env) (me : Nat) (ops : Array Oper) (p q : Nat) : Bool :=
  let b := Ztv ops.toList
  (List.range ops.size).all fun j =>
    (match ops[j]? with
     | some o => (o.after.toList.all fun e => !Region.binds .any e || decide (e.on < j)) &&
         (b.getD j []).all fun p => o.after.toList.any fun e => Region.binds .any e && (e.on == p || (b.getD e.on []).contains p)
     | none => true) && (List.range j).all fun i => Zzf E me ops b i j || (i == p && j == q)

def Zal4 (E : Env) (me : Nat) (ops : Array Oper) : Bool := Zw3 E me ops 1 0

/-- Is the operation a call in the caller's memory, with a load beside it? Then: which, the load's type, its operand, its temp. -/
def Zvm (E : Env) (me : Nat) (ops : Array Oper) (k : Nat) : Option (Nat × Nat × Nat × Nat) :=
  match ops[k]? with
  | some ok => match ok.op, ok.guard with
    | .call { callee := .value (.func f), .. }, none =>
      let b := Ztv ops.toList
      (List.range k).findSome? fun j => match ops[j]? with
        | some oj => match oj.op, oj.dst, oj.guard with
          | .load t (.tmp a), some d, none =>
            if ((E.prim f).isSome || E.imp me f) = true ∧ (b.getD k []).contains j = false ∧ oj.apart ops ok = true ∧ a ≠ d ∧
                (List.range ops.size).all (fun x => decide (x ≤ j) || x == k || (decide (x < k) && (b.getD k []).contains x) || (decide (k < x) && (match ops[x]? with | some o => o.dst != some d && o.dst != some a | none => true))) = true then some (j, t, a, d) else none
          | _, _, _ => none
        | none => none
    | _, _ => none
  | none => none

def exOf (E : Env) (me : Nat) (ops : Array Oper) : Option Nat := (List.range ops.size).find? fun k => match Zvm E me ops k with
  | some (j, _, _, _) => Zw3 E me ops j k
  | none => false

/-- What must hold that a read says the same behind a store that may come ahead of it. -/
inductive FP where
  | ld (a ai : Nat)
  | cl (xs : List Operand)
  | ll (t a d : Nat)

/-- A place that a store elsewhere leaves as it is. -/
def Zalc : SV → SV → Bool
  | .ptr id i _, .ptr id' i' _ => id != id' || i != i'
  | .rptr _ _ _ _, _ => true
  | _, _ => false

/-- Are the two apart, is what the read looks at set ahead of it, and what the store looks at ahead of it for sure? -/
def Zarm (ops : Array Oper) (x i : Nat) (ox oi : Oper) : Bool :=
  ox.apart ops oi && (List.range ops.size).all fun y => match (ops[y]?).bind (·.dst) with
    | some d => (!(ox.looksAt ops).contains d || decide (y < x)) && (!(oi.looksAt ops).contains d || ((Ztv ops.toList).getD i []).contains y)
    | none => true

def Cls.quiet : Cls → Bool
  | .p | .r | .a => true
  | _ => false

/-- A call in the caller's memory ahead of a load: what the load looks at is set ahead of it, and what sets memory comes behind the call. -/
def Zarz (E : Env) (me : Nat) (ops : Array Oper) (x i f a d : Nat) (ox oi : Oper) : Bool :=
  ((E.prim f).isSome || E.imp me f) && ox.apart ops oi && a != d && (List.range ops.size).all fun y => match ops[y]? with
    | some o => (o.dst != some a || ((Ztv ops.toList).getD i []).contains y) && (o.dst != some d || y == i) && (y == x || (cls E me o.op).quiet || (decide (x < y) && ((Ztv ops.toList).getD y []).contains x))
    | none => true

/-- A store, and a read ahead of it that may come behind it; a call in the caller's memory, and a load behind it that may come ahead of it. -/
def fpAt (E : Env) (me : Nat) (ops : Array Oper) (x i : Nat) : Option FP :=
  match ops[x]?, ops[i]? with
  | some ox, some oi => match oi.op, oi.dst, oi.guard, ox.guard with
    | .store _ (.tmp ai) _, none, none, none =>
      if Zarm ops x i ox oi then
        match ox.op with
        | .load _ (.tmp a) => some (.ld a ai)
        | .call { callee := .value (.func f), args, .. } => if (E.prim f).isSome || E.imp me f then none else some (.cl args.toList)
        | _ => none
      else none
    | .load t (.tmp a), some d, none, none => match ox.op with
      | .call { callee := .value (.func f), .. } => if Zarz E me ops x i f a d ox oi then some (.ll t a d) else none
      | _ => none
    | _, _, _, _ => none
  | _, _ => none

/-- May a region's operations be done in any order that its edges allow, but for reads beside stores? -/
def Z5g (E : Env) (me : Nat) (ops : Array Oper) : Bool :=
  let b := Ztv ops.toList
  (List.range ops.size).all fun j =>
    (match ops[j]? with
     | some o => (o.after.toList.all fun e => !Region.binds .any e || decide (e.on < j)) &&
         (b.getD j []).all fun p => o.after.toList.any fun e => Region.binds .any e && (e.on == p || (b.getD e.on []).contains p)
     | none => true) && (List.range j).all fun i => Zzf E me ops b i j || (fpAt E me ops i j).isSome

def Zag2 (E : Env) (me : Nat) (ops : Array Oper) : List FP :=
  (List.range ops.size).flatMap fun j => (List.range j).filterMap fun i => if Zzf E me ops (Ztv ops.toList) i j then none else fpAt E me ops i j

/-- Small values that are the same for sure. -/
def Zna : SV → SV → Bool
  | .nilsl, .nilsl => true
  | .own a b c d, .own a' b' c' d' => a == a' && b == b' && c == c' && d == d'
  | .int k n, .int k' n' => decide (k = k') && n == n'
  | _, _ => false

def Zlt (tmps : List SV) (dst : Option Nat) (v : SV) : List SV :=
  match dst with
  | some d => tmps.set d v
  | none => tmps

def Zzc (ops : Array Oper) (tmps : List SV) (j : Nat) : Option SV :=
  match ((ops[j]?).bind (·.dst)) with
  | some t => tmps[t]?
  | none => none

/-- Is the operation to be done? none: it can't be told. -/
def Zns (ops : Array Oper) (o : Oper) (tmps : List SV) : Option Bool :=
  match o.guard with
  | none => some true
  | some (j, want) => match Zzc ops tmps j with
    | some (.bool b) => some (b == want)
    | some .Z => none
    | _ => some false

abbrev PC := Nat → List SV → Option SV
abbrev IC := Nat → List SV → Mem → Option (SV × Mem)

/-- One operation of a region that began at memory of 'n0' blocks. 'lim': which blocks it may see. -/
def exO (E : Env) (me : Nat) (pc : PC) (ic : IC) (n0 : Nat) (lim : Nat → Nat → Bool) (ops : Array Oper) (x : Nat) (s : St) : Option St :=
  match ops[x]? with
  | none => some s
  | some o =>
    match Zns ops o s.tmps with
    | none => none
    | some false => some ⟨Zlt s.tmps o.dst (.tup []), s.mem⟩
    | some true =>
      match Zd8 E me (evO E s.tmps) o with
      | some (f, args) => match ic f args s.mem with
        | some (v, M) => some ⟨Zlt s.tmps o.dst v, M⟩
        | none => none
      | none =>
        match act E pc (n0 + x) (evO E s.tmps) (fun id => if lim x id then s.mem.blk id else none) o with
        | some (v, u) => some ⟨Zlt s.tmps o.dst v, s.mem.sets u⟩
        | none => none

def Zun (E : Env) (me : Nat) (pc : PC) (ic : IC) (n0 : Nat) (lim : Nat → Nat → Bool) (ops : Array Oper) : List Nat → St → Option St
  | [], s => some s
  | x :: r, s => match exO E me pc ic n0 lim ops x s with
    | some s' => Zun E me pc ic n0 lim ops r s'
    | none => none

/-- Which blocks an operation of a region that draws its order may see: those that were there, and those that are made ahead of it for sure. -/
def Z3y (ops : Array Oper) (n0 : Nat) (x id : Nat) : Bool :=
  decide (id < n0) || decide (n0 + ops.size ≤ id) || ((Ztv ops.toList).getD x []).contains (id - n0)

def Zapt (E : Env) (me : Nat) (pc : PC) (ic : IC) (ops : Array Oper) (draw : Bool) (s : St) : Option St :=
  let new := ops.any fun o => Zbr E me o.op
  let n0 := s.mem.next
  let s1 : St := if new then ⟨s.tmps, ⟨s.mem.blk, n0 + ops.size⟩⟩ else s
  if draw && !Zal4 E me ops then none
  else Zun E me pc ic n0 (if draw && new then Z3y ops n0 else fun _ _ => true) ops (List.range ops.size) s1

/-! ### Regions and code, told shorter -/

structure Ins where
  dst : Option Nat
  op : Op
  guard : Option (Option Nat × Bool)
  lim : Option (List Nat)

structure RI where
  size : Nat
  adv : Nat
  dead : List Nat
  ops : List Ins

inductive C where
  | skip
  | reg (ri : RI)
  | chk (pre : RI) (t : Nat) (x : Operand) (d : Nat)
  | chf (pre : RI) (ps : List FP)
  | seq (a b : C)
  | cond (x : Operand) (a b : C)
  | block (id : Nat) (b : C)
  | loop (b : C)
  | exit (id : Nat)
  | ret
  | Z

def Zahv (lims : Option (List (List Nat))) (x : Nat) : Option (List Nat) := match lims with
  | some l => some (l.getD x [])
  | none => none

def Z7d (ops : Array Oper) (g : Option (Nat × Bool)) : Option (Option Nat × Bool) := match g with
  | some (j, w) => some ((ops[j]?).bind (·.dst), w)
  | none => none

def Zzs (ops : Array Oper) (lims : Option (List (List Nat))) : Nat → List Oper → List Ins
  | _, [] => []
  | k, o :: r => ⟨o.dst, o.op, Z7d ops o.guard, Zahv lims k⟩ :: Zzs ops lims (k + 1) r

def Zvs (E : Env) (me id : Nat) (ops : Array Oper) (draw : Bool) : RI :=
  let new := ops.any fun o => Zbr E me o.op
  ⟨ops.size, if new then ops.size else 0, E.dead me id, Zzs ops (if draw && new then some (Ztv ops.toList) else none) 0 ops.toList⟩

def riOf (E : Env) (me id : Nat) (ops : Array Oper) (draw : Bool) : Option RI :=
  if draw && !Zal4 E me ops then none else some (Zvs E me id ops draw)

/-- A region's beginning, up to an operation. -/
def Zwk (E : Env) (me : Nat) (ops : Array Oper) (draw : Bool) (k : Nat) : RI :=
  let new := ops.any fun o => Zbr E me o.op
  ⟨ops.size, if new then ops.size else 0, [], Zzs ops (if draw && new then some (Ztv ops.toList) else none) 0 (ops.toList.take (k + 1))⟩

def comp (E : Env) (me : Nat) : Code → C
  | .skip => .skip
  | .label _ => .skip
  | .region id ops draw => match riOf E me id ops draw with
    | some ri => .reg ri
    | none => match exOf E me ops with
      | some k => match Zvm E me ops k with
        | some (_, t, a, d) => .seq (.chk (Zwk E me ops true k) t (.tmp a) d) (.reg (Zvs E me id ops true))
        | none => .Z
      | none => if draw && Z5g E me ops then .seq (.chf (Zwk E me ops true (ops.size - 1)) (Zag2 E me ops)) (.reg (Zvs E me id ops true)) else .Z
  | .seq a b => .seq (comp E me a) (comp E me b)
  | .cond c a b => .cond c (comp E me a) (comp E me b)
  | .block id b => .block id (comp E me b)
  | .loop b => .loop (comp E me b)
  | .exit id => .exit id
  | .ret => .ret
  | _ => .Z

def Z14 (E : Env) (me : Nat) (ρ : Operand → SV) (op : Op) : Option (Nat × List SV) :=
  Zd8 E me ρ ⟨none, op, 0, "", #[], none⟩

def Zqy (E : Env) (pc : PC) (a : Nat) (ρ : Operand → SV) (get : Nat → Option (List SV)) (op : Op) : Option (SV × List (Nat × Option (List SV))) :=
  act E pc a ρ get ⟨none, op, 0, "", #[], none⟩

def Z3n (i : Ins) (tmps : List SV) : Option Bool :=
  match i.guard with
  | none => some true
  | some (d, want) => match d with
    | some t => match tmps[t]? with
      | some (.bool b) => some (b == want)
      | some .Z => none
      | _ => some false
    | none => some false

def Zot (M : Mem) (n0 sz : Nat) : Option (List Nat) → Nat → Option (List SV)
  | none => M.blk
  | some l => fun id => if decide (id < n0) || decide (n0 + sz ≤ id) || l.contains (id - n0) then M.blk id else none

def exI (E : Env) (me : Nat) (pc : PC) (ic : IC) (n0 sz k : Nat) (i : Ins) (s : St) : Option St :=
  match Z3n i s.tmps with
  | none => none
  | some false => some ⟨Zlt s.tmps i.dst (.tup []), s.mem⟩
  | some true =>
    match Z14 E me (evO E s.tmps) i.op with
    | some (f, args) => match ic f args s.mem with
      | some (v, M) => some ⟨Zlt s.tmps i.dst v, M⟩
      | none => none
    | none =>
      match Zqy E pc (n0 + k) (evO E s.tmps) (Zot s.mem n0 sz i.lim) i.op with
      | some (v, u) => some ⟨Zlt s.tmps i.dst v, s.mem.sets u⟩
      | none => none

def exL (E : Env) (me : Nat) (pc : PC) (ic : IC) (n0 sz : Nat) : Nat → List Ins → St → Option St
  | _, [], s => some s
  | k, i :: r, s => match exI E me pc ic n0 sz k i s with
    | some s' => exL E me pc ic n0 sz (k + 1) r s'
    | none => none

/-- What is not needed any more is not known any more. -/
def forget : List Nat → List SV → List SV
  | [], T => T
  | d :: r, T => forget r (T.set d .Z)

def Z1h (E : Env) (me : Nat) (pc : PC) (ic : IC) (ri : RI) (s : St) : Option St :=
  match exL E me pc ic s.mem.next ri.size 0 ri.ops ⟨s.tmps, ⟨s.mem.blk, s.mem.next + ri.adv⟩⟩ with
  | some s' => some ⟨forget ri.dead s'.tmps, s'.mem⟩
  | none => none

mutual
/-- Are two trees the same? -/
def Zx8 : SV → SV → Bool
  | .bool a, .bool b => a == b
  | .int k n, .int k' n' => decide (k = k') && n == n'
  | .str s, .str s' => decide (s = s')
  | .nilp, .nilp => true
  | .ptr a b c, .ptr a' b' c' => a == a' && b == b' && c == c'
  | .rptr l i o s, .rptr l' i' o' s' => Z10 l l' && i == i' && o == o' && s == s'
  | .nilsl, .nilsl => true
  | .sl l t, .sl l' t' => Z10 l l' && decide (t = t')
  | .own a b c d, .own a' b' c' d' => a == a' && b == b' && c == c' && d == d'
  | .nilf, .nilf => true
  | .iface t v, .iface t' v' => t == t' && Zx8 v v'
  | .nili, .nili => true
  | .agg l, .agg l' => Z10 l l'
  | _, _ => false
def Z10 : List SV → List SV → Bool
  | [], [] => true
  | a :: l, b :: m => Zx8 a b && Z10 l m
  | _, _ => false
end

/-- A place that was there. -/
def oldS (M : Mem) : SV → Bool
  | .ptr id _ _ => decide (id < M.next)
  | .rptr .. => true
  | _ => false

/-- Does it hold? 'M': memory as it was ahead of the region. -/
def Z2y (E : Env) (M : Mem) (T : List SV) : FP → Bool
  | .ld a ai => Zalc (evO E T (.tmp a)) (evO E T (.tmp ai))
  | .cl xs => xs.all fun x => np Zar (evO E T x)
  | .ll t a d => oldS M (evO E T (.tmp a)) && (match Zn E.P M.blk t (evO E T (.tmp a)) with | some v => Zx8 v (evO E T (.tmp d)) | none => false)

/-! ### Code -/

def evC (E : Env) (reg : RI → St → Option St) : Nat → C → St → Option (Ex × St)
  | 0, _, _ => none
  | n + 1, c, s =>
    match c with
    | .skip => some (.normal, s)
    | .reg ri => match reg ri s with
      | some s' => some (.normal, s')
      | none => none
    | .chk pre t x d => match reg pre s with
      | some s1 => match Zn E.P s1.mem.blk t (evO E s1.tmps x) with
        | some v => if Zna v (s1.tmps.getD d .Z) then some (.normal, s) else none
        | none => none
      | none => none
    | .chf pre ps => match reg pre s with
      | some s1 => if ps.all (Z2y E s.mem s1.tmps) then some (.normal, s) else none
      | none => none
    | .seq a b => match evC E reg n a s with
      | some (.normal, s') => evC E reg n b s'
      | r => r
    | .cond c a b => match evO E s.tmps c with
      | .bool t => evC E reg n (if t then a else b) s
      | _ => none
    | .block id b => match evC E reg n b s with
      | some (.exit id', s') => if id' = id then some (.normal, s') else some (.exit id', s')
      | r => r
    | .loop b => match evC E reg n b s with
      | some (.normal, s') => evC E reg n (.loop b) s'
      | r => r
    | .exit id => some (.exit id, s)
    | .ret => some (.ret, s)
    | .Z => none

def Z5 (E : Env) (s : St) : List ResultVar → Option (List SV)
  | [] => some []
  | .tmp t :: r => match Z5 E s r with
    | some l => some (s.tmps.getD t (.tup []) :: l)
    | none => none
  | .cell a t :: r => match Zn E.P s.mem.blk t (s.tmps.getD a (.tup [])), Z5 E s r with
    | some v, some l => some (v :: l)
    | _, _ => none

/-- A call in memory of its own: what it hands back must be a plain tree. -/
def Zzd (ic : IC) : PC := fun f args =>
  match ic f args .empty with
  | some (v, M) => match pic M.blk true Zar v with
    | some v' => if pv v' then some v' else none
    | none => none
  | none => none

/-- A call in the caller's memory, so deep. -/
def Zju (E : Env) : Nat → IC
  | 0, _, _, _ => none
  | n + 1, f, args, M =>
    match E.prim f with
    | some p => p args M
    | none =>
      match E.P.funcs[f]? with
      | none => none
      | some fn =>
        match fn.body with
        | none => none
        | some c =>
          if fn.name = "runtime.NumGoroutine" then none else
          match evC E (Z1h E f (Zzd (Zju E n)) (Zju E n)) (n + 1) (comp E f c) ⟨args ++ List.replicate (fn.ntmps - args.length) .Z, M⟩ with
          | some (.normal, s) | some (.ret, s) => match Z5 E s fn.results.toList with
            | some [v] => some (v, s.mem)
            | some vs => some (.tup vs, s.mem)
            | none => none
          | _ => none

end Go.Proofs.YtfphjfbknphhjaaGreatDoor.Sh

/-
  The shadow interpreter, text 2: how trees and the model's values stand to one another, and that this lasts. No condition.
-/
set_option linter.unusedVariables false
set_option linter.unusedSimpArgs false
namespace Go.Proofs.YtfphjfbknphhjaaGreatDoor.Sh

/-- What is known of the model's memory: cells that never turn, blocks that were there when the call began, which block is which, how many cells of a new block are done. -/
structure Gh where
  perm : Nat → Nat → Prop
  base : Nat
  own : Nat → Option Nat
  esz : Nat → Nat
  hw : Nat → Nat
  sent : Nat → Option Value

def Gh.stab (g : Gh) (b o : Nat) : Prop := g.perm b o ∨ o < g.hw b
def Gh.now (g : Gh) (b o : Nat) : Prop := b < g.base ∨ o < g.hw b
def Gh.sees (g : Gh) (st : Bool) (b o : Nat) : Prop := if st then g.stab b o else g.now b o

def Tl.st : Tl → Bool
  | .snap => false
  | _ => true

inductive VR (g : Gh) (w : World) : SV → Value → Prop
  | bool (b : Bool) : VR g w (.bool b) (.bool b)
  | int (k : IntKind) (n : Int) : VR g w (.int k n) (.int k n)
  | str (s : ByteArray) : VR g w (.str s) (.string s)
  | nilp : VR g w .nilp (.pointer none)
  | ptr (id i o b : Nat) (h : g.own id = some b) : VR g w (.ptr id i o) (.pointer (some ⟨b, i * g.esz id + o, none⟩))
  | rptr (items : List SV) (i o : Nat) (st : Bool) (b start esz : Nat) (rv : Nat → Value)
      (hu : ∀ x ∈ items, x.cells.length = esz)
      (hc : ∀ (k : Nat) (c : SV), (flat items)[k]? = some c → c.one = true ∧ g.sees st b (start + k) ∧ w.cell? ⟨b, start + k, none⟩ = some (rv k))
      (hr : ∀ (k : Nat) (c : SV), (flat items)[k]? = some c → VR g w c (rv k)) :
      VR g w (.rptr items i o st) (.pointer (some ⟨b, start + i * esz + o, none⟩))
  | nilsl : VR g w .nilsl (.slice none 0 0)
  | sl (items : List SV) (tl : Tl) (b start cap esz : Nat) (rv : Nat → Value)
      (hu : ∀ x ∈ items, x.cells.length = esz)
      (hc : ∀ (k : Nat) (c : SV), (flat items)[k]? = some c → c.one = true ∧ g.sees tl.st b (start + k) ∧ w.cell? ⟨b, start + k, none⟩ = some (rv k))
      (hr : ∀ (k : Nat) (c : SV), (flat items)[k]? = some c → VR g w c (rv k))
      (hcap : items.length ≤ cap) (hfull : tl = .full → cap = items.length) :
      VR g w (.sl items tl) (.slice (some ⟨b, start, none⟩) items.length cap)
  | sle (tl : Tl) (a : Addr) (cap : Nat) (hfull : tl = .full → cap = 0) : VR g w (.sl [] tl) (.slice (some a) 0 cap)
  | own (id esz i len b cap : Nat) (h : g.own id = some b) (he : g.esz id = esz) (hl : len ≤ cap)
      (hs : ∃ (c : Array Value) (e : TypeId), w.heap[b]? = some (Obj.cells c e (0, 0)) ∧ (i + cap) * esz ≤ c.size) :
      VR g w (.own id esz i len) (.slice (some ⟨b, i * esz, none⟩) len cap)
  | fn (f : Nat) (a c : List SV) (a' c' : Array Value) (ha : a.length = a'.size) (hc : c.length = c'.size)
      (hra : ∀ (k : Nat) (x : SV) (v : Value), a[k]? = some x → a'[k]? = some v → VR g w x v)
      (hrc : ∀ (k : Nat) (x : SV) (v : Value), c[k]? = some x → c'[k]? = some v → VR g w x v) :
      VR g w (.fn f a c) (.func (.func f) a' c')
  | nilf : VR g w .nilf .nilFunc
  | iface (t : Nat) (s : SV) (v : Value) (hx : ∀ u, g.sent t = some u → v = u) (h : VR g w s v) : VR g w (.iface t s) (.iface t v)
  | nili : VR g w .nili .nilIface
  | agg (cs : List SV) (vs : Array Value) (hl : cs.length = vs.size) (ho : ∀ c ∈ cs, c.one = true)
      (hr : ∀ (k : Nat) (x : SV) (v : Value), cs[k]? = some x → vs[k]? = some v → VR g w x v) : VR g w (.agg cs) (.agg vs)
  | tup (cs : List SV) (vs : Array Value) (hl : cs.length = vs.size)
      (hr : ∀ (k : Nat) (x : SV) (v : Value), cs[k]? = some x → vs[k]? = some v → VR g w x v) : VR g w (.tup cs) (.tuple vs)
  | Z (v : Value) : VR g w .Z v

/-- Memory goes on: what is done stays. -/
structure Evo (g : Gh) (w : World) (g' : Gh) (w' : World) : Prop where
  perm : g'.perm = g.perm
  base : g'.base = g.base
  sent : g'.sent = g.sent
  own : ∀ id b, g.own id = some b → g'.own id = some b ∧ g'.esz id = g.esz id
  hw : ∀ b, g.hw b ≤ g'.hw b
  cell : ∀ b o v, g.now b o → w.cell? ⟨b, o, none⟩ = some v → w'.cell? ⟨b, o, none⟩ = some v
  size : ∀ (b : Nat) (c : Array Value) (e : TypeId) (fr : Nat × Nat), w.heap[b]? = some (Obj.cells c e fr) → ∃ c' : Array Value, w'.heap[b]? = some (Obj.cells c' e fr) ∧ c'.size = c.size
  below : RowKit.Below g.base w w'

theorem Evo.refl (g : Gh) (w : World) : Evo g w g w :=
  ⟨rfl, rfl, rfl, fun _ _ h => ⟨h, rfl⟩, fun _ => Nat.le_refl _, fun _ _ _ _ h => h, fun _ c _ _ h => ⟨c, h, rfl⟩, .refl _ _⟩

theorem Gh.Zaf9 {g g' : Gh} {w w' : World} (e : Evo g w g' w') {b o : Nat} (h : g.now b o) : g'.now b o := by
  rcases h with h | h
  · exact .inl (by rw [e.base]; exact h)
  · exact .inr (Nat.lt_of_lt_of_le h (e.hw b))

theorem Gh.Zamw {g g' : Gh} {w w' : World} (e : Evo g w g' w') {b o : Nat} (h : g.stab b o) : g'.stab b o := by
  rcases h with h | h
  · exact .inl (by rw [e.perm]; exact h)
  · exact .inr (Nat.lt_of_lt_of_le h (e.hw b))

theorem Gh.Z9p {g g' : Gh} {w w' : World} (e : Evo g w g' w') {st : Bool} {b o : Nat} (h : g.sees st b o) : g'.sees st b o := by
  cases st
  · exact Gh.Zaf9 e h
  · exact Gh.Zamw e h

theorem Evo.trans {g g' g'' : Gh} {w w' w'' : World} (e : Evo g w g' w') (f : Evo g' w' g'' w'') : Evo g w g'' w'' where
  perm := f.perm.trans e.perm
  base := f.base.trans e.base
  sent := f.sent.trans e.sent
  own := fun id b h => ⟨(f.own id b (e.own id b h).1).1, ((f.own id b (e.own id b h).1).2).trans (e.own id b h).2⟩
  hw := fun b => Nat.le_trans (e.hw b) (f.hw b)
  cell := fun b o v hn h => f.cell b o v (Gh.Zaf9 e hn) (e.cell b o v hn h)
  size := fun b c t fr h => by
    obtain ⟨c1, h1, s1⟩ := e.size b c t fr h
    obtain ⟨c2, h2, s2⟩ := f.size b c1 t fr h1
    exact ⟨c2, h2, s2.trans s1⟩
  below := e.below.trans (e.base ▸ f.below)

/-- What never turns does not turn now. -/
def Gh.Good (g : Gh) : Prop := ∀ b o, g.perm b o → b < g.base

theorem Gh.Z66 {g : Gh} (hg : g.Good) {st : Bool} {b o : Nat} (h : g.sees st b o) : g.now b o := by
  cases st
  · exact h
  · rcases h with h | h
    · exact .inl (hg b o h)
    · exact .inr h

theorem VR.mono {g g' : Gh} {w w' : World} (hg : g.Good) (e : Evo g w g' w') {s : SV} {v : Value} (h : VR g w s v) : VR g' w' s v := by
  induction h with
  | bool b => exact .bool b
  | int k n => exact .int k n
  | str s => exact .str s
  | nilp => exact .nilp
  | ptr id i o b h =>
    rw [← (e.own id b h).2]
    exact .ptr id i o b (e.own id b h).1
  | rptr items i o st b start esz rv hu hc hr ih =>
    exact .rptr items i o st b start esz rv hu (fun k c hk => ⟨(hc k c hk).1, Gh.Z9p e (hc k c hk).2.1, e.cell _ _ _ (Gh.Z66 hg (hc k c hk).2.1) (hc k c hk).2.2⟩) ih
  | nilsl => exact .nilsl
  | sl items tl b start cap esz rv hu hc hr hcap hfull ih =>
    exact .sl items tl b start cap esz rv hu (fun k c hk => ⟨(hc k c hk).1, Gh.Z9p e (hc k c hk).2.1, e.cell _ _ _ (Gh.Z66 hg (hc k c hk).2.1) (hc k c hk).2.2⟩) ih hcap hfull
  | sle tl a cap hfull => exact .sle tl a cap hfull
  | own id esz i len b cap h he hl hs =>
    obtain ⟨c, t, hb, hsz⟩ := hs
    obtain ⟨c', hb', hsz'⟩ := e.size b c t _ hb
    exact .own id esz i len b cap (e.own id b h).1 ((e.own id b h).2.trans he) hl ⟨c', t, hb', by rw [hsz']; exact hsz⟩
  | fn f a c a' c' ha hc hra hrc iha ihc => exact .fn f a c a' c' ha hc iha ihc
  | nilf => exact .nilf
  | iface t s v hx h ih => exact .iface t s v (by rw [e.sent]; exact hx) ih
  | nili => exact .nili
  | agg cs vs hl ho hr ih => exact .agg cs vs hl ho ih
  | tup cs vs hl hr ih => exact .tup cs vs hl ih
  | Z v => exact .Z v

/-- Lists, place by place. -/
def VRs (g : Gh) (w : World) (cs : List SV) (vs : Array Value) : Prop :=
  cs.length = vs.size ∧ ∀ (k : Nat) (x : SV) (v : Value), cs[k]? = some x → vs[k]? = some v → VR g w x v

theorem VRs.mono {g g' : Gh} {w w' : World} (hg : g.Good) (e : Evo g w g' w') {cs : List SV} {vs : Array Value} (h : VRs g w cs vs) : VRs g' w' cs vs :=
  ⟨h.1, fun k x v hx hv => (h.2 k x v hx hv).mono hg e⟩

/-- What package variables hold to the sign. -/
def RawG (E : Env) (g : Gh) (w : World) : Prop := ∀ n v, E.raw n = some v → n < g.base ∧ w.cell? ⟨n, 0, none⟩ = some v

theorem RawG.mono {E : Env} {g g' : Gh} {w w' : World} (e : Evo g w g' w') (h : RawG E g w) : RawG E g' w' := fun n v hv =>
  ⟨by rw [e.base]; exact (h n v hv).1, e.cell _ _ _ (.inl (h n v hv).1) (h n v hv).2⟩

/-- Types whose values in an interface are one value alone. -/
def Zam0 (E : Env) (g : Gh) : Prop := ∀ t, (E.sent t = false → g.sent t = none) ∧ (E.sent t = true → ∃ a : Addr, g.sent t = some (.pointer (some a)))

theorem Zam0.mono {E : Env} {g g' : Gh} {w w' : World} (e : Evo g w g' w') (h : Zam0 E g) : Zam0 E g' := fun t => by rw [e.sent]; exact h t

/-- The shadow's memory and the model's. 'fr': numbers of blocks that are not taken yet. -/
structure MR (E : Env) (g : Gh) (w : World) (M : Mem) (fr : Nat → Prop) : Prop where
  good : g.Good
  base : g.base ≤ w.heap.size
  blk : ∀ (id : Nat) (items : List SV), M.blk id = some items → ∃ (b : Nat) (c : Array Value) (e : TypeId), g.own id = some b ∧ g.base ≤ b ∧ g.hw b = 0 ∧ (∀ x ∈ items, x.cells.length = g.esz id) ∧
    w.heap[b]? = some (Obj.cells c e (0, 0)) ∧ ∀ (k : Nat) (x : SV), (flat items)[k]? = some x → x.one = true ∧ ∃ v, c[k]? = some v ∧ VR g w x v
  inj : ∀ id id' b, (M.blk id).isSome = true → (M.blk id').isSome = true → g.own id = some b → g.own id' = some b → id = id'
  fresh : ∀ id, fr id → g.own id = none
  hwb : ∀ b, 0 < g.hw b → g.base ≤ b ∧ b < w.heap.size
  lt : ∀ id b, g.own id = some b → b < w.heap.size
  glob : ∀ n items, E.G n = some items → VR g w (.rptr items 0 0 true) (.pointer (some ⟨n, 0, none⟩))
  plain : ∀ n items, E.G n = some items → pvs items = true
  raw : RawG E g w
  sent : Zam0 E g

theorem cell?_cells {w : World} {b o : Nat} {c : Array Value} {e : TypeId} {fr : Nat × Nat} (h : w.heap[b]? = some (Obj.cells c e fr)) : w.cell? ⟨b, o, none⟩ = c[o]? := by
  simp [World.cell?, h]

theorem cells_of_cell? {w : World} {b o : Nat} {v : Value} (h : w.cell? ⟨b, o, none⟩ = some v) : ∃ (c : Array Value) (e : TypeId) (fr : Nat × Nat), w.heap[b]? = some (Obj.cells c e fr) ∧ c[o]? = some v := by
  unfold World.cell? at h
  split at h
  · rename_i c e fr hb
    exact ⟨c, e, fr, hb, by simpa using h⟩
  · cases h

theorem lt_of_cell? {w : World} {b o : Nat} {v : Value} (h : w.cell? ⟨b, o, none⟩ = some v) : b < w.heap.size := by
  obtain ⟨c, e, fr, hb, _⟩ := cells_of_cell? h
  exact (Array.getElem?_eq_some_iff.1 hb).1

/-- MR with fewer free numbers. -/
theorem MR.weaken {E : Env} {g : Gh} {w : World} {M : Mem} {fr fr' : Nat → Prop} (h : MR E g w M fr) (hf : ∀ id, fr' id → fr id) : MR E g w M fr' :=
  { h with fresh := fun id hid => h.fresh id (hf id hid) }

/-- MR over the same memory, the model's gone on where nothing of it lies. -/
theorem MR.of_next {E : Env} {g : Gh} {w : World} {M : Mem} {fr : Nat → Prop} (n : Nat) (h : MR E g w M fr) : MR E g w ⟨M.blk, n⟩ fr :=
  { h with blk := h.blk, inj := h.inj }

/-! ### Lists laid flat -/

theorem Zpi (xs ys : List SV) : flat (xs ++ ys) = flat xs ++ flat ys := by simp [flat]
theorem Zlq (x : SV) (xs : List SV) : flat (x :: xs) = x.cells ++ flat xs := by simp [flat]

theorem flat_length {n : Nat} : ∀ {xs : List SV}, (∀ x ∈ xs, x.cells.length = n) → (flat xs).length = xs.length * n
  | [], _ => by simp [flat]
  | x :: xs, h => by
    rw [Zlq, List.length_append, h x (by simp), flat_length (fun y hy => h y (by simp [hy])), List.length_cons, Nat.add_mul]
    omega

theorem flat_get {n : Nat} : ∀ {xs : List SV} (i o : Nat) (x : SV), (∀ x ∈ xs, x.cells.length = n) → xs[i]? = some x → o < n → (flat xs)[i * n + o]? = x.cells[o]?
  | [], i, o, x, _, h, _ => by simp at h
  | y :: ys, 0, o, x, hu, h, ho => by
    simp at h
    subst h
    rw [Zlq, Nat.zero_mul, Nat.zero_add, List.getElem?_append_left (by rw [hu y (by simp)]; exact ho)]
  | y :: ys, i + 1, o, x, hu, h, ho => by
    have hl := hu y (by simp)
    rw [Zlq, List.getElem?_append_right (by rw [hl, Nat.add_mul]; omega), hl]
    have : (i + 1) * n + o - n = i * n + o := by rw [Nat.add_mul]; omega
    rw [this]
    exact flat_get i o x (fun z hz => hu z (by simp [hz])) (by simpa using h) ho

theorem Zqq {n : Nat} {xs : List SV} : Zv5 n xs = true ↔ ∀ x ∈ xs, x.cells.length = n := by
  simp [Zv5]

theorem Zqe {n : Nat} : ∀ {xs : List SV} (l : Nat), (∀ x ∈ xs, x.cells.length = n) → flat (xs.drop l) = (flat xs).drop (l * n)
  | xs, 0, _ => by simp
  | [], l + 1, _ => by simp [flat]
  | y :: ys, l + 1, hu => by
    have hl := hu y (by simp)
    rw [List.drop_succ_cons, Zlq, Zqe l (fun z hz => hu z (by simp [hz]))]
    have hd : List.drop (n + l * n) y.cells = [] := List.drop_eq_nil_of_le (by omega)
    have hn : n + l * n - y.cells.length = l * n := by omega
    rw [Nat.add_mul, Nat.one_mul, Nat.add_comm (l * n) n, List.drop_append, hd, hn, List.nil_append]

theorem Zmt {n : Nat} : ∀ {xs : List SV} (l : Nat), (∀ x ∈ xs, x.cells.length = n) → flat (xs.take l) = (flat xs).take (l * n)
  | xs, 0, _ => by simp [flat]
  | [], l + 1, _ => by simp [flat]
  | y :: ys, l + 1, hu => by
    have hl := hu y (by simp)
    rw [List.take_succ_cons, Zlq, Zlq, Zmt l (fun z hz => hu z (by simp [hz]))]
    have hd : List.take (n + l * n) y.cells = y.cells := List.take_of_length_le (by omega)
    have hn : n + l * n - y.cells.length = l * n := by omega
    rw [Nat.add_mul, Nat.one_mul, Nat.add_comm (l * n) n, List.take_append, hd, hn]

/-! ### Values -/

/-- The model's cells of a value. -/
theorem VR.cells {g : Gh} {w : World} {s : SV} {v : Value} (h : VR g w s v) (hs : s.sto = true) : VRs g w s.cells v.cells ∧ ∀ c ∈ s.cells, c.one = true := by
  cases h with
  | agg cs vs hl ho hr => exact ⟨⟨hl, hr⟩, ho⟩
  | tup cs vs hl hr => simp [SV.sto] at hs
  | Z v => simp [SV.sto] at hs
  | _ =>
    refine ⟨⟨by simp [SV.cells, Value.cells], fun k x u hx hu => ?_⟩, by simp [SV.cells, SV.one]⟩
    simp only [SV.cells, Value.cells] at hx hu
    cases k with
    | succ k => simp at hx
    | zero =>
      simp at hx hu
      subst hx
      subst hu
      constructor <;> assumption

theorem VR.oneCell {g : Gh} {w : World} {s : SV} {v : Value} (h : VR g w s v) (hs : s.one = true) : v.oneCell' = true := by
  cases h <;> simp_all [SV.one, Value.oneCell']

theorem cells_one {s : SV} (h : s.one = true) : s.cells = [s] := by
  cases s <;> simp_all [SV.one, SV.cells]

theorem VR.cells_one {g : Gh} {w : World} {s : SV} {v : Value} (h : VR g w s v) (hs : s.one = true) : v.cells = #[v] := by
  cases h <;> simp_all [SV.one, Value.cells]

theorem VR.Zw8 (g : Gh) (w : World) (v : Value) : VR g w (Zw8 v) v := by
  unfold Sh.Zw8
  split <;> constructor

end Go.Proofs.YtfphjfbknphhjaaGreatDoor.Sh

/-
  The shadow interpreter, text 3: operations that make a value out of values. No condition.
-/
set_option linter.unusedVariables false
set_option linter.unusedSimpArgs false
namespace Go.Proofs.YtfphjfbknphhjaaGreatDoor.Sh
variable {E : Env} {P : Program} {g : Gh} {w : World}

theorem VR.Zuf (g : Gh) (w : World) (v : Value) : VR g w (Sh.Zuf v) v := by
  unfold Sh.Zuf
  split
  · rename_i cs
    split
    · rename_i h
      refine .agg _ _ (by simp) (fun c hc => List.all_eq_true.1 h c hc) (fun k x v hx hv => ?_)
      simp only [List.getElem?_map, Array.getElem?_toList, hv, Option.map_some, Option.some.injEq] at hx
      subst hx
      exact VR.Zw8 g w v
    · exact .Z _
  · rename_i vs
    split
    · rename_i h
      exact .tup _ _ (by simp [h]) (fun k x v hx _ => by simp at hx)
    · exact .Z _
  · exact VR.Zw8 g w _

/-- What an operand holds. -/
theorem Z7e {a : Act} {tmps : List SV} (hg : ∀ n items, E.G n = some items → VR g w (.rptr items 0 0 true) (.pointer (some ⟨n, 0, none⟩)))
    (ht : VRs g w tmps a.tmps) (x : Operand) : VR g w (evO E tmps x) (a.eval x) := by
  cases x with
  | tmp t =>
    simp only [evO, Act.eval]
    by_cases hlt : t < tmps.length
    · have hlt' : t < a.tmps.size := ht.1 ▸ hlt
      refine ht.2 t _ _ ?_ ?_
      · simp [List.getD, List.getElem?_eq_getElem hlt]
      · simp [Array.getD, hlt']
    · have hge : a.tmps.size ≤ t := ht.1 ▸ Nat.le_of_not_lt hlt
      simp only [List.getD, List.getElem?_eq_none (Nat.le_of_not_lt hlt), Option.getD_none, Array.getD, Nat.not_lt.2 hge, dif_neg, not_false_eq_true, undef]
      exact .tup _ _ rfl (fun k x v hx _ => by simp at hx)
  | const v => exact VR.Zuf g w v
  | global n =>
    simp only [evO, Act.eval]
    split
    · rename_i items h
      exact hg n items h
    · exact .Z _
  | func f => exact .fn f [] [] #[] #[] rfl rfl (fun k x v hx _ => by simp at hx) (fun k x v hx _ => by simp at hx)

theorem Zu7 {s : Sem Value} {r : SV} (h : Z2o s = some r) : ∃ v, s = .pure v ∧ ∀ g w, VR g w r v := by
  unfold Z2o at h
  split at h <;> simp at h <;> subst h <;> exact ⟨_, rfl, fun _ _ => by constructor⟩

theorem Zba {t : Nat} {ti : TI} (h : Zbz P t = some ti) : ∃ d i, P.underlying t = some d ∧ P.info? t = some i ∧ ti = ⟨Zxi d, i.size, i.bytes, i.zero.map Sh.Zuf⟩ := by
  unfold Zbz at h
  split at h
  · rename_i d i hd hi
    exact ⟨d, i, hd, hi, by simpa using h.symm⟩
  · simp at h

theorem Zaku {d : TypeDesc} (h : Zxi d = .bool) : d = .bool := by cases d <;> simp_all [Zxi]
theorem Z1i {d : TypeDesc} {k : IntKind} (h : Zxi d = .int k) : d = .int k := by cases d <;> simp_all [Zxi]
theorem Zvq {d : TypeDesc} (h : Zxi d = .str) : d = .string := by cases d <;> simp_all [Zxi]
theorem Zav6 {d : TypeDesc} (h : Zxi d = .ptr) : ∃ e, d = .pointer e := by cases d <;> simp_all [Zxi]
theorem Zgg {d : TypeDesc} {e : Nat} (h : Zxi d = .slice e) : d = .slice e := by cases d <;> simp_all [Zxi]
theorem Zanv {d : TypeDesc} {n e : Nat} (h : Zxi d = .arr n e) : d = .array n e := by cases d <;> simp_all [Zxi]
theorem Zve {d : TypeDesc} {fs : List (Nat × Nat)} (h : Zxi d = .struct fs) : ∃ fa : Array Field, d = .struct fa ∧ fs = fa.toList.map fun f => (f.type, f.offset) := by
  cases d <;> simp_all [Zxi]
theorem Zagg {d : TypeDesc} (h : Zxi d = .iface) : ∃ ms, d = .interface ms := by cases d <;> simp_all [Zxi]
theorem Zas1 {d : TypeDesc} (h : Zxi d = .func) : ∃ a b c, d = .func a b c := by cases d <;> simp_all [Zxi]

theorem run_typeInfo {t : TypeId} {i : TypeInfo} (h : P.info? t = some i) (w : World) : (typeInfo t).run P w = .ok i w := by
  simp [typeInfo, h]
theorem Zce {t : TypeId} {i : TypeInfo} (h : P.info? t = some i) (w : World) : (sizeOf t).run P w = .ok i.size w := by
  simp [sizeOf, run_typeInfo h]
theorem Zrb {t : TypeId} {d : TypeDesc} (h : P.underlying t = some d) (w : World) : (isAgg t).run P w = .ok (Zxi d).agg w := by
  cases d <;> simp [isAgg, run_underlying h, Zxi, TK.agg]

/-- The model's value of an SV that is a whole number, a bool .. -/
theorem VR.Znp {k : IntKind} {n : Int} {v : Value} (h : VR g w (.int k n) v) : v = .int k n := by cases h; rfl
theorem VR.Zrv {b : Bool} {v : Value} (h : VR g w (.bool b) v) : v = .bool b := by cases h; rfl
theorem VR.Zuj {b : ByteArray} {v : Value} (h : VR g w (.str b) v) : v = .string b := by cases h; rfl

theorem Zo6 {op : BinOp} {t : TypeId} {x y : Operand} {a b : Value} (h1 : ∀ cs, a ≠ .agg cs) (h2 : a ≠ .nilIface ∨ b ≠ .nilIface) :
    (eqGuard op t x y a b).run P w = .ok () w := by
  cases op
  all_goals first
    | rfl
    | (unfold eqGuard
       dsimp only
       simp only [Bool.not_true, Bool.false_eq_true, if_false]
       split
       · simp at h2
       · rename_i cs _; exact absurd rfl (h1 cs)
       · rfl)

theorem Zaen {op : BinOp} {t : TypeId} {x y : Operand} {a b : Array Value} (h : P.eqGuardType P.depth t = false) :
    (eqGuard op t x y (.agg a) (.agg b)).run P w = .ok () w := by
  cases op
  all_goals first
    | rfl
    | (unfold eqGuard
       dsimp only
       simp only [Bool.not_true, Bool.false_eq_true, if_false]
       simp [h])

theorem Zadj {op : BinOp} {t : TypeId} {x y : Operand} (h : (Zl x || Zl y) = true) :
    (eqGuard op t x y .nilIface .nilIface).run P w = .ok () w := by
  cases op
  all_goals first
    | rfl
    | (unfold eqGuard
       dsimp only
       simp only [Bool.not_true, Bool.false_eq_true, if_false]
       cases x <;> cases y <;> simp [Zl] at h <;> rfl)

theorem Z4g {d : Nat} : ∀ (fs : List Field) (j : Nat) (xs ys : List SV) (xa ya : Array Value) (r : Bool),
    (∀ f ∈ fs, f.name ≠ "_") → ((fs.map fun f => (f.type, f.offset)).all fun f => match Zbz P f.1 with | some ⟨.int _, 1, _, _⟩ => true | _ => false) = true →
    Zalr j (fs.map fun f => (f.type, f.offset)) = true → xs.length = fs.length → ys.length = fs.length →
    (∀ (k : Nat) (x : SV), xs[k]? = some x → ∃ v, xa[j + k]? = some v ∧ VR g w x v) → (∀ (k : Nat) (x : SV), ys[k]? = some x → ∃ v, ya[j + k]? = some v ∧ VR g w x v) →
    Zxh xs ys = some r → (Op.eqFields (d + 1) xa ya fs).run P w = .ok r w
  | [], j, xs, ys, xa, ya, r, _, _, _, hx, hy, _, _, h => by
    obtain rfl := List.length_eq_zero_iff.1 hx
    obtain rfl := List.length_eq_zero_iff.1 hy
    simp [Zxh] at h
    subst h
    simp [Op.eqFields]
  | f :: fs, j, xs, ys, xa, ya, r, hn, hi, hr, hx, hy, h1, h2, h => by
    cases xs with
    | nil => simp at hx
    | cons x xs =>
    cases ys with
    | nil => simp at hy
    | cons y ys =>
    cases x <;> (try (simp [Zxh] at h; done))
    rename_i k a
    cases y <;> (try (simp [Zxh] at h; done))
    rename_i k' b
    simp only [Zxh] at h
    split at h
    · rename_i hk
      subst hk
      split at h
      · rename_i c hc
        simp only [Option.some.injEq] at h
        simp only [List.map_cons, List.all_cons, Bool.and_eq_true] at hi
        simp only [List.map_cons, Zalr, Bool.and_eq_true, beq_iff_eq] at hr
        obtain ⟨v, hv, hvr⟩ := h1 0 _ (by simp; rfl)
        obtain ⟨u, hu, hur⟩ := h2 0 _ (by simp; rfl)
        obtain rfl := hvr.Znp
        obtain rfl := hur.Znp
        have ih := Z4g (d := d) fs (j + 1) xs ys xa ya c (fun f hf => hn f (by simp [hf])) hi.2 hr.2 (by simpa using hx) (by simpa using hy)
          (fun k x hk => by have := h1 (k + 1) x (by simpa using hk); rwa [show j + (k + 1) = j + 1 + k by omega] at this)
          (fun k x hk => by have := h2 (k + 1) x (by simpa using hk); rwa [show j + (k + 1) = j + 1 + k by omega] at this) hc
        have hname : f.name ≠ "_" := hn f (by simp)
        have hti := hi.1
        split at hti
        · rename_i q bt z hq
          obtain ⟨d0, i0, hd0, hi0, he0⟩ := Zba hq
          simp only [TI.mk.injEq] at he0
          have hd1 := Z1i he0.1.symm
          subst hd1
          have hagg : (isAgg f.type).run P w = .ok false w := by rw [Zrb hd0]; rfl
          have hp1 : (part f.type xa f.offset).run P w = .ok (.int k a) w := by
            rw [hr.1]
            simp only [Nat.add_zero] at hv
            simp [part, hagg, hv]
          have hp2 : (part f.type ya f.offset).run P w = .ok (.int k b) w := by
            rw [hr.1]
            simp only [Nat.add_zero] at hu
            simp [part, hagg, hu]
          have he : (Op.equalIn (d + 1) f.type (.int k a) (.int k b)).run P w = .ok (a == b) w := run_equalIn_int w d _ k q a b hd0
          rw [Op.eqFields]
          simp only [if_pos hname, Sem.run_bind, hp1, hp2, he, Result.andThen_ok]
          subst h
          cases hab : (a == b)
          · simp
          · simpa using ih
        · simp at hti
      · simp at h
    · simp at h

theorem Zale {op : BinOp} {t : Nat} {cst : Bool} {xo yo : Operand} {x y : SV} {x' y' : Value} {b : Bool} (hx : VR g w x x') (hy : VR g w y y')
    (hc : cst = (Zl xo || Zl yo)) (h : eqS P t cst x y = some b) :
    (eqGuard op t xo yo x' y').run P w = .ok () w ∧ (Op.equal t x' y').run P w = .ok b w := by
  unfold eqS at h
  split at h
  · simp at h
  rename_i ti hti
  obtain ⟨d, i, hd, hi, rfl⟩ := Zba hti
  split at h
  all_goals first | (simp at h; done) | skip
  case h_1 a c hk =>
    obtain rfl := Zaku hk
    obtain rfl := hx.Zrv
    obtain rfl := hy.Zrv
    simp only [Option.some.injEq] at h
    subst h
    exact ⟨Zo6 (by simp) (by simp), run_equal_bool w t a c hd⟩
  case h_12 hk =>
    obtain ⟨ms, rfl⟩ := Zagg hk
    cases hx
    cases hy
    split at h
    · simp only [Option.some.injEq] at h
      subst h
      rename_i hcst
      constructor
      · exact Zadj (by rw [← hc]; exact hcst)
      · show (Op.equalIn (9999 + 1) t _ _).run P w = _
        generalize 9999 = dd
        simp [Op.equalIn, run_underlying hd]
    · simp at h
  case h_18 fs xs ys hk =>
    obtain ⟨fa, rfl, rfl⟩ := Zve hk
    split at h
    · rename_i hcond
      obtain ⟨h1, h2, h3, h4, h5, h6, h7⟩ := hcond
      cases hx with
      | agg _ xa hxl _ hxr =>
      cases hy with
      | agg _ ya hyl _ hyr =>
      have hf : P.fieldsOf t = fa := by simp [Program.fieldsOf, hd]
      constructor
      · exact Zaen h2
      · show (Op.equalIn (9998 + 1 + 1) t _ _).run P w = _
        rw [run_equalIn_struct (P := P) w _ t xa ya (by rw [hf]; exact hd) h1, hf]
        refine Z4g (g := g) (d := 9998) fa.toList 0 xs ys xa ya b ?_ h3 h4 (by simpa using h5) (by simpa using h6) ?_ ?_ h
        · unfold Zwf at h7
          rw [hd] at h7
          simp only [Array.all_eq_true_iff_forall_mem, bne_iff_ne, ne_eq] at h7
          intro f hf'
          exact h7 f (by simpa using hf')
        · intro k x hk'
          have hlt : k < xa.size := by
            have := (List.getElem?_eq_some_iff.1 hk').1
            omega
          exact ⟨xa[k], by simp [hlt], hxr k x _ hk' (by simp [hlt])⟩
        · intro k x hk'
          have hlt : k < ya.size := by
            have := (List.getElem?_eq_some_iff.1 hk').1
            omega
          exact ⟨ya[k], by simp [hlt], hyr k x _ hk' (by simp [hlt])⟩
    · simp at h
  all_goals
    rename_i hk
    first
      | (obtain rfl := Zgg hk)
      | (obtain ⟨e, rfl⟩ := Zav6 hk)
      | (obtain ⟨ms, rfl⟩ := Zagg hk)
      | (obtain ⟨q1, q2, q3, rfl⟩ := Zas1 hk)
    cases hx <;> cases hy <;>
      (simp only [Option.some.injEq] at h
       subst h
       refine ⟨Zo6 (by simp) (by simp), ?_⟩
       show (Op.equalIn (9999 + 1) t _ _).run P w = _
       generalize 9999 = dd
       simp [Op.equalIn, run_underlying hd])

theorem Zaqc {op : BinOp} {t : Nat} {cst : Bool} {xo yo : Operand} {x y : SV} {x' y' : Value} {r : SV} (hx : VR g w x x') (hy : VR g w y y')
    (hc : cst = (Zl xo || Zl yo)) (h : Zoq P op t cst x y = some r) :
    ∃ r', (eqGuard op t xo yo x' y').run P w = .ok () w ∧ (Go.binOp op t x' y').run P w = .ok r' w ∧ VR g w r r' := by
  unfold Zoq at h
  split at h
  · obtain rfl := hx.Znp
    obtain rfl := hy.Znp
    obtain ⟨v, hv, hr⟩ := Zu7 h
    exact ⟨v, Zo6 (by simp) (by simp), by rw [hv]; rfl, hr g w⟩
  · obtain rfl := hx.Zuj
    obtain rfl := hy.Zuj
    obtain ⟨v, hv, hr⟩ := Zu7 h
    exact ⟨v, Zo6 (by simp) (by simp), by rw [hv]; rfl, hr g w⟩
  · rename_i h1 h2
    split at h
    · split at h
      · rename_i b hb
        simp only [Option.some.injEq] at h
        subst h
        obtain ⟨hg, he⟩ := Zale (op := .eql) (xo := xo) (yo := yo) hx hy hc hb
        refine ⟨.bool b, hg, ?_, .bool b⟩
        have : (Go.binOp .eql t x' y') = (do pure (.bool (← Op.equal t x' y'))) := by
          unfold Go.binOp
          cases hx <;> cases hy <;> first | rfl | (exact absurd rfl (h1 _ _ _ _ rfl)) | (exact absurd rfl (h2 _ _ rfl)) | skip
          all_goals first | (exact (h1 _ _ _ _ rfl rfl).elim) | (exact (h2 _ _ rfl rfl).elim) | skip
          all_goals (simp [eqS] at hb; (repeat' split at hb) <;> simp_all)
        rw [this]
        simp [he]
      · simp at h
    · split at h
      · rename_i b hb
        simp only [Option.some.injEq] at h
        subst h
        obtain ⟨hg, he⟩ := Zale (op := .neq) (xo := xo) (yo := yo) hx hy hc hb
        refine ⟨.bool (!b), hg, ?_, .bool (!b)⟩
        have : (Go.binOp .neq t x' y') = (do pure (.bool (!(← Op.equal t x' y')))) := by
          unfold Go.binOp
          cases hx <;> cases hy <;> first | rfl | skip
          all_goals first | (exact (h1 _ _ _ _ rfl rfl).elim) | (exact (h2 _ _ rfl rfl).elim) | skip
          all_goals (simp [eqS] at hb; (repeat' split at hb) <;> simp_all)
        rw [this]
        simp [he]
      · simp at h
    · simp at h

theorem Zasj {op : UnOp} {x r : SV} {x' : Value} (hx : VR g w x x') (h : unS op x = some r) : ∃ r', (Op.unary op x').run P w = .ok r' w ∧ VR g w r r' := by
  unfold unS at h
  split at h
  · obtain rfl := hx.Znp
    obtain ⟨v, hv, hr⟩ := Zu7 h
    exact ⟨v, by rw [hv]; rfl, hr g w⟩
  · obtain rfl := hx.Zrv
    obtain ⟨v, hv, hr⟩ := Zu7 h
    exact ⟨v, by rw [hv]; rfl, hr g w⟩
  · simp at h

end Go.Proofs.YtfphjfbknphhjaaGreatDoor.Sh

/-
  The shadow interpreter, text 4: parts of values, places, slices, conversions, loads. No condition.
-/
set_option linter.unusedVariables false
set_option linter.unusedSimpArgs false
namespace Go.Proofs.YtfphjfbknphhjaaGreatDoor.Sh
variable {E : Env} {P : Program} {g : Gh} {w : World}

theorem Zmr (b o n : Nat) : (⟨b, o, none⟩ : Addr).add n = ⟨b, o + n, none⟩ := by
  unfold Addr.add
  split
  · rename_i h; simp [h]
  · rfl

theorem getElem?_extract' (vs : Array Value) (a b k : Nat) : (vs.extract a b)[k]? = if k < min b vs.size - a then vs[a + k]? else none := by
  rw [Array.getElem?_extract]

/-- A part of a struct or an array. -/
theorem Zabm {t : Nat} {ti : TI} {cs : List SV} {vs : Array Value} {o : Nat} {r : SV} (hti : Zbz P t = some ti) (hx : VR g w (.agg cs) (.agg vs))
    (h : Zo ti (.agg cs) o = some r) : ∃ r', (part t vs o).run P w = .ok r' w ∧ VR g w r r' := by
  obtain ⟨d, i, hd, hi, rfl⟩ := Zba hti
  cases hx with
  | agg _ _ hl ho hr =>
  unfold Zo at h
  split at h
  · rename_i ha
    have hA : (isAgg t).run P w = .ok true w := by rw [Zrb hd, ha]
    simp only [part, Sem.run_bind, hA, Result.andThen_ok, if_true, Zce hi]
    split at h
    · rename_i hc
      simp only [Option.some.injEq] at h
      subst h
      refine ⟨_, rfl, ?_⟩
      have h2 : i.size = cs.length := hc.2
      have : vs.extract o (o + i.size) = vs := by
        rw [hc.1, Nat.zero_add, h2, hl]
        simp
      rw [this]
      exact .agg cs vs hl ho hr
    · split at h
      · rename_i hle0
        have hle : o + i.size ≤ cs.length := hle0
        simp only [Option.some.injEq] at h
        subst h
        show ∃ r', _ ∧ VR g w (.agg ((cs.drop o).take i.size)) r'
        refine ⟨_, rfl, .agg _ _ ?_ ?_ ?_⟩
        · simp; omega
        · intro c hc
          exact ho c (List.mem_of_mem_drop (List.mem_of_mem_take hc))
        · intro k x v hk hv
          rw [getElem?_extract'] at hv
          split at hv
          · rename_i hlt
            refine hr (o + k) x v ?_ hv
            rw [List.getElem?_take] at hk
            split at hk
            · rwa [List.getElem?_drop] at hk
            · simp at hk
          · simp at hv
      · simp at h
  · rename_i ha
    have hA : (isAgg t).run P w = .ok false w := by rw [Zrb hd]; simp at ha; rw [ha]
    have hlt : o < vs.size := by
      have : o < cs.length := (List.getElem?_eq_some_iff.1 h).1
      omega
    have hv : vs[o]? = some vs[o] := by simp [hlt]
    exact ⟨vs[o], by simp [part, hA, hv], hr o r _ h hv⟩

/-- A load of a type's cells at a place within an item. -/
theorem Z06 {t : Nat} {ti : TI} {x : SV} {b A o : Nat} {r : SV} (hti : Zbz P t = some ti)
    (hx : ∀ (k : Nat) (c : SV), x.cells[k]? = some c → c.one = true ∧ ∃ v, w.cell? ⟨b, A + k, none⟩ = some v ∧ VR g w c v)
    (h : Zo ti x o = some r) : ∃ r', (loadVar t ⟨b, A + o, none⟩).run P w = .ok r' w ∧ VR g w r r' := by
  obtain ⟨d, i, hd, hi, rfl⟩ := Zba hti
  unfold Zo at h
  have key : ∀ (cs : List SV) (q : Nat), (∀ (k : Nat) (c : SV), cs[k]? = some c → c.one = true ∧ ∃ v, w.cell? ⟨b, q + k, none⟩ = some v ∧ VR g w c v) →
      ∃ vs : Array Value, (loadCells ⟨b, q, none⟩ cs.length).run P w = .ok vs w ∧ VR g w (.agg cs) (.agg vs) := by
    intro cs q hcs
    have hrun := run_loadCells (P := P) w ⟨b, q, none⟩ cs.length (fun j => (w.cell? ⟨b, q + j, none⟩).getD undef) (fun j hj => by
      obtain ⟨_, v, hv, _⟩ := hcs j cs[j] (by simp [hj])
      rw [Zmr, hv]; rfl)
    refine ⟨_, hrun, .agg _ _ (by simp) (fun c hc => ?_) (fun k c v hk hv => ?_)⟩
    · obtain ⟨k, hk⟩ := List.mem_iff_getElem?.1 hc
      exact (hcs k c hk).1
    · obtain ⟨_, u, hu, hr⟩ := hcs k c hk
      have hlt : k < cs.length := (List.getElem?_eq_some_iff.1 hk).1
      simp [hlt, hu] at hv
      subst hv
      exact hr
  split at h
  · rename_i ha
    have hA : (isAgg t).run P w = .ok true w := by rw [Zrb hd, ha]
    split at h
    · rename_i hc
      simp only [Option.some.injEq] at h
      subst h
      obtain ⟨vs, hrun, hr⟩ := key x.cells A hx
      refine ⟨.agg vs, ?_, hr⟩
      simp only [loadVar, Sem.run_bind, hA, Result.andThen_ok, if_true, Zce hi]
      have h1 : i.size = x.cells.length := hc.2
      rw [hc.1, Nat.add_zero, h1, hrun]
      rfl
    · split at h
      · rename_i hle
        simp only [Option.some.injEq] at h
        subst h
        have hlen : ((x.cells.drop o).take i.size).length = i.size := by
          simp only at hle
          simp; omega
        obtain ⟨vs, hrun, hr⟩ := key ((x.cells.drop o).take i.size) (A + o) (fun k c hk => by
          rw [List.getElem?_take] at hk
          split at hk
          · rw [List.getElem?_drop] at hk
            have := hx (o + k) c hk
            rwa [← Nat.add_assoc] at this
          · simp at hk)
        refine ⟨.agg vs, ?_, hr⟩
        simp only [loadVar, Sem.run_bind, hA, Result.andThen_ok, if_true, Zce hi]
        rw [hlen] at hrun
        rw [hrun]
        rfl
      · simp at h
  · rename_i ha
    have hA : (isAgg t).run P w = .ok false w := by rw [Zrb hd]; simp at ha; rw [ha]
    obtain ⟨_, v, hv, hr⟩ := hx o r h
    exact ⟨v, by simp [loadVar, hA, hv], hr⟩

/-- What lies at a pointer into what was told: an item's cells. -/
theorem Zaji {items : List SV} {b start esz : Nat} {rv : Nat → Value} {Q : Nat → Prop} (hu : ∀ x ∈ items, x.cells.length = esz)
    (hc : ∀ (k : Nat) (c : SV), (flat items)[k]? = some c → c.one = true ∧ Q (start + k) ∧ w.cell? ⟨b, start + k, none⟩ = some (rv k))
    (hr : ∀ (k : Nat) (c : SV), (flat items)[k]? = some c → VR g w c (rv k)) {i : Nat} {x : SV} (hi : items[i]? = some x) :
    ∀ (k : Nat) (c : SV), x.cells[k]? = some c → c.one = true ∧ ∃ v, w.cell? ⟨b, start + i * esz + k, none⟩ = some v ∧ VR g w c v := by
  intro k c hk
  have hmem : x ∈ items := List.mem_of_getElem? hi
  have hlt : k < esz := by rw [← hu x hmem]; exact (List.getElem?_eq_some_iff.1 hk).1
  have hf := flat_get i k x hu hi hlt
  rw [hk] at hf
  obtain ⟨h1, _, h3⟩ := hc _ c hf
  exact ⟨h1, _, by rw [Nat.add_assoc]; exact h3, hr _ c hf⟩

theorem Zaay {M : Mem} {fr : Nat → Prop} (hM : MR E g w M fr) {get : Nat → Option (List SV)} (hget : ∀ id items, get id = some items → M.blk id = some items)
    {t : Nat} {a r : SV} {a' : Value} (ha : VR g w a a') (h : Zn P get t a = some r) : ∃ r', (Instr.loadAt t a').run P w = .ok r' w ∧ VR g w r r' := by
  unfold Zn at h
  split at h
  · simp at h
  rename_i ti hti
  split at h
  · rename_i id i o
    split at h
    · rename_i items hb
      split at h
      · rename_i x hx
        cases ha with
        | ptr _ _ _ b hown =>
        obtain ⟨b', c, e, ho, _, _, hu, hheap, hcs⟩ := hM.blk id items (hget id items hb)
        obtain rfl : b' = b := by rw [hown] at ho; simpa using ho.symm
        have hmem : x ∈ items := List.mem_of_getElem? hx
        obtain ⟨r', hr', hv⟩ := Z06 (P := P) (g := g) (w := w) (b := b') (A := i * g.esz id) (o := o) hti (fun k c' hk => by
          have hlt : k < g.esz id := by rw [← hu x hmem]; exact (List.getElem?_eq_some_iff.1 hk).1
          have hf := flat_get i k x hu hx hlt
          rw [hk] at hf
          obtain ⟨h1, v, hv, hvr⟩ := hcs _ c' hf
          exact ⟨h1, v, by rw [cell?_cells hheap]; exact hv, hvr⟩) h
        exact ⟨r', by simpa [Instr.loadAt, Instr.sureAddr] using hr', hv⟩
      · simp at h
    · simp at h
  · rename_i items i o st
    split at h
    · rename_i x hx
      cases ha with
      | rptr _ _ _ _ b start esz rv hu hc hr =>
      obtain ⟨r', hr', hv⟩ := Z06 (P := P) (g := g) (w := w) (b := b) (A := start + i * esz) (o := o) hti (Zaji hu hc hr hx) h
      exact ⟨r', by simpa [Instr.loadAt, Instr.sureAddr] using hr', hv⟩
    · simp at h
  · simp at h

theorem Z4i {fa : Array Field} {f : Nat} {ft off : Nat} (h : (fa.toList.map fun f => (f.type, f.offset))[f]? = some (ft, off)) :
    ∃ fd, fa[f]? = some fd ∧ fd.type = ft ∧ fd.offset = off := by
  simp only [List.getElem?_map, Array.getElem?_toList, Option.map_eq_some_iff] at h
  obtain ⟨fd, hfd, he⟩ := h
  simp only [Prod.mk.injEq] at he
  exact ⟨fd, hfd, he.1, he.2⟩

theorem Z3b {t f : Nat} {a r : SV} {a' : Value} (ha : VR g w a a') (h : Zb P t a f = some r) :
    ∃ r', (Instr.fieldAt t a' f).run P w = .ok r' w ∧ VR g w r r' := by
  unfold Zb at h
  split at h
  case h_2 => simp at h
  rename_i fs _ _ _ hti
  obtain ⟨d, i, hd, hi, he⟩ := Zba hti
  simp only [TI.mk.injEq] at he
  obtain ⟨fa, rfl, hfs⟩ := Zve he.1.symm
  subst hfs
  split at h
  case h_2 => simp at h
  rename_i ft off hf
  obtain ⟨fd, hfd, rfl, rfl⟩ := Z4i hf
  split at h
  case h_2 => simp at h
  rename_i fi hfi
  obtain ⟨d2, i2, hd2, hi2, rfl⟩ := Zba hfi
  split at h
  · simp at h
  rename_i hz
  have hfp : ∀ b o, (fieldPlace ⟨b, o, none⟩ fd).run P w = .ok ⟨b, o + fd.offset, none⟩ w := by
    intro b o
    have hz' : ¬ i2.size = 0 := hz
    simp [fieldPlace, Zce hi2, hz', Zmr]
  split at h
  · rename_i id k o
    simp only [Option.some.injEq] at h
    subst h
    cases ha with
    | ptr _ _ _ b hown =>
    refine ⟨_, ?_, .ptr id k (o + fd.offset) b hown⟩
    simp [Instr.fieldAt, run_underlying hd, hfd, Instr.sureAddr, hfp, Nat.add_assoc]
  · rename_i items k o st
    simp only [Option.some.injEq] at h
    subst h
    cases ha with
    | rptr _ _ _ _ b start esz rv hu hc hr =>
    refine ⟨_, ?_, .rptr items k (o + fd.offset) st b start esz rv hu hc hr⟩
    simp [Instr.fieldAt, run_underlying hd, hfd, Instr.sureAddr, hfp, Nat.add_assoc]
  · simp at h

theorem Zait {t f : Nat} {x r : SV} {x' : Value} (hx : VR g w x x') (h : Zk P t x f = some r) :
    ∃ r', (Instr.field t x' f).run P w = .ok r' w ∧ VR g w r r' := by
  unfold Zk at h
  split at h
  case h_2 => simp at h
  rename_i fs _ _ _ hti
  obtain ⟨d, i, hd, hi, he⟩ := Zba hti
  simp only [TI.mk.injEq] at he
  obtain ⟨fa, rfl, hfs⟩ := Zve he.1.symm
  subst hfs
  split at h
  case h_2 => simp at h
  rename_i ft off cs hf
  obtain ⟨fd, hfd, rfl, rfl⟩ := Z4i hf
  split at h
  case h_2 => simp at h
  rename_i fi hfi
  cases hx with
  | agg _ vs hl ho hr =>
  obtain ⟨r', hr', hv⟩ := Zabm hfi (.agg cs vs hl ho hr) h
  exact ⟨r', by simp [Instr.field, run_underlying hd, hfd, asAgg, hr'], hv⟩

theorem Z0l {x : SV} {n : Nat} {x' : Value} (hx : VR g w x x') (h : Zs4 x = some n) : ∃ k, x' = .int k n := by
  unfold Zs4 at h
  split at h
  · split at h
    · rename_i hn
      simp only [Option.some.injEq] at h
      cases hx
      rename_i k m
      refine ⟨k, ?_⟩
      congr 1
      omega
    · simp at h
  · simp at h

theorem Z3o {t : Nat} {x ix r : SV} {x' ix' : Value} (hx : VR g w x x') (hi : VR g w ix ix') (h : Z9 P t x ix = some r) :
    ∃ r', (Instr.indexAt t x' ix').run P w = .ok r' w ∧ VR g w r r' := by
  unfold Z9 at h
  split at h
  case h_2 => simp at h
  rename_i ti j hti hj
  obtain ⟨k, rfl⟩ := Z0l hi hj
  obtain ⟨d, i, hd, hinfo, rfl⟩ := Zba hti
  split at h
  · rename_i n e hk
    obtain rfl := Zanv hk
    split at h
    case h_2 => simp at h
    rename_i te hte
    obtain ⟨d2, i2, hd2, hi2, rfl⟩ := Zba hte
    split at h
    case isFalse => simp at h
    rename_i hlt
    have hcond : (0 ≤ (j : Int) ∧ (j : Int) < (n : Int)) := by omega
    split at h
    · rename_i id q o
      simp only [Option.some.injEq] at h
      subst h
      cases hx with
      | ptr _ _ _ b hown =>
      refine ⟨_, ?_, .ptr id q (o + j * i2.size) b hown⟩
      simp [Instr.indexAt, asIntOf, run_underlying hd, Instr.sureAddr, hcond, hlt, Zce hi2, Zmr, Nat.add_assoc]
    · rename_i items q o st
      simp only [Option.some.injEq] at h
      subst h
      cases hx with
      | rptr _ _ _ _ b start esz rv hu hc hr =>
      refine ⟨_, ?_, .rptr items q (o + j * i2.size) st b start esz rv hu hc hr⟩
      simp [Instr.indexAt, asIntOf, run_underlying hd, Instr.sureAddr, hcond, hlt, Zce hi2, Zmr, Nat.add_assoc]
    · simp at h
  · rename_i e hk
    obtain rfl := Zgg hk
    split at h
    case h_2 => simp at h
    rename_i te hte
    obtain ⟨d2, i2, hd2, hi2, rfl⟩ := Zba hte
    split at h
    · rename_i id esz q len
      split at h
      case isFalse => simp at h
      rename_i hc
      simp only [Option.some.injEq] at h
      subst h
      cases hx with
      | own _ _ _ _ b cap hown he hl hs =>
      have hlt := hc.1
      have hcond : (0 ≤ (j : Int) ∧ (j : Int) < (len : Int)) := by omega
      refine ⟨_, ?_, .ptr id (q + j) 0 b hown⟩
      have hsz : i2.size = g.esz id := by rw [he]; exact hc.2.symm
      simp [Instr.indexAt, asIntOf, run_underlying hd, Instr.sureAddr, hcond, hlt, Zce hi2, Zmr, hsz, he, Nat.add_mul]
    · rename_i items tl
      split at h
      case h_2 => simp at h
      rename_i y hy
      split at h
      case isFalse => simp at h
      rename_i hsz
      simp only [Option.some.injEq] at h
      subst h
      cases hx with
      | sle tl a cap hfull => simp at hy
      | sl _ _ b start cap esz rv hu hc hr hcap hfull =>
      have hlt : j < items.length := (List.getElem?_eq_some_iff.1 hy).1
      have hcond : (0 ≤ (j : Int) ∧ (j : Int) < (items.length : Int)) := by omega
      have he : i2.size = esz := by rw [← hu y (List.mem_of_getElem? hy)]; exact hsz.symm
      have hst : (tl != .snap) = tl.st := by cases tl <;> rfl
      refine ⟨_, ?_, .rptr items j 0 (tl != .snap) b start esz rv hu (by rw [hst]; exact hc) hr⟩
      simp [Instr.indexAt, asIntOf, run_underlying hd, Instr.sureAddr, hcond, hlt, Zce hi2, Zmr, he]
    · simp at h
  · simp at h

theorem Zahc {t : Nat} {x ix r : SV} {x' ix' : Value} (hx : VR g w x x') (hi : VR g w ix ix') (h : Zt5 P t x ix = some r) :
    ∃ r', (Instr.index t x' ix').run P w = .ok r' w ∧ VR g w r r' := by
  unfold Zt5 at h
  split at h
  case h_2 => simp at h
  rename_i ti j hti hj
  obtain ⟨k, rfl⟩ := Z0l hi hj
  obtain ⟨d, i, hd, hinfo, rfl⟩ := Zba hti
  split at h
  · rename_i n e cs hk
    obtain rfl := Zanv hk
    split at h
    case h_2 => simp at h
    rename_i te hte
    obtain ⟨d2, i2, hd2, hi2, he2⟩ := Zba hte
    split at h
    case isFalse => simp at h
    rename_i hlt
    have hcond : (0 ≤ (j : Int) ∧ (j : Int) < (n : Int)) := by omega
    cases hx with
    | agg _ vs hl ho hr =>
    obtain ⟨r', hr', hv⟩ := Zabm hte (.agg cs vs hl ho hr) h
    refine ⟨r', ?_, hv⟩
    have : te.size = i2.size := by rw [he2]
    rw [this] at hr'
    simp [Instr.index, asIntOf, run_underlying hd, hlt, Zce hi2, hr']
  · rename_i s hk
    obtain rfl := Zvq hk
    obtain rfl := hx.Zuj
    split at h
    case h_2 => simp at h
    rename_i c hc
    simp only [Option.some.injEq] at h
    subst h
    refine ⟨.int .u8 c.toNat, ?_, .int _ _⟩
    simp [Instr.index, asIntOf, run_underlying hd, hc]
  · simp at h

theorem Zap0 {t : Nat} {x r : SV} {x' : Value} {ty : Nat} (hx : VR g w x x') (h : Zex P t x = some r) :
    ∃ r', (Builtin.len_ #[t] ty #[x']).run P w = .ok r' w ∧ VR g w r r' := by
  unfold Zex at h
  split at h
  all_goals first | (simp at h; done) | skip
  all_goals
    split at h
    case h_2 => simp at h
    rename_i hti
    obtain ⟨d, i, hd, hi, he⟩ := Zba hti
    simp only [TI.mk.injEq] at he
    simp only [Option.some.injEq] at h
    subst h
  · obtain rfl := Zvq he.1.symm
    obtain rfl := hx.Zuj
    exact ⟨_, by simp [Builtin.len_, run_underlying hd]; rfl, .int _ _⟩
  · obtain rfl := Zgg he.1.symm
    cases hx <;> exact ⟨_, by simp [Builtin.len_, run_underlying hd]; rfl, .int _ _⟩
  · obtain rfl := Zgg he.1.symm
    cases hx <;> exact ⟨_, by simp [Builtin.len_, run_underlying hd]; rfl, .int _ _⟩
  · obtain rfl := Zgg he.1.symm
    cases hx <;> exact ⟨_, by simp [Builtin.len_, run_underlying hd]; rfl, .int _ _⟩
  · obtain rfl := Zanv he.1.symm
    exact ⟨_, by simp [Builtin.len_, run_underlying hd]; rfl, .int _ _⟩

theorem Zst : ∀ {l : List SV} {bs : List UInt8}, bytesOf l = some bs → ∃ ns : List Int, l = ns.map (SV.int .u8) ∧ bs = ns.map fun n => UInt8.ofNat n.toNat
  | [], bs, h => by
    simp [bytesOf] at h
    exact ⟨[], rfl, h ▸ rfl⟩
  | x :: l, bs, h => by
    cases x <;> (try (simp [bytesOf] at h; done))
    rename_i k n
    cases k <;> (try (simp [bytesOf] at h; done))
    simp only [bytesOf] at h
    split at h
    · rename_i l' hl
      obtain ⟨ns, rfl, rfl⟩ := Zst hl
      simp only [Option.some.injEq] at h
      exact ⟨n :: ns, rfl, h ▸ rfl⟩
    · simp at h

theorem Zajy (ns : List Int) : ∀ r : ByteArray, ns.foldl (fun (r : ByteArray) n => r.push (UInt8.ofNat n.toNat)) r = ⟨r.data ++ (ns.map fun n => UInt8.ofNat n.toNat).toArray⟩ := by
  induction ns with
  | nil => intro r; simp
  | cons n ns ih =>
    intro r
    rw [List.foldl_cons, ih]
    simp [ByteArray.push]

theorem Zaan {l : List SV} {bs : List UInt8} {b q cap : Nat} (hbs : bytesOf l = some bs)
    (hcell : ∀ (k : Nat) (c : SV), l[k]? = some c → ∃ v, w.cell? ⟨b, q + k, none⟩ = some v ∧ VR g w c v) :
    (Conv.bytesToString (.slice (some ⟨b, q, none⟩) l.length cap)).run P w = .ok (.string ⟨bs.toArray⟩) w := by
  obtain ⟨ns, rfl, rfl⟩ := Zst hbs
  rw [run_bytesToString w ⟨b, q, none⟩ _ cap ns]
  · congr 2
    rw [Zajy]
    simp
  · have := run_loadCells_list (P := P) w ⟨b, q, none⟩ (ns.map (Value.int .u8)) (fun j v hj => by
      simp only [List.getElem?_map, Option.map_eq_some_iff] at hj
      obtain ⟨n, hn, rfl⟩ := hj
      obtain ⟨u, hu, hr⟩ := hcell j (.int .u8 n) (by simp [hn])
      rw [Zmr, hu, hr.Znp])
    simpa using this

theorem Zz4 (k : IntKind) : ∀ ns : List Int, flat (ns.map (SV.int k)) = ns.map (SV.int k)
  | [] => rfl
  | n :: ns => by rw [List.map_cons, Zlq, Zz4 k ns]; rfl

theorem Zxg {l : List SV} {bs : List UInt8} (h : bytesOf l = some bs) : flat l = l := by
  obtain ⟨ns, rfl, _⟩ := Zst h
  exact Zz4 _ ns

theorem Zala {M : Mem} {fr : Nat → Prop} (hM : MR E g w M fr) {get : Nat → Option (List SV)} (hget : ∀ id items, get id = some items → M.blk id = some items)
    {s d : Nat} {x r : SV} {x' : Value} (hx : VR g w x x') (h : Zz8 P get s d x = some r) : ∃ r', (Go.convert s d x').run P w = .ok r' w ∧ VR g w r r' := by
  unfold Zz8 at h
  split at h
  case h_2 => simp at h
  rename_i ti tj hti htj
  obtain ⟨d1, i1, hd1, hi1, rfl⟩ := Zba hti
  obtain ⟨d2, i2, hd2, hi2, rfl⟩ := Zba htj
  split at h
  · rename_i ka k kb n hk1 hk2
    obtain rfl := Z1i hk1
    obtain rfl := Z1i hk2
    obtain rfl := hx.Znp
    simp only [Option.some.injEq] at h
    subst h
    exact ⟨_, by simp [Go.convert, run_underlying hd1, run_underlying hd2, Conv.intToInt], .int _ _⟩
  · rename_i b hk1 hk2
    obtain rfl := Zvq hk1
    obtain rfl := Zvq hk2
    obtain rfl := hx.Zuj
    simp only [Option.some.injEq] at h
    subst h
    exact ⟨_, by simp [Go.convert, run_underlying hd1, run_underlying hd2], .str _⟩
  · rename_i e hk1 hk2
    obtain rfl := Zgg hk1
    obtain rfl := Zvq hk2
    split at h
    case h_2 => simp at h
    rename_i hte
    obtain ⟨d3, i3, hd3, hi3, he3⟩ := Zba hte
    simp only [TI.mk.injEq] at he3
    obtain rfl := Z1i he3.1.symm
    cases hx
    simp only [Option.some.injEq] at h
    subst h
    exact ⟨_, by simp [Go.convert, run_underlying hd1, run_underlying hd2, run_underlying hd3, Conv.bytesToString], .str _⟩
  · rename_i e items tl hk1 hk2
    obtain rfl := Zgg hk1
    obtain rfl := Zvq hk2
    split at h
    case h_2 => simp at h
    rename_i hte
    obtain ⟨d3, i3, hd3, hi3, he3⟩ := Zba hte
    simp only [TI.mk.injEq] at he3
    obtain rfl := Z1i he3.1.symm
    split at h
    case h_2 => simp at h
    rename_i l hl
    simp only [Option.some.injEq] at h
    subst h
    cases hx with
    | sle tl a cap hfull =>
      simp only [bytesOf, Option.some.injEq] at hl
      subst hl
      exact ⟨_, by simp [Go.convert, run_underlying hd1, run_underlying hd2, run_underlying hd3, Conv.bytesToString, loadCells, loadCellsFrom]; rfl, .str _⟩
    | sl _ _ b start cap esz rv hu hc hr hcap hfull =>
    have hf := Zxg hl
    have hrun := Zaan (P := P) (w := w) (g := g) (b := b) (q := start) (cap := cap) hl (fun k c hk => by
      rw [hf] at hc hr
      exact ⟨_, (hc k c hk).2.2, hr k c hk⟩)
    exact ⟨_, by simp [Go.convert, run_underlying hd1, run_underlying hd2, run_underlying hd3, hrun], .str _⟩
  · rename_i e id esz q len hk1 hk2
    obtain rfl := Zgg hk1
    obtain rfl := Zvq hk2
    split at h
    case h_2 => simp at h
    rename_i items hte hgi
    obtain ⟨d3, i3, hd3, hi3, he3⟩ := Zba hte
    simp only [TI.mk.injEq] at he3
    obtain rfl := Z1i he3.1.symm
    split at h
    case isFalse => simp at h
    rename_i hcond
    split at h
    case h_2 => simp at h
    rename_i l hl
    simp only [Option.some.injEq] at h
    subst h
    cases hx with
    | own _ _ _ _ b cap hown he hle hs =>
    obtain ⟨b', c, t, ho, _, _, hu, hheap, hcs⟩ := hM.blk id items (hget id items hgi)
    obtain rfl : b' = b := by rw [hown] at ho; simpa using ho.symm
    have hf := Zxg hl
    have h1 : g.esz id = 1 := by rw [he]; exact hcond.2
    have hu1 : ∀ x ∈ items, x.cells.length = 1 := fun x hx => by rw [hu x hx, h1]
    have hfl : flat ((items.drop q).take len) = ((flat items).drop q).take len := by
      rw [Zmt (n := 1) len (fun x hx => hu1 x (List.mem_of_mem_drop hx)), Zqe (n := 1) q hu1, Nat.mul_one, Nat.mul_one]
    have hll : ((items.drop q).take len).length = len := by simp; omega
    have hrun := Zaan (P := P) (w := w) (g := g) (b := b') (q := q * esz) (cap := cap) hl (fun k c' hk => by
      rw [← hf, hfl, List.getElem?_take] at hk
      split at hk
      · rw [List.getElem?_drop] at hk
        obtain ⟨_, v, hv, hr⟩ := hcs _ c' hk
        refine ⟨v, ?_, hr⟩
        rw [cell?_cells hheap]
        have : q * esz + k = q + k := by rw [hcond.2, Nat.mul_one]
        rw [this]
        exact hv
      · simp at hk)
    rw [hll] at hrun
    exact ⟨_, by simp [Go.convert, run_underlying hd1, run_underlying hd2, run_underlying hd3, hrun], .str _⟩
  · simp at h

end Go.Proofs.YtfphjfbknphhjaaGreatDoor.Sh

/-
  The shadow interpreter, text 5: slices, least and greatest, assertions, structs put together. No condition.
-/
set_option linter.unusedVariables false
set_option linter.unusedSimpArgs false
namespace Go.Proofs.YtfphjfbknphhjaaGreatDoor.Sh
variable {E : Env} {P : Program} {g : Gh} {w : World}

/-- An operand that may lack. -/
def VRO (g : Gh) (w : World) : Option SV → Option Value → Prop
  | none, none => True
  | some x, some v => VR g w x v
  | _, _ => False

theorem VRO.map {f : Operand → SV} {f' : Operand → Value} (h : ∀ x, VR g w (f x) (f' x)) (o : Option Operand) : VRO g w (o.map f) (o.map f') := by
  cases o
  · trivial
  · exact h _

theorem Zo3 {x : SV} {n : Nat} {x' : Value} (hx : VR g w x x') (h : Zs4 x = some n) {y : Nat} {code : BoundsCode} (hy : n ≤ y) :
    (Instr.sliceBound x' y code).run P w = .ok n w := by
  obtain ⟨k, rfl⟩ := Z0l hx h
  have : (0 ≤ (n : Int) ∧ (n : Int) ≤ (y : Int)) := by omega
  simp [Instr.sliceBound, asIntOf, this, hy]

theorem Zp8 {isS : Bool} {len cap l h : Nat} {m : Option Nat} {lo hi mx : Option SV} {lo' hi' mx' : Option Value} (h1 : VRO g w lo lo') (h2 : VRO g w hi hi') (h3 : VRO g w mx mx')
    (hcap : len ≤ cap) (hb : Zpq len lo hi mx = some (l, h, m)) :
    (Instr.sliceBounds isS len cap lo' hi' mx').run P w = .ok (l, h, m.getD cap) w ∧ l ≤ h ∧ h ≤ len ∧ ∀ q, m = some q → h ≤ q ∧ q ≤ len := by
  unfold Zpq at hb
  cases mx with
  | none =>
    cases mx' with
    | some v => exact h3.elim
    | none =>
    simp only at hb
    cases hi with
    | none =>
      cases hi' with
      | some v => exact h2.elim
      | none =>
      simp only at hb
      cases lo with
      | none =>
        cases lo' with
        | some v => exact h1.elim
        | none =>
        simp only at hb
        split at hb
        · rename_i hc
          simp only [Option.some.injEq, Prod.mk.injEq] at hb
          obtain ⟨rfl, rfl, rfl⟩ := hb
          exact ⟨by simp [Instr.sliceBounds], by omega, by omega, by simp⟩
        · simp at hb
      | some x =>
        cases lo' with
        | none => exact h1.elim
        | some v =>
        simp only at hb
        split at hb
        · simp at hb
        rename_i l0 hl0
        split at hb
        · rename_i hc
          simp only [Option.some.injEq, Prod.mk.injEq] at hb
          obtain ⟨rfl, rfl, rfl⟩ := hb
          have hr := fun code => Zo3 (P := P) (code := code) h1 hl0 hc.1
          exact ⟨by simp [Instr.sliceBounds, hr], by omega, by omega, by simp⟩
        · simp at hb
    | some xh =>
      cases hi' with
      | none => exact h2.elim
      | some vh =>
      simp only at hb
      split at hb
      · simp at hb
      rename_i h0 hh0
      cases lo with
      | none =>
        cases lo' with
        | some v => exact h1.elim
        | none =>
        simp only at hb
        split at hb
        · rename_i hc
          simp only [Option.some.injEq, Prod.mk.injEq] at hb
          obtain ⟨rfl, rfl, rfl⟩ := hb
          have hr := fun code => Zo3 (P := P) (code := code) h2 hh0 (y := cap) (by omega)
          exact ⟨by simp [Instr.sliceBounds, hr], by omega, by omega, by simp⟩
        · simp at hb
      | some x =>
        cases lo' with
        | none => exact h1.elim
        | some v =>
        simp only at hb
        split at hb
        · simp at hb
        rename_i l0 hl0
        split at hb
        · rename_i hc
          simp only [Option.some.injEq, Prod.mk.injEq] at hb
          obtain ⟨rfl, rfl, rfl⟩ := hb
          have hr := fun code => Zo3 (P := P) (code := code) h1 hl0 hc.1
          have hr2 := fun code => Zo3 (P := P) (code := code) h2 hh0 (y := cap) (by omega)
          exact ⟨by simp [Instr.sliceBounds, hr, hr2], by omega, by omega, by simp⟩
        · simp at hb
  | some xm =>
    cases mx' with
    | none => exact h3.elim
    | some vm =>
    simp only at hb
    cases hm : Zs4 xm with
    | none => simp [hm] at hb
    | some m0 =>
    simp only [hm, Option.map_some] at hb
    cases hi with
    | none => simp only at hb; cases lo <;> simp only at hb <;> (try split at hb) <;> simp_all
    | some xh =>
      cases hi' with
      | none => exact h2.elim
      | some vh =>
      simp only at hb
      split at hb
      · simp at hb
      rename_i h0 hh0
      cases lo with
      | none =>
        cases lo' with
        | some v => exact h1.elim
        | none =>
        simp only at hb
        split at hb
        · rename_i hc
          simp only [Option.some.injEq, Prod.mk.injEq] at hb
          obtain ⟨rfl, rfl, rfl⟩ := hb
          have hr := fun code => Zo3 (P := P) (code := code) h2 hh0 (y := m0) (by omega)
          have hr3 := fun code => Zo3 (P := P) (code := code) h3 hm (y := cap) (by omega)
          exact ⟨by simp [Instr.sliceBounds, hr, hr3], by omega, by omega, fun q hq => by simp at hq; omega⟩
        · simp at hb
      | some x =>
        cases lo' with
        | none => exact h1.elim
        | some v =>
        simp only at hb
        split at hb
        · simp at hb
        rename_i l0 hl0
        split at hb
        · rename_i hc
          simp only [Option.some.injEq, Prod.mk.injEq] at hb
          obtain ⟨rfl, rfl, rfl⟩ := hb
          have hr := fun code => Zo3 (P := P) (code := code) h1 hl0 hc.1
          have hr2 := fun code => Zo3 (P := P) (code := code) h2 hh0 (y := m0) (by omega)
          have hr3 := fun code => Zo3 (P := P) (code := code) h3 hm (y := cap) (by omega)
          exact ⟨by simp [Instr.sliceBounds, hr, hr2, hr3], by omega, by omega, fun q hq => by simp at hq; omega⟩
        · simp at hb

theorem Zag8 (hgood : g.Good) {t : Nat} {x r : SV} {x' : Value} {lo hi mx : Option SV} {lo' hi' mx' : Option Value} (hx : VR g w x x') (h1 : VRO g w lo lo') (h2 : VRO g w hi hi') (h3 : VRO g w mx mx')
    (h : Zse P t x lo hi mx = some r) : ∃ r', (Instr.sliceAt t x' lo' hi' mx').run P w = .ok r' w ∧ VR g w r r' := by
  unfold Zse at h
  split at h
  · simp at h
  rename_i ti hti
  obtain ⟨d, i, hd, hinfo, rfl⟩ := Zba hti
  split at h
  · rename_i s hk
    obtain rfl := Zvq hk
    obtain rfl := hx.Zuj
    split at h
    case h_2 => simp at h
    rename_i l q hb
    simp only [Option.some.injEq] at h
    subst h
    obtain ⟨hrun, _, _, _⟩ := Zp8 (P := P) (isS := false) h1 h2 h3 (Nat.le_refl _) hb
    have hmx : mx' = none := by
      cases mx with
      | none => cases mx' <;> simp_all [VRO]
      | some xm => unfold Zpq at hb; (repeat' split at hb) <;> simp_all
    subst hmx
    exact ⟨_, by simp [Instr.sliceAt, run_underlying hd, Instr.slice, hrun], .str _⟩
  · rename_i e hk
    obtain rfl := Zgg hk
    split at h
    case h_2 => simp at h
    rename_i te r0 hte hb
    obtain ⟨l, q, m⟩ := r0
    obtain ⟨d2, i2, hd2, hi2, rfl⟩ := Zba hte
    simp only [Option.some.injEq] at h
    subst h
    cases hx
    obtain ⟨hrun, hlq, hq, hm⟩ := Zp8 (P := P) (isS := true) h1 h2 h3 (Nat.le_refl _) hb
    have hl0 : l = 0 := by omega
    have hq0 : q = 0 := by omega
    have hm0 : m.getD 0 = 0 := by
      cases m with
      | none => rfl
      | some mm => have := hm mm rfl; simp; omega
    subst hl0 hq0
    rw [hm0] at hrun
    exact ⟨_, by simp [Instr.sliceAt, run_underlying hd, Instr.slice, hrun, Zce hi2], .nilsl⟩
  · rename_i e items tl hk
    obtain rfl := Zgg hk
    split at h
    case h_2 => simp at h
    rename_i te l q m hte hb
    obtain ⟨d2, i2, hd2, hi2, rfl⟩ := Zba hte
    split at h
    case isFalse => simp at h
    rename_i hun
    have hu2 := Zqq.1 hun
    simp only [Option.some.injEq] at h
    subst h
    cases hx with
    | sle tl a cap hfull =>
      obtain ⟨hrun, hlq, hq, hm⟩ := Zp8 (P := P) (isS := true) h1 h2 h3 (Nat.zero_le cap) hb
      have hq1 : q ≤ 0 := hq
      have hl0 : l = 0 := by omega
      have hq0 : q = 0 := by omega
      subst hl0 hq0
      refine ⟨.slice (some a) 0 (m.getD cap), ?_, ?_⟩
      · simp only [Instr.sliceAt, Instr.slice, Sem.run_bind, run_underlying hd, Result.andThen_ok, hrun, Zce hi2, Sem.run_pure]
        congr 2
        split
        · rfl
        · simp [Addr.add]
      · refine .sle _ a _ (fun hf => ?_)
        cases m with
        | none =>
          cases tl <;> simp at hf
          simp [hfull rfl]
        | some mm =>
          have := hm mm rfl
          simp at this
          simp [this]
    | sl _ _ b start cap esz rv hu hc hr hcap hfull =>
    obtain ⟨hrun, hlq, hq, hm⟩ := Zp8 (P := P) (isS := true) h1 h2 h3 hcap hb
    have hsz : items ≠ [] → esz = i2.size := by
      intro hne
      cases items with
      | nil => exact absurd rfl hne
      | cons y ys => rw [← hu y (by simp)]; exact hu2 y (by simp)
    have hlen : ((items.drop l).take (q - l)).length = q - l := by simp; omega
    have hlm : l ≤ m.getD cap := by
      cases m with
      | none => simp; omega
      | some mm => have := hm mm rfl; simp; omega
    refine ⟨.slice (some ⟨b, if m.getD cap = l then start else start + l * i2.size, none⟩) (q - l) (m.getD cap - l), ?_, ?_⟩
    · simp only [Instr.sliceAt, Instr.slice, Sem.run_bind, run_underlying hd, Result.andThen_ok, hrun, Zce hi2, Sem.run_pure]
      congr 2
      split
      · rfl
      · simp [Zmr]
    · have key : ∀ tl' : Tl, (tl'.st = true → tl.st = true) → (tl' = .full → m.getD cap - l = q - l) →
          VR g w (.sl ((items.drop l).take (q - l)) tl') (.slice (some ⟨b, if m.getD cap = l then start else start + l * i2.size, none⟩) (q - l) (m.getD cap - l)) := by
        intro tl' hst hf
        by_cases hemp : (items.drop l).take (q - l) = []
        · have hlq0 : q - l = 0 := by rw [← hlen, hemp]; rfl
          have h0 := VR.sl (g := g) (w := w) [] tl' b (if m.getD cap = l then start else start + l * i2.size) (m.getD cap - l) 0 (fun _ => undef) (by simp) (by simp [flat]) (by simp [flat]) (by simp) (fun hf' => by rw [hf hf', hlq0]; rfl)
          rw [hemp, hlq0]
          exact h0
        · have hne : items ≠ [] := fun he => hemp (by simp [he])
          have hltl : l < items.length := by
            rcases Nat.lt_or_ge l items.length with hh | hh
            · exact hh
            · exact absurd (by rw [List.drop_eq_nil_of_le hh, List.take_nil]) hemp
          have hlt : ¬ m.getD cap = l := by
            intro he
            apply hemp
            have : q - l = 0 := by
              cases m with
              | none => simp at he; omega
              | some mm => have := hm mm rfl; simp at he; omega
            rw [this]; rfl
          rw [if_neg hlt, ← hsz hne]
          have hfl : flat ((items.drop l).take (q - l)) = ((flat items).drop (l * esz)).take ((q - l) * esz) := by
            rw [Zmt (n := esz) _ (fun x hx => hu x (List.mem_of_mem_drop hx)), Zqe (n := esz) l hu]
          have hget : ∀ (k : Nat) (c : SV), (flat ((items.drop l).take (q - l)))[k]? = some c → (flat items)[l * esz + k]? = some c := by
            intro k c hk
            rw [hfl, List.getElem?_take] at hk
            split at hk
            · rwa [List.getElem?_drop] at hk
            · simp at hk
          have h0 := VR.sl (g := g) (w := w) ((items.drop l).take (q - l)) tl' b (start + l * esz) (m.getD cap - l) esz (fun k => rv (l * esz + k))
            (fun x hx => hu x (List.mem_of_mem_drop (List.mem_of_mem_take hx)))
            (fun k c hk => by
              obtain ⟨a1, a2, a3⟩ := hc _ c (hget k c hk)
              rw [Nat.add_assoc]
              refine ⟨a1, ?_, a3⟩
              cases hs : tl'.st with
              | true => rw [hst hs] at a2; exact a2
              | false =>
                cases hs2 : tl.st with
                | true => rw [hs2] at a2; exact (Gh.Z66 hgood (st := true) a2)
                | false => rw [hs2] at a2; exact a2)
            (fun k c hk => hr _ c (hget k c hk))
            (by rw [hlen]; cases m with
              | none => simp; omega
              | some mm => have := hm mm rfl; simp; omega)
            (fun hf' => by rw [hlen]; exact hf hf')
          rw [hlen] at h0
          exact h0
      apply key
      · cases m <;> cases tl <;> simp [Tl.st] <;> (repeat' split) <;> simp_all [Tl.st]
      · cases m with
        | none =>
          intro hf
          cases tl <;> simp at hf
          simp [hfull rfl, hf]
        | some mm =>
          intro hf
          have := hm mm rfl
          by_cases hmq : mm = q
          · simp [hmq]
          · simp [hmq] at hf
            cases tl <;> simp at hf
  · rename_i e id esz p len hk
    obtain rfl := Zgg hk
    split at h
    case h_2 => simp at h
    rename_i te l q m hte hb
    obtain ⟨d2, i2, hd2, hi2, rfl⟩ := Zba hte
    split at h
    case isFalse => simp at h
    rename_i hsz0
    have hsz : i2.size = esz := hsz0
    cases hx with
    | own _ _ _ _ b cap hown he hle hs =>
    obtain ⟨hrun, hlq, hq, hm⟩ := Zp8 (P := P) (isS := true) h1 h2 h3 hle hb
    have hlm : l ≤ m.getD cap := by
      cases m with
      | none => simp; omega
      | some mm => have := hm mm rfl; simp; omega
    have hrun2 : (Instr.sliceAt t (.slice (some ⟨b, p * esz, none⟩) len cap) lo' hi' mx').run P w =
        .ok (.slice (some ⟨b, if m.getD cap = l then p * esz else p * esz + l * esz, none⟩) (q - l) (m.getD cap - l)) w := by
      simp only [Instr.sliceAt, Instr.slice, Sem.run_bind, run_underlying hd, Result.andThen_ok, hrun, Zce hi2, Sem.run_pure, hsz]
      congr 2
      split
      · rfl
      · simp [Zmr]
    split at h
    · rename_i hlq2
      simp only [Option.some.injEq] at h
      subst h
      refine ⟨_, hrun2, ?_⟩
      have hq0 : q - l = 0 := by omega
      rw [hq0]
      refine VR.sl (g := g) (w := w) [] _ b _ (m.getD cap - l) 0 (fun _ => undef) (by simp) (by simp [flat]) (by simp [flat]) (by simp) (fun hf => ?_)
      split at hf
      · rename_i hmq
        simp [hmq, hlq2]
      · simp at hf
    · rename_i hlq2
      simp only [Option.some.injEq] at h
      subst h
      refine ⟨_, hrun2, ?_⟩
      have hne : ¬ m.getD cap = l := by
        cases m with
        | none => simp; omega
        | some mm => have := hm mm rfl; simp; omega
      rw [if_neg hne, ← Nat.add_mul]
      obtain ⟨c, ty, hb1, hb2⟩ := hs
      have hmc : m.getD cap ≤ cap := by
        cases m with
        | none => simp
        | some mm => have := hm mm rfl; simp; omega
      refine .own id esz (p + l) (q - l) b _ hown he (by
        cases m with
        | none => simp; omega
        | some mm => have := hm mm rfl; simp; omega) ⟨c, ty, hb1, Nat.le_trans (Nat.mul_le_mul_right _ (by omega)) hb2⟩
  · simp at h


theorem Zago {mx : Bool} {k : IntKind} : ∀ (xs : List SV) (vs : List Value) (a : Int) (r : SV), xs.length = vs.length →
    (∀ (j : Nat) (x : SV) (v : Value), xs[j]? = some x → vs[j]? = some v → VR g w x v) → mmGo mx k a xs = some r →
    ∃ r', (vs.foldlM (if mx then Builtin.max2 else Builtin.min2) (.int k a)).run P w = .ok r' w ∧ VR g w r r'
  | [], [], a, r, _, _, h => by
    simp [mmGo] at h
    subst h
    exact ⟨_, rfl, .int k a⟩
  | x :: xs, v :: vs, a, r, hl, hr, h => by
    cases x <;> (try (simp [mmGo] at h; done))
    rename_i k' b
    simp only [mmGo] at h
    obtain rfl := (hr 0 (.int k' b) v rfl rfl).Znp
    obtain ⟨r', hrun, hv⟩ := Zago xs vs _ r (by simpa using hl) (fun j y u hy hu => hr (j + 1) y u (by simpa using hy) (by simpa using hu)) h
    refine ⟨r', ?_, hv⟩
    rw [← hrun]
    cases mx <;> simp [List.foldlM_cons, Builtin.max2, Builtin.min2]

theorem Zamj {mx : Bool} {xs : List SV} {vs : Array Value} {at' : Array TypeId} {ty : TypeId} {r : SV} (hx : VRs g w xs vs) (h : mmS mx xs = some r) :
    ∃ r', ((if mx then Builtin.max_ at' ty vs else Builtin.min_ at' ty vs)).run P w = .ok r' w ∧ VR g w r r' := by
  unfold mmS at h
  split at h
  · rename_i k a rest
    obtain ⟨hl, hr⟩ := hx
    cases hv : vs.toList with
    | nil =>
      have h0 : vs.size = 0 := by rw [← Array.length_toList, hv]; rfl
      rw [h0] at hl
      simp at hl
    | cons v vl =>
      have hget : ∀ j : Nat, vs[j]? = (v :: vl)[j]? := fun j => by rw [← hv, Array.getElem?_toList]
      have hlen : vs.size = vl.length + 1 := by rw [← Array.length_toList, hv]; rfl
      obtain rfl := (hr 0 (.int k a) v rfl (by rw [hget]; rfl)).Znp
      obtain ⟨r', hrun, hvr⟩ := Zago (P := P) rest vl a r (by simp at hl; omega) (fun j y u hy hu => hr (j + 1) y u (by simpa using hy) (by rw [hget]; simpa using hu)) h
      refine ⟨r', ?_, hvr⟩
      rw [← hrun]
      cases mx <;> simp [Builtin.max_, Builtin.min_, hv]
  · simp at h

theorem Zade {t xt : Nat} {ok : Bool} {x r : SV} {x' : Value} (hx : VR g w x x') (h : Z1o P x t ok = some r) :
    ∃ r', (Instr.typeAssert x' xt t ok).run P w = .ok r' w ∧ VR g w r r' := by
  unfold Z1o at h
  split at h
  · simp at h
  rename_i ti hti
  obtain ⟨d, i, hd, hi, rfl⟩ := Zba hti
  have hni : ∀ ms, d ≠ .interface ms := by
    rintro ms rfl
    simp [Zxi] at h
  split at h
  · simp at h
  have pair : ∀ (s : SV) (v : Value) (b : Bool), VR g w s v → VR g w (.tup [s, .bool b]) (.tuple #[v, .bool b]) := by
    intro s v b hv
    refine .tup _ _ rfl (fun k y u hy hu => ?_)
    match k with
    | 0 => simp at hy hu; subst hy hu; exact hv
    | 1 => simp at hy hu; subst hy hu; exact .bool b
    | k + 2 => simp at hy
  have zero : ∀ z, i.zero.map Sh.Zuf = some z → ∃ z', (zeroValue t).run P w = .ok z' w ∧ VR g w z z' := by
    intro z hz
    simp only [Option.map_eq_some_iff] at hz
    obtain ⟨z', hz', rfl⟩ := hz
    exact ⟨z', by simp [zeroValue, run_typeInfo hi, hz'], VR.Zuf g w z'⟩
  split at h
  · cases hx
    split at h
    · rename_i hok
      subst hok
      split at h
      case h_2 => simp at h
      rename_i z hz
      simp only [Option.some.injEq] at h
      subst h
      obtain ⟨z', hz', hvr⟩ := zero z hz
      refine ⟨_, ?_, pair z z' false hvr⟩
      cases d <;> first | (exact absurd rfl (hni _)) | simp [Instr.typeAssert, run_underlying hd, hz']
    · simp at h
  · rename_i u v
    cases hx with
    | iface _ _ v' hx' hv =>
    split at h
    · rename_i hut
      subst hut
      simp only [Option.some.injEq] at h
      subst h
      cases ok with
      | true =>
        refine ⟨_, ?_, pair v v' true hv⟩
        cases d <;> first | (exact absurd rfl (hni _)) | simp [Instr.typeAssert, run_underlying hd]
      | false =>
        refine ⟨_, ?_, hv⟩
        cases d <;> first | (exact absurd rfl (hni _)) | simp [Instr.typeAssert, run_underlying hd]
    · rename_i hut
      split at h
      case isFalse => simp at h
      rename_i hok
      subst hok
      split at h
      case h_2 => simp at h
      rename_i z hz
      simp only [Option.some.injEq] at h
      subst h
      obtain ⟨z', hz', hvr⟩ := zero z hz
      refine ⟨_, ?_, pair z z' false hvr⟩
      cases d <;> first | (exact absurd rfl (hni _)) | simp [Instr.typeAssert, run_underlying hd, hz', hut]
  · simp at h

/-! ### Structs put together -/

theorem Z4u {cs ds : List SV} {o k : Nat} (h : o + ds.length ≤ cs.length) :
    (splice cs o ds)[k]? = if o ≤ k ∧ k < o + ds.length then ds[k - o]? else cs[k]? := by
  unfold splice
  have h1 : (cs.take o).length = o := by simp; omega
  by_cases hk : k < o
  · rw [if_neg (by omega), List.append_assoc, List.getElem?_append_left (by omega), List.getElem?_take, if_pos hk]
  · by_cases hk2 : k < o + ds.length
    · rw [if_pos ⟨by omega, hk2⟩, List.append_assoc, List.getElem?_append_right (by omega), h1, List.getElem?_append_left (by omega)]
    · rw [if_neg (by omega), List.append_assoc, List.getElem?_append_right (by omega), h1, List.getElem?_append_right (by omega), List.getElem?_drop]
      congr 1; omega

theorem Zu9 {cs ds : List SV} {o : Nat} (h : o + ds.length ≤ cs.length) : (splice cs o ds).length = cs.length := by
  unfold splice
  simp; omega

theorem Zafo (off : Nat) : ∀ (l : List Value) (i : Nat) (cells : Array Value), off + i + l.length ≤ cells.size →
    ((l.zipIdx i).foldl (fun (cs : Array Value) (p : Value × Nat) => cs.setIfInBounds (off + p.2) p.1) cells).size = cells.size ∧
    ∀ k : Nat, ((l.zipIdx i).foldl (fun (cs : Array Value) (p : Value × Nat) => cs.setIfInBounds (off + p.2) p.1) cells)[k]? =
      if off + i ≤ k ∧ k < off + i + l.length then l[k - (off + i)]? else cells[k]?
  | [], i, cells, h => by
    refine ⟨rfl, fun k => ?_⟩
    rw [if_neg (by simp)]
    rfl
  | v :: l, i, cells, h => by
    simp only [List.zipIdx_cons, List.foldl_cons]
    obtain ⟨h1, h2⟩ := Zafo off l (i + 1) (cells.setIfInBounds (off + i) v) (by simp at h ⊢; omega)
    refine ⟨by simpa using h1, fun k => ?_⟩
    rw [h2 k]
    simp only [List.length_cons] at h ⊢
    by_cases hk : k = off + i
    · subst hk
      rw [if_neg (by omega), if_pos (by omega), Array.getElem?_setIfInBounds_self_of_lt (by omega)]
      simp
    · by_cases hk2 : off + (i + 1) ≤ k ∧ k < off + (i + 1) + l.length
      · rw [if_pos hk2, if_pos (by omega)]
        have : k - (off + i) = (k - (off + (i + 1))) + 1 := by omega
        rw [this, List.getElem?_cons_succ]
      · rw [if_neg hk2, if_neg (by omega), Array.getElem?_setIfInBounds_ne (by omega)]

theorem Zaad (off : Nat) (cells : Array Value) (vs : Array Value) (h : off + vs.size ≤ cells.size) :
    (vs.zipIdx.foldl (fun cs (c, j) => cs.setIfInBounds (off + j) c) cells).size = cells.size ∧
    ∀ k : Nat, (vs.zipIdx.foldl (fun cs (c, j) => cs.setIfInBounds (off + j) c) cells)[k]? = if off ≤ k ∧ k < off + vs.size then vs[k - off]? else cells[k]? := by
  have := Zafo off vs.toList 0 cells (by simpa using h)
  rw [← Array.foldl_toList, Array.toList_zipIdx]
  simpa using this

theorem Z40 {pl : Nat → Option (Nat × Nat)} : ∀ (ps : List (Nat × SV)) (qs : List (Nat × Value)) (cs : List SV) (cells : Array Value) (r : List SV),
    VR g w (.agg cs) (.agg cells) → ps.length = qs.length → (∀ (j : Nat) (x : Nat × SV) (y : Nat × Value), ps[j]? = some x → qs[j]? = some y → x.1 = y.1 ∧ VR g w x.2 y.2) →
    Zeb pl cs ps = some r → ∃ r', Instr.fill pl cells qs = some r' ∧ VR g w (.agg r) (.agg r')
  | [], [], cs, cells, r, hc, _, _, h => by
    simp [Zeb] at h
    subst h
    exact ⟨cells, rfl, hc⟩
  | (i, x) :: ps, (i', v) :: qs, cs, cells, r, hc, hl, hr, h => by
    simp only [Zeb] at h
    split at h
    case h_2 => simp at h
    rename_i o n hpl
    split at h
    case isFalse => simp at h
    rename_i hcond
    obtain ⟨hi, hv⟩ := hr 0 (i, x) (i', v) rfl rfl
    simp only at hi hv
    subst hi
    obtain ⟨⟨hvl, hvr⟩, hone⟩ := hv.cells hcond.1
    cases hc with
    | agg _ _ hcl hco hcr =>
    have hsz : v.cells.size = n := by rw [← hvl]; exact hcond.2.1
    have hle : o + v.cells.size ≤ cells.size := by rw [hsz, ← hcl]; exact hcond.2.2
    obtain ⟨f1, f2⟩ := Zaad o cells v.cells hle
    have hlen : o + x.cells.length ≤ cs.length := by rw [hcond.2.1]; exact hcond.2.2
    have hnew : VR g w (.agg (splice cs o x.cells)) (.agg (v.cells.zipIdx.foldl (fun cs (c, j) => cs.setIfInBounds (o + j) c) cells)) := by
      refine .agg _ _ ?_ ?_ ?_
      · rw [Zu9 hlen, f1, hcl]
      · intro c hc
        unfold splice at hc
        simp only [List.mem_append] at hc
        rcases hc with (hc | hc) | hc
        · exact hco c (List.mem_of_mem_take hc)
        · exact hone c hc
        · exact hco c (List.mem_of_mem_drop hc)
      · intro k y u hy hu
        rw [Z4u hlen] at hy
        rw [f2] at hu
        have he : v.cells.size = x.cells.length := hvl.symm
        rw [he] at hu
        split at hy
        · rename_i hk
          rw [if_pos hk] at hu
          exact hvr _ y u hy hu
        · rename_i hk
          rw [if_neg hk] at hu
          exact hcr k y u hy hu
    obtain ⟨r', hf, hvr'⟩ := Z40 ps qs _ _ r hnew (by simpa using hl) (fun j y u hy hu => hr (j + 1) y u (by simpa using hy) (by simpa using hu)) h
    refine ⟨r', ?_, hvr'⟩
    simp only [Instr.fill, hpl]
    rw [if_neg (by simp [hsz]; omega)]
    exact hf

theorem Z1f {fa : Array Field} {pl : Nat → Option (Nat × Nat)} (h : placesOf P (.struct (fa.toList.map fun f => (f.type, f.offset))) = some pl) :
    ∃ ps : Array (Nat × Nat), (fa.mapM fun f => do pure (f.offset, ← sizeOf f.type) : Sem (Array (Nat × Nat))).run P w = .ok ps w ∧ ∀ i, pl i = ps[i]? := by
  simp only [placesOf] at h
  split at h
  case h_2 => cases h
  rename_i ps hps
  simp only [Option.some.injEq] at h
  subst h
  refine ⟨ps.toArray, ?_, by simp⟩
  rw [Array.mapM_eq_mapM_toList]
  generalize fa.toList = l at hps
  have key : ∀ (F : Field → Sem (Nat × Nat)), (∀ f i, P.info? f.type = some i → (F f).run P w = .ok (f.offset, i.size) w) →
      ∀ (l : List Field) (ps : List (Nat × Nat)), (l.map fun f => (f.type, f.offset)).mapM (fun f => match Zbz P f.1 with | some x => some (f.2, x.size) | none => none) = some ps →
      (l.mapM F).run P w = .ok ps w := by
    intro F hF l
    induction l with
    | nil => intro ps h; simp at h; subst h; simp
    | cons f l ih =>
      intro ps h
      simp only [List.map_cons, List.mapM_cons, Option.bind_eq_bind, Option.bind_eq_some_iff] at h
      obtain ⟨p, hp, qs, hqs, he⟩ := h
      split at hp
      case h_2 => simp at hp
      rename_i ti hti
      obtain ⟨d, i, hd, hi, rfl⟩ := Zba hti
      simp only [Option.some.injEq] at hp
      simp only [Option.pure_def, Option.some.injEq] at he
      subst hp he
      simp [hF f i hi, ih qs hqs]
  have hk := key (fun f => do pure (f.offset, ← sizeOf f.type)) (fun f i hi => by simp [Zce hi]) l ps hps
  simp only [Sem.run_map, hk, Result.andThen_ok]

end Go.Proofs.YtfphjfbknphhjaaGreatDoor.Sh

/-
  The shadow interpreter, text 6: memory that is made and written. No condition.
-/
set_option linter.unusedVariables false
set_option linter.unusedSimpArgs false
namespace Go.Proofs.YtfphjfbknphhjaaGreatDoor.Sh
variable {E : Env} {P : Program} {g : Gh} {w : World}

def Gh.new (g : Gh) (id b n : Nat) : Gh :=
  { g with own := fun j => if j = id then some b else g.own j, esz := fun j => if j = id then n else g.esz j }

theorem Mem.Ztn (M : Mem) (id : Nat) (b : Option (List SV)) : (M.set id b).blk id = b := by simp [Mem.set]
theorem Mem.Zko (M : Mem) {id j : Nat} (b : Option (List SV)) (h : j ≠ id) : (M.set id b).blk j = M.blk j := by simp [Mem.set, h]

theorem Zea (g : Gh) (id b n : Nat) : (g.new id b n).own id = some b ∧ (g.new id b n).esz id = n := by simp [Gh.new]

theorem MR.new {M : Mem} {fr : Nat → Prop} (hM : MR E g w M fr) {id : Nat} (hid : fr id) {items : List SV} {n : Nat} (hu : ∀ x ∈ items, x.cells.length = n)
    {c : Array Value} {e : TypeId} (hc : ∀ (k : Nat) (x : SV), (flat items)[k]? = some x → x.one = true ∧ ∃ v, c[k]? = some v ∧ VR g w x v)
    {w' : World} (hh : w'.heap = w.heap.push (Obj.cells c e (0, 0))) (ho : w'.os = w.os) (ht : w'.tape = w.tape) (hp : w'.output = w.output) :
    Evo g w (g.new id w.heap.size n) w' ∧ MR E (g.new id w.heap.size n) w' (M.set id (some items)) (fun j => fr j ∧ j ≠ id) := by
  have hold : ∀ b, b < w.heap.size → w'.heap[b]? = w.heap[b]? := fun b hb => by rw [hh, Array.getElem?_push, if_neg (by omega)]
  have hnew : w'.heap[w.heap.size]? = some (Obj.cells c e (0, 0)) := by rw [hh]; simp
  have hsz : w'.heap.size = w.heap.size + 1 := by rw [hh]; simp
  have hnone := hM.fresh id hid
  have evo : Evo g w (g.new id w.heap.size n) w' := by
    refine ⟨rfl, rfl, rfl, fun j b hj => ?_, fun _ => Nat.le_refl _, fun b o v _ h => ?_, fun b c0 t fr0 h => ?_, ⟨ho, ht, hp, by omega, fun k hk => hold k (Nat.lt_of_lt_of_le hk hM.base)⟩⟩
    · have hne : j ≠ id := by rintro rfl; rw [hnone] at hj; cases hj
      simp [Gh.new, hne, hj]
    · have hlt := lt_of_cell? h
      rw [World.cell?_of_block (a := ⟨b, o, none⟩) (hold b hlt)]
      exact h
    · exact ⟨c0, by rw [hold b (Array.getElem?_eq_some_iff.1 h).1]; exact h, rfl⟩
  refine ⟨evo, ?_⟩
  have hwz : g.hw w.heap.size = 0 := by
    rcases Nat.eq_zero_or_pos (g.hw w.heap.size) with h | h
    · exact h
    · have := (hM.hwb _ h).2; omega
  refine ⟨hM.good, by rw [hsz]; have := hM.base; exact Nat.le_succ_of_le this, fun j its hj => ?_, fun j j' b h1 h2 h3 h4 => ?_, fun j hj => ?_, fun b hb => ?_, fun j b hj => ?_, fun m its hm => (hM.glob m its hm).mono hM.good evo, hM.plain, hM.raw.mono evo, hM.sent.mono evo⟩
  · by_cases hji : j = id
    · subst hji
      rw [Mem.Ztn] at hj
      cases hj
      refine ⟨w.heap.size, c, e, (Zea g j _ n).1, hM.base, hwz, by rw [(Zea g j _ n).2]; exact hu, hnew, fun k x hk => ?_⟩
      obtain ⟨h1, v, hv, hr⟩ := hc k x hk
      exact ⟨h1, v, hv, hr.mono hM.good evo⟩
    · rw [Mem.Zko _ _ hji] at hj
      obtain ⟨b, c0, t, h1, h2, h3, h4, h5, h6⟩ := hM.blk j its hj
      refine ⟨b, c0, t, (evo.own j b h1).1, h2, h3, by rw [(evo.own j b h1).2]; exact h4, by rw [hold b (hM.lt j b h1)]; exact h5, fun k x hk => ?_⟩
      obtain ⟨a1, v, a2, a3⟩ := h6 k x hk
      exact ⟨a1, v, a2, a3.mono hM.good evo⟩
  · by_cases hji : j = id
    · by_cases hji' : j' = id
      · rw [hji, hji']
      · rw [hji] at h3
        simp [Gh.new] at h3
        simp [Gh.new, hji'] at h4
        have := hM.lt j' b h4
        omega
    · by_cases hji' : j' = id
      · rw [hji'] at h4
        simp [Gh.new] at h4
        simp [Gh.new, hji] at h3
        have := hM.lt j b h3
        omega
      · rw [Mem.Zko _ _ hji] at h1
        rw [Mem.Zko _ _ hji'] at h2
        simp [Gh.new, hji] at h3
        simp [Gh.new, hji'] at h4
        exact hM.inj j j' b h1 h2 h3 h4
  · simp [Gh.new, hj.2, hM.fresh j hj.1]
  · obtain ⟨q1, q2⟩ := hM.hwb b hb
    exact ⟨q1, by omega⟩
  · by_cases hji : j = id
    · subst hji
      simp [Gh.new] at hj
      omega
    · simp [Gh.new, hji] at hj
      have := hM.lt j b hj
      omega

theorem MR.kill {M : Mem} {fr : Nat → Prop} (hM : MR E g w M fr) (id : Nat) : MR E g w (M.set id none) fr := by
  have hsub : ∀ j its, (M.set id none).blk j = some its → M.blk j = some its := by
    intro j its h
    by_cases hj : j = id
    · subst hj; rw [Mem.Ztn] at h; cases h
    · rwa [Mem.Zko _ _ hj] at h
  have hsub' : ∀ j, ((M.set id none).blk j).isSome = true → (M.blk j).isSome = true := by
    intro j h
    cases hb : (M.set id none).blk j with
    | none => rw [hb] at h; cases h
    | some its => rw [hsub j its hb]; rfl
  exact ⟨hM.good, hM.base, fun j its h => hM.blk j its (hsub j its h), fun j j' b h1 h2 h3 h4 => hM.inj j j' b (hsub' j h1) (hsub' j' h2) h3 h4, hM.fresh, hM.hwb, hM.lt, hM.glob, hM.plain, hM.raw, hM.sent⟩

/-- One of the call's own blocks is written: nothing else turns. -/
theorem Z4r {M : Mem} {fr : Nat → Prop} (hM : MR E g w M fr) {b : Nat} {c c' : Array Value} {e : TypeId} (hb : g.base ≤ b) (hw : g.hw b = 0)
    (hheap : w.heap[b]? = some (Obj.cells c e (0, 0))) (hsz : c'.size = c.size) : Evo g w g (w.setRow b c') := by
  refine ⟨rfl, rfl, rfl, fun _ _ h => ⟨h, rfl⟩, fun _ => Nat.le_refl _, fun b0 o v hn h => ?_, fun b0 c0 t fr0 h => ?_, ⟨rfl, rfl, rfl, by simp, fun k hk => setRow_other w b k c' (by omega)⟩⟩
  · have hne : b0 ≠ b := by
      rintro rfl
      rcases hn with hn | hn
      · omega
      · omega
    rw [World.cell?_of_block (a := ⟨b0, o, none⟩) (setRow_other w b b0 c' hne)]
    exact h
  · by_cases hne : b0 = b
    · subst hne
      rw [hheap] at h
      cases h
      exact ⟨c', setRow_heap w b0 c c' e (0, 0) hheap, hsz⟩
    · exact ⟨c0, by rw [setRow_other w b b0 c' hne]; exact h, rfl⟩

theorem MR.put {M : Mem} {fr : Nat → Prop} (hM : MR E g w M fr) {id b : Nat} {items items' : List SV} {c c' : Array Value} {e : TypeId} (hblk : M.blk id = some items) (hown : g.own id = some b)
    (hheap : w.heap[b]? = some (Obj.cells c e (0, 0))) (hsz : c'.size = c.size) (hu : ∀ x ∈ items', x.cells.length = g.esz id)
    (hc : ∀ (k : Nat) (x : SV), (flat items')[k]? = some x → x.one = true ∧ ∃ v, c'[k]? = some v ∧ VR g w x v) :
    Evo g w g (w.setRow b c') ∧ MR E g (w.setRow b c') (M.set id (some items')) fr := by
  obtain ⟨b', c0, t0, ho, hb, hw, hu0, hheap0, _⟩ := hM.blk id items hblk
  obtain rfl : b' = b := by rw [hown] at ho; simpa using ho.symm
  have evo := Z4r hM hb hw hheap hsz
  refine ⟨evo, hM.good, by simpa using hM.base, fun j its hj => ?_, fun j j' q h1 h2 h3 h4 => ?_, hM.fresh, fun q hq => by simpa using hM.hwb q hq, fun j q hj => by simpa using hM.lt j q hj, fun m its hm => (hM.glob m its hm).mono hM.good evo, hM.plain, hM.raw.mono evo, hM.sent.mono evo⟩
  · by_cases hji : j = id
    · subst hji
      rw [Mem.Ztn] at hj
      cases hj
      refine ⟨b', c', e, hown, hb, hw, hu, setRow_heap w b' c c' e (0, 0) hheap, fun k x hk => ?_⟩
      obtain ⟨h1, v, hv, hr⟩ := hc k x hk
      exact ⟨h1, v, hv, hr.mono hM.good evo⟩
    · rw [Mem.Zko _ _ hji] at hj
      obtain ⟨q, c1, t1, h1, h2, h3, h4, h5, h6⟩ := hM.blk j its hj
      have hne : q ≠ b' := by
        rintro rfl
        exact hji (hM.inj j id q (by rw [hj]; rfl) (by rw [hblk]; rfl) h1 hown)
      refine ⟨q, c1, t1, h1, h2, h3, h4, by rw [setRow_other w b' q c' hne]; exact h5, fun k x hk => ?_⟩
      obtain ⟨a1, v, a2, a3⟩ := h6 k x hk
      exact ⟨a1, v, a2, a3.mono hM.good evo⟩
  · have conv : ∀ j, ((M.set id (some items')).blk j).isSome = true → (M.blk j).isSome = true := by
      intro j h
      by_cases hji : j = id
      · subst hji; rw [hblk]; rfl
      · rwa [Mem.Zko _ _ hji] at h
    exact hM.inj j j' q (conv j h1) (conv j' h2) h3 h4

/-- A block gets a new number, and more cells: an append in place. -/
theorem MR.move {M : Mem} {fr : Nat → Prop} (hM : MR E g w M fr) {id a b : Nat} (ha : fr a) {items items' : List SV} {c c' : Array Value} {e : TypeId} (hblk : M.blk id = some items) (hown : g.own id = some b)
    (hheap : w.heap[b]? = some (Obj.cells c e (0, 0))) (hsz : c'.size = c.size) (hu : ∀ x ∈ items', x.cells.length = g.esz id)
    (hc : ∀ (k : Nat) (x : SV), (flat items')[k]? = some x → x.one = true ∧ ∃ v, c'[k]? = some v ∧ VR g w x v) :
    Evo g w (g.new a b (g.esz id)) (w.setRow b c') ∧ MR E (g.new a b (g.esz id)) (w.setRow b c') ((M.set id none).set a (some items')) (fun j => fr j ∧ j ≠ a) := by
  obtain ⟨b', c0, t0, ho, hb, hw, hu0, hheap0, _⟩ := hM.blk id items hblk
  obtain rfl : b' = b := by rw [hown] at ho; simpa using ho.symm
  have hnone := hM.fresh a ha
  have hai : a ≠ id := by rintro rfl; rw [hnone] at hown; cases hown
  have e0 := Z4r hM hb hw hheap hsz
  have evo : Evo g w (g.new a b' (g.esz id)) (w.setRow b' c') := by
    refine ⟨rfl, rfl, rfl, fun j q hj => ?_, fun _ => Nat.le_refl _, e0.cell, e0.size, e0.below⟩
    have hne : j ≠ a := by rintro rfl; rw [hnone] at hj; cases hj
    simp [Gh.new, hne, hj]
  refine ⟨evo, hM.good, by rw [setRow_size]; exact hM.base, fun j its hj => ?_, fun j j' q h1 h2 h3 h4 => ?_, fun j hj => ?_, fun q hq => by rw [setRow_size]; exact hM.hwb q hq, fun j q hj => ?_, fun m its hm => (hM.glob m its hm).mono hM.good evo, hM.plain, hM.raw.mono evo, hM.sent.mono evo⟩
  · by_cases hja : j = a
    · subst hja
      rw [Mem.Ztn] at hj
      cases hj
      refine ⟨b', c', e, (Zea g j _ _).1, hb, hw, by rw [(Zea g j _ _).2]; exact hu, setRow_heap w b' c c' e (0, 0) hheap, fun k x hk => ?_⟩
      obtain ⟨h1, v, hv, hr⟩ := hc k x hk
      exact ⟨h1, v, hv, hr.mono hM.good evo⟩
    · rw [Mem.Zko _ _ hja] at hj
      by_cases hji : j = id
      · subst hji; rw [Mem.Ztn] at hj; cases hj
      rw [Mem.Zko _ _ hji] at hj
      obtain ⟨q, c1, t1, h1, h2, h3, h4, h5, h6⟩ := hM.blk j its hj
      have hne : q ≠ b' := by
        rintro rfl
        exact hji (hM.inj j id q (by rw [hj]; rfl) (by rw [hblk]; rfl) h1 hown)
      refine ⟨q, c1, t1, (evo.own j q h1).1, h2, h3, by rw [(evo.own j q h1).2]; exact h4, by rw [setRow_other w b' q c' hne]; exact h5, fun k x hk => ?_⟩
      obtain ⟨a1, v, a2, a3⟩ := h6 k x hk
      exact ⟨a1, v, a2, a3.mono hM.good evo⟩
  · have conv : ∀ j, (((M.set id none).set a (some items')).blk j).isSome = true → j = a ∨ (j ≠ a ∧ j ≠ id ∧ (M.blk j).isSome = true) := by
      intro j h
      by_cases hja : j = a
      · exact .inl hja
      · rw [Mem.Zko _ _ hja] at h
        by_cases hji : j = id
        · subst hji; rw [Mem.Ztn] at h; cases h
        · rw [Mem.Zko _ _ hji] at h
          exact .inr ⟨hja, hji, h⟩
    have hlive : (M.blk id).isSome = true := by rw [hblk]; rfl
    rcases conv j h1 with rfl | ⟨hja, hji, hl⟩ <;> rcases conv j' h2 with rfl | ⟨hja', hji', hl'⟩
    · rfl
    · simp [Gh.new] at h3
      simp [Gh.new, hja'] at h4
      subst h3
      exact absurd (hM.inj j' id _ hl' hlive h4 hown) hji'
    · simp [Gh.new, hja] at h3
      simp [Gh.new] at h4
      subst h4
      exact absurd (hM.inj j id _ hl hlive h3 hown) hji
    · simp [Gh.new, hja] at h3
      simp [Gh.new, hja'] at h4
      exact hM.inj j j' q hl hl' h3 h4
  · simp [Gh.new, hj.2, hM.fresh j hj.1]
  · by_cases hja : j = a
    · subst hja
      simp [Gh.new] at hj
      subst hj
      simpa using hM.lt id b' hown
    · simp [Gh.new, hja] at hj
      simpa using hM.lt j q hj

/-! ### New variables, literals -/

/-- A new block of values that are told. -/
theorem Z0s {M : Mem} {fr : Nat → Prop} (hM : MR E g w M fr) {a : Nat} (ha : fr a) {items : List SV} {n : Nat} (hu : ∀ x ∈ items, x.cells.length = n) {c : Array Value} (e : TypeId)
    (hc : ∀ (k : Nat) (x : SV), (flat items)[k]? = some x → x.one = true ∧ ∃ v, c[k]? = some v ∧ VR g w x v) :
    (newRow e c).run P w = .ok ⟨w.heap.size, 0, none⟩ { w with heap := w.heap.push (Obj.cells c e (0, 0)) } ∧
    Evo g w (g.new a w.heap.size n) { w with heap := w.heap.push (Obj.cells c e (0, 0)) } ∧
    MR E (g.new a w.heap.size n) { w with heap := w.heap.push (Obj.cells c e (0, 0)) } (M.set a (some items)) (fun j => fr j ∧ j ≠ a) :=
  ⟨by simp [newRow], hM.new ha hu hc rfl rfl rfl rfl⟩

theorem Zapb (x : SV) : flat [x] = x.cells := by simp [flat]

/-- A value's cells, in a new block. -/
theorem Zab4 {s : SV} {v : Value} (h : VR g w s v) (hs : s.sto = true) : ∀ (k : Nat) (x : SV), (flat [s])[k]? = some x → x.one = true ∧ ∃ u, v.cells[k]? = some u ∧ VR g w x u := by
  intro k x hk
  rw [Zapb] at hk
  obtain ⟨⟨hl, hr⟩, hone⟩ := h.cells hs
  have hlt : k < v.cells.size := by rw [← hl]; exact (List.getElem?_eq_some_iff.1 hk).1
  exact ⟨hone x (List.mem_of_getElem? hk), v.cells[k], by simp [hlt], hr k x _ hk (by simp [hlt])⟩

theorem Zan6 {M : Mem} {fr : Nat → Prop} (hM : MR E g w M fr) {a : Nat} (ha : fr a) {s : SV} {v : Value} (h : VR g w s v) (hs : s.sto = true) (e : TypeId) :
    ∃ w' g', (newVar e v).run P w = .ok ⟨w.heap.size, 0, none⟩ w' ∧ Evo g w g' w' ∧ MR E g' w' (M.set a (some [s])) (fun j => fr j ∧ j ≠ a) ∧ VR g' w' (.ptr a 0 0) (.pointer (some ⟨w.heap.size, 0, none⟩)) ∧ ∀ j, j ≠ a → g'.own j = g.own j := by
  obtain ⟨h1, h2, h3⟩ := Z0s (P := P) hM ha (items := [s]) (n := s.cells.length) (by simp) e (Zab4 h hs)
  refine ⟨_, _, h1, h2, h3, ?_, fun j hj => by simp [Gh.new, hj]⟩
  have := VR.ptr (g := g.new a w.heap.size s.cells.length) (w := { w with heap := w.heap.push (Obj.cells v.cells e (0, 0)) }) a 0 0 w.heap.size (Zea g a _ _).1
  simpa using this

/-- Rows of equal items, as a literal lays them. -/
theorem Zxj {n len : Nat} (hn : 0 < n) : ∀ (ps : List (Nat × SV)) (qs : List (Nat × Value)) (xs : List SV) (cells : Array Value) (r : List SV),
    xs.length = len → cells.size = len * n → (∀ x ∈ xs, x.cells.length = n) → (∀ (k : Nat) (x : SV), (flat xs)[k]? = some x → x.one = true ∧ ∃ v, cells[k]? = some v ∧ VR g w x v) →
    ps.length = qs.length → (∀ (j : Nat) (x : Nat × SV) (y : Nat × Value), ps[j]? = some x → qs[j]? = some y → x.1 = y.1 ∧ VR g w x.2 y.2) →
    Zb4 n len xs ps = some r → ∃ r', Instr.fill (fun i => some (i * n, n)) cells qs = some r' ∧ r.length = len ∧ r'.size = len * n ∧ (∀ x ∈ r, x.cells.length = n) ∧
      ∀ (k : Nat) (x : SV), (flat r)[k]? = some x → x.one = true ∧ ∃ v, r'[k]? = some v ∧ VR g w x v
  | [], [], xs, cells, r, hl, hs, hu, hc, _, _, h => by
    simp [Zb4] at h
    subst h
    exact ⟨cells, rfl, hl, hs, hu, hc⟩
  | (i, x) :: ps, (i', v) :: qs, xs, cells, r, hl, hs, hu, hc, hpq, hr, h => by
    simp only [Zb4] at h
    split at h
    case isFalse => cases h
    rename_i hcond
    obtain ⟨hi, hv⟩ := hr 0 (i, x) (i', v) rfl rfl
    simp only at hi hv
    subst hi
    obtain ⟨⟨hvl, hvr⟩, hone⟩ := hv.cells hcond.1
    have hsz : v.cells.size = n := by rw [← hvl]; exact hcond.2.1
    have hin : i * n + n ≤ len * n := by rw [← Nat.succ_mul]; exact Nat.mul_le_mul_right _ hcond.2.2
    have hle : i * n + v.cells.size ≤ cells.size := by rw [hsz, hs]; exact hin
    obtain ⟨f1, f2⟩ := Zaad (i * n) cells v.cells hle
    have hu' : ∀ y ∈ xs.set i x, y.cells.length = n := by
      intro y hy
      rcases List.mem_or_eq_of_mem_set hy with hy | rfl
      · exact hu y hy
      · exact hcond.2.1
    obtain ⟨r', hf, h1, h2, h3, h4⟩ := Zxj hn ps qs (xs.set i x) _ r (by simpa using hl) (by rw [f1]; exact hs) hu' (fun k y hk => by
      have hk0 : k < len * n := by
        have := (List.getElem?_eq_some_iff.1 hk).1
        rw [flat_length hu'] at this
        simpa [hl] using this
      have hdiv : k = (k / n) * n + k % n := by rw [Nat.mul_comm]; exact (Nat.div_add_mod k n).symm
      have hmod : k % n < n := Nat.mod_lt _ hn
      have hdl : k / n < len := Nat.div_lt_of_lt_mul (by rw [Nat.mul_comm]; exact hk0)
      have hyk : (xs.set i x)[k / n]? = some ((xs.set i x)[k / n]'(by simp [hl]; exact hdl)) := by simp [hl, hdl]
      have hfg := flat_get (k / n) (k % n) _ hu' hyk hmod
      rw [← hdiv, hk] at hfg
      by_cases hki : k / n = i
      · subst hki
        have hx' : (xs.set (k / n) x)[k / n]'(by simp [hl]; exact hdl) = x := by simp
        rw [hx'] at hfg
        have hlt : k % n < v.cells.size := by rw [hsz]; exact hmod
        refine ⟨hone y (List.mem_of_getElem? hfg.symm), v.cells[k % n], ?_, hvr _ y _ hfg.symm (by simp [hlt])⟩
        rw [f2, if_pos (by rw [hsz]; omega)]
        have : k - k / n * n = k % n := by omega
        rw [this]
        simp [hlt]
      · have hx' : (xs.set i x)[k / n]'(by simp [hl]; exact hdl) = xs[k / n]'(by rw [hl]; exact hdl) := by
          simp [List.getElem_set, Ne.symm hki]
        rw [hx'] at hfg
        have hfo := flat_get (k / n) (k % n) (xs[k / n]'(by rw [hl]; exact hdl)) hu (by simp [hl, hdl]) hmod
        rw [← hdiv, ← hfg] at hfo
        obtain ⟨a1, u, a2, a3⟩ := hc k y hfo
        refine ⟨a1, u, ?_, a3⟩
        rw [f2, if_neg ?_]
        · exact a2
        · rw [hsz]
          rintro ⟨b1, b2⟩
          apply hki
          have hnn : n ≠ 0 := by omega
          apply Nat.div_eq_of_lt_le
          · exact b1
          · rw [Nat.succ_mul]; exact b2) (by simpa using hpq) (fun j y u hy hu => hr (j + 1) y u (by simpa using hy) (by simpa using hu)) h
    refine ⟨r', ?_, h1, h2, h3, h4⟩
    simp only [Instr.fill]
    rw [if_neg (by simp [hsz]; rw [hs]; omega)]
    exact hf

end Go.Proofs.YtfphjfbknphhjaaGreatDoor.Sh

/-
  The shadow interpreter, text 7: new variables, literals, make, stores, append. No condition.
-/
set_option linter.unusedVariables false
set_option linter.unusedSimpArgs false
namespace Go.Proofs.YtfphjfbknphhjaaGreatDoor.Sh
variable {E : Env} {P : Program} {g : Gh} {w : World}

/-- What an operation leaves: memory gone on, the number 'a' taken at most. -/
structure Done (E : Env) (g : Gh) (w : World) (g' : Gh) (w' : World) (M' : Mem) (fr : Nat → Prop) (a : Nat) : Prop where
  evo : Evo g w g' w'
  mr : MR E g' w' M' (fun j => fr j ∧ j ≠ a)
  keep : ∀ j, j ≠ a → g'.own j = g.own j

theorem Done.same {M : Mem} {fr : Nat → Prop} (hM : MR E g w M fr) (a : Nat) : Done E g w g w M fr a :=
  ⟨.refl g w, hM.weaken fun _ h => h.1, fun _ _ => rfl⟩

theorem Zalj {M : Mem} {fr : Nat → Prop} (hM : MR E g w M fr) {a : Nat} (ha : fr a) {t : Nat} {ti : TI} {z : SV} (hti : Zbz P t = some ti) (hz : ti.zero = some z) (hs : z.sto = true) :
    ∃ w' g' v', (Instr.alloc t true (.tuple #[])).run P w = .ok v' w' ∧ Done E g w g' w' (M.set a (some [z])) fr a ∧ VR g' w' (.ptr a 0 0) v' := by
  obtain ⟨d, i, hd, hi, rfl⟩ := Zba hti
  simp only [Option.map_eq_some_iff] at hz
  obtain ⟨zv, hzv, rfl⟩ := hz
  obtain ⟨w', g', h1, h2, h3, h4, h5⟩ := Zan6 (P := P) hM ha (VR.Zuf g w zv) hs t
  exact ⟨w', g', _, by simp [Instr.alloc, zeroValue, run_typeInfo hi, hzv, h1], ⟨h2, h3, h5⟩, h4⟩

theorem Zats {M : Mem} {fr : Nat → Prop} (hM : MR E g w M fr) {a : Nat} (ha : fr a) {t : Nat} {x : SV} {x' : Value} (hx : VR g w x x') (hs : x.sto = true) :
    ∃ w' g' v', (Instr.box t x').run P w = .ok v' w' ∧ Done E g w g' w' (M.set a (some [x])) fr a ∧ VR g' w' (.ptr a 0 0) v' := by
  obtain ⟨w', g', h1, h2, h3, h4, h5⟩ := Zan6 (P := P) hM ha hx hs t
  exact ⟨w', g', _, by simp [Instr.box, h1], ⟨h2, h3, h5⟩, h4⟩

/-- Rows of zeros. -/
theorem Zagk {z : SV} {zv : Value} {n len : Nat} (hz : VR g w z zv) (hs : z.sto = true) (hn : z.cells.length = n) (h0 : 0 < n) :
    (∀ x ∈ List.replicate len z, x.cells.length = n) ∧
    ∀ (k : Nat) (x : SV), (flat (List.replicate len z))[k]? = some x → x.one = true ∧ ∃ v, ((Array.range (len * n)).map (zv.cells[· % zv.cells.size]!))[k]? = some v ∧ VR g w x v := by
  have hu : ∀ x ∈ List.replicate len z, x.cells.length = n := fun x hx => by rw [(List.mem_replicate.1 hx).2]; exact hn
  refine ⟨hu, fun k x hk => ?_⟩
  obtain ⟨⟨hl, hr⟩, hone⟩ := hz.cells hs
  have hk0 : k < len * n := by
    have := (List.getElem?_eq_some_iff.1 hk).1
    rw [flat_length hu] at this
    simpa using this
  have hdiv : k = (k / n) * n + k % n := by rw [Nat.mul_comm]; exact (Nat.div_add_mod k n).symm
  have hmod : k % n < n := Nat.mod_lt _ h0
  have hdl : k / n < len := Nat.div_lt_of_lt_mul (by rw [Nat.mul_comm]; exact hk0)
  have hg := flat_get (k / n) (k % n) z hu (by simp [hdl]) hmod
  rw [← hdiv, hk] at hg
  have hsz : zv.cells.size = n := by rw [← hl]; exact hn
  have hlt : k % n < zv.cells.size := by rw [hsz]; exact hmod
  refine ⟨hone x (List.mem_of_getElem? hg.symm), zv.cells[k % n], ?_, hr _ x _ hg.symm (by simp [hlt])⟩
  have : k < (Array.range (len * n)).size := by simpa using hk0
  simp [hk0, hsz, hmod]

theorem Z2v {M : Mem} {fr : Nat → Prop} (hM : MR E g w M fr) {a : Nat} (ha : fr a) {t e len : Nat} {x1 x2 : Nat} {x3 : Option SV} {te : TI} {z : SV} {r : List SV} {ps : List (Nat × SV)} {qs : Array (Nat × Value)}
    (ht : Zbz P t = some ⟨.slice e, x1, x2, x3⟩) (hte : Zbz P e = some te) (hz : te.zero = some z) (hc : z.sto = true ∧ z.cells.length = te.size ∧ 0 < te.size ∧ len * te.size ≤ 16777216)
    (hl : ps.length = qs.size) (hr : ∀ (j : Nat) (x : Nat × SV) (y : Nat × Value), ps[j]? = some x → qs[j]? = some y → x.1 = y.1 ∧ VR g w x.2 y.2)
    (hb : Zb4 te.size len (List.replicate len z) ps = some r) :
    ∃ w' g' v', (Instr.buildSlice t len qs).run P w = .ok v' w' ∧ Done E g w g' w' (M.set a (some r)) fr a ∧ VR g' w' (.own a te.size 0 len) v' := by
  obtain ⟨d, i, hd, hi, he⟩ := Zba ht
  simp only [TI.mk.injEq] at he
  obtain rfl := Zgg he.1.symm
  obtain ⟨d2, i2, hd2, hi2, rfl⟩ := Zba hte
  simp only [Option.map_eq_some_iff] at hz
  obtain ⟨zv, hzv, rfl⟩ := hz
  obtain ⟨hs, hn, h0, hlim⟩ := hc
  simp only at hn h0 hlim hb ⊢
  have hzr := VR.Zuf g w zv
  obtain ⟨hu, hcells⟩ := Zagk (len := len) hzr hs hn h0
  obtain ⟨r', hf, h1, h2, h3, h4⟩ := Zxj h0 ps qs.toList (List.replicate len (Sh.Zuf zv)) _ r (by simp) (by simp) hu hcells (by simpa using hl) (by simpa using hr) hb
  obtain ⟨k1, k2, k3⟩ := Z0s (P := P) hM ha h3 e h4
  refine ⟨_, _, .slice (some ⟨w.heap.size, 0, none⟩) len len, ?_, ⟨k2, k3, fun j hj => by simp [Gh.new, hj]⟩, ?_⟩
  · have hlim' : ¬ (16777216 < len * i2.size) := by omega
    by_cases hl0 : len * i2.size = 0
    · rw [hl0] at hf
      have hr0 : Array.range 0 = #[] := rfl
      simp only [hr0, List.map_toArray, List.map_nil] at hf
      simp [Instr.buildSlice, run_underlying hd, Zce hi2, hl0, hr0, hf, k1]
    · simp only [Instr.buildSlice, Sem.run_bind, run_underlying hd, Result.andThen_ok, Zce hi2, if_neg hlim', if_neg hl0, zeroValue, run_typeInfo hi2, hzv, Sem.run_pure]
      simp [hf, k1]
  · have := VR.own (g := g.new a w.heap.size i2.size) (w := { w with heap := w.heap.push (Obj.cells r' e (0, 0)) }) a i2.size 0 len w.heap.size len (Zea g a _ _).1 (Zea g a _ _).2 (Nat.le_refl _)
      ⟨r', e, by simp, by rw [h2]; simp⟩
    simpa using this

theorem Z55 {M : Mem} {fr : Nat → Prop} (hM : MR E g w M fr) {a : Nat} (ha : fr a) {t e : Nat} {n : Int} {x1 x2 : Nat} {x3 : Option SV} {te : TI} {z : SV}
    (ht : Zbz P t = some ⟨.slice e, x1, x2, x3⟩) (hte : Zbz P e = some te) (hz : te.zero = some z) (hc : z.sto = true ∧ z.cells.length = te.size ∧ 0 < te.size ∧ 0 ≤ n ∧ n * te.bytes ≤ 281474976710656 ∧ n ≤ 281474976710656) :
    ∃ w' g' v', (Instr.makeSlice t (.int .i64 n) (.int .i64 n)).run P w = .ok v' w' ∧ Done E g w g' w' (M.set a (some (List.replicate n.toNat z))) fr a ∧ VR g' w' (.own a te.size 0 n.toNat) v' := by
  obtain ⟨d, i, hd, hi, he⟩ := Zba ht
  simp only [TI.mk.injEq] at he
  obtain rfl := Zgg he.1.symm
  obtain ⟨d2, i2, hd2, hi2, rfl⟩ := Zba hte
  simp only [Option.map_eq_some_iff] at hz
  obtain ⟨zv, hzv, rfl⟩ := hz
  obtain ⟨hs, hn, h0, hge, hby, hlt⟩ := hc
  simp only at hn h0 hby ⊢
  have hzr := VR.Zuf g w zv
  obtain ⟨hu, hcells⟩ := Zagk (len := n.toNat) hzr hs hn h0
  obtain ⟨k1, k2, k3⟩ := Z0s (P := P) hM ha hu e hcells
  refine ⟨_, _, .slice (some ⟨w.heap.size, 0, none⟩) n.toNat n.toNat, ?_, ⟨k2, k3, fun j hj => by simp [Gh.new, hj]⟩, ?_⟩
  · have hwrap : IntKind.i64.wrap n = n := by
      simp [IntKind.wrap, IntKind.bits, IntKind.signed]
      omega
    have hby' : ¬ (281474976710656 < (i2.bytes : Int) * n) := by rw [Int.mul_comm]; omega
    have h1 : ¬ n < 0 := by omega
    simp only [Instr.makeSlice, asInt, asIntOf, Sem.run_bind, run_underlying hd, Result.andThen_ok, run_typeInfo hi2, Sem.run_pure, hwrap]
    have hcond : ((decide (n < 0) || decide ((i2.bytes : Int) * n > 2 ^ 48)) || decide (n < 0) || decide (n > n)) = false := by
      simp [h1]
      omega
    by_cases hl0 : n.toNat * i2.size = 0
    · have hn0 : n.toNat = 0 := by
        rcases Nat.mul_eq_zero.1 hl0 with h | h
        · exact h
        · omega
      have hr0 : Array.range 0 = #[] := rfl
      rw [hl0] at k1
      simp only [hr0, List.map_toArray, List.map_nil] at k1
      simp [h1, hby', hl0, Zce hi2, hn0, hr0, k1]
    · simp [h1, hby', hl0, Zce hi2, zeroValue, run_typeInfo hi2, hzv, k1]
  · have := VR.own (g := g.new a w.heap.size i2.size) (w := { w with heap := w.heap.push (Obj.cells ((Array.range (n.toNat * i2.size)).map (zv.cells[· % zv.cells.size]!)) e (0, 0)) }) a i2.size 0 n.toNat w.heap.size n.toNat (Zea g a _ _).1 (Zea g a _ _).2 (Nat.le_refl _)
      ⟨(Array.range (n.toNat * i2.size)).map (zv.cells[· % zv.cells.size]!), e, by simp, by simp⟩
    simpa using this


/-! ### Stores -/

theorem Z9j {x v x' : SV} {o : Nat} (hv : ∀ c ∈ v.cells, c.one = true) (h : Zg x o v = some x') :
    x'.cells.length = x.cells.length ∧ o + v.cells.length ≤ x.cells.length ∧
      ∀ q, x'.cells[q]? = if o ≤ q ∧ q < o + v.cells.length then v.cells[q - o]? else x.cells[q]? := by
  unfold Zg at h
  split at h
  · rename_i hc
    obtain ⟨rfl, hl⟩ := hc
    have key : ∀ y : SV, y.cells = v.cells → y.cells.length = x.cells.length ∧ 0 + v.cells.length ≤ x.cells.length ∧
        ∀ q, y.cells[q]? = if 0 ≤ q ∧ q < 0 + v.cells.length then v.cells[q - 0]? else x.cells[q]? := by
      intro y hy
      refine ⟨by rw [hy, hl], by omega, fun q => ?_⟩
      rw [hy]
      split
      · rfl
      · rename_i hq
        rw [List.getElem?_eq_none (by omega), List.getElem?_eq_none (by omega)]
    simp only [Option.some.injEq] at h
    subst h
    split
    · rename_i h1
      split
      · exact key _ rfl
      · have hl1 : v.cells.length = 1 := by omega
        obtain ⟨c, hc⟩ := List.length_eq_one_iff.1 hl1
        refine key _ ?_
        rw [hc]
        have hone := hv c (by rw [hc]; simp)
        exact cells_one hone
    · exact key v rfl
  · split at h
    · rename_i cs
      split at h
      case isFalse => cases h
      rename_i hle
      simp only [Option.some.injEq] at h
      subst h
      exact ⟨Zu9 hle, hle, fun q => Z4u hle⟩
    · cases h

theorem Zalu {M : Mem} {fr : Nat → Prop} (hM : MR E g w M fr) {get : Nat → Option (List SV)} (hget : ∀ id items, get id = some items → M.blk id = some items) (a : Nat)
    {t : Nat} {p v : SV} {p' v' : Value} {u : List (Nat × Option (List SV))} (hp : VR g w p p') (hv : VR g w v v') (h : Zi P get t p v = some u) :
    ∃ w', (Instr.storeAt t p' v').run P w = .ok () w' ∧ Evo g w g w' ∧ MR E g w' (M.sets u) fr := by
  unfold Zi at h
  split at h
  · cases h
  rename_i ti hti
  obtain ⟨d, i, hd, hi, rfl⟩ := Zba hti
  split at h
  case h_2 => cases h
  rename_i id k o
  split at h
  case h_2 => cases h
  rename_i items hgi
  split at h
  case h_2 => cases h
  rename_i x hx
  split at h
  case isFalse => cases h
  rename_i hcond
  split at h
  case h_2 => cases h
  rename_i x' hx'
  simp only [Option.some.injEq] at h
  subst h
  have hblk := hget id items hgi
  obtain ⟨b, c, e, ho, hb, hw, hu, hheap, hcs⟩ := hM.blk id items hblk
  cases hp with
  | ptr _ _ _ b' hown =>
  obtain rfl : b' = b := by rw [hown] at ho; simpa using ho
  obtain ⟨⟨hvl, hvr⟩, hvone⟩ := hv.cells hcond.1
  obtain ⟨s1, s2, s3⟩ := Z9j hvone hx'
  have hmem : x ∈ items := List.mem_of_getElem? hx
  have hxl := hu x hmem
  have hsz : v'.cells.size = i.size := by rw [← hvl]; exact hcond.2
  have hk : k < items.length := (List.getElem?_eq_some_iff.1 hx).1
  have hcsz : items.length * g.esz id ≤ c.size := by
    rcases Nat.eq_zero_or_pos (items.length * g.esz id) with h0 | hpos
    · omega
    · have hlen := flat_length (n := g.esz id) hu
      have hlast : items.length * g.esz id - 1 < (flat items).length := by rw [hlen]; omega
      obtain ⟨_, vv, hvv, _⟩ := hcs (items.length * g.esz id - 1) _ (List.getElem?_eq_getElem hlast)
      have := (Array.getElem?_eq_some_iff.1 hvv).1
      omega
  have hfit : k * g.esz id + o + v'.cells.size ≤ c.size := by
    have h1 : (k + 1) * g.esz id ≤ items.length * g.esz id := Nat.mul_le_mul_right _ hk
    rw [Nat.add_mul] at h1
    rw [← hvl]
    omega
  have hone' : ∀ u ∈ v'.cells.toList, u.oneCell' = true := by
    intro u hu'
    obtain ⟨q, hq⟩ := List.mem_iff_getElem?.1 hu'
    rw [Array.getElem?_toList] at hq
    have hlt : q < v.cells.length := by rw [hvl]; exact (Array.getElem?_eq_some_iff.1 hq).1
    exact (hvr q v.cells[q] u (by simp [hlt]) hq).oneCell (hvone _ (by simp))
  have hrun := run_storeCells_at P b' (k * g.esz id + o) e v'.cells.toList 0 c w hheap (by simpa using hfit) hone'
  simp only [Nat.add_zero, Array.length_toList] at hrun
  have hnew : ∀ q, ((c.toList.take (k * g.esz id + o) ++ v'.cells.toList ++ c.toList.drop (k * g.esz id + o + v'.cells.size)).toArray)[q]? =
      if k * g.esz id + o ≤ q ∧ q < k * g.esz id + o + v'.cells.size then v'.cells[q - (k * g.esz id + o)]? else c[q]? := by
    intro q
    have h1 : (c.toList.take (k * g.esz id + o)).length = k * g.esz id + o := by simp; omega
    simp only [List.getElem?_toArray]
    by_cases hq : q < k * g.esz id + o
    · rw [if_neg (by omega), List.append_assoc, List.getElem?_append_left (by omega), List.getElem?_take, if_pos hq, Array.getElem?_toList]
    · by_cases hq2 : q < k * g.esz id + o + v'.cells.size
      · rw [if_pos ⟨by omega, hq2⟩, List.append_assoc, List.getElem?_append_right (by omega), h1, List.getElem?_append_left (by simpa using by omega), Array.getElem?_toList]
      · rw [if_neg (by omega), List.append_assoc, List.getElem?_append_right (by omega), h1, List.getElem?_append_right (by simpa using by omega), List.getElem?_drop, Array.getElem?_toList]
        congr 1
        simp; omega
  have hu' : ∀ y ∈ items.set k x', y.cells.length = g.esz id := by
    intro y hy
    rcases List.mem_or_eq_of_mem_set hy with hy | rfl
    · exact hu y hy
    · rw [s1, hxl]
  obtain ⟨p1, p2⟩ := hM.put (items' := items.set k x') (c' := (c.toList.take (k * g.esz id + o) ++ v'.cells.toList ++ c.toList.drop (k * g.esz id + o + v'.cells.size)).toArray) hblk hown hheap (by simp; omega) hu' (fun q y hq => by
    rw [hnew]
    have hez : 0 < g.esz id := by
      rcases Nat.eq_zero_or_pos (g.esz id) with h0 | h
      · have hlt := (List.getElem?_eq_some_iff.1 hq).1
        rw [flat_length hu', h0] at hlt
        omega
      · exact h
    have hq0 : q < items.length * g.esz id := by
      have := (List.getElem?_eq_some_iff.1 hq).1
      rw [flat_length hu'] at this
      simpa using this
    have hdiv : q = (q / g.esz id) * g.esz id + q % g.esz id := by rw [Nat.mul_comm]; exact (Nat.div_add_mod q _).symm
    have hmod : q % g.esz id < g.esz id := Nat.mod_lt _ hez
    have hdl : q / g.esz id < items.length := Nat.div_lt_of_lt_mul (by rw [Nat.mul_comm]; exact hq0)
    have hfg := flat_get (q / g.esz id) (q % g.esz id) ((items.set k x')[q / g.esz id]'(by simpa using hdl)) hu' (by simp [hdl]) hmod
    rw [← hdiv, hq] at hfg
    by_cases hki : q / g.esz id = k
    · have hx2 : (items.set k x')[q / g.esz id]'(by simpa using hdl) = x' := by simp [hki]
      rw [hx2, s3] at hfg
      have hqq : q - (k * g.esz id + o) = q % g.esz id - o := by
        have : q = k * g.esz id + q % g.esz id := by rw [← hki]; exact hdiv
        omega
      have hqe : q = k * g.esz id + q % g.esz id := by rw [← hki]; exact hdiv
      by_cases hin : o ≤ q % g.esz id ∧ q % g.esz id < o + v.cells.length
      · rw [if_pos hin] at hfg
        rw [if_pos (by rw [← hvl]; omega), hqq]
        have hlt : q % g.esz id - o < v'.cells.size := by rw [← hvl]; omega
        exact ⟨hvone y (List.mem_of_getElem? hfg.symm), v'.cells[q % g.esz id - o], by simp [hlt], hvr _ y _ hfg.symm (by simp [hlt])⟩
      · rw [if_neg hin] at hfg
        rw [if_neg (by rw [← hvl]; omega)]
        have hfo := flat_get k (q % g.esz id) x hu hx hmod
        rw [← hqe, ← hfg] at hfo
        exact hcs q y hfo
    · have hx2 : (items.set k x')[q / g.esz id]'(by simpa using hdl) = items[q / g.esz id] := by simp [List.getElem_set, Ne.symm hki]
      rw [hx2] at hfg
      have hfo := flat_get (q / g.esz id) (q % g.esz id) items[q / g.esz id] hu (by simp [hdl]) hmod
      rw [← hdiv, ← hfg] at hfo
      rw [if_neg ?_]
      · exact hcs q y hfo
      · rintro ⟨b1, b2⟩
        apply hki
        apply Nat.div_eq_of_lt_le
        · omega
        · rw [Nat.succ_mul]; rw [← hvl] at b2; omega)
  refine ⟨_, ?_, p1, p2⟩
  have hs' : ¬ (v'.cells.size ≠ i.size) := by simp [hsz]
  simp only [Instr.storeAt, Instr.sureAddr, Sem.run_bind, Sem.run_pure, Result.andThen_ok, storeVar, Zce hi, if_neg hs', hrun]

end Go.Proofs.YtfphjfbknphhjaaGreatDoor.Sh

/-
  The shadow interpreter, text 8: append. No condition.
-/
set_option linter.unusedVariables false
set_option linter.unusedSimpArgs false
namespace Go.Proofs.YtfphjfbknphhjaaGreatDoor.Sh
variable {E : Env} {P : Program} {g : Gh} {w : World}

/-- The cells of a list that is told, in a row. -/
theorem Zv6 {items : List SV} {b start n : Nat} (hu : ∀ x ∈ items, x.cells.length = n)
    (hc : ∀ (k : Nat) (c : SV), (flat items)[k]? = some c → c.one = true ∧ ∃ v, w.cell? ⟨b, start + k, none⟩ = some v ∧ VR g w c v) :
    ∃ news : List Value, news.length = items.length * n ∧ (∀ j v, news[j]? = some v → w.cell? ((⟨b, start, none⟩ : Addr).add j) = some v) ∧ (∀ u ∈ news, u.oneCell' = true) ∧
      ∀ (k : Nat) (c : SV), (flat items)[k]? = some c → c.one = true ∧ ∃ v, news[k]? = some v ∧ VR g w c v := by
  have hl := flat_length hu
  refine ⟨(List.range (items.length * n)).map fun k => (w.cell? ⟨b, start + k, none⟩).getD undef, by simp, fun j v hj => ?_, fun u hu' => ?_, fun k c hk => ?_⟩
  · have hlt : j < items.length * n := by simpa using (List.getElem?_eq_some_iff.1 hj).1
    obtain ⟨_, u, hu1, _⟩ := hc j _ (List.getElem?_eq_getElem (by rw [hl]; exact hlt))
    simp [hlt, hu1] at hj
    subst hj
    rw [Zmr]
    exact hu1
  · simp only [List.mem_map, List.mem_range] at hu'
    obtain ⟨k, hk, rfl⟩ := hu'
    obtain ⟨h1, u, hu1, hr⟩ := hc k _ (List.getElem?_eq_getElem (by rw [hl]; exact hk))
    rw [hu1]
    exact hr.oneCell h1
  · obtain ⟨h1, u, hu1, hr⟩ := hc k c hk
    have hlt : k < items.length * n := by rw [← hl]; exact (List.getElem?_eq_some_iff.1 hk).1
    exact ⟨h1, u, by simp [hlt, hu1], hr⟩

/-- What is appended. -/
theorem src_of {M : Mem} {fr : Nat → Prop} (hM : MR E g w M fr) {get : Nat → Option (List SV)} (hget : ∀ id items, get id = some items → M.blk id = some items)
    {t2 n : Nat} {k2 : TI} {x : SV} {x' : Value} {ys : List SV} (h2 : Zbz P t2 = some k2) (hx : VR g w x x') (hi : Zkn get x = some ys) (hu : Zv5 n ys = true) (hs : Zj0 k2.kind n x = true) :
    ∃ news, Src P n t2 x' ys.length news w ∧ ∀ (k : Nat) (c : SV), (flat ys)[k]? = some c → c.one = true ∧ ∃ v, news[k]? = some v ∧ VR g w c v := by
  obtain ⟨d, i, hd, hinfo, rfl⟩ := Zba h2
  have hu' := Zqq.1 hu
  unfold Zkn at hi
  split at hi
  · simp only [Option.some.injEq] at hi
    subst hi
    cases hx
    simp only [Zj0] at hs
    split at hs
    · rename_i e hk
      obtain rfl := Zgg hk
      exact ⟨[], Src.ofNil w hd 0, fun k c hk => by simp [flat] at hk⟩
    · cases hs
  · rename_i items tl
    simp only [Option.some.injEq] at hi
    subst hi
    simp only [Zj0] at hs
    split at hs
    · rename_i e hk
      obtain rfl := Zgg hk
      cases hx with
      | sle _ a cap hfull =>
        exact ⟨[], Src.ofSlice w hd a 0 cap [] (by simp) (fun j u h => by simp at h) (fun u h => by cases h), fun k c hk => by simp [flat] at hk⟩
      | sl _ _ b start cap esz rv hu0 hc hr hcap hfull =>
      obtain ⟨news, n1, n2, n3, n4⟩ := Zv6 (g := g) (w := w) (b := b) (start := start) hu' (fun k c hk => ⟨(hc k c hk).1, _, (hc k c hk).2.2, hr k c hk⟩)
      exact ⟨news, Src.ofSlice w hd _ _ cap news n1 n2 n3, n4⟩
    · cases hs
  · rename_i id esz q len
    split at hi
    case h_2 => cases hi
    rename_i items hgi
    split at hi
    case isFalse => cases hi
    rename_i hle
    simp only [Option.some.injEq] at hi
    subst hi
    simp only [Zj0, Bool.and_eq_true, beq_iff_eq] at hs
    obtain ⟨he, hs⟩ := hs
    split at hs
    · rename_i e hk
      obtain rfl := Zgg hk
      cases hx with
      | own _ _ _ _ b cap hown hesz hlc hsz =>
      obtain ⟨b', c, t, ho, _, _, hu0, hheap, hcs⟩ := hM.blk id items (hget id items hgi)
      obtain rfl : b' = b := by rw [hown] at ho; simpa using ho.symm
      have hll : ((items.drop q).take len).length = len := by simp; omega
      have hun : ∀ y ∈ items, y.cells.length = n := fun y hy => by rw [hu0 y hy, hesz, he]
      have hfl : flat ((items.drop q).take len) = ((flat items).drop (q * n)).take (len * n) := by
        rw [Zmt (n := n) len (fun y hy => hun y (List.mem_of_mem_drop hy)), Zqe (n := n) q hun]
      obtain ⟨news, n1, n2, n3, n4⟩ := Zv6 (g := g) (w := w) (b := b') (start := q * n) hu' (fun k c' hk => by
        rw [hfl, List.getElem?_take] at hk
        split at hk
        · rw [List.getElem?_drop] at hk
          obtain ⟨h1, v, hv, hr⟩ := hcs _ c' hk
          exact ⟨h1, v, by rw [cell?_cells hheap]; exact hv, hr⟩
        · simp at hk)
      refine ⟨news, ?_, n4⟩
      have := Src.ofSlice w (P := P) (size := n) (tx := t2) hd ⟨b', q * n, none⟩ len cap news (by rw [n1, hll]) n2 n3
      rw [hll, ← he]
      rw [← he] at this
      exact this
    · cases hs
  · rename_i s
    simp only [Option.some.injEq] at hi
    subst hi
    simp only [Zj0, Bool.and_eq_true, beq_iff_eq] at hs
    obtain ⟨he, hs⟩ := hs
    split at hs
    · rename_i hk
      obtain rfl := Zvq hk
      obtain rfl := hx.Zuj
      subst he
      refine ⟨byteCells s, ?_, fun k c hk => ?_⟩
      · have := Src.ofString (P := P) w (tx := t2) hd s
        simpa using this
      · have hf : flat (s.data.toList.map fun b => SV.int .u8 b.toNat) = s.data.toList.map fun b => SV.int .u8 b.toNat := by
          have := Zz4 .u8 (s.data.toList.map fun b => (b.toNat : Int))
          simpa [List.map_map, Function.comp_def] using this
        rw [hf] at hk
        simp only [List.getElem?_map, Option.map_eq_some_iff] at hk
        obtain ⟨b, hb, rfl⟩ := hk
        exact ⟨rfl, .int .u8 b.toNat, by simp [byteCells, hb], .int _ _⟩
    · cases hs
  · cases hi

/-- There is room, in a row of the call's own. -/
theorem run_append_room' {t tx ty e : TypeId} {i : TypeInfo} (ht : P.underlying t = some (.slice e)) (hi : P.info? e = some i) {b sLen sCap : Nat} {x : Value} {n : Nat} {news : List Value} (hs : Src P i.size tx x n news w)
    (hroom : sLen + n ≤ sCap) {cur : Array Value} {e0 : TypeId} (hg : w.heap[b]? = some (Obj.cells cur e0 (0, 0))) (hfit : sLen * i.size + news.length ≤ cur.size) :
    (Builtin.append_ #[t, tx] ty #[.slice (some ⟨b, 0, none⟩) sLen sCap, x]).run P w = .ok (.slice (some ⟨b, 0, none⟩) (sLen + n) sCap)
      (w.setRow b (cur.toList.take (sLen * i.size) ++ news ++ cur.toList.drop (sLen * i.size + news.length)).toArray) := by
  have hst := run_storeCells_at P b (sLen * i.size) e0 news 0 cur w hg (by simpa using hfit) hs.one
  simp only [Nat.add_zero] at hst
  rcases hs.kind with ⟨e', hk⟩ | hk <;> simp [Builtin.append_, run_underlying ht, run_underlying hk, sizeOf, typeInfo, hi, hs.len, hroom, hs.cells, Zmr, hst]

theorem grownCap_ge (w : World) (need old : Nat) (e : TypeId) : need ≤ grownCap w need old e := by
  simp only [grownCap, Question.cut]
  omega

theorem Z3r (z : Array Value) (n : Nat) : (Builtin.zeroCells z n).size = n * z.size := by simp [Builtin.zeroCells]

/-- A new row of items that are told, with room behind. -/
theorem Zyp {M : Mem} {fr : Nat → Prop} (hM : MR E g w M fr) {a : Nat} (ha : fr a) {t tx ty e : TypeId} {i : TypeInfo} {z : Value} (ht : P.underlying t = some (.slice e)) (hi : P.info? e = some i) (hz : i.zero = some z)
    (hzs : z.cells.size = i.size) {base : Option Addr} {sLen sCap : Nat} {olds : List Value} {xs ys : List SV} (hl : xs.length = sLen)
    (hold : (Builtin.firstCells i.size sLen (.slice base sLen sCap)).run P w.drew = .ok olds.toArray w.drew) (holdl : olds.length = sLen * i.size)
    (holdr : ∀ (k : Nat) (c : SV), (flat xs)[k]? = some c → c.one = true ∧ ∃ v, olds[k]? = some v ∧ VR g w c v) (hxu : ∀ x ∈ xs, x.cells.length = i.size)
    {x : Value} {news : List Value} (hs : Src P i.size tx x ys.length news w) (hnr : ∀ (k : Nat) (c : SV), (flat ys)[k]? = some c → c.one = true ∧ ∃ v, news[k]? = some v ∧ VR g w c v) (hyu : ∀ y ∈ ys, y.cells.length = i.size)
    (hg : sCap < sLen + ys.length) (hb : (sLen + ys.length) * i.bytes ≤ 140737488355328) (h63 : sLen + ys.length ≤ 140737488355328) :
    ∃ w' g' v', (Builtin.append_ #[t, tx] ty #[.slice base sLen sCap, x]).run P w = .ok v' w' ∧ Done E g w g' w' (M.set a (some (xs ++ ys))) fr a ∧ VR g' w' (.own a i.size 0 (sLen + ys.length)) v' := by
  have hrun := run_append_grow_src w t tx ty e i z ht hi hz base sLen sCap olds hold x ys.length news hs hg (by omega) (growslice_fits hg hb)
  have hM' : MR E g w.drew M fr := by
    have hc : ∀ a, w.drew.cell? a = w.cell? a := fun _ => rfl
    have evo : Evo g w g w.drew := ⟨rfl, rfl, rfl, fun _ _ h => ⟨h, rfl⟩, fun _ => Nat.le_refl _, fun _ _ _ _ h => h, fun _ c _ _ h => ⟨c, h, rfl⟩, (RowKit.Below.refl _ _).drew⟩
    exact ⟨hM.good, hM.base, fun id its h => by
      obtain ⟨b, c, e, h1, h2, h3, h4, h5, h6⟩ := hM.blk id its h
      exact ⟨b, c, e, h1, h2, h3, h4, h5, fun k x hk => by obtain ⟨a1, v, a2, a3⟩ := h6 k x hk; exact ⟨a1, v, a2, a3.mono hM.good evo⟩⟩, hM.inj, hM.fresh, hM.hwb, hM.lt, fun n its h => (hM.glob n its h).mono hM.good evo, hM.plain, hM.raw.mono evo, hM.sent.mono evo⟩
  have evo0 : Evo g w g w.drew := ⟨rfl, rfl, rfl, fun _ _ h => ⟨h, rfl⟩, fun _ => Nat.le_refl _, fun _ _ _ _ h => h, fun _ c _ _ h => ⟨c, h, rfl⟩, (RowKit.Below.refl _ _).drew⟩
  have hoff : (flat xs).length = sLen * i.size := by rw [flat_length hxu, hl]
  have hcells : ∀ (k : Nat) (c : SV), (flat (xs ++ ys))[k]? = some c → c.one = true ∧
      ∃ v, ((olds ++ news).toArray ++ Builtin.zeroCells z.cells (grownCap w (sLen + ys.length) sCap e - (sLen + ys.length)))[k]? = some v ∧ VR g w.drew c v := by
    intro k c hk
    have hkl : k < olds.length + news.length := by
      have := (List.getElem?_eq_some_iff.1 hk).1
      rw [Zpi, List.length_append, hoff, flat_length hyu] at this
      rw [holdl, hs.newsLen]
      exact this
    have h1 : ((olds ++ news).toArray ++ Builtin.zeroCells z.cells (grownCap w (sLen + ys.length) sCap e - (sLen + ys.length)))[k]? = (olds ++ news)[k]? := by
      rw [Array.getElem?_append_left (by simpa using hkl)]
      simp
    rw [h1]
    rw [Zpi] at hk
    by_cases hlt : k < sLen * i.size
    · rw [List.getElem?_append_left (by rw [hoff]; exact hlt)] at hk
      obtain ⟨a1, v, a2, a3⟩ := holdr k c hk
      exact ⟨a1, v, by rw [List.getElem?_append_left (by rw [holdl]; exact hlt)]; exact a2, a3.mono hM.good evo0⟩
    · rw [List.getElem?_append_right (by rw [hoff]; omega), hoff] at hk
      obtain ⟨a1, v, a2, a3⟩ := hnr _ c hk
      exact ⟨a1, v, by rw [List.getElem?_append_right (by rw [holdl]; omega), holdl]; exact a2, a3.mono hM.good evo0⟩
  have hu : ∀ y ∈ xs ++ ys, y.cells.length = i.size := by
    intro y hy
    rcases List.mem_append.1 hy with hy | hy
    · exact hxu y hy
    · exact hyu y hy
  obtain ⟨p1, p2⟩ := hM'.new ha hu hcells (e := e) (w' := w.drew.alloc (.cells ((olds ++ news).toArray ++ Builtin.zeroCells z.cells (grownCap w (sLen + ys.length) sCap e - (sLen + ys.length))) e)) rfl rfl rfl rfl
  refine ⟨_, _, _, hrun, ⟨evo0.trans p1, p2, fun j hj => by simp [Gh.new, hj]⟩, ?_⟩
  have hcap := grownCap_ge w (sLen + ys.length) sCap e
  have := VR.own (g := g.new a w.heap.size i.size) (w := w.drew.alloc (.cells ((olds ++ news).toArray ++ Builtin.zeroCells z.cells (grownCap w (sLen + ys.length) sCap e - (sLen + ys.length))) e)) a i.size 0 (sLen + ys.length) w.heap.size (grownCap w (sLen + ys.length) sCap e)
    (Zea g a _ _).1 (Zea g a _ _).2 hcap ⟨_, e, heap_alloc_new _ _, by
      simp only [Nat.zero_add, Array.size_append, List.size_toArray, List.length_append, holdl, hs.newsLen, Z3r, hzs]
      rw [← Nat.add_mul, ← Nat.add_mul]
      apply Nat.mul_le_mul_right
      omega⟩
  simpa using this

theorem Zahf {M : Mem} {fr : Nat → Prop} (hM : MR E g w M fr) {get : Nat → Option (List SV)} (hget : ∀ id items, get id = some items → M.blk id = some items) {a : Nat} (ha : fr a)
    {t t2 ty : Nat} {s x r : SV} {s' x' : Value} {u : List (Nat × Option (List SV))} (hs : VR g w s s') (hx : VR g w x x') (h : Zef P get a t t2 s x = some (r, u)) :
    ∃ w' g' v', (Builtin.append_ #[t, t2] ty #[s', x']).run P w = .ok v' w' ∧ Done E g w g' w' (M.sets u) fr a ∧ VR g' w' r v' := by
  unfold Zef at h
  split at h
  case h_2 => cases h
  rename_i e x1 x2 x3 k2 ht h2
  obtain ⟨d, i0, hd, hi0, he⟩ := Zba ht
  simp only [TI.mk.injEq] at he
  obtain rfl := Zgg he.1.symm
  split at h
  case h_2 => cases h
  rename_i te hte
  obtain ⟨d2, i, hd2, hi, rfl⟩ := Zba hte
  split at h
  case h_2 => cases h
  rename_i z ys hz hys
  simp only [Option.map_eq_some_iff] at hz
  obtain ⟨zv, hzv, rfl⟩ := hz
  split at h
  case isFalse => cases h
  rename_i hcond
  obtain ⟨h0, hun, hsrc, hzs, hzl⟩ := hcond
  simp only at h0 hun hsrc hzl
  have hyu := Zqq.1 hun
  obtain ⟨news, hsr, hnr⟩ := src_of hM hget h2 hx hys hun hsrc
  have hzsz : zv.cells.size = i.size := by rw [← ((VR.Zuf g w zv).cells hzs).1.1]; exact hzl
  have hnil : ys.isEmpty = true → Src P i.size t2 x' 0 [] w := by
    intro hemp
    have hy0 : ys = [] := by simpa using hemp
    subst hy0
    have hn0 : news = [] := by
      have := hsr.newsLen
      simp at this
      exact this
    subst hn0
    exact hsr
  have hpos : ¬ ys.isEmpty = true → 0 < ys.length := by
    intro hne
    cases ys with
    | nil => simp at hne
    | cons y ys => simp
  split at h
  · cases hs
    split at h
    · rename_i hemp
      simp only [Option.some.injEq, Prod.mk.injEq] at h
      obtain ⟨rfl, rfl⟩ := h
      exact ⟨w, g, _, run_append_nothing w t t2 ty e i hd hi none 0 0 (Nat.le_refl _) x' (hnil hemp), .same hM a, .nilsl⟩
    · rename_i hemp
      split at h
      case isFalse => cases h
      rename_i hb
      simp only [Option.some.injEq, Prod.mk.injEq] at h
      obtain ⟨rfl, rfl⟩ := h
      have := Zyp (P := P) hM ha (ty := ty) hd hi hzv hzsz (base := none) (sLen := 0) (sCap := 0) (olds := []) (xs := []) (ys := ys) rfl (run_firstCells_none w.drew i.size 0 0 0) (by simp) (fun k c hk => by simp [flat] at hk) (by simp)
        hsr hnr hyu (by have := hpos hemp; omega) (by simpa using hb.1) (by simpa using hb.2)
      simpa [Mem.sets] using this
  · rename_i xs
    cases hs with
    | sle _ ad cap hfull =>
      obtain rfl := hfull rfl
      split at h
      · rename_i hemp
        simp only [Option.some.injEq, Prod.mk.injEq] at h
        obtain ⟨rfl, rfl⟩ := h
        exact ⟨w, g, _, run_append_nothing w t t2 ty e i hd hi _ _ _ (Nat.le_refl _) x' (hnil hemp), .same hM a, .sle _ ad 0 (fun _ => rfl)⟩
      · rename_i hemp
        split at h
        case isFalse => cases h
        rename_i hb
        simp only [Option.some.injEq, Prod.mk.injEq] at h
        obtain ⟨rfl, rfl⟩ := h
        have := Zyp (P := P) hM ha (ty := ty) hd hi hzv hzsz (base := some ad) (sLen := 0) (sCap := 0) (olds := []) (xs := []) (ys := ys) rfl
          (run_firstCells_some w.drew i.size 0 ad 0 0 [] (by simp) (fun j u h => by simp at h)) (by simp) (fun k c hk => by simp [flat] at hk) (by simp) hsr hnr hyu (by have := hpos hemp; omega) (by simpa using hb.2.1) (by simpa using hb.2.2)
        simpa [Mem.sets] using this
    | sl _ _ b start cap esz rv hu0 hc hr hcap hfull =>
    obtain rfl := hfull rfl
    split at h
    · rename_i hemp
      simp only [Option.some.injEq, Prod.mk.injEq] at h
      obtain ⟨rfl, rfl⟩ := h
      exact ⟨w, g, _, run_append_nothing w t t2 ty e i hd hi _ _ _ (Nat.le_refl _) x' (hnil hemp), .same hM a, .sl _ _ b start _ esz rv hu0 hc hr (Nat.le_refl _) (fun _ => rfl)⟩
    · rename_i hemp
      split at h
      case isFalse => cases h
      rename_i hb
      simp only [Option.some.injEq, Prod.mk.injEq] at h
      obtain ⟨rfl, rfl⟩ := h
      have hxu := Zqq.1 hb.1
      obtain ⟨olds, o1, o2, o3, o4⟩ := Zv6 (g := g) (w := w) (b := b) (start := start) hxu (fun k c hk => ⟨(hc k c hk).1, _, (hc k c hk).2.2, hr k c hk⟩)
      have := Zyp (P := P) hM ha (ty := ty) hd hi hzv hzsz (base := some ⟨b, start, none⟩) (sLen := xs.length) (sCap := xs.length) (olds := olds) (xs := xs) (ys := ys) rfl
        (run_firstCells_some w.drew i.size xs.length ⟨b, start, none⟩ xs.length xs.length olds o1 o2) o1 o4 hxu hsr hnr hyu (by have := hpos hemp; omega) hb.2.1 hb.2.2
      simpa [Mem.sets] using this
  · rename_i id esz q len
    cases hs with
    | own _ _ _ _ b cap hown hesz hlc hsz =>
    split at h
    · rename_i hemp
      simp only [Option.some.injEq, Prod.mk.injEq] at h
      obtain ⟨rfl, rfl⟩ := h
      exact ⟨w, g, _, run_append_nothing w t t2 ty e i hd hi _ _ _ hlc x' (hnil hemp), .same hM a, .own _ _ _ _ b cap hown hesz hlc hsz⟩
    · rename_i hemp
      split at h
      case h_2 => cases h
      rename_i xs hgi
      split at h
      case isFalse => cases h
      rename_i hb
      simp only [Option.some.injEq, Prod.mk.injEq] at h
      obtain ⟨rfl, rfl⟩ := h
      obtain ⟨hez, rfl, hle, hby, h63⟩ := hb
      simp only at hez hby
      have hblk := hget id xs hgi
      obtain ⟨b', c, t0, ho, hb1, hb2, hu0, hheap, hcs⟩ := hM.blk id xs hblk
      obtain rfl : b' = b := by rw [hown] at ho; simpa using ho.symm
      have hxu : ∀ y ∈ xs, y.cells.length = i.size := fun y hy => by rw [hu0 y hy, hesz, hez]
      have hxu' : ∀ y ∈ xs.take len, y.cells.length = i.size := fun y hy => hxu y (List.mem_of_mem_take hy)
      have hll : (xs.take len).length = len := by simp; omega
      have hfl : flat (xs.take len) = (flat xs).take (len * i.size) := Zmt len hxu
      have hold4 : ∀ (k : Nat) (c' : SV), (flat (xs.take len))[k]? = some c' → c'.one = true ∧ ∃ v, c[k]? = some v ∧ VR g w c' v := by
        intro k c' hk
        rw [hfl, List.getElem?_take] at hk
        split at hk
        · exact hcs k c' hk
        · cases hk
      have hz0 : (⟨b', 0 * esz, none⟩ : Addr) = ⟨b', 0, none⟩ := by simp
      rw [hz0]
      obtain ⟨c1, t1, hc1, hcsz⟩ := hsz
      rw [hheap] at hc1
      cases hc1
      by_cases hroom : len + ys.length ≤ cap
      · have hfit : len * i.size + news.length ≤ c.size := by
          rw [hsr.newsLen, ← Nat.add_mul]
          rw [hez, Nat.zero_add] at hcsz
          exact Nat.le_trans (Nat.mul_le_mul_right _ hroom) hcsz
        have hrun := run_append_room' (P := P) (ty := ty) hd hi hsr hroom hheap hfit
        have hlen : len * i.size ≤ c.size := by omega
        have hnew : ∀ k, ((c.toList.take (len * i.size) ++ news ++ c.toList.drop (len * i.size + news.length)).toArray)[k]? =
            if k < len * i.size then c[k]? else if k < len * i.size + news.length then news[k - len * i.size]? else c[k]? := by
          intro k
          have h1 : (c.toList.take (len * i.size)).length = len * i.size := by simp; omega
          simp only [List.getElem?_toArray]
          by_cases hk : k < len * i.size
          · rw [if_pos hk, List.append_assoc, List.getElem?_append_left (by omega), List.getElem?_take, if_pos hk, Array.getElem?_toList]
          · rw [if_neg hk]
            by_cases hk2 : k < len * i.size + news.length
            · rw [if_pos hk2, List.append_assoc, List.getElem?_append_right (by omega), h1, List.getElem?_append_left (by omega)]
            · rw [if_neg hk2, List.append_assoc, List.getElem?_append_right (by omega), h1, List.getElem?_append_right (by omega), List.getElem?_drop, Array.getElem?_toList]
              congr 1
              omega
        have hu2 : ∀ y ∈ xs.take len ++ ys, y.cells.length = g.esz id := by
          intro y hy
          rw [hesz, hez]
          rcases List.mem_append.1 hy with hy | hy
          · exact hxu' y hy
          · exact hyu y hy
        have hofl : (flat (xs.take len)).length = len * i.size := by rw [flat_length hxu', hll]
        obtain ⟨p1, p2⟩ := hM.move ha (items' := xs.take len ++ ys) (c' := (c.toList.take (len * i.size) ++ news ++ c.toList.drop (len * i.size + news.length)).toArray) hblk hown hheap (by simp; omega) hu2 (fun k c' hk => by
          rw [hnew]
          rw [Zpi] at hk
          by_cases hlt : k < len * i.size
          · rw [List.getElem?_append_left (by rw [hofl]; exact hlt)] at hk
            rw [if_pos hlt]
            exact hold4 k c' hk
          · rw [List.getElem?_append_right (by rw [hofl]; omega), hofl] at hk
            have hk2 : k < len * i.size + news.length := by
              have := (List.getElem?_eq_some_iff.1 hk).1
              rw [flat_length hyu] at this
              rw [hsr.newsLen]
              omega
            rw [if_neg hlt, if_pos hk2]
            exact hnr _ c' hk)
        refine ⟨_, _, _, hrun, ⟨p1, p2, fun j hj => by simp [Gh.new, hj]⟩, ?_⟩
        have := VR.own (g := g.new a b' (g.esz id)) (w := w.setRow b' (c.toList.take (len * i.size) ++ news ++ c.toList.drop (len * i.size + news.length)).toArray) a i.size 0 (len + ys.length) b' cap (Zea g a _ _).1 (by rw [(Zea g a _ _).2, hesz, hez]) hroom
          ⟨_, _, setRow_heap w b' c _ t0 (0, 0) hheap, by
            rw [hez] at hcsz
            simp at hcsz ⊢
            omega⟩
        simpa using this
      · obtain ⟨olds, o1, o2, o3, o4⟩ := Zv6 (g := g) (w := w) (b := b') (start := 0) hxu' (fun k c' hk => by
          obtain ⟨a1, v, a2, a3⟩ := hold4 k c' hk
          exact ⟨a1, v, by rw [Nat.zero_add, cell?_cells hheap]; exact a2, a3⟩)
        rw [hll] at o1
        obtain ⟨w', g', v', q1, q2, q3⟩ := Zyp (P := P) (hM.kill id) ha (ty := ty) hd hi hzv hzsz (base := some ⟨b', 0, none⟩) (sLen := len) (sCap := cap) (olds := olds) (xs := xs.take len) (ys := ys) hll
          (run_firstCells_some w.drew i.size len ⟨b', 0, none⟩ len cap olds o1 o2) o1 o4 hxu' hsr hnr hyu (by omega) hby h63
        exact ⟨w', g', v', q1, by simpa [Mem.sets] using q2, q3⟩
  · cases h

/-- A slice's items, and where they lie. -/
theorem Zapo {M : Mem} {fr : Nat → Prop} (hM : MR E g w M fr) {get : Nat → Option (List SV)} (hget : ∀ id items, get id = some items → M.blk id = some items)
    {x : SV} {x' : Value} {ys : List SV} (hx : VR g w x x') (hi : Zkn get x = some ys) (hu : Zv5 1 ys = true) (hs : isStr x = false) (hz : ∀ id esz i len, x = .own id esz i len → esz = 1 ∨ ys = []) :
    (x' = .slice none 0 0 ∧ ys = []) ∨ ∃ (a : Addr) (cap : Nat) (news : List Value), x' = .slice (some a) ys.length cap ∧ news.length = ys.length ∧ (∀ j v, news[j]? = some v → w.cell? (a.add j) = some v) ∧ (∀ u ∈ news, u.oneCell' = true) ∧
      ∀ (k : Nat) (c : SV), (flat ys)[k]? = some c → c.one = true ∧ ∃ v, news[k]? = some v ∧ VR g w c v := by
  have hu' := Zqq.1 hu
  unfold Zkn at hi
  split at hi
  · simp only [Option.some.injEq] at hi
    subst hi
    cases hx
    exact .inl ⟨rfl, rfl⟩
  · rename_i items tl
    simp only [Option.some.injEq] at hi
    subst hi
    cases hx with
    | sle _ a cap hfull => exact .inr ⟨a, cap, [], rfl, rfl, fun j u h => by simp at h, (fun u h => by simp at h), fun k c hk => by simp [flat] at hk⟩
    | sl _ _ b start cap esz rv hu0 hc hr hcap hfull =>
    obtain ⟨news, n1, n2, n3, n4⟩ := Zv6 (g := g) (w := w) (b := b) (start := start) hu' (fun k c hk => ⟨(hc k c hk).1, _, (hc k c hk).2.2, hr k c hk⟩)
    exact .inr ⟨_, cap, news, rfl, by rw [n1, Nat.mul_one], n2, n3, n4⟩
  · rename_i id esz q len
    split at hi
    case h_2 => cases hi
    rename_i items hgi
    split at hi
    case isFalse => cases hi
    rename_i hle
    simp only [Option.some.injEq] at hi
    subst hi
    cases hx with
    | own _ _ _ _ b cap hown hesz hlc hsz =>
    obtain ⟨b', c, t, ho, _, _, hu0, hheap, hcs⟩ := hM.blk id items (hget id items hgi)
    obtain rfl : b' = b := by rw [hown] at ho; simpa using ho.symm
    have hll : ((items.drop q).take len).length = len := by simp; omega
    rcases hz _ _ _ _ rfl with h1 | h1
    · subst h1
      have hun : ∀ y ∈ items, y.cells.length = 1 := fun y hy => by rw [hu0 y hy, hesz]
      have hfl : flat ((items.drop q).take len) = ((flat items).drop (q * 1)).take (len * 1) := by
        rw [Zmt (n := 1) len (fun y hy => hun y (List.mem_of_mem_drop hy)), Zqe (n := 1) q hun]
      obtain ⟨news, n1, n2, n3, n4⟩ := Zv6 (g := g) (w := w) (b := b') (start := q * 1) hu' (fun k c' hk => by
        rw [hfl, List.getElem?_take] at hk
        split at hk
        · rw [List.getElem?_drop] at hk
          obtain ⟨h1, v, hv, hr⟩ := hcs _ c' hk
          exact ⟨h1, v, by rw [cell?_cells hheap]; exact hv, hr⟩
        · simp at hk)
      refine .inr ⟨_, cap, news, by rw [hll], by rw [n1, Nat.mul_one], n2, n3, n4⟩
    · rw [h1]
      rw [h1] at hll
      have : len = 0 := by simpa using hll.symm
      subst this
      exact .inr ⟨_, cap, [], rfl, rfl, fun j u h => by simp at h, (fun u h => by simp at h), fun k c hk => by simp [flat] at hk⟩
  · simp [isStr] at hs
  · cases hi

theorem Zap5 {ty : TypeId} {M : Mem} {fr : Nat → Prop} (hM : MR E g w M fr) {get : Nat → Option (List SV)} (hget : ∀ id items, get id = some items → M.blk id = some items)
    {t t2 : Nat} {d x r : SV} {d' x' : Value} {u : List (Nat × Option (List SV))} (hd : VR g w d d') (hx : VR g w x x') (h : copyS P get t d x = some (r, u)) :
    ∃ w' n, (Builtin.copy_ #[t, t2] ty #[d', x']).run P w = .ok (.int .i64 n) w' ∧ r = .int .i64 n ∧ Evo g w g w' ∧ MR E g w' (M.sets u) fr := by
  unfold copyS at h
  split at h
  case h_2 => cases h
  rename_i e s1 b1 z1 hti
  obtain ⟨dd, i1, hdd, hi1, he1⟩ := Zba hti
  simp only [TI.mk.injEq] at he1
  obtain rfl := Zgg he1.1.symm
  split at h
  case h_2 => cases h
  rename_i te hte
  obtain ⟨de, ie, hde, hie, rfl⟩ := Zba hte
  split at h
  case h_2 => cases h
  rename_i id esz i len ys hys
  split at h
  case h_2 => cases h
  rename_i xs hgx
  split at h
  case isFalse => cases h
  rename_i hc
  simp only [Option.some.injEq, Prod.mk.injEq] at h
  obtain ⟨rfl, rfl⟩ := h
  obtain ⟨c1, rfl, c3, c4, c5⟩ := hc
  simp only at c1
  cases hd with
  | own _ _ _ _ b cap hown hesz hlc hsz =>
  obtain ⟨b', cur, t0, ho, _, _, hu0, hheap, hcs⟩ := hM.blk id xs (hget id xs hgx)
  obtain rfl : b' = b := by rw [hown] at ho; simpa using ho.symm
  have hun : ∀ y ∈ xs, y.cells.length = 1 := fun y hy => by rw [hu0 y hy, hesz]
  have hflx := flat_length hun
  obtain ⟨c', e', hh', hle'⟩ := hsz
  rw [hheap] at hh'
  obtain ⟨rfl, rfl⟩ : cur = c' ∧ t0 = e' := by simpa using hh'
  have hcur : xs.length ≤ cur.size := by
    rcases Nat.eq_zero_or_pos xs.length with h0 | h0
    · omega
    · obtain ⟨_, v, hv, _⟩ := hcs (xs.length - 1) _ (List.getElem?_eq_getElem (by rw [hflx]; omega))
      have := (Array.getElem?_eq_some_iff.1 hv).1
      omega
  have hsz1 : ((P.info? e).map (·.size)) = some 1 := by rw [hie]; simpa using c1
  have hzz : ∀ id' esz' i' len', x = .own id' esz' i' len' → esz' = 1 ∨ ys = [] := by
    rintro id' esz' i' len' rfl
    cases hx with
    | own _ _ _ _ b2 cap2 hown2 hesz2 hlc2 hsz2 =>
    simp only [Zkn] at hys
    split at hys
    case h_2 => cases hys
    rename_i items2 hg2
    split at hys
    case isFalse => cases hys
    rename_i hle2
    simp only [Option.some.injEq] at hys
    rcases hy : ys with _ | ⟨y, yr⟩
    · exact .inr rfl
    · left
      have hmem : y ∈ ys := by rw [hy]; simp
      have h1 := Zqq.1 c5 y hmem
      rw [← hys] at hmem
      obtain ⟨_, _, _, _, _, _, hu2, _⟩ := hM.blk id' items2 (hget id' items2 hg2)
      have h2 := hu2 y (List.mem_of_mem_drop (List.mem_of_mem_take hmem))
      omega
  rcases Zapo hM hget hx hys c5 c3 hzz with ⟨rfl, rfl⟩ | ⟨a, scap, news, rfl, n1, n2, n3, n4⟩
  · refine ⟨w, 0, ?_, by simp, .refl g w, ?_⟩
    · have := run_copy_nil P w t t2 ty e ⟨b', i * 1, none⟩ len cap hdd (by rw [hie]; rfl)
      simpa [goInt] using this
    · have : M.sets [(id, some (List.take i xs ++ List.take (min ([] : List SV).length len) [] ++ List.drop (i + min ([] : List SV).length len) xs))] = M := by
        simp only [Mem.sets, List.take_nil, List.append_nil, List.length_nil, Nat.zero_min, Nat.add_zero, List.take_append_drop]
        obtain ⟨mb, mn⟩ := M
        simp only [Mem.set, Mem.mk.injEq, and_true]
        funext j
        by_cases hj : j = id
        · subst hj; rw [if_pos rfl]; exact (hget _ xs hgx).symm
        · rw [if_neg hj]
      rw [this]
      exact hM
  · generalize hn : min ys.length len = n
    have hn1 : n ≤ ys.length := by omega
    have hn2 : n ≤ len := by omega
    have hrun := run_copy_row P w t t2 ty e b' (i * 1) len cap a ys.length scap cur t0 (news.take n) hdd hsz1 hheap (by rw [List.length_take, n1, Nat.min_eq_left hn1]; exact hn.symm) (fun j v hj => by
      rw [List.getElem?_take] at hj
      split at hj
      · exact n2 j v hj
      · cases hj) (by simp [n1]; omega) (fun v hv => n3 v (List.mem_of_mem_take hv))
    have hln : (news.take n).length = n := by simp [n1]; omega
    rw [hln, Nat.mul_one] at hrun
    have hfy : ∀ y ∈ ys, y.cells.length = 1 := Zqq.1 c5
    have put := MR.put (items' := xs.take i ++ ys.take n ++ xs.drop (i + n)) hM (hget id xs hgx) hown hheap (c' := (cur.toList.take i ++ news.take n ++ cur.toList.drop (i + n)).toArray)
      (by simp [n1]; omega) (fun z hz => by
        rw [hesz]
        rcases List.mem_append.1 hz with hz | hz
        · rcases List.mem_append.1 hz with hz | hz
          · exact hun z (List.mem_of_mem_take hz)
          · exact hfy z (List.mem_of_mem_take hz)
        · exact hun z (List.mem_of_mem_drop hz)) (fun k z hk => by
        rw [Zpi, Zpi, Zmt (n := 1) i hun, Zmt (n := 1) n hfy, Zqe (n := 1) (i + n) hun, Nat.mul_one, Nat.mul_one, Nat.mul_one] at hk
        have hl1 : ((flat xs).take i).length = i := by simp [hflx]; omega
        have hl2 : ((flat ys).take n).length = n := by simp [flat_length hfy]; omega
        have hl3 : (cur.toList.take i).length = i := by simp; omega
        rw [List.append_assoc, List.getElem?_append, hl1] at hk
        simp only [List.getElem?_toArray, List.append_assoc]
        rw [List.getElem?_append, hl3]
        split at hk
        · rename_i h
          rw [if_pos h]
          rw [List.getElem?_take, if_pos h] at hk ⊢
          obtain ⟨q1, v, q2, q3⟩ := hcs k z hk
          exact ⟨q1, v, by simpa using q2, q3⟩
        · rename_i h
          rw [if_neg h]
          rw [List.getElem?_append, hl2] at hk
          rw [List.getElem?_append, hln]
          split at hk
          · rename_i h2
            rw [if_pos h2]
            rw [List.getElem?_take, if_pos h2] at hk ⊢
            exact n4 _ z hk
          · rename_i h2
            rw [if_neg h2]
            rw [List.getElem?_drop] at hk ⊢
            obtain ⟨q1, v, q2, q3⟩ := hcs _ z hk
            exact ⟨q1, v, by simpa using q2, q3⟩)
    exact ⟨_, (n : Int), by simpa [goInt] using hrun, rfl, put.1, by simpa [Mem.sets] using put.2⟩

end Go.Proofs.YtfphjfbknphhjaaGreatDoor.Sh

/-
  The shadow interpreter, text 9: pictures of memory. No condition.
-/
set_option linter.unusedVariables false
set_option linter.unusedSimpArgs false
namespace Go.Proofs.YtfphjfbknphhjaaGreatDoor.Sh
variable {E : Env} {P : Program} {g g' : Gh} {w : World}

theorem Zkf : ∀ {l : List SV}, pvs l = true ↔ ∀ x ∈ l, pv x = true
  | [] => by simp [pvs]
  | x :: l => by simp [pvs, Zkf (l := l)]

theorem Zaf4 {x : SV} (h : pv x = true) : ∀ c ∈ x.cells, pv c = true := by
  cases x with
  | agg cs => simpa [SV.cells] using Zkf.1 (by simpa [pv] using h)
  | _ => intro c hc; simp [SV.cells] at hc; subst hc; exact h

theorem Zac4 {l : List SV} (h : pvs l = true) : ∀ c ∈ flat l, pv c = true := by
  intro c hc
  obtain ⟨x, hx, hcx⟩ := List.mem_flatMap.1 hc
  exact Zaf4 (Zkf.1 h x hx) c hcx

/-- A plain tree stands under other knowledge, too. -/
theorem VR.Zaq1 (H0 : g'.sent = g.sent) (H1 : ∀ b o v, g.stab b o → w.cell? ⟨b, o, none⟩ = some v → g'.stab b o) {s : SV} {v : Value} (h : VR g w s v) : pv s = true → VR g' w s v := by
  induction h with
  | bool b => intro _; exact .bool b
  | int k n => intro _; exact .int k n
  | str s => intro _; exact .str s
  | nilp => intro _; exact .nilp
  | ptr id i o b h => intro hp; simp [pv] at hp
  | rptr items i o st b start esz rv hu hc hr ih =>
    intro hp
    simp only [pv, Bool.and_eq_true] at hp
    obtain ⟨rfl, hp⟩ := hp
    exact .rptr items i o true b start esz rv hu (fun k c hk => ⟨(hc k c hk).1, H1 _ _ _ (hc k c hk).2.1 (hc k c hk).2.2, (hc k c hk).2.2⟩) (fun k c hk => ih k c hk (Zac4 hp c (List.mem_of_getElem? hk)))
  | nilsl => intro _; exact .nilsl
  | sl items tl b start cap esz rv hu hc hr hcap hfull ih =>
    intro hp
    simp only [pv, Bool.and_eq_true, bne_iff_ne, ne_eq] at hp
    obtain ⟨ht, hp⟩ := hp
    have hst : tl.st = true := by cases tl <;> simp_all [Tl.st]
    refine .sl items tl b start cap esz rv hu (fun k c hk => ?_) (fun k c hk => ih k c hk (Zac4 hp c (List.mem_of_getElem? hk))) hcap hfull
    obtain ⟨h1, h2, h3⟩ := hc k c hk
    refine ⟨h1, ?_, h3⟩
    rw [hst] at h2 ⊢
    exact H1 _ _ _ h2 h3
  | sle tl a cap hfull => intro _; exact .sle tl a cap hfull
  | own id esz i len b cap h he hl hs => intro hp; simp [pv] at hp
  | fn f a c a' c' ha hc hra hrc iha ihc =>
    intro hp
    simp only [pv, Bool.and_eq_true] at hp
    exact .fn f a c a' c' ha hc (fun k x v h1 h2 => iha k x v h1 h2 (Zkf.1 hp.1 x (List.mem_of_getElem? h1))) (fun k x v h1 h2 => ihc k x v h1 h2 (Zkf.1 hp.2 x (List.mem_of_getElem? h1)))
  | nilf => intro _; exact .nilf
  | iface t s v hx h ih => intro hp; exact .iface t s v (by rw [H0]; exact hx) (ih (by simpa [pv] using hp))
  | nili => intro _; exact .nili
  | agg cs vs hl ho hr ih => intro hp; simp only [pv] at hp; exact .agg cs vs hl ho (fun k x v h1 h2 => ih k x v h1 h2 (Zkf.1 hp x (List.mem_of_getElem? h1)))
  | tup cs vs hl hr ih => intro hp; simp only [pv] at hp; exact .tup cs vs hl (fun k x v h1 h2 => ih k x v h1 h2 (Zkf.1 hp x (List.mem_of_getElem? h1)))
  | Z v => intro _; exact .Z v

theorem mapM_some {α β : Type} {f : α → Option β} : ∀ {l : List α} {l' : List β}, l.mapM f = some l' → l.length = l'.length ∧ ∀ (k : Nat) (x : α) (y : β), l[k]? = some x → l'[k]? = some y → f x = some y
  | [], l', h => by
    simp at h
    subst h
    exact ⟨rfl, fun k x y hx => by simp at hx⟩
  | a :: l, l', h => by
    simp only [List.mapM_cons, Option.bind_eq_bind, Option.bind_eq_some_iff, Option.pure_def, Option.some.injEq] at h
    obtain ⟨b, hb, m, hm, rfl⟩ := h
    obtain ⟨h1, h2⟩ := mapM_some hm
    refine ⟨by simp [h1], fun k x y hx hy => ?_⟩
    cases k with
    | zero => simp at hx hy; subst hx hy; exact hb
    | succ k => exact h2 k x y (by simpa using hx) (by simpa using hy)

theorem Zym {R : SV → SV → Prop} : ∀ {xs ys : List SV}, xs.length = ys.length →
    (∀ (j : Nat) (x y : SV), xs[j]? = some x → ys[j]? = some y → x.cells.length = y.cells.length ∧ ∀ (k : Nat) (c d : SV), x.cells[k]? = some c → y.cells[k]? = some d → R c d) →
    (flat xs).length = (flat ys).length ∧ ∀ (k : Nat) (c d : SV), (flat xs)[k]? = some c → (flat ys)[k]? = some d → R c d
  | [], [], _, _ => ⟨rfl, fun k c d hc => by simp [flat] at hc⟩
  | x :: xs, y :: ys, hl, h => by
    obtain ⟨h1, h2⟩ := h 0 x y rfl rfl
    obtain ⟨h3, h4⟩ := Zym (R := R) (xs := xs) (ys := ys) (by simpa using hl) (fun j a b ha hb => h (j + 1) a b (by simpa using ha) (by simpa using hb))
    refine ⟨by rw [Zlq, Zlq, List.length_append, List.length_append, h1, h3], fun k c d hc hd => ?_⟩
    rw [Zlq] at hc hd
    by_cases hk : k < x.cells.length
    · rw [List.getElem?_append_left hk] at hc
      rw [List.getElem?_append_left (by rw [← h1]; exact hk)] at hd
      exact h2 k c d hc hd
    · rw [List.getElem?_append_right (by omega)] at hc
      rw [List.getElem?_append_right (by rw [← h1]; omega), ← h1] at hd
      exact h4 _ c d hc hd

theorem Zaga {get : Nat → Option (List SV)} {st : Bool} {n : Nat} {s : SV} (h : pv s = true) : pic get st n s = some s := by
  cases n <;> simp [pic, h]

theorem Zmn {f : SV → Option SV} : ∀ {l : List SV}, (∀ x ∈ l, f x = some x) → l.mapM f = some l
  | [], _ => rfl
  | x :: r, h => by
    rw [List.mapM_cons, h x (by simp), Zmn (l := r) fun y hy => h y (by simp [hy])]
    rfl

theorem Zac {x : SV} (h : pv x = true) : ∀ n, np n x = true
  | 0 => h
  | n + 1 => by simp [np, h]

theorem Zd3 {get : Nat → Option (List SV)} {st : Bool} : ∀ {n : Nat} {x : SV}, np n x = true → pic get st n x = some x
  | 0, x, h => by simp only [np] at h; simp [pic, h]
  | n + 1, x, h => by
    unfold pic
    cases hp : pv x with
    | true => simp
    | false =>
      simp only [np, hp, Bool.false_or] at h
      simp only [Bool.false_eq_true, if_false]
      have all : ∀ l : List SV, l.all (np n) = true → l.mapM (pic get st n) = some l := fun l hl => Zmn fun y hy => Zd3 (List.all_eq_true.1 hl y hy)
      cases x <;> simp only [Bool.and_eq_true] at h <;> first | (cases h; done) | skip
      · dsimp only; rw [all _ h]
      · dsimp only; rw [all _ h]
      · dsimp only; rw [all _ h.1, all _ h.2]
      · dsimp only; rw [Zd3 h]
      · dsimp only; rw [all _ h]
      · dsimp only; rw [all _ h]

theorem Zut {get : Nat → Option (List SV)} {st : Bool} {n : Nat} {x x' : SV} (h : pic get st n x = some x') :
    x.cells.length = x'.cells.length ∧ ∀ (k : Nat) (c d : SV), x.cells[k]? = some c → x'.cells[k]? = some d → ∃ m, m ≤ n ∧ pic get st m c = some d := by
  by_cases hp : pv x = true
  · rw [Zaga hp] at h
    simp only [Option.some.injEq] at h
    subst h
    refine ⟨rfl, fun k c d hc hd => ⟨n, Nat.le_refl _, ?_⟩⟩
    rw [hc] at hd
    simp only [Option.some.injEq] at hd
    subst hd
    exact Zaga (Zaf4 hp c (List.mem_of_getElem? hc))
  · cases n with
    | zero => simp [pic, hp] at h
    | succ n =>
      have whole : ∀ (q q' : SV), q = x → q' = x' → q.cells = [q] → q'.cells = [q'] → x.cells.length = x'.cells.length ∧ ∀ (k : Nat) (c d : SV), x.cells[k]? = some c → x'.cells[k]? = some d → ∃ m, m ≤ n + 1 ∧ pic get st m c = some d := by
        rintro q q' rfl rfl hq hq'
        rw [hq, hq']
        refine ⟨rfl, fun k c d hc hd => ⟨n + 1, Nat.le_refl _, ?_⟩⟩
        cases k with
        | zero => simp at hc hd; subst hc hd; exact h
        | succ k => simp at hc
      have h0 := h
      simp only [pic, if_neg hp] at h
      split at h
      case h_7 cs =>
        split at h
        case h_2 => cases h
        rename_i cs' hcs
        simp only [Option.some.injEq] at h
        subst h
        obtain ⟨a1, a2⟩ := mapM_some hcs
        exact ⟨a1, fun k c d hc hd => ⟨n, Nat.le_succ n, a2 k c d hc hd⟩⟩
      all_goals ((try (repeat' split at h)) <;>
        first
          | (cases h; done)
          | (simp only [Option.some.injEq] at h
             exact whole _ _ rfl h rfl rfl)
          | (simp only [Option.some.injEq] at h
             subst h
             rename_i hx1 hx2 hx3 hx4 hx5 hx6 hx7 hx8
             refine whole _ _ rfl rfl ?_ ?_ <;> (cases x <;> simp_all [SV.cells])))

theorem Zant {get : Nat → Option (List SV)} {st : Bool} {n : Nat} {c d : SV} (h : pic get st n c = some d) (hc : c.one = true) : d.one = true := by
  by_cases hp : pv c = true
  · rw [Zaga hp] at h
    simp only [Option.some.injEq] at h
    subst h
    exact hc
  · cases n with
    | zero => simp [pic, hp] at h
    | succ n =>
      simp only [pic, if_neg hp] at h
      split at h
      all_goals ((try (repeat' split at h)) <;>
        first
          | (cases h; done)
          | (simp [SV.one] at hc; done)
          | (simp only [Option.some.injEq] at h; subst h; first | rfl | exact hc))


theorem Zatr {l : List SV} (h : pvs l = true) {k : Nat} {x : SV} (hx : l[k]? = some x) : pv x = true := Zkf.1 h x (List.mem_of_getElem? hx)

/-- A picture of a value stands to the model's value as the value did, under other knowledge. -/
theorem Zanm {M : Mem} {fr : Nat → Prop} (hM : MR E g w M fr) {get : Nat → Option (List SV)} (hget : ∀ id items, get id = some items → M.blk id = some items) {st : Bool} (H0 : g'.sent = g.sent)
    (H1 : ∀ b o v, g.stab b o → w.cell? ⟨b, o, none⟩ = some v → g'.stab b o)
    (H2 : st = false → ∀ b o v, w.cell? ⟨b, o, none⟩ = some v → g'.now b o)
    (H3 : st = true → ∀ b o v, g.base ≤ b → w.cell? ⟨b, o, none⟩ = some v → g'.stab b o) :
    ∀ (n : Nat) (s s' : SV) (v : Value), pic get st n s = some s' → (st = true → pv s' = true) → VR g w s v → VR g' w s' v := by
  intro n
  induction n using Nat.strongRecOn with
  | _ n IH =>
  intro s s' v hpic hpv hv
  by_cases hp : pv s = true
  · rw [Zaga hp] at hpic
    simp only [Option.some.injEq] at hpic
    subst hpic
    exact hv.Zaq1 H0 H1 hp
  cases n with
  | zero => simp [pic, hp] at hpic
  | succ n =>
  have seesOf : ∀ (b o : Nat) (v : Value), g.base ≤ b → w.cell? ⟨b, o, none⟩ = some v → g'.sees st b o := by
    intro b o v hb hc
    cases hst : st with
    | true => exact H3 hst b o v hb hc
    | false => exact H2 hst b o v hc
  -- a block of the shadow's memory, as a picture
  have block : ∀ (xs xs' : List SV) (b start esz : Nat), xs.mapM (pic get st n) = some xs' → (st = true → pvs xs' = true) → (∀ x ∈ xs, x.cells.length = esz) →
      (∀ (k : Nat) (c : SV), (flat xs)[k]? = some c → c.one = true ∧ ∃ v, w.cell? ⟨b, start + k, none⟩ = some v ∧ VR g w c v) →
      (∀ x ∈ xs', x.cells.length = esz) ∧ ∃ rv : Nat → Value, (∀ (k : Nat) (c : SV), (flat xs')[k]? = some c → c.one = true ∧ w.cell? ⟨b, start + k, none⟩ = some (rv k)) ∧
        ∀ (k : Nat) (c : SV), (flat xs')[k]? = some c → VR g' w c (rv k) := by
    intro xs xs' b start esz hm hpv' hu hc
    obtain ⟨m1, m2⟩ := mapM_some hm
    have hlen : ∀ x ∈ xs', x.cells.length = esz := by
      intro x' hx'
      obtain ⟨k, hk⟩ := List.mem_iff_getElem?.1 hx'
      have hlt : k < xs.length := by rw [m1]; exact (List.getElem?_eq_some_iff.1 hk).1
      have := (Zut (m2 k xs[k] x' (by simp [hlt]) hk)).1
      rw [← this]
      exact hu _ (by simp)
    obtain ⟨f1, f2⟩ := Zym (R := fun c d => ∃ m, m ≤ n ∧ pic get st m c = some d) m1 (fun j x y hx hy => Zut (m2 j x y hx hy))
    have full : ∀ (k : Nat) (d : SV), (flat xs')[k]? = some d → d.one = true ∧ ∃ u, w.cell? ⟨b, start + k, none⟩ = some u ∧ VR g' w d u := by
      intro k d hd
      have hlt : k < (flat xs).length := by rw [f1]; exact (List.getElem?_eq_some_iff.1 hd).1
      obtain ⟨m, hm, hpm⟩ := f2 k _ d (List.getElem?_eq_getElem hlt) hd
      obtain ⟨h1, u, hu1, hr⟩ := hc k _ (List.getElem?_eq_getElem hlt)
      refine ⟨Zant hpm h1, u, hu1, IH m (by omega) _ d u hpm (fun hs => Zac4 (hpv' hs) d (List.mem_of_getElem? hd)) hr⟩
    refine ⟨hlen, fun k => (w.cell? ⟨b, start + k, none⟩).getD undef, fun k c hk => ?_, fun k c hk => ?_⟩
    · obtain ⟨h1, u, hu1, _⟩ := full k c hk
      exact ⟨h1, by simp [hu1]⟩
    · obtain ⟨_, u, hu1, hr⟩ := full k c hk
      show VR g' w c ((w.cell? ⟨b, start + k, none⟩).getD undef)
      rw [hu1]
      exact hr
  have list : ∀ (xs xs' : List SV) (vs : Array Value), xs.mapM (pic get st n) = some xs' → (st = true → pvs xs' = true) → xs.length = vs.size →
      (∀ (k : Nat) (x : SV) (v : Value), xs[k]? = some x → vs[k]? = some v → VR g w x v) → xs'.length = vs.size ∧ ∀ (k : Nat) (x : SV) (v : Value), xs'[k]? = some x → vs[k]? = some v → VR g' w x v := by
    intro xs xs' vs hm hpv' hl hr
    obtain ⟨m1, m2⟩ := mapM_some hm
    refine ⟨by rw [← m1, hl], fun k x v hx hv => ?_⟩
    have hlt : k < xs.length := by rw [m1]; exact (List.getElem?_eq_some_iff.1 hx).1
    exact IH n (by omega) xs[k] x v (m2 k _ x (by simp [hlt]) hx) (fun hs => Zatr (hpv' hs) hx) (hr k _ v (by simp [hlt]) hv)
  simp only [pic, if_neg hp] at hpic
  split at hpic
  · rename_i id i o
    split at hpic
    case h_2 => cases hpic
    rename_i items hgi
    split at hpic
    case h_2 => cases hpic
    rename_i items' hm
    simp only [Option.some.injEq] at hpic
    subst hpic
    cases hv with
    | ptr _ _ _ b hown =>
    obtain ⟨b', c, e, ho, hb, _, hu, hheap, hcs⟩ := hM.blk id items (hget id items hgi)
    obtain rfl : b' = b := by rw [hown] at ho; simpa using ho.symm
    obtain ⟨k1, rv, k2, k3⟩ := block items items' b' 0 (g.esz id) hm (fun hs => by have := hpv hs; simp only [pv, Bool.and_eq_true] at this; exact this.2) hu (fun k c' hk => by
      obtain ⟨h1, u, hu1, hr⟩ := hcs k c' hk
      exact ⟨h1, u, by rw [Nat.zero_add, cell?_cells hheap]; exact hu1, hr⟩)
    have := VR.rptr (g := g') (w := w) items' i o st b' 0 (g.esz id) rv k1 (fun k c hk => ⟨(k2 k c hk).1, seesOf _ _ _ hb (k2 k c hk).2, (k2 k c hk).2⟩) k3
    simpa using this
  · rename_i id esz i len
    split at hpic
    case h_2 => cases hpic
    rename_i items hgi
    split at hpic
    case isFalse => cases hpic
    rename_i hle
    split at hpic
    case h_2 => cases hpic
    rename_i items' hm
    simp only [Option.some.injEq] at hpic
    subst hpic
    cases hv with
    | own _ _ _ _ b cap hown hesz hlc hsz =>
    obtain ⟨b', c, e, ho, hb, _, hu, hheap, hcs⟩ := hM.blk id items (hget id items hgi)
    obtain rfl : b' = b := by rw [hown] at ho; simpa using ho.symm
    have hun : ∀ x ∈ items, x.cells.length = esz := fun x hx => by rw [hu x hx, hesz]
    have hfl : flat ((items.drop i).take len) = ((flat items).drop (i * esz)).take (len * esz) := by
      rw [Zmt (n := esz) len (fun y hy => hun y (List.mem_of_mem_drop hy)), Zqe (n := esz) i hun]
    have hst : (if st then Tl.ro else Tl.snap).st = st := by cases st <;> rfl
    obtain ⟨k1, rv, k2, k3⟩ := block ((items.drop i).take len) items' b' (i * esz) esz hm (fun hs => by
      have := hpv hs
      simp only [pv, Bool.and_eq_true] at this
      exact this.2) (fun x hx => hun x (List.mem_of_mem_drop (List.mem_of_mem_take hx))) (fun k c' hk => by
      rw [hfl, List.getElem?_take] at hk
      split at hk
      · rw [List.getElem?_drop] at hk
        obtain ⟨h1, u, hu1, hr⟩ := hcs _ c' hk
        exact ⟨h1, u, by rw [cell?_cells hheap]; exact hu1, hr⟩
      · cases hk)
    have hl : items'.length = len := by
      have := (mapM_some hm).1
      rw [← this]
      simp; omega
    have := VR.sl (g := g') (w := w) items' (if st then .ro else .snap) b' (i * esz) cap esz rv k1 (fun k c hk => ⟨(k2 k c hk).1, by rw [hst]; exact seesOf _ _ _ hb (k2 k c hk).2, (k2 k c hk).2⟩) k3 (by rw [hl]; exact hlc) (fun hf => by cases st <;> cases hf)
    rw [hl] at this
    exact this
  · rename_i items tl
    split at hpic
    case h_2 => cases hpic
    rename_i items' hm
    simp only [Option.some.injEq] at hpic
    subst hpic
    cases hv with
    | sle _ a cap hfull =>
      simp at hm
      subst hm
      exact .sle tl a cap hfull
    | sl _ _ b start cap esz rv0 hu hc hr hcap hfull =>
    obtain ⟨k1, rv, k2, k3⟩ := block items items' b start esz hm (fun hs => by
      have := hpv hs
      simp only [pv, Bool.and_eq_true] at this
      exact this.2) hu (fun k c hk => ⟨(hc k c hk).1, _, (hc k c hk).2.2, hr k c hk⟩)
    have hl := (mapM_some hm).1
    obtain ⟨f1, _⟩ := Zym (R := fun c d => ∃ m, m ≤ n ∧ pic get st m c = some d) hl (fun j x y hx hy => Zut ((mapM_some hm).2 j x y hx hy))
    have := VR.sl (g := g') (w := w) items' tl b start cap esz rv k1 (fun k c hk => ⟨(k2 k c hk).1, by
      have hlt : k < (flat items).length := by rw [f1]; exact (List.getElem?_eq_some_iff.1 hk).1
      have hsee := (hc k _ (List.getElem?_eq_getElem hlt)).2.1
      cases ht : tl.st with
      | true => rw [ht] at hsee; exact H1 _ _ _ hsee (k2 k c hk).2
      | false =>
        cases hs : st with
        | false => exact H2 hs _ _ _ (k2 k c hk).2
        | true =>
          have := hpv hs
          simp only [pv, Bool.and_eq_true, bne_iff_ne, ne_eq] at this
          exact absurd (by cases tl <;> simp_all [Tl.st]) this.1, (k2 k c hk).2⟩) k3 (by rw [← hl]; exact hcap) (fun hf => by rw [← hl]; exact hfull hf)
    rw [← hl] at this
    exact this
  · rename_i items i o sp
    split at hpic
    case h_2 => cases hpic
    rename_i items' hm
    simp only [Option.some.injEq] at hpic
    subst hpic
    cases hv with
    | rptr _ _ _ _ b start esz rv0 hu hc hr =>
    obtain ⟨k1, rv, k2, k3⟩ := block items items' b start esz hm (fun hs => by
      have := hpv hs
      simp only [pv, Bool.and_eq_true] at this
      exact this.2) hu (fun k c hk => ⟨(hc k c hk).1, _, (hc k c hk).2.2, hr k c hk⟩)
    have hl := (mapM_some hm).1
    obtain ⟨f1, _⟩ := Zym (R := fun c d => ∃ m, m ≤ n ∧ pic get st m c = some d) hl (fun j x y hx hy => Zut ((mapM_some hm).2 j x y hx hy))
    exact VR.rptr (g := g') (w := w) items' i o sp b start esz rv k1 (fun k c hk => ⟨(k2 k c hk).1, by
      have hlt : k < (flat items).length := by rw [f1]; exact (List.getElem?_eq_some_iff.1 hk).1
      have hsee := (hc k _ (List.getElem?_eq_getElem hlt)).2.1
      cases sp with
      | true => exact H1 _ _ _ hsee (k2 k c hk).2
      | false =>
        cases hs : st with
        | false => exact H2 hs _ _ _ (k2 k c hk).2
        | true =>
          have := hpv hs
          simp [pv] at this, (k2 k c hk).2⟩) k3
  · rename_i f a b
    split at hpic
    case h_2 => cases hpic
    rename_i a' b' ha hb
    simp only [Option.some.injEq] at hpic
    subst hpic
    cases hv with
    | fn _ _ _ av bv hal hbl har hbr =>
    have hpv' : st = true → pvs a' = true ∧ pvs b' = true := fun hs => by
      have := hpv hs
      simpa [pv] using this
    obtain ⟨p1, p2⟩ := list a a' av ha (fun hs => (hpv' hs).1) hal har
    obtain ⟨q1, q2⟩ := list b b' bv hb (fun hs => (hpv' hs).2) hbl hbr
    exact .fn f a' b' av bv p1 q1 p2 q2
  · rename_i t x
    split at hpic
    case h_2 => cases hpic
    rename_i x' hx
    simp only [Option.some.injEq] at hpic
    subst hpic
    cases hv with
    | iface _ _ v' hx' hv' =>
    exact .iface t x' v' (by rw [H0]; exact hx') (IH n (by omega) x x' v' hx (fun hs => by have := hpv hs; simpa [pv] using this) hv')
  · rename_i cs
    split at hpic
    case h_2 => cases hpic
    rename_i cs' hm
    simp only [Option.some.injEq] at hpic
    subst hpic
    cases hv with
    | agg _ vs hl ho hr =>
    obtain ⟨p1, p2⟩ := list cs cs' vs hm (fun hs => by have := hpv hs; simpa [pv] using this) hl hr
    refine .agg cs' vs p1 (fun c hc => ?_) p2
    obtain ⟨k, hk⟩ := List.mem_iff_getElem?.1 hc
    obtain ⟨m1, m2⟩ := mapM_some hm
    have hlt : k < cs.length := by rw [m1]; exact (List.getElem?_eq_some_iff.1 hk).1
    exact Zant (m2 k cs[k] c (by simp [hlt]) hk) (ho _ (by simp))
  · rename_i vs
    split at hpic
    case h_2 => cases hpic
    rename_i vs' hm
    simp only [Option.some.injEq] at hpic
    subst hpic
    cases hv with
    | tup _ vv hl hr =>
    obtain ⟨p1, p2⟩ := list vs vs' vv hm (fun hs => by have := hpv hs; simpa [pv] using this) hl hr
    exact .tup vs' vv p1 p2
  · rename_i h1 h2 h3 h4 h5 h6 h7 h8
    simp only [Option.some.injEq] at hpic
    subst hpic
    exfalso
    apply hp
    cases s <;> first
      | rfl
      | exact (h1 _ _ _ rfl).elim
      | exact (h2 _ _ _ _ rfl).elim
      | exact (h3 _ _ rfl).elim
      | exact (h4 _ _ _ _ rfl).elim
      | exact (h5 _ _ _ rfl).elim
      | exact (h6 _ _ rfl).elim
      | exact (h7 _ rfl).elim
      | exact (h8 _ rfl).elim

end Go.Proofs.YtfphjfbknphhjaaGreatDoor.Sh

/-
  The shadow interpreter, text 10: one operation. No condition.
-/
set_option linter.unusedVariables false
set_option linter.unusedSimpArgs false
namespace Go.Proofs.YtfphjfbknphhjaaGreatDoor.Sh
variable {E : Env} {P : Program} {g g' : Gh} {w : World}

def Zaiv : Op → Bool
  | .alloc _ | .box .. | .buildSlice .. | .makeSlice .. => true
  | .call { callee := .builtin .append, .. } => true
  | _ => false

def Zagf : Op → Bool
  | .call { callee := .value _, .. } => true
  | _ => false

/-- What an operation that is no call does. -/
structure Does (E : Env) (g : Gh) (w : World) (M : Mem) (fr : Nat → Prop) (aid : Nat) (nw : Bool) (R : Result Next) (v : SV) (u : List (Nat × Option (List SV))) : Prop where
  ex : ∃ (w' : World) (g' : Gh) (v' : Value), (R = .ok (.value v') w' ∨ (R = .ok .skip w' ∧ v' = undef)) ∧ Evo g w g' w' ∧ MR E g' w' (M.sets u) (fun j => fr j ∧ (nw = true → j ≠ aid)) ∧ VR g' w' v v' ∧
    ∀ j, j ≠ aid → g'.own j = g.own j

theorem Does.same {M : Mem} {fr : Nat → Prop} (hM : MR E g w M fr) (aid : Nat) (nw : Bool) {R : Result Next} {v : SV} {v' : Value} (hR : R = .ok (.value v') w) (hv : VR g w v v') : Does E g w M fr aid nw R v [] :=
  ⟨w, g, v', .inl hR, .refl g w, hM.weaken fun _ h => h.1, hv, fun _ _ => rfl⟩

theorem Does.made {M : Mem} {fr : Nat → Prop} {aid : Nat} {R : Result Next} {v : SV} {u : List (Nat × Option (List SV))} {w' : World} {g' : Gh} {v' : Value} (hR : R = .ok (.value v') w') (hd : Done E g w g' w' (M.sets u) fr aid) (hv : VR g' w' v v') :
    Does E g w M fr aid true R v u :=
  ⟨w', g', v', .inl hR, hd.evo, hd.mr.weaken fun _ h => ⟨h.1, h.2 rfl⟩, hv, hd.keep⟩

theorem Does.weaken {M : Mem} {fr : Nat → Prop} {aid : Nat} {R : Result Next} {v : SV} {u : List (Nat × Option (List SV))} (h : Does E g w M fr aid true R v u) (nw : Bool) (hn : nw = true) : Does E g w M fr aid nw R v u := by
  subst hn; exact h

theorem Zf9 {x : Option SV} {v : SV} {u : List (Nat × Option (List SV))} (h : (match x with | some y => some (y, ([] : List (Nat × Option (List SV)))) | none => none) = some (v, u)) : x = some v ∧ u = [] := by
  cases x with
  | none => cases h
  | some y => simp at h; exact ⟨by rw [h.1], h.2⟩

theorem Zash {M : Mem} {fr : Nat → Prop} (hM : MR E g w M fr) {pc : PC} {aid : Nat} {ρ : Operand → SV} {ρ' : Operand → Value} (hρ : ∀ x, VR g w (ρ x) (ρ' x)) {get : Nat → Option (List SV)} (hget : ∀ id items, get id = some items → M.blk id = some items)
    {o : Oper} (hnc : Zagf o.op = false) (hfr : Zaiv o.op = true → fr aid) {v : SV} {u : List (Nat × Option (List SV))} (h : act E pc aid ρ get o = some (v, u)) :
    Does E g w M fr aid (Zaiv o.op) ((execOp ρ' o).run E.P w) v u := by
  obtain ⟨dst, op, type, pos, after, guard⟩ := o
  cases op <;> simp only [act] at h <;> (try (cases h; done))
  case move x =>
    simp only [Option.some.injEq, Prod.mk.injEq] at h
    obtain ⟨rfl, rfl⟩ := h
    exact .same hM aid _ rfl (hρ x)
  case assign x =>
    simp only [Option.some.injEq, Prod.mk.injEq] at h
    obtain ⟨rfl, rfl⟩ := h
    exact .same hM aid _ rfl (hρ x)
  case pick c p q =>
    have hc := hρ c
    split at h
    · rename_i b hb
      rw [hb] at hc
      simp only [Option.some.injEq, Prod.mk.injEq] at h
      obtain ⟨rfl, rfl⟩ := h
      refine .same hM aid _ (v' := if b then ρ' p else ρ' q) ?_ ?_
      · simp [execOp, hc.Zrv, asBool]
      · cases b
        · exact hρ q
        · exact hρ p
    · cases h
  case alloc t =>
    split at h
    case h_2 => cases h
    rename_i ti hti
    split at h
    case h_2 => cases h
    rename_i z hz
    split at h
    case isFalse => cases h
    rename_i hs
    simp only [Option.some.injEq, Prod.mk.injEq] at h
    obtain ⟨rfl, rfl⟩ := h
    obtain ⟨w', g', v', h1, h2, h3⟩ := Zalj hM (hfr rfl) hti hz hs
    exact .made (by simp [execOp, h1]) (by simpa [Mem.sets] using h2) h3
  case box t x =>
    split at h
    case isFalse => cases h
    rename_i hs
    simp only [Option.some.injEq, Prod.mk.injEq] at h
    obtain ⟨rfl, rfl⟩ := h
    obtain ⟨w', g', v', h1, h2, h3⟩ := Zats (P := E.P) hM (hfr rfl) (t := t) (hρ x) hs
    exact .made (by simp [execOp, h1]) (by simpa [Mem.sets] using h2) h3
  case build t parts =>
    split at h
    case h_2 => cases h
    rename_i ti hti
    split at h
    case h_2 => cases h
    rename_i zs pl hz hpl
    obtain ⟨hx, rfl⟩ := Zf9 h
    split at hx
    case h_2 => cases hx
    rename_i cs hcs
    simp only [Option.some.injEq] at hx
    subst hx
    obtain ⟨d, i, hd, hi, rfl⟩ := Zba hti
    simp only [Option.map_eq_some_iff] at hz
    obtain ⟨zv, hzv, hze⟩ := hz
    have hzr := VR.Zuf g w zv
    rw [hze] at hzr
    cases hzr with
    | agg _ za zl zo zr =>
    have hparts : ∀ (j : Nat) (x : Nat × SV) (y : Nat × Value), (parts.toList.map fun p => (p.1, ρ p.2))[j]? = some x → (parts.toList.map fun p => (p.1, ρ' p.2))[j]? = some y → x.1 = y.1 ∧ VR g w x.2 y.2 := by
      intro j x y hx hy
      simp only [List.getElem?_map, Option.map_eq_some_iff] at hx hy
      obtain ⟨p, hp, rfl⟩ := hx
      obtain ⟨q, hq, rfl⟩ := hy
      rw [hp] at hq
      cases hq
      exact ⟨rfl, hρ _⟩
    obtain ⟨r', hf, hvr⟩ := Z40 _ (parts.toList.map fun p => (p.1, ρ' p.2)) zs za cs (.agg zs za zl zo zr) (by simp) hparts hcs
    have hpt : (parts.map fun (i, x) => (i, ρ' x)).toList = parts.toList.map fun p => (p.1, ρ' p.2) := by simp
    refine .same hM aid _ (v' := .agg r') ?_ hvr
    cases d <;> (try (simp [Zxi, placesOf] at hpl; done))
    case array n e =>
      simp only [Zxi, placesOf] at hpl
      split at hpl
      case h_2 => cases hpl
      rename_i te hte
      obtain ⟨d2, i2, hd2, hi2, rfl⟩ := Zba hte
      simp only [Option.some.injEq] at hpl
      subst hpl
      simp [execOp, Instr.build, zeroValue, run_typeInfo hi, hzv, run_underlying hd, Zce hi2, Value.cells, hpt, hf]
    case struct fa =>
      obtain ⟨ps, hps, hpe⟩ := Z1f (w := w) hpl
      have hfill : Instr.fill (ps[·]?) za (parts.toList.map fun p => (p.1, ρ' p.2)) = some r' := by
        have : pl = (ps[·]?) := funext hpe
        rw [← this]
        exact hf
      simp only [execOp, Instr.build, Sem.run_bind, zeroValue, run_typeInfo hi, hzv, Result.andThen_ok, Sem.run_pure, run_underlying hd, Value.cells, hpt, hps, hfill]
  case buildSlice t len parts =>
    split at h
    case h_2 => cases h
    rename_i e x1 x2 x3 ht
    split at h
    case h_2 => cases h
    rename_i te hte
    split at h
    case h_2 => cases h
    rename_i z hz
    split at h
    case isFalse => cases h
    rename_i hc
    split at h
    case h_2 => cases h
    rename_i xs hxs
    simp only [Option.some.injEq, Prod.mk.injEq] at h
    obtain ⟨rfl, rfl⟩ := h
    obtain ⟨w', g', v', h1, h2, h3⟩ := Z2v hM (hfr rfl) ht hte hz hc (qs := parts.map fun (i, x) => (i, ρ' x)) (by simp) (fun j x y hx hy => by
      simp only [List.getElem?_map, Array.getElem?_toList, Array.getElem?_map, Option.map_eq_some_iff] at hx hy
      obtain ⟨p, hp, rfl⟩ := hx
      obtain ⟨q, hq, rfl⟩ := hy
      rw [hp] at hq
      cases hq
      exact ⟨rfl, hρ _⟩) hxs
    exact .made (by simp only [execOp, Sem.run_bind, h1, Result.andThen_ok]; rfl) (by simpa [Mem.sets] using h2) h3
  case load t x =>
    obtain ⟨hx, rfl⟩ := Zf9 h
    obtain ⟨r', h1, h2⟩ := Zaay hM hget (hρ x) hx
    exact .same hM aid _ (by simp [execOp, h1]) h2
  case store t x y =>
    split at h
    case h_2 => cases h
    rename_i u' hu
    simp only [Option.some.injEq, Prod.mk.injEq] at h
    obtain ⟨rfl, rfl⟩ := h
    obtain ⟨w', h1, h2, h3⟩ := Zalu hM hget aid (hρ x) (hρ y) hu
    exact ⟨w', g, undef, .inr ⟨by simp [execOp, h1], rfl⟩, h2, h3.weaken fun _ h => h.1, .tup [] #[] rfl (fun k x v hx _ => by simp at hx), fun _ _ => rfl⟩
  case nilCheck x =>
    have hx := hρ x
    split at h
    all_goals first | (cases h; done) | skip
    all_goals
      rename_i hq
      rw [hq] at hx
      simp only [Option.some.injEq, Prod.mk.injEq] at h
      obtain ⟨rfl, rfl⟩ := h
      refine .same hM aid _ (v' := ρ' x) ?_ hx
      generalize hy : ρ' x = y at hx
      cases hx
      simp [execOp, hy]
  case binOp op t x y yt =>
    obtain ⟨hx, rfl⟩ := Zf9 h
    obtain ⟨r', h1, h2, h3⟩ := Zaqc (xo := x) (yo := y) (hρ x) (hρ y) rfl hx
    exact .same hM aid _ (by simp [execOp, h1, h2]) h3
  case unOp op t x =>
    obtain ⟨hx, rfl⟩ := Zf9 h
    obtain ⟨r', h1, h2⟩ := Zasj (P := E.P) (hρ x) hx
    exact .same hM aid _ (by simp [execOp, h1]) h2
  case convert s d x =>
    obtain ⟨hx, rfl⟩ := Zf9 h
    obtain ⟨r', h1, h2⟩ := Zala hM hget (hρ x) hx
    exact .same hM aid _ (by simp [execOp, h1]) h2
  case makeInterface t x =>
    split at h
    · cases h
    rename_i hsn
    split at h
    · cases h
    · rename_i ti hni hti
      simp only [Option.some.injEq, Prod.mk.injEq] at h
      obtain ⟨rfl, rfl⟩ := h
      obtain ⟨d, i, hd, hi, rfl⟩ := Zba hti
      refine .same hM aid _ (v' := .iface t (ρ' x)) ?_ (.iface t _ _ (fun u hu => by rw [(hM.sent t).1 (by simpa using hsn)] at hu; cases hu) (hρ x))
      cases d <;> first | (simp [execOp, Instr.makeInterface, run_underlying hd]; done) | skip
      exact (hni _ _ _ rfl).elim
    · cases h
  case makeFunc fn first caps =>
    cases fn <;> simp only at h <;> (try (cases h; done))
    rename_i f
    simp only [Option.some.injEq, Prod.mk.injEq] at h
    obtain ⟨rfl, rfl⟩ := h
    refine .same hM aid _ (v' := .func (.func f) (first.map ρ') (caps.map ρ')) (by simp [execOp, Instr.makeFunc]) (.fn f _ _ _ _ (by simp) (by simp) (fun k x v hx hv => ?_) (fun k x v hx hv => ?_))
    · simp only [List.getElem?_map, Array.getElem?_toList, Array.getElem?_map, Option.map_eq_some_iff] at hx hv
      obtain ⟨p, hp, rfl⟩ := hx
      obtain ⟨q, hq, rfl⟩ := hv
      rw [hp] at hq
      cases hq
      exact hρ _
    · simp only [List.getElem?_map, Array.getElem?_toList, Array.getElem?_map, Option.map_eq_some_iff] at hx hv
      obtain ⟨p, hp, rfl⟩ := hx
      obtain ⟨q, hq, rfl⟩ := hv
      rw [hp] at hq
      cases hq
      exact hρ _
  case makeSlice t l c =>
    split at h
    case h_2 => cases h
    rename_i e x1 x2 x3 ht
    split at h
    case h_2 => cases h
    rename_i te n m hte hl hc
    split at h
    case h_2 => cases h
    rename_i z hz
    split at h
    case isFalse => cases h
    rename_i hcond
    simp only [Option.some.injEq, Prod.mk.injEq] at h
    obtain ⟨rfl, rfl⟩ := h
    obtain ⟨q1, q2, q3, rfl, q5, q6, q7⟩ := hcond
    obtain ⟨w', g', v', h1, h2, h3⟩ := Z55 hM (hfr rfl) ht hte hz ⟨q1, q2, q3, q5, q6, q7⟩
    have e1 := hρ l
    have e2 := hρ c
    rw [hl] at e1
    rw [hc] at e2
    exact .made (by simp [execOp, e1.Znp, e2.Znp, h1]) (by simpa [Mem.sets] using h2) h3
  case slice t x lo hi mx =>
    obtain ⟨hx, rfl⟩ := Zf9 h
    obtain ⟨r', h1, h2⟩ := Zag8 (P := E.P) hM.good (hρ x) (VRO.map hρ lo) (VRO.map hρ hi) (VRO.map hρ mx) hx
    exact .same hM aid _ (by simp [execOp, h1]) h2
  case fieldAddr t x f =>
    obtain ⟨hx, rfl⟩ := Zf9 h
    obtain ⟨r', h1, h2⟩ := Z3b (hρ x) hx
    exact .same hM aid _ (by simp [execOp, h1]) h2
  case field t x f =>
    obtain ⟨hx, rfl⟩ := Zf9 h
    obtain ⟨r', h1, h2⟩ := Zait (hρ x) hx
    exact .same hM aid _ (by simp [execOp, h1]) h2
  case indexAddr t x i =>
    obtain ⟨hx, rfl⟩ := Zf9 h
    obtain ⟨r', h1, h2⟩ := Z3o (hρ x) (hρ i) hx
    exact .same hM aid _ (by simp [execOp, h1]) h2
  case index t x i =>
    obtain ⟨hx, rfl⟩ := Zf9 h
    obtain ⟨r', h1, h2⟩ := Zahc (hρ x) (hρ i) hx
    exact .same hM aid _ (by simp [execOp, h1]) h2
  case typeAssert x xt t ok =>
    obtain ⟨hx, rfl⟩ := Zf9 h
    obtain ⟨r', h1, h2⟩ := Zade (xt := xt) (hρ x) hx
    exact .same hM aid _ (by simp [execOp, h1]) h2
  case extract t i =>
    have ht := hρ t
    split at h
    case h_2 => cases h
    rename_i vs hvs
    rw [hvs] at ht
    obtain ⟨hx, rfl⟩ := Zf9 h
    generalize hy : ρ' t = y at ht
    cases ht with
    | tup _ vv hl hr =>
    have hlt : i < vv.size := by rw [← hl]; exact (List.getElem?_eq_some_iff.1 hx).1
    refine .same hM aid _ (v' := vv[i]) ?_ (hr i v _ hx (by simp [hlt]))
    simp [execOp, hy, Instr.extract, hlt]
  case call c =>
    obtain ⟨callee, args, argTypes⟩ := c
    simp only at h
    cases callee with
    | value f => simp [Zagf] at hnc
    | invoke r m => simp only at h; cases h
    | builtin b =>
      cases b <;> simp only at h <;> (try (cases h; done))
      case append =>
        split at h
        case h_2 => cases h
        rename_i s x t t2 ha ht
        obtain ⟨w', g', v', h1, h2, h3⟩ := Zahf (P := E.P) (ty := type) hM hget (hfr rfl) (hρ s) (hρ x) h
        have ha' : args = #[s, x] := by rw [← Array.toList_inj]; exact ha
        have ht' : argTypes = #[t, t2] := by rw [← Array.toList_inj]; exact ht
        subst ha' ht'
        refine .made (v' := v') ?_ h2 h3
        simp [execOp, resolve, invoke, Go.builtin, h1]
      case copy =>
        split at h
        case h_2 => cases h
        rename_i s x t t2 ha ht
        obtain ⟨w', n, h1, rfl, h2, h3⟩ := Zap5 (P := E.P) (ty := type) (t2 := t2) hM hget (hρ s) (hρ x) h
        have ha' : args = #[s, x] := by rw [← Array.toList_inj]; exact ha
        have ht' : argTypes = #[t, t2] := by rw [← Array.toList_inj]; exact ht
        subst ha' ht'
        exact ⟨w', g, .int .i64 n, .inl (by simp [execOp, resolve, invoke, Go.builtin, h1]), h2, h3.weaken fun _ h => h.1, .int _ _, fun _ _ => rfl⟩
      case len =>
        split at h
        case h_2 => cases h
        rename_i x t ha ht
        obtain ⟨hx, rfl⟩ := Zf9 h
        obtain ⟨r', h1, h2⟩ := Zap0 (ty := type) (hρ x) hx
        have ha' : args = #[x] := by rw [← Array.toList_inj]; exact ha
        have ht' : argTypes = #[t] := by rw [← Array.toList_inj]; exact ht
        subst ha' ht'
        exact .same hM aid _ (by simp [execOp, resolve, invoke, Go.builtin, h1]) h2
      case max =>
        obtain ⟨hx, rfl⟩ := Zf9 h
        have hvs : VRs g w (args.toList.map ρ) (args.map ρ') := ⟨by simp, fun k x v hx hv => by
          simp only [List.getElem?_map, Array.getElem?_toList, Array.getElem?_map, Option.map_eq_some_iff] at hx hv
          obtain ⟨p, hp, rfl⟩ := hx
          obtain ⟨q, hq, rfl⟩ := hv
          rw [hp] at hq
          cases hq
          exact hρ _⟩
        obtain ⟨r', h1, h2⟩ := Zamj (P := E.P) (at' := argTypes) (ty := type) hvs hx
        exact .same hM aid _ (by simp only [if_true] at h1; simp [execOp, resolve, invoke, Go.builtin, h1]) h2
      case min =>
        obtain ⟨hx, rfl⟩ := Zf9 h
        have hvs : VRs g w (args.toList.map ρ) (args.map ρ') := ⟨by simp, fun k x v hx hv => by
          simp only [List.getElem?_map, Array.getElem?_toList, Array.getElem?_map, Option.map_eq_some_iff] at hx hv
          obtain ⟨p, hp, rfl⟩ := hx
          obtain ⟨q, hq, rfl⟩ := hv
          rw [hp] at hq
          cases hq
          exact hρ _⟩
        obtain ⟨r', h1, h2⟩ := Zamj (P := E.P) (at' := argTypes) (ty := type) hvs hx
        exact .same hM aid _ (by simp only [Bool.false_eq_true, if_false] at h1; simp [execOp, resolve, invoke, Go.builtin, h1]) h2

end Go.Proofs.YtfphjfbknphhjaaGreatDoor.Sh

/-
  The shadow interpreter, text 11: calls, and one operation whatever it is. No condition.
-/
set_option linter.unusedVariables false
set_option linter.unusedSimpArgs false
namespace Go.Proofs.YtfphjfbknphhjaaGreatDoor.Sh
variable {E : Env} {P : Program} {g g' : Gh} {w : World}

def Enters (P : Program) (f : Nat) : Prop := ∃ fn, P.funcs[f]? = some fn ∧ fn.body.isSome = true ∧ fn.name ≠ "runtime.NumGoroutine"

theorem Z17 {f : Nat} (h : Enters P f) (args : Array Value) (w : World) : (callFunc f args).run P w = .ok (.enter f args) w := by
  obtain ⟨fn, hf, hb, hn⟩ := h
  obtain ⟨c, hc⟩ := Option.isSome_iff_exists.1 hb
  simp [callFunc, hf, hn, hc]

theorem Mem.Zz5 (M : Mem) : ∀ u, (M.sets u).next = M.next
  | [] => rfl
  | (id, b) :: u => by rw [Mem.sets, Mem.Zz5 (M.set id b) u]; rfl

def Zo4 (E : Env) (g : Gh) (w : World) (M M' : Mem) (r : SV) : Ending → World → Prop := fun e w' =>
  ∃ v' g', e = .returned v' ∧ Evo g w g' w' ∧ MR E g' w' M' (fun id => M'.next ≤ id) ∧ VR g' w' r v' ∧ ∀ id, id < M.next → g'.own id = g.own id

/-- Calls in the caller's memory do what the shadow says. -/
def Z8d (E : Env) (ic : IC) : Prop := ∀ f args M r M', ic f args M = some (r, M') → Enters E.P f ∧ M.next ≤ M'.next ∧
  ∀ g w fr args', MR E g w M fr → (∀ id, M.next ≤ id → fr id) → VRs g w args args' → Calls E.P f args' w (Zo4 E g w M M' r)

/-- What a callee that works on pictures knows. -/
def Zq8 (g : Gh) (w : World) : Gh := ⟨g.stab, w.heap.size, fun _ => none, fun _ => 0, fun _ => 0, g.sent⟩

def PCok (E : Env) (pc : PC) : Prop := ∀ f args r, pc f args = some r → Enters E.P f ∧
  ∀ g w M fr args', MR E g w M fr → VRs (Zq8 g w) w args args' → Calls E.P f args' w fun e w' => ∃ v' g', e = .returned v' ∧ Evo g w g' w' ∧ MR E g' w' M fr ∧ VR g' w' r v' ∧ g'.own = g.own

theorem Zatu {M : Mem} {fr : Nat → Prop} (hM : MR E g w M fr) {b o : Nat} (h : g.stab b o) : b < w.heap.size := by
  rcases h with h | h
  · exact Nat.lt_of_lt_of_le (hM.good b o h) hM.base
  · exact (hM.hwb b (by omega)).2

theorem Zatj {M : Mem} {fr : Nat → Prop} (hM : MR E g w M fr) : MR E (Zq8 g w) w .empty (fun _ => True) where
  good := fun b o h => Zatu hM h
  base := Nat.le_refl _
  blk := fun id items h => by simp [Mem.empty] at h
  inj := fun id id' b h => by simp [Mem.empty] at h
  fresh := fun _ _ => rfl
  hwb := fun b h => by simp [Zq8] at h
  lt := fun id b h => by simp [Zq8] at h
  glob := fun n items h => VR.Zaq1 (g' := Zq8 g w) (show (Zq8 g w).sent = g.sent from rfl) (h := hM.glob n items h) (fun b o v hs _ => .inl hs) (by simp [pv, hM.plain n items h])
  plain := hM.plain
  raw := fun n v hv => ⟨Nat.lt_of_lt_of_le (hM.raw n v hv).1 hM.base, (hM.raw n v hv).2⟩
  sent := hM.sent

def blockSize (w : World) (b : Nat) : Nat := match w.heap[b]? with
  | some (.cells c _ _) => c.size
  | _ => 0

theorem Zxf {b o : Nat} {v : Value} (h : w.cell? ⟨b, o, none⟩ = some v) : o < blockSize w b := by
  obtain ⟨c, e, fr, hb, hc⟩ := cells_of_cell? h
  simp only [blockSize, hb]
  exact (Array.getElem?_eq_some_iff.1 hc).1

/-- Behind such a call: what was made is done. -/
def Zt1 (g : Gh) (w w' : World) : Gh := { g with hw := fun b => if b < w.heap.size then g.hw b else blockSize w' b }

theorem Z6h {ic : IC} (h : Z8d E ic) : PCok E (Zzd ic) := by
  intro f args r hr
  unfold Zzd at hr
  split at hr
  case h_2 => cases hr
  rename_i v M1 hic
  split at hr
  case h_2 => cases hr
  rename_i v1 hpic
  split at hr
  case isFalse => cases hr
  rename_i hpv
  simp only [Option.some.injEq] at hr
  subst hr
  obtain ⟨hen, _, hcall⟩ := h f args .empty v M1 hic
  refine ⟨hen, fun g w M fr args' hM hargs => ?_⟩
  refine (hcall (Zq8 g w) w _ args' (Zatj hM) (fun _ _ => trivial) hargs).mono ?_
  rintro e w' ⟨v', g1, rfl, evo, hM1, hv, _⟩
  have hbelow : ∀ b, b < w.heap.size → w'.heap[b]? = w.heap[b]? := fun b hb => evo.below.block b hb
  have hcellOld : ∀ b o v, w.cell? ⟨b, o, none⟩ = some v → w'.cell? ⟨b, o, none⟩ = some v := fun b o v hc => by
    rw [World.cell?_of_block (a := ⟨b, o, none⟩) (hbelow b (lt_of_cell? hc))]
    exact hc
  have evo' : Evo g w (Zt1 g w w') w' := by
    refine ⟨rfl, rfl, rfl, fun _ _ h => ⟨h, rfl⟩, fun b => ?_, fun b o v _ h => hcellOld b o v h, evo.size, evo.below.mono hM.base⟩
    simp only [Zt1]
    split
    · exact Nat.le_refl _
    · rename_i hb
      rcases Nat.eq_zero_or_pos (g.hw b) with h0 | h0
      · omega
      · exact absurd (hM.hwb b h0).2 hb
  refine ⟨v', Zt1 g w w', rfl, evo', ?_, ?_, rfl⟩
  · refine ⟨hM.good, Nat.le_trans hM.base evo.below.size, fun id items hid => ?_, hM.inj, hM.fresh, fun b hb => ?_, fun id b hid => Nat.lt_of_lt_of_le (hM.lt id b hid) evo.below.size, fun n items hn => (hM.glob n items hn).mono hM.good evo', hM.plain, hM.raw.mono evo', hM.sent.mono evo'⟩
    · obtain ⟨b, c, e, h1, h2, h3, h4, h5, h6⟩ := hM.blk id items hid
      have hlt := hM.lt id b h1
      refine ⟨b, c, e, h1, h2, by simp [Zt1, hlt, h3], h4, by rw [hbelow b hlt]; exact h5, fun k x hk => ?_⟩
      obtain ⟨a1, u, a2, a3⟩ := h6 k x hk
      exact ⟨a1, u, a2, a3.mono hM.good evo'⟩
    · simp only [Zt1] at hb
      split at hb
      · rename_i hlt
        exact ⟨(hM.hwb b hb).1, Nat.lt_of_lt_of_le hlt evo.below.size⟩
      · rename_i hge
        refine ⟨Nat.le_trans hM.base (Nat.le_of_not_lt hge), ?_⟩
        simp only [blockSize] at hb
        split at hb
        · rename_i c e fr hb2
          exact (Array.getElem?_eq_some_iff.1 hb2).1
        · omega
  · have hb1 : g1.base = w.heap.size := evo.base
    have hp1 : g1.perm = g.stab := evo.perm
    refine Zanm (g' := Zt1 g w w') hM1 (fun _ _ h => h) (show (Zt1 g w w').sent = g1.sent from evo.sent.symm) (fun b o u hs hc => ?_) (fun h => by cases h) (fun _ b o u hb hc => ?_) Zar v v1 v' hpic (fun _ => hpv) hv
    · rcases hs with hs | hs
      · rw [hp1] at hs
        rcases hs with hs | hs
        · exact .inl hs
        · refine .inr ?_
          have := (hM.hwb b (by omega)).2
          simp only [Zt1, if_pos this]
          exact hs
      · refine .inr ?_
        have hge := (hM1.hwb b (by omega)).1
        rw [hb1] at hge
        simp only [Zt1, if_neg (Nat.not_lt.2 hge)]
        exact Zxf hc
    · refine .inr ?_
      rw [hb1] at hb
      simp only [Zt1, if_neg (Nat.not_lt.2 hb)]
      exact Zxf hc

theorem VRs.append {xs ys : List SV} {a b : Array Value} (h1 : VRs g w xs a) (h2 : VRs g w ys b) : VRs g w (xs ++ ys) (a ++ b) := by
  refine ⟨by simp [h1.1, h2.1], fun k x v hx hv => ?_⟩
  by_cases hk : k < xs.length
  · rw [List.getElem?_append_left hk] at hx
    rw [Array.getElem?_append_left (by rw [← h1.1]; exact hk)] at hv
    exact h1.2 k x v hx hv
  · rw [List.getElem?_append_right (by omega)] at hx
    rw [Array.getElem?_append_right (by rw [← h1.1]; omega), ← h1.1] at hv
    exact h2.2 _ x v hx hv

theorem VRs.map {ρ : Operand → SV} {ρ' : Operand → Value} (hρ : ∀ x, VR g w (ρ x) (ρ' x)) (args : Array Operand) : VRs g w (args.toList.map ρ) (args.map ρ') :=
  ⟨by simp, fun k x v hx hv => by
    simp only [List.getElem?_map, Array.getElem?_toList, Array.getElem?_map, Option.map_eq_some_iff] at hx hv
    obtain ⟨p, hp, rfl⟩ := hx
    obtain ⟨q, hq, rfl⟩ := hv
    rw [hp] at hq
    cases hq
    exact hρ _⟩

theorem VRs.set {xs : List SV} {a : Act} {dst : Option Nat} {v : SV} {v' : Value} (h : VRs g w xs a.tmps) (hv : VR g w v v') : VRs g w (Zlt xs dst v) (a.put dst v').tmps := by
  cases dst with
  | none => exact h
  | some d =>
    refine ⟨by simp [Zlt, Act.put, h.1], fun k x u hx hu => ?_⟩
    simp only [Zlt, List.getElem?_set] at hx
    simp only [Act.put, Array.getElem?_setIfInBounds] at hu
    by_cases hk : d = k
    · subst hk
      simp only [if_true] at hx hu
      split at hx
      · split at hu
        · simp only [Option.some.injEq] at hx hu
          subst hx hu
          exact hv
        · cases hu
      · cases hx
    · rw [if_neg hk] at hx hu
      exact h.2 k x u hx hu

/-- Is the operation to be done? -/
theorem Zagu {tmps : List SV} {a : Act} (hT : VRs g w tmps a.tmps) {ops : Array Oper} {o : Oper} {b : Bool} (h : Zns ops o tmps = some b) : Region.wanted o (yielded ops a.tmps) = b := by
  unfold Zns at h
  unfold Region.wanted
  split at h
  · rename_i hg
    rw [hg]
    simpa using h
  · rename_i j want hg
    rw [hg]
    simp only
    have key : ∀ (y : Option SV), Zzc ops tmps j = y → (∀ c, y = some (.bool c) → yielded ops a.tmps j = some c) ∧ ((∀ c, y ≠ some (.bool c)) → y ≠ some .Z → yielded ops a.tmps j = none) := by
      intro y hy
      unfold Zzc at hy
      unfold yielded
      cases hd : (ops[j]?).bind (·.dst) with
      | none =>
        rw [hd] at hy
        subst hy
        exact ⟨fun c hc => (by cases hc), fun _ _ => rfl⟩
      | some t =>
        rw [hd] at hy
        simp only at hy
        by_cases hlt : t < tmps.length
        · have hlt' : t < a.tmps.size := by rw [← hT.1]; exact hlt
          have hvr := hT.2 t tmps[t] a.tmps[t] (by simp [hlt]) (by simp [hlt'])
          rw [List.getElem?_eq_getElem hlt] at hy
          subst hy
          simp only [Option.bind_some, Array.getElem?_eq_getElem hlt']
          generalize hx : tmps[t] = x at hvr
          generalize hu : a.tmps[t] = u at hvr
          refine ⟨fun c hc => ?_, fun h1 h2 => ?_⟩
          · simp only [Option.some.injEq] at hc
            subst hc
            rw [hvr.Zrv]
          · cases hvr <;> first | rfl | (exact absurd rfl (h1 _)) | (exact absurd rfl h2)
        · rw [List.getElem?_eq_none (Nat.le_of_not_lt hlt)] at hy
          subst hy
          refine ⟨fun c hc => (by cases hc), fun _ _ => ?_⟩
          simp [Array.getElem?_eq_none (by rw [← hT.1]; exact Nat.le_of_not_lt hlt)]
    obtain ⟨k1, k2⟩ := key _ rfl
    split at h
    · rename_i c hc
      simp only [Option.some.injEq] at h
      rw [k1 c hc]
      rw [← h]
      cases c <;> cases want <;> rfl
    · cases h
    · rename_i hn1 hn2
      simp only [Option.some.injEq] at h
      rw [k2 (fun c hc => hn1 c hc) (fun hc => hn2 hc), ← h]
      rfl

theorem Zvz {a : Act} {c : Call} {ty : TypeId} {gop : Operand} {f : Nat} {first caps : Array Value} (hc : c.callee = .value gop) (hg : a.eval gop = .func (.func f) first caps) (hen : Enters P f) :
    ((do let d ← resolve a.eval c ty; invoke d.target d.args) : Sem Next).run P w = .ok (.enter f (first ++ c.args.map a.eval ++ caps)) w := by
  simp only [resolve, hc, hg, Deferred.ofValue, Sem.run_bind, Sem.run_pure, Result.andThen_ok, invoke]
  exact Z17 hen _ w

/-- One operation of a region. -/
theorem Zaei {pc : PC} {ic : IC} (hpc : PCok E pc) (hic : Z8d E ic) {me n0 : Nat} {lim : Nat → Nat → Bool} {ops : Array Oper} {x : Nat} {s s' : St} {a : Act} {fr : Nat → Prop} {Q : Exit → Act → World → Prop} {K : Act → World → Prop}
    (hM : MR E g w s.mem fr) (hnx : ∀ id, s.mem.next ≤ id → fr id) (hn0 : n0 ≤ s.mem.next) (hT : VRs g w s.tmps a.tmps)
    (hfr : ∀ o, ops[x]? = some o → Zaiv o.op = true → fr (n0 + x) ∧ n0 + x < s.mem.next) (h : exO E me pc ic n0 lim ops x s = some s')
    (hK : ∀ g' w' a', Evo g w g' w' → MR E g' w' s'.mem (fun id => (fr id ∧ id ≠ n0 + x ∧ id < s.mem.next) ∨ s'.mem.next ≤ id) → VRs g' w' s'.tmps a'.tmps → a'.defers = a.defers →
      (∀ id, id < n0 → g'.own id = g.own id) → s.mem.next ≤ s'.mem.next → K a' w') :
    wpOp E.P ops Q x K a w := by
  unfold exO at h
  unfold wpOp
  split at h
  · rename_i hx
    simp only [Option.some.injEq] at h
    subst h
    rw [hx]
    exact hK g w a (.refl g w) (hM.weaken fun id hid => hid.elim (fun h => h.1) (fun h => hnx id h)) hT rfl (fun _ _ => rfl) (Nat.le_refl _)
  rename_i o hx
  rw [hx]
  simp only
  split at h
  · cases h
  · rename_i hw
    simp only [Option.some.injEq] at h
    subst h
    rw [Zagu hT hw]
    simp only [Bool.false_eq_true, if_false]
    refine hK g w _ (.refl g w) (hM.weaken fun id hid => hid.elim (fun h => h.1) (fun h => hnx id h)) (hT.set (.tup [] #[] rfl (fun k x v hx _ => by simp at hx))) ?_ (fun _ _ => rfl) (Nat.le_refl _)
    cases o.dst <;> rfl
  rename_i hw
  rw [Zagu hT hw]
  simp only [if_true]
  refine .inl ?_
  have hρ : ∀ y, VR g w (evO E s.tmps y) (a.eval y) := fun y => Z7e hM.glob hT y
  have hput : ∀ v : Value, (a.put o.dst v).defers = a.defers := fun v => by cases o.dst <;> rfl
  unfold Oper.wp
  split at h
  · rename_i f args himp
    split at h
    case h_2 => cases h
    rename_i v M hcall
    simp only [Option.some.injEq] at h
    subst h
    unfold Zd8 at himp
    split at himp
    case h_2 => cases himp
    rename_i gop cargs cat hop
    split at himp
    case h_2 => cases himp
    rename_i f0 first caps hgop
    split at himp
    case isFalse => cases himp
    simp only [Option.some.injEq, Prod.mk.injEq] at himp
    obtain ⟨rfl, rfl⟩ := himp
    have hg := hρ gop
    rw [hgop] at hg
    generalize hgv : a.eval gop = gv at hg
    cases hg with
    | fn _ _ _ fa fc hfal hfcl hfar hfcr =>
    obtain ⟨hen, hle, hsim⟩ := hic _ _ _ _ _ hcall
    have hrun : (execOp a.eval o).run E.P w = .ok (.enter f0 (fa ++ cargs.map a.eval ++ fc)) w := by
      unfold execOp
      rw [hop]
      exact Zvz (c := { callee := .value gop, args := cargs, argTypes := cat }) rfl hgv hen
    rw [hrun, Oper.upon_enter]
    have hargs : VRs g w (first ++ cargs.toList.map (evO E s.tmps) ++ caps) (fa ++ cargs.map a.eval ++ fc) :=
      (VRs.append ⟨hfal, hfar⟩ (VRs.map hρ cargs)).append ⟨hfcl, hfcr⟩
    refine (hsim g w fr _ hM hnx hargs).mono ?_
    rintro e w' ⟨v', g', rfl, evo, hM', hv, hown⟩
    refine hK g' w' _ evo ?_ ((hT.mono hM.good evo).set hv) (hput v') (fun id hid => hown id (by omega)) hle
    refine { hM' with fresh := fun id hid => ?_ }
    rcases hid with ⟨h1, h2, h3⟩ | h1
    · rw [hown id h3]
      exact hM.fresh id h1
    · exact hM'.fresh id h1
  · rename_i himp
    split at h
    case h_2 => cases h
    rename_i v u hact
    simp only [Option.some.injEq] at h
    subst h
    have hget : ∀ id items, (fun id => if lim x id then s.mem.blk id else none) id = some items → s.mem.blk id = some items := by
      intro id items hid
      simp only at hid
      split at hid
      · exact hid
      · cases hid
    have hnext : (s.mem.sets u).next = s.mem.next := Mem.Zz5 _ u
    by_cases hcl : Zagf o.op = true
    · -- a call in memory of its own
      obtain ⟨dst, op, type, pos, after, guard⟩ := o
      cases op <;> simp only [Zagf] at hcl <;> (try (cases hcl; done))
      rename_i c
      obtain ⟨callee, cargs, cat⟩ := c
      cases callee <;> simp only at hcl <;> (try (cases hcl; done))
      rename_i gop
      simp only [act] at hact
      split at hact
      case h_2 => cases hact
      rename_i f first caps hgop
      split at hact
      case h_2 => cases hact
      rename_i args hpics
      obtain ⟨hpcv, rfl⟩ := Zf9 hact
      have hg := hρ gop
      rw [hgop] at hg
      generalize hgv : a.eval gop = gv at hg
      cases hg with
      | fn _ _ _ fa fc hfal hfcl hfar hfcr =>
      obtain ⟨hen, hsim⟩ := hpc f args v hpcv
      have hrun : (execOp a.eval { dst := dst, op := .call { callee := .value gop, args := cargs, argTypes := cat }, type := type, pos := pos, after := after, guard := guard }).run E.P w = .ok (.enter f (fa ++ cargs.map a.eval ++ fc)) w := by
        unfold execOp
        exact Zvz (c := { callee := .value gop, args := cargs, argTypes := cat }) rfl hgv hen
      rw [hrun, Oper.upon_enter]
      have hargs : VRs g w (first ++ cargs.toList.map (evO E s.tmps) ++ caps) (fa ++ cargs.map a.eval ++ fc) :=
        (VRs.append ⟨hfal, hfar⟩ (VRs.map hρ cargs)).append ⟨hfcl, hfcr⟩
      obtain ⟨m1, m2⟩ := mapM_some hpics
      have hargs' : VRs (Zq8 g w) w args (fa ++ cargs.map a.eval ++ fc) := by
        refine ⟨by rw [← m1]; exact hargs.1, fun k y u' hy hu' => ?_⟩
        have hlt : k < (first ++ cargs.toList.map (evO E s.tmps) ++ caps).length := by rw [m1]; exact (List.getElem?_eq_some_iff.1 hy).1
        exact Zanm (g' := Zq8 g w) hM hget (show (Zq8 g w).sent = g.sent from rfl) (fun b o _ hs _ => .inl hs) (fun _ b o _ hc => .inl (lt_of_cell? hc)) (fun h => by cases h) Zar _ y u' (m2 k _ y (List.getElem?_eq_getElem hlt) hy) (fun h => by cases h)
          (hargs.2 k _ u' (List.getElem?_eq_getElem hlt) hu')
      refine (hsim g w s.mem fr _ hM hargs').mono ?_
      rintro e w' ⟨v', g', rfl, evo, hM', hv, hown⟩
      exact hK g' w' _ evo (hM'.weaken fun id hid => hid.elim (fun h => h.1) (fun h => hnx id h)) ((hT.mono hM.good evo).set hv) (hput v') (fun id _ => by rw [hown]) (Nat.le_refl _)
    · have hd := Zash hM hρ hget (by simpa using hcl) (fun hnw => (hfr o hx hnw).1) hact
      obtain ⟨w', g', v', hR, evo, hM', hv, hkeep⟩ := hd.ex
      have hfin : K (a.put o.dst v') w' := by
        refine hK g' w' _ evo ?_ ((hT.mono hM.good evo).set hv) (hput v') (fun id hid => hkeep id (by omega)) (by rw [hnext]; exact Nat.le_refl _)
        refine { hM' with fresh := fun id hid => hM'.fresh id ?_ }
        rcases hid with ⟨h1, h2, h3⟩ | h1
        · exact ⟨h1, fun _ => h2⟩
        · rw [hnext] at h1
          exact ⟨hnx id h1, fun hnw => by have := (hfr o hx hnw).2; omega⟩
      rcases hR with hR | ⟨hR, rfl⟩
      · rw [hR]
        exact hfin
      · rw [hR]
        exact hfin

end Go.Proofs.YtfphjfbknphhjaaGreatDoor.Sh

/-
  The shadow interpreter, text 12: regions, in the text's order and in any other. No condition.
-/
set_option linter.unusedVariables false
set_option linter.unusedSimpArgs false
namespace Go.Proofs.YtfphjfbknphhjaaGreatDoor.Sh
variable {E : Env} {P : Program} {g g' : Gh} {w : World}

/-- A region's operations, one behind the other. -/
theorem Zafm {pc : PC} {ic : IC} (hpc : PCok E pc) (hic : Z8d E ic) {me n0 : Nat} {lim : Nat → Nat → Bool} {ops : Array Oper} {Q : Exit → Act → World → Prop} (new : Bool) :
    ∀ (L : List Nat) (s s' : St) (g : Gh) (w : World) (a : Act), L.Nodup → (∀ y ∈ L, y < ops.size) → (new = true → n0 + ops.size ≤ s.mem.next) →
    (new = false → ∀ y ∈ L, ∀ o, ops[y]? = some o → Zaiv o.op = false) → n0 ≤ s.mem.next →
    MR E g w s.mem (fun id => (new = true ∧ ∃ y ∈ L, id = n0 + y) ∨ s.mem.next ≤ id) → VRs g w s.tmps a.tmps → Zun E me pc ic n0 lim ops L s = some s' →
    (∀ g' w' a', Evo g w g' w' → MR E g' w' s'.mem (fun id => s'.mem.next ≤ id) → VRs g' w' s'.tmps a'.tmps → a'.defers = a.defers → (∀ id, id < n0 → g'.own id = g.own id) → s.mem.next ≤ s'.mem.next → Q .normal a' w') →
    wpOps E.P ops Q L a w
  | [], s, s', g, w, a, _, _, _, _, _, hM, hT, h, hQ => by
    simp only [Zun, Option.some.injEq] at h
    subst h
    exact hQ g w a (.refl g w) (hM.weaken fun id hid => .inr hid) hT rfl (fun _ _ => rfl) (Nat.le_refl _)
  | x :: L, s, s', g, w, a, hnd, hlt, hnew, hold, hn0, hM, hT, h, hQ => by
    simp only [Zun] at h
    split at h
    case h_2 => cases h
    rename_i s1 hs1
    rw [wpOps_cons]
    have hnd' := List.nodup_cons.1 hnd
    refine Zaei hpc hic hM (fun id hid => .inr hid) hn0 hT (fun o ho hno => ?_) hs1 (fun g1 w1 a1 evo hM1 hT1 hd hown hle => ?_)
    · cases hn : new with
      | false => rw [hold hn x (by simp) o ho] at hno; cases hno
      | true =>
        have := hnew hn
        have := hlt x (by simp)
        exact ⟨.inl ⟨rfl, x, by simp, rfl⟩, by omega⟩
    · refine Zafm hpc hic new L s1 s' g1 w1 a1 hnd'.2 (fun y hy => hlt y (by simp [hy])) (fun hn => Nat.le_trans (hnew hn) hle) (fun hn y hy => hold hn y (by simp [hy])) (Nat.le_trans hn0 hle) (hM1.weaken fun id hid => ?_) hT1 h
        (fun g2 w2 a2 evo2 hM2 hT2 hd2 hown2 hle2 => hQ g2 w2 a2 (evo.trans evo2) hM2 hT2 (hd2.trans hd) (fun id hid => (hown2 id hid).trans (hown id hid)) (Nat.le_trans hle hle2))
      rcases hid with ⟨hn, y, hy, rfl⟩ | hid
      · refine .inl ⟨.inl ⟨hn, y, by simp [hy], rfl⟩, fun he => ?_, ?_⟩
        · have : y = x := by omega
          subst this
          exact hnd'.1 hy
        · have := hnew hn
          have := hlt y (by simp [hy])
          omega
      · exact .inr hid

/-! ### What an operation looks at -/

theorem Zth {tmps : List SV} {dst : Option Nat} {v : SV} {x : Operand} (h : ∀ d, dst = some d → x ≠ .tmp d) : evO E (Zlt tmps dst v) x = evO E tmps x := by
  cases dst with
  | none => rfl
  | some d =>
    cases x with
    | tmp t =>
      have hne : d ≠ t := fun e => h d rfl (e ▸ rfl)
      simp [evO, Zlt, List.getD, List.getElem?_set, hne]
    | _ => rfl

theorem Zva (tmps : List SV) {x y : Option Nat} (v u : SV) (h : ∀ d, x = some d → y ≠ some d) : Zlt (Zlt tmps x v) y u = Zlt (Zlt tmps y u) x v := by
  cases x with
  | none => rfl
  | some d =>
    cases y with
    | none => rfl
    | some e =>
      have hne : d ≠ e := fun he => h d rfl (he ▸ rfl)
      simp only [Zlt]
      exact List.set_comm _ _ hne

theorem Zu0 {pc : PC} {aid : Nat} {ρ ρ' : Operand → SV} {get : Nat → Option (List SV)} {o : Oper} (h : ∀ x ∈ o.op.operands, ρ x = ρ' x) : act E pc aid ρ get o = act E pc aid ρ' get o := by
  obtain ⟨dst, op, type, pos, after, guard⟩ := o
  have lists : ∀ a : Array Operand, (∀ x ∈ a, ρ x = ρ' x) → a.toList.map ρ = a.toList.map ρ' := fun a ha => List.map_congr_left fun x hx => ha x (by simpa using hx)
  have pairs : ∀ a : Array (Nat × Operand), (∀ x ∈ a.map (·.2), ρ x = ρ' x) → a.toList.map (fun p => (p.1, ρ p.2)) = a.toList.map (fun p => (p.1, ρ' p.2)) := fun a ha =>
    List.map_congr_left fun p hp => by rw [ha p.2 (Array.mem_map.2 ⟨p, by simpa using hp, rfl⟩)]
  cases op <;> simp only [Op.operands] at h <;> simp only [act]
  case build t ps => rw [pairs ps fun x hx => h x (by simpa using hx)]
  case buildSlice t n ps => rw [pairs ps fun x hx => h x (by simpa using hx)]
  case makeFunc fn first caps => cases fn <;> simp only <;> rw [lists first fun x hx => h x (by simp [hx]), lists caps fun x hx => h x (by simp [hx])]
  case slice t x lo hi mx => cases lo <;> cases hi <;> cases mx <;> simp_all
  case call c =>
    obtain ⟨callee, args, cat⟩ := c
    cases callee with
    | value f =>
      have hf : ρ f = ρ' f := h f (by simp [Call.operands])
      have ha := lists args fun x hx => h x (by simp [Call.operands, hx])
      simp only [hf, ha]
    | invoke r m => rfl
    | builtin b =>
      have ha := lists args fun x hx => h x (by simp [Call.operands, hx])
      cases b <;> simp only [ha]
      case copy =>
        split
        · rename_i s x t t2 hs ht
          have hs' : args = #[s, x] := by rw [← Array.toList_inj]; exact hs
          subst hs'
          rw [h s (by simp [Call.operands]), h x (by simp [Call.operands])]
        · rfl
      case append =>
        split
        · rename_i s x t t2 hs ht
          have hs' : args = #[s, x] := by rw [← Array.toList_inj]; exact hs
          subst hs'
          rw [h s (by simp [Call.operands]), h x (by simp [Call.operands])]
        · rfl
      case len =>
        split
        · rename_i x t hs ht
          have hs' : args = #[x] := by rw [← Array.toList_inj]; exact hs
          subst hs'
          rw [h x (by simp [Call.operands])]
        · rfl
  all_goals (first | rfl | (simp_all; done))

theorem Zo9 {me : Nat} {ρ ρ' : Operand → SV} {o : Oper} (h : ∀ x ∈ o.op.operands, ρ x = ρ' x) : Zd8 E me ρ o = Zd8 E me ρ' o := by
  obtain ⟨dst, op, type, pos, after, guard⟩ := o
  cases op <;> simp only [Op.operands] at h <;> simp only [Zd8]
  rename_i c
  obtain ⟨callee, args, cat⟩ := c
  cases callee with
  | value f =>
    have hf : ρ f = ρ' f := h f (by simp [Call.operands])
    have ha : args.toList.map ρ = args.toList.map ρ' := List.map_congr_left fun x hx => h x (by simp [Call.operands]; exact .inr (by simpa using hx))
    simp only [hf, ha]
  | invoke r m => rfl
  | builtin b => rfl

/-- Writes that an operation does not look at. -/
theorem Zoh {ops : Array Oper} {o : Oper} {dst : Option Nat} {tmps : List SV} {v : SV} (h : ∀ d, dst = some d → d ∉ o.looksAt ops) : ∀ x ∈ o.op.operands, evO E (Zlt tmps dst v) x = evO E tmps x :=
  fun x hx => Zth fun d hd hxd => h d hd (by
    subst hxd
    exact List.mem_append_left _ (List.mem_filterMap.2 ⟨.tmp d, by simpa using hx, rfl⟩))

theorem Z87 {ops : Array Oper} {o : Oper} {dst : Option Nat} {tmps : List SV} {v : SV} (h : ∀ d, dst = some d → d ∉ o.looksAt ops) : Zns ops o (Zlt tmps dst v) = Zns ops o tmps := by
  cases dst with
  | none => rfl
  | some d =>
    unfold Zns
    cases hg : o.guard with
    | none => rfl
    | some gw =>
      obtain ⟨j, want⟩ := gw
      have hy : Zzc ops (Zlt tmps (some d) v) j = Zzc ops tmps j := by
        unfold Zzc
        cases ht : (ops[j]?).bind (·.dst) with
        | none => rfl
        | some t =>
          have hne : d ≠ t := fun e => h d rfl (by subst e; simp [Oper.looksAt, hg, ht])
          simp [Zlt, List.getElem?_set, hne]
      simp only [hy]

/-! ### Kinds of operations -/

theorem Zzy {me : Nat} {tmps : List SV} {o : Oper} {r : Nat × List SV} (h : Zd8 E me (evO E tmps) o = some r) : cls E me o.op = .c := by
  obtain ⟨dst, op, type, pos, after, guard⟩ := o
  cases op <;> simp only [Zd8] at h <;> (try (cases h; done))
  rename_i c
  obtain ⟨callee, args, cat⟩ := c
  cases callee <;> simp only at h <;> (try (cases h; done))
  rename_i f
  cases f <;> simp only [cls]
  rename_i f
  simp only [evO] at h
  split at h
  · rename_i hc
    simp [hc]
  · cases h

theorem Zac6 {me : Nat} {pc : PC} {aid : Nat} {ρ : Operand → SV} {get get' : Nat → Option (List SV)} {o : Oper} (hc : cls E me o.op = .p) {v : SV} {u : List (Nat × Option (List SV))} (h : act E pc aid ρ get o = some (v, u)) :
    u = [] ∧ act E pc aid ρ get' o = some (v, u) := by
  obtain ⟨dst, op, type, pos, after, guard⟩ := o
  cases op <;> simp only [cls] at hc <;> (try (cases hc; done)) <;> simp only [act] at h ⊢
  case call c =>
    obtain ⟨callee, args, cat⟩ := c
    cases callee with
    | value f => cases f <;> simp only at hc <;> (try (split at hc)) <;> cases hc
    | invoke r m => cases hc
    | builtin b =>
      cases b <;> simp only at hc h ⊢ <;> (try (cases hc; done)) <;> (try (cases h; done)) <;> (try (split at hc <;> cases hc; done))
      all_goals
        refine ⟨?_, h⟩
        (repeat' split at h) <;> simp_all
  case makeFunc fn first caps =>
    cases fn <;> simp only at h ⊢ <;> (try (cases h; done))
    refine ⟨?_, h⟩
    simp_all
  all_goals
    refine ⟨?_, h⟩
    (repeat' split at h) <;> simp_all

theorem Zabd {me : Nat} {pc : PC} {aid : Nat} {ρ : Operand → SV} {get : Nat → Option (List SV)} {o : Oper} (hc : cls E me o.op = .r) {v : SV} {u : List (Nat × Option (List SV))} (h : act E pc aid ρ get o = some (v, u)) : u = [] := by
  obtain ⟨dst, op, type, pos, after, guard⟩ := o
  cases op <;> simp only [cls] at hc <;> (try (cases hc; done)) <;> simp only [act] at h
  case call c =>
    obtain ⟨callee, args, cat⟩ := c
    cases callee with
    | value f => (repeat' split at h) <;> simp_all
    | invoke r m => cases hc
    | builtin b => cases b <;> simp only at hc <;> first | (cases hc; done) | (split at hc <;> cases hc)
  all_goals (repeat' split at h) <;> simp_all

theorem Z2f {me : Nat} {pc : PC} {aid : Nat} {ρ : Operand → SV} {get get' : Nat → Option (List SV)} {o : Oper} (hc : cls E me o.op = .a) {v : SV} {u : List (Nat × Option (List SV))} (h : act E pc aid ρ get o = some (v, u)) :
    act E pc aid ρ get' o = some (v, u) ∧ ∃ its, u = [(aid, some its)] := by
  obtain ⟨dst, op, type, pos, after, guard⟩ := o
  cases op <;> simp only [cls] at hc <;> (try (cases hc; done)) <;> simp only [act] at h ⊢
  case call c =>
    obtain ⟨callee, args, cat⟩ := c
    cases callee with
    | value f => cases f <;> simp only at hc <;> (try (split at hc)) <;> cases hc
    | invoke r m => cases hc
    | builtin b => cases b <;> simp only at hc <;> first | (cases hc; done) | (split at hc <;> cases hc)
  all_goals
    refine ⟨h, ?_⟩
    (repeat' split at h) <;> (first | (cases h; done) | (simp only [Option.some.injEq, Prod.mk.injEq] at h; exact ⟨_, h.2.symm⟩))

theorem Zawa {me : Nat} {pc : PC} {aid : Nat} {ρ : Operand → SV} {get : Nat → Option (List SV)} {o : Oper} (hc : cls E me o.op = .w) {v : SV} {u : List (Nat × Option (List SV))} (h : act E pc aid ρ get o = some (v, u)) :
    ∀ p ∈ u, p.1 = aid ∨ (get p.1).isSome = true := by
  obtain ⟨dst, op, type, pos, after, guard⟩ := o
  cases op <;> simp only [cls] at hc <;> (try (cases hc; done)) <;> simp only [act] at h
  case store t x y =>
    split at h
    case h_2 => cases h
    rename_i u' hu
    simp only [Option.some.injEq, Prod.mk.injEq] at h
    obtain ⟨_, rfl⟩ := h
    unfold Zi at hu
    (repeat' split at hu) <;> (try (cases hu; done))
    simp only [Option.some.injEq] at hu
    subst hu
    intro p hp
    simp only [List.mem_singleton] at hp
    subst hp
    refine .inr ?_
    simp_all
  case call c =>
    obtain ⟨callee, args, cat⟩ := c
    cases callee with
    | value f => cases f <;> simp only at hc <;> (try (split at hc)) <;> cases hc
    | invoke r m => cases hc
    | builtin b =>
      cases b <;> simp only at hc h <;> (try (cases hc; done))
      case copy =>
        split at h
        case h_2 => cases h
        unfold copyS at h
        (repeat' split at h) <;> (try (cases h; done)) <;> simp only [Option.some.injEq, Prod.mk.injEq] at h <;> obtain ⟨_, rfl⟩ := h <;> intro p hp <;> simp at hp
        subst hp
        exact .inr (by simp_all)
      split at hc
      case isTrue => cases hc
      split at h
      case h_2 => cases h
      unfold Zef at h
      (repeat' split at h) <;> (try (cases h; done)) <;> simp only [Option.some.injEq, Prod.mk.injEq] at h <;> obtain ⟨_, rfl⟩ := h <;> intro p hp <;> simp at hp
      · exact .inl (by rw [hp])
      · exact .inl (by rw [hp])
      · rcases hp with rfl | rfl
        · refine .inr ?_
          simp_all
        · exact .inl rfl

theorem Z3z {me : Nat} {pc : PC} {aid : Nat} {T : List SV} {get : Nat → Option (List SV)} {o : Oper} (hc : cls E me o.op = .ra) {v : SV} {u : List (Nat × Option (List SV))} (h : act E pc aid (evO E T) get o = some (v, u)) :
    u = [] ∨ ∃ its, u = [(aid, some its)] := by
  obtain ⟨dst, op, type, pos, after, guard⟩ := o
  cases op <;> simp only [cls] at hc <;> (try (cases hc; done)) <;> simp only [act] at h
  case call c =>
    obtain ⟨callee, args, cat⟩ := c
    cases callee with
    | value f => cases f <;> simp only at hc <;> (try (split at hc)) <;> cases hc
    | invoke r m => cases hc
    | builtin b =>
      cases b <;> simp only at hc h <;> (try (cases hc; done))
      split at hc
      case isFalse => cases hc
      rename_i hn
      split at h
      case h_2 => cases h
      rename_i s x t t2 ha ht
      unfold Zak3 at hn
      rw [ha] at hn
      split at hn
      case h_2 => cases hn
      rename_i heq
      simp only [List.cons.injEq] at heq
      have hs : evO E T s = .nilsl := by rw [heq.1]; rfl
      rw [hs] at h
      generalize evO E T x = X at h
      simp only [Zef] at h
      split at h <;> (try (cases h; done))
      split at h <;> (try (cases h; done))
      split at h <;> (try (cases h; done))
      split at h <;> (try (cases h; done))
      split at h
      · simp only [Option.some.injEq, Prod.mk.injEq] at h
        exact .inl h.2.symm
      · split at h <;> (try (cases h; done))
        simp only [Option.some.injEq, Prod.mk.injEq] at h
        exact .inr ⟨_, h.2.symm⟩

end Go.Proofs.YtfphjfbknphhjaaGreatDoor.Sh

/-
  The shadow interpreter, text 13: regions that draw their order. No condition.
-/
set_option linter.unusedVariables false
set_option linter.unusedSimpArgs false
namespace Go.Proofs.YtfphjfbknphhjaaGreatDoor.Sh
variable {E : Env} {P : Program} {g g' : Gh} {w : World}

theorem Z7k (M : Mem) : ∀ (u : List (Nat × Option (List SV))) (id : Nat), (∀ p ∈ u, p.1 ≠ id) → (M.sets u).blk id = M.blk id
  | [], _, _ => rfl
  | (j, b) :: u, id, h => by
    rw [Mem.sets, Z7k (M.set j b) u id (fun p hp => h p (by simp [hp])), Mem.Zko _ _ (fun he => h (j, b) (by simp) he.symm)]

theorem Mem.ext {M N : Mem} (h : ∀ id, M.blk id = N.blk id) (hn : M.next = N.next) : M = N := by
  obtain ⟨a, b⟩ := M
  obtain ⟨c, d⟩ := N
  simp only at h hn
  rw [funext h, hn]

theorem Zta (M : Mem) {i j : Nat} (a b : Option (List SV)) (h : i ≠ j) : (M.set i a).set j b = (M.set j b).set i a := by
  refine Mem.ext (fun id => ?_) rfl
  simp only [Mem.set]
  by_cases h1 : id = j
  · subst h1
    simp [Ne.symm h]
  · by_cases h2 : id = i
    · subst h2
      simp [h1]
    · simp [h1, h2]

theorem Z51 (M : Mem) {j : Nat} (b : Option (List SV)) : ∀ (u : List (Nat × Option (List SV))), (∀ p ∈ u, p.1 ≠ j) → (M.set j b).sets u = (M.sets u).set j b
  | [], _ => rfl
  | (i, a) :: u, h => by
    have hij : j ≠ i := fun he => h (i, a) (by simp) he.symm
    rw [Mem.sets, Mem.sets, ← Z51 (M.set i a) b u (fun p hp => h p (by simp [hp])), Zta M b a hij]

/-- What an operation does, in one word. -/
inductive Did (E : Env) (me : Nat) (pc : PC) (ic : IC) (n0 : Nat) (lim : Nat → Nat → Bool) (ops : Array Oper) (x : Nat) (o : Oper) (s : St) : St → Prop
  | skip (h : Zns ops o s.tmps = some false) : Did E me pc ic n0 lim ops x o s ⟨Zlt s.tmps o.dst (.tup []), s.mem⟩
  | imp {f : Nat} {args : List SV} {v : SV} {M : Mem} (h : Zns ops o s.tmps = some true) (hi : Zd8 E me (evO E s.tmps) o = some (f, args)) (hc : ic f args s.mem = some (v, M)) :
      Did E me pc ic n0 lim ops x o s ⟨Zlt s.tmps o.dst v, M⟩
  | act {v : SV} {u : List (Nat × Option (List SV))} (h : Zns ops o s.tmps = some true) (hi : Zd8 E me (evO E s.tmps) o = none)
      (ha : Sh.act E pc (n0 + x) (evO E s.tmps) (fun id => if lim x id then s.mem.blk id else none) o = some (v, u)) : Did E me pc ic n0 lim ops x o s ⟨Zlt s.tmps o.dst v, s.mem.sets u⟩

theorem Zp7 {me n0 : Nat} {pc : PC} {ic : IC} {lim : Nat → Nat → Bool} {ops : Array Oper} {x : Nat} {o : Oper} (hx : ops[x]? = some o) {s s' : St} :
    exO E me pc ic n0 lim ops x s = some s' ↔ Did E me pc ic n0 lim ops x o s s' := by
  constructor
  · intro h
    unfold exO at h
    rw [hx] at h
    simp only at h
    split at h
    · cases h
    · rename_i hw
      simp only [Option.some.injEq] at h
      subst h
      exact .skip hw
    · rename_i hw
      split at h
      · rename_i f args hi
        split at h
        · rename_i v M hc
          simp only [Option.some.injEq] at h
          subst h
          exact .imp hw hi hc
        · cases h
      · rename_i hi
        split at h
        · rename_i v u ha
          simp only [Option.some.injEq] at h
          subst h
          exact .act hw hi ha
        · cases h
  · intro h
    unfold exO
    rw [hx]
    cases h with
    | skip h => simp only [h]
    | imp h hi hc => simp only [h, hi, hc]
    | act h hi ha => simp only [h, hi, ha]

/-- Two operations that lie side by side, in the other order. -/
theorem swap {me n0 : Nat} {pc : PC} {ic : IC} {lim : Nat → Nat → Bool} {ops : Array Oper} {x y : Nat} {ox oy : Oper} (hx : ops[x]? = some ox) (hy : ops[y]? = some oy) (hxy : x ≠ y)
    (hap : ox.apart ops oy = true) (hco : compat (cls E me ox.op) (cls E me oy.op) = true)
    (hl : (cls E me ox.op).mk = true ∨ (cls E me oy.op).mk = true → lim x (n0 + y) = false ∧ lim y (n0 + x) = false)
    {s s1 s2 : St} (h1 : exO E me pc ic n0 lim ops x s = some s1) (h2 : exO E me pc ic n0 lim ops y s1 = some s2) :
    ∃ s1', exO E me pc ic n0 lim ops y s = some s1' ∧ exO E me pc ic n0 lim ops x s1' = some s2 := by
  obtain ⟨a1, a2, a3⟩ := Oper.apart_spec hap
  simp only [Zp7 hx, Zp7 hy] at *
  have hd : ∀ d, ox.dst = some d → oy.dst ≠ some d := a2
  -- the second one at the first one's beginning
  have wantY : ∀ v, Zns ops oy (Zlt s.tmps ox.dst v) = Zns ops oy s.tmps := fun v => Z87 a1
  have wantX : ∀ v, Zns ops ox (Zlt s.tmps oy.dst v) = Zns ops ox s.tmps := fun v => Z87 a3
  have impY : ∀ v, Zd8 E me (evO E (Zlt s.tmps ox.dst v)) oy = Zd8 E me (evO E s.tmps) oy := fun v => Zo9 (Zoh a1)
  have impX : ∀ v, Zd8 E me (evO E (Zlt s.tmps oy.dst v)) ox = Zd8 E me (evO E s.tmps) ox := fun v => Zo9 (Zoh a3)
  have actY : ∀ v aid get, act E pc aid (evO E (Zlt s.tmps ox.dst v)) get oy = act E pc aid (evO E s.tmps) get oy := fun v aid get => Zu0 (Zoh a1)
  have actX : ∀ v aid get, act E pc aid (evO E (Zlt s.tmps oy.dst v)) get ox = act E pc aid (evO E s.tmps) get ox := fun v aid get => Zu0 (Zoh a3)
  have tm : ∀ v u, Zlt (Zlt s.tmps ox.dst v) oy.dst u = Zlt (Zlt s.tmps oy.dst u) ox.dst v := fun v u => Zva _ _ _ hd
  cases h1 with
  | skip hw1 =>
    cases h2 with
    | skip hw2 =>
      rw [wantY] at hw2
      refine ⟨_, .skip hw2, ?_⟩
      simp only [tm]
      exact .skip (by simp only; rw [wantX]; exact hw1)
    | imp hw2 hi hc =>
      rw [wantY] at hw2
      rw [impY] at hi
      refine ⟨_, .imp hw2 hi hc, ?_⟩
      simp only [tm]
      exact .skip (by simp only; rw [wantX]; exact hw1)
    | act hw2 hi ha =>
      rw [wantY] at hw2
      rw [impY] at hi
      rw [actY] at ha
      refine ⟨_, .act hw2 hi ha, ?_⟩
      simp only [tm]
      exact .skip (by simp only; rw [wantX]; exact hw1)
  | imp hw1 hi1 hc1 =>
    have hcx := Zzy hi1
    cases h2 with
    | skip hw2 =>
      rw [wantY] at hw2
      refine ⟨_, .skip hw2, ?_⟩
      simp only [tm]
      exact .imp (by simp only; rw [wantX]; exact hw1) (by simp only; rw [impX]; exact hi1) hc1
    | imp hw2 hi2 hc2 =>
      have hcy := Zzy hi2
      rw [hcx, hcy] at hco
      cases hco
    | act hw2 hi2 ha2 =>
      have hcy : cls E me oy.op = .p := by
        rw [hcx] at hco
        cases hh : cls E me oy.op <;> rw [hh] at hco <;> first | rfl | cases hco
      rw [wantY] at hw2
      rw [impY] at hi2
      rw [actY] at ha2
      obtain ⟨rfl, hp⟩ := Zac6 (get' := fun id => if lim y id then s.mem.blk id else none) hcy ha2
      refine ⟨_, .act hw2 hi2 hp, ?_⟩
      simp only [tm, Mem.sets]
      exact .imp (by simp only; rw [wantX]; exact hw1) (by simp only; rw [impX]; exact hi1) hc1
  | act hw1 hi1 ha1 =>
    rename_i v1 u1
    cases h2 with
    | skip hw2 =>
      rw [wantY] at hw2
      refine ⟨_, .skip hw2, ?_⟩
      simp only [tm]
      exact .act (by simp only; rw [wantX]; exact hw1) (by simp only; rw [impX]; exact hi1) (by simp only; rw [actX]; exact ha1)
    | imp hw2 hi2 hc2 =>
      rename_i f args v2 M2
      have hcy := Zzy hi2
      have hcx : cls E me ox.op = .p := by
        rw [hcy] at hco
        cases hh : cls E me ox.op <;> rw [hh] at hco <;> first | rfl | cases hco
      obtain ⟨rfl, _⟩ := Zac6 (get' := fun _ => none) hcx ha1
      rw [wantY] at hw2
      rw [impY] at hi2
      simp only [Mem.sets] at hc2
      obtain ⟨_, hp⟩ := Zac6 (get' := fun id => if lim x id then M2.blk id else none) hcx ha1
      refine ⟨_, .imp hw2 hi2 hc2, ?_⟩
      simp only [tm]
      have := Did.act (E := E) (me := me) (pc := pc) (ic := ic) (n0 := n0) (lim := lim) (ops := ops) (x := x) (o := ox) (s := ⟨Zlt s.tmps oy.dst v2, M2⟩) (by simp only; rw [wantX]; exact hw1) (by simp only; rw [impX]; exact hi1) (by simp only; rw [actX]; exact hp)
      exact this
    | act hw2 hi2 ha2 =>
      rename_i v2 u2
      rw [wantY] at hw2
      rw [impY] at hi2
      rw [actY] at ha2
      simp only at ha2
      -- what each sees, with the other's writes or without
      have fin : act E pc (n0 + y) (evO E s.tmps) (fun id => if lim y id then s.mem.blk id else none) oy = some (v2, u2) →
          act E pc (n0 + x) (evO E s.tmps) (fun id => if lim x id then (s.mem.sets u2).blk id else none) ox = some (v1, u1) → (s.mem.sets u2).sets u1 = (s.mem.sets u1).sets u2 →
          ∃ s1', Did E me pc ic n0 lim ops y oy s s1' ∧ Did E me pc ic n0 lim ops x ox s1' ⟨Zlt (Zlt s.tmps ox.dst v1) oy.dst v2, (s.mem.sets u1).sets u2⟩ := by
        intro q1 q2 q3
        refine ⟨_, .act hw2 hi2 q1, ?_⟩
        rw [tm, ← q3]
        exact .act (by simp only; rw [wantX]; exact hw1) (by simp only; rw [impX]; exact hi1) (by simp only; rw [actX]; exact q2)
      by_cases hpx : cls E me ox.op = .p
      · obtain ⟨rfl, hp⟩ := Zac6 (get' := fun id => if lim x id then (s.mem.sets u2).blk id else none) hpx ha1
        exact fin ha2 hp rfl
      by_cases hpy : cls E me oy.op = .p
      · obtain ⟨rfl, hp⟩ := Zac6 (get' := fun id => if lim y id then s.mem.blk id else none) hpy ha2
        exact fin hp ha1 rfl
      -- reads, and what is made
      have readX : (∀ p ∈ u2, lim x p.1 = false) → act E pc (n0 + x) (evO E s.tmps) (fun id => if lim x id then (s.mem.sets u2).blk id else none) ox = some (v1, u1) := by
        intro hlim
        rw [← ha1]
        congr 1
        funext id
        split
        · rename_i hid
          exact Z7k _ u2 id (fun p hp he => by rw [← he, hlim p hp] at hid; cases hid)
        · rfl
      have readY : (∀ p ∈ u1, lim y p.1 = false) → act E pc (n0 + y) (evO E s.tmps) (fun id => if lim y id then s.mem.blk id else none) oy = some (v2, u2) := by
        intro hlim
        rw [← ha2]
        congr 1
        funext id
        split
        · rename_i hid
          exact (Z7k _ u1 id (fun p hp he => by rw [← he, hlim p hp] at hid; cases hid)).symm
        · rfl
      cases hkx : cls E me ox.op <;> (try (exact absurd hkx hpx)) <;> cases hky : cls E me oy.op <;> (try (exact absurd hky hpy)) <;> rw [hkx, hky] at hco <;> (try (cases hco; done))
      · -- r, r
        obtain rfl := Zabd hkx ha1
        obtain rfl := Zabd hky ha2
        exact fin (readY (by simp)) (readX (by simp)) rfl
      · -- r, a
        obtain rfl := Zabd hkx ha1
        obtain ⟨hp, its, rfl⟩ := Z2f (get' := fun id => if lim y id then s.mem.blk id else none) hky ha2
        exact fin hp (readX (fun p hp' => by simp at hp'; subst hp'; exact (hl (.inr (by rw [hky]; rfl))).1)) rfl
      · -- r, ra
        obtain rfl := Zabd hkx ha1
        rcases Z3z hky ha2 with rfl | ⟨its, rfl⟩
        · exact fin (readY (by simp)) (readX (by simp)) rfl
        · exact fin (readY (by simp)) (readX (fun p hp' => by simp at hp'; subst hp'; exact (hl (.inr (by rw [hky]; rfl))).1)) rfl
      · -- a, r
        obtain rfl := Zabd hky ha2
        obtain ⟨hp, its, rfl⟩ := Z2f (get' := fun id => if lim x id then (s.mem.sets []).blk id else none) hkx ha1
        exact fin (readY (fun p hp' => by simp at hp'; subst hp'; exact (hl (.inl (by rw [hkx]; rfl))).2)) hp rfl
      · -- a, a
        obtain ⟨hp, its, rfl⟩ := Z2f (get' := fun id => if lim y id then s.mem.blk id else none) hky ha2
        obtain ⟨hq, its', rfl⟩ := Z2f (get' := fun id => if lim x id then (s.mem.sets [(n0 + y, some its)]).blk id else none) hkx ha1
        exact fin hp hq (by simp only [Mem.sets]; exact Zta _ _ _ (by omega))
      · -- a, w
        obtain ⟨hq, its', rfl⟩ := Z2f (get' := fun id => if lim x id then (s.mem.sets u2).blk id else none) hkx ha1
        have hy' := readY (fun p hp' => by simp at hp'; subst hp'; exact (hl (.inl (by rw [hkx]; rfl))).2)
        have hw := Zawa hky hy'
        refine fin hy' hq ?_
        simp only [Mem.sets]
        refine (Z51 _ _ u2 fun p hp => ?_).symm
        rcases hw p hp with h | h
        · rw [h]; omega
        · intro he
          rw [he, (hl (.inl (by rw [hkx]; rfl))).2] at h
          simp at h
      · -- a, ra
        rcases Z3z hky ha2 with rfl | ⟨its, rfl⟩
        · obtain ⟨hq, its', rfl⟩ := Z2f (get' := fun id => if lim x id then (s.mem.sets []).blk id else none) hkx ha1
          exact fin (readY (fun p hp' => by simp at hp'; subst hp'; exact (hl (.inl (by rw [hkx]; rfl))).2)) hq rfl
        · obtain ⟨hq, its', rfl⟩ := Z2f (get' := fun id => if lim x id then (s.mem.sets [(n0 + y, some its)]).blk id else none) hkx ha1
          exact fin (readY (fun p hp' => by simp at hp'; subst hp'; exact (hl (.inl (by rw [hkx]; rfl))).2)) hq (by simp only [Mem.sets]; exact Zta _ _ _ (by omega))
      · -- w, a
        obtain ⟨hp, its, rfl⟩ := Z2f (get' := fun id => if lim y id then s.mem.blk id else none) hky ha2
        have hx' := readX (fun p hp' => by simp at hp'; subst hp'; exact (hl (.inr (by rw [hky]; rfl))).1)
        have hw := Zawa hkx ha1
        refine fin hp hx' ?_
        simp only [Mem.sets]
        refine Z51 _ _ u1 fun p hp => ?_
        rcases hw p hp with h | h
        · rw [h]; omega
        · intro he
          rw [he, (hl (.inr (by rw [hky]; rfl))).1] at h
          simp at h
      · -- ra, r
        obtain rfl := Zabd hky ha2
        rcases Z3z hkx ha1 with rfl | ⟨its, rfl⟩
        · exact fin (readY (by simp)) (readX (by simp)) rfl
        · exact fin (readY (fun p hp' => by simp at hp'; subst hp'; exact (hl (.inl (by rw [hkx]; rfl))).2)) (readX (by simp)) rfl
      · -- ra, a
        obtain ⟨hp, its, rfl⟩ := Z2f (get' := fun id => if lim y id then s.mem.blk id else none) hky ha2
        have hx' := readX (fun p hp' => by simp at hp'; subst hp'; exact (hl (.inr (by rw [hky]; rfl))).1)
        rcases Z3z hkx ha1 with rfl | ⟨its', rfl⟩
        · exact fin hp hx' rfl
        · exact fin hp hx' (by simp only [Mem.sets]; exact Zta _ _ _ (by omega))
      · -- ra, ra
        rcases Z3z hkx ha1 with rfl | ⟨its', rfl⟩ <;> rcases Z3z hky ha2 with rfl | ⟨its, rfl⟩
        · exact fin (readY (by simp)) (readX (by simp)) rfl
        · exact fin (readY (by simp)) (readX (fun p hp' => by simp at hp'; subst hp'; exact (hl (.inr (by rw [hky]; rfl))).1)) rfl
        · exact fin (readY (fun p hp' => by simp at hp'; subst hp'; exact (hl (.inl (by rw [hkx]; rfl))).2)) (readX (by simp)) rfl
        · exact fin (readY (fun p hp' => by simp at hp'; subst hp'; exact (hl (.inl (by rw [hkx]; rfl))).2)) (readX (fun p hp' => by simp at hp'; subst hp'; exact (hl (.inr (by rw [hky]; rfl))).1)) (by simp only [Mem.sets]; exact Zta _ _ _ (by omega))

end Go.Proofs.YtfphjfbknphhjaaGreatDoor.Sh
