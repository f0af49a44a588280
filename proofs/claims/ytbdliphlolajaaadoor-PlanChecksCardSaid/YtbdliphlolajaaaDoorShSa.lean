/-
  The shadow interpreter: a Go function of the loaded program is run on plain trees (slices are lists), without orders that are left open and without addresses. Text 1: its definitions. No condition.
-/
import Derived.Orders
import Derived.Below
import Derived.KernelRfl
set_option linter.unusedVariables false
namespace Go.Proofs.YtbdliphlolajaaaDoor.Sh

/-- What is known of a list's tail: nothing; that there is no room behind it; that it is a picture of memory that may turn later. -/
inductive Tl where
  | ro | full | snap
  deriving DecidableEq, Inhabited

/-- Values as trees. -/
inductive SV where
  | bool (b : Bool)
  | int (k : IntKind) (n : Int)
  | str (s : ByteArray)
  | nilp
  | ptr (id i o : Nat)
  | rptr (items : List SV) (i o : Nat) (st : Bool)
  | nilsl
  | sl (items : List SV) (tl : Tl)
  | own (id esz i len : Nat)
  | fn (f : Nat) (first caps : List SV)
  | nilf
  | iface (t : Nat) (v : SV)
  | nili
  | agg (cells : List SV)
  | tup (vs : List SV)
  | bad
  deriving Inhabited

def SV.cells : SV → List SV
  | .agg cs => cs
  | v => [v]

/-- May the value be one cell of a row? -/
def SV.one : SV → Bool
  | .agg _ | .tup _ | .bad => false
  | _ => true

/-- May the value be stored? -/
def SV.sto : SV → Bool
  | .tup _ | .bad => false
  | _ => true

def flat (items : List SV) : List SV := items.flatMap SV.cells

/-- Has each item so many cells? -/
def unif (n : Nat) (items : List SV) : Bool := items.all fun x => x.cells.length == n

structure Mem where
  blk : Nat → Option (List SV)
  next : Nat

def Mem.empty : Mem := ⟨fun _ => none, 0⟩
def Mem.set (M : Mem) (id : Nat) (b : Option (List SV)) : Mem := ⟨fun j => if j = id then b else M.blk j, M.next⟩
def Mem.sets (M : Mem) : List (Nat × Option (List SV)) → Mem
  | [] => M
  | (id, b) :: r => (M.set id b).sets r

inductive Ex where
  | normal | exit (id : Nat) | ret
  deriving DecidableEq

structure St where
  tmps : List SV
  mem : Mem

/-! ### Constants, types -/

def ofVal1 : Value → SV
  | .bool b => .bool b
  | .int k n => .int k n
  | .string s => .str s
  | .pointer none => .nilp
  | .slice none 0 0 => .nilsl
  | .nilFunc => .nilf
  | .nilIface => .nili
  | _ => .bad

def ofVal : Value → SV
  | .agg cs => if (cs.toList.map ofVal1).all SV.one then .agg (cs.toList.map ofVal1) else .bad
  | .tuple vs => if vs.size = 0 then .tup [] else .bad
  | v => ofVal1 v

inductive TK where
  | bool | int (k : IntKind) | str | ptr | slice (e : Nat) | arr (n e : Nat) | struct (fs : List (Nat × Nat)) | iface | func | other
  deriving DecidableEq, Inhabited

structure TI where
  kind : TK
  size : Nat
  bytes : Nat
  zero : Option SV

def TK.agg : TK → Bool
  | .struct _ | .arr _ _ => true
  | _ => false

def tkOf : TypeDesc → TK
  | .bool => .bool
  | .int k => .int k
  | .string => .str
  | .pointer _ => .ptr
  | .slice e => .slice e
  | .array n e => .arr n e
  | .struct fs => .struct (fs.toList.map fun f => (f.type, f.offset))
  | .interface _ => .iface
  | .func _ _ _ => .func
  | _ => .other

/-- What the shadow uses of a type. -/
def tiOf (P : Program) (t : Nat) : Option TI :=
  match P.underlying t, P.info? t with
  | some d, some i => some ⟨tkOf d, i.size, i.bytes, i.zero.map ofVal⟩
  | _, _ => none

/-- The places of a struct's or an array's parts: where, and how many cells. -/
def placesOf (P : Program) : TK → Option (Nat → Option (Nat × Nat))
  | .struct fs => match fs.mapM (fun f => match tiOf P f.1 with | some x => some (f.2, x.size) | none => none) with
    | some ps => some (fun i => ps[i]?)
    | none => none
  | .arr _ e => match tiOf P e with
    | some x => some (fun i => some (i * x.size, x.size))
    | none => none
  | _ => none

structure Env where
  P : Program
  G : Nat → Option (List SV)
  prim : Nat → Option (List SV → Mem → Option (SV × Mem))
  imp : Nat → Nat → Bool
  dead : Nat → Nat → List Nat
  raw : Nat → Option Value := fun _ => none
  sent : Nat → Bool := fun _ => false

def evO (E : Env) (tmps : List SV) : Operand → SV
  | .tmp t => tmps.getD t (.tup [])
  | .const v => ofVal v
  | .global g => match E.G g with
    | some items => .rptr items 0 0 true
    | none => .bad
  | .func f => .fn f [] []

/-! ### Pictures of memory -/

mutual
/-- A plain tree: nothing in it hangs on memory that may turn. -/
def pv : SV → Bool
  | .ptr .. => false
  | .own .. => false
  | .sl items tl => (tl != .snap) && pvs items
  | .rptr items _ _ st => st && pvs items
  | .fn _ a b => pvs a && pvs b
  | .iface _ v => pv v
  | .agg cs => pvs cs
  | .tup vs => pvs vs
  | _ => true
def pvs : List SV → Bool
  | [] => true
  | v :: r => pv v && pvs r
end

/-- A picture of a value: what memory it names is read. 'st': it will not turn any more. -/
def pic (get : Nat → Option (List SV)) (st : Bool) : Nat → SV → Option SV
  | 0, v => if pv v then some v else none
  | n + 1, v =>
    if pv v then some v else
    match v with
    | .ptr id i o => match get id with
      | some items => match items.mapM (pic get st n) with
        | some items' => some (.rptr items' i o st)
        | none => none
      | none => none
    | .own id esz i len => match get id with
      | some items => if i + len ≤ items.length then
          match ((items.drop i).take len).mapM (pic get st n) with
          | some items' => some (.sl items' (if st then .ro else .snap))
          | none => none
        else none
      | none => none
    | .sl items tl => match items.mapM (pic get st n) with
      | some items' => some (.sl items' tl)
      | none => none
    | .rptr items i o s => match items.mapM (pic get st n) with
      | some items' => some (.rptr items' i o s)
      | none => none
    | .fn f a b => match a.mapM (pic get st n), b.mapM (pic get st n) with
      | some a', some b' => some (.fn f a' b')
      | _, _ => none
    | .iface t v => match pic get st n v with
      | some v' => some (.iface t v')
      | none => none
    | .agg cs => match cs.mapM (pic get st n) with
      | some cs' => some (.agg cs')
      | none => none
    | .tup vs => match vs.mapM (pic get st n) with
      | some vs' => some (.tup vs')
      | none => none
    | v => some v

def picDepth : Nat := 12

/-! ### Operations -/

def semV : Sem Value → Option SV
  | .pure (.int k n) => some (.int k n)
  | .pure (.bool b) => some (.bool b)
  | .pure (.string s) => some (.str s)
  | _ => none

/-- Structs of whole numbers alone, one cell each. -/
def intsOnly (P : Program) : TK → Bool
  | .struct fs => fs.all fun f => match tiOf P f.1 with | some ⟨.int _, 1, _, _⟩ => true | _ => false
  | _ => false

/-- Does the struct's field j lie at j? -/
def inRow : Nat → List (Nat × Nat) → Bool
  | _, [] => true
  | j, (_, o) :: r => o == j && inRow (j + 1) r

def eqInts : List SV → List SV → Option Bool
  | [], [] => some true
  | .int k a :: r, .int k' b :: s => if k = k' then
      match eqInts r s with
      | some c => some ((a == b) && c)
      | none => none
    else none
  | _, _ => none

/-- no field is blank -/
def plainNames (P : Program) (t : Nat) : Bool := match P.underlying t with
  | some (.struct fs) => fs.all fun f => f.name != "_"
  | _ => false

def eqS (P : Program) (t : Nat) (cst : Bool) (x y : SV) : Option Bool :=
  match tiOf P t with
  | none => none
  | some ti =>
    match ti.kind, x, y with
    | .bool, .bool a, .bool b => some (a == b)
    | .slice _, .nilsl, .nilsl => some true
    | .slice _, .nilsl, .sl _ _ => some false
    | .slice _, .nilsl, .own _ _ _ _ => some false
    | .slice _, .sl _ _, .nilsl => some false
    | .slice _, .own _ _ _ _, .nilsl => some false
    | .ptr, .nilp, .nilp => some true
    | .ptr, .nilp, .ptr _ _ _ => some false
    | .ptr, .nilp, .rptr _ _ _ _ => some false
    | .ptr, .ptr _ _ _, .nilp => some false
    | .ptr, .rptr _ _ _ _, .nilp => some false
    | .iface, .nili, .nili => if cst then some true else none
    | .iface, .nili, .iface _ _ => some false
    | .iface, .iface _ _, .nili => some false
    | .func, .nilf, .nilf => some true
    | .func, .nilf, .fn _ _ _ => some false
    | .func, .fn _ _ _, .nilf => some false
    | .struct fs, .agg xs, .agg ys =>
      if P.stoodInHeld t = false ∧ P.eqGuardType P.depth t = false ∧ intsOnly P (.struct fs) = true ∧ inRow 0 fs = true ∧ xs.length = fs.length ∧ ys.length = fs.length ∧ plainNames P t = true then eqInts xs ys else none
    | _, _, _ => none

def binS (P : Program) (op : BinOp) (t : Nat) (cst : Bool) (x y : SV) : Option SV :=
  match x, y with
  | .int k a, .int k' b => semV (Go.binOp op t (.int k a) (.int k' b))
  | .str a, .str b => semV (Go.binOp op t (.string a) (.string b))
  | x, y => match op with
    | .eql => match eqS P t cst x y with | some b => some (.bool b) | none => none
    | .neq => match eqS P t cst x y with | some b => some (.bool (!b)) | none => none
    | _ => none

def unS (op : UnOp) : SV → Option SV
  | .int k n => semV (Op.unary op (.int k n))
  | .bool b => semV (Op.unary op (.bool b))
  | _ => none

def bytesOf : List SV → Option (List UInt8)
  | [] => some []
  | .int .u8 n :: r => match bytesOf r with
    | some l => some (UInt8.ofNat n.toNat :: l)
    | none => none
  | _ :: _ => none

def splice (cs : List SV) (o : Nat) (ds : List SV) : List SV := cs.take o ++ ds ++ cs.drop (o + ds.length)

def buildS (pl : Nat → Option (Nat × Nat)) : List SV → List (Nat × SV) → Option (List SV)
  | cs, [] => some cs
  | cs, (i, v) :: r => match pl i with
    | some (o, n) => if v.sto = true ∧ v.cells.length = n ∧ o + n ≤ cs.length then buildS pl (splice cs o v.cells) r else none
    | none => none

def buildRow (n len : Nat) : List SV → List (Nat × SV) → Option (List SV)
  | xs, [] => some xs
  | xs, (i, v) :: r => if v.sto = true ∧ v.cells.length = n ∧ i < len then buildRow n len (xs.set i v) r else none

/-- A part of an item: the type's cells from 'o' on. -/
def partS (ti : TI) (x : SV) (o : Nat) : Option SV :=
  if ti.kind.agg then
    if o = 0 ∧ ti.size = x.cells.length then some (.agg x.cells)
    else if o + ti.size ≤ x.cells.length then some (.agg ((x.cells.drop o).take ti.size)) else none
  else x.cells[o]?

def loadS (P : Program) (get : Nat → Option (List SV)) (t : Nat) (a : SV) : Option SV :=
  match tiOf P t with
  | none => none
  | some ti =>
    match a with
    | .ptr id i o => match get id with
      | some items => match items[i]? with
        | some x => partS ti x o
        | none => none
      | none => none
    | .rptr items i o _ => match items[i]? with
      | some x => partS ti x o
      | none => none
    | _ => none

/-- An item in which the cells from 'o' on are a value's. -/
def setPart (x : SV) (o : Nat) (v : SV) : Option SV :=
  if o = 0 ∧ v.cells.length = x.cells.length then some (if x.cells.length = 1 then (match x with | .agg _ => .agg v.cells | _ => (v.cells.headD .bad)) else v)
  else match x with
    | .agg cs => if o + v.cells.length ≤ cs.length then some (.agg (splice cs o v.cells)) else none
    | _ => none

def storeS (P : Program) (get : Nat → Option (List SV)) (t : Nat) (a v : SV) : Option (List (Nat × Option (List SV))) :=
  match tiOf P t with
  | none => none
  | some ti =>
    match a with
    | .ptr id i o => match get id with
      | some items => match items[i]? with
        | some x => if v.sto = true ∧ v.cells.length = ti.size then
            match setPart x o v with
            | some x' => some [(id, some (items.set i x'))]
            | none => none
          else none
        | none => none
      | none => none
    | _ => none

def natS : SV → Option Nat
  | .int _ n => if 0 ≤ n then some n.toNat else none
  | _ => none

/-- the bounds of a slice: low, high -/
def boundsS (len : Nat) (lo hi mx : Option SV) : Option (Nat × Nat × Option Nat) :=
  match (match mx with | none => some none | some v => (natS v).map some) with
  | none => none
  | some m =>
    match (match hi with | none => some len | some v => natS v) with
    | none => none
    | some h =>
      match (match lo with | none => some 0 | some v => natS v) with
      | none => none
      | some l =>
        match hi, m with
        | _, none => if l ≤ h ∧ h ≤ len then some (l, h, none) else none
        | some _, some m => if l ≤ h ∧ h ≤ m ∧ m ≤ len then some (l, h, some m) else none
        | none, some _ => none

def sliceS (P : Program) (t : Nat) (x : SV) (lo hi mx : Option SV) : Option SV :=
  match tiOf P t with
  | none => none
  | some ti =>
    match ti.kind, x with
    | .str, .str s => match boundsS s.size lo hi mx with
      | some (l, h, none) => some (.str (s.extract l h))
      | _ => none
    | .slice e, .nilsl => match tiOf P e, boundsS 0 lo hi mx with
      | some _, some _ => some .nilsl
      | _, _ => none
    | .slice e, .sl items tl => match tiOf P e, boundsS items.length lo hi mx with
      | some te, some (l, h, m) =>
        if unif te.size items then
          some (.sl ((items.drop l).take (h - l)) (match m with
            | some m => if m = h then (match tl with | .snap => .snap | _ => .full) else (match tl with | .full => .ro | q => q)
            | none => match tl with | .full => if h = items.length then .full else .ro | q => q))
        else none
      | _, _ => none
    | .slice e, .own id esz i len => match tiOf P e, boundsS len lo hi mx with
      | some te, some (l, h, m) =>
        if te.size = esz then
          if l = h then some (.sl [] (if m = some h then .full else .ro)) else some (.own id esz (i + l) (h - l))
        else none
      | _, _ => none
    | _, _ => none

def fieldAddrS (P : Program) (t : Nat) (a : SV) (f : Nat) : Option SV :=
  match tiOf P t with
  | some ⟨.struct fs, _, _, _⟩ => match fs[f]? with
    | some (ft, off) => match tiOf P ft with
      | some fi => if fi.size = 0 then none else
        match a with
        | .ptr id i o => some (.ptr id i (o + off))
        | .rptr items i o st => some (.rptr items i (o + off) st)
        | _ => none
      | none => none
    | none => none
  | _ => none

def fieldS (P : Program) (t : Nat) (x : SV) (f : Nat) : Option SV :=
  match tiOf P t with
  | some ⟨.struct fs, _, _, _⟩ => match fs[f]?, x with
    | some (ft, off), .agg cs => match tiOf P ft with
      | some fi => partS fi (.agg cs) off
      | none => none
    | _, _ => none
  | _ => none

def indexAddrS (P : Program) (t : Nat) (x ix : SV) : Option SV :=
  match tiOf P t, natS ix with
  | some ti, some j =>
    match ti.kind with
    | .arr n e => match tiOf P e with
      | some te => if j < n then
          match x with
          | .ptr id i o => some (.ptr id i (o + j * te.size))
          | .rptr items i o st => some (.rptr items i (o + j * te.size) st)
          | _ => none
        else none
      | none => none
    | .slice e => match tiOf P e with
      | some te =>
        match x with
        | .own id esz i len => if j < len ∧ esz = te.size then some (.ptr id (i + j) 0) else none
        | .sl items tl => match items[j]? with
          | some y => if y.cells.length = te.size then some (.rptr items j 0 (tl != .snap)) else none
          | none => none
        | _ => none
      | none => none
    | _ => none
  | _, _ => none

def indexS (P : Program) (t : Nat) (x ix : SV) : Option SV :=
  match tiOf P t, natS ix with
  | some ti, some j =>
    match ti.kind, x with
    | .arr n e, .agg cs => match tiOf P e with
      | some te => if j < n then partS te (.agg cs) (j * te.size) else none
      | none => none
    | .str, .str s => match s[j]? with
      | some b => some (.int .u8 b.toNat)
      | none => none
    | _, _ => none
  | _, _ => none

def convS (P : Program) (get : Nat → Option (List SV)) (src dst : Nat) (x : SV) : Option SV :=
  match tiOf P src, tiOf P dst with
  | some a, some b =>
    match a.kind, b.kind, x with
    | .int _, .int k, .int _ n => some (.int k (k.wrap n))
    | .str, .str, .str s => some (.str s)
    | .slice e, .str, .nilsl => match tiOf P e with | some ⟨.int .u8, _, _, _⟩ => some (.str ByteArray.empty) | _ => none
    | .slice e, .str, .sl items _ => match tiOf P e with | some ⟨.int .u8, _, _, _⟩ => (match bytesOf items with | some l => some (.str ⟨l.toArray⟩) | none => none) | _ => none
    | .slice e, .str, .own id esz i len => match tiOf P e, get id with
      | some ⟨.int .u8, _, _, _⟩, some items => if i + len ≤ items.length ∧ esz = 1 then (match bytesOf ((items.drop i).take len) with | some l => some (.str ⟨l.toArray⟩) | none => none) else none
      | _, _ => none
    | _, _, _ => none
  | _, _ => none

def lenS (P : Program) (t : Nat) : SV → Option SV
  | .str s => match tiOf P t with | some ⟨.str, _, _, _⟩ => some (.int .i64 s.size) | _ => none
  | .nilsl => match tiOf P t with | some ⟨.slice _, _, _, _⟩ => some (.int .i64 0) | _ => none
  | .sl items _ => match tiOf P t with | some ⟨.slice _, _, _, _⟩ => some (.int .i64 items.length) | _ => none
  | .own _ _ _ len => match tiOf P t with | some ⟨.slice _, _, _, _⟩ => some (.int .i64 len) | _ => none
  | .agg _ => match tiOf P t with | some ⟨.arr n _, _, _, _⟩ => some (.int .i64 n) | _ => none
  | _ => none

def mmGo (mx : Bool) (k : IntKind) (a : Int) : List SV → Option SV
  | [] => some (.int k a)
  | .int _ b :: r => mmGo mx k (if mx then (if b > a then b else a) else (if b < a then b else a)) r
  | _ => none

def mmS (mx : Bool) : List SV → Option SV
  | .int k a :: r => mmGo mx k a r
  | _ => none

def assertS (P : Program) (x : SV) (t : Nat) (ok : Bool) : Option SV :=
  match tiOf P t with
  | none => none
  | some ti =>
    match ti.kind with
    | .iface => none
    | _ => match x with
      | .nili => if ok then (match ti.zero with | some z => some (.tup [z, .bool false]) | none => none) else none
      | .iface u v => if u = t then some (if ok then .tup [v, .bool true] else v)
          else if ok then (match ti.zero with | some z => some (.tup [z, .bool false]) | none => none) else none
      | _ => none

/-- The items of a slice (or of a string's bytes). -/
def itemsS (get : Nat → Option (List SV)) : SV → Option (List SV)
  | .nilsl => some []
  | .sl items _ => some items
  | .own id _ i len => match get id with
    | some items => if i + len ≤ items.length then some ((items.drop i).take len) else none
    | none => none
  | .str s => some (s.data.toList.map fun b => .int .u8 b.toNat)
  | _ => none

/-- May the source be appended to items of so many cells? -/
def srcFits (k : TK) (esz : Nat) : SV → Bool
  | .own _ e _ _ => e == esz && (match k with | .slice _ => true | _ => false)
  | .str _ => esz == 1 && (match k with | .str => true | _ => false)
  | _ => (match k with | .slice _ => true | _ => false)

/-- 'append': what it hands back, and what becomes of memory ('a': the number of the new block). -/
def appendS (P : Program) (get : Nat → Option (List SV)) (a : Nat) (t t2 : Nat) (s x : SV) : Option (SV × List (Nat × Option (List SV))) :=
  match tiOf P t, tiOf P t2 with
  | some ⟨.slice e, _, _, _⟩, some k2 =>
    match tiOf P e with
    | some te =>
      match te.zero, itemsS get x with
      | some z, some ys =>
        if 0 < te.size ∧ unif te.size ys = true ∧ srcFits k2.kind te.size x = true ∧ z.sto = true ∧ z.cells.length = te.size then
          match s with
          | .nilsl => if ys.isEmpty then some (.nilsl, []) else if ys.length * te.bytes ≤ 140737488355328 ∧ ys.length ≤ 140737488355328 then some (.own a te.size 0 ys.length, [(a, some ys)]) else none
          | .sl xs .full => if ys.isEmpty then some (.sl xs .full, []) else if unif te.size xs = true ∧ (xs.length + ys.length) * te.bytes ≤ 140737488355328 ∧ xs.length + ys.length ≤ 140737488355328 then some (.own a te.size 0 (xs.length + ys.length), [(a, some (xs ++ ys))]) else none
          | .own id esz i len => if ys.isEmpty then some (.own id esz i len, []) else
            match get id with
            | some xs => if esz = te.size ∧ i = 0 ∧ len ≤ xs.length ∧ (len + ys.length) * te.bytes ≤ 140737488355328 ∧ len + ys.length ≤ 140737488355328 then some (.own a te.size 0 (len + ys.length), [(id, none), (a, some (xs.take len ++ ys))]) else none
            | none => none
          | _ => none
        else none
      | _, _ => none
    | none => none
  | _, _ => none

def isStr : SV → Bool
  | .str _ => true
  | _ => false

/-- 'copy', items of one cell each: how many, and what becomes of memory. -/
def copyS (P : Program) (get : Nat → Option (List SV)) (t : Nat) (d x : SV) : Option (SV × List (Nat × Option (List SV))) :=
  match tiOf P t with
  | some ⟨.slice e, _, _, _⟩ => match tiOf P e with
    | some te => match d, itemsS get x with
      | .own id esz i len, some ys => match get id with
        | some xs => if te.size = 1 ∧ esz = 1 ∧ isStr x = false ∧ i + len ≤ xs.length ∧ unif 1 ys = true then
            some (.int .i64 (min ys.length len : Nat), [(id, some (xs.take i ++ ys.take (min ys.length len) ++ xs.drop (i + min ys.length len)))])
          else none
        | none => none
      | _, _ => none
    | none => none
  | _ => none

def isCst : Operand → Bool
  | .const _ => true
  | _ => false

/-- What an operation does: a value, and what becomes of blocks. 'pc': a call in memory of its own; 'a': the number of a new block; 'get': memory as it may be looked at. -/
def act (E : Env) (pc : Nat → List SV → Option SV) (a : Nat) (ρ : Operand → SV) (get : Nat → Option (List SV)) (o : Oper) : Option (SV × List (Nat × Option (List SV))) :=
  let v (x : Option SV) : Option (SV × List (Nat × Option (List SV))) := match x with | some y => some (y, []) | none => none
  match o.op with
  | .move x | .assign x => some (ρ x, [])
  | .pick c p q => match ρ c with
    | .bool b => some (if b then ρ p else ρ q, [])
    | _ => none
  | .alloc t => match tiOf E.P t with
    | some ti => match ti.zero with
      | some z => if z.sto then some (.ptr a 0 0, [(a, some [z])]) else none
      | none => none
    | none => none
  | .box t x => if (ρ x).sto then some (.ptr a 0 0, [(a, some [ρ x])]) else none
  | .build t parts => match tiOf E.P t with
    | some ti => match ti.zero, placesOf E.P ti.kind with
      | some (.agg zs), some pl => v (match buildS pl zs (parts.toList.map fun p => (p.1, ρ p.2)) with | some cs => some (.agg cs) | none => none)
      | _, _ => none
    | none => none
  | .buildSlice t len parts => match tiOf E.P t with
    | some ⟨.slice e, _, _, _⟩ => match tiOf E.P e with
      | some te => match te.zero with
        | some z => if z.sto = true ∧ z.cells.length = te.size ∧ 0 < te.size ∧ len * te.size ≤ 16777216 then
            (match buildRow te.size len (List.replicate len z) (parts.toList.map fun p => (p.1, ρ p.2)) with
            | some xs => some (.own a te.size 0 len, [(a, some xs)])
            | none => none) else none
        | none => none
      | none => none
    | _ => none
  | .load t x => v (loadS E.P get t (ρ x))
  | .store t x y => match storeS E.P get t (ρ x) (ρ y) with
    | some u => some (.tup [], u)
    | none => none
  | .nilCheck x => match ρ x with
    | .ptr id i o => some (.ptr id i o, [])
    | .rptr l i o st => some (.rptr l i o st, [])
    | .iface t y => some (.iface t y, [])
    | .fn f p q => some (.fn f p q, [])
    | _ => none
  | .binOp op t x y _ => v (binS E.P op t (isCst x || isCst y) (ρ x) (ρ y))
  | .unOp op _ x => v (unS op (ρ x))
  | .convert s d x => v (convS E.P get s d (ρ x))
  | .makeInterface t x => if E.sent t then none else match tiOf E.P t with
    | some ⟨.iface, _, _, _⟩ => none
    | some _ => some (.iface t (ρ x), [])
    | none => none
  | .makeFunc (.func f) first caps => some (.fn f (first.toList.map ρ) (caps.toList.map ρ), [])
  | .makeSlice t l c => match tiOf E.P t with
    | some ⟨.slice e, _, _, _⟩ => match tiOf E.P e, ρ l, ρ c with
      | some te, .int .i64 n, .int .i64 m => match te.zero with
        | some z => if z.sto = true ∧ z.cells.length = te.size ∧ 0 < te.size ∧ n = m ∧ 0 ≤ n ∧ n * te.bytes ≤ 281474976710656 ∧ n ≤ 281474976710656 then
            some (.own a te.size 0 n.toNat, [(a, some (List.replicate n.toNat z))]) else none
        | none => none
      | _, _, _ => none
    | _ => none
  | .slice t x lo hi mx => v (sliceS E.P t (ρ x) (lo.map ρ) (hi.map ρ) (mx.map ρ))
  | .fieldAddr t x f => v (fieldAddrS E.P t (ρ x) f)
  | .field t x f => v (fieldS E.P t (ρ x) f)
  | .indexAddr t x i => v (indexAddrS E.P t (ρ x) (ρ i))
  | .index t x i => v (indexS E.P t (ρ x) (ρ i))
  | .typeAssert x _ t ok => v (assertS E.P (ρ x) t ok)
  | .extract t i => match ρ t with
    | .tup vs => v (vs[i]?)
    | _ => none
  | .call c => match c.callee with
    | .builtin .len => match c.args.toList, c.argTypes.toList with
      | [x], [t] => v (lenS E.P t (ρ x))
      | _, _ => none
    | .builtin .min => v (mmS false (c.args.toList.map ρ))
    | .builtin .max => v (mmS true (c.args.toList.map ρ))
    | .builtin .copy => match c.args.toList, c.argTypes.toList with
      | [d, x], [t, _] => copyS E.P get t (ρ d) (ρ x)
      | _, _ => none
    | .builtin .append => match c.args.toList, c.argTypes.toList with
      | [s, x], [t, t2] => appendS E.P get a t t2 (ρ s) (ρ x)
      | _, _ => none
    | .value g => match ρ g with
      | .fn f first caps => match (first ++ c.args.toList.map ρ ++ caps).mapM (pic get false picDepth) with
        | some args => v (pc f args)
        | none => none
      | _ => none
    | _ => none
  | _ => none

/-- Is the operation a call in the caller's memory? Then: of which function, with what. -/
def impCall (E : Env) (me : Nat) (ρ : Operand → SV) (o : Oper) : Option (Nat × List SV) :=
  match o.op with
  | .call { callee := .value g, args, .. } => match ρ g with
    | .fn f first caps => if (E.prim f).isSome || E.imp me f then some (f, first ++ args.toList.map ρ ++ caps) else none
    | _ => none
  | _ => none

/-! ### Regions -/

inductive Cls where
  | p | r | a | w | c | ra
  deriving DecidableEq

def isNilC (args : Array Operand) : Bool := match args.toList with
  | .const (.slice none 0 0) :: _ => true
  | _ => false

def Cls.mk : Cls → Bool
  | .a | .ra => true
  | _ => false

def cls (E : Env) (me : Nat) (op : Op) : Cls :=
  match op with
  | .load .. | .convert .. => .r
  | .alloc .. | .box .. | .buildSlice .. | .makeSlice .. => .a
  | .store .. => .w
  | .call { callee := .builtin .append, args, .. } => if isNilC args then .ra else .w
  | .call { callee := .builtin .copy, .. } => .w
  | .call { callee := .builtin _, .. } => .p
  | .call { callee := .value (.func f), .. } => if (E.prim f).isSome || E.imp me f then .c else .r
  | .call _ => .c
  | _ => .p

def makesNew (E : Env) (me : Nat) (op : Op) : Bool :=
  match cls E me op with
  | .a | .c | .ra => true
  | .w => (match op with | .store .. => false | _ => true)
  | _ => false

/-- The operations ahead of each, all of them, as the bits of a number. -/
def bmasks (ops : List Oper) : List Nat :=
  ops.foldl (fun acc o => acc ++ [o.after.toList.foldl (fun m e => if Region.binds .any e then (m ||| (1 <<< e.on)) ||| acc.getD e.on 0 else m) 0]) []

/-- The operations ahead of each, all of them. -/
def befs (ops : List Oper) : List (List Nat) := (bmasks ops).map fun m => (List.range ops.length).filter fun i => m.testBit i

def compat : Cls → Cls → Bool
  | .p, _ | _, .p => true
  | .r, .r | .r, .a | .a, .r | .a, .a | .w, .a | .a, .w | .r, .ra | .ra, .r | .ra, .ra | .ra, .a | .a, .ra => true
  | _, _ => false

def okPair (E : Env) (me : Nat) (ops : Array Oper) (b : List (List Nat)) (i j : Nat) : Bool :=
  (b.getD j []).contains i ||
  (!(b.getD i []).contains j &&
   match ops[i]?, ops[j]? with
   | some x, some y => x.apart ops y && compat (cls E me x.op) (cls E me y.op)
   | _, _ => false)

/-- May a region's operations be done in any order that its edges allow? -/
def drawOk (E : Env) (me : Nat) (ops : Array Oper) : Bool :=
  let b := befs ops.toList
  (List.range ops.size).all fun j =>
    (match ops[j]? with
     | some o => (o.after.toList.all fun e => !Region.binds .any e || decide (e.on < j)) &&
         (b.getD j []).all fun p => o.after.toList.any fun e => Region.binds .any e && (e.on == p || (b.getD e.on []).contains p)
     | none => true) && (List.range j).all fun i => okPair E me ops b i j

def putS (tmps : List SV) (dst : Option Nat) (v : SV) : List SV :=
  match dst with
  | some d => tmps.set d v
  | none => tmps

def yieldS (ops : Array Oper) (tmps : List SV) (j : Nat) : Option SV :=
  match ((ops[j]?).bind (·.dst)) with
  | some t => tmps[t]?
  | none => none

/-- Is the operation to be done? none: it can't be told. -/
def wantS (ops : Array Oper) (o : Oper) (tmps : List SV) : Option Bool :=
  match o.guard with
  | none => some true
  | some (j, want) => match yieldS ops tmps j with
    | some (.bool b) => some (b == want)
    | some .bad => none
    | _ => some false

abbrev PC := Nat → List SV → Option SV
abbrev IC := Nat → List SV → Mem → Option (SV × Mem)

/-- One operation of a region that began at memory of 'n0' blocks. 'lim': which blocks it may see. -/
def exO (E : Env) (me : Nat) (pc : PC) (ic : IC) (n0 : Nat) (lim : Nat → Nat → Bool) (ops : Array Oper) (x : Nat) (s : St) : Option St :=
  match ops[x]? with
  | none => some s
  | some o =>
    match wantS ops o s.tmps with
    | none => none
    | some false => some ⟨putS s.tmps o.dst (.tup []), s.mem⟩
    | some true =>
      match impCall E me (evO E s.tmps) o with
      | some (f, args) => match ic f args s.mem with
        | some (v, M) => some ⟨putS s.tmps o.dst v, M⟩
        | none => none
      | none =>
        match act E pc (n0 + x) (evO E s.tmps) (fun id => if lim x id then s.mem.blk id else none) o with
        | some (v, u) => some ⟨putS s.tmps o.dst v, s.mem.sets u⟩
        | none => none

def exOs (E : Env) (me : Nat) (pc : PC) (ic : IC) (n0 : Nat) (lim : Nat → Nat → Bool) (ops : Array Oper) : List Nat → St → Option St
  | [], s => some s
  | x :: r, s => match exO E me pc ic n0 lim ops x s with
    | some s' => exOs E me pc ic n0 lim ops r s'
    | none => none

/-- Which blocks an operation of a region that draws its order may see: those that were there, and those that are made ahead of it for sure. -/
def limOf (ops : Array Oper) (n0 : Nat) (x id : Nat) : Bool :=
  decide (id < n0) || decide (n0 + ops.size ≤ id) || ((befs ops.toList).getD x []).contains (id - n0)

def regS0 (E : Env) (me : Nat) (pc : PC) (ic : IC) (ops : Array Oper) (draw : Bool) (s : St) : Option St :=
  let new := ops.any fun o => makesNew E me o.op
  let n0 := s.mem.next
  let s1 : St := if new then ⟨s.tmps, ⟨s.mem.blk, n0 + ops.size⟩⟩ else s
  if draw && !drawOk E me ops then none
  else exOs E me pc ic n0 (if draw && new then limOf ops n0 else fun _ _ => true) ops (List.range ops.size) s1

/-! ### Regions and code, told shorter -/

structure Ins where
  dst : Option Nat
  op : Op
  guard : Option (Option Nat × Bool)
  lim : Option (List Nat)

structure RI where
  size : Nat
  adv : Nat
  dead : List Nat
  ops : List Ins

inductive C where
  | skip
  | reg (ri : RI)
  | seq (a b : C)
  | cond (x : Operand) (a b : C)
  | block (id : Nat) (b : C)
  | loop (b : C)
  | exit (id : Nat)
  | ret
  | bad

def limAt (lims : Option (List (List Nat))) (x : Nat) : Option (List Nat) := match lims with
  | some l => some (l.getD x [])
  | none => none

def guardAt (ops : Array Oper) (g : Option (Nat × Bool)) : Option (Option Nat × Bool) := match g with
  | some (j, w) => some ((ops[j]?).bind (·.dst), w)
  | none => none

def insFrom (ops : Array Oper) (lims : Option (List (List Nat))) : Nat → List Oper → List Ins
  | _, [] => []
  | k, o :: r => ⟨o.dst, o.op, guardAt ops o.guard, limAt lims k⟩ :: insFrom ops lims (k + 1) r

def riOf (E : Env) (me id : Nat) (ops : Array Oper) (draw : Bool) : Option RI :=
  if draw && !drawOk E me ops then none else
  let new := ops.any fun o => makesNew E me o.op
  some ⟨ops.size, if new then ops.size else 0, E.dead me id, insFrom ops (if draw && new then some (befs ops.toList) else none) 0 ops.toList⟩

def comp (E : Env) (me : Nat) : Code → C
  | .skip => .skip
  | .label _ => .skip
  | .region id ops draw => match riOf E me id ops draw with
    | some ri => .reg ri
    | none => .bad
  | .seq a b => .seq (comp E me a) (comp E me b)
  | .cond c a b => .cond c (comp E me a) (comp E me b)
  | .block id b => .block id (comp E me b)
  | .loop b => .loop (comp E me b)
  | .exit id => .exit id
  | .ret => .ret
  | _ => .bad

def impOf (E : Env) (me : Nat) (ρ : Operand → SV) (op : Op) : Option (Nat × List SV) :=
  impCall E me ρ ⟨none, op, 0, "", #[], none⟩

def actOf (E : Env) (pc : PC) (a : Nat) (ρ : Operand → SV) (get : Nat → Option (List SV)) (op : Op) : Option (SV × List (Nat × Option (List SV))) :=
  act E pc a ρ get ⟨none, op, 0, "", #[], none⟩

def wantI (i : Ins) (tmps : List SV) : Option Bool :=
  match i.guard with
  | none => some true
  | some (d, want) => match d with
    | some t => match tmps[t]? with
      | some (.bool b) => some (b == want)
      | some .bad => none
      | _ => some false
    | none => some false

def seenM (M : Mem) (n0 sz : Nat) : Option (List Nat) → Nat → Option (List SV)
  | none => M.blk
  | some l => fun id => if decide (id < n0) || decide (n0 + sz ≤ id) || l.contains (id - n0) then M.blk id else none

def exI (E : Env) (me : Nat) (pc : PC) (ic : IC) (n0 sz k : Nat) (i : Ins) (s : St) : Option St :=
  match wantI i s.tmps with
  | none => none
  | some false => some ⟨putS s.tmps i.dst (.tup []), s.mem⟩
  | some true =>
    match impOf E me (evO E s.tmps) i.op with
    | some (f, args) => match ic f args s.mem with
      | some (v, M) => some ⟨putS s.tmps i.dst v, M⟩
      | none => none
    | none =>
      match actOf E pc (n0 + k) (evO E s.tmps) (seenM s.mem n0 sz i.lim) i.op with
      | some (v, u) => some ⟨putS s.tmps i.dst v, s.mem.sets u⟩
      | none => none

def exL (E : Env) (me : Nat) (pc : PC) (ic : IC) (n0 sz : Nat) : Nat → List Ins → St → Option St
  | _, [], s => some s
  | k, i :: r, s => match exI E me pc ic n0 sz k i s with
    | some s' => exL E me pc ic n0 sz (k + 1) r s'
    | none => none

/-- What is not needed any more is not known any more. -/
def forget : List Nat → List SV → List SV
  | [], T => T
  | d :: r, T => forget r (T.set d .bad)

def regS (E : Env) (me : Nat) (pc : PC) (ic : IC) (ri : RI) (s : St) : Option St :=
  match exL E me pc ic s.mem.next ri.size 0 ri.ops ⟨s.tmps, ⟨s.mem.blk, s.mem.next + ri.adv⟩⟩ with
  | some s' => some ⟨forget ri.dead s'.tmps, s'.mem⟩
  | none => none

/-! ### Code -/

def evC (E : Env) (reg : RI → St → Option St) : Nat → C → St → Option (Ex × St)
  | 0, _, _ => none
  | n + 1, c, s =>
    match c with
    | .skip => some (.normal, s)
    | .reg ri => match reg ri s with
      | some s' => some (.normal, s')
      | none => none
    | .seq a b => match evC E reg n a s with
      | some (.normal, s') => evC E reg n b s'
      | r => r
    | .cond c a b => match evO E s.tmps c with
      | .bool t => evC E reg n (if t then a else b) s
      | _ => none
    | .block id b => match evC E reg n b s with
      | some (.exit id', s') => if id' = id then some (.normal, s') else some (.exit id', s')
      | r => r
    | .loop b => match evC E reg n b s with
      | some (.normal, s') => evC E reg n (.loop b) s'
      | r => r
    | .exit id => some (.exit id, s)
    | .ret => some (.ret, s)
    | .bad => none

def resS (E : Env) (s : St) : List ResultVar → Option (List SV)
  | [] => some []
  | .tmp t :: r => match resS E s r with
    | some l => some (s.tmps.getD t (.tup []) :: l)
    | none => none
  | .cell a t :: r => match loadS E.P s.mem.blk t (s.tmps.getD a (.tup [])), resS E s r with
    | some v, some l => some (v :: l)
    | _, _ => none

/-- A call in memory of its own: what it hands back must be a plain tree. -/
def pcOf (ic : IC) : PC := fun f args =>
  match ic f args .empty with
  | some (v, M) => match pic M.blk true picDepth v with
    | some v' => if pv v' then some v' else none
    | none => none
  | none => none

/-- A call in the caller's memory, so deep. -/
def callN (E : Env) : Nat → IC
  | 0, _, _, _ => none
  | n + 1, f, args, M =>
    match E.prim f with
    | some p => p args M
    | none =>
      match E.P.funcs[f]? with
      | none => none
      | some fn =>
        match fn.body with
        | none => none
        | some c =>
          if fn.name = "runtime.NumGoroutine" then none else
          match evC E (regS E f (pcOf (callN E n)) (callN E n)) (n + 1) (comp E f c) ⟨args ++ List.replicate (fn.ntmps - args.length) .bad, M⟩ with
          | some (.normal, s) | some (.ret, s) => match resS E s fn.results.toList with
            | some [v] => some (v, s.mem)
            | some vs => some (.tup vs, s.mem)
            | none => none
          | _ => none

end Go.Proofs.YtbdliphlolajaaaDoor.Sh
