/-
  Walks of the seat's functions: Wd.
-/
import Derived.Test.YtbdliphlolajaaaGreatDoorEb2
import Derived.Test.YtbdliphlolajaaaGreatDoorShSv
import Derived.Test.YtbdliphlolajaaaGreatDoorLWb
set_option linter.unusedVariables false
set_option linter.unusedSimpArgs false
set_option maxRecDepth 100000
namespace Go.Proofs.YtbdliphlolajaaaGreatDoor
open Go.Proofs.YtbdliphlolajaaaGreatDoor.Sh
/-! The law PlanTells: the document's ports; two equal lists. -/
/-- Blocks but for the one that a list was in are as they were. -/
def Kept (o : SV) (M M' : Mem) : Prop := ∀ id, id < M.next → (∀ e a b, o ≠ .own id e a b) → M'.blk id = M.blk id
theorem Kept.of_old {o : SV} {M M' : Mem} (h : Old M M') : Kept o M M' := fun id hid _ => h id hid
theorem killO_other {o : SV} {X : Mem} {s : Nat} (hne : ∀ e a b, o ≠ .own s e a b) : (X.sets (killO o)).blk s = X.blk s := by
  cases o <;> simp [killO, Mem.sets]
  rename_i id e a b
  intro hh
  subst hh
  exact absurd rfl (hne e a b)
/-- An item more at the end of a list in own memory. -/
theorem OutR.next {P : Program} {get : Nat → Option (List SV)} {o : SV} {M X : Mem} {items : List SV} {a s t e s1 b1 : Nat} {z1 : Option SV} {te : TI} {z v : SV} (ht : tiOf P t = some ⟨.slice e, s1, b1, z1⟩) (hte : tiOf P e = some te)
    (hz : te.zero = some z) (h0 : 0 < te.size) (hsz : z.sto = true) (hc : z.cells.length = te.size) (hI : OutR te.size o M items) (h1 : (items.length + 1) * te.bytes ≤ 140737488355328) (h2 : items.length + 1 ≤ 140737488355328)
    (hg : ∀ id, id < M.next → get id = M.blk id) (hv : v.cells.length = te.size) (hs : get s = some [v]) (hX : Old M X) (hXn : a < X.next) (hMa : M.next ≤ a) :
    ∃ o' X', appendS P get a t t o (.own s te.size 0 1) = some (o', killO o ++ [(a, some (items ++ [v]))]) ∧ (X.sets (killO o)).set a (some (items ++ [v])) = X' ∧ OutR te.size o' X' (items ++ [v]) ∧ Kept o M X' ∧ X'.next = X.next ∧ (∀ id e a b, o' = .own id e a b → M.next ≤ id) := by
  refine ⟨_, _, OutR.app ht hte hz h0 hsz hc hI h1 h2 hg hv hs, rfl, ?_, ?_, by simp, ?_⟩
  · exact OutR.snoc (by simp) (by simpa using hXn)
  · intro id hid hne
    rw [Mem.blk_set, if_neg (by omega), killO_other hne]
    exact hX id hid
  · intro id e a' b h
    cases h
    exact hMa
def portsTo (ls : List Link) (part : Int) (k : Nat) : List Port := (List.range k).filterMap fun i : Nat => findPort ls part (i : Int)
theorem portsTo_len (ls : List Link) (part : Int) (k : Nat) : (portsTo ls part k).length ≤ k := by
  have := List.length_filterMap_le (fun i : Nat => findPort ls part (i : Int)) (List.range k)
  simpa [portsTo] using this
theorem portsTo_succ (ls : List Link) (part : Int) (k : Nat) : portsTo ls part (k + 1) = portsTo ls part k ++ (findPort ls part k).toList := by
  simp only [portsTo, List.range_succ, List.filterMap_append]
  cases h : findPort ls part k <;> simp [h]
theorem eqPort (c : Bool) (a b : Port) : eqS ES.P T_api_Port c (encPort a) (encPort b) = some (decide (a = b)) := by
  have h1 : ES.P.stoodInHeld T_api_Port = false := by kernel_rfl
  have h2 : ES.P.eqGuardType ES.P.depth T_api_Port = false := by kernel_rfl
  have h3 : intsOnly ES.P (.struct [(T_int, 0), (T_int, 1), (T_int, 2), (T_int, 3)]) = true := by kernel_rfl
  have h4 : plainNames ES.P T_api_Port = true := by kernel_rfl
  unfold eqS
  rw [ti_api_Port]
  obtain ⟨a1, a2, a3, a4⟩ := a
  obtain ⟨b1, b2, b3, b4⟩ := b
  simp only [encPort, h1, h2, h3, h4]
  simp only [inRow, List.length, eqInts, beq_self_eq_true, Bool.and_true, and_self, if_true, Option.some.injEq]
  by_cases e1 : a1 = b1 <;> by_cases e2 : a2 = b2 <;> by_cases e3 : a3 = b3 <;> by_cases e4 : a4 = b4 <;> simp [e1, e2, e3, e4]
@[simp] theorem eqlPort (c : Bool) (a b : Port) : binS ES.P .eql T_api_Port c (encPort a) (encPort b) = some (.bool (decide (a = b))) := by
  show (match eqS ES.P T_api_Port c (encPort a) (encPort b) with | some b => some (SV.bool b) | none => none) = _
  rw [eqPort]
@[simp] theorem neqPort (c : Bool) (a b : Port) : binS ES.P .neq T_api_Port c (encPort a) (encPort b) = some (.bool (!decide (a = b))) := by
  show (match eqS ES.P T_api_Port c (encPort a) (encPort b) with | some b => some (SV.bool (!b)) | none => none) = _
  rw [eqPort]
theorem agg_port (p : Port) : SV.agg [.int .i64 p.node, .int .i64 p.link, .int .i64 p.gate, .int .i64 p.side] = encPort p := rfl
@[simp] theorem eqlAgg (c : Bool) (a b d e a' b' d' e' : Int) : binS ES.P .eql T_api_Port c (.agg [.int .i64 a, .int .i64 b, .int .i64 d, .int .i64 e]) (.agg [.int .i64 a', .int .i64 b', .int .i64 d', .int .i64 e']) = some (.bool (decide (a = a' ∧ b = b' ∧ d = d' ∧ e = e'))) := by
  have := eqlPort c ⟨a, b, d, e⟩ ⟨a', b', d', e'⟩
  simpa [encPort] using this
@[simp] theorem eqlBool (c a b : Bool) : binS ES.P .eql T_bool c (.bool a) (.bool b) = some (.bool (a == b)) := binS_eqlB ti_bool

end Go.Proofs.YtbdliphlolajaaaGreatDoor
