/-
  Walks of the seat's functions: Cf.
-/
import Derived.Test.YtaldchogcingbaaEb0
import Derived.Test.YtaldchogcingbaaShMb
import Derived.Test.YtaldchogcingbaaLSl
set_option linter.unusedVariables false
set_option linter.unusedSimpArgs false
set_option maxRecDepth 100000
namespace Go.Proofs.Ytaldchogcingbaa
open Go.Proofs.Ytaldchogcingbaa.Sh
/-! A network's parts and links. -/
structure Part where
  nodes : Int
  faults : Int
  deriving DecidableEq, Inhabited
structure Link where
  a : Int
  b : Int
  pa0 : Int
  pa1 : Int
  pb0 : Int
  pb1 : Int
  deriving DecidableEq, Inhabited
structure Cfg where
  parts : List Part
  links : List Link
  cycle : Int
  lead : Int
  slot : Int
  window : Int
  drift : Int
  rate : Int
  ages : Int
  lost : Int
  listen : Int
  span : Int
  room : Int
  deriving DecidableEq, Inhabited
structure Port where
  node : Int
  link : Int
  gate : Int
  side : Int
  deriving DecidableEq, Inhabited
def encPart (p : Part) : SV := .agg [.int .i64 p.nodes, .int .i64 p.faults]
def encLink (l : Link) : SV := .agg [.int .i64 l.a, .int .i64 l.b, .int .i64 l.pa0, .int .i64 l.pa1, .int .i64 l.pb0, .int .i64 l.pb1]
def encPort (p : Port) : SV := .agg [.int .i64 p.node, .int .i64 p.link, .int .i64 p.gate, .int .i64 p.side]
def cfgC (c : Cfg) (p l : SV) : List SV := [p, l, .int .i64 c.cycle, .int .i64 c.lead, .int .i64 c.slot, .int .i64 c.window, .int .i64 c.drift, .int .i64 c.rate, .int .i64 c.ages, .int .i64 c.lost, .int .i64 c.listen, .int .i64 c.span, .int .i64 c.room]
def Parts (x : SV) (l : List Part) : Prop := RSl (fun y a => y = encPart a) x l
def Links (x : SV) (l : List Link) : Prop := RSl (fun y a => y = encLink a) x l
def Ports (x : SV) (l : List Port) : Prop := RSl (fun y a => y = encPort a) x l
def Ints (x : SV) (l : List Int) : Prop := RSl (fun y n => y = .int .i64 n) x l
/-- A network: few parts and links. -/
structure CfgP (c : Cfg) (p l : SV) : Prop where
  p : Parts p c.parts
  l : Links l c.links
  lp : c.parts.length ≤ 17592186044416
  ll : c.links.length ≤ 17592186044416
def CfgR (y : SV) (c : Cfg) : Prop := ∃ p l, y = .agg (cfgC c p l) ∧ CfgP c p l

@[simp] theorem np_int (k : IntKind) (v : Int) (n : Nat) : np n (.int k v) = true := np_of_pv rfl _
@[simp] theorem np_bool (b : Bool) (n : Nat) : np n (.bool b) = true := np_of_pv rfl _
@[simp] theorem np_rint (k : IntKind) (v : Int) (i o : Nat) (s : Bool) : np picDepth (.rptr [.int k v] i o s) = true := by show (pv _ || ([SV.int k v].all (np 11))) = true; simp
theorem encPart_np (p : Part) (n : Nat) : np n (encPart p) = true := np_of_pv rfl _
theorem encLink_np (p : Link) (n : Nat) : np n (encLink p) = true := np_of_pv rfl _
theorem encPort_np (p : Port) (n : Nat) : np n (encPort p) = true := np_of_pv rfl _
theorem pv_encLink (l : Link) : pv (encLink l) = true := rfl
theorem np_rlink (l : Link) (i o : Nat) (s : Bool) : np picDepth (.rptr [encLink l] i o s) = true := by show (pv _ || ([encLink l].all (np 11))) = true; simp [encLink_np]
theorem np_fnlink (l : Link) {f : Nat} : np picDepth (.fn f [] [.rptr [encLink l] 0 0 false]) = true := rfl
theorem Parts.np {x : SV} {l : List Part} (h : Parts x l) : np 10 x = true := RSl.np h (n := 9) fun y a h => by rw [h]; exact encPart_np a 9
theorem Links.np {x : SV} {l : List Link} (h : Links x l) : np 10 x = true := RSl.np h (n := 9) fun y a h => by rw [h]; exact encLink_np a 9
theorem Ports.np {x : SV} {l : List Port} (h : Ports x l) : np 10 x = true := RSl.np h (n := 9) fun y a h => by rw [h]; exact encPort_np a 9
theorem Ints.np {x : SV} {l : List Int} (h : Ints x l) : np 10 x = true := RSl.np h (n := 9) fun y a h => by rw [h]; rfl
theorem Ints.np12 {x : SV} {l : List Int} (h : Ints x l) : Sh.np picDepth x = true := np_le (by decide) h.np
theorem Links.np12 {x : SV} {l : List Link} (h : Links x l) : Sh.np picDepth x = true := np_le (by decide) h.np
theorem Parts.np12 {x : SV} {l : List Part} (h : Parts x l) : Sh.np picDepth x = true := np_le (by decide) h.np
theorem Ports.np12 {x : SV} {l : List Port} (h : Ports x l) : Sh.np picDepth x = true := np_le (by decide) h.np
theorem CfgP.npA {c : Cfg} {p l : SV} (h : CfgP c p l) : Sh.np picDepth (.agg (cfgC c p l)) = true := by
  have h1 := np_le (m := 11) (by decide) h.p.np
  have h2 := np_le (m := 11) (by decide) h.l.np
  simp only [picDepth, Sh.np, Bool.or_eq_true]
  refine .inr ?_
  simp only [cfgC, List.all_cons, List.all_nil, Bool.and_true, Bool.and_eq_true]
  exact ⟨h1, h2, rfl, rfl, rfl, rfl, rfl, rfl, rfl, rfl, rfl, rfl, rfl⟩
theorem CfgR.np12 {y : SV} {c : Cfg} (h : CfgR y c) : Sh.np picDepth y = true := by
  obtain ⟨p, l, rfl, hp⟩ := h
  exact hp.npA
theorem sl_cells {x : SV} (h : isSl x = true) : x.cells = [x] := by cases x <;> simp [isSl] at h <;> rfl
theorem sl_sto {x : SV} (h : isSl x = true) : x.sto = true := by cases x <;> simp [isSl] at h <;> rfl
theorem sl_one {x : SV} (h : isSl x = true) : x.one = true := by cases x <;> simp [isSl] at h <;> rfl
@[simp] theorem encPart_cells (p : Part) : (encPart p).cells = [.int .i64 p.nodes, .int .i64 p.faults] := rfl
@[simp] theorem encLink_cells (l : Link) : (encLink l).cells = [.int .i64 l.a, .int .i64 l.b, .int .i64 l.pa0, .int .i64 l.pa1, .int .i64 l.pb0, .int .i64 l.pb1] := rfl
@[simp] theorem encPort_cells (p : Port) : (encPort p).cells = [.int .i64 p.node, .int .i64 p.link, .int .i64 p.gate, .int .i64 p.side] := rfl
@[simp] theorem fold_link (l : Link) : SV.agg [.int .i64 l.a, .int .i64 l.b, .int .i64 l.pa0, .int .i64 l.pa1, .int .i64 l.pb0, .int .i64 l.pb1] = encLink l := rfl
@[simp] theorem fold_part (p : Part) : SV.agg [.int .i64 p.nodes, .int .i64 p.faults] = encPart p := rfl
@[simp] theorem fold_port (p : Port) : SV.agg [.int .i64 p.node, .int .i64 p.link, .int .i64 p.gate, .int .i64 p.side] = encPort p := rfl
@[simp] theorem encLink_sto (l : Link) : (encLink l).sto = true := rfl
@[simp] theorem encPart_sto (l : Part) : (encPart l).sto = true := rfl
@[simp] theorem encPort_sto (l : Port) : (encPort l).sto = true := rfl

end Go.Proofs.Ytaldchogcingbaa
