/-
  Walks of the seat's functions: Cf.
-/
import Derived.Test.YtljjmdcdlcefmaaGreatDoorEbMa
import Derived.Test.YtljjmdcdlcefmaaGreatDoorShMb
import Derived.Test.YtljjmdcdlcefmaaGreatDoorLSl
set_option linter.unusedVariables false
set_option linter.unusedSimpArgs false
set_option maxRecDepth 100000
namespace Go.Proofs.YtljjmdcdlcefmaaGreatDoor
open Go.Proofs.YtljjmdcdlcefmaaGreatDoor.Sh
/-! A network's parts and links. -/
structure Part where
  nodes : Int
  faults : Int
  deriving DecidableEq, Inhabited
structure Link where
  a : Int
  b : Int
  pa0 : Int
  pa1 : Int
  pb0 : Int
  pb1 : Int
  deriving DecidableEq, Inhabited
structure Cfg where
  parts : List Part
  links : List Link
  cycle : Int
  lead : Int
  slot : Int
  window : Int
  drift : Int
  rate : Int
  ages : Int
  lost : Int
  listen : Int
  span : Int
  room : Int
  deriving DecidableEq, Inhabited
structure Port where
  node : Int
  link : Int
  gate : Int
  side : Int
  deriving DecidableEq, Inhabited
def encPart (p : Part) : SV := .agg [.int .i64 p.nodes, .int .i64 p.faults]
def encLink (l : Link) : SV := .agg [.int .i64 l.a, .int .i64 l.b, .int .i64 l.pa0, .int .i64 l.pa1, .int .i64 l.pb0, .int .i64 l.pb1]
def encPort (p : Port) : SV := .agg [.int .i64 p.node, .int .i64 p.link, .int .i64 p.gate, .int .i64 p.side]
def cfgC (c : Cfg) (p l : SV) : List SV := [p, l, .int .i64 c.cycle, .int .i64 c.lead, .int .i64 c.slot, .int .i64 c.window, .int .i64 c.drift, .int .i64 c.rate, .int .i64 c.ages, .int .i64 c.lost, .int .i64 c.listen, .int .i64 c.span, .int .i64 c.room]
def Parts (x : SV) (l : List Part) : Prop := RSl (fun y a => y = encPart a) x l
def Links (x : SV) (l : List Link) : Prop := RSl (fun y a => y = encLink a) x l
def Ports (x : SV) (l : List Port) : Prop := RSl (fun y a => y = encPort a) x l
def Ints (x : SV) (l : List Int) : Prop := RSl (fun y n => y = .int .i64 n) x l
/-- A network: few parts and links. -/
structure CfgP (c : Cfg) (p l : SV) : Prop where
  p : Parts p c.parts
  l : Links l c.links
  lp : c.parts.length ≤ 17592186044416
  ll : c.links.length ≤ 17592186044416
def CfgR (y : SV) (c : Cfg) : Prop := ∃ p l, y = .agg (cfgC c p l) ∧ CfgP c p l

@[simp] theorem np_int (k : IntKind) (v : Int) (n : Nat) : np n (.int k v) = true := np_of_pv rfl _
@[simp] theorem np_bool (b : Bool) (n : Nat) : np n (.bool b) = true := np_of_pv rfl _
@[simp] theorem np_rint (k : IntKind) (v : Int) (i o : Nat) (s : Bool) : np picDepth (.rptr [.int k v] i o s) = true := by show (pv _ || ([SV.int k v].all (np 11))) = true; simp
theorem encPart_np (p : Part) (n : Nat) : np n (encPart p) = true := np_of_pv rfl _
theorem encLink_np (p : Link) (n : Nat) : np n (encLink p) = true := np_of_pv rfl _
theorem encPort_np (p : Port) (n : Nat) : np n (encPort p) = true := np_of_pv rfl _
theorem pv_encLink (l : Link) : pv (encLink l) = true := rfl
theorem np_rlink (l : Link) (i o : Nat) (s : Bool) : np picDepth (.rptr [encLink l] i o s) = true := by show (pv _ || ([encLink l].all (np 11))) = true; simp [encLink_np]
theorem np_fnlink (l : Link) {f : Nat} : np picDepth (.fn f [] [.rptr [encLink l] 0 0 false]) = true := rfl
theorem Parts.np {x : SV} {l : List Part} (h : Parts x l) : np 10 x = true := RSl.np h (n := 9) fun y a h => by rw [h]; exact encPart_np a 9
theorem Links.np {x : SV} {l : List Link} (h : Links x l) : np 10 x = true := RSl.np h (n := 9) fun y a h => by rw [h]; exact encLink_np a 9
theorem Ports.np {x : SV} {l : List Port} (h : Ports x l) : np 10 x = true := RSl.np h (n := 9) fun y a h => by rw [h]; exact encPort_np a 9
theorem Ints.np {x : SV} {l : List Int} (h : Ints x l) : np 10 x = true := RSl.np h (n := 9) fun y a h => by rw [h]; rfl
theorem Ints.np12 {x : SV} {l : List Int} (h : Ints x l) : Sh.np picDepth x = true := np_le (by decide) h.np
theorem Links.np12 {x : SV} {l : List Link} (h : Links x l) : Sh.np picDepth x = true := np_le (by decide) h.np
theorem Parts.np12 {x : SV} {l : List Part} (h : Parts x l) : Sh.np picDepth x = true := np_le (by decide) h.np
theorem Ports.np12 {x : SV} {l : List Port} (h : Ports x l) : Sh.np picDepth x = true := np_le (by decide) h.np
theorem CfgP.npA {c : Cfg} {p l : SV} (h : CfgP c p l) : Sh.np picDepth (.agg (cfgC c p l)) = true := by
  have h1 := np_le (m := 11) (by decide) h.p.np
  have h2 := np_le (m := 11) (by decide) h.l.np
  simp only [picDepth, Sh.np, Bool.or_eq_true]
  refine .inr ?_
  simp only [cfgC, List.all_cons, List.all_nil, Bool.and_true, Bool.and_eq_true]
  exact ⟨h1, h2, rfl, rfl, rfl, rfl, rfl, rfl, rfl, rfl, rfl, rfl, rfl⟩
theorem CfgR.np12 {y : SV} {c : Cfg} (h : CfgR y c) : Sh.np picDepth y = true := by
  obtain ⟨p, l, rfl, hp⟩ := h
  exact hp.npA
theorem sl_cells {x : SV} (h : isSl x = true) : x.cells = [x] := by cases x <;> simp [isSl] at h <;> rfl
theorem sl_sto {x : SV} (h : isSl x = true) : x.sto = true := by cases x <;> simp [isSl] at h <;> rfl
theorem sl_one {x : SV} (h : isSl x = true) : x.one = true := by cases x <;> simp [isSl] at h <;> rfl
@[simp] theorem encPart_cells (p : Part) : (encPart p).cells = [.int .i64 p.nodes, .int .i64 p.faults] := rfl
@[simp] theorem encLink_cells (l : Link) : (encLink l).cells = [.int .i64 l.a, .int .i64 l.b, .int .i64 l.pa0, .int .i64 l.pa1, .int .i64 l.pb0, .int .i64 l.pb1] := rfl
@[simp] theorem encPort_cells (p : Port) : (encPort p).cells = [.int .i64 p.node, .int .i64 p.link, .int .i64 p.gate, .int .i64 p.side] := rfl
@[simp] theorem fold_link (l : Link) : SV.agg [.int .i64 l.a, .int .i64 l.b, .int .i64 l.pa0, .int .i64 l.pa1, .int .i64 l.pb0, .int .i64 l.pb1] = encLink l := rfl
@[simp] theorem fold_part (p : Part) : SV.agg [.int .i64 p.nodes, .int .i64 p.faults] = encPart p := rfl
@[simp] theorem fold_port (p : Port) : SV.agg [.int .i64 p.node, .int .i64 p.link, .int .i64 p.gate, .int .i64 p.side] = encPort p := rfl
@[simp] theorem encLink_sto (l : Link) : (encLink l).sto = true := rfl
@[simp] theorem encPart_sto (l : Part) : (encPart l).sto = true := rfl
@[simp] theorem encPort_sto (l : Port) : (encPort l).sto = true := rfl
theorem elmLink : Elm (fun y a => y = encLink a) ⟨.struct [(T_int, 0), (T_int, 1), (T_a2_int, 2), (T_a2_int, 4)], 6, 48, some (.agg [.int .i64 0, .int .i64 0, .int .i64 0, .int .i64 0, .int .i64 0, .int .i64 0])⟩ :=
  ⟨fun h => by rw [h]; rfl, fun h => by rw [h]; rfl, fun h => by rw [h]; rfl, fun h => by rw [h]; rfl⟩
theorem elmPart : Elm (fun y a => y = encPart a) ⟨.struct [(T_int, 0), (T_int, 1)], 2, 16, some (.agg [.int .i64 0, .int .i64 0])⟩ :=
  ⟨fun h => by rw [h]; rfl, fun h => by rw [h]; rfl, fun h => by rw [h]; rfl, fun h => by rw [h]; rfl⟩
theorem Parts.at {x : SV} {l : List Part} (h : Parts x l) {j : Nat} (hj : j < l.length) : indexAddrS ES.P T_sl_api_Part x (.int .i64 j) = some (.rptr (l.map encPart) j 0 (stOf x)) := RSl.at h ti_sl_api_Part ti_api_Part (fun _ => rfl) hj
theorem Links.at {x : SV} {l : List Link} (h : Links x l) {j : Nat} (hj : j < l.length) : indexAddrS ES.P T_sl_api_Link x (.int .i64 j) = some (.rptr (l.map encLink) j 0 (stOf x)) := RSl.at h ti_sl_api_Link ti_api_Link (fun _ => rfl) hj
theorem elmPort : Elm (fun y a => y = encPort a) ⟨.struct [(T_int, 0), (T_int, 1), (T_int, 2), (T_int, 3)], 4, 32, some (.agg [.int .i64 0, .int .i64 0, .int .i64 0, .int .i64 0])⟩ :=
  ⟨fun h => by rw [h]; rfl, fun h => by rw [h]; rfl, fun h => by rw [h]; rfl, fun h => by rw [h]; rfl⟩
theorem Ports.at {x : SV} {l : List Port} (h : Ports x l) {j : Nat} (hj : j < l.length) : indexAddrS ES.P T_sl_api_Port x (.int .i64 j) = some (.rptr (l.map encPort) j 0 (stOf x)) := RSl.at h ti_sl_api_Port ti_api_Port (fun _ => rfl) hj
@[simp] theorem ixa2_0 (id i o : Nat) : indexAddrS ES.P T_a2_int (.ptr id i o) (.int .i64 0) = some (.ptr id i o) := by simp [indexAddrS, natS]
@[simp] theorem ixa2_1 (id i o : Nat) : indexAddrS ES.P T_a2_int (.ptr id i o) (.int .i64 1) = some (.ptr id i (o + 1)) := by simp [indexAddrS, natS]
@[simp] theorem ixr2_0 (l : List SV) (i o : Nat) (s : Bool) : indexAddrS ES.P T_a2_int (.rptr l i o s) (.int .i64 0) = some (.rptr l i o s) := by simp [indexAddrS, natS]
@[simp] theorem ixr2_1 (l : List SV) (i o : Nat) (s : Bool) : indexAddrS ES.P T_a2_int (.rptr l i o s) (.int .i64 1) = some (.rptr l i (o + 1) s) := by simp [indexAddrS, natS]
@[simp] theorem ix2_0 (x y : SV) : indexS ES.P T_a2_int (.agg [x, y]) (.int .i64 0) = some x := by simp [indexS, natS, partS, TK.agg]
@[simp] theorem ix2_1 (x y : SV) : indexS ES.P T_a2_int (.agg [x, y]) (.int .i64 1) = some y := by simp [indexS, natS, partS, TK.agg]

end Go.Proofs.YtljjmdcdlcefmaaGreatDoor
