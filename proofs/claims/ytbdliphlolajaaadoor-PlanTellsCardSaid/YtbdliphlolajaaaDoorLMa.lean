/-
  Walks of the seat's functions: Sl.
-/
import Derived.Test.YtbdliphlolajaaaDoorEb2
import Derived.Test.YtbdliphlolajaaaDoorShSv
set_option linter.unusedVariables false
set_option linter.unusedSimpArgs false
set_option maxRecDepth 100000
namespace Go.Proofs.YtbdliphlolajaaaDoor
open Go.Proofs.YtbdliphlolajaaaDoor.Sh
/-! What the library's functions on slices do. -/

def idxOf {α : Type} (p : α → Bool) (l : List α) : Int := match (List.range l.length).find? (fun j => (l[j]?.map p).getD false) with
  | some i => (i : Int)
  | none => -1

theorem idxOf_neg {α : Type} {p : α → Bool} {l : List α} : (idxOf p l = -1 ∧ ∀ a ∈ l, p a = false) ∨ ∃ i, ∃ h : i < l.length, idxOf p l = i ∧ p l[i] = true ∧ ∀ j (hj : j < i), p (l[j]'(by omega)) = false := by
  unfold idxOf
  cases h : (List.range l.length).find? (fun j => (l[j]?.map p).getD false) with
  | none =>
    left
    rw [List.find?_range_eq_none] at h
    refine ⟨rfl, fun a ha => ?_⟩
    obtain ⟨j, hj, rfl⟩ := List.mem_iff_getElem.1 ha
    have := h j hj
    simpa [hj] using this
  | some i =>
    right
    rw [List.find?_range_eq_some] at h
    obtain ⟨h1, h2, h3⟩ := h
    have hi : i < l.length := by simpa using h2
    refine ⟨i, hi, rfl, by simpa [hi] using h1, fun j hj => ?_⟩
    have := h3 j hj
    have hj' : j < l.length := by omega
    simpa [hj'] using this

theorem idxOf_any {α : Type} (p : α → Bool) (l : List α) : decide (0 ≤ idxOf p l) = l.any p := by
  rcases idxOf_neg (p := p) (l := l) with ⟨h1, h2⟩ | ⟨i, hi, h1, h2, h3⟩
  · rw [h1, List.any_eq_false.2 (fun a ha => by simp [h2 a ha])]; rfl
  · rw [h1, List.any_eq_true.2 ⟨l[i], List.getElem_mem hi, h2⟩]; simp
theorem slices_IndexFunc_sl_api_Link_api_Link_ok {α : Type} {R : SV → α → Prop} {te : TI} (hE : Elm R te) (hte : tiOf ES.P T_api_Link = some te) {x : SV} {l : List α} (hx : RSl R x l) (hb : l.length < 4611686018427387904) {f : Nat} {a c : List SV}
    (hnp : ∀ me, ((ES.prim f).isSome || ES.imp me f) = false) (p : α → Bool) (hp : ∀ get y v, R y v → v ∈ l → callP (PCw ES) get f (a ++ y :: c) = some (.bool (p v))) :
    PCw ES n_slices_IndexFunc_sl_api_Link_api_Link [x, .fn f a c] = some (.int .i64 (idxOf p l)) := by
  refine PCw_ex (fun M => ?_) rfl
  rw [b_slices_IndexFunc_sl_api_Link_api_Link]
  obtain ⟨r, h1, M', h2⟩ := loop_find (E := ES) (me := n_slices_IndexFunc_sl_api_Link_api_Link) (B := c_slices_IndexFunc_sl_api_Link_api_Link_B0) (len := l.length) (T := fun j => h_slices_IndexFunc_sl_api_Link_api_Link_0 x (.fn f a c) (.int .i64 l.length) (.int .i64 j))
    (I := fun _ _ => True) (p := fun j => (l[j]?.map p).getD false)
    (Q := fun o r => ∃ M', r = match o with
      | some j => (.ret, ⟨(h_slices_IndexFunc_sl_api_Link_api_Link_0 .bad .bad .bad .bad).set 4 (.int .i64 j), M'⟩)
      | none => (.exit 0, ⟨(h_slices_IndexFunc_sl_api_Link_api_Link_0 x (.fn f a c) (.int .i64 l.length) (.int .i64 l.length)).set 9 (.bool false), M'⟩))
    (fun j M hj _ hpj => by
      obtain ⟨y, hy, _, ha, hl⟩ := hx.item ti_sl_api_Link hte hE hj
      have hw : IntKind.i64.wrap ((j : Int) + 1) = (j : Int) + 1 := i64_in (by omega) (by omega)
      have hc := fun get => hp get y _ hy (List.getElem_mem hj)
      simp [hj] at hpj
      rw [hpj] at hc
      simp [c_slices_IndexFunc_sl_api_Link_api_Link_B0, evW_reg, evW_chkr, isCst, TK.agg, zeroS, endS, resS, h_slices_IndexFunc_sl_api_Link_api_Link_0, hj, ha, hl, callT_fn (hnp _), hc, hw])
    (fun j M hj _ hpj => by
      obtain ⟨y, hy, _, ha, hl⟩ := hx.item ti_sl_api_Link hte hE hj
      have hc := fun get => hp get y _ hy (List.getElem_mem hj)
      simp [hj] at hpj
      rw [hpj] at hc
      simp [c_slices_IndexFunc_sl_api_Link_api_Link_B0, evW_reg, evW_chkr, isCst, TK.agg, zeroS, endS, resS, h_slices_IndexFunc_sl_api_Link_api_Link_0, hj, ha, hl, callT_fn (hnp _), hc])
    (fun M _ => by simp [c_slices_IndexFunc_sl_api_Link_api_Link_B0, evW_reg, evW_chkr, isCst, TK.agg, zeroS, endS, resS, h_slices_IndexFunc_sl_api_Link_api_Link_0]) M trivial
  unfold idxOf
  cases hf : (List.range l.length).find? (fun j => (l[j]?.map p).getD false) with
  | none =>
    rw [hf] at h2
    subst h2
    simp [h_slices_IndexFunc_sl_api_Link_api_Link_0] at h1
    simp [c_slices_IndexFunc_sl_api_Link_api_Link, evW_reg, evW_chkr, isCst, TK.agg, zeroS, endS, resS, hx.lenS ti_sl_api_Link, c_slices_IndexFunc_sl_api_Link_api_Link_L0, h1]
  | some j =>
    rw [hf] at h2
    subst h2
    simp [h_slices_IndexFunc_sl_api_Link_api_Link_0] at h1
    simp [c_slices_IndexFunc_sl_api_Link_api_Link, evW_reg, evW_chkr, isCst, TK.agg, zeroS, endS, resS, hx.lenS ti_sl_api_Link, c_slices_IndexFunc_sl_api_Link_api_Link_L0, h1]
theorem slices_IndexFunc_sl_api_Link_api_Link_c (get : Nat → Option (List SV)) {α : Type} {R : SV → α → Prop} {te : TI} (hE : Elm R te) (hte : tiOf ES.P T_api_Link = some te) {x : SV} {l : List α} (hx : RSl R x l) (hb : l.length < 4611686018427387904) {f : Nat} {a c : List SV}
    (hnp : ∀ me, ((ES.prim f).isSome || ES.imp me f) = false) (p : α → Bool) (hp : ∀ get y v, R y v → v ∈ l → callP (PCw ES) get f (a ++ y :: c) = some (.bool (p v))) (hn : np picDepth (.fn f a c) = true) :
    callP (PCw ES) get n_slices_IndexFunc_sl_api_Link_api_Link [x, .fn f a c] = some (.int .i64 (idxOf p l)) := callP_of (slices_IndexFunc_sl_api_Link_api_Link_ok hE hte hx hb hnp p hp) (by simp [hx.npE hE, hn])
theorem slices_ContainsFunc_sl_api_Link_api_Link_ok {α : Type} {R : SV → α → Prop} {te : TI} (hE : Elm R te) (hte : tiOf ES.P T_api_Link = some te) {x : SV} {l : List α} (hx : RSl R x l) (hb : l.length < 4611686018427387904) {f : Nat} {a c : List SV}
    (hnp : ∀ me, ((ES.prim f).isSome || ES.imp me f) = false) (p : α → Bool) (hp : ∀ get y v, R y v → v ∈ l → callP (PCw ES) get f (a ++ y :: c) = some (.bool (p v))) (hn : np picDepth (.fn f a c) = true) :
    PCw ES n_slices_ContainsFunc_sl_api_Link_api_Link [x, .fn f a c] = some (.bool (l.any p)) := by
  refine PCw_ex (fun M => ?_) rfl
  rw [b_slices_ContainsFunc_sl_api_Link_api_Link]
  simp [c_slices_ContainsFunc_sl_api_Link_api_Link, evW_reg, evW_chkr, isCst, TK.agg, zeroS, endS, resS, slices_IndexFunc_sl_api_Link_api_Link_c _ hE hte hx hb hnp p hp hn, idxOf_any]
theorem slices_ContainsFunc_sl_api_Link_api_Link_c (get : Nat → Option (List SV)) {α : Type} {R : SV → α → Prop} {te : TI} (hE : Elm R te) (hte : tiOf ES.P T_api_Link = some te) {x : SV} {l : List α} (hx : RSl R x l) (hb : l.length < 4611686018427387904) {f : Nat} {a c : List SV}
    (hnp : ∀ me, ((ES.prim f).isSome || ES.imp me f) = false) (p : α → Bool) (hp : ∀ get y v, R y v → v ∈ l → callP (PCw ES) get f (a ++ y :: c) = some (.bool (p v))) (hn : np picDepth (.fn f a c) = true) :
    callP (PCw ES) get n_slices_ContainsFunc_sl_api_Link_api_Link [x, .fn f a c] = some (.bool (l.any p)) := callP_of (slices_ContainsFunc_sl_api_Link_api_Link_ok hE hte hx hb hnp p hp hn) (by simp [hx.npE hE, hn])
/-- The greatest, the least. -/
def maxL (l : List Int) : Int := l.foldl max (l.headD 0)
def minL (l : List Int) : Int := l.foldl min (l.headD 0)

end Go.Proofs.YtbdliphlolajaaaDoor

/-
  Walks of the seat's functions: Cf.
-/
set_option linter.unusedVariables false
set_option linter.unusedSimpArgs false
set_option maxRecDepth 100000
namespace Go.Proofs.YtbdliphlolajaaaDoor
open Go.Proofs.YtbdliphlolajaaaDoor.Sh
/-! A network's parts and links. -/
structure Part where
  nodes : Int
  faults : Int
  deriving DecidableEq, Inhabited
structure Link where
  a : Int
  b : Int
  pa0 : Int
  pa1 : Int
  pb0 : Int
  pb1 : Int
  deriving DecidableEq, Inhabited
structure Cfg where
  parts : List Part
  links : List Link
  cycle : Int
  lead : Int
  slot : Int
  window : Int
  drift : Int
  rate : Int
  ages : Int
  lost : Int
  listen : Int
  span : Int
  room : Int
  deriving DecidableEq, Inhabited
structure Port where
  node : Int
  link : Int
  gate : Int
  side : Int
  deriving DecidableEq, Inhabited
def encPart (p : Part) : SV := .agg [.int .i64 p.nodes, .int .i64 p.faults]
def encLink (l : Link) : SV := .agg [.int .i64 l.a, .int .i64 l.b, .int .i64 l.pa0, .int .i64 l.pa1, .int .i64 l.pb0, .int .i64 l.pb1]
def encPort (p : Port) : SV := .agg [.int .i64 p.node, .int .i64 p.link, .int .i64 p.gate, .int .i64 p.side]
def cfgC (c : Cfg) (p l : SV) : List SV := [p, l, .int .i64 c.cycle, .int .i64 c.lead, .int .i64 c.slot, .int .i64 c.window, .int .i64 c.drift, .int .i64 c.rate, .int .i64 c.ages, .int .i64 c.lost, .int .i64 c.listen, .int .i64 c.span, .int .i64 c.room]
def Parts (x : SV) (l : List Part) : Prop := RSl (fun y a => y = encPart a) x l
def Links (x : SV) (l : List Link) : Prop := RSl (fun y a => y = encLink a) x l
def Ports (x : SV) (l : List Port) : Prop := RSl (fun y a => y = encPort a) x l
def Ints (x : SV) (l : List Int) : Prop := RSl (fun y n => y = .int .i64 n) x l
/-- A network: few parts and links. -/
structure CfgP (c : Cfg) (p l : SV) : Prop where
  p : Parts p c.parts
  l : Links l c.links
  lp : c.parts.length ≤ 17592186044416
  ll : c.links.length ≤ 17592186044416
def CfgR (y : SV) (c : Cfg) : Prop := ∃ p l, y = .agg (cfgC c p l) ∧ CfgP c p l

@[simp] theorem np_int (k : IntKind) (v : Int) (n : Nat) : np n (.int k v) = true := np_of_pv rfl _
@[simp] theorem np_bool (b : Bool) (n : Nat) : np n (.bool b) = true := np_of_pv rfl _
@[simp] theorem np_rint (k : IntKind) (v : Int) (i o : Nat) (s : Bool) : np picDepth (.rptr [.int k v] i o s) = true := by show (pv _ || ([SV.int k v].all (np 11))) = true; simp
theorem encPart_np (p : Part) (n : Nat) : np n (encPart p) = true := np_of_pv rfl _
theorem encLink_np (p : Link) (n : Nat) : np n (encLink p) = true := np_of_pv rfl _
theorem encPort_np (p : Port) (n : Nat) : np n (encPort p) = true := np_of_pv rfl _
theorem pv_encLink (l : Link) : pv (encLink l) = true := rfl
theorem np_rlink (l : Link) (i o : Nat) (s : Bool) : np picDepth (.rptr [encLink l] i o s) = true := by show (pv _ || ([encLink l].all (np 11))) = true; simp [encLink_np]
theorem np_fnlink (l : Link) {f : Nat} : np picDepth (.fn f [] [.rptr [encLink l] 0 0 false]) = true := rfl
theorem Parts.np {x : SV} {l : List Part} (h : Parts x l) : np 10 x = true := RSl.np h (n := 9) fun y a h => by rw [h]; exact encPart_np a 9
theorem Links.np {x : SV} {l : List Link} (h : Links x l) : np 10 x = true := RSl.np h (n := 9) fun y a h => by rw [h]; exact encLink_np a 9
theorem Ports.np {x : SV} {l : List Port} (h : Ports x l) : np 10 x = true := RSl.np h (n := 9) fun y a h => by rw [h]; exact encPort_np a 9
theorem Ints.np {x : SV} {l : List Int} (h : Ints x l) : np 10 x = true := RSl.np h (n := 9) fun y a h => by rw [h]; rfl
theorem Ints.np12 {x : SV} {l : List Int} (h : Ints x l) : Sh.np picDepth x = true := np_le (by decide) h.np
theorem Links.np12 {x : SV} {l : List Link} (h : Links x l) : Sh.np picDepth x = true := np_le (by decide) h.np
theorem Parts.np12 {x : SV} {l : List Part} (h : Parts x l) : Sh.np picDepth x = true := np_le (by decide) h.np
theorem Ports.np12 {x : SV} {l : List Port} (h : Ports x l) : Sh.np picDepth x = true := np_le (by decide) h.np
theorem CfgP.npA {c : Cfg} {p l : SV} (h : CfgP c p l) : Sh.np picDepth (.agg (cfgC c p l)) = true := by
  have h1 := np_le (m := 11) (by decide) h.p.np
  have h2 := np_le (m := 11) (by decide) h.l.np
  simp only [picDepth, Sh.np, Bool.or_eq_true]
  refine .inr ?_
  simp only [cfgC, List.all_cons, List.all_nil, Bool.and_true, Bool.and_eq_true]
  exact ⟨h1, h2, rfl, rfl, rfl, rfl, rfl, rfl, rfl, rfl, rfl, rfl, rfl⟩
theorem CfgR.np12 {y : SV} {c : Cfg} (h : CfgR y c) : Sh.np picDepth y = true := by
  obtain ⟨p, l, rfl, hp⟩ := h
  exact hp.npA
theorem sl_cells {x : SV} (h : isSl x = true) : x.cells = [x] := by cases x <;> simp [isSl] at h <;> rfl
theorem sl_sto {x : SV} (h : isSl x = true) : x.sto = true := by cases x <;> simp [isSl] at h <;> rfl
theorem sl_one {x : SV} (h : isSl x = true) : x.one = true := by cases x <;> simp [isSl] at h <;> rfl
@[simp] theorem encPart_cells (p : Part) : (encPart p).cells = [.int .i64 p.nodes, .int .i64 p.faults] := rfl
@[simp] theorem encLink_cells (l : Link) : (encLink l).cells = [.int .i64 l.a, .int .i64 l.b, .int .i64 l.pa0, .int .i64 l.pa1, .int .i64 l.pb0, .int .i64 l.pb1] := rfl
@[simp] theorem encPort_cells (p : Port) : (encPort p).cells = [.int .i64 p.node, .int .i64 p.link, .int .i64 p.gate, .int .i64 p.side] := rfl
@[simp] theorem fold_link (l : Link) : SV.agg [.int .i64 l.a, .int .i64 l.b, .int .i64 l.pa0, .int .i64 l.pa1, .int .i64 l.pb0, .int .i64 l.pb1] = encLink l := rfl
@[simp] theorem fold_part (p : Part) : SV.agg [.int .i64 p.nodes, .int .i64 p.faults] = encPart p := rfl
@[simp] theorem fold_port (p : Port) : SV.agg [.int .i64 p.node, .int .i64 p.link, .int .i64 p.gate, .int .i64 p.side] = encPort p := rfl
@[simp] theorem encLink_sto (l : Link) : (encLink l).sto = true := rfl
@[simp] theorem encPart_sto (l : Part) : (encPart l).sto = true := rfl
@[simp] theorem encPort_sto (l : Port) : (encPort l).sto = true := rfl
theorem elmLink : Elm (fun y a => y = encLink a) ⟨.struct [(T_int, 0), (T_int, 1), (T_a2_int, 2), (T_a2_int, 4)], 6, 48, some (.agg [.int .i64 0, .int .i64 0, .int .i64 0, .int .i64 0, .int .i64 0, .int .i64 0])⟩ :=
  ⟨fun h => by rw [h]; rfl, fun h => by rw [h]; rfl, fun h => by rw [h]; rfl, fun h => by rw [h]; rfl⟩
theorem elmPart : Elm (fun y a => y = encPart a) ⟨.struct [(T_int, 0), (T_int, 1)], 2, 16, some (.agg [.int .i64 0, .int .i64 0])⟩ :=
  ⟨fun h => by rw [h]; rfl, fun h => by rw [h]; rfl, fun h => by rw [h]; rfl, fun h => by rw [h]; rfl⟩
theorem Parts.at {x : SV} {l : List Part} (h : Parts x l) {j : Nat} (hj : j < l.length) : indexAddrS ES.P T_sl_api_Part x (.int .i64 j) = some (.rptr (l.map encPart) j 0 (stOf x)) := RSl.at h ti_sl_api_Part ti_api_Part (fun _ => rfl) hj
theorem Links.at {x : SV} {l : List Link} (h : Links x l) {j : Nat} (hj : j < l.length) : indexAddrS ES.P T_sl_api_Link x (.int .i64 j) = some (.rptr (l.map encLink) j 0 (stOf x)) := RSl.at h ti_sl_api_Link ti_api_Link (fun _ => rfl) hj
theorem elmPort : Elm (fun y a => y = encPort a) ⟨.struct [(T_int, 0), (T_int, 1), (T_int, 2), (T_int, 3)], 4, 32, some (.agg [.int .i64 0, .int .i64 0, .int .i64 0, .int .i64 0])⟩ :=
  ⟨fun h => by rw [h]; rfl, fun h => by rw [h]; rfl, fun h => by rw [h]; rfl, fun h => by rw [h]; rfl⟩
theorem Ports.at {x : SV} {l : List Port} (h : Ports x l) {j : Nat} (hj : j < l.length) : indexAddrS ES.P T_sl_api_Port x (.int .i64 j) = some (.rptr (l.map encPort) j 0 (stOf x)) := RSl.at h ti_sl_api_Port ti_api_Port (fun _ => rfl) hj
@[simp] theorem ixa2_0 (id i o : Nat) : indexAddrS ES.P T_a2_int (.ptr id i o) (.int .i64 0) = some (.ptr id i o) := by simp [indexAddrS, natS]
@[simp] theorem ixa2_1 (id i o : Nat) : indexAddrS ES.P T_a2_int (.ptr id i o) (.int .i64 1) = some (.ptr id i (o + 1)) := by simp [indexAddrS, natS]
@[simp] theorem ixr2_0 (l : List SV) (i o : Nat) (s : Bool) : indexAddrS ES.P T_a2_int (.rptr l i o s) (.int .i64 0) = some (.rptr l i o s) := by simp [indexAddrS, natS]
@[simp] theorem ixr2_1 (l : List SV) (i o : Nat) (s : Bool) : indexAddrS ES.P T_a2_int (.rptr l i o s) (.int .i64 1) = some (.rptr l i (o + 1) s) := by simp [indexAddrS, natS]
@[simp] theorem ix2_0 (x y : SV) : indexS ES.P T_a2_int (.agg [x, y]) (.int .i64 0) = some x := by simp [indexS, natS, partS, TK.agg]
@[simp] theorem ix2_1 (x y : SV) : indexS ES.P T_a2_int (.agg [x, y]) (.int .i64 1) = some y := by simp [indexS, natS, partS, TK.agg]

end Go.Proofs.YtbdliphlolajaaaDoor

/-
  Walks of the seat's functions: Pl.
-/
set_option linter.unusedVariables false
set_option linter.unusedSimpArgs false
set_option maxRecDepth 100000
namespace Go.Proofs.YtbdliphlolajaaaDoor
open Go.Proofs.YtbdliphlolajaaaDoor.Sh
/-! plan, up to its links. -/
def inMany (n many : Int) : Prop := 0 ≤ n ∧ n < many
instance (n m : Int) : Decidable (inMany n m) := inferInstanceAs (Decidable (_ ∧ _))
def linkTaken (l : Link) (part node : Int) : Bool := decide (l.a = part ∧ (l.pa0 = node ∨ l.pa1 = node)) || decide (l.b = part ∧ (l.pb0 = node ∨ l.pb1 = node))
def takenL (ls : List Link) (part node : Int) : Bool := ls.any fun l => linkTaken l part node
def nodesAt (c : Cfg) (part : Int) : Int := (c.parts[part.toNat]?.map Part.nodes).getD 0
def portBad (c : Cfg) (i : Nat) (part n : Int) : Bool := !decide (inMany n (nodesAt c part)) || takenL (c.links.take i) part n
def endBad (c : Cfg) (i : Nat) (part p0 p1 : Int) : Bool := decide (p0 = p1) || portBad c i part p0 || portBad c i part p1
def badEnds (c : Cfg) (l : Link) : Bool := !decide (inMany l.a c.parts.length) || !decide (inMany l.b c.parts.length) || decide (l.b ≤ l.a)
def twice (ls : List Link) (l : Link) : Bool := ls.any fun x => decide (x.a = l.a ∧ x.b = l.b)
/-- What is wrong with a link; 0: nothing. -/
def linkErr (c : Cfg) (i : Nat) (l : Link) : Int :=
  if badEnds c l then 10 else if twice (c.links.take i) l then 11 else if endBad c i l.a l.pa0 l.pa1 || endBad c i l.b l.pb0 l.pb1 then 12 else 0
def partBad (p : Part) : Bool := decide (p.nodes < 1 ∨ 12 < p.nodes ∨ p.faults < 0 ∨ 3 < p.faults ∨ p.nodes < 3 * p.faults + 1)
/-- What is wrong first with parts, or with links; and of which. -/
def partsErr (c : Cfg) : Option (Int × Int) :=
  if c.parts.length < 1 ∨ 6 < c.parts.length then some (7, 0)
  else match (List.range c.parts.length).find? (fun j => (c.parts[j]?.map partBad).getD false) with
    | some i => some (8, (i : Int))
    | none => none
def linksErr (c : Cfg) : Option (Int × Int) :=
  if 10 < c.links.length then some (9, 0)
  else match (List.range c.links.length).find? (fun j => (c.links[j]?.map fun l => linkErr c j l != 0).getD false) with
    | some i => some ((c.links[i]?.map fun l => linkErr c i l).getD 0, (i : Int))
    | none => none
/-- An error of plan's make. -/
def errSV (e at' : Int) : SV := .iface T_p_plan_fault (.rptr [.agg [.int .i64 at', .iface T_plan_code (.int .i64 e)]] 0 0 true)
def errO : Option (Int × Int) → SV
  | some (e, i) => errSV e i
  | none => .nili
theorem errO_pv (o : Option (Int × Int)) : pv (errO o) = true := by cases o <;> rfl
@[simp] theorem plan_index_c (get) (n m : Int) : callP (PCw ES) get n_plan_index [.int .i64 n, .int .i64 m] = some (.bool (decide (inMany n m))) := by
  refine callP_of (PCw_ex (fun M => ?_) rfl) rfl
  rw [b_plan_index]
  by_cases h : 0 ≤ n <;> simp [c_plan_index, evW_reg, evW_chkr, isCst, loadS, partS, TK.agg, fieldAddrS, zeroS, storeS, setPart, splice, endS, resS, fieldS, inMany, h]
theorem plan_wrong_ok (e i : Int) : PCw ES n_plan_wrong [.int .i64 e, .int .i64 i] = some (errSV e i) := by
  have h : ICw ES n_plan_wrong [.int .i64 e, .int .i64 i] .empty = some (.iface T_p_plan_fault (.ptr 4 0 0), (Mem.bump .empty 7).set 4 (some [.agg [.int .i64 i, .iface T_plan_code (.int .i64 e)]])) := by
    rw [b_plan_wrong]
    simp [c_plan_wrong, evW_reg, evW_chkr, isCst, loadS, partS, TK.agg, fieldAddrS, zeroS, storeS, setPart, splice, endS, resS, fieldS, makeIS, bldS, placesOf, buildS]
  exact PCw_pic h (by rfl) rfl
@[simp] theorem plan_wrong_c (get) (e i : Int) : callP (PCw ES) get n_plan_wrong [.int .i64 e, .int .i64 i] = some (errSV e i) := callP_of (plan_wrong_ok e i) rfl
/-- A side of a link: its part, its ports. -/
def endOf (l : Link) (side : Int) : Int × Int × Int := if side = 0 then (l.a, l.pa0, l.pa1) else (l.b, l.pb0, l.pb1)
theorem plan_end_ok (l : Link) (s : Int) : PCw ES n_plan_end [encLink l, .int .i64 s] = some (.tup [.int .i64 (endOf l s).1, .agg [.int .i64 (endOf l s).2.1, .int .i64 (endOf l s).2.2]]) := by
  refine PCw_ex (fun M => ?_) rfl
  rw [b_plan_end]
  by_cases h : s = 0 <;> simp [c_plan_end, evW_reg, evW_chkr, isCst, loadS, partS, TK.agg, fieldAddrS, zeroS, storeS, setPart, splice, endS, resS, fieldS, endOf, h]
theorem plan_end_c (get) (l : Link) (s : Int) : callP (PCw ES) get n_plan_end [encLink l, .int .i64 s] = some (.tup [.int .i64 (endOf l s).1, .agg [.int .i64 (endOf l s).2.1, .int .i64 (endOf l s).2.2]]) :=
  callP_of (plan_end_ok l s) (by simp [encLink_np])
theorem plan_taken_1_ok (l : Link) (part node : Int) (s1 s2 : Bool) : PCw ES n_plan_taken_1 [encLink l, .rptr [.int .i64 part] 0 0 s1, .rptr [.int .i64 node] 0 0 s2] = some (.bool (linkTaken l part node)) := by
  refine PCw_ex (fun M => ?_) rfl
  rw [b_plan_taken_1]
  have hl := fun p M0 hI => loop_find (E := ES) (me := n_plan_taken_1) (B := c_plan_taken_1_B0) (len := 2) (T := fun j => h_plan_taken_1_0 (.rptr [.int .i64 part] 0 0 s1) (.rptr [.int .i64 node] 0 0 s2) (.ptr p 0 0) (.int .i64 j))
    (I := fun _ M => M.blk p = some [encLink l] ∧ p < M.next) (p := fun j => decide ((endOf l j).1 = part ∧ ((endOf l j).2.1 = node ∨ (endOf l j).2.2 = node)))
    (Q := fun o r => ∃ M', r = match o with
      | some j => (.ret, ⟨(h_plan_taken_1_0 .bad .bad .bad .bad).set 4 (.bool true), M'⟩)
      | none => (.exit 0, ⟨(h_plan_taken_1_0 (.rptr [.int .i64 part] 0 0 s1) (.rptr [.int .i64 node] 0 0 s2) (.ptr p 0 0) (.int .i64 2)).set 9 (.bool false), M'⟩))
    (fun j M hj ⟨hb, hlt⟩ hpj => by
      have hw : IntKind.i64.wrap ((j : Int) + 1) = (j : Int) + 1 := i64_in (by omega) (by omega)
      have hne : ∀ k, (p = M.next + k) = False := fun k => by simp; omega
      have hj' : (j : Int) < 2 := by omega
      have hc := fun get => plan_end_c get l j
      generalize endOf l j = e at hpj hc
      obtain ⟨e1, e2, e3⟩ := e
      simp at hpj
      by_cases h1 : e1 = part
      · obtain ⟨h2, h3⟩ := hpj h1
        simp [c_plan_taken_1_B0, evW_reg, evW_chkr, isCst, loadS, partS, TK.agg, fieldAddrS, zeroS, storeS, setPart, splice, endS, resS, fieldS, h_plan_taken_1_0, hj, hj', hb, hc, hw, hne, h1, h2, h3]
        omega
      · simp [c_plan_taken_1_B0, evW_reg, evW_chkr, isCst, loadS, partS, TK.agg, fieldAddrS, zeroS, storeS, setPart, splice, endS, resS, fieldS, h_plan_taken_1_0, hj, hj', hb, hc, hw, hne, h1]
        omega)
    (fun j M hj ⟨hb, hlt⟩ hpj => by
      have hne : ∀ k, (p = M.next + k) = False := fun k => by simp; omega
      have hj' : (j : Int) < 2 := by omega
      have hc := fun get => plan_end_c get l j
      generalize endOf l j = e at hpj hc
      obtain ⟨e1, e2, e3⟩ := e
      simp at hpj
      obtain ⟨h1, h2⟩ := hpj
      by_cases h3 : e2 = node
      · simp [c_plan_taken_1_B0, evW_reg, evW_chkr, isCst, loadS, partS, TK.agg, fieldAddrS, zeroS, storeS, setPart, splice, endS, resS, fieldS, h_plan_taken_1_0, hj, hj', hb, hc, hne, h1, h3]
      · have h4 : e3 = node := by rcases h2 with h | h <;> first | exact absurd h h3 | exact h
        simp [c_plan_taken_1_B0, evW_reg, evW_chkr, isCst, loadS, partS, TK.agg, fieldAddrS, zeroS, storeS, setPart, splice, endS, resS, fieldS, h_plan_taken_1_0, hj, hj', hb, hc, hne, h1, h3, h4])
    (fun M _ => by simp [c_plan_taken_1_B0, evW_reg, evW_chkr, isCst, loadS, partS, TK.agg, fieldAddrS, zeroS, storeS, setPart, splice, endS, resS, fieldS, h_plan_taken_1_0]) M0 hI
  obtain ⟨r, h1, M', h2⟩ := hl M.next ((M.bump 2).set M.next (some [encLink l])) (by simp)
  have e : linkTaken l part node = ((List.range 2).find? (fun j : Nat => decide ((endOf l j).1 = part ∧ ((endOf l j).2.1 = node ∨ (endOf l j).2.2 = node)))).isSome := by
    simp [linkTaken, endOf, List.range, List.range.loop, List.find?]
    split <;> simp_all
    split <;> simp_all
  rw [e]
  cases hf : (List.range 2).find? (fun j : Nat => decide ((endOf l j).1 = part ∧ ((endOf l j).2.1 = node ∨ (endOf l j).2.2 = node))) with
  | none =>
    rw [hf] at h2
    subst h2
    simp [h_plan_taken_1_0] at h1
    simp [c_plan_taken_1, evW_reg, evW_chkr, isCst, loadS, partS, TK.agg, fieldAddrS, zeroS, storeS, setPart, splice, endS, resS, fieldS, c_plan_taken_1_L0, h1]
  | some j =>
    rw [hf] at h2
    subst h2
    simp [h_plan_taken_1_0] at h1
    simp [c_plan_taken_1, evW_reg, evW_chkr, isCst, loadS, partS, TK.agg, fieldAddrS, zeroS, storeS, setPart, splice, endS, resS, fieldS, c_plan_taken_1_L0, h1]
theorem plan_taken_ok {x : SV} {ls : List Link} (hx : Links x ls) (hb : ls.length < 4611686018427387904) (part node : Int) : PCw ES n_plan_taken [x, .int .i64 part, .int .i64 node] = some (.bool (takenL ls part node)) := by
  refine PCw_ex (fun M => ?_) rfl
  rw [b_plan_taken]
  have hc : ∀ (get : Nat → Option (List SV)) a b, get a = some [.int .i64 part] → get b = some [.int .i64 node] →
      callP (PCw ES) get n_slices_ContainsFunc_sl_api_Link_api_Link [x, .fn n_plan_taken_1 [] [.ptr a 0 0, .ptr b 0 0]] = some (.bool (takenL ls part node)) := by
    intro get a b ha hb'
    have p1 : pic get false 11 (.ptr a 0 0) = some (.rptr [.int .i64 part] 0 0 false) := pic_ptr ha (by simp; rfl)
    have p2 : pic get false 11 (.ptr b 0 0) = some (.rptr [.int .i64 node] 0 0 false) := pic_ptr hb' (by simp; rfl)
    rw [callP_pic (ys := [x, .fn n_plan_taken_1 [] [.rptr [.int .i64 part] 0 0 false, .rptr [.int .i64 node] 0 0 false]])]
    · exact slices_ContainsFunc_sl_api_Link_api_Link_ok elmLink ti_api_Link hx hb (npF (by rfl)) (fun l => linkTaken l part node) (fun get y v hy _ => by
        subst hy
        exact callP_of (plan_taken_1_ok v part node false false) (by simp [encLink_np])) rfl
    · have q : pic get false picDepth (.fn n_plan_taken_1 [] [.ptr a 0 0, .ptr b 0 0]) = some (.fn n_plan_taken_1 [] [.rptr [.int .i64 part] 0 0 false, .rptr [.int .i64 node] 0 0 false]) := pic_fn (by simp [p1, p2]) rfl
      simp [pic_np hx.np12, q]
  simp [c_plan_taken, evW_reg, evW_chkr, isCst, loadS, partS, TK.agg, fieldAddrS, zeroS, storeS, setPart, splice, endS, resS, fieldS, hc]
theorem plan_taken_c (get) {x : SV} {ls : List Link} (hx : Links x ls) (hb : ls.length < 4611686018427387904) (part node : Int) : callP (PCw ES) get n_plan_taken [x, .int .i64 part, .int .i64 node] = some (.bool (takenL ls part node)) :=
  callP_of (plan_taken_ok hx hb part node) (by simp [hx.np12])
theorem plan_links_1_ok (x l : Link) (s : Bool) : PCw ES n_plan_links_1 [encLink x, .rptr [encLink l] 0 0 s] = some (.bool (decide (x.a = l.a ∧ x.b = l.b))) := by
  refine PCw_ex (fun M => ?_) rfl
  rw [b_plan_links_1]
  by_cases h : x.a = l.a <;> simp [c_plan_links_1, evW_reg, evW_chkr, isCst, loadS, partS, TK.agg, fieldAddrS, zeroS, storeS, setPart, splice, endS, resS, fieldS, h]

end Go.Proofs.YtbdliphlolajaaaDoor

/-
  Walks of the seat's functions: Pm.
-/
set_option linter.unusedVariables false
set_option linter.unusedSimpArgs false
set_option maxRecDepth 100000
namespace Go.Proofs.YtbdliphlolajaaaDoor
open Go.Proofs.YtbdliphlolajaaaDoor.Sh
/-! plan.ports, plan.parts, plan.links. -/
theorem Parts.atI {x : SV} {l : List Part} (h : Parts x l) {i : Int} (h0 : 0 ≤ i) (hj : i.toNat < l.length) : indexAddrS ES.P T_sl_api_Part x (.int .i64 i) = some (.rptr (l.map encPart) i.toNat 0 (stOf x)) := by
  have := h.at hj
  rwa [Int.toNat_of_nonneg h0] at this
theorem Links.atI {x : SV} {l : List Link} (h : Links x l) {i : Int} (h0 : 0 ≤ i) (hj : i.toNat < l.length) : indexAddrS ES.P T_sl_api_Link x (.int .i64 i) = some (.rptr (l.map encLink) i.toNat 0 (stOf x)) := by
  have := h.at hj
  rwa [Int.toNat_of_nonneg h0] at this
theorem badEnds_ok {c : Cfg} {l : Link} (h : badEnds c l = false) : inMany l.a c.parts.length ∧ inMany l.b c.parts.length ∧ l.a < l.b := by
  unfold badEnds at h
  simp at h
  exact ⟨h.1.1, h.1.2, h.2⟩
theorem nodesAt_eq {c : Cfg} {part : Int} (hp : part.toNat < c.parts.length) : nodesAt c part = c.parts[part.toNat].nodes := by simp [nodesAt, hp]
set_option maxHeartbeats 4000000 in
theorem ports_in {c : Cfg} {P L : SV} (hc : CfgP c P L) {i : Nat} (hi : i < c.links.length) {part : Int} (hp0 : 0 ≤ part) (hp : part.toNat < c.parts.length) (p0 p1 jj : Int) {p : Nat} (M : Mem) (hb : M.blk p = some [.agg (cfgC c P L)]) :
    ∃ M', M'.blk p = some [.agg (cfgC c P L)] ∧ M.next ≤ M'.next ∧ evW ES n_plan_ports c_plan_ports_L0 ⟨h_plan_ports_0 (.int .i64 i) (.ptr p 0 0) (.int .i64 part) (.int .i64 jj) (.agg [.int .i64 p0, .int .i64 p1]) (.int .i64 0), M⟩ =
      some (if portBad c i part p0 || portBad c i part p1 then (.ret, ⟨(h_plan_ports_0 .bad .bad .bad .bad .bad .bad).set 4 (.bool false), M'⟩)
        else (.exit 2, ⟨(h_plan_ports_0 (.int .i64 i) (.ptr p 0 0) (.int .i64 part) (.int .i64 jj) (.agg [.int .i64 p0, .int .i64 p1]) (.int .i64 2)).set 30 (.bool false), M'⟩)) := by
  obtain ⟨y, hs, hy⟩ := RSl.pre hc.l ti_sl_api_Link ti_api_Link elmLink (n := i) (by omega)
  have hix := hc.p.atI hp0 hp
  have hn := nodesAt_eq hp
  have htk := fun get node => plan_taken_c get hy (by have := hc.ll; simp; omega) part node
  have step : ∀ (k : Nat) (n : Int), k < 2 → (SV.agg [.int .i64 p0, .int .i64 p1], k, n) ∈ [(SV.agg [.int .i64 p0, .int .i64 p1], 0, p0), (SV.agg [.int .i64 p0, .int .i64 p1], 1, p1)] →
      evW ES n_plan_ports c_plan_ports_B0 ⟨h_plan_ports_0 (.int .i64 i) (.ptr p 0 0) (.int .i64 part) (.int .i64 jj) (.agg [.int .i64 p0, .int .i64 p1]) (.int .i64 k), M⟩ =
        some (if portBad c i part n then (.ret, ⟨(h_plan_ports_0 .bad .bad .bad .bad .bad .bad).set 4 (.bool false), M⟩)
          else (.normal, ⟨h_plan_ports_0 (.int .i64 i) (.ptr p 0 0) (.int .i64 part) (.int .i64 jj) (.agg [.int .i64 p0, .int .i64 p1]) (.int .i64 (k + 1)), M⟩)) := by
    intro k n hk hm
    have hk' : (k : Int) < 2 := by omega
    have hw : IntKind.i64.wrap ((k : Int) + 1) = (k : Int) + 1 := i64_in (by omega) (by omega)
    have hel : indexS ES.P T_a2_int (.agg [.int .i64 p0, .int .i64 p1]) (.int .i64 k) = some (.int .i64 n) := by
      simp at hm
      rcases hm with ⟨rfl, rfl⟩ | ⟨rfl, rfl⟩
      · exact ix2_0 _ _
      · exact ix2_1 _ _
    cases h1 : decide (inMany n c.parts[part.toNat].nodes) with
    | false =>
      have hbad : portBad c i part n = true := by simp [portBad, hn, h1]
      simp [c_plan_ports_B0, evW_reg, evW_chkr, isCst, loadS, partS, TK.agg, fieldAddrS, zeroS, storeS, setPart, splice, endS, resS, fieldS, h_plan_ports_0, hk, hk', hel, hb, cfgC, hix, hp, h1, hbad]
    | true =>
      have hbad : portBad c i part n = takenL (c.links.take i) part n := by simp [portBad, hn, h1]
      cases h2 : takenL (c.links.take i) part n
      · simp [c_plan_ports_B0, evW_reg, evW_chkr, isCst, loadS, partS, TK.agg, fieldAddrS, zeroS, storeS, setPart, splice, endS, resS, fieldS, h_plan_ports_0, hk, hk', hel, hb, cfgC, hix, hp, h1, hbad, hs, htk, h2, hw]
      · simp [c_plan_ports_B0, evW_reg, evW_chkr, isCst, loadS, partS, TK.agg, fieldAddrS, zeroS, storeS, setPart, splice, endS, resS, fieldS, h_plan_ports_0, hk, hk', hel, hb, cfgC, hix, hp, h1, hbad, hs, htk, h2, hw]
  refine ⟨M, hb, Nat.le_refl _, ?_⟩
  have s0 := step 0 p0 (by omega) (by simp)
  have s1 := step 1 p1 (by omega) (by simp)
  unfold c_plan_ports_L0
  rw [evW_loop, show ((0 : Int)) = ((0 : Nat) : Int) from rfl, s0]
  cases h0 : portBad c i part p0
  · simp only [Bool.false_eq_true, if_false, Bool.false_or]
    rw [evW_loop, show (((0 : Nat) : Int) + 1) = ((1 : Nat) : Int) from rfl, s1]
    cases h1 : portBad c i part p1
    · simp only [Bool.false_eq_true, if_false]
      rw [evW_loop]
      simp [c_plan_ports_B0, evW_reg, evW_chkr, isCst, loadS, partS, TK.agg, fieldAddrS, zeroS, storeS, setPart, splice, endS, resS, fieldS, h_plan_ports_0]
    · simp only [if_true]
  · simp
set_option maxHeartbeats 4000000 in
theorem plan_ports_ok {y : SV} {c : Cfg} (hc : CfgR y c) {i : Nat} (hi : i < c.links.length) (hv : badEnds c c.links[i] = false) :
    PCw ES n_plan_ports [y, .int .i64 i] = some (.bool (!(endBad c i c.links[i].a c.links[i].pa0 c.links[i].pa1 || endBad c i c.links[i].b c.links[i].pb0 c.links[i].pb1))) := by
  obtain ⟨P, L, rfl, hP⟩ := hc
  refine PCw_ex (fun M0 => ?_) rfl
  rw [b_plan_ports]
  have hall : ∀ s : Nat, s < 2 → 0 ≤ (endOf c.links[i] s).1 ∧ (endOf c.links[i] s).1.toNat < c.parts.length := by
    intro s hs
    obtain ⟨v1, v2, v3⟩ := badEnds_ok hv
    unfold inMany at v1 v2
    unfold endOf
    split <;> simp only <;> omega
  have hlx := Links.at hP.l hi
  have step : ∀ (s : Nat) (p : Nat) (M : Mem), s < 2 → M.blk p = some [.agg (cfgC c P L)] → p < M.next → ∃ M', M'.blk p = some [.agg (cfgC c P L)] ∧ p < M'.next ∧
      evW ES n_plan_ports c_plan_ports_B1 ⟨h_plan_ports_1 (.int .i64 i) (.ptr p 0 0) (.int .i64 s), M⟩ =
        some (if endBad c i (endOf c.links[i] s).1 (endOf c.links[i] s).2.1 (endOf c.links[i] s).2.2 then (.ret, ⟨(h_plan_ports_1 .bad .bad .bad).set 4 (.bool false), M'⟩)
          else (.normal, ⟨h_plan_ports_1 (.int .i64 i) (.ptr p 0 0) (.int .i64 (s + 1)), M'⟩)) := by
    intro s p M hs hb hlt
    have hs' : (s : Int) < 2 := by omega
    have hw : IntKind.i64.wrap ((s : Int) + 1) = (s : Int) + 1 := i64_in (by omega) (by omega)
    have hne : ∀ k, (p = M.next + k) = False := fun k => by simp; omega
    have hend := fun get => plan_end_c get c.links[i] s
    obtain ⟨q0, q1⟩ := hall s hs
    generalize endOf c.links[i] s = e at hend q0 q1
    obtain ⟨part, p0, p1⟩ := e
    simp only at hend q0 q1 ⊢
    have hb0 := hb
    simp only [cfgC] at hb0
    by_cases h1 : p0 = p1
    · have hbad : endBad c i part p0 p1 = true := by simp [endBad, h1]
      rw [hbad]
      simp [c_plan_ports_B1, evW_reg, evW_chkr, isCst, loadS, partS, TK.agg, fieldAddrS, zeroS, storeS, setPart, splice, endS, resS, fieldS, h_plan_ports_1, hs, hs', hb0, hlx, hi, hend, hne, h1]
      exact ⟨rfl, by omega⟩
    · have hbad : endBad c i part p0 p1 = (portBad c i part p0 || portBad c i part p1) := by simp [endBad, h1]
      have hin := fun M1 hb1 => ports_in hP hi q0 q1 p0 p1 s (p := p) M1 hb1
      obtain ⟨M', g1, g2, g3⟩ := hin (((M.bump 13).set (M.next + 10) (some [.agg [.int .i64 0, .int .i64 0]])).set (M.next + 10) (some [.agg [.int .i64 p0, .int .i64 p1]])) (by simp [hne]; exact hb)
      rw [hbad]
      refine ⟨M', g1, by simp at g2; omega, ?_⟩
      cases hA : portBad c i part p0 <;> cases hB : portBad c i part p1 <;> simp [h_plan_ports_0, hA, hB] at g3 <;> simp [c_plan_ports_B1, evW_reg, evW_chkr, isCst, loadS, partS, TK.agg, fieldAddrS, zeroS, storeS, setPart, splice, endS, resS, fieldS, h_plan_ports_1, hs, hs', hb0, hlx, hi, hend, hne, h1, g3, hw]
  obtain ⟨M1, a1, a2, a3⟩ := step 0 M0.next ((M0.bump 2).set M0.next (some [.agg (cfgC c P L)])) (by omega) (by simp) (by simp)
  obtain ⟨M2, b1, b2, b3⟩ := step 1 M0.next M1 (by omega) a1 a2
  have e0 : endOf c.links[i] ((0 : Nat) : Int) = (c.links[i].a, c.links[i].pa0, c.links[i].pa1) := rfl
  have e1 : endOf c.links[i] ((1 : Nat) : Int) = (c.links[i].b, c.links[i].pb0, c.links[i].pb1) := rfl
  rw [e0] at a3
  rw [e1] at b3
  have fin : ∃ M', evW ES n_plan_ports c_plan_ports_L1 ⟨h_plan_ports_1 (.int .i64 i) (.ptr M0.next 0 0) (.int .i64 0), (M0.bump 2).set M0.next (some [.agg (cfgC c P L)])⟩ =
      some (if endBad c i c.links[i].a c.links[i].pa0 c.links[i].pa1 || endBad c i c.links[i].b c.links[i].pb0 c.links[i].pb1 then (.ret, ⟨(h_plan_ports_1 .bad .bad .bad).set 4 (.bool false), M'⟩)
        else (.exit 0, ⟨(h_plan_ports_1 (.int .i64 i) (.ptr M0.next 0 0) (.int .i64 2)).set 11 (.bool false), M'⟩)) := by
    unfold c_plan_ports_L1
    rw [evW_loop, show ((0 : Int)) = ((0 : Nat) : Int) from rfl, a3]
    cases hA : endBad c i c.links[i].a c.links[i].pa0 c.links[i].pa1
    · simp only [Bool.false_eq_true, if_false, Bool.false_or]
      rw [evW_loop, show (((0 : Nat) : Int) + 1) = ((1 : Nat) : Int) from rfl, b3]
      cases hB : endBad c i c.links[i].b c.links[i].pb0 c.links[i].pb1
      · simp only [Bool.false_eq_true, if_false]
        rw [evW_loop]
        simp [c_plan_ports_B1, evW_reg, evW_chkr, isCst, loadS, partS, TK.agg, fieldAddrS, zeroS, storeS, setPart, splice, endS, resS, fieldS, h_plan_ports_1]
      · simp
    · simp
  obtain ⟨M', hM'⟩ := fin
  cases hA : endBad c i c.links[i].a c.links[i].pa0 c.links[i].pa1 <;> cases hB : endBad c i c.links[i].b c.links[i].pb0 c.links[i].pb1 <;> simp [h_plan_ports_1, hA, hB, cfgC] at hM' <;> simp [c_plan_ports, evW_reg, evW_chkr, isCst, loadS, partS, TK.agg, fieldAddrS, zeroS, storeS, setPart, splice, endS, resS, fieldS, cfgC, hM']
theorem plan_ports_c (get) {y : SV} {c : Cfg} (hc : CfgR y c) {i : Nat} (hi : i < c.links.length) (hv : badEnds c c.links[i] = false) :
    callP (PCw ES) get n_plan_ports [y, .int .i64 i] = some (.bool (!(endBad c i c.links[i].a c.links[i].pa0 c.links[i].pa1 || endBad c i c.links[i].b c.links[i].pb0 c.links[i].pb1))) :=
  callP_of (plan_ports_ok hc hi hv) (by simp [hc.np12])

end Go.Proofs.YtbdliphlolajaaaDoor

/-
  Walks of the seat's functions: Is.
-/
set_option linter.unusedVariables false
set_option linter.unusedSimpArgs false
set_option maxRecDepth 100000
namespace Go.Proofs.YtbdliphlolajaaaDoor
open Go.Proofs.YtbdliphlolajaaaDoor.Sh
/-! slices.SortFunc of few ports: by their nodes. -/
theorem plan_Ends_1_ok (a b : Port) (h : -1000 ≤ a.node ∧ a.node ≤ 1000 ∧ -1000 ≤ b.node ∧ b.node ≤ 1000) : PCw ES n_plan_Ends_1 [encPort a, encPort b] = some (.int .i64 (a.node - b.node)) := by
  refine PCw_ex (fun M => ?_) rfl
  rw [b_plan_Ends_1]
  have hw : IntKind.i64.wrap (a.node - b.node) = a.node - b.node := i64_in (by omega) (by omega)
  simp [c_plan_Ends_1, evW_reg, evW_chkr, isCst, loadS, partS, TK.agg, fieldAddrS, zeroS, storeS, setPart, splice, endS, resS, fieldS, hw]
theorem plan_Ends_1_c (get) (a b : Port) (h : -1000 ≤ a.node ∧ a.node ≤ 1000 ∧ -1000 ≤ b.node ∧ b.node ≤ 1000) : callP (PCw ES) get n_plan_Ends_1 [encPort a, encPort b] = some (.int .i64 (a.node - b.node)) :=
  callP_of (plan_Ends_1_ok a b h) (by simp [encPort_np])
def smallP (l : List Port) : Prop := ∀ p ∈ l, 0 ≤ p.node ∧ p.node ≤ 1000
def sortedP (l : List Port) : Prop := l.Pairwise fun x y => x.node ≤ y.node
def portSV (l : List Port) : List SV := l.map encPort
theorem portSV_at (l : List Port) (j : Nat) : (portSV l)[j]? = l[j]?.map encPort := by simp [portSV]
theorem own4_ix {q len j : Nat} (h : j < len) : indexAddrS ES.P T_sl_api_Port (.own q 4 0 len) (.int .i64 j) = some (.ptr q j 0) := by simp [indexAddrS, natS, h]
theorem set_tw (M : Mem) (a : Nat) (x y : Option (List SV)) : (M.set a x).set a y = M.set a y := by
  simp only [Mem.set, Mem.mk.injEq, true_and, and_true]
  funext j
  by_cases h : j = a <;> simp [h]
theorem insStop {E : Env} {me : Nat} {B : C} {s s' : St} {e : Ex} (h : evW E me B s = some (e, s')) (he : e ≠ .normal) : evW E me (.loop B) s = some (e, s') := by
  rw [evW_loop, h]
  cases e <;> first | rfl | exact absurd rfl he
set_option maxHeartbeats 4000000 in
theorem ins_in {q len b i : Nat} : ∀ (j : Nat) (p1 p2 post : List Port) (x : Port) (M : Mem), p1.length = j → (p1 ++ x :: (p2 ++ post)).length = len → len ≤ 100 → M.blk q = some (portSV (p1 ++ x :: (p2 ++ post))) → q < M.next →
    sortedP (p1 ++ p2) → (∀ y ∈ p2, x.node ≤ y.node) → smallP (p1 ++ x :: (p2 ++ post)) →
    ∃ M' r1 j', evW ES n_slices_insertionSortCmpFunc_api_Port c_slices_insertionSortCmpFunc_api_Port_L0 ⟨h_slices_insertionSortCmpFunc_api_Port_0 (.own q 4 0 len) (.int .i64 0) (.int .i64 b) (.fn n_plan_Ends_1 [] []) (.int .i64 i) (.int .i64 j), M⟩ =
      some (.exit 2, ⟨(h_slices_insertionSortCmpFunc_api_Port_0 (.own q 4 0 len) (.int .i64 0) (.int .i64 b) (.fn n_plan_Ends_1 [] []) (.int .i64 i) j').set 34 (.bool false), M'⟩) ∧
      M'.blk q = some (portSV (r1 ++ post)) ∧ r1.Perm (p1 ++ x :: p2) ∧ sortedP r1 ∧ M.next ≤ M'.next := by
  intro j
  induction j with
  | zero =>
    intro p1 p2 post x M h1 h2 h3 hq hlt hs hx hsm
    obtain rfl : p1 = [] := List.length_eq_zero_iff.1 h1
    refine ⟨M.bump 17, x :: p2, .int .i64 0, ?_, by simpa using hq, List.Perm.refl _, ?_, by simp⟩
    · exact insStop (by simp [c_slices_insertionSortCmpFunc_api_Port_B0, evW_reg, evW_chkr, isCst, loadS, partS, TK.agg, fieldAddrS, zeroS, storeS, setPart, splice, endS, resS, fieldS, h_slices_insertionSortCmpFunc_api_Port_0]) (by simp)
    · exact List.pairwise_cons.2 ⟨hx, hs⟩
  | succ j ih =>
    intro p1 p2 post x M h1 h2 h3 hq hlt hs hx hsm
    obtain ⟨p, y, rfl⟩ : ∃ p y, p1 = p ++ [y] := ⟨p1.dropLast, p1.getLast (by intro h; subst h; simp at h1), (List.dropLast_concat_getLast _).symm⟩
    have hp : p.length = j := by simpa using h1
    have hjl : j + 1 < len := by simp at h2; omega
    have ix : indexAddrS ES.P T_sl_api_Port (.own q 4 0 len) (.int .i64 ((j : Int) + 1)) = some (.ptr q (j + 1) 0) := by
      have := own4_ix (q := q) (len := len) (j := j + 1) (by simp at h2; omega)
      simpa using this
    have iy := own4_ix (q := q) (len := len) (j := j) (by simp at h2; omega)
    have hcx : (portSV (p ++ [y] ++ x :: (p2 ++ post)))[j + 1]? = some (encPort x) := by rw [portSV_at]; simp [← hp]
    have hcy : (portSV (p ++ [y] ++ x :: (p2 ++ post)))[j]? = some (encPort y) := by rw [portSV_at]; simp [← hp]
    have sx := hsm x (by simp)
    have sy := hsm y (by simp)
    have hcmp := fun get => plan_Ends_1_c get x y ⟨by omega, by omega, by omega, by omega⟩
    have hw : IntKind.i64.wrap (j : Int) = j := i64_in (by omega) (by omega)
    have hwm : IntKind.i64.wrap ((j : Int) + 1 - 1) = j := by rw [i64_in (by omega) (by omega)]; omega
    have hl1 : j + 1 < (portSV (p ++ [y] ++ x :: (p2 ++ post))).length := by simp [portSV]; simp at h2; omega
    have hl0 : j < (portSV (p ++ [y] ++ x :: (p2 ++ post))).length := by omega
    have hex : (portSV (p ++ [y] ++ x :: (p2 ++ post)))[j + 1] = encPort x := by have := hcx; rw [List.getElem?_eq_getElem hl1] at this; simpa using this
    have hey : (portSV (p ++ [y] ++ x :: (p2 ++ post)))[j] = encPort y := by have := hcy; rw [List.getElem?_eq_getElem hl0] at this; simpa using this
    have hne : ∀ k, (q = M.next + k) = False := fun k => by simp; omega
    have hgt : (0 : Int) < (j : Int) + 1 := by omega
    have hnf := npF (f := n_plan_Ends_1) (by rfl) n_slices_insertionSortCmpFunc_api_Port
    by_cases hlt2 : x.node < y.node
    · have hlt3 : x.node - y.node < 0 := by omega
      have hsw : ((portSV (p ++ [y] ++ x :: (p2 ++ post))).set (j + 1) (encPort y)).set j (encPort x) = portSV (p ++ x :: ((y :: p2) ++ post)) := by
        simp only [portSV, List.map_append, List.map_cons, List.map_nil]
        subst hp
        simp [List.set_append]
      obtain ⟨M', r1, j', e1, e2, e3, e4, e5⟩ := ih p (y :: p2) post x ((M.bump 17).set q (some (portSV (p ++ x :: ((y :: p2) ++ post))))) hp (by simp at h2 ⊢; omega) h3 (by simp) (by simp; omega) (by simpa using hs)
        (fun z hz => by
          rcases List.mem_cons.1 hz with h | h
          · subst h; omega
          · exact hx z h) (fun z hz => hsm z (by simp at hz ⊢; grind))
      refine ⟨M', r1, j', ?_, e2, e3.trans (by simpa using (List.Perm.append_left p (List.Perm.swap y x p2))), e4, by simp at e5; omega⟩
      clear ih hs hsm
      generalize portSV (p ++ x :: ((y :: p2) ++ post)) = ls2 at *
      generalize portSV (p ++ [y] ++ x :: (p2 ++ post)) = ls at *
      have hB : evW ES n_slices_insertionSortCmpFunc_api_Port c_slices_insertionSortCmpFunc_api_Port_B0 ⟨h_slices_insertionSortCmpFunc_api_Port_0 (.own q 4 0 len) (.int .i64 0) (.int .i64 b) (.fn n_plan_Ends_1 [] []) (.int .i64 i) (.int .i64 ((j + 1 : Nat) : Int)), M⟩ =
          some (.normal, ⟨h_slices_insertionSortCmpFunc_api_Port_0 (.own q 4 0 len) (.int .i64 0) (.int .i64 b) (.fn n_plan_Ends_1 [] []) (.int .i64 i) (.int .i64 j), (M.bump 17).set q (some ls2)⟩) := by
        simp [c_slices_insertionSortCmpFunc_api_Port_B0, evW_reg, evW_chkr, isCst, loadS, partS, TK.agg, fieldAddrS, zeroS, storeS, setPart, splice, endS, resS, fieldS, h_slices_insertionSortCmpFunc_api_Port_0, hgt, ix, iy, hq, hlt, hne, hw, hwm, hcx, hcy, hl1, hl0, hex, hey, hcmp, hlt3, callT_fn hnf, hsw, set_tw]
      rw [← e1]
      unfold c_slices_insertionSortCmpFunc_api_Port_L0
      rw [evW_loop, hB]
    · have hlt3 : ¬ (x.node - y.node < 0) := by omega
      refine ⟨M.bump 17, p ++ [y] ++ x :: p2, .int .i64 ((j + 1 : Nat) : Int), ?_, by simpa using hq, List.Perm.refl _, ?_, by simp⟩
      · clear hsm hs ih
        generalize portSV (p ++ [y] ++ x :: (p2 ++ post)) = ls at *
        exact insStop (by simp [c_slices_insertionSortCmpFunc_api_Port_B0, evW_reg, evW_chkr, isCst, loadS, partS, TK.agg, fieldAddrS, zeroS, storeS, setPart, splice, endS, resS, fieldS, h_slices_insertionSortCmpFunc_api_Port_0, hgt, ix, iy, hq, hlt, hne, hw, hwm, hcx, hcy, hl1, hl0, hex, hey, hcmp, hlt3, callT_fn hnf]) (by simp)
      · unfold sortedP at hs ⊢
        rw [List.pairwise_append] at hs ⊢
        refine ⟨hs.1, List.pairwise_cons.2 ⟨hx, hs.2.1⟩, fun a ha b hb => ?_⟩
        rcases List.mem_cons.1 hb with rfl | hb
        · have h4 := hs.1
          rw [List.pairwise_append] at h4
          rcases List.mem_append.1 ha with h5 | h5
          · have := h4.2.2 a h5 y (by simp); omega
          · simp at h5; subst h5; omega
        · exact hs.2.2 a ha b hb
set_option maxHeartbeats 4000000 in
theorem ins_out {q len : Nat} (hl : len ≤ 100) {l : List Port} (hlen : l.length = len) (hsm : smallP l) (M : Mem) (hq : M.blk q = some (portSV l)) (hlt : q < M.next) :
    ∃ M' l', ICw ES n_slices_insertionSortCmpFunc_api_Port [.own q 4 0 len, .int .i64 0, .int .i64 len, .fn n_plan_Ends_1 [] []] M = some (.tup [], M') ∧
      M'.blk q = some (portSV l') ∧ l'.Perm l ∧ sortedP l' ∧ M.next ≤ M'.next := by
  rw [b_slices_insertionSortCmpFunc_api_Port]
  have step : ∀ (i : Nat) (l1 : List Port) (M1 : Mem), 1 ≤ i → i < len → l1.Perm l → sortedP (l1.take i) → M1.blk q = some (portSV l1) → q < M1.next →
      ∃ M' l2, evW ES n_slices_insertionSortCmpFunc_api_Port c_slices_insertionSortCmpFunc_api_Port_B1 ⟨h_slices_insertionSortCmpFunc_api_Port_1 (.own q 4 0 len) (.int .i64 0) (.int .i64 len) (.fn n_plan_Ends_1 [] []) (.int .i64 i), M1⟩ =
        some (.normal, ⟨h_slices_insertionSortCmpFunc_api_Port_1 (.own q 4 0 len) (.int .i64 0) (.int .i64 len) (.fn n_plan_Ends_1 [] []) (.int .i64 ((i + 1 : Nat) : Int)), M'⟩) ∧
        l2.Perm l ∧ sortedP (l2.take (i + 1)) ∧ M'.blk q = some (portSV l2) ∧ M1.next ≤ M'.next := by
    intro i l1 M1 h1 h2 hp hs hb hlt1
    have hl1 : l1.length = len := by rw [hp.length_eq]; exact hlen
    have hi : i < l1.length := by omega
    have hsplit : l1 = l1.take i ++ l1[i] :: ([] ++ l1.drop (i + 1)) := by simp
    obtain ⟨M', r1, j', e1, e2, e3, e4, e5⟩ := ins_in (q := q) (len := len) (b := len) (i := i) i (l1.take i) [] (l1.drop (i + 1)) l1[i] M1 (by simp; omega) (by rw [← hsplit]; exact hl1) hl (by rw [← hsplit]; exact hb) hlt1 (by simpa using hs) (by simp) (by rw [← hsplit]; exact fun p hp' => hsm p (hp.mem_iff.1 hp'))
    have hw : IntKind.i64.wrap ((i : Int) + 1) = (i : Int) + 1 := i64_in (by omega) (by omega)
    have hr : r1.length = i + 1 := by rw [e3.length_eq]; simp; omega
    refine ⟨M', r1 ++ l1.drop (i + 1), ?_, ?_, ?_, e2, e5⟩
    · simp [h_slices_insertionSortCmpFunc_api_Port_0] at e1
      simp [c_slices_insertionSortCmpFunc_api_Port_B1, evW_reg, evW_chkr, isCst, loadS, partS, TK.agg, fieldAddrS, zeroS, storeS, setPart, splice, endS, resS, fieldS, h_slices_insertionSortCmpFunc_api_Port_1, h2, e1, hw]
    · refine List.Perm.trans ?_ hp
      have := e3.append_right (l1.drop (i + 1))
      refine this.trans (List.Perm.of_eq ?_)
      simp
    · rw [List.take_append_of_le_length (by omega), List.take_of_length_le (by omega)]
      exact e4
  obtain ⟨r, g1, M', l', rfl, k1, k2, k3, k4⟩ := loop_up (E := ES) (me := n_slices_insertionSortCmpFunc_api_Port) (B := c_slices_insertionSortCmpFunc_api_Port_B1) (len := max 1 len)
    (T := fun i => h_slices_insertionSortCmpFunc_api_Port_1 (.own q 4 0 len) (.int .i64 0) (.int .i64 len) (.fn n_plan_Ends_1 [] []) (.int .i64 i))
    (I := fun i M1 => 1 ≤ i ∧ ∃ l1, l1.Perm l ∧ sortedP (l1.take i) ∧ M1.blk q = some (portSV l1) ∧ M.next ≤ M1.next)
    (Q := fun r => ∃ M' l', r = (.exit 0, ⟨(h_slices_insertionSortCmpFunc_api_Port_1 (.own q 4 0 len) (.int .i64 0) (.int .i64 len) (.fn n_plan_Ends_1 [] []) (.int .i64 ((max 1 len : Nat) : Int))).set 14 (.bool false), M'⟩) ∧ M'.blk q = some (portSV l') ∧ l'.Perm l ∧ sortedP l' ∧ M.next ≤ M'.next)
    (fun i M1 hi ⟨h1, l1, h2, h3, h4, h5⟩ => by
      left
      obtain ⟨M', l2, e1, e2, e3, e4, e5⟩ := step i l1 M1 h1 (by omega) h2 h3 h4 (by omega)
      exact ⟨M', e1, by omega, l2, e2, e3, e4, by omega⟩)
    (fun M1 ⟨h1, l1, h2, h3, h4, h5⟩ => by
      have hc : ¬ (((max 1 len : Nat) : Int) < (len : Int)) := by omega
      refine ⟨_, by simp [c_slices_insertionSortCmpFunc_api_Port_B1, evW_reg, evW_chkr, isCst, loadS, partS, TK.agg, fieldAddrS, zeroS, storeS, setPart, splice, endS, resS, fieldS, h_slices_insertionSortCmpFunc_api_Port_1, hc], by simp, M1, l1, rfl, h4, h2, ?_, h5⟩
      rwa [List.take_of_length_le (by rw [h2.length_eq]; omega)] at h3) 1 M (by omega) ⟨by omega, l, List.Perm.refl _, by
        cases l with
        | nil => simp [sortedP]
        | cons a t => simp [sortedP], hq, Nat.le_refl _⟩
  simp [h_slices_insertionSortCmpFunc_api_Port_1] at g1
  refine ⟨M', l', ?_, k1, k2, k3, k4⟩
  have h1w : IntKind.i64.wrap 1 = 1 := rfl
  simp [c_slices_insertionSortCmpFunc_api_Port, evW_reg, evW_chkr, isCst, loadS, partS, TK.agg, fieldAddrS, zeroS, storeS, setPart, splice, endS, resS, fieldS, c_slices_insertionSortCmpFunc_api_Port_L1, g1, h1w]
theorem bits_Len_few (n : Nat) (h : n ≤ 12) : ∃ v : Int, PCw ES n_math_bits_Len [.int .u64 n] = some (.int .i64 v) := by
  have : n = 0 ∨ n = 1 ∨ n = 2 ∨ n = 3 ∨ n = 4 ∨ n = 5 ∨ n = 6 ∨ n = 7 ∨ n = 8 ∨ n = 9 ∨ n = 10 ∨ n = 11 ∨ n = 12 := by omega
  rcases this with rfl | rfl | rfl | rfl | rfl | rfl | rfl | rfl | rfl | rfl | rfl | rfl | rfl
  · exact ⟨0, PCw_closed 60 (by kernel_rfl)⟩
  · exact ⟨1, PCw_closed 60 (by kernel_rfl)⟩
  · exact ⟨2, PCw_closed 60 (by kernel_rfl)⟩
  · exact ⟨2, PCw_closed 60 (by kernel_rfl)⟩
  · exact ⟨3, PCw_closed 60 (by kernel_rfl)⟩
  · exact ⟨3, PCw_closed 60 (by kernel_rfl)⟩
  · exact ⟨3, PCw_closed 60 (by kernel_rfl)⟩
  · exact ⟨3, PCw_closed 60 (by kernel_rfl)⟩
  · exact ⟨4, PCw_closed 60 (by kernel_rfl)⟩
  · exact ⟨4, PCw_closed 60 (by kernel_rfl)⟩
  · exact ⟨4, PCw_closed 60 (by kernel_rfl)⟩
  · exact ⟨4, PCw_closed 60 (by kernel_rfl)⟩
  · exact ⟨4, PCw_closed 60 (by kernel_rfl)⟩
set_option maxHeartbeats 4000000 in
theorem SortFunc_ok {q len : Nat} (hl : len ≤ 12) {l : List Port} (hlen : l.length = len) (hsm : smallP l) (M : Mem) (hq : M.blk q = some (portSV l)) (hlt : q < M.next) :
    ∃ M' l', ICw ES n_slices_SortFunc_sl_api_Port_api_Port [.own q 4 0 len, .fn n_plan_Ends_1 [] []] M = some (.tup [], M') ∧
      M'.blk q = some (portSV l') ∧ l'.Perm l ∧ sortedP l' ∧ M.next ≤ M'.next := by
  rw [b_slices_SortFunc_sl_api_Port_api_Port]
  obtain ⟨v, hv⟩ := bits_Len_few len hl
  have hvc := fun get => callP_of (get := get) hv rfl
  have hw : IntKind.u64.wrap (len : Int) = len := by rw [IntKind.wrap_u64]; omega
  have hw2 : IntKind.i64.wrap (len : Int) = len := i64_in (by omega) (by omega)
  have h12 : (len : Int) ≤ 12 := by omega
  obtain ⟨M', l', g1, g2, g3, g4, g5⟩ := ins_out (q := q) (len := len) (by omega) hlen hsm ((M.bump 7).bump 5) (by simpa using hq) (by simp; omega)
  have hp : ICw ES n_slices_pdqsortCmpFunc_api_Port [.own q 4 0 len, .int .i64 0, .int .i64 len, .int .i64 v, .fn n_plan_Ends_1 [] []] (M.bump 7) = some (.tup [], M') := by
    rw [b_slices_pdqsortCmpFunc_api_Port]
    simp [c_slices_pdqsortCmpFunc_api_Port, evW_reg, evW_chkr, isCst, loadS, partS, TK.agg, fieldAddrS, zeroS, storeS, setPart, splice, endS, resS, fieldS, c_slices_pdqsortCmpFunc_api_Port_L0, evW_loop, c_slices_pdqsortCmpFunc_api_Port_B0, h12, hw2, g1]
  refine ⟨M', l', ?_, g2, g3, g4, by simp at g5; omega⟩
  simp [c_slices_SortFunc_sl_api_Port_api_Port, evW_reg, evW_chkr, isCst, loadS, partS, TK.agg, fieldAddrS, zeroS, storeS, setPart, splice, endS, resS, fieldS, lenS, convS, hw, hvc, hp]
theorem SortFunc_nil (M : Mem) : ∃ M', ICw ES n_slices_SortFunc_sl_api_Port_api_Port [.nilsl, .fn n_plan_Ends_1 [] []] M = some (.tup [], M') ∧ M.next ≤ M'.next := by
  rw [b_slices_SortFunc_sl_api_Port_api_Port]
  obtain ⟨v, hv⟩ := bits_Len_few 0 (by omega)
  have hvc := fun get => callP_of (get := get) hv rfl
  have h1w : IntKind.i64.wrap 1 = 1 := rfl
  have h0w : IntKind.i64.wrap 0 = 0 := rfl
  have h0u : IntKind.u64.wrap 0 = 0 := rfl
  simp at hvc
  have hi : ICw ES n_slices_insertionSortCmpFunc_api_Port [.nilsl, .int .i64 0, .int .i64 0, .fn n_plan_Ends_1 [] []] ((M.bump 7).bump 5) = some (.tup [], (M.bump 7).bump 5) := by
    rw [b_slices_insertionSortCmpFunc_api_Port]
    simp [c_slices_insertionSortCmpFunc_api_Port, evW_reg, evW_chkr, isCst, loadS, partS, TK.agg, fieldAddrS, zeroS, storeS, setPart, splice, endS, resS, fieldS, c_slices_insertionSortCmpFunc_api_Port_L1, evW_loop, c_slices_insertionSortCmpFunc_api_Port_B1, h1w]
  have hp : ICw ES n_slices_pdqsortCmpFunc_api_Port [.nilsl, .int .i64 0, .int .i64 0, .int .i64 v, .fn n_plan_Ends_1 [] []] (M.bump 7) = some (.tup [], (M.bump 7).bump 5) := by
    rw [b_slices_pdqsortCmpFunc_api_Port]
    simp [c_slices_pdqsortCmpFunc_api_Port, evW_reg, evW_chkr, isCst, loadS, partS, TK.agg, fieldAddrS, zeroS, storeS, setPart, splice, endS, resS, fieldS, c_slices_pdqsortCmpFunc_api_Port_L0, evW_loop, c_slices_pdqsortCmpFunc_api_Port_B0, h0w, hi]
  refine ⟨(M.bump 7).bump 5, ?_, by simp; omega⟩
  simp [c_slices_SortFunc_sl_api_Port_api_Port, evW_reg, evW_chkr, isCst, loadS, partS, TK.agg, fieldAddrS, zeroS, storeS, setPart, splice, endS, resS, fieldS, lenS, convS, h0u, hvc, hp]

end Go.Proofs.YtbdliphlolajaaaDoor

/-
  Walks of the seat's functions: Ra.
-/
set_option linter.unusedVariables false
set_option linter.unusedSimpArgs false
set_option maxRecDepth 100000
namespace Go.Proofs.YtbdliphlolajaaaDoor
open Go.Proofs.YtbdliphlolajaaaDoor.Sh
/-! The document's own: port, ends. -/
@[simp] theorem Mem.set_twice (M : Mem) (a : Nat) (x y : Option (List SV)) : (M.set a x).set a y = M.set a y := by
  simp only [Mem.set, Mem.mk.injEq, true_and, and_true]
  funext j
  by_cases h : j = a <;> simp [h]
def portOfLink (i : Nat) (l : Link) (part node : Int) : Option Port :=
  if l.a = part ∧ l.pa0 = node then some ⟨node, i, 0, 0⟩ else if l.b = part ∧ l.pb0 = node then some ⟨node, i, 0, 1⟩
  else if l.a = part ∧ l.pa1 = node then some ⟨node, i, 1, 0⟩ else if l.b = part ∧ l.pb1 = node then some ⟨node, i, 1, 1⟩ else none
theorem portOfLink_some (i : Nat) (l : Link) (part node : Int) : (portOfLink i l part node).isSome = linkTaken l part node := by
  unfold portOfLink linkTaken
  by_cases h1 : l.a = part <;> by_cases h2 : l.b = part <;> by_cases h3 : l.pa0 = node <;> by_cases h4 : l.pa1 = node <;> by_cases h5 : l.pb0 = node <;> by_cases h6 : l.pb1 = node <;> simp [h1, h2, h3, h4, h5, h6]
def findPort (ls : List Link) (part node : Int) : Option Port := match (List.range ls.length).find? (fun j => (ls[j]?.map fun l => linkTaken l part node).getD false) with
  | some j => ls[j]?.bind fun l => portOfLink j l part node
  | none => none
theorem findPort_some (ls : List Link) (part node : Int) : (findPort ls part node).isSome = takenL ls part node := by
  have h := idxOf_any (fun l : Link => linkTaken l part node) ls
  unfold idxOf at h
  unfold findPort takenL
  rw [← h]
  cases hf : (List.range ls.length).find? (fun j => (ls[j]?.map fun l => linkTaken l part node).getD false) with
  | none => simp
  | some j =>
    rw [List.find?_range_eq_some] at hf
    obtain ⟨h1, h2, _⟩ := hf
    have hlt : j < ls.length := by simpa using h2
    simp [hlt] at h1
    simp [hlt, portOfLink_some, h1]
def portO (o : Option Port) : SV := .tup [encPort (o.getD ⟨0, 0, 0, 0⟩), .bool o.isSome]
@[simp] theorem r5_is_c (get) (n m : Int) : callP (PCw ES) get n_r5_is [.int .i64 n, .int .i64 m] = some (.bool (decide (inMany n m))) := by
  refine callP_of (PCw_ex (fun M => ?_) rfl) rfl
  rw [b_r5_is]
  by_cases h : 0 ≤ n <;> simp [c_r5_is, evW_reg, evW_chkr, isCst, loadS, partS, TK.agg, fieldAddrS, zeroS, storeS, setPart, splice, endS, resS, fieldS, inMany, h]
set_option maxHeartbeats 4000000 in
theorem r5_port_in {part node : Int} {p q : Nat} (i : Nat) (l : Link) (lk : SV) (M : Mem) {s : Nat} (hs : M.blk s = some [encLink l]) {v : SV} (hq : M.blk q = some [v]) (hv : v.cells.length = 4) :
    ∃ M', (∀ id, id ≠ q → M'.blk id = M.blk id) ∧ M'.next = M.next ∧ match portOfLink i l part node with
      | some r => M'.blk q = some [encPort r] ∧ evW ES n_r5_port c_r5_port_L0 ⟨h_r5_port_0 lk (.int .i64 part) (.int .i64 node) (.ptr p 0 0) (.ptr q 0 0) (.int .i64 i) (.ptr s 0 0) (.int .i64 0), M⟩ =
          some (.ret, ⟨((h_r5_port_0 .bad .bad .bad .bad .bad .bad .bad .bad).set 8 (.ptr q 0 0)).set 9 (.bool true), M'⟩)
      | none => M'.blk q = some [v] ∧ evW ES n_r5_port c_r5_port_L0 ⟨h_r5_port_0 lk (.int .i64 part) (.int .i64 node) (.ptr p 0 0) (.ptr q 0 0) (.int .i64 i) (.ptr s 0 0) (.int .i64 0), M⟩ =
          some (.exit 2, ⟨(h_r5_port_0 lk (.int .i64 part) (.int .i64 node) (.ptr p 0 0) (.ptr q 0 0) (.int .i64 i) (.ptr s 0 0) (.int .i64 2)).set 24 (.bool false), M'⟩) := by
  have ex : ∀ (e : Ex) (T : List SV) (M' : Mem), (∀ id, id ≠ q → M'.blk id = M.blk id) → True := fun _ _ _ _ => trivial
  have sets : ∀ x : SV, (∀ id, id ≠ q → (M.set q (some [x])).blk id = M.blk id) := fun x id h => by simp [h]
  have b0 : bldS ES.P T_api_Port [(0, .int .i64 node), (1, .int .i64 i), (2, .int .i64 0)] = some (encPort ⟨node, i, 0, 0⟩) := by simp [bldS, placesOf, buildS, splice, encPort]
  have b1 : bldS ES.P T_api_Port [(0, .int .i64 node), (1, .int .i64 i), (2, .int .i64 1)] = some (encPort ⟨node, i, 1, 0⟩) := by simp [bldS, placesOf, buildS, splice, encPort]
  have b2 : bldS ES.P T_api_Port [(0, .int .i64 node), (1, .int .i64 i), (2, .int .i64 0), (3, .int .i64 1)] = some (encPort ⟨node, i, 0, 1⟩) := by simp [bldS, placesOf, buildS, splice, encPort]
  have b3 : bldS ES.P T_api_Port [(0, .int .i64 node), (1, .int .i64 i), (2, .int .i64 1), (3, .int .i64 1)] = some (encPort ⟨node, i, 1, 1⟩) := by simp [bldS, placesOf, buildS, splice, encPort]
  have s0 : evW ES n_r5_port c_r5_port_B0 ⟨h_r5_port_0 lk (.int .i64 part) (.int .i64 node) (.ptr p 0 0) (.ptr q 0 0) (.int .i64 i) (.ptr s 0 0) (.int .i64 0), M⟩ =
      some (if l.a = part ∧ l.pa0 = node then (.ret, ⟨((h_r5_port_0 .bad .bad .bad .bad .bad .bad .bad .bad).set 8 (.ptr q 0 0)).set 9 (.bool true), M.set q (some [encPort ⟨node, i, 0, 0⟩])⟩)
        else if l.b = part ∧ l.pb0 = node then (.ret, ⟨((h_r5_port_0 .bad .bad .bad .bad .bad .bad .bad .bad).set 8 (.ptr q 0 0)).set 9 (.bool true), M.set q (some [encPort ⟨node, i, 0, 1⟩])⟩)
        else (.normal, ⟨h_r5_port_0 lk (.int .i64 part) (.int .i64 node) (.ptr p 0 0) (.ptr q 0 0) (.int .i64 i) (.ptr s 0 0) (.int .i64 1), M⟩)) := by
    by_cases h1 : l.a = part ∧ l.pa0 = node
    · simp [c_r5_port_B0, evW_reg, evW_chkr, isCst, loadS, partS, TK.agg, fieldAddrS, zeroS, storeS, setPart, splice, endS, resS, fieldS, h_r5_port_0, hs, hq, hv, h1, b0, IntKind.wrap_i64]
    rw [if_neg h1]
    by_cases h3 : l.b = part ∧ l.pb0 = node
    · by_cases h5 : l.a = part
      · have h6 : ¬ l.pa0 = node := fun h => h1 ⟨h5, h⟩
        simp [c_r5_port_B0, evW_reg, evW_chkr, isCst, loadS, partS, TK.agg, fieldAddrS, zeroS, storeS, setPart, splice, endS, resS, fieldS, h_r5_port_0, hs, hq, hv, h5, h6, h3, b2, IntKind.wrap_i64]
      · simp [c_r5_port_B0, evW_reg, evW_chkr, isCst, loadS, partS, TK.agg, fieldAddrS, zeroS, storeS, setPart, splice, endS, resS, fieldS, h_r5_port_0, hs, hq, hv, h5, h3, b2, IntKind.wrap_i64]
    rw [if_neg h3]
    by_cases h5 : l.a = part <;> by_cases h7 : l.b = part <;> simp only [h5, h7, true_and, false_and, not_false_eq_true] at h1 h3 <;> simp [c_r5_port_B0, evW_reg, evW_chkr, isCst, loadS, partS, TK.agg, fieldAddrS, zeroS, storeS, setPart, splice, endS, resS, fieldS, h_r5_port_0, hs, hq, hv, h1, h3, h5, h7, IntKind.wrap_i64]
  have s1 : evW ES n_r5_port c_r5_port_B0 ⟨h_r5_port_0 lk (.int .i64 part) (.int .i64 node) (.ptr p 0 0) (.ptr q 0 0) (.int .i64 i) (.ptr s 0 0) (.int .i64 1), M⟩ =
      some (if l.a = part ∧ l.pa1 = node then (.ret, ⟨((h_r5_port_0 .bad .bad .bad .bad .bad .bad .bad .bad).set 8 (.ptr q 0 0)).set 9 (.bool true), M.set q (some [encPort ⟨node, i, 1, 0⟩])⟩)
        else if l.b = part ∧ l.pb1 = node then (.ret, ⟨((h_r5_port_0 .bad .bad .bad .bad .bad .bad .bad .bad).set 8 (.ptr q 0 0)).set 9 (.bool true), M.set q (some [encPort ⟨node, i, 1, 1⟩])⟩)
        else (.normal, ⟨h_r5_port_0 lk (.int .i64 part) (.int .i64 node) (.ptr p 0 0) (.ptr q 0 0) (.int .i64 i) (.ptr s 0 0) (.int .i64 2), M⟩)) := by
    by_cases h1 : l.a = part ∧ l.pa1 = node
    · simp [c_r5_port_B0, evW_reg, evW_chkr, isCst, loadS, partS, TK.agg, fieldAddrS, zeroS, storeS, setPart, splice, endS, resS, fieldS, h_r5_port_0, hs, hq, hv, h1, b1, IntKind.wrap_i64]
    rw [if_neg h1]
    by_cases h3 : l.b = part ∧ l.pb1 = node
    · by_cases h5 : l.a = part
      · have h6 : ¬ l.pa1 = node := fun h => h1 ⟨h5, h⟩
        simp [c_r5_port_B0, evW_reg, evW_chkr, isCst, loadS, partS, TK.agg, fieldAddrS, zeroS, storeS, setPart, splice, endS, resS, fieldS, h_r5_port_0, hs, hq, hv, h5, h6, h3, b3, IntKind.wrap_i64]
      · simp [c_r5_port_B0, evW_reg, evW_chkr, isCst, loadS, partS, TK.agg, fieldAddrS, zeroS, storeS, setPart, splice, endS, resS, fieldS, h_r5_port_0, hs, hq, hv, h5, h3, b3, IntKind.wrap_i64]
    rw [if_neg h3]
    by_cases h5 : l.a = part <;> by_cases h7 : l.b = part <;> simp only [h5, h7, true_and, false_and, not_false_eq_true] at h1 h3 <;> simp [c_r5_port_B0, evW_reg, evW_chkr, isCst, loadS, partS, TK.agg, fieldAddrS, zeroS, storeS, setPart, splice, endS, resS, fieldS, h_r5_port_0, hs, hq, hv, h1, h3, h5, h7, IntKind.wrap_i64]
  have s2 : evW ES n_r5_port c_r5_port_B0 ⟨h_r5_port_0 lk (.int .i64 part) (.int .i64 node) (.ptr p 0 0) (.ptr q 0 0) (.int .i64 i) (.ptr s 0 0) (.int .i64 2), M⟩ =
      some (.exit 2, ⟨(h_r5_port_0 lk (.int .i64 part) (.int .i64 node) (.ptr p 0 0) (.ptr q 0 0) (.int .i64 i) (.ptr s 0 0) (.int .i64 2)).set 24 (.bool false), M⟩) := by
    simp [c_r5_port_B0, evW_reg, evW_chkr, isCst, loadS, partS, TK.agg, fieldAddrS, zeroS, storeS, setPart, splice, endS, resS, fieldS, h_r5_port_0]
  unfold portOfLink c_r5_port_L0
  by_cases h1 : l.a = part ∧ l.pa0 = node
  · rw [if_pos h1] at s0 ⊢
    refine ⟨M.set q (some [encPort ⟨node, i, 0, 0⟩]), sets _, rfl, ?_, ?_⟩
    · simp
    · rw [evW_loop, s0]
  rw [if_neg h1] at s0 ⊢
  by_cases h2 : l.b = part ∧ l.pb0 = node
  · rw [if_pos h2] at s0 ⊢
    refine ⟨M.set q (some [encPort ⟨node, i, 0, 1⟩]), sets _, rfl, ?_, ?_⟩
    · simp
    · rw [evW_loop, s0]
  rw [if_neg h2] at s0 ⊢
  by_cases h3 : l.a = part ∧ l.pa1 = node
  · rw [if_pos h3] at s1 ⊢
    refine ⟨M.set q (some [encPort ⟨node, i, 1, 0⟩]), sets _, rfl, ?_, ?_⟩
    · simp
    · rw [evW_loop, s0]; simp only; rw [evW_loop, s1]
  rw [if_neg h3] at s1 ⊢
  by_cases h4 : l.b = part ∧ l.pb1 = node
  · rw [if_pos h4] at s1 ⊢
    refine ⟨M.set q (some [encPort ⟨node, i, 1, 1⟩]), sets _, rfl, ?_, ?_⟩
    · simp
    · rw [evW_loop, s0]; simp only; rw [evW_loop, s1]
  rw [if_neg h4] at s1 ⊢
  exact ⟨M, fun _ _ => rfl, rfl, hq, by rw [evW_loop, s0]; simp only; rw [evW_loop, s1]; simp only; rw [evW_loop, s2]⟩
set_option maxHeartbeats 4000000 in
theorem r5_port_c (get) {P L : SV} {g : Cfg} (hP : CfgP g P L) (part node : Int) {k : Nat} (hk : k ≤ g.links.length) :
    callP (PCw ES) get n_r5_port [.agg (cfgC g P L), .int .i64 k, .int .i64 part, .int .i64 node] = some (portO (findPort (g.links.take k) part node)) := by
  refine callP_of (PCw_ex (fun M0 => ?_) rfl) (by simp [hP.npA])
  rw [b_r5_port]
  have body : ∀ (p q j : Nat) (M : Mem) (hj : j < k) (v : SV), v.cells.length = 4 → M.blk p = some [.agg (cfgC g P L)] → M.blk q = some [v] → p < M.next → q < M.next → p ≠ q →
      ∃ M', M'.blk p = some [.agg (cfgC g P L)] ∧ M.next ≤ M'.next ∧ match portOfLink j (g.links[j]'(by omega)) part node with
        | some r => M'.blk q = some [encPort r] ∧ evW ES n_r5_port c_r5_port_B1 ⟨h_r5_port_1 (.int .i64 k) (.int .i64 part) (.int .i64 node) (.ptr p 0 0) (.ptr q 0 0) (.int .i64 j), M⟩ =
            some (.ret, ⟨((h_r5_port_1 .bad .bad .bad .bad .bad .bad).set 8 (.ptr q 0 0)).set 9 (.bool true), M'⟩)
        | none => M'.blk q = some [v] ∧ evW ES n_r5_port c_r5_port_B1 ⟨h_r5_port_1 (.int .i64 k) (.int .i64 part) (.int .i64 node) (.ptr p 0 0) (.ptr q 0 0) (.int .i64 j), M⟩ =
            some (.normal, ⟨h_r5_port_1 (.int .i64 k) (.int .i64 part) (.int .i64 node) (.ptr p 0 0) (.ptr q 0 0) (.int .i64 ((j + 1 : Nat) : Int)), M'⟩) := by
    intro p q j M hj v hv hp hq hlp hlq hpq
    have hjl : j < g.links.length := by omega
    have ha := Links.at hP.l hjl
    have hw : IntKind.i64.wrap ((j : Int) + 1) = (j : Int) + 1 := i64_in (by omega) (by have := hP.ll; omega)
    have hnp : ∀ z, (p = M.next + z) = False := fun z => by simp; omega
    have hnq : ∀ z, (q = M.next + z) = False := fun z => by simp; omega
    have hb0 := hp
    simp only [cfgC] at hb0
    obtain ⟨M', i1, i2, i3⟩ := r5_port_in (part := part) (node := node) (p := p) (q := q) j g.links[j] (.int .i64 k) ((M.bump 7).set (M.next + 5) (some [encLink g.links[j]])) (s := M.next + 5) (by simp) (v := v) (by simp [hnq, hq]) hv
    refine ⟨M', by rw [i1 p hpq]; simp [hnp, hp], by rw [i2]; simp, ?_⟩
    cases hf : portOfLink j g.links[j] part node with
    | none =>
      rw [hf] at i3
      obtain ⟨i3, i4⟩ := i3
      refine ⟨i3, ?_⟩
      simp [h_r5_port_0] at i4
      simp [c_r5_port_B1, evW_reg, evW_chkr, isCst, loadS, partS, TK.agg, fieldAddrS, zeroS, storeS, setPart, splice, endS, resS, fieldS, h_r5_port_1, hj, hjl, hb0, ha, i4, hw]
    | some r =>
      rw [hf] at i3
      obtain ⟨i3, i4⟩ := i3
      refine ⟨i3, ?_⟩
      simp [h_r5_port_0] at i4
      simp [c_r5_port_B1, evW_reg, evW_chkr, isCst, loadS, partS, TK.agg, fieldAddrS, zeroS, storeS, setPart, splice, endS, resS, fieldS, h_r5_port_1, hj, hjl, hb0, ha, i4]
  have hz : ∃ z : SV, z.cells.length = 4 ∧ z = .agg [.int .i64 0, .int .i64 0, .int .i64 0, .int .i64 0] := ⟨_, rfl, rfl⟩
  obtain ⟨z, hz1, hz2⟩ := hz
  obtain ⟨r, g1, M', g0, g2⟩ := loop_find (E := ES) (me := n_r5_port) (B := c_r5_port_B1) (len := k) (T := fun j => h_r5_port_1 (.int .i64 k) (.int .i64 part) (.int .i64 node) (.ptr M0.next 0 0) (.ptr (M0.next + 1) 0 0) (.int .i64 j))
    (I := fun _ M => M.blk M0.next = some [.agg (cfgC g P L)] ∧ M.blk (M0.next + 1) = some [z] ∧ M0.next + 1 < M.next)
    (p := fun j => ((g.links.take k)[j]?.map fun l => linkTaken l part node).getD false)
    (Q := fun o r => ∃ M', M'.blk (M0.next + 1) = some [match o with | some j => encPort (((g.links.take k)[j]?.bind fun l => portOfLink j l part node).getD ⟨0, 0, 0, 0⟩) | none => z] ∧ r = match o with
      | some j => (.ret, ⟨((h_r5_port_1 .bad .bad .bad .bad .bad .bad).set 8 (.ptr (M0.next + 1) 0 0)).set 9 (.bool true), M'⟩)
      | none => (.exit 0, ⟨(h_r5_port_1 (.int .i64 k) (.int .i64 part) (.int .i64 node) (.ptr M0.next 0 0) (.ptr (M0.next + 1) 0 0) (.int .i64 k)).set 15 (.bool false), M'⟩))
    (fun j M hj ⟨hp, hq, hlt⟩ hpj => by
      obtain ⟨M', a1, a2, a3⟩ := body M0.next (M0.next + 1) j M hj z hz1 hp hq (by omega) hlt (by omega)
      simp [hj, show j < g.links.length by omega, ← portOfLink_some j] at hpj
      rw [hpj] at a3
      exact ⟨M', a3.2, a1, a3.1, by omega⟩)
    (fun j M hj ⟨hp, hq, hlt⟩ hpj => by
      obtain ⟨M', a1, a2, a3⟩ := body M0.next (M0.next + 1) j M hj z hz1 hp hq (by omega) hlt (by omega)
      simp [hj, show j < g.links.length by omega, ← portOfLink_some j] at hpj
      obtain ⟨r, hr⟩ := Option.isSome_iff_exists.1 hpj
      rw [hr] at a3
      exact ⟨_, a3.2, by simp, M', by simp [hj, show j < g.links.length by omega, hr, a3.1], rfl⟩)
    (fun M ⟨_, hq, _⟩ => ⟨_, by simp [c_r5_port_B1, evW_reg, evW_chkr, isCst, loadS, partS, TK.agg, fieldAddrS, zeroS, storeS, setPart, splice, endS, resS, fieldS, h_r5_port_1], by simp, M, hq, rfl⟩)
    (((M0.bump 3).set M0.next (some [.agg (cfgC g P L)])).set (M0.next + 1) (some [z])) ⟨by simp, by simp, by simp⟩
  have hlen : (g.links.take k).length = k := by simp; omega
  have e : findPort (g.links.take k) part node = match (List.range k).find? (fun j => ((g.links.take k)[j]?.map fun l => linkTaken l part node).getD false) with
    | some j => (g.links.take k)[j]?.bind fun l => portOfLink j l part node
    | none => none := by unfold findPort; rw [hlen]
  rw [e]
  cases hf : (List.range k).find? (fun j => ((g.links.take k)[j]?.map fun l => linkTaken l part node).getD false) with
  | none =>
    rw [hf] at g2 g0
    subst g2 hz2
    simp [h_r5_port_1, cfgC] at g1 g0
    have b : bldS ES.P T_api_Port [] = some (encPort ⟨0, 0, 0, 0⟩) := by simp [bldS, placesOf, buildS, encPort]
    simp [c_r5_port, evW_reg, evW_chkr, isCst, loadS, partS, TK.agg, fieldAddrS, zeroS, storeS, setPart, splice, endS, resS, fieldS, cfgC, c_r5_port_L1, g1, g0, portO, b]
    rfl
  | some j =>
    rw [hf] at g2 g0
    subst g2 hz2
    simp [h_r5_port_1, cfgC] at g1 g0
    have hs : ((g.links.take k)[j]?.bind fun l => portOfLink j l part node).isSome = true := by
      rw [List.find?_range_eq_some] at hf
      obtain ⟨h1, h2, _⟩ := hf
      have hlt : j < k := by simpa using h2
      simp [hlt, show j < g.links.length by omega] at h1
      simp [hlt, show j < g.links.length by omega, portOfLink_some, h1]
    simp [c_r5_port, evW_reg, evW_chkr, isCst, loadS, partS, TK.agg, fieldAddrS, zeroS, storeS, setPart, splice, endS, resS, fieldS, cfgC, c_r5_port_L1, g1, g0, portO, hs]

end Go.Proofs.YtbdliphlolajaaaDoor

/-
  Walks of the seat's functions: En.
-/
set_option linter.unusedVariables false
set_option linter.unusedSimpArgs false
set_option maxRecDepth 100000
namespace Go.Proofs.YtbdliphlolajaaaDoor
open Go.Proofs.YtbdliphlolajaaaDoor.Sh
/-! plan.Ends. -/
def portsOfEnd (i : Nat) (l : Link) (side : Nat) (part : Int) : List Port := if (endOf l side).1 = part then [⟨(endOf l side).2.1, i, 0, side⟩, ⟨(endOf l side).2.2, i, 1, side⟩] else []
def portsOfLink (part : Int) (i : Nat) (l : Link) : List Port := portsOfEnd i l 0 part ++ portsOfEnd i l 1 part
def endsK (ls : List Link) (part : Int) (k : Nat) : List Port := (List.range k).flatMap fun i => (ls[i]?.map (portsOfLink part i)).getD []
def endsL (ls : List Link) (part : Int) : List Port := endsK ls part ls.length
theorem endsK_succ {ls : List Link} {part : Int} {k : Nat} (h : k < ls.length) : endsK ls part (k + 1) = endsK ls part k ++ portsOfLink part k ls[k] := by
  simp [endsK, List.range_succ, h]
theorem portsOfLink_len (part : Int) (i : Nat) (l : Link) : (portsOfLink part i l).length ≤ 4 := by
  unfold portsOfLink portsOfEnd
  split <;> split <;> simp
theorem endsK_len {ls : List Link} {part : Int} : ∀ {k : Nat}, k ≤ ls.length → (endsK ls part k).length ≤ 4 * k
  | 0, _ => by simp [endsK]
  | k + 1, h => by
    rw [endsK_succ (by omega), List.length_append]
    have := endsK_len (ls := ls) (part := part) (k := k) (by omega)
    have := portsOfLink_len part k ls[k]
    omega
theorem portSV_append (a b : List Port) : portSV (a ++ b) = portSV a ++ portSV b := by simp [portSV]
theorem OutR.app2 {get : Nat → Option (List SV)} {o : SV} {M : Mem} {items : List SV} {a s : Nat} {v u : SV} (hI : OutR 4 o M items) (h1 : items.length ≤ 1000)
    (hg : ∀ id, id < M.next → get id = M.blk id) (hv : v.cells.length = 4) (hu : u.cells.length = 4) (hs : get s = some [v, u]) :
    appendS ES.P get a T_sl_api_Port T_sl_api_Port o (.own s 4 0 2) = some (.own a 4 0 (items.length + 2), killO o ++ [(a, some (items ++ [v, u]))]) := by
  have hun : Sh.unif 4 [v, u] = true := by simp [Sh.unif, hv, hu]
  rcases hI with ⟨rfl, rfl⟩ | ⟨id, rfl, hid, hlt⟩
  · rw [appendS_nil (ys := [v, u]) ti_sl_api_Port ti_sl_api_Port ti_api_Port rfl (by simp [itemsS, hs]) (by decide) hun (by simp [srcFits]) rfl rfl (by simp) (by simp)]
    rfl
  · rw [appendS_own (ys := [v, u]) (xs := items) ti_sl_api_Port ti_sl_api_Port ti_api_Port rfl (by simp [itemsS, hs]) (by decide) hun (by simp [srcFits]) rfl rfl ((hg id hlt).trans hid) (Nat.le_refl _) (by simp; omega) (by simp; omega)]
    simp [killO]
set_option maxHeartbeats 4000000 in
theorem ends_side {part : Int} {i : Nat} {l : Link} {L ln t14 : SV} {s : Nat} {o : SV} {items : List Port} {k : Nat} (hk : k < 2) (M : Mem) (hs : M.blk s = some [encLink l]) (hls : s < M.next) (hO : OutR 4 o M (portSV items)) (hlen : items.length ≤ 1000)
    (hne : ∀ id e a b, o = .own id e a b → id ≠ s) :
    ∃ M' o', evW ES n_plan_Ends c_plan_Ends_B0 ⟨h_plan_Ends_0 (.int .i64 part) o (.int .i64 i) (.ptr s 0 0) L ln t14 (.int .i64 k), M⟩ =
        some (.normal, ⟨h_plan_Ends_0 (.int .i64 part) o' (.int .i64 i) (.ptr s 0 0) L ln t14 (.int .i64 ((k + 1 : Nat) : Int)), M'⟩) ∧
      OutR 4 o' M' (portSV (items ++ portsOfEnd i l k part)) ∧ M'.blk s = some [encLink l] ∧ M.next ≤ M'.next ∧ (∀ id e a b, o' = .own id e a b → id ≠ s) := by
  have hk' : (k : Int) < 2 := by omega
  have hw : IntKind.i64.wrap ((k : Int) + 1) = (k : Int) + 1 := i64_in (by omega) (by omega)
  have hns : ∀ k, (s = M.next + k) = False := fun k => by simp; omega
  have hc := fun get => plan_end_c get l k
  unfold portsOfEnd
  generalize endOf l k = e at hc ⊢
  obtain ⟨e1, e2, e3⟩ := e
  simp only at hc ⊢
  by_cases h : e1 = part
  · have hO1 : OutR 4 o ((M.bump 9).set (M.next + 6) (some [.agg [.int .i64 e2, .int .i64 e3]])) (portSV items) := hO.old (fun id hid => by
      have : ¬ (id = M.next + 6) := by omega
      simp [this]) (by simp)
    have b0 : bldS ES.P T_api_Port [(0, .int .i64 e2), (1, .int .i64 i), (3, .int .i64 k)] = some (encPort ⟨e2, i, 0, k⟩) := by simp [bldS, placesOf, buildS, splice, encPort]
    have b1 : bldS ES.P T_api_Port [(0, .int .i64 e3), (1, .int .i64 i), (2, .int .i64 1), (3, .int .i64 k)] = some (encPort ⟨e3, i, 1, k⟩) := by simp [bldS, placesOf, buildS, splice, encPort]
    have bs : ∀ q, bldSl ES.P T_sl_api_Port 2 q [(0, encPort ⟨e2, i, 0, k⟩), (1, encPort ⟨e3, i, 1, k⟩)] = some (.own q 4 0 2, [encPort ⟨e2, i, 0, k⟩, encPort ⟨e3, i, 1, k⟩]) := fun q => by simp [bldSl, buildRow]
    have hap := fun (get : Nat → Option (List SV)) hg hs2 => OutR.app2 (get := get) (a := M.next + 9 + 12) (s := M.next + 9 + 11) (v := encPort ⟨e2, i, 0, k⟩) (u := encPort ⟨e3, i, 1, k⟩) hO1 (by simpa [portSV] using hlen) hg rfl rfl hs2
    rw [if_pos h]
    have hlen2 : (portSV items).length = items.length := by simp [portSV]
    have hap2 := hap ((((M.bump 9).set (M.next + 6) (some [.agg [.int .i64 e2, .int .i64 e3]])).bump 14).set (M.next + 9 + 11) (some [encPort ⟨e2, i, 0, k⟩, encPort ⟨e3, i, 1, k⟩])).blk
      (fun id hid => by
        simp at hid
        have : ¬ (id = M.next + 9 + 11) := by omega
        simp [this]) (by simp)
    have hkill : ∀ (X : Mem), (X.sets (killO o)).blk s = X.blk s := by
      intro X
      cases o <;> simp [killO, Mem.sets]
      rename_i id e a b
      intro hh
      exact absurd hh.symm (hne id e a b rfl)
    refine ⟨(((((M.bump 9).set (M.next + 6) (some [.agg [.int .i64 e2, .int .i64 e3]])).bump 14).set (M.next + 9 + 11) (some [encPort ⟨e2, i, 0, k⟩, encPort ⟨e3, i, 1, k⟩])).sets (killO o)).set (M.next + 9 + 12) (some (portSV items ++ [encPort ⟨e2, i, 0, k⟩, encPort ⟨e3, i, 1, k⟩])),
      .own (M.next + 9 + 12) 4 0 ((portSV items).length + 2), ?_, ?_, ?_, ?_, ?_⟩
    · simp [c_plan_Ends_B0, evW_reg, evW_chkr, isCst, loadS, partS, TK.agg, fieldAddrS, zeroS, storeS, setPart, splice, endS, resS, fieldS, h_plan_Ends_0, hk, hk', hs, hls, hc, h, hw, b0, b1, bs, hap2]
    · rw [portSV_append]
      exact .inr ⟨M.next + 9 + 12, by simp [portSV], by simp [portSV], by simp⟩
    · have h1 : ¬ (s = M.next + 9 + 12) := by omega
      have h2 : ¬ (s = M.next + 9 + 11) := by omega
      simp only [Mem.blk_set, h1, if_false]
      rw [hkill]
      simp [h2, hns, hs]
    · simp; omega
    · intro id e a b hh
      cases hh
      omega
  · rw [if_neg h]
    refine ⟨(M.bump 9).set (M.next + 6) (some [.agg [.int .i64 e2, .int .i64 e3]]), o, ?_, ?_, by simp [hns, hs], by simp, hne⟩
    · simp [c_plan_Ends_B0, evW_reg, evW_chkr, isCst, loadS, partS, TK.agg, fieldAddrS, zeroS, storeS, setPart, splice, endS, resS, fieldS, h_plan_Ends_0, hk, hk', hs, hls, hc, h, hw]
    · rw [List.append_nil]
      exact hO.old (fun id hid => by
        have : ¬ (id = M.next + 6) := by omega
        simp [this]) (by simp)
set_option maxHeartbeats 4000000 in
theorem ends_link {part : Int} {P L : SV} {c : Cfg} (hP : CfgP c P L) {j : Nat} (hj : j < c.links.length) {o : SV} {items : List Port} (M : Mem) (hO : OutR 4 o M (portSV items)) (hlen : items.length ≤ 900) :
    ∃ M' o', evW ES n_plan_Ends c_plan_Ends_B1 ⟨h_plan_Ends_1 (.int .i64 part) o L (.int .i64 c.links.length) (.int .i64 j), M⟩ =
        some (.normal, ⟨h_plan_Ends_1 (.int .i64 part) o' L (.int .i64 c.links.length) (.int .i64 ((j + 1 : Nat) : Int)), M'⟩) ∧
      OutR 4 o' M' (portSV (items ++ portsOfLink part j c.links[j])) ∧ M.next ≤ M'.next := by
  have ha := Links.at hP.l hj
  have hw : IntKind.i64.wrap ((j : Int) + 1) = (j : Int) + 1 := i64_in (by omega) (by have := hP.ll; omega)
  generalize hl : c.links[j] = l
  have hO1 : OutR 4 o ((M.bump 6).set (M.next + 3) (some [encLink l])) (portSV items) := hO.old (fun id hid => by
    have : ¬ (id = M.next + 3) := by omega
    simp [this]) (by simp)
  obtain ⟨M1, o1, a1, a2, a3, a4, a5⟩ := ends_side (part := part) (i := j) (l := l) (L := L) (ln := .int .i64 c.links.length) (t14 := .int .i64 j) (s := M.next + 3) (k := 0) (by omega) ((M.bump 6).set (M.next + 3) (some [encLink l])) (by simp) (by simp) hO1 (by omega)
    (fun id e a b ho => by
      rcases hO with ⟨_, h⟩ | ⟨id', h, _, h2⟩
      · rw [ho] at h; cases h
      · rw [ho] at h; cases h; omega)
  have hk0 : (portsOfEnd j l 0 part).length ≤ 2 := by unfold portsOfEnd; split <;> simp
  obtain ⟨M2, o2, b1, b2, b3, b4, b5⟩ := ends_side (part := part) (i := j) (l := l) (L := L) (ln := .int .i64 c.links.length) (t14 := .int .i64 j) (s := M.next + 3) (k := 1) (by omega) M1 a3 (by simp at a4; omega) a2 (by simp; omega) a5
  have e : portSV (items ++ portsOfLink part j l) = portSV (items ++ portsOfEnd j l 0 part ++ portsOfEnd j l 1 part) := by simp [portsOfLink]
  have hb5 : evW ES n_plan_Ends c_plan_Ends_B0 ⟨h_plan_Ends_0 (.int .i64 part) o2 (.int .i64 j) (.ptr (M.next + 3) 0 0) L (.int .i64 c.links.length) (.int .i64 j) (.int .i64 ((1 + 1 : Nat) : Int)), M2⟩ =
      some (.exit 2, ⟨(h_plan_Ends_0 (.int .i64 part) o2 (.int .i64 j) (.ptr (M.next + 3) 0 0) L (.int .i64 c.links.length) (.int .i64 j) (.int .i64 2)).set 20 (.bool false), M2⟩) := by
    simp [c_plan_Ends_B0, evW_reg, evW_chkr, isCst, loadS, partS, TK.agg, fieldAddrS, zeroS, storeS, setPart, splice, endS, resS, fieldS, h_plan_Ends_0]
  have hloop : evW ES n_plan_Ends c_plan_Ends_L0 ⟨h_plan_Ends_0 (.int .i64 part) o (.int .i64 j) (.ptr (M.next + 3) 0 0) L (.int .i64 c.links.length) (.int .i64 j) (.int .i64 ((0 : Nat) : Int)), (M.bump 6).set (M.next + 3) (some [encLink l])⟩ =
      some (.exit 2, ⟨(h_plan_Ends_0 (.int .i64 part) o2 (.int .i64 j) (.ptr (M.next + 3) 0 0) L (.int .i64 c.links.length) (.int .i64 j) (.int .i64 2)).set 20 (.bool false), M2⟩) := by
    unfold c_plan_Ends_L0
    rw [evW_loop, a1]
    simp only
    rw [evW_loop, b1]
    simp only
    rw [evW_loop, hb5]
  refine ⟨M2, o2, ?_, by rw [e]; exact b2, by simp at a4; omega⟩
  simp [h_plan_Ends_0] at hloop
  simp [c_plan_Ends_B1, evW_reg, evW_chkr, isCst, loadS, partS, TK.agg, fieldAddrS, zeroS, storeS, setPart, splice, endS, resS, fieldS, h_plan_Ends_1, hj, ha, hl, hloop, hw]
set_option maxHeartbeats 4000000 in
theorem Ends_ok {P L : SV} {c : Cfg} (hP : CfgP c P L) (part : Int) (h10 : c.links.length ≤ 10) (h12 : (endsL c.links part).length ≤ 12) (hsm : smallP (endsL c.links part)) :
    ∃ y l', PCw ES n_plan_Ends [.agg (cfgC c P L), .int .i64 part] = some y ∧ Ports y l' ∧ l'.Perm (endsL c.links part) ∧ sortedP l' ∧ Sh.pv y = true := by
  have key := PCw_out (E := ES) (f := n_plan_Ends) (esz := 4) (args := [.agg (cfgC c P L), .int .i64 part]) (Pr := fun items => ∃ l', items = portSV l' ∧ l'.Perm (endsL c.links part) ∧ sortedP l') (fun M0 => by
    rw [b_plan_Ends]
    have hlen := hP.l.lenS ti_sl_api_Link
    obtain ⟨r, g1, o, M1, rfl, g2⟩ := loop_st (E := ES) (me := n_plan_Ends) (B := c_plan_Ends_B1) (β := SV) (len := c.links.length)
      (T := fun j o => h_plan_Ends_1 (.int .i64 part) o L (.int .i64 c.links.length) (.int .i64 j))
      (I := fun j o M => OutR 4 o M (portSV (endsK c.links part j)))
      (Q := fun r => ∃ o M', r = (.exit 0, ⟨(h_plan_Ends_1 (.int .i64 part) o L (.int .i64 c.links.length) (.int .i64 c.links.length)).set 15 (.bool false), M'⟩) ∧ OutR 4 o M' (portSV (endsL c.links part)))
      (fun j o M hj hI => by
        left
        obtain ⟨M', o', a1, a2, a3⟩ := ends_link (part := part) hP hj M hI (by have := endsK_len (ls := c.links) (part := part) (k := j) (by omega); omega)
        exact ⟨o', M', a1, by rw [endsK_succ hj]; exact a2⟩)
      (fun o M hI => ⟨_, by simp [c_plan_Ends_B1, evW_reg, evW_chkr, isCst, loadS, partS, TK.agg, fieldAddrS, zeroS, storeS, setPart, splice, endS, resS, fieldS, h_plan_Ends_1], by simp, o, M, rfl, hI⟩) 0 .nilsl ((M0.bump 2).set M0.next (some [.agg (cfgC c P L)])) (by omega) (.inl ⟨rfl, rfl⟩)
    simp [h_plan_Ends_1, cfgC] at g1
    rcases g2 with ⟨e1, rfl⟩ | ⟨q, rfl, hq, hlt⟩
    · obtain ⟨M2, s1, _⟩ := SortFunc_nil (M1.bump 2)
      have e2 : endsL c.links part = [] := by simpa [portSV] using e1
      refine ⟨.nilsl, M2, [], ?_, .inl ⟨rfl, rfl⟩, [], rfl, by rw [e2], by simp [sortedP]⟩
      simp [c_plan_Ends, evW_reg, evW_chkr, isCst, loadS, partS, TK.agg, fieldAddrS, zeroS, storeS, setPart, splice, endS, resS, fieldS, cfgC, hlen, c_plan_Ends_L1, g1, s1]
    · have hpl : (portSV (endsL c.links part)).length = (endsL c.links part).length := by simp [portSV]
      rw [hpl] at g1
      obtain ⟨M2, l', s1, s2, s3, s4, s5⟩ := SortFunc_ok (q := q) (len := (endsL c.links part).length) h12 rfl hsm (M1.bump 2) (by simpa using hq) (by simp; omega)
      refine ⟨.own q 4 0 (endsL c.links part).length, M2, portSV l', ?_, .inr ⟨q, ?_, s2, by simp at s5; omega⟩, l', rfl, s3, s4⟩
      · simp [c_plan_Ends, evW_reg, evW_chkr, isCst, loadS, partS, TK.agg, fieldAddrS, zeroS, storeS, setPart, splice, endS, resS, fieldS, cfgC, hlen, c_plan_Ends_L1, g1, s1]
      · simp [portSV, s3.length_eq]) (fun items ⟨l', h, _, _⟩ y hy => by
        subst h
        simp only [portSV, List.mem_map] at hy
        obtain ⟨x, _, rfl⟩ := hy
        rfl)
  obtain ⟨y, items, k1, ⟨l', k2, k3, k4⟩, k5, k6, k7⟩ := key
  subst k2
  exact ⟨y, l', k1, RSl.of_map k5 k6, k3, k4, k7⟩
theorem Ends_c {P L : SV} {c : Cfg} (hP : CfgP c P L) (part : Int) (h10 : c.links.length ≤ 10) (h12 : (endsL c.links part).length ≤ 12) (hsm : smallP (endsL c.links part)) :
    ∃ y l', (∀ get, callP (PCw ES) get n_plan_Ends [.agg (cfgC c P L), .int .i64 part] = some y) ∧ Ports y l' ∧ l'.Perm (endsL c.links part) ∧ sortedP l' ∧ Sh.pv y = true := by
  obtain ⟨y, l', h1, h2, h3, h4, h5⟩ := Ends_ok hP part h10 h12 hsm
  exact ⟨y, l', fun get => callP_of h1 (by simp [hP.npA]), h2, h3, h4, h5⟩

end Go.Proofs.YtbdliphlolajaaaDoor

/-
  Walks of the seat's functions: Ep.
-/
set_option linter.unusedVariables false
set_option linter.unusedSimpArgs false
set_option maxRecDepth 100000
namespace Go.Proofs.YtbdliphlolajaaaDoor
open Go.Proofs.YtbdliphlolajaaaDoor.Sh
/-! A part's ports: the plain law. -/
theorem portsOfLink_node (part : Int) (i : Nat) (l : Link) (n : Int) : linkTaken l part n = true ↔ ∃ p ∈ portsOfLink part i l, p.node = n := by
  unfold linkTaken portsOfLink portsOfEnd endOf
  by_cases h1 : l.a = part <;> by_cases h2 : l.b = part <;> simp [h1, h2, or_assoc]
theorem endsK_mem {ls : List Link} {part : Int} {k : Nat} {p : Port} : p ∈ endsK ls part k ↔ ∃ i, ∃ h : i < ls.length, i < k ∧ p ∈ portsOfLink part i ls[i] := by
  simp only [endsK, List.mem_flatMap, List.mem_range]
  constructor
  · rintro ⟨i, hi, hp⟩
    by_cases h : i < ls.length
    · simp [h] at hp
      exact ⟨i, h, hi, hp⟩
    · simp [h] at hp
  · rintro ⟨i, h, hi, hp⟩
    exact ⟨i, hi, by simpa [h] using hp⟩
theorem takenL_ends {ls : List Link} {part n : Int} {k : Nat} (hk : k ≤ ls.length) : takenL (ls.take k) part n = true ↔ ∃ p ∈ endsK ls part k, p.node = n := by
  unfold takenL
  rw [List.any_eq_true]
  constructor
  · rintro ⟨l, hl, ht⟩
    obtain ⟨i, hi, rfl⟩ := List.mem_iff_getElem.1 hl
    simp at hi
    rw [List.getElem_take] at ht
    obtain ⟨p, hp, hn⟩ := (portsOfLink_node part i _ n).1 ht
    exact ⟨p, endsK_mem.2 ⟨i, by omega, by omega, hp⟩, hn⟩
  · rintro ⟨p, hp, hn⟩
    obtain ⟨i, h, hi, hp⟩ := endsK_mem.1 hp
    refine ⟨ls[i], ?_, (portsOfLink_node part i _ n).2 ⟨p, hp, hn⟩⟩
    rw [List.mem_iff_getElem]
    exact ⟨i, by simp; omega, by simp⟩
/-- A right network's links: no port twice, all of them nodes. -/
structure PortsOk (ls : List Link) (part : Int) (nodes : Int) : Prop where
  ab : ∀ l ∈ ls, l.a < l.b
  a : ∀ (j : Nat) (h : j < ls.length), ls[j].a = part → ls[j].pa0 ≠ ls[j].pa1 ∧ inMany ls[j].pa0 nodes ∧ inMany ls[j].pa1 nodes ∧ takenL (ls.take j) part ls[j].pa0 = false ∧ takenL (ls.take j) part ls[j].pa1 = false
  b : ∀ (j : Nat) (h : j < ls.length), ls[j].b = part → ls[j].pb0 ≠ ls[j].pb1 ∧ inMany ls[j].pb0 nodes ∧ inMany ls[j].pb1 nodes ∧ takenL (ls.take j) part ls[j].pb0 = false ∧ takenL (ls.take j) part ls[j].pb1 = false
theorem PortsOk.link {ls : List Link} {part nodes : Int} (h : PortsOk ls part nodes) {j : Nat} (hj : j < ls.length) :
    (portsOfLink part j ls[j]).Pairwise (fun p q => p.node ≠ q.node) ∧ (∀ p ∈ portsOfLink part j ls[j], inMany p.node nodes ∧ takenL (ls.take j) part p.node = false) := by
  have hab := h.ab ls[j] (List.getElem_mem hj)
  have ha := h.a j hj
  have hb := h.b j hj
  unfold portsOfLink portsOfEnd endOf
  by_cases h1 : ls[j].a = part
  · have h2 : ¬ (ls[j].b = part) := by omega
    obtain ⟨a1, a2, a3, a4, a5⟩ := ha h1
    simp [h1, h2, a1, a2, a3, a4, a5]
  · by_cases h2 : ls[j].b = part
    · obtain ⟨a1, a2, a3, a4, a5⟩ := hb h2
      simp [h1, h2, a1, a2, a3, a4, a5]
    · simp [h1, h2]
theorem PortsOk.ends {ls : List Link} {part nodes : Int} (h : PortsOk ls part nodes) : ∀ {k : Nat}, k ≤ ls.length → (endsK ls part k).Pairwise (fun p q => p.node ≠ q.node) ∧ ∀ p ∈ endsK ls part k, inMany p.node nodes
  | 0, _ => by simp [endsK]
  | k + 1, hk => by
    obtain ⟨i1, i2⟩ := h.ends (k := k) (by omega)
    obtain ⟨l1, l2⟩ := h.link (j := k) (by omega)
    rw [endsK_succ (by omega)]
    refine ⟨List.pairwise_append.2 ⟨i1, l1, fun p hp q hq e => ?_⟩, fun p hp => ?_⟩
    · have := (l2 q hq).2
      rw [← e] at this
      have h2 := (takenL_ends (ls := ls) (part := part) (k := k) (n := p.node) (by omega)).2 ⟨p, hp, rfl⟩
      rw [h2] at this
      cases this
    · rcases List.mem_append.1 hp with hp | hp
      · exact i2 p hp
      · exact (l2 p hp).1
theorem portOfLink_mem {i : Nat} {l : Link} {part n : Int} {p : Port} (h : portOfLink i l part n = some p) : p ∈ portsOfLink part i l ∧ p.node = n := by
  unfold portOfLink at h
  unfold portsOfLink portsOfEnd endOf
  split at h
  · rename_i h1; cases h; simp [h1]
  split at h
  · rename_i h1; cases h; simp [h1]
  split at h
  · rename_i h1; cases h; simp [h1]
  split at h
  · rename_i h1; cases h; simp [h1]
  · cases h
theorem findPort_mem {ls : List Link} {part n : Int} {p : Port} (h : findPort ls part n = some p) : p ∈ endsL ls part ∧ p.node = n := by
  unfold findPort at h
  split at h
  · rename_i j hj
    rw [List.find?_range_eq_some] at hj
    obtain ⟨_, h2, _⟩ := hj
    have hlt : j < ls.length := by simpa using h2
    simp [hlt] at h
    obtain ⟨h3, h4⟩ := portOfLink_mem h
    exact ⟨endsK_mem.2 ⟨j, hlt, hlt, h3⟩, h4⟩
  · cases h
theorem PortsOk.uniq {ls : List Link} {part nodes : Int} (h : PortsOk ls part nodes) {p q : Port} (hp : p ∈ endsL ls part) (hq : q ∈ endsL ls part) (e : p.node = q.node) : p = q := by
  have hw := (h.ends (Nat.le_refl _)).1
  rw [List.pairwise_iff_getElem] at hw
  obtain ⟨i, hi, rfl⟩ := List.mem_iff_getElem.1 hp
  obtain ⟨j, hj, rfl⟩ := List.mem_iff_getElem.1 hq
  rcases Nat.lt_trichotomy i j with hl | rfl | hl
  · exact absurd e (hw i j hi hj hl)
  · rfl
  · exact absurd e.symm (hw j i hj hi hl)
theorem PortsOk.find {ls : List Link} {part nodes : Int} (h : PortsOk ls part nodes) {n : Int} {p : Port} : findPort ls part n = some p ↔ p ∈ endsL ls part ∧ p.node = n := by
  refine ⟨findPort_mem, fun ⟨h1, h2⟩ => ?_⟩
  have ht := (takenL_ends (ls := ls) (part := part) (n := n) (Nat.le_refl _)).2 ⟨p, h1, h2⟩
  rw [List.take_length, ← findPort_some] at ht
  obtain ⟨q, hq⟩ := Option.isSome_iff_exists.1 ht
  obtain ⟨h3, h4⟩ := findPort_mem hq
  rw [hq, h.uniq h3 h1 (by omega)]
theorem eq_of_strict : ∀ {a b : List Port}, a.Pairwise (fun x y => x.node < y.node) → b.Pairwise (fun x y => x.node < y.node) → (∀ p, p ∈ a ↔ p ∈ b) → a = b
  | [], [], _, _, _ => rfl
  | [], y :: b, _, _, h => by have := (h y).2 (by simp); simp at this
  | x :: a, [], _, _, h => by have := (h x).1 (by simp); simp at this
  | x :: a, y :: b, ha, hb, h => by
    rw [List.pairwise_cons] at ha hb
    have e : x = y := by
      have h1 := (h x).1 (by simp)
      have h2 := (h y).2 (by simp)
      rcases List.mem_cons.1 h1 with h3 | h3
      · exact h3
      rcases List.mem_cons.1 h2 with h4 | h4
      · exact h4.symm
      have := ha.1 y h4
      have := hb.1 x h3
      omega
    subst e
    rw [eq_of_strict ha.2 hb.2 fun p => ⟨fun hp => ?_, fun hp => ?_⟩]
    · rcases List.mem_cons.1 ((h p).1 (by simp [hp])) with h3 | h3
      · subst h3; have := ha.1 p hp; omega
      · exact h3
    · rcases List.mem_cons.1 ((h p).2 (by simp [hp])) with h3 | h3
      · subst h3; have := hb.1 p hp; omega
      · exact h3
def portsL (ls : List Link) (part nodes : Int) : List Port := (List.range nodes.toNat).filterMap fun i : Nat => findPort ls part (i : Int)
theorem PortsOk.sorted {ls : List Link} {part nodes : Int} (h : PortsOk ls part nodes) {l' : List Port} (hp : l'.Perm (endsL ls part)) (hs : sortedP l') : l' = portsL ls part nodes := by
  obtain ⟨w1, w2⟩ := h.ends (Nat.le_refl _)
  have hne : l'.Pairwise (fun p q => p.node ≠ q.node) := (hp.pairwise_iff (fun hh => Ne.symm hh)).2 w1
  refine eq_of_strict (hs.imp₂ (fun p q h1 h2 => by omega) hne) ?_ fun p => ?_
  · unfold portsL
    rw [List.pairwise_filterMap]
    refine List.pairwise_lt_range.imp fun {i j} hij p hp q hq => ?_
    have h1 := (findPort_mem hp).2
    have h2 := (findPort_mem hq).2
    omega
  · rw [hp.mem_iff]
    unfold portsL
    simp only [List.mem_filterMap, List.mem_range]
    constructor
    · intro hm
      have hin := w2 p hm
      refine ⟨p.node.toNat, by unfold inMany at hin; omega, ?_⟩
      rw [h.find]
      exact ⟨hm, by unfold inMany at hin; omega⟩
    · rintro ⟨i, _, hi⟩
      exact (findPort_mem hi).1

end Go.Proofs.YtbdliphlolajaaaDoor

/-
  Walks of the seat's functions: Pn.
-/
set_option linter.unusedVariables false
set_option linter.unusedSimpArgs false
set_option maxRecDepth 100000
namespace Go.Proofs.YtbdliphlolajaaaDoor
open Go.Proofs.YtbdliphlolajaaaDoor.Sh
/-! plan.parts. -/
theorem partBad_iff (p : Part) : partBad p = (decide (p.nodes < 1) || decide (12 < p.nodes) || decide (p.faults < 0) || decide (3 < p.faults) || decide (p.nodes < 3 * p.faults + 1)) := by
  simp [partBad, Bool.or_assoc]
set_option maxHeartbeats 4000000 in
theorem plan_parts_ok {y : SV} {c : Cfg} (hc : CfgR y c) : PCw ES n_plan_parts [y] = some (errO (partsErr c)) := by
  obtain ⟨P, L, rfl, hP⟩ := hc
  refine PCw_ex (fun M0 => ?_) (errO_pv _)
  rw [b_plan_parts]
  have hlen := hP.p.lenS ti_sl_api_Part
  by_cases h1 : c.parts.length < 1
  · have h1' : (c.parts.length : Int) < 1 := by omega
    have e : partsErr c = some (7, 0) := by simp [partsErr, h1]
    simp [c_plan_parts, evW_reg, evW_chkr, isCst, loadS, partS, TK.agg, fieldAddrS, zeroS, storeS, setPart, splice, endS, resS, fieldS, cfgC, hlen, h1, h1', e, errO]
  by_cases h2 : 6 < c.parts.length
  · have h2' : 6 < (c.parts.length : Int) := by omega
    have h1' : ¬ (c.parts.length : Int) < 1 := by omega
    have e : partsErr c = some (7, 0) := by simp [partsErr, h2]
    simp [c_plan_parts, evW_reg, evW_chkr, isCst, loadS, partS, TK.agg, fieldAddrS, zeroS, storeS, setPart, splice, endS, resS, fieldS, cfgC, hlen, h1, h1', h2, h2', e, errO]
  have h1' : ¬ (c.parts.length : Int) < 1 := by omega
  have h2' : ¬ 6 < (c.parts.length : Int) := by omega
  obtain ⟨r, g1, M', g2⟩ := loop_find (E := ES) (me := n_plan_parts) (B := c_plan_parts_B0) (len := c.parts.length) (T := fun j => h_plan_parts_0 P (.int .i64 c.parts.length) (.int .i64 j)) (I := fun _ _ => True)
    (p := fun j => (c.parts[j]?.map partBad).getD false)
    (Q := fun o r => ∃ M', r = match o with
      | some j => (.ret, ⟨(h_plan_parts_0 .bad .bad .bad).set 2 (errSV 8 j), M'⟩)
      | none => (.exit 0, ⟨(h_plan_parts_0 P (.int .i64 c.parts.length) (.int .i64 c.parts.length)).set 20 (.bool false), M'⟩))
    (fun j M hj _ hpj => by
      have ha := Parts.at hP.p hj
      have hw : IntKind.i64.wrap ((j : Int) + 1) = (j : Int) + 1 := i64_in (by omega) (by omega)
      simp [hj, partBad_iff] at hpj
      obtain ⟨⟨⟨⟨q1, q2⟩, q3⟩, q4⟩, q5⟩ := hpj
      have w1 : IntKind.i64.wrap (3 * c.parts[j].faults) = 3 * c.parts[j].faults := i64_in (by omega) (by omega)
      have w2 : IntKind.i64.wrap (3 * c.parts[j].faults + 1) = 3 * c.parts[j].faults + 1 := i64_in (by omega) (by omega)
      have r1 : ¬ c.parts[j].nodes < 1 := by omega
      have r2 : ¬ 12 < c.parts[j].nodes := by omega
      have r3 : ¬ c.parts[j].faults < 0 := by omega
      have r4 : ¬ 3 < c.parts[j].faults := by omega
      have r5 : ¬ c.parts[j].nodes < 3 * c.parts[j].faults + 1 := by omega
      simp [c_plan_parts_B0, evW_reg, evW_chkr, isCst, loadS, partS, TK.agg, fieldAddrS, zeroS, storeS, setPart, splice, endS, resS, fieldS, h_plan_parts_0, hj, ha, r1, r2, r3, r4, r5, w1, w2, hw])
    (fun j M hj _ hpj => by
      have ha := Parts.at hP.p hj
      simp only [hj, List.getElem?_eq_getElem, Option.map_some, Option.getD_some, partBad_iff] at hpj
      by_cases r1 : c.parts[j].nodes < 1
      · simp [c_plan_parts_B0, evW_reg, evW_chkr, isCst, loadS, partS, TK.agg, fieldAddrS, zeroS, storeS, setPart, splice, endS, resS, fieldS, h_plan_parts_0, hj, ha, r1]
      by_cases r2 : 12 < c.parts[j].nodes
      · simp [c_plan_parts_B0, evW_reg, evW_chkr, isCst, loadS, partS, TK.agg, fieldAddrS, zeroS, storeS, setPart, splice, endS, resS, fieldS, h_plan_parts_0, hj, ha, r1, r2]
      by_cases r3 : c.parts[j].faults < 0
      · simp [c_plan_parts_B0, evW_reg, evW_chkr, isCst, loadS, partS, TK.agg, fieldAddrS, zeroS, storeS, setPart, splice, endS, resS, fieldS, h_plan_parts_0, hj, ha, r1, r2, r3]
      by_cases r4 : 3 < c.parts[j].faults
      · simp [c_plan_parts_B0, evW_reg, evW_chkr, isCst, loadS, partS, TK.agg, fieldAddrS, zeroS, storeS, setPart, splice, endS, resS, fieldS, h_plan_parts_0, hj, ha, r1, r2, r3, r4]
      have r5 : c.parts[j].nodes < 3 * c.parts[j].faults + 1 := by simpa [r1, r2, r3, r4] using hpj
      have w1 : IntKind.i64.wrap (3 * c.parts[j].faults) = 3 * c.parts[j].faults := i64_in (by omega) (by omega)
      have w2 : IntKind.i64.wrap (3 * c.parts[j].faults + 1) = 3 * c.parts[j].faults + 1 := i64_in (by omega) (by omega)
      simp [c_plan_parts_B0, evW_reg, evW_chkr, isCst, loadS, partS, TK.agg, fieldAddrS, zeroS, storeS, setPart, splice, endS, resS, fieldS, h_plan_parts_0, hj, ha, r1, r2, r3, r4, r5, w1, w2])
    (fun M _ => by simp [c_plan_parts_B0, evW_reg, evW_chkr, isCst, loadS, partS, TK.agg, fieldAddrS, zeroS, storeS, setPart, splice, endS, resS, fieldS, h_plan_parts_0]) ((M0.bump 2).set M0.next (some [.agg (cfgC c P L)])) trivial
  have e : partsErr c = match (List.range c.parts.length).find? (fun j => (c.parts[j]?.map partBad).getD false) with
    | some i => some (8, (i : Int))
    | none => none := by simp [partsErr, h1, h2]; rfl
  rw [e]
  cases hf : (List.range c.parts.length).find? (fun j => (c.parts[j]?.map partBad).getD false) with
  | none =>
    rw [hf] at g2
    subst g2
    simp [h_plan_parts_0, cfgC] at g1
    simp [c_plan_parts, evW_reg, evW_chkr, isCst, loadS, partS, TK.agg, fieldAddrS, zeroS, storeS, setPart, splice, endS, resS, fieldS, cfgC, hlen, h1, h1', h2, h2', c_plan_parts_L0, g1, errO]
  | some j =>
    rw [hf] at g2
    subst g2
    simp [h_plan_parts_0, cfgC] at g1
    simp [c_plan_parts, evW_reg, evW_chkr, isCst, loadS, partS, TK.agg, fieldAddrS, zeroS, storeS, setPart, splice, endS, resS, fieldS, cfgC, hlen, h1, h1', h2, h2', c_plan_parts_L0, g1, errO]
theorem plan_parts_c (get) {y : SV} {c : Cfg} (hc : CfgR y c) : callP (PCw ES) get n_plan_parts [y] = some (errO (partsErr c)) := callP_of (plan_parts_ok hc) (by simp [hc.np12])

end Go.Proofs.YtbdliphlolajaaaDoor

/-
  Walks of the seat's functions: Po.
-/
set_option linter.unusedVariables false
set_option linter.unusedSimpArgs false
set_option maxRecDepth 100000
namespace Go.Proofs.YtbdliphlolajaaaDoor
open Go.Proofs.YtbdliphlolajaaaDoor.Sh
/-! plan.links. -/
theorem plan_links_cf_c (get : Nat → Option (List SV)) {x : SV} {ls : List Link} (hx : Links x ls) (hb : ls.length < 4611686018427387904) (l : Link) {q : Nat} (hq : get q = some [encLink l]) :
    callP (PCw ES) get n_slices_ContainsFunc_sl_api_Link_api_Link [x, .fn n_plan_links_1 [] [.ptr q 0 0]] = some (.bool (twice ls l)) := by
  have p1 : pic get false 11 (.ptr q 0 0) = some (.rptr [encLink l] 0 0 false) := pic_ptr hq (by simp; exact pv_encLink l)
  rw [callP_pic (ys := [x, .fn n_plan_links_1 [] [.rptr [encLink l] 0 0 false]])]
  · exact slices_ContainsFunc_sl_api_Link_api_Link_ok elmLink ti_api_Link hx hb (npF (by rfl)) (fun x => decide (x.a = l.a ∧ x.b = l.b)) (fun get y v hy _ => by
      subst hy
      exact callP_of (plan_links_1_ok v l false) (by simp [encLink_np, np_rlink])) (np_fnlink l)
  · have q2 : pic get false picDepth (.fn n_plan_links_1 [] [.ptr q 0 0]) = some (.fn n_plan_links_1 [] [.rptr [encLink l] 0 0 false]) := pic_fn (by simp [p1]) rfl
    simp [pic_np hx.np12, q2]
theorem linkErr_bad {c : Cfg} {i : Nat} {l : Link} (h : badEnds c l = true) : linkErr c i l = 10 := by simp [linkErr, h]
set_option maxHeartbeats 4000000 in
theorem plan_links_ok {y : SV} {c : Cfg} (hc : CfgR y c) : PCw ES n_plan_links [y] = some (errO (linksErr c)) := by
  have hcy := hc
  obtain ⟨P, L, rfl, hP⟩ := hc
  refine PCw_ex (fun M0 => ?_) (errO_pv _)
  rw [b_plan_links]
  have hlen := hP.l.lenS ti_sl_api_Link
  have hlenp := hP.p.lenS ti_sl_api_Part
  by_cases h1 : 10 < c.links.length
  · have h1' : 10 < (c.links.length : Int) := by omega
    have e : linksErr c = some (9, 0) := by simp [linksErr, h1]
    simp [c_plan_links, evW_reg, evW_chkr, isCst, loadS, partS, TK.agg, fieldAddrS, zeroS, storeS, setPart, splice, endS, resS, fieldS, cfgC, hlen, h1', e, errO]
  have h1' : ¬ 10 < (c.links.length : Int) := by omega
  have body : ∀ (p j : Nat) (M : Mem) (hj : j < c.links.length), M.blk p = some [.agg (cfgC c P L)] → p < M.next → ∃ M', M'.blk p = some [.agg (cfgC c P L)] ∧ p < M'.next ∧
      evW ES n_plan_links c_plan_links_B0 ⟨h_plan_links_0 (.ptr p 0 0) L (.int .i64 c.links.length) (.int .i64 j), M⟩ =
        some (if linkErr c j c.links[j] = 0 then (.normal, ⟨h_plan_links_0 (.ptr p 0 0) L (.int .i64 c.links.length) (.int .i64 ((j : Int) + 1)), M'⟩)
          else (.ret, ⟨(h_plan_links_0 .bad .bad .bad .bad).set 2 (errSV (linkErr c j c.links[j]) j), M'⟩)) := by
    intro p j M hj hb hlt
    have ha := Links.at hP.l hj
    have hw : IntKind.i64.wrap ((j : Int) + 1) = (j : Int) + 1 := i64_in (by omega) (by omega)
    have hne : ∀ k, (p = M.next + k) = False := fun k => by simp; omega
    have hb0 := hb
    simp only [cfgC] at hb0
    by_cases q1 : inMany c.links[j].a c.parts.length
    case neg =>
      have e : linkErr c j c.links[j] = 10 := linkErr_bad (by simp [badEnds, q1])
      rw [e]
      simp [c_plan_links_B0, evW_reg, evW_chkr, isCst, loadS, partS, TK.agg, fieldAddrS, zeroS, storeS, setPart, splice, endS, resS, fieldS, h_plan_links_0, hj, hb0, ha, hlenp, hne, q1]
      exact ⟨rfl, by omega⟩
    by_cases q2 : inMany c.links[j].b c.parts.length
    case neg =>
      have e : linkErr c j c.links[j] = 10 := linkErr_bad (by simp [badEnds, q2])
      rw [e]
      simp [c_plan_links_B0, evW_reg, evW_chkr, isCst, loadS, partS, TK.agg, fieldAddrS, zeroS, storeS, setPart, splice, endS, resS, fieldS, h_plan_links_0, hj, hb0, ha, hlenp, hne, q1, q2]
      exact ⟨rfl, by omega⟩
    by_cases q3 : c.links[j].b ≤ c.links[j].a
    case pos =>
      have e : linkErr c j c.links[j] = 10 := linkErr_bad (by simp [badEnds, q3])
      rw [e]
      simp [c_plan_links_B0, evW_reg, evW_chkr, isCst, loadS, partS, TK.agg, fieldAddrS, zeroS, storeS, setPart, splice, endS, resS, fieldS, h_plan_links_0, hj, hb0, ha, hlenp, hne, q1, q2, q3]
      exact ⟨rfl, by omega⟩
    have hbe : badEnds c c.links[j] = false := by simp [badEnds, q1, q2, q3]
    obtain ⟨y, hs, hy⟩ := RSl.pre hP.l ti_sl_api_Link ti_api_Link elmLink (n := j) (by omega)
    have hcf := fun (get : Nat → Option (List SV)) (q : Nat) (hq : get q = some [encLink c.links[j]]) => plan_links_cf_c get hy (by have := hP.ll; simp; omega) c.links[j] (q := q) hq
    cases q4 : twice (c.links.take j) c.links[j] with
    | true =>
      have e : linkErr c j c.links[j] = 11 := by simp [linkErr, hbe, q4]
      rw [e]
      rw [q4] at hcf
      simp [c_plan_links_B0, evW_reg, evW_chkr, isCst, loadS, partS, TK.agg, fieldAddrS, zeroS, storeS, setPart, splice, endS, resS, fieldS, h_plan_links_0, hj, hb0, ha, hlenp, hne, q1, q2, q3, hs, hcf]
      exact ⟨rfl, by omega⟩
    | false =>
      rw [q4] at hcf
      have hpo := fun get => plan_ports_c get (y := .agg (cfgC c P L)) ⟨P, L, rfl, hP⟩ hj hbe
      simp only [cfgC] at hpo
      cases q5 : (endBad c j c.links[j].a c.links[j].pa0 c.links[j].pa1 || endBad c j c.links[j].b c.links[j].pb0 c.links[j].pb1) with
      | true =>
        have e : linkErr c j c.links[j] = 12 := by simp only [linkErr, hbe, q4, q5]; rfl
        rw [e]
        rw [q5] at hpo
        simp [c_plan_links_B0, evW_reg, evW_chkr, isCst, loadS, partS, TK.agg, fieldAddrS, zeroS, storeS, setPart, splice, endS, resS, fieldS, h_plan_links_0, hj, hb0, ha, hlenp, hne, q1, q2, q3, hs, hcf, hpo]
        exact ⟨rfl, by omega⟩
      | false =>
        have e : linkErr c j c.links[j] = 0 := by simp only [linkErr, hbe, q4, q5]; rfl
        rw [e]
        rw [q5] at hpo
        simp [c_plan_links_B0, evW_reg, evW_chkr, isCst, loadS, partS, TK.agg, fieldAddrS, zeroS, storeS, setPart, splice, endS, resS, fieldS, h_plan_links_0, hj, hb0, ha, hlenp, hne, q1, q2, q3, hs, hcf, hpo, hw]
        exact ⟨rfl, by omega⟩
  obtain ⟨r, g1, M', g2⟩ := loop_find (E := ES) (me := n_plan_links) (B := c_plan_links_B0) (len := c.links.length) (T := fun j => h_plan_links_0 (.ptr M0.next 0 0) L (.int .i64 c.links.length) (.int .i64 j)) (I := fun _ M => M.blk M0.next = some [.agg (cfgC c P L)] ∧ M0.next < M.next)
    (p := fun j => (c.links[j]?.map fun l => linkErr c j l != 0).getD false)
    (Q := fun o r => ∃ M', r = match o with
      | some j => (.ret, ⟨(h_plan_links_0 .bad .bad .bad .bad).set 2 (errSV ((c.links[j]?.map fun l => linkErr c j l).getD 0) j), M'⟩)
      | none => (.exit 0, ⟨(h_plan_links_0 (.ptr M0.next 0 0) L (.int .i64 c.links.length) (.int .i64 c.links.length)).set 14 (.bool false), M'⟩))
    (fun j M hj ⟨hb, hlt⟩ hpj => by
      obtain ⟨M', a1, a2, a3⟩ := body M0.next j M hj hb hlt
      simp [hj] at hpj
      rw [if_pos hpj] at a3
      exact ⟨M', a3, a1, a2⟩)
    (fun j M hj ⟨hb, hlt⟩ hpj => by
      obtain ⟨M', a1, a2, a3⟩ := body M0.next j M hj hb hlt
      simp [hj] at hpj
      rw [if_neg hpj] at a3
      exact ⟨_, a3, by simp, M', by simp [hj]⟩)
    (fun M _ => by simp [c_plan_links_B0, evW_reg, evW_chkr, isCst, loadS, partS, TK.agg, fieldAddrS, zeroS, storeS, setPart, splice, endS, resS, fieldS, h_plan_links_0]) ((M0.bump 2).set M0.next (some [.agg (cfgC c P L)])) ⟨by simp, by simp⟩
  have e : linksErr c = match (List.range c.links.length).find? (fun j => (c.links[j]?.map fun l => linkErr c j l != 0).getD false) with
    | some i => some ((c.links[i]?.map fun l => linkErr c i l).getD 0, (i : Int))
    | none => none := by simp [linksErr, h1]; rfl
  rw [e]
  cases hf : (List.range c.links.length).find? (fun j => (c.links[j]?.map fun l => linkErr c j l != 0).getD false) with
  | none =>
    rw [hf] at g2
    subst g2
    simp [h_plan_links_0, cfgC] at g1
    simp [c_plan_links, evW_reg, evW_chkr, isCst, loadS, partS, TK.agg, fieldAddrS, zeroS, storeS, setPart, splice, endS, resS, fieldS, cfgC, hlen, h1', c_plan_links_L0, g1, errO]
  | some j =>
    rw [hf] at g2
    subst g2
    simp [h_plan_links_0, cfgC] at g1
    simp [c_plan_links, evW_reg, evW_chkr, isCst, loadS, partS, TK.agg, fieldAddrS, zeroS, storeS, setPart, splice, endS, resS, fieldS, cfgC, hlen, h1', c_plan_links_L0, g1, errO]
theorem plan_links_c (get) {y : SV} {c : Cfg} (hc : CfgR y c) : callP (PCw ES) get n_plan_links [y] = some (errO (linksErr c)) := callP_of (plan_links_ok hc) (by simp [hc.np12])

end Go.Proofs.YtbdliphlolajaaaDoor

/-
  Walks of the seat's functions: Ds.
-/
set_option linter.unusedVariables false
set_option linter.unusedSimpArgs false
set_option maxRecDepth 100000
namespace Go.Proofs.YtbdliphlolajaaaDoor
open Go.Proofs.YtbdliphlolajaaaDoor.Sh
/-! How far parts are: the plain law. -/
def dget (d : List Int) (x : Int) : Int := (d[x.toNat]?).getD 0
def relax (n : Int) (d : List Int) (x y : Int) : List Int := if dget d x = n ∧ dget d y < 0 then d.set y.toNat (n + 1) else d
def relaxL (n : Int) (d : List Int) (l : Link) : List Int := relax n (relax n d l.a l.b) l.b l.a
def passL (n : Int) (ls : List Link) (d : List Int) : List Int := ls.foldl (relaxL n) d
def dinit (len : Nat) (fr : Int) : List Int := (List.replicate len (-1 : Int)).set fr.toNat 0
/-- How far, behind so many rounds. -/
def distK (ls : List Link) (len : Nat) (fr : Int) : Nat → List Int
  | 0 => dinit len fr
  | k + 1 => passL k ls (distK ls len fr k)
def distL (ls : List Link) (len : Nat) (fr : Int) : List Int := distK ls len fr len

@[simp] theorem relax_length (n : Int) (d : List Int) (x y : Int) : (relax n d x y).length = d.length := by unfold relax; split <;> simp
@[simp] theorem relaxL_length (n : Int) (d : List Int) (l : Link) : (relaxL n d l).length = d.length := by simp [relaxL]
@[simp] theorem passL_length (n : Int) (ls : List Link) (d : List Int) : (passL n ls d).length = d.length := by
  unfold passL
  induction ls generalizing d with
  | nil => rfl
  | cons l r ih => rw [List.foldl_cons, ih]; simp
@[simp] theorem distK_length (ls : List Link) (len : Nat) (fr : Int) (k : Nat) : (distK ls len fr k).length = len := by
  induction k with
  | zero => simp [distK, dinit]
  | succ k ih => simp [distK, ih]

/-- Of so many entries below 0. -/
def negs (d : List Int) : Nat := d.countP fun x => decide (x < 0)
theorem negs_set {d : List Int} {y : Int} {v : Int} (hy : y.toNat < d.length) (hn : dget d y < 0) (hv : 0 ≤ v) : negs (d.set y.toNat v) + 1 = negs d := by
  unfold negs
  have hg : d[y.toNat] < 0 := by simpa [dget, hy] using hn
  have := List.countP_set (p := fun x : Int => decide (x < 0)) (l := d) (i := y.toNat) (a := v) hy
  rw [this]
  have h1 : decide (d[y.toNat] < 0) = true := by simpa using hg
  have h2 : decide (v < 0) = false := by simp; omega
  have hpos : 0 < List.countP (fun x : Int => decide (x < 0)) d := List.countP_pos_iff.2 ⟨d[y.toNat], List.getElem_mem hy, h1⟩
  simp only [h1, h2, if_true]
  simp
  omega
theorem relax_or {n : Int} (hn : 0 ≤ n) {d : List Int} {x y : Int} (hy : y.toNat < d.length) : relax n d x y = d ∨ negs (relax n d x y) + 1 = negs d := by
  unfold relax
  split
  · rename_i h
    exact .inr (negs_set hy h.2 (by omega))
  · exact .inl rfl
def okL (len : Nat) (l : Link) : Prop := 0 ≤ l.a ∧ l.a < len ∧ 0 ≤ l.b ∧ l.b < len
theorem relaxL_or {n : Int} (hn : 0 ≤ n) {d : List Int} {l : Link} (h : okL d.length l) : relaxL n d l = d ∨ negs (relaxL n d l) + 1 ≤ negs d := by
  obtain ⟨h1, h2, h3, h4⟩ := h
  unfold relaxL
  rcases relax_or hn (d := d) (x := l.a) (y := l.b) (by omega) with e | e
  · rw [e]
    rcases relax_or hn (d := d) (x := l.b) (y := l.a) (by omega) with e | e
    · exact .inl e
    · exact .inr (by omega)
  · rcases relax_or hn (d := relax n d l.a l.b) (x := l.b) (y := l.a) (by simp; omega) with e2 | e2
    · rw [e2]; exact .inr (by omega)
    · exact .inr (by omega)
theorem passL_or {n : Int} (hn : 0 ≤ n) : ∀ {ls : List Link} {d : List Int}, (∀ l ∈ ls, okL d.length l) → passL n ls d = d ∨ negs (passL n ls d) + 1 ≤ negs d
  | [], d, _ => .inl rfl
  | l :: r, d, h => by
    have ih := passL_or hn (ls := r) (d := relaxL n d l) (fun x hx => by simpa using h x (by simp [hx]))
    have e : passL n (l :: r) d = passL n r (relaxL n d l) := rfl
    rw [e]
    rcases relaxL_or hn (h l (by simp)) with e1 | e1
    · rw [e1] at ih ⊢; exact ih
    · rcases ih with e2 | e2
      · rw [e2]; exact .inr e1
      · exact .inr (by omega)
/-- No entry above. -/
def below (n : Int) (d : List Int) : Prop := ∀ x ∈ d, x ≤ n
theorem relax_below {n : Int} {d : List Int} {x y : Int} (h : below (n + 1) d) : below (n + 1) (relax n d x y) := by
  unfold relax
  split
  · intro z hz
    rcases List.mem_or_eq_of_mem_set hz with h1 | h1
    · exact h z h1
    · omega
  · exact h
theorem passL_below {n : Int} : ∀ {ls : List Link} {d : List Int}, below (n + 1) d → below (n + 1) (passL n ls d)
  | [], d, h => h
  | l :: r, d, h => passL_below (ls := r) (relax_below (relax_below h))
theorem passL_id {n m : Int} (hm : m < n) : ∀ {ls : List Link} {d : List Int}, (∀ l ∈ ls, okL d.length l) → below m d → passL n ls d = d
  | [], d, _, _ => rfl
  | l :: r, d, hl, h => by
    have key : ∀ x y : Int, 0 ≤ x → x < d.length → relax n d x y = d := by
      intro x y hx hx2
      unfold relax
      rw [if_neg]
      rintro ⟨h1, _⟩
      have hx3 : x.toNat < d.length := by omega
      have := h d[x.toNat] (List.getElem_mem hx3)
      simp [dget, hx3] at h1
      omega
    obtain ⟨o1, o2, o3, o4⟩ := hl l (by simp)
    have e : relaxL n d l = d := by unfold relaxL; rw [key _ _ o1 o2, key _ _ o3 o4]
    show passL n r (relaxL n d l) = d
    rw [e]
    exact passL_id hm (fun x hx => hl x (by simp [hx])) h
theorem distK_below (ls : List Link) (len : Nat) (fr : Int) : ∀ k : Nat, below k (distK ls len fr k)
  | 0 => by
    intro x hx
    rcases List.mem_or_eq_of_mem_set hx with h | h
    · have := List.eq_of_mem_replicate h; omega
    · omega
  | k + 1 => by
    have ih := distK_below ls len fr k
    have : below ((k : Int) + 1) (distK ls len fr k) := fun x hx => by have := ih x hx; omega
    have := passL_below (ls := ls) this
    intro x hx
    have := this x hx
    simpa using this
/-- Where a round changes nothing, none does. -/
theorem distK_stop {ls : List Link} {len : Nat} {fr : Int} (hl : ∀ l ∈ ls, okL len l) {k : Nat} (h : distK ls len fr (k + 1) = distK ls len fr k) : ∀ j, k ≤ j → distK ls len fr j = distK ls len fr k := by
  intro j hj
  obtain ⟨i, rfl⟩ : ∃ i, j = k + i := ⟨j - k, by omega⟩
  clear hj
  induction i with
  | zero => rfl
  | succ i ih =>
    rcases i with _ | i
    · exact h
    show passL ((k + (i + 1) : Nat) : Int) ls (distK ls len fr (k + (i + 1))) = _
    rw [ih]
    exact passL_id (m := k) (by omega) (by simpa using hl) (distK_below ls len fr k)
theorem negs_le (d : List Int) : negs d ≤ d.length := List.countP_le_length
theorem distK_negs {ls : List Link} {len : Nat} {fr : Int} (hl : ∀ l ∈ ls, okL len l) (hf : 0 ≤ fr ∧ fr < len) : ∀ k : Nat, (∀ i < k, distK ls len fr (i + 1) ≠ distK ls len fr i) → negs (distK ls len fr k) + k + 1 ≤ len
  | 0, _ => by
    have hlt : fr.toNat < (List.replicate len (-1 : Int)).length := by simp; omega
    have h := negs_set (d := List.replicate len (-1 : Int)) (y := fr) (v := 0) hlt (by unfold dget; rw [List.getElem?_eq_getElem hlt]; simp) (by omega)
    have h2 := negs_le (List.replicate len (-1 : Int))
    simp only [distK, dinit]
    simp at h2
    omega
  | k + 1, h => by
    have ih := distK_negs hl hf k (fun i hi => h i (by omega))
    rcases passL_or (n := (k : Int)) (by omega) (ls := ls) (d := distK ls len fr k) (by simpa using hl) with e | e
    · exact absurd e (h k (by omega))
    · show negs (passL k ls (distK ls len fr k)) + (k + 1) + 1 ≤ len
      omega
/-- The first round that changes nothing comes in time. -/
theorem distK_fin {ls : List Link} {len : Nat} {fr : Int} (hl : ∀ l ∈ ls, okL len l) (hf : 0 ≤ fr ∧ fr < len) {k : Nat} (h1 : ∀ i < k, distK ls len fr (i + 1) ≠ distK ls len fr i) (h2 : distK ls len fr (k + 1) = distK ls len fr k) : distK ls len fr k = distL ls len fr := by
  have := distK_negs hl hf k h1
  exact (distK_stop hl h2 len (by omega)).symm

end Go.Proofs.YtbdliphlolajaaaDoor

/-
  Walks of the seat's functions: Rp.
-/
set_option linter.unusedVariables false
set_option linter.unusedSimpArgs false
set_option maxRecDepth 100000
namespace Go.Proofs.YtbdliphlolajaaaDoor
open Go.Proofs.YtbdliphlolajaaaDoor.Sh
/-! slices.Repeat of one number; slices.Index. -/
theorem bits_Mul1_c (get) {n : Nat} (h1 : 1 ≤ n) (h6 : n ≤ 6) : callP (PCw ES) get n_math_bits_Mul [.int .u64 1, .int .u64 n] = some (.tup [.int .u64 0, .int .u64 n]) := by
  have h : n = 1 ∨ n = 2 ∨ n = 3 ∨ n = 4 ∨ n = 5 ∨ n = 6 := by omega
  rcases h with rfl | rfl | rfl | rfl | rfl | rfl
  all_goals exact callP_of (PCw_closed 20 (by kernel_rfl)) rfl

theorem rep_step (v z : SV) {m n : Nat} (hm : m ≤ n) : (List.replicate m v ++ List.replicate (n - m) z).take m ++ (List.replicate m v).take (min m (n - m)) ++ (List.replicate m v ++ List.replicate (n - m) z).drop (m + min m (n - m)) =
    List.replicate (m + min m (n - m)) v ++ List.replicate (n - (m + min m (n - m))) z := by
  have h1 : (List.replicate m v ++ List.replicate (n - m) z).take m = List.replicate m v := by
    rw [List.take_append_of_le_length (by simp)]; simp
  have h2 : (List.replicate m v).take (min m (n - m)) = List.replicate (min m (n - m)) v := by
    rw [List.take_replicate]; congr 1; omega
  have h3 : (List.replicate m v ++ List.replicate (n - m) z).drop (m + min m (n - m)) = List.replicate (n - (m + min m (n - m))) z := by
    rw [List.drop_append, List.drop_replicate, List.drop_replicate]
    have : m - (m + min m (n - m)) = 0 := by omega
    rw [this]
    simp only [List.replicate_zero, List.nil_append, List.length_replicate]
    congr 1; omega
  rw [h1, h2, h3, ← List.replicate_append_replicate]
theorem rep_loop {n q : Nat} (v : Int) (h6 : n ≤ 6) : ∀ (k m : Nat) (M : Mem), n - m ≤ k → 1 ≤ m → m ≤ n → M.blk q = some (List.replicate m (.int .i64 v) ++ List.replicate (n - m) (.int .i64 0)) → q < M.next →
    ∃ M', evW ES n_slices_Repeat_sl_int_int c_slices_Repeat_sl_int_int_L0 ⟨h_slices_Repeat_sl_int_int_0 (.own q 1 0 n) (.int .i64 m), M⟩ =
      some (.exit 0, ⟨(h_slices_Repeat_sl_int_int_0 (.own q 1 0 n) (.int .i64 n)).set 37 (.bool false), M'⟩) ∧ M'.blk q = some (List.replicate n (.int .i64 v)) ∧ M.next ≤ M'.next ∧ ∀ id, id ≠ q → id < M.next → M'.blk id = M.blk id
  | 0, m, M, hk, h1, hm, hb, hlt => by
    obtain rfl : m = n := by omega
    unfold c_slices_Repeat_sl_int_int_L0
    rw [evW_loop]
    refine ⟨M, ?_, by simpa using hb, Nat.le_refl _, fun _ _ _ => rfl⟩
    simp [c_slices_Repeat_sl_int_int_B0, evW_reg, evW_chkr, isCst, TK.agg, zeroS, endS, resS, h_slices_Repeat_sl_int_int_0, lenS]
  | k + 1, m, M, hk, h1, hm, hb, hlt => by
    by_cases hmn : m = n
    · exact rep_loop v h6 0 m M (by omega) h1 hm hb hlt
    have hmn' : (m : Int) < n := by omega
    have hlt' : m < n := by omega
    have hst := rep_step (.int .i64 v) (.int .i64 0) hm
    generalize hj : min m (n - m) = j at hst
    have hw : IntKind.i64.wrap ((m : Int) + (j : Int)) = ((m + j : Nat) : Int) := by rw [i64_in (by omega) (by omega)]; omega
    have hs1 : sliceS ES.P T_sl_int (.own q 1 0 n) (some (.int .i64 m)) none none = some (.own q 1 m (n - m)) := by
      simp [sliceS, boundsS, natS, hm, hmn]
    have hs2 : sliceS ES.P T_sl_int (.own q 1 0 n) none (some (.int .i64 m)) none = some (.own q 1 0 m) := by
      have : ¬ (0 = m) := by omega
      simp [sliceS, boundsS, natS, hm, this]
    have hcp : ∀ get : Nat → Option (List SV), get q = some (List.replicate m (.int .i64 v) ++ List.replicate (n - m) (.int .i64 0)) → copyS ES.P get T_sl_int (.own q 1 m (n - m)) (.own q 1 0 m) =
        some (.int .i64 j, [(q, some (List.replicate (m + j) (.int .i64 v) ++ List.replicate (n - (m + j)) (.int .i64 0)))]) := by
      intro get hg
      have hit : itemsS get (.own q 1 0 m) = some (List.replicate m (.int .i64 v)) := by
        simp only [itemsS, hg]
        rw [if_pos (by simp)]
        rw [List.drop_zero, List.take_append_of_le_length (by simp)]
        simp
      have hu : Sh.unif 1 (List.replicate m (SV.int .i64 v)) = true := by simp [Sh.unif]
      simp only [copyS, ti_sl_int, ti_int, hit, hg]
      rw [if_pos ⟨trivial, trivial, rfl, by simp, hu⟩]
      simp only [List.length_replicate, hj, hst]
    obtain ⟨M', g1, g2, g3, g4⟩ := rep_loop (q := q) v h6 k (m + j) ((M.bump 10).set q (some (List.replicate (m + j) (.int .i64 v) ++ List.replicate (n - (m + j)) (.int .i64 0)))) (by omega) (by omega) (by omega) (by simp) (by simp; omega)
    refine ⟨M', ?_, g2, by simp at g3; omega, fun id hid hl => by rw [g4 id hid (by simp; omega)]; simp [hid]⟩
    rw [← g1]
    unfold c_slices_Repeat_sl_int_int_L0
    rw [evW_loop]
    simp [c_slices_Repeat_sl_int_int_B0, evW_reg, evW_chkr, isCst, TK.agg, zeroS, endS, resS, h_slices_Repeat_sl_int_int_0, lenS, hmn', hlt', hs1, hs2, hcp, hb, hlt, hw]
theorem Repeat_ok {n id : Nat} (v : Int) (h1 : 1 ≤ n) (h6 : n ≤ 6) (M : Mem) (hb : M.blk id = some [.int .i64 v]) (hlt : id < M.next) : ∃ M' q, ICw ES n_slices_Repeat_sl_int_int [.own id 1 0 1, .int .i64 n] M = some (.own q 1 0 n, M') ∧
    M'.blk q = some (List.replicate n (.int .i64 v)) ∧ q < M'.next ∧ M.next ≤ q ∧ Old M M' := by
  rw [b_slices_Repeat_sl_int_int]
  have w1 : IntKind.u64.wrap (1 : Int) = 1 := rfl
  have w2 : IntKind.u64.wrap (n : Int) = n := by rw [IntKind.wrap_u64]; omega
  have w3 : IntKind.i64.wrap (n : Int) = n := i64_in (by omega) (by omega)
  have hn0 : ¬ ((n : Int) < 0) := by omega
  have hn1 : ¬ (9223372036854775807 < (n : Int)) := by omega
  have hmk : ∀ a, mkSl ES.P T_sl_int a (.int .i64 n) (.int .i64 n) = some (.own a 1 0 n, List.replicate n (.int .i64 0)) := by
    intro a
    simp [mkSl]
    omega
  have hcp : ∀ get : Nat → Option (List SV), get (M.next + 2) = some (List.replicate n (.int .i64 0)) → get id = some [.int .i64 v] → copyS ES.P get T_sl_int (.own (M.next + 2) 1 0 n) (.own id 1 0 1) =
      some (.int .i64 1, [(M.next + 2, some (List.replicate 1 (.int .i64 v) ++ List.replicate (n - 1) (.int .i64 0)))]) := by
    intro get hg hg2
    have hit : itemsS get (.own id 1 0 1) = some [.int .i64 v] := by simp [itemsS, hg2]
    have hu : Sh.unif 1 [SV.int .i64 v] = true := by simp [Sh.unif]
    simp only [copyS, ti_sl_int, ti_int, hit, hg]
    rw [if_pos ⟨trivial, trivial, rfl, by simp, hu⟩]
    have : min 1 n = 1 := by omega
    simp [this]
  obtain ⟨M', g1, g2, g3, g4⟩ := rep_loop (q := M.next + 2) v h6 n 1 ((((M.bump 4).set (M.next + 2) (some (List.replicate n (.int .i64 0)))).bump 4).set (M.next + 2) (some (List.replicate 1 (.int .i64 v) ++ List.replicate (n - 1) (.int .i64 0)))) (by omega) (by omega) h1 (by simp) (by simp)
  have hold : Old M M' := by
    intro i hi
    rw [g4 i (by omega) (by simp; omega)]
    have : ¬ (i = M.next + 2) := by omega
    simp [this]
  refine ⟨M', M.next + 2, ?_, g2, by simp at g3; omega, by omega, hold⟩
  simp [h_slices_Repeat_sl_int_int_0] at g1
  have hne : ¬ (id = M.next + 2) := by omega
  simp [c_slices_Repeat_sl_int_int, evW_reg, evW_chkr, isCst, TK.agg, zeroS, endS, resS, lenS, convS, w1, w2, w3, hn0, hn1, bits_Mul1_c _ h1 h6, hmk, hcp, hb, hne, g1]
/-- The first place of a number; -1. -/
def idxI (l : List Int) (v : Int) : Int := match (List.range l.length).find? (fun j => (l[j]?.map fun x => decide (v = x)).getD false) with
  | some i => (i : Int)
  | none => -1
theorem Index_ok {x : SV} {l : List Int} (hx : Ints x l) (hb : l.length < 4611686018427387904) (v : Int) : PCw ES n_slices_Index_sl_int_int [x, .int .i64 v] = some (.int .i64 (idxI l v)) := by
  refine PCw_ex (fun M => ?_) rfl
  rw [b_slices_Index_sl_int_int]
  obtain ⟨r, h1, M', h2⟩ := loop_find (E := ES) (me := n_slices_Index_sl_int_int) (B := c_slices_Index_sl_int_int_B0) (len := l.length) (T := fun j => h_slices_Index_sl_int_int_0 x (.int .i64 v) (.int .i64 l.length) (.int .i64 j))
    (I := fun _ _ => True) (p := fun j => (l[j]?.map fun x => decide (v = x)).getD false)
    (Q := fun o r => ∃ M', r = match o with
      | some j => (.ret, ⟨(h_slices_Index_sl_int_int_0 .bad .bad .bad .bad).set 4 (.int .i64 j), M'⟩)
      | none => (.exit 0, ⟨(h_slices_Index_sl_int_int_0 x (.int .i64 v) (.int .i64 l.length) (.int .i64 l.length)).set 9 (.bool false), M'⟩))
    (fun j M hj _ hpj => by
      obtain ⟨y, hy, _, ha, hl⟩ := RSl.item hx ti_sl_int ti_int Elm.int hj
      subst hy
      have hw : IntKind.i64.wrap ((j : Int) + 1) = (j : Int) + 1 := i64_in (by omega) (by omega)
      simp [hj] at hpj
      simp [c_slices_Index_sl_int_int_B0, evW_reg, evW_chkr, isCst, TK.agg, zeroS, endS, resS, h_slices_Index_sl_int_int_0, hj, ha, hl, hpj, hw])
    (fun j M hj _ hpj => by
      obtain ⟨y, hy, _, ha, hl⟩ := RSl.item hx ti_sl_int ti_int Elm.int hj
      subst hy
      simp [hj] at hpj
      simp [c_slices_Index_sl_int_int_B0, evW_reg, evW_chkr, isCst, TK.agg, zeroS, endS, resS, h_slices_Index_sl_int_int_0, hj, ha, hl, hpj])
    (fun M _ => by simp [c_slices_Index_sl_int_int_B0, evW_reg, evW_chkr, isCst, TK.agg, zeroS, endS, resS, h_slices_Index_sl_int_int_0]) M trivial
  unfold idxI
  cases hf : (List.range l.length).find? (fun j => (l[j]?.map fun x => decide (v = x)).getD false) with
  | none =>
    rw [hf] at h2
    subst h2
    simp [h_slices_Index_sl_int_int_0] at h1
    simp [c_slices_Index_sl_int_int, evW_reg, evW_chkr, isCst, TK.agg, zeroS, endS, resS, hx.lenS ti_sl_int, c_slices_Index_sl_int_int_L0, h1]
  | some j =>
    rw [hf] at h2
    subst h2
    simp [h_slices_Index_sl_int_int_0] at h1
    simp [c_slices_Index_sl_int_int, evW_reg, evW_chkr, isCst, TK.agg, zeroS, endS, resS, hx.lenS ti_sl_int, c_slices_Index_sl_int_int_L0, h1]
theorem Index_c (get) {x : SV} {l : List Int} (hx : Ints x l) (hb : l.length < 4611686018427387904) (v : Int) : callP (PCw ES) get n_slices_Index_sl_int_int [x, .int .i64 v] = some (.int .i64 (idxI l v)) := callP_of (Index_ok hx hb v) (by simp [hx.np12])

end Go.Proofs.YtbdliphlolajaaaDoor

/-
  Walks of the seat's functions: Dt.
-/
set_option linter.unusedVariables false
set_option linter.unusedSimpArgs false
set_option maxRecDepth 100000
namespace Go.Proofs.YtbdliphlolajaaaDoor
open Go.Proofs.YtbdliphlolajaaaDoor.Sh
/-! plan.Dists: its walk. -/
def iL (d : List Int) : List SV := d.map (SV.int .i64)
def trig (n : Int) (d : List Int) (x y : Int) : Bool := decide (dget d x = n ∧ dget d y < 0)
theorem relax_trig (n : Int) (d : List Int) (x y : Int) : relax n d x y = if trig n d x y then d.set y.toNat (n + 1) else d := by simp [relax, trig]
theorem ownI_ix {q len : Nat} {x : Int} (h0 : 0 ≤ x) (h1 : x < len) : indexAddrS ES.P T_sl_int (.own q 1 0 len) (.int .i64 x) = some (.ptr q x.toNat 0) := by
  have : x.toNat < len := by omega
  simp [indexAddrS, natS, h0, this]
theorem iL_get {d : List Int} {x : Int} (h0 : 0 ≤ x) (h1 : x < d.length) : (iL d)[x.toNat]? = some (.int .i64 (dget d x)) := by
  have : x.toNat < d.length := by omega
  simp [iL, dget, this]
theorem iL_set (d : List Int) (i : Nat) (v : Int) : (iL d).set i (.int .i64 v) = iL (d.set i v) := by simp [iL]
theorem own2_ix {s : Nat} {k : Nat} (hk : k < 2) : indexAddrS ES.P T_sl_a2_int (.own s 2 0 2) (.int .i64 k) = some (.ptr s k 0) := by simp [indexAddrS, natS, hk]
set_option maxHeartbeats 4000000 in
theorem ds_in {p q s len : Nat} {n : Nat} (hn : n ≤ 100) {d : List Int} (hd : d.length = len) {x y : Int} (hx : 0 ≤ x ∧ x < len) (hy : 0 ≤ y ∧ y < len) {k : Nat} (hk : k < 2) (L ll jj : SV) (more : Bool) {items : List SV}
    (hit : items[k]? = some (.agg [.int .i64 x, .int .i64 y])) (M : Mem) (hq : M.blk q = some (iL d)) (hs : M.blk s = some items) (lq : q < M.next) (ls : s < M.next) :
    ∃ M', evW ES n_plan_Dists c_plan_Dists_B0 ⟨h_plan_Dists_0 (.ptr p 0 0) (.own q 1 0 len) (.int .i64 n) (.bool more) L ll jj (.own s 2 0 2) (.int .i64 2) (.int .i64 k), M⟩ =
      some (.normal, ⟨h_plan_Dists_0 (.ptr p 0 0) (.own q 1 0 len) (.int .i64 n) (.bool (more || trig n d x y)) L ll jj (.own s 2 0 2) (.int .i64 2) (.int .i64 ((k : Int) + 1)), M'⟩) ∧
      M'.blk q = some (iL (relax n d x y)) ∧ (∀ id, id ≠ q → id < M.next → M'.blk id = M.blk id) ∧ M.next ≤ M'.next := by
  have hk' : (k : Int) < 2 := by omega
  have hw : IntKind.i64.wrap ((k : Int) + 1) = (k : Int) + 1 := i64_in (by omega) (by omega)
  have hw2 : IntKind.i64.wrap ((n : Int) + 1) = (n : Int) + 1 := i64_in (by omega) (by omega)
  have gx := ownI_ix (q := q) hx.1 hx.2
  have gy := ownI_ix (q := q) hy.1 hy.2
  have vx := iL_get (d := d) hx.1 (by omega)
  have vy := iL_get (d := d) hy.1 (by omega)
  have g2 := own2_ix (s := s) hk
  have hne : ∀ k, (q = M.next + k) = False := fun k => by simp; omega
  have hne2 : ∀ k, (s = M.next + k) = False := fun k => by simp; omega
  have hyl : y.toNat < (iL d).length := by simp [iL]; omega
  rw [relax_trig]
  by_cases t1 : dget d x = n
  · by_cases t2 : dget d y < 0
    · have ht : trig n d x y = true := by simp [trig, t1, t2]
      rw [ht]
      simp [c_plan_Dists_B0, evW_reg, evW_chkr, isCst, loadS, partS, TK.agg, fieldAddrS, zeroS, storeS, setPart, splice, endS, resS, fieldS, h_plan_Dists_0, hk', g2, hs, hit, hne, hne2, gx, gy, hq, vx, vy, t1, t2, hw, hw2, iL_set]
      intro id h1 h2
      have : ¬ (id = M.next + 2) := by omega
      simp [h1, this]
    · have ht : trig n d x y = false := by simp [trig, t2]
      rw [ht]
      simp [c_plan_Dists_B0, evW_reg, evW_chkr, isCst, loadS, partS, TK.agg, fieldAddrS, zeroS, storeS, setPart, splice, endS, resS, fieldS, h_plan_Dists_0, hk', g2, hs, hit, hne, hne2, gx, gy, hq, vx, vy, t1, t2, hw, hw2]
      intro id h1 h2
      have : ¬ (id = M.next + 2) := by omega
      simp [this]
  · have ht : trig n d x y = false := by simp [trig, t1]
    rw [ht]
    simp [c_plan_Dists_B0, evW_reg, evW_chkr, isCst, loadS, partS, TK.agg, fieldAddrS, zeroS, storeS, setPart, splice, endS, resS, fieldS, h_plan_Dists_0, hk', g2, hs, hit, hne, hne2, gx, gy, hq, vx, vy, t1, hw]
    intro id h1 h2
    have : ¬ (id = M.next + 2) := by omega
    simp [this]
set_option maxHeartbeats 4000000 in
theorem ds_link {c : Cfg} {P L : SV} (hP : CfgP c P L) {p q len : Nat} {n : Nat} (hn : n ≤ 100) {d : List Int} (hd : d.length = len) {j : Nat} (hj : j < c.links.length) (hl : okL len c.links[j]) (more : Bool)
    (M : Mem) (hq : M.blk q = some (iL d)) (lq : q < M.next) :
    ∃ M' m', evW ES n_plan_Dists c_plan_Dists_B1 ⟨h_plan_Dists_1 (.ptr p 0 0) (.own q 1 0 len) (.int .i64 n) (.bool more) L (.int .i64 c.links.length) (.int .i64 j), M⟩ =
      some (.normal, ⟨h_plan_Dists_1 (.ptr p 0 0) (.own q 1 0 len) (.int .i64 n) (.bool (more || m')) L (.int .i64 c.links.length) (.int .i64 ((j : Int) + 1)), M'⟩) ∧
      M'.blk q = some (iL (relaxL n d c.links[j])) ∧ (∀ id, id ≠ q → id < M.next → M'.blk id = M.blk id) ∧ M.next ≤ M'.next ∧
      (m' = false → relaxL n d c.links[j] = d) ∧ (m' = true → relaxL n d c.links[j] ≠ d) := by
  obtain ⟨o1, o2, o3, o4⟩ := hl
  have ha := Links.at hP.l hj
  have hw : IntKind.i64.wrap ((j : Int) + 1) = (j : Int) + 1 := i64_in (by omega) (by have := hP.ll; omega)
  have hne : ∀ k, (q = M.next + k) = False := fun k => by simp; omega
  generalize hLk : c.links[j] = l at *
  have bl : bldS ES.P T_a2_int [(0, .int .i64 l.a), (1, .int .i64 l.b)] = some (.agg [.int .i64 l.a, .int .i64 l.b]) := by simp [bldS, placesOf, buildS, splice]
  have bl2 : bldS ES.P T_a2_int [(0, .int .i64 l.b), (1, .int .i64 l.a)] = some (.agg [.int .i64 l.b, .int .i64 l.a]) := by simp [bldS, placesOf, buildS, splice]
  have bs : ∀ a : Nat, bldSl ES.P T_sl_a2_int 2 a [(0, .agg [.int .i64 l.a, .int .i64 l.b]), (1, .agg [.int .i64 l.b, .int .i64 l.a])] = some (.own a 2 0 2, [.agg [.int .i64 l.a, .int .i64 l.b], .agg [.int .i64 l.b, .int .i64 l.a]]) := fun a => by simp [bldSl, buildRow]
  have lhs : ∃ s M1, s < M1.next ∧ M1.blk s = some [.agg [.int .i64 l.a, .int .i64 l.b], .agg [.int .i64 l.b, .int .i64 l.a]] ∧ M1.blk q = some (iL d) ∧ q < M1.next ∧ s ≠ q ∧ M.next ≤ M1.next ∧ M.next ≤ s ∧ (∀ id, id < M.next → M1.blk id = M.blk id) ∧
      ∀ r, evW ES n_plan_Dists c_plan_Dists_L0 ⟨h_plan_Dists_0 (.ptr p 0 0) (.own q 1 0 len) (.int .i64 n) (.bool more) L (.int .i64 c.links.length) (.int .i64 j) (.own s 2 0 2) (.int .i64 2) (.int .i64 0), M1⟩ = some r →
        (∀ m M', r = (.exit 4, ⟨(h_plan_Dists_0 (.ptr p 0 0) (.own q 1 0 len) (.int .i64 n) (.bool m) L (.int .i64 c.links.length) (.int .i64 j) (.own s 2 0 2) (.int .i64 2) (.int .i64 2)).set 43 (.bool false), M'⟩) →
          evW ES n_plan_Dists c_plan_Dists_B1 ⟨h_plan_Dists_1 (.ptr p 0 0) (.own q 1 0 len) (.int .i64 n) (.bool more) L (.int .i64 c.links.length) (.int .i64 j), M⟩ =
            some (.normal, ⟨h_plan_Dists_1 (.ptr p 0 0) (.own q 1 0 len) (.int .i64 n) (.bool m) L (.int .i64 c.links.length) (.int .i64 ((j : Int) + 1)), M'⟩)) := by
    refine ⟨M.next + 4 + 10, (((((M.bump 4).set (M.next + 2) (some [.agg [.int .i64 0, .int .i64 0, .int .i64 0, .int .i64 0, .int .i64 0, .int .i64 0]])).set (M.next + 2) (some [encLink l])).bump 13).set (M.next + 4 + 10) (some [.agg [.int .i64 l.a, .int .i64 l.b], .agg [.int .i64 l.b, .int .i64 l.a]])), ?_, ?_, ?_, ?_, ?_, ?_, ?_, ?_, ?_⟩
    · simp
    · simp
    · have : ¬ (q = M.next + 4 + 10) := by omega
      simp [hne, hq, this]
    · simp; omega
    · omega
    · simp; omega
    · omega
    · intro id hid
      have h1 : ¬ (id = M.next + 4 + 10) := by omega
      have h2 : ¬ (id = M.next + 2) := by omega
      simp [h1, h2]
    · intro r hr m M' he
      subst he
      simp [h_plan_Dists_0] at hr
      simp [c_plan_Dists_B1, evW_reg, evW_chkr, isCst, loadS, partS, TK.agg, fieldAddrS, zeroS, storeS, setPart, splice, endS, resS, fieldS, h_plan_Dists_1, hj, ha, hLk, bl, bl2, bs, lenS, hr, hw]
  obtain ⟨s, M1, a1, a2, a3, a4, a5, a6, a7, a8, a9⟩ := lhs
  obtain ⟨M2, b1, b2, b3, b4⟩ := ds_in hn hd (p := p) (q := q) (s := s) (x := l.a) (y := l.b) ⟨o1, o2⟩ ⟨o3, o4⟩ (k := 0) (by omega) L (.int .i64 c.links.length) (.int .i64 j) more (items := [.agg [.int .i64 l.a, .int .i64 l.b], .agg [.int .i64 l.b, .int .i64 l.a]]) rfl M1 a3 a2 a4 a1
  obtain ⟨M3, c1, c2, c3, c4⟩ := ds_in hn (d := relax n d l.a l.b) (by simpa using hd) (p := p) (q := q) (s := s) (x := l.b) (y := l.a) ⟨o3, o4⟩ ⟨o1, o2⟩ (k := 1) (by omega) L (.int .i64 c.links.length) (.int .i64 j) (more || trig n d l.a l.b) (items := [.agg [.int .i64 l.a, .int .i64 l.b], .agg [.int .i64 l.b, .int .i64 l.a]]) rfl M2 b2 (by rw [b3 s a5 a1]; exact a2) (by omega) (by omega)
  have fin : evW ES n_plan_Dists c_plan_Dists_L0 ⟨h_plan_Dists_0 (.ptr p 0 0) (.own q 1 0 len) (.int .i64 n) (.bool more) L (.int .i64 c.links.length) (.int .i64 j) (.own s 2 0 2) (.int .i64 2) (.int .i64 0), M1⟩ =
      some (.exit 4, ⟨(h_plan_Dists_0 (.ptr p 0 0) (.own q 1 0 len) (.int .i64 n) (.bool (more || trig n d l.a l.b || trig n (relax n d l.a l.b) l.b l.a)) L (.int .i64 c.links.length) (.int .i64 j) (.own s 2 0 2) (.int .i64 2) (.int .i64 2)).set 43 (.bool false), M3⟩) := by
    unfold c_plan_Dists_L0
    rw [evW_loop, show ((0 : Int)) = ((0 : Nat) : Int) from rfl, b1]
    simp only
    rw [evW_loop, show (((0 : Nat) : Int) + 1) = ((1 : Nat) : Int) from rfl, c1]
    simp only
    rw [evW_loop]
    simp [c_plan_Dists_B0, evW_reg, evW_chkr, isCst, loadS, partS, TK.agg, fieldAddrS, zeroS, storeS, setPart, splice, endS, resS, fieldS, h_plan_Dists_0]
  refine ⟨M3, trig n d l.a l.b || trig n (relax n d l.a l.b) l.b l.a, ?_, c2, fun id h1 h2 => ?_, by omega, fun h => ?_, fun h => ?_⟩
  · rw [← Bool.or_assoc]
    exact a9 _ fin _ _ rfl
  · rw [c3 id h1 (by omega), b3 id h1 (by omega), a8 id h2]
  · simp only [Bool.or_eq_false_iff] at h
    unfold relaxL
    have e1 : relax n d l.a l.b = d := by rw [relax_trig, h.1]; rfl
    rw [e1] at h ⊢
    rw [relax_trig, h.2]; rfl
  · intro e
    have hneg : ∀ (d' : List Int) (x y : Int), d'.length = len → y.toNat < len → 0 ≤ y → trig n d' x y = true → negs (relax n d' x y) + 1 = negs d' := by
      intro d' x y hd' hy hy0 ht
      rw [relax_trig, ht]
      simp [trig] at ht
      exact negs_set (by omega) ht.2 (by omega)
    have hle : ∀ (d' : List Int) (x y : Int), d'.length = len → y.toNat < len → negs (relax n d' x y) ≤ negs d' := by
      intro d' x y hd' hy
      rcases relax_or (n := (n : Int)) (by omega) (d := d') (x := x) (y := y) (by omega) with h | h
      · rw [h]; exact Nat.le_refl _
      · omega
    have k1 := hle d l.a l.b hd (by omega)
    have k2 := hle (relax n d l.a l.b) l.b l.a (by simpa using hd) (by omega)
    have k3 : negs (relaxL n d l) = negs d := by rw [e]
    unfold relaxL at k3
    simp only [Bool.or_eq_true] at h
    rcases h with h | h
    · have := hneg d l.a l.b hd (by omega) o3 h; omega
    · have := hneg (relax n d l.a l.b) l.b l.a (by simpa using hd) (by omega) o1 h; omega

end Go.Proofs.YtbdliphlolajaaaDoor

/-
  Walks of the seat's functions: Du.
-/
set_option linter.unusedVariables false
set_option linter.unusedSimpArgs false
set_option maxRecDepth 100000
namespace Go.Proofs.YtbdliphlolajaaaDoor
open Go.Proofs.YtbdliphlolajaaaDoor.Sh
/-! plan.Dists: rounds. -/
set_option maxHeartbeats 4000000 in
theorem ds_pass {c : Cfg} {P L : SV} (hP : CfgP c P L) {p q len : Nat} {n : Nat} (hn : n ≤ 100) {d : List Int} (hd : d.length = len) (hl : ∀ l ∈ c.links, okL len l) (M : Mem) (hq : M.blk q = some (iL d)) (lq : q < M.next) :
    ∃ M' m, evW ES n_plan_Dists c_plan_Dists_L1 ⟨h_plan_Dists_1 (.ptr p 0 0) (.own q 1 0 len) (.int .i64 n) (.bool false) L (.int .i64 c.links.length) (.int .i64 0), M⟩ =
      some (.exit 2, ⟨(h_plan_Dists_1 (.ptr p 0 0) (.own q 1 0 len) (.int .i64 n) (.bool m) L (.int .i64 c.links.length) (.int .i64 c.links.length)).set 27 (.bool false), M'⟩) ∧
      M'.blk q = some (iL (passL n c.links d)) ∧ (∀ id, id ≠ q → id < M.next → M'.blk id = M.blk id) ∧ M.next ≤ M'.next ∧ (m = false → passL n c.links d = d) ∧ (m = true → passL n c.links d ≠ d) := by
  obtain ⟨r, g1, m, M', rfl, g2, g3, g4, g5, g6⟩ := loop_st (E := ES) (me := n_plan_Dists) (B := c_plan_Dists_B1) (β := Bool) (len := c.links.length)
    (T := fun j m => h_plan_Dists_1 (.ptr p 0 0) (.own q 1 0 len) (.int .i64 n) (.bool m) L (.int .i64 c.links.length) (.int .i64 j))
    (I := fun j m M1 => M1.blk q = some (iL (passL n (c.links.take j) d)) ∧ (∀ id, id ≠ q → id < M.next → M1.blk id = M.blk id) ∧ M.next ≤ M1.next ∧ (m = false → passL n (c.links.take j) d = d) ∧ (m = true → negs (passL n (c.links.take j) d) < negs d))
    (Q := fun r => ∃ m M', r = (.exit 2, ⟨(h_plan_Dists_1 (.ptr p 0 0) (.own q 1 0 len) (.int .i64 n) (.bool m) L (.int .i64 c.links.length) (.int .i64 c.links.length)).set 27 (.bool false), M'⟩) ∧
      M'.blk q = some (iL (passL n c.links d)) ∧ (∀ id, id ≠ q → id < M.next → M'.blk id = M.blk id) ∧ M.next ≤ M'.next ∧ (m = false → passL n c.links d = d) ∧ (m = true → passL n c.links d ≠ d))
    (fun j m M1 hj ⟨h1, h2, h3, h4, h5⟩ => by
      left
      have hpl : passL n (c.links.take (j + 1)) d = relaxL n (passL n (c.links.take j) d) c.links[j] := foldl_take hj
      have hok := hl c.links[j] (List.getElem_mem hj)
      obtain ⟨M2, m', k1, k2, k3, k4, k5, k6⟩ := ds_link hP hn (d := passL n (c.links.take j) d) (by simpa using hd) hj hok m (p := p) M1 h1 (by omega)
      refine ⟨m || m', M2, k1, by rw [hpl]; exact k2, fun id i1 i2 => by rw [k3 id i1 (by omega), h2 id i1 i2], by omega, fun hm => ?_, fun hm => ?_⟩
      · simp only [Bool.or_eq_false_iff] at hm
        rw [hpl, k5 hm.2, h4 hm.1]
      · rw [hpl]
        have hor := relaxL_or (n := (n : Int)) (by omega) (d := passL n (c.links.take j) d) (l := c.links[j]) (by simpa [hd] using hok)
        cases hm' : m' with
        | true =>
          have := k6 hm'
          rcases hor with e | e
          · exact absurd e this
          · cases hmm : m with
            | true => have := h5 hmm; omega
            | false => have := h4 hmm; rw [this] at e ⊢; omega
        | false =>
          rw [k5 hm']
          rw [hm'] at hm
          exact h5 (by simpa using hm))
    (fun m M1 ⟨h1, h2, h3, h4, h5⟩ => by
      rw [List.take_length] at h1 h4 h5
      refine ⟨_, by simp [c_plan_Dists_B1, evW_reg, evW_chkr, isCst, loadS, partS, TK.agg, fieldAddrS, zeroS, storeS, setPart, splice, endS, resS, fieldS, h_plan_Dists_1], by simp, m, M1, rfl, h1, h2, h3, h4, fun hm e => ?_⟩
      have := h5 hm
      rw [e] at this
      omega) 0 false M (by omega) ⟨by simpa [passL] using hq, fun _ _ _ => rfl, Nat.le_refl _, fun _ => rfl, fun h => by cases h⟩
  exact ⟨M', m, g1, g2, g3, g4, g5, g6⟩
set_option maxHeartbeats 4000000 in
theorem ds_out {c : Cfg} {P L : SV} (hP : CfgP c P L) {p q len : Nat} {fr : Int} (hlen : len ≤ 50) (hf : 0 ≤ fr ∧ fr < len) (hl : ∀ l ∈ c.links, okL len l) (hpq : p ≠ q) : ∀ (fuel k : Nat) (M : Mem), len - k ≤ fuel → (∀ i < k, distK c.links len fr (i + 1) ≠ distK c.links len fr i) →
    M.blk q = some (iL (distK c.links len fr k)) → q < M.next → M.blk p = some [.agg (cfgC c P L)] → p < M.next →
    ∃ M' n', evW ES n_plan_Dists c_plan_Dists_L2 ⟨h_plan_Dists_2 (.ptr p 0 0) (.own q 1 0 len) (.int .i64 k) (.bool true), M⟩ =
      some (.exit 0, ⟨(h_plan_Dists_2 (.ptr p 0 0) (.own q 1 0 len) (.int .i64 n') .bad).set 20 (.bool false), M'⟩) ∧ M'.blk q = some (iL (distL c.links len fr)) := by
  intro fuel
  induction fuel with
  | zero =>
    intro k M hk h1 _ _ _ _
    have := distK_negs hl hf k h1
    omega
  | succ fuel ih =>
    intro k M hk h1 hq lq hp lp
    have hneg := distK_negs hl hf k h1
    have hlen' := hP.l.lenS ti_sl_api_Link
    have hw : IntKind.i64.wrap ((k : Int) + 1) = ((k + 1 : Nat) : Int) := by rw [i64_in (by omega) (by omega)]; omega
    obtain ⟨M1, m, a1, a2, a3, a4, a5, a6⟩ := ds_pass hP (p := p) (q := q) (n := k) (by omega) (d := distK c.links len fr k) (by simp) hl M hq lq
    have hp0 := hp
    simp only [cfgC] at hp0
    have round : ∀ r, (evW ES n_plan_Dists c_plan_Dists_L2 ⟨h_plan_Dists_2 (.ptr p 0 0) (.own q 1 0 len) (.int .i64 ((k + 1 : Nat) : Int)) (.bool m), M1⟩ = some r) →
        evW ES n_plan_Dists c_plan_Dists_L2 ⟨h_plan_Dists_2 (.ptr p 0 0) (.own q 1 0 len) (.int .i64 k) (.bool true), M⟩ = some r := by
      intro r hr
      rw [← hr]
      unfold c_plan_Dists_L2
      rw [evW_loop]
      simp [h_plan_Dists_1] at a1
      simp [c_plan_Dists_B2, evW_reg, evW_chkr, isCst, loadS, partS, TK.agg, fieldAddrS, zeroS, storeS, setPart, splice, endS, resS, fieldS, h_plan_Dists_2, hp0, hlen', a1, hw]
    cases m with
    | true =>
      obtain ⟨M', n', b1, b2⟩ := ih (k + 1) M1 (by omega) (fun i hi => by
        rcases Nat.lt_or_ge i k with h | h
        · exact h1 i h
        · obtain rfl : i = k := by omega
          exact a6 rfl) a2 (by omega) (by rw [a3 p hpq lp]; exact hp) (by omega)
      exact ⟨M', n', round _ b1, b2⟩
    | false =>
      refine ⟨M1, ((k + 1 : Nat) : Int), round _ ?_, ?_⟩
      · unfold c_plan_Dists_L2
        rw [evW_loop]
        simp [c_plan_Dists_B2, evW_reg, evW_chkr, isCst, loadS, partS, TK.agg, fieldAddrS, zeroS, storeS, setPart, splice, endS, resS, fieldS, h_plan_Dists_2]
      · have e := a5 rfl
        rw [a2, e, distK_fin hl hf h1 e]
set_option maxHeartbeats 4000000 in
theorem Dists_ok {y : SV} {c : Cfg} (hc : CfgR y c) {fr : Int} (h1 : 1 ≤ c.parts.length) (h6 : c.parts.length ≤ 6) (hf : 0 ≤ fr ∧ fr < c.parts.length) (hl : ∀ l ∈ c.links, okL c.parts.length l) :
    PCw ES n_plan_Dists [y, .int .i64 fr] = some (.sl (iL (distL c.links c.parts.length fr)) .ro) := by
  obtain ⟨P, L, rfl, hP⟩ := hc
  have hln : (distL c.links c.parts.length fr).length = c.parts.length := by simp [distL]
  have hll : (iL (distL c.links c.parts.length fr)).length = c.parts.length := by simp [iL, hln]
  refine PCw_own (esz := 1) (fun M0 => ?_) (fun y hy => by
    simp only [iL, List.mem_map] at hy
    obtain ⟨x, _, rfl⟩ := hy
    rfl)
  rw [hll]
  rw [b_plan_Dists]
  have hlenp := hP.p.lenS ti_sl_api_Part
  have bs : ∀ a, bldSl ES.P T_sl_int 1 a [(0, .int .i64 (-1))] = some (.own a 1 0 1, [.int .i64 (-1)]) := fun a => by simp [bldSl, buildRow]
  obtain ⟨M1, q, r1, r2, r3, r4, r5⟩ := Repeat_ok (n := c.parts.length) (id := M0.next + 2) (-1) h1 h6 ((((M0.bump 2).set M0.next (some [.agg (cfgC c P L)])).bump 6).set (M0.next + 2) (some [.int .i64 (-1)])) (by simp) (by simp)
  simp at r3 r4
  have hix := ownI_ix (q := q) (len := c.parts.length) hf.1 hf.2
  have hp1 : M1.blk M0.next = some [.agg (cfgC c P L)] := by
    have := r5 M0.next (by simp; omega)
    rw [this]
    simp
  obtain ⟨M2, n', b1, b2⟩ := ds_out hP (p := M0.next) (q := q) (len := c.parts.length) (fr := fr) (by omega) hf hl (by omega) c.parts.length 0 (M1.set q (some (iL (dinit c.parts.length fr)))) (by omega) (fun i hi => by omega) (by simp [distK]) (by simpa using r3)
    (by have : ¬ (M0.next = q) := by omega
        simp [this, hp1]) (by simp; omega)
  have e0 : (List.replicate c.parts.length (SV.int .i64 (-1))).set fr.toNat (.int .i64 0) = iL (dinit c.parts.length fr) := by simp [iL, dinit]
  have hlt : fr.toNat < c.parts.length := by omega
  simp only [cfgC] at r1
  simp [h_plan_Dists_2] at b1
  refine ⟨M2, q, ?_, b2⟩
  simp [c_plan_Dists, evW_reg, evW_chkr, isCst, loadS, partS, TK.agg, fieldAddrS, zeroS, storeS, setPart, splice, endS, resS, fieldS, cfgC, hlenp, bs, r1, hix, r2, e0, hlt, b1]
theorem Dists_c (get) {y : SV} {c : Cfg} (hc : CfgR y c) {fr : Int} (h1 : 1 ≤ c.parts.length) (h6 : c.parts.length ≤ 6) (hf : 0 ≤ fr ∧ fr < c.parts.length) (hl : ∀ l ∈ c.links, okL c.parts.length l) :
    callP (PCw ES) get n_plan_Dists [y, .int .i64 fr] = some (.sl (iL (distL c.links c.parts.length fr)) .ro) := callP_of (Dists_ok hc h1 h6 hf hl) (by simp [hc.np12])
theorem iL_ints (d : List Int) (tl : Tl) : Ints (.sl (iL d) tl) d := RSl.of_map rfl rfl

end Go.Proofs.YtbdliphlolajaaaDoor

/-
  Walks of the seat's functions: Ck.
-/
set_option linter.unusedVariables false
set_option linter.unusedSimpArgs false
set_option maxRecDepth 100000
namespace Go.Proofs.YtbdliphlolajaaaDoor
open Go.Proofs.YtbdliphlolajaaaDoor.Sh
/-! plan.check, plan.Check, plan.Right. -/
def checkErr (c : Cfg) : Option (Int × Int) := match partsErr c with
  | some e => some e
  | none => match linksErr c with
    | some e => some e
    | none => if 0 ≤ idxI (distL c.links c.parts.length 0) (-1) then some (13, idxI (distL c.links c.parts.length 0) (-1)) else none
def checkG (c : Cfg) : Int × Int := (checkErr c).getD (0, 0)
theorem partsErr_none {c : Cfg} (h : partsErr c = none) : 1 ≤ c.parts.length ∧ c.parts.length ≤ 6 ∧ ∀ p ∈ c.parts, partBad p = false := by
  unfold partsErr at h
  split at h
  · cases h
  rename_i h1
  split at h
  · cases h
  rename_i h2
  rw [List.find?_range_eq_none] at h2
  refine ⟨by omega, by omega, fun p hp => ?_⟩
  obtain ⟨j, hj, rfl⟩ := List.mem_iff_getElem.1 hp
  simpa [hj] using h2 j hj
theorem linksErr_none {c : Cfg} (h : linksErr c = none) : c.links.length ≤ 10 ∧ ∀ (j : Nat) (hj : j < c.links.length), linkErr c j c.links[j] = 0 := by
  unfold linksErr at h
  split at h
  · cases h
  rename_i h1
  split at h
  · cases h
  rename_i h2
  rw [List.find?_range_eq_none] at h2
  refine ⟨by omega, fun j hj => ?_⟩
  simpa [hj] using h2 j hj
theorem linkErr_zero {c : Cfg} {i : Nat} {l : Link} (h : linkErr c i l = 0) : badEnds c l = false ∧ twice (c.links.take i) l = false ∧ endBad c i l.a l.pa0 l.pa1 = false ∧ endBad c i l.b l.pb0 l.pb1 = false := by
  unfold linkErr at h
  split at h
  · cases h
  rename_i h1
  split at h
  · cases h
  rename_i h2
  split at h
  · cases h
  rename_i h3
  simp only [Bool.or_eq_true, not_or, Bool.not_eq_true] at h1 h2 h3
  exact ⟨h1, h2, h3.1, h3.2⟩
theorem linksErr_ok {c : Cfg} (h : linksErr c = none) : ∀ l ∈ c.links, okL c.parts.length l := by
  intro l hl
  obtain ⟨j, hj, rfl⟩ := List.mem_iff_getElem.1 hl
  obtain ⟨h1, h2, h3⟩ := badEnds_ok (linkErr_zero ((linksErr_none h).2 j hj)).1
  exact ⟨h1.1, h1.2, h2.1, h2.2⟩
theorem linkErr_cases (c : Cfg) (i : Nat) (l : Link) : linkErr c i l = 0 ∨ linkErr c i l = 10 ∨ linkErr c i l = 11 ∨ linkErr c i l = 12 := by
  unfold linkErr
  (repeat' split) <;> simp
theorem checkErr_range {c : Cfg} {e i : Int} (h : checkErr c = some (e, i)) : 7 ≤ e ∧ e ≤ 13 := by
  unfold checkErr at h
  split at h
  · rename_i x hx
    simp only [Option.some.injEq] at h
    subst h
    unfold partsErr at hx
    split at hx
    · simp at hx; omega
    split at hx
    · simp at hx; omega
    · cases hx
  split at h
  · rename_i x hx
    simp only [Option.some.injEq] at h
    subst h
    unfold linksErr at hx
    split at hx
    · simp at hx; omega
    split at hx
    · rename_i j hj
      rw [List.find?_range_eq_some] at hj
      obtain ⟨h1, h2, _⟩ := hj
      have hlt : j < c.links.length := by simpa using h2
      simp [hlt] at hx h1
      have := linkErr_cases c j c.links[j]
      omega
    · cases hx
  split at h
  · simp at h; omega
  · cases h
theorem ICw_prim {E : Env} {f : Nat} {p : List SV → Mem → Option (SV × Mem)} (h : E.prim f = some p) (args : List SV) (M : Mem) : ICw E f args M = p args M := by
  apply opt_ext
  intro r
  rw [ICw_eq]
  constructor
  · rintro ⟨n, hn⟩
    cases n with
    | zero => simp [callN] at hn
    | succ n => simpa [callN, h] using hn
  · intro hr
    exact ⟨1, by simpa [callN, h] using hr⟩
theorem binS_errnil {P : Program} {t a b : Nat} {z : Option SV} (ht : tiOf P t = some ⟨.iface, a, b, z⟩) (o : Option (Int × Int)) : binS P .neq t true (errO o) .nili = some (.bool o.isSome) := by
  cases o with
  | none => simp [errO, binS, eqS, ht]
  | some x => simp [errO, errSV, binS, eqS, ht]
theorem plan_check_ok {y : SV} {c : Cfg} (hc : CfgR y c) : PCw ES n_plan_check [y] = some (errO (checkErr c)) := by
  have hcy := hc
  obtain ⟨P, L, rfl, hP⟩ := hc
  refine PCw_ex (fun M0 => ?_) (errO_pv _)
  rw [b_plan_check]
  have h1 := fun get => plan_parts_c get hcy
  have h2 := fun get => plan_links_c get hcy
  simp only [cfgC] at h1 h2
  have hb := binS_errnil (P := ES.P) ti_error
  have hb0 : binS ES.P .neq T_error true .nili .nili = some (.bool false) := hb none
  cases hp : partsErr c with
  | some e =>
    have e1 : checkErr c = some e := by simp [checkErr, hp]
    rw [hp] at h1
    rw [e1]
    simp [c_plan_check, evW_reg, evW_chkr, isCst, loadS, partS, TK.agg, fieldAddrS, zeroS, storeS, setPart, splice, endS, resS, fieldS, cfgC, h1, hb]
  | none =>
    rw [hp] at h1
    cases hl : linksErr c with
    | some e =>
      have e1 : checkErr c = some e := by simp [checkErr, hp, hl]
      rw [hl] at h2
      rw [e1]
      simp [c_plan_check, evW_reg, evW_chkr, isCst, loadS, partS, TK.agg, fieldAddrS, zeroS, storeS, setPart, splice, endS, resS, fieldS, cfgC, h1, h2, hb]
    | none =>
      rw [hl] at h2
      obtain ⟨q1, q2, _⟩ := partsErr_none hp
      have h3 := fun get => Dists_c get hcy (fr := 0) q1 q2 ⟨by omega, by omega⟩ (linksErr_ok hl)
      simp only [cfgC] at h3
      have h4 := fun get => Index_c get (iL_ints (distL c.links c.parts.length 0) .ro) (by simp [distL]; omega) (-1)
      by_cases hi : 0 ≤ idxI (distL c.links c.parts.length 0) (-1)
      · have e1 : checkErr c = some (13, idxI (distL c.links c.parts.length 0) (-1)) := by simp [checkErr, hp, hl, hi]
        rw [e1]
        simp [c_plan_check, evW_reg, evW_chkr, isCst, loadS, partS, TK.agg, fieldAddrS, zeroS, storeS, setPart, splice, endS, resS, fieldS, cfgC, h1, h2, h3, h4, hb, hb0, hi, errO]
      · have e1 : checkErr c = none := by simp [checkErr, hp, hl, hi]
        rw [e1]
        simp [c_plan_check, evW_reg, evW_chkr, isCst, loadS, partS, TK.agg, fieldAddrS, zeroS, storeS, setPart, splice, endS, resS, fieldS, cfgC, h1, h2, h3, h4, hb, hb0, hi, errO]
theorem plan_check_c (get) {y : SV} {c : Cfg} (hc : CfgR y c) : callP (PCw ES) get n_plan_check [y] = some (errO (checkErr c)) := callP_of (plan_check_ok hc) (by simp [hc.np12])
theorem As_nil (t : Nat) (v : SV) (M : Mem) : ICw ES n_errors_As [.nili, .iface t v] M = some (.bool false, M) := ICw_prim (p := prim_errors_As) rfl _ _
theorem As_P {items : List SV} {i o id : Nat} {st : Bool} {y : SV} {M : Mem} (hb : M.blk id = some [y]) (hy : y.cells.length = 1) :
    ICw ES n_errors_As [.iface T_p_plan_fault (.rptr items i o st), .iface T_p_p_plan_fault (.ptr id 0 0)] M = some (.bool true, M.set id (some [.rptr items i o st])) := by
  rw [ICw_prim (p := prim_errors_As) rfl]
  have : asPairs.contains (T_p_plan_fault, T_p_p_plan_fault) = true := rfl
  simp only [prim_errors_As, this, if_true, hb, hy]
theorem Is_P (e a n : Int) (M : Mem) : ICw ES n_errors_Is [errSV e a, .iface T_plan_code (.int .i64 n)] M = some (.bool (e == n), M) := by
  rw [ICw_prim (p := prim_errors_Is) rfl]
  simp [prim_errors_Is, errSV]
set_option maxHeartbeats 4000000 in
theorem plan_Check_ok {y : SV} {c : Cfg} (hc : CfgR y c) : PCw ES n_plan_Check [y] = some (.tup [.int .i64 (checkG c).1, .int .i64 (checkG c).2]) := by
  have hcy := hc
  obtain ⟨P, L, rfl, hP⟩ := hc
  refine PCw_ex (fun M0 => ?_) rfl
  rw [b_plan_Check]
  have h1 := fun get => plan_check_c get hcy
  simp only [cfgC] at h1
  cases he : checkErr c with
  | none =>
    rw [he] at h1
    have e1 : checkG c = (0, 0) := by simp [checkG, he]
    rw [e1]
    simp [c_plan_Check, evW_reg, evW_chkr, isCst, loadS, partS, TK.agg, fieldAddrS, zeroS, storeS, setPart, splice, endS, resS, fieldS, cfgC, h1, errO, makeIS, As_nil]
  | some ei =>
    obtain ⟨e, a⟩ := ei
    rw [he] at h1
    have e1 : checkG c = (e, a) := by simp [checkG, he]
    rw [e1]
    obtain ⟨k1, k2⟩ := checkErr_range he
    have bs : ∀ q, bldSl ES.P T_sl_api_Errno 6 q [(0, .int .i64 7), (1, .int .i64 8), (2, .int .i64 9), (3, .int .i64 10), (4, .int .i64 11), (5, .int .i64 12)] = some (.own q 1 0 6, [.int .i64 7, .int .i64 8, .int .i64 9, .int .i64 10, .int .i64 11, .int .i64 12]) := fun q => by simp [bldSl, buildRow]
    have loop := fun f s M1 hI => loop_find (E := ES) (me := n_plan_Check) (B := c_plan_Check_B0) (len := 6) (T := fun j => h_plan_Check_0 (errSV e a) (.ptr f 0 0) (.own s 1 0 6) (.int .i64 6) (.int .i64 j))
      (I := fun _ M => M.blk f = some [.rptr [.agg [.int .i64 a, .iface T_plan_code (.int .i64 e)]] 0 0 true] ∧ M.blk s = some [.int .i64 7, .int .i64 8, .int .i64 9, .int .i64 10, .int .i64 11, .int .i64 12])
      (p := fun j => e == 7 + (j : Int))
      (Q := fun o r => ∃ M', M'.blk f = some [.rptr [.agg [.int .i64 a, .iface T_plan_code (.int .i64 e)]] 0 0 true] ∧ r = match o with
        | some j => (.ret, ⟨((h_plan_Check_0 .bad .bad .bad .bad .bad).set 2 (.int .i64 e)).set 3 (.int .i64 a), M'⟩)
        | none => (.exit 0, ⟨(h_plan_Check_0 (errSV e a) (.ptr f 0 0) (.own s 1 0 6) (.int .i64 6) (.int .i64 6)).set 17 (.bool false), M'⟩))
      (fun j M hj ⟨hf, hs⟩ hpj => by
        have hj' : (j : Int) < 6 := by omega
        have hw : IntKind.i64.wrap ((j : Int) + 1) = (j : Int) + 1 := i64_in (by omega) (by omega)
        have hix : indexAddrS ES.P T_sl_api_Errno (.own s 1 0 6) (.int .i64 j) = some (.ptr s j 0) := by simp [indexAddrS, natS, hj]
        have hit : ([SV.int .i64 7, .int .i64 8, .int .i64 9, .int .i64 10, .int .i64 11, .int .i64 12] : List SV)[j]? = some (.int .i64 (7 + j)) := by
          have : j = 0 ∨ j = 1 ∨ j = 2 ∨ j = 3 ∨ j = 4 ∨ j = 5 := by omega
          rcases this with rfl | rfl | rfl | rfl | rfl | rfl <;> rfl
        simp only [beq_eq_false_iff_ne] at hpj
        have hpb : (e == 7 + (j : Int)) = false := by simp [hpj]
        simp [c_plan_Check_B0, evW_reg, evW_chkr, isCst, loadS, partS, TK.agg, fieldAddrS, zeroS, storeS, setPart, splice, endS, resS, fieldS, h_plan_Check_0, hj', hix, hs, hit, makeIS, Is_P, hpb, hw, hpj, hf])
      (fun j M hj ⟨hf, hs⟩ hpj => by
        have hj' : (j : Int) < 6 := by omega
        have hix : indexAddrS ES.P T_sl_api_Errno (.own s 1 0 6) (.int .i64 j) = some (.ptr s j 0) := by simp [indexAddrS, natS, hj]
        have hit : ([SV.int .i64 7, .int .i64 8, .int .i64 9, .int .i64 10, .int .i64 11, .int .i64 12] : List SV)[j]? = some (.int .i64 (7 + j)) := by
          have : j = 0 ∨ j = 1 ∨ j = 2 ∨ j = 3 ∨ j = 4 ∨ j = 5 := by omega
          rcases this with rfl | rfl | rfl | rfl | rfl | rfl <;> rfl
        simp only [beq_iff_eq] at hpj
        subst hpj
        simp [c_plan_Check_B0, evW_reg, evW_chkr, isCst, loadS, partS, TK.agg, fieldAddrS, zeroS, storeS, setPart, splice, endS, resS, fieldS, h_plan_Check_0, hj', hix, hs, hit, makeIS, Is_P, hf])
      (fun M ⟨hf, hs⟩ => by
        simp [c_plan_Check_B0, evW_reg, evW_chkr, isCst, loadS, partS, TK.agg, fieldAddrS, zeroS, storeS, setPart, splice, endS, resS, fieldS, h_plan_Check_0]
        exact hf) M1 hI
    obtain ⟨r, g1, M', hM', g2⟩ := loop (M0.next + 3) (M0.next + 8) ((((((((M0.bump 3).set M0.next (some [.agg (cfgC c P L)])).bump 1).set (M0.next + 3) (some [.nilp])).bump 4).set (M0.next + 3) (some [.rptr [.agg [.int .i64 a, .iface T_plan_code (.int .i64 e)]] 0 0 true])).bump 3).set (M0.next + 8) (some [.int .i64 7, .int .i64 8, .int .i64 9, .int .i64 10, .int .i64 11, .int .i64 12])) (by simp)
    simp [h_plan_Check_0, cfgC] at g1
    rw [g2] at g1
    have hsome : ∀ j : Nat, (List.range 6).find? (fun j : Nat => e == 7 + (j : Int)) = some j → e = 7 + (j : Int) := fun j hj => by
      have := (List.find?_range_eq_some.1 hj).1
      simpa using this
    have hnone : (List.range 6).find? (fun j : Nat => e == 7 + (j : Int)) = none → e = 13 := fun hj => by
      rw [List.find?_range_eq_none] at hj
      have q0 := hj 0 (by omega)
      have q1 := hj 1 (by omega)
      have q2 := hj 2 (by omega)
      have q3 := hj 3 (by omega)
      have q4 := hj 4 (by omega)
      have q5 := hj 5 (by omega)
      simp at q0 q1 q2 q3 q4 q5
      omega
    have hAs : ∀ M1 : Mem, M1.blk (M0.next + 3) = some [.nilp] → ICw ES n_errors_As [errSV e a, .iface T_p_p_plan_fault (.ptr (M0.next + 3) 0 0)] M1 = some (.bool true, M1.set (M0.next + 3) (some [.rptr [.agg [.int .i64 a, .iface T_plan_code (.int .i64 e)]] 0 0 true])) := fun M1 hM => As_P hM rfl
    have hM2 := hM'
    cases hf : (List.range 6).find? (fun j : Nat => e == 7 + (j : Int)) with
    | some j =>
      rw [hf] at g1
      simp [h_plan_Check_0] at g1
      simp [c_plan_Check, evW_reg, evW_chkr, isCst, loadS, partS, TK.agg, fieldAddrS, zeroS, storeS, setPart, splice, endS, resS, fieldS, cfgC, h1, errO, makeIS, hAs, bs, lenS, c_plan_Check_L0, g1, Nat.add_assoc]
    | none =>
      have := hnone hf
      subst this
      rw [hf] at g1
      simp [h_plan_Check_0] at g1
      simp [c_plan_Check, evW_reg, evW_chkr, isCst, loadS, partS, TK.agg, fieldAddrS, zeroS, storeS, setPart, splice, endS, resS, fieldS, cfgC, h1, errO, makeIS, hAs, bs, lenS, c_plan_Check_L0, g1, hM2, Nat.add_assoc]
theorem plan_Check_c (get) {y : SV} {c : Cfg} (hc : CfgR y c) : callP (PCw ES) get n_plan_Check [y] = some (.tup [.int .i64 (checkG c).1, .int .i64 (checkG c).2]) := callP_of (plan_Check_ok hc) (by simp [hc.np12])

end Go.Proofs.YtbdliphlolajaaaDoor

/-
  Walks of the seat's functions: Rb.
-/
set_option linter.unusedVariables false
set_option linter.unusedSimpArgs false
set_option maxRecDepth 100000
namespace Go.Proofs.YtbdliphlolajaaaDoor
open Go.Proofs.YtbdliphlolajaaaDoor.Sh
/-! The document's own: ends, link. -/
theorem np_i2 (p0 p1 : Int) (n : Nat) : np n (.agg [.int .i64 p0, .int .i64 p1]) = true := np_of_pv rfl _
set_option maxHeartbeats 4000000 in
theorem r5_ends_c (get) {P L : SV} {c : Cfg} (hP : CfgP c P L) {i : Nat} (hi : i ≤ c.links.length) {part : Int} (hp : inMany part c.parts.length) (p0 p1 : Int) :
    callP (PCw ES) get n_r5_ends [.agg (cfgC c P L), .int .i64 i, .int .i64 part, .agg [.int .i64 p0, .int .i64 p1]] = some (.bool (endBad c i part p0 p1)) := by
  have hpl : part.toNat < c.parts.length := by obtain ⟨h1, h2⟩ := hp; omega
  have hix := hP.p.atI hp.1 hpl
  have hn := nodesAt_eq hpl
  have step : ∀ (p q k : Nat) (n : Int) (M : Mem), (k = 0 ∧ n = p0) ∨ (k = 1 ∧ n = p1) → M.blk p = some [.agg (cfgC c P L)] → M.blk q = some [.agg [.int .i64 p0, .int .i64 p1]] → p < M.next → q < M.next →
      ∃ M', M'.blk p = some [.agg (cfgC c P L)] ∧ M'.blk q = some [.agg [.int .i64 p0, .int .i64 p1]] ∧ M.next ≤ M'.next ∧
        evW ES n_r5_ends c_r5_ends_B0 ⟨h_r5_ends_0 (.int .i64 i) (.int .i64 part) (.ptr p 0 0) (.ptr q 0 0) (.int .i64 k), M⟩ =
          some (if portBad c i part n then (.ret, ⟨(h_r5_ends_0 .bad .bad .bad .bad .bad).set 8 (.bool true), M'⟩)
            else (.normal, ⟨h_r5_ends_0 (.int .i64 i) (.int .i64 part) (.ptr p 0 0) (.ptr q 0 0) (.int .i64 ((k + 1 : Nat) : Int)), M'⟩)) := by
    intro p q k n M hk hb hq hlp hlq
    have hnp : ∀ z, (p = M.next + z) = False := fun z => by simp; omega
    have hnq : ∀ z, (q = M.next + z) = False := fun z => by simp; omega
    have hpo := fun get => r5_port_c get hP part n hi
    have hft := findPort_some (c.links.take i) part n
    refine ⟨(M.bump 13).set (M.next + 10) (some [encPort ((findPort (c.links.take i) part n).getD ⟨0, 0, 0, 0⟩)]), by simp [hnp, hb], by simp [hnq, hq], by simp, ?_⟩
    simp only [cfgC] at hb hpo
    have hel : indexAddrS ES.P T_a2_int (.ptr q 0 0) (.int .i64 k) = some (.ptr q 0 k) := by
      rcases hk with ⟨rfl, _⟩ | ⟨rfl, _⟩
      · exact ixa2_0 _ _ _
      · exact ixa2_1 _ _ _
    have hk2 : k < 2 := by omega
    have hcell : [SV.int .i64 p0, SV.int .i64 p1][k] = .int .i64 n := by
      rcases hk with ⟨rfl, rfl⟩ | ⟨rfl, rfl⟩ <;> rfl
    have hk2' : (k : Int) < 2 := by omega
    have hw : IntKind.i64.wrap ((k : Int) + 1) = (k : Int) + 1 := i64_in (by omega) (by omega)
    cases h1 : decide (inMany n c.parts[part.toNat].nodes) with
    | false =>
      have hbad : portBad c i part n = true := by simp [portBad, hn, h1]
      simp [c_r5_ends_B0, evW_reg, evW_chkr, isCst, loadS, partS, TK.agg, fieldAddrS, zeroS, storeS, setPart, splice, endS, resS, fieldS, h_r5_ends_0, hk2, hk2', hel, hcell, hb, hq, hlp, hlq, hnp, hnq, hpo, portO, hix, hpl, h1, hbad]
    | true =>
      have hbad : portBad c i part n = (findPort (c.links.take i) part n).isSome := by simp [portBad, hn, h1, hft]
      cases h2 : (findPort (c.links.take i) part n).isSome
      · simp [c_r5_ends_B0, evW_reg, evW_chkr, isCst, loadS, partS, TK.agg, fieldAddrS, zeroS, storeS, setPart, splice, endS, resS, fieldS, h_r5_ends_0, hk2, hk2', hel, hcell, hb, hq, hlp, hlq, hnp, hnq, hpo, portO, hix, hpl, h1, hbad, h2, hw]
      · simp [c_r5_ends_B0, evW_reg, evW_chkr, isCst, loadS, partS, TK.agg, fieldAddrS, zeroS, storeS, setPart, splice, endS, resS, fieldS, h_r5_ends_0, hk2, hk2', hel, hcell, hb, hq, hlp, hlq, hnp, hnq, hpo, portO, hix, hpl, h1, hbad, h2, hw]
  refine callP_of (PCw_ex (fun M0 => ?_) rfl) (by simp [hP.npA, np_i2])
  rw [b_r5_ends]
  by_cases h0 : p0 = p1
  · have e : endBad c i part p0 p1 = true := by simp [endBad, h0]
    rw [e]
    simp [c_r5_ends, evW_reg, evW_chkr, isCst, loadS, partS, TK.agg, fieldAddrS, zeroS, storeS, setPart, splice, endS, resS, fieldS, cfgC, h0]
  obtain ⟨M1, a1, a2, a3, a4⟩ := step M0.next (M0.next + 1) 0 p0 (((M0.bump 3).set M0.next (some [.agg (cfgC c P L)])).set (M0.next + 1) (some [.agg [.int .i64 p0, .int .i64 p1]])) (by simp) (by simp) (by simp) (by simp) (by simp)
  have h1' : M0.next + 3 ≤ M1.next := by simpa using a3
  obtain ⟨M2, b1, b2, b3, b4⟩ := step M0.next (M0.next + 1) 1 p1 M1 (by simp) a1 a2 (by omega) (by omega)
  have e : endBad c i part p0 p1 = (portBad c i part p0 || portBad c i part p1) := by simp [endBad, h0]
  cases q1 : portBad c i part p0 with
  | true =>
    rw [q1] at a4 e
    simp only [Bool.true_or] at e
    have hl : evW ES n_r5_ends c_r5_ends_L0 ⟨h_r5_ends_0 (.int .i64 i) (.int .i64 part) (.ptr M0.next 0 0) (.ptr (M0.next + 1) 0 0) (.int .i64 ((0 : Nat) : Int)), ((M0.bump 3).set M0.next (some [.agg (cfgC c P L)])).set (M0.next + 1) (some [.agg [.int .i64 p0, .int .i64 p1]])⟩ = some (.ret, ⟨(h_r5_ends_0 .bad .bad .bad .bad .bad).set 8 (.bool true), M1⟩) := (by unfold c_r5_ends_L0; rw [evW_loop, a4]; rfl)
    simp [h_r5_ends_0, cfgC] at hl
    simp [c_r5_ends, evW_reg, evW_chkr, isCst, loadS, partS, TK.agg, fieldAddrS, zeroS, storeS, setPart, splice, endS, resS, fieldS, cfgC, h0, e, hl]
  | false =>
    rw [q1] at a4 e
    simp only [Bool.false_or] at e
    cases q2 : portBad c i part p1 with
    | true =>
      rw [q2] at b4 e
      have hl : evW ES n_r5_ends c_r5_ends_L0 ⟨h_r5_ends_0 (.int .i64 i) (.int .i64 part) (.ptr M0.next 0 0) (.ptr (M0.next + 1) 0 0) (.int .i64 ((0 : Nat) : Int)), ((M0.bump 3).set M0.next (some [.agg (cfgC c P L)])).set (M0.next + 1) (some [.agg [.int .i64 p0, .int .i64 p1]])⟩ = some (.ret, ⟨(h_r5_ends_0 .bad .bad .bad .bad .bad).set 8 (.bool true), M2⟩) := (by unfold c_r5_ends_L0; rw [evW_loop, a4]; simp only [Bool.false_eq_true, if_false]; rw [evW_loop, b4]; rfl)
      simp [h_r5_ends_0, cfgC] at hl
      simp [c_r5_ends, evW_reg, evW_chkr, isCst, loadS, partS, TK.agg, fieldAddrS, zeroS, storeS, setPart, splice, endS, resS, fieldS, cfgC, h0, e, hl]
    | false =>
      rw [q2] at b4 e
      have b5 : evW ES n_r5_ends c_r5_ends_B0 ⟨h_r5_ends_0 (.int .i64 i) (.int .i64 part) (.ptr M0.next 0 0) (.ptr (M0.next + 1) 0 0) (.int .i64 ((1 + 1 : Nat) : Int)), M2⟩ = some (.exit 0, ⟨(h_r5_ends_0 (.int .i64 i) (.int .i64 part) (.ptr M0.next 0 0) (.ptr (M0.next + 1) 0 0) (.int .i64 2)).set 18 (.bool false), M2⟩) := by simp [c_r5_ends_B0, evW_reg, evW_chkr, isCst, loadS, partS, TK.agg, fieldAddrS, zeroS, storeS, setPart, splice, endS, resS, fieldS, h_r5_ends_0]
      have hl : evW ES n_r5_ends c_r5_ends_L0 ⟨h_r5_ends_0 (.int .i64 i) (.int .i64 part) (.ptr M0.next 0 0) (.ptr (M0.next + 1) 0 0) (.int .i64 ((0 : Nat) : Int)), ((M0.bump 3).set M0.next (some [.agg (cfgC c P L)])).set (M0.next + 1) (some [.agg [.int .i64 p0, .int .i64 p1]])⟩ = some (.exit 0, ⟨(h_r5_ends_0 (.int .i64 i) (.int .i64 part) (.ptr M0.next 0 0) (.ptr (M0.next + 1) 0 0) (.int .i64 2)).set 18 (.bool false), M2⟩) := (by unfold c_r5_ends_L0; rw [evW_loop, a4]; simp only [Bool.false_eq_true, if_false]; rw [evW_loop, b4]; simp only [Bool.false_eq_true, if_false]; rw [evW_loop, b5])
      simp [h_r5_ends_0, cfgC] at hl
      simp [c_r5_ends, evW_reg, evW_chkr, isCst, loadS, partS, TK.agg, fieldAddrS, zeroS, storeS, setPart, splice, endS, resS, fieldS, cfgC, h0, e, hl]
set_option maxHeartbeats 4000000 in
theorem r5_link_c (get) {P L : SV} {c : Cfg} (hP : CfgP c P L) {i : Nat} (hi : i < c.links.length) :
    callP (PCw ES) get n_r5_link [.agg (cfgC c P L), .int .i64 i] = some (.int .i64 (linkErr c i c.links[i])) := by
  refine callP_of (PCw_ex (fun M0 => ?_) rfl) (by simp [hP.npA])
  rw [b_r5_link]
  have hlenp := hP.p.lenS ti_sl_api_Part
  have ha := Links.at hP.l hi
  generalize hl : c.links[i] = l
  have h7 : M0.next + 2 + 5 = M0.next + 7 := rfl
  by_cases q1 : inMany l.a c.parts.length
  case neg =>
    have e : linkErr c i l = 10 := linkErr_bad (by simp [badEnds, q1])
    rw [e]
    simp [c_r5_link, evW_reg, evW_chkr, isCst, loadS, partS, TK.agg, fieldAddrS, zeroS, storeS, setPart, splice, endS, resS, fieldS, cfgC, h7, hi, ha, hlenp, hl, q1]
  by_cases q2 : inMany l.b c.parts.length
  case neg =>
    have e : linkErr c i l = 10 := linkErr_bad (by simp [badEnds, q2])
    rw [e]
    simp [c_r5_link, evW_reg, evW_chkr, isCst, loadS, partS, TK.agg, fieldAddrS, zeroS, storeS, setPart, splice, endS, resS, fieldS, cfgC, h7, hi, ha, hlenp, hl, q1, q2]
  by_cases q3 : l.b ≤ l.a
  case pos =>
    have e : linkErr c i l = 10 := linkErr_bad (by simp [badEnds, q3])
    rw [e]
    simp [c_r5_link, evW_reg, evW_chkr, isCst, loadS, partS, TK.agg, fieldAddrS, zeroS, storeS, setPart, splice, endS, resS, fieldS, cfgC, h7, hi, ha, hlenp, hl, q1, q2, q3]
  have hbe : badEnds c l = false := by simp [badEnds, q1, q2, q3]
  obtain ⟨r, g1, g2⟩ := loop_find (E := ES) (me := n_r5_link) (B := c_r5_link_B0) (len := i) (T := fun k => h_r5_link_0 (.int .i64 i) (.ptr M0.next 0 0) (.ptr (M0.next + 7) 0 0) (.int .i64 k))
    (I := fun _ M => M = ((((M0.bump 2).set M0.next (some [.agg (cfgC c P L)])).bump 7).set (M0.next + 7) (some [encLink l])))
    (p := fun j => ((c.links.take i)[j]?.map fun x => decide (x.a = l.a ∧ x.b = l.b)).getD false)
    (Q := fun o r => r = match o with
      | some _ => (.ret, ⟨(h_r5_link_0 .bad .bad .bad .bad).set 4 (.int .i64 11), ((((M0.bump 2).set M0.next (some [.agg (cfgC c P L)])).bump 7).set (M0.next + 7) (some [encLink l]))⟩)
      | none => (.exit 0, ⟨(h_r5_link_0 (.int .i64 i) (.ptr M0.next 0 0) (.ptr (M0.next + 7) 0 0) (.int .i64 i)).set 37 (.bool false), ((((M0.bump 2).set M0.next (some [.agg (cfgC c P L)])).bump 7).set (M0.next + 7) (some [encLink l]))⟩))
    (fun k M hk hM hpk => by
      subst hM
      have hkl : k < c.links.length := by omega
      have hak := Links.at hP.l hkl
      have hw : IntKind.i64.wrap ((k : Int) + 1) = (k : Int) + 1 := i64_in (by omega) (by have := hP.ll; omega)
      simp [hk, hkl] at hpk
      refine ⟨_, ?_, rfl⟩
      by_cases h1 : c.links[k].a = l.a
      · simp [c_r5_link_B0, evW_reg, evW_chkr, isCst, loadS, partS, TK.agg, fieldAddrS, zeroS, storeS, setPart, splice, endS, resS, fieldS, h_r5_link_0, cfgC, hk, hkl, hak, hw, h1, hpk h1]
      · simp [c_r5_link_B0, evW_reg, evW_chkr, isCst, loadS, partS, TK.agg, fieldAddrS, zeroS, storeS, setPart, splice, endS, resS, fieldS, h_r5_link_0, cfgC, hk, hkl, hak, hw, h1])
    (fun k M hk hM hpk => by
      subst hM
      have hkl : k < c.links.length := by omega
      have hak := Links.at hP.l hkl
      simp [hk, hkl] at hpk
      simp [c_r5_link_B0, evW_reg, evW_chkr, isCst, loadS, partS, TK.agg, fieldAddrS, zeroS, storeS, setPart, splice, endS, resS, fieldS, h_r5_link_0, cfgC, hk, hkl, hak, hpk])
    (fun M hM => by subst hM; simp [c_r5_link_B0, evW_reg, evW_chkr, isCst, loadS, partS, TK.agg, fieldAddrS, zeroS, storeS, setPart, splice, endS, resS, fieldS, h_r5_link_0]) _ rfl
  have hlen : (c.links.take i).length = i := by simp; omega
  have e : ((List.range i).find? (fun j => ((c.links.take i)[j]?.map fun x => decide (x.a = l.a ∧ x.b = l.b)).getD false)).isSome = twice (c.links.take i) l := by
    have h := idxOf_any (fun x : Link => decide (x.a = l.a ∧ x.b = l.b)) (c.links.take i)
    unfold idxOf at h
    rw [hlen] at h
    unfold twice
    rw [← h]
    cases (List.range i).find? (fun j => ((c.links.take i)[j]?.map fun x => decide (x.a = l.a ∧ x.b = l.b)).getD false) <;> simp
  cases hf : (List.range i).find? (fun j => ((c.links.take i)[j]?.map fun x => decide (x.a = l.a ∧ x.b = l.b)).getD false) with
  | some j =>
    rw [hf] at g2 e
    subst g2
    have e : linkErr c i l = 11 := by simp [linkErr, hbe, ← e]
    rw [e]
    simp [h_r5_link_0, cfgC] at g1
    simp [c_r5_link, evW_reg, evW_chkr, isCst, loadS, partS, TK.agg, fieldAddrS, zeroS, storeS, setPart, splice, endS, resS, fieldS, cfgC, h7, hi, ha, hlenp, hl, q1, q2, q3, c_r5_link_L0, g1]
  | none =>
    rw [hf] at g2 e
    subst g2
    have e : twice (c.links.take i) l = false := e.symm
    have ea := fun get => r5_ends_c get hP (i := i) (by omega) q1 l.pa0 l.pa1
    have eb := fun get => r5_ends_c get hP (i := i) (by omega) q2 l.pb0 l.pb1
    simp [h_r5_link_0, cfgC] at g1
    simp only [cfgC] at ea eb
    cases q5 : endBad c i l.a l.pa0 l.pa1 with
    | true =>
      have e : linkErr c i l = 12 := by simp [linkErr, hbe, e, q5]
      rw [e]
      rw [q5] at ea
      simp [c_r5_link, evW_reg, evW_chkr, isCst, loadS, partS, TK.agg, fieldAddrS, zeroS, storeS, setPart, splice, endS, resS, fieldS, cfgC, h7, hi, ha, hlenp, hl, q1, q2, q3, c_r5_link_L0, g1, ea]
    | false =>
      rw [q5] at ea
      cases q6 : endBad c i l.b l.pb0 l.pb1 with
      | true =>
        have e : linkErr c i l = 12 := by simp [linkErr, hbe, e, q5, q6]
        rw [e]
        rw [q6] at eb
        simp [c_r5_link, evW_reg, evW_chkr, isCst, loadS, partS, TK.agg, fieldAddrS, zeroS, storeS, setPart, splice, endS, resS, fieldS, cfgC, h7, hi, ha, hlenp, hl, q1, q2, q3, c_r5_link_L0, g1, ea, eb]
      | false =>
        have e : linkErr c i l = 0 := by simp [linkErr, hbe, e, q5, q6]
        rw [e]
        rw [q6] at eb
        simp [c_r5_link, evW_reg, evW_chkr, isCst, loadS, partS, TK.agg, fieldAddrS, zeroS, storeS, setPart, splice, endS, resS, fieldS, cfgC, h7, hi, ha, hlenp, hl, q1, q2, q3, c_r5_link_L0, g1, ea, eb]

end Go.Proofs.YtbdliphlolajaaaDoor

/-
  Walks of the seat's functions: Rc.
-/
set_option linter.unusedVariables false
set_option linter.unusedSimpArgs false
set_option maxRecDepth 100000
namespace Go.Proofs.YtbdliphlolajaaaDoor
open Go.Proofs.YtbdliphlolajaaaDoor.Sh
/-! The document's own: dists. -/
theorem mkInts {n : Nat} (hn : n ≤ 1000) (a : Nat) : mkSl ES.P T_sl_int a (.int .i64 n) (.int .i64 n) = some (.own a 1 0 n, iL (List.replicate n 0)) := by
  have h1 : (n : Int) * 8 ≤ 281474976710656 := by omega
  have h2 : (n : Int) ≤ 281474976710656 := by omega
  simp [mkSl, iL]
  omega
theorem iL_at {d : List Int} {x : Int} (h : x.toNat < (iL d).length) : (iL d)[x.toNat] = .int .i64 (dget d x) := by
  have : x.toNat < d.length := by simpa [iL] using h
  simp [iL, dget, this]
theorem trig_no {n : Int} {d : List Int} {x y : Int} (h : trig n d x y = false) : dget d x = n → (dget d y < 0) = False := fun e => by simpa [trig, e] using h
theorem trig_eq (n : Int) (d : List Int) (x y : Int) : trig n d x y = (decide (dget d x = n) && decide (dget d y < 0)) := by simp [trig]
set_option maxHeartbeats 4000000 in
theorem r5_ds_link {c : Cfg} {P L : SV} (hP : CfgP c P L) {p q len : Nat} {n : Nat} (hn : n ≤ 100) {d : List Int} (hd : d.length = len) {j : Nat} (hj : j < c.links.length) (hl : okL len c.links[j])
    (M : Mem) (hp : M.blk p = some [.agg (cfgC c P L)]) (hq : M.blk q = some (iL d)) (lp : p < M.next) (lq : q < M.next) (hpq : p ≠ q) :
    ∃ M', evW ES n_r5_dists c_r5_dists_B1 ⟨h_r5_dists_1 (.ptr p 0 0) (.own q 1 0 len) (.int .i64 n) (.int .i64 j), M⟩ =
      some (.normal, ⟨h_r5_dists_1 (.ptr p 0 0) (.own q 1 0 len) (.int .i64 n) (.int .i64 ((j + 1 : Nat) : Int)), M'⟩) ∧
      M'.blk q = some (iL (relaxL n d c.links[j])) ∧ (∀ id, id ≠ q → id < M.next → M'.blk id = M.blk id) ∧ M.next ≤ M'.next := by
  obtain ⟨o1, o2, o3, o4⟩ := hl
  have ha := Links.at hP.l hj
  have hlen := hP.l.lenS ti_sl_api_Link
  have hw : IntKind.i64.wrap ((j : Int) + 1) = (j : Int) + 1 := i64_in (by omega) (by have := hP.ll; omega)
  have hw2 : IntKind.i64.wrap ((n : Int) + 1) = (n : Int) + 1 := i64_in (by omega) (by omega)
  have hne : ∀ k, (q = M.next + k) = False := fun k => by simp; omega
  have hnp : ∀ k, (p = M.next + k) = False := fun k => by simp; omega
  have hn0 : ¬ ((n : Int) < 0) := by omega
  have hnq : ∀ k, (M.next + k = q) = False := fun k => by simp; omega
  have hqp : (q = p) = False := by simp; omega
  generalize hLk : c.links[j] = l at *
  have gx := ownI_ix (q := q) o1 o2
  have gy := ownI_ix (q := q) o3 o4
  have vx := iL_get (d := d) o1 (by omega)
  have vy := iL_get (d := d) o3 (by omega)
  have hyl : l.b.toNat < (iL d).length := by simp [iL]; omega
  have hxl : l.a.toNat < (iL d).length := by simp [iL]; omega
  have hb0 := hp
  simp only [cfgC] at hb0
  generalize hd1 : relax n d l.a l.b = d1
  have hd1l : d1.length = len := by rw [← hd1]; simpa using hd
  have wx := iL_get (d := d1) o1 (by omega)
  have wy := iL_get (d := d1) o3 (by omega)
  have hyl1 : l.b.toNat < (iL d1).length := by simp [iL]; omega
  have hxl1 : l.a.toNat < (iL d1).length := by simp [iL]; omega
  have hR : relaxL n d l = relax n d1 l.b l.a := by unfold relaxL; rw [hd1]
  rw [hR, relax_trig]
  rw [relax_trig] at hd1
  have old0 : ∀ id, id ≠ q → id < M.next → ((M.bump 7).set (M.next + 5) (some [encLink l])).blk id = M.blk id := fun id h1 h2 => by
    have : ¬ (id = M.next + 5) := by omega
    simp [this]
  have old1 : ∀ x, ∀ id, id ≠ q → id < M.next → (((M.bump 7).set (M.next + 5) (some [encLink l])).set q x).blk id = M.blk id := fun x id h1 h2 => by
    have : ¬ (id = M.next + 5) := by omega
    simp [this, h1]
  cases t1 : trig n d l.a l.b with
  | false =>
    rw [t1] at hd1
    simp only [Bool.false_eq_true, if_false] at hd1
    subst hd1
    cases t2 : trig n d l.b l.a with
    | false =>
      refine ⟨(M.bump 7).set (M.next + 5) (some [encLink l]), ?_, by simp [hne, hq], old0, by simp⟩
      have f1 := trig_no t1
      have f2 := trig_no t2
      by_cases e1 : dget d l.a = n
      · by_cases e2 : dget d l.b = n
        · simp [c_r5_dists_B1, evW_reg, evW_chkr, isCst, loadS, partS, TK.agg, fieldAddrS, zeroS, storeS, setPart, splice, endS, resS, fieldS, h_r5_dists_1, hlen, hj, ha, hLk, hb0, hne, hnp, hq, lp, lq, gx, gy, vx, vy, hn0, e1, e2, f1 e1, f2 e2, hw]
        · simp [c_r5_dists_B1, evW_reg, evW_chkr, isCst, loadS, partS, TK.agg, fieldAddrS, zeroS, storeS, setPart, splice, endS, resS, fieldS, h_r5_dists_1, hlen, hj, ha, hLk, hb0, hne, hnp, hq, lp, lq, gx, gy, vx, vy, hn0, e1, e2, f1 e1, hw]
      · by_cases e2 : dget d l.b = n
        · simp [c_r5_dists_B1, evW_reg, evW_chkr, isCst, loadS, partS, TK.agg, fieldAddrS, zeroS, storeS, setPart, splice, endS, resS, fieldS, h_r5_dists_1, hlen, hj, ha, hLk, hb0, hne, hnp, hq, lp, lq, gx, gy, vx, vy, hn0, e1, e2, f2 e2, hw]
        · simp [c_r5_dists_B1, evW_reg, evW_chkr, isCst, loadS, partS, TK.agg, fieldAddrS, zeroS, storeS, setPart, splice, endS, resS, fieldS, h_r5_dists_1, hlen, hj, ha, hLk, hb0, hne, hnp, hq, lp, lq, gx, gy, vx, vy, hn0, e1, e2, hw]
    | true =>
      simp [trig] at t2
      obtain ⟨e2, e3⟩ := t2
      refine ⟨((M.bump 7).set (M.next + 5) (some [encLink l])).set q (some (iL (d.set l.a.toNat ((n : Int) + 1)))), ?_, by simp, old1 _, by simp⟩
      have f1 := trig_no t1
      have e1 : ¬ (dget d l.a = n) := by omega
      simp [c_r5_dists_B1, evW_reg, evW_chkr, isCst, loadS, partS, TK.agg, fieldAddrS, zeroS, storeS, setPart, splice, endS, resS, fieldS, h_r5_dists_1, hlen, hj, ha, hLk, hb0, hne, hnp, hq, lp, lq, gx, gy, vx, vy, e1, e2, e3, hn0, hw, hw2, hxl, iL_at, iL_set]
  | true =>
    rw [t1] at hd1
    simp only [if_true] at hd1
    simp [trig] at t1
    obtain ⟨e1, e2⟩ := t1
    cases t2 : trig n d1 l.b l.a with
    | false =>
      refine ⟨((M.bump 7).set (M.next + 5) (some [encLink l])).set q (some (iL d1)), ?_, by simp, old1 _, by simp⟩
      have f2 := trig_no t2
      by_cases e3 : dget d1 l.b = n
      · simp [c_r5_dists_B1, evW_reg, evW_chkr, isCst, loadS, partS, TK.agg, fieldAddrS, zeroS, storeS, setPart, splice, endS, resS, fieldS, h_r5_dists_1, hlen, hj, ha, hLk, hb0, hne, hnp, hq, hqp, hnq, lp, lq, gx, gy, vx, vy, e1, e2, e3, f2 e3, hn0, hw, hw2, hyl, iL_at, iL_set, hd1, wx, wy]
      · simp [c_r5_dists_B1, evW_reg, evW_chkr, isCst, loadS, partS, TK.agg, fieldAddrS, zeroS, storeS, setPart, splice, endS, resS, fieldS, h_r5_dists_1, hlen, hj, ha, hLk, hb0, hne, hnp, hq, hqp, hnq, lp, lq, gx, gy, vx, vy, e1, e2, e3, hn0, hw, hw2, hyl, iL_at, iL_set, hd1, wx, wy]
    | true =>
      simp [trig] at t2
      obtain ⟨e3, e4⟩ := t2
      refine ⟨(((M.bump 7).set (M.next + 5) (some [encLink l])).set q (some (iL (d1.set l.a.toNat ((n : Int) + 1))))), ?_, by simp, old1 _, by simp⟩
      simp [c_r5_dists_B1, evW_reg, evW_chkr, isCst, loadS, partS, TK.agg, fieldAddrS, zeroS, storeS, setPart, splice, endS, resS, fieldS, h_r5_dists_1, hlen, hj, ha, hLk, hb0, hne, hnp, hq, hqp, hnq, lp, lq, gx, gy, vx, vy, e1, e2, e3, e4, hw, hw2, hyl, iL_at, iL_set, hd1, wx, wy, hxl1]

end Go.Proofs.YtbdliphlolajaaaDoor

/-
  Walks of the seat's functions: Rd.
-/
set_option linter.unusedVariables false
set_option linter.unusedSimpArgs false
set_option maxRecDepth 100000
namespace Go.Proofs.YtbdliphlolajaaaDoor
open Go.Proofs.YtbdliphlolajaaaDoor.Sh
/-! The document's own: dists' rounds. -/
set_option maxHeartbeats 4000000 in
theorem r5_ds_pass {c : Cfg} {P L : SV} (hP : CfgP c P L) {p q len : Nat} {n : Nat} (hn : n ≤ 100) {d : List Int} (hd : d.length = len) (hl : ∀ l ∈ c.links, okL len l)
    (M : Mem) (hp : M.blk p = some [.agg (cfgC c P L)]) (hq : M.blk q = some (iL d)) (lp : p < M.next) (lq : q < M.next) (hpq : p ≠ q) :
    ∃ M', evW ES n_r5_dists c_r5_dists_L1 ⟨h_r5_dists_1 (.ptr p 0 0) (.own q 1 0 len) (.int .i64 n) (.int .i64 0), M⟩ =
      some (.exit 4, ⟨(h_r5_dists_1 (.ptr p 0 0) (.own q 1 0 len) (.int .i64 n) (.int .i64 c.links.length)).set 36 (.bool false), M'⟩) ∧
      M'.blk q = some (iL (passL n c.links d)) ∧ M'.blk p = some [.agg (cfgC c P L)] ∧ M.next ≤ M'.next := by
  obtain ⟨r, g1, M', rfl, g2, g3, g4⟩ := loop_up (E := ES) (me := n_r5_dists) (B := c_r5_dists_B1) (len := c.links.length)
    (T := fun j => h_r5_dists_1 (.ptr p 0 0) (.own q 1 0 len) (.int .i64 n) (.int .i64 j))
    (I := fun j M1 => M1.blk q = some (iL (passL n (c.links.take j) d)) ∧ M1.blk p = some [.agg (cfgC c P L)] ∧ M.next ≤ M1.next)
    (Q := fun r => ∃ M', r = (.exit 4, ⟨(h_r5_dists_1 (.ptr p 0 0) (.own q 1 0 len) (.int .i64 n) (.int .i64 c.links.length)).set 36 (.bool false), M'⟩) ∧
      M'.blk q = some (iL (passL n c.links d)) ∧ M'.blk p = some [.agg (cfgC c P L)] ∧ M.next ≤ M'.next)
    (fun j M1 hj ⟨h1, h2, h3⟩ => by
      left
      have hpl : passL n (c.links.take (j + 1)) d = relaxL n (passL n (c.links.take j) d) c.links[j] := foldl_take hj
      have hok := hl c.links[j] (List.getElem_mem hj)
      obtain ⟨M2, k1, k2, k3, k4⟩ := r5_ds_link hP hn (d := passL n (c.links.take j) d) (by simpa using hd) hj hok M1 h2 h1 (by omega) (by omega) hpq
      exact ⟨M2, k1, by rw [hpl]; exact k2, by rw [k3 p hpq (by omega)]; exact h2, by omega⟩)
    (fun M1 ⟨h1, h2, h3⟩ => by
      rw [List.take_length] at h1
      have hlen := hP.l.lenS ti_sl_api_Link
      have hb0 := h2
      simp only [cfgC] at hb0
      exact ⟨_, by simp [c_r5_dists_B1, evW_reg, evW_chkr, isCst, loadS, partS, TK.agg, fieldAddrS, zeroS, storeS, setPart, splice, endS, resS, fieldS, h_r5_dists_1, hb0, hlen], by simp, M1, rfl, h1, h2, h3⟩) 0 M (by omega) ⟨by simpa [passL] using hq, hp, Nat.le_refl _⟩
  exact ⟨M', g1, g2, g3, g4⟩
set_option maxHeartbeats 4000000 in
theorem r5_dists_ok {c : Cfg} {P L : SV} (hP : CfgP c P L) {fr : Int} (h6 : c.parts.length ≤ 50) (hf : 0 ≤ fr ∧ fr < c.parts.length) (hl : ∀ l ∈ c.links, okL c.parts.length l) :
    PCw ES n_r5_dists [.agg (cfgC c P L), .int .i64 fr] = some (.sl (iL (distL c.links c.parts.length fr)) .ro) := by
  have hln : (distL c.links c.parts.length fr).length = c.parts.length := by simp [distL]
  have hll : (iL (distL c.links c.parts.length fr)).length = c.parts.length := by simp [iL, hln]
  refine PCw_own (esz := 1) (fun M0 => ?_) (fun y hy => by
    simp only [iL, List.mem_map] at hy
    obtain ⟨x, _, rfl⟩ := hy
    rfl)
  rw [hll]
  rw [b_r5_dists]
  have hlenp := hP.p.lenS ti_sl_api_Part
  generalize hlen : c.parts.length = len at *
  have hmk := mkInts (n := len) (by omega)
  have hlo : ∀ q, lenS ES.P T_sl_int (.own q 1 0 len) = some (.int .i64 len) := fun q => by simp [lenS]
  have h25 : M0.next + 2 + 3 = M0.next + 5 := rfl
  have hfill : ∀ j, j < len → (List.replicate j (-1 : Int) ++ List.replicate (len - j) 0).set j (-1) = List.replicate (j + 1) (-1 : Int) ++ List.replicate (len - (j + 1)) 0 := by
    intro j hj
    have : len - j = (len - (j + 1)) + 1 := by omega
    rw [this, List.replicate_succ (a := (0 : Int)), List.replicate_succ' (a := (-1 : Int))]
    simp [List.set_append]
  obtain ⟨r0, f1, M1, rfl, f2, f3, f4⟩ := loop_up (E := ES) (me := n_r5_dists) (B := c_r5_dists_B0) (len := len) (T := fun j => h_r5_dists_0 (.int .i64 fr) (.ptr M0.next 0 0) (.own (M0.next + 5) 1 0 len) (.int .i64 j))
    (I := fun j M => M.blk (M0.next + 5) = some (iL (List.replicate j (-1) ++ List.replicate (len - j) 0)) ∧ M.blk M0.next = some [.agg (cfgC c P L)] ∧ M0.next + 5 < M.next)
    (Q := fun r => ∃ M', r = (.exit 0, ⟨(h_r5_dists_0 (.int .i64 fr) (.ptr M0.next 0 0) (.own (M0.next + 5) 1 0 len) (.int .i64 len)).set 17 (.bool false), M'⟩) ∧ M'.blk (M0.next + 5) = some (iL (List.replicate len (-1))) ∧ M'.blk M0.next = some [.agg (cfgC c P L)] ∧ M0.next + 5 < M'.next)
    (fun j M hj ⟨a1, a2, a3⟩ => by
      left
      have hw : IntKind.i64.wrap ((j : Int) + 1) = (j : Int) + 1 := i64_in (by omega) (by omega)
      have hix := ownI_ix (q := M0.next + 5) (len := len) (x := j) (by omega) (by omega)
      have hlt : j < (iL (List.replicate j (-1) ++ List.replicate (len - j) 0)).length := by simp [iL]; omega
      have hs := hfill j hj
      refine ⟨M.set (M0.next + 5) (some (iL (List.replicate (j + 1) (-1) ++ List.replicate (len - (j + 1)) 0))), ?_, by simp, by simp [a2], by simpa using a3⟩
      have hzc : ((iL (List.replicate j (-1) ++ List.replicate (len - j) 0))[j]'hlt) = .int .i64 0 := by simp [iL]
      rw [← hs, ← iL_set]
      simp [c_r5_dists_B0, evW_reg, evW_chkr, isCst, loadS, partS, TK.agg, fieldAddrS, zeroS, storeS, setPart, splice, endS, resS, fieldS, h_r5_dists_0, hj, hlo, hw, hix, a1, hlt, hzc])
    (fun M ⟨a1, a2, a3⟩ => ⟨_, by simp [c_r5_dists_B0, evW_reg, evW_chkr, isCst, loadS, partS, TK.agg, fieldAddrS, zeroS, storeS, setPart, splice, endS, resS, fieldS, h_r5_dists_0, hlo], by simp, M, rfl, by simpa using a1, a2, a3⟩) 0
    ((((M0.bump 2).set M0.next (some [.agg (cfgC c P L)])).bump 5).set (M0.next + 5) (some (iL (List.replicate len 0)))) (by omega) ⟨by simp, by simp, by simp⟩
  have hix := ownI_ix (q := M0.next + 5) (len := len) hf.1 hf.2
  have e0 : (iL (List.replicate len (-1))).set fr.toNat (.int .i64 0) = iL (dinit len fr) := by simp [iL, dinit]
  have hlt : fr.toNat < (iL (List.replicate len (-1 : Int))).length := by simp [iL]; omega
  obtain ⟨r1, g1, M2, rfl, g2⟩ := loop_up (E := ES) (me := n_r5_dists) (B := c_r5_dists_B2) (len := len) (T := fun j => h_r5_dists_2 (.ptr M0.next 0 0) (.own (M0.next + 5) 1 0 len) (.int .i64 j))
    (I := fun j M => M.blk (M0.next + 5) = some (iL (distK c.links len fr j)) ∧ M.blk M0.next = some [.agg (cfgC c P L)] ∧ M0.next + 5 < M.next)
    (Q := fun r => ∃ M', r = (.exit 2, ⟨(h_r5_dists_2 (.ptr M0.next 0 0) (.own (M0.next + 5) 1 0 len) (.int .i64 len)).set 29 (.bool false), M'⟩) ∧ M'.blk (M0.next + 5) = some (iL (distL c.links len fr)))
    (fun j M hj ⟨a1, a2, a3⟩ => by
      left
      have hw : IntKind.i64.wrap ((j : Int) + 1) = (j : Int) + 1 := i64_in (by omega) (by omega)
      obtain ⟨M', k1, k2, k3, k4⟩ := r5_ds_pass hP (p := M0.next) (q := M0.next + 5) (len := len) (n := j) (by omega) (d := distK c.links len fr j) (by simp) hl M a2 a1 (by omega) (by omega) (by omega)
      refine ⟨M', ?_, k2, k3, by omega⟩
      simp [h_r5_dists_1] at k1
      simp [c_r5_dists_B2, evW_reg, evW_chkr, isCst, loadS, partS, TK.agg, fieldAddrS, zeroS, storeS, setPart, splice, endS, resS, fieldS, h_r5_dists_2, hj, hlo, hw, k1])
    (fun M ⟨a1, a2, a3⟩ => ⟨_, by simp [c_r5_dists_B2, evW_reg, evW_chkr, isCst, loadS, partS, TK.agg, fieldAddrS, zeroS, storeS, setPart, splice, endS, resS, fieldS, h_r5_dists_2, hlo], by simp, M, rfl, a1⟩) 0
    (M1.set (M0.next + 5) (some (iL (dinit len fr)))) (by omega) ⟨by simp [distK], by simp [f3], by simpa using f4⟩
  simp only [cfgC] at f1
  simp [h_r5_dists_0] at f1
  simp [h_r5_dists_2] at g1
  refine ⟨M2, M0.next + 5, ?_, g2⟩
  have hzc : ((iL (List.replicate len (-1)))[fr.toNat]'hlt) = .int .i64 (-1) := by simp [iL]
  simp [c_r5_dists, evW_reg, evW_chkr, isCst, loadS, partS, TK.agg, fieldAddrS, zeroS, storeS, setPart, splice, endS, resS, fieldS, cfgC, h25, hlenp, hlen, hmk, c_r5_dists_L0, c_r5_dists_L2, f1, f2, hix, e0, hlt, hzc, g1]
theorem r5_dists_c (get) {c : Cfg} {P L : SV} (hP : CfgP c P L) {fr : Int} (h6 : c.parts.length ≤ 50) (hf : 0 ≤ fr ∧ fr < c.parts.length) (hl : ∀ l ∈ c.links, okL c.parts.length l) :
    callP (PCw ES) get n_r5_dists [.agg (cfgC c P L), .int .i64 fr] = some (.sl (iL (distL c.links c.parts.length fr)) .ro) := callP_of (r5_dists_ok hP h6 hf hl) (by simp [hP.npA])

end Go.Proofs.YtbdliphlolajaaaDoor
