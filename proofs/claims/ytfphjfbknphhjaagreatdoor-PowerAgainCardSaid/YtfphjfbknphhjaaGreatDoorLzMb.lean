/-
  Walks of the seat's functions: Cf.
-/
import Derived.Test.YtfphjfbknphhjaaGreatDoorEb2
import Derived.Test.YtfphjfbknphhjaaGreatDoorShMb
import Derived.Test.YtfphjfbknphhjaaGreatDoorLzMa
set_option linter.unusedVariables false
set_option linter.unusedSimpArgs false
set_option maxRecDepth 100000
namespace Go.Proofs.YtfphjfbknphhjaaGreatDoor
open Go.Proofs.YtfphjfbknphhjaaGreatDoor.Sh
/-! A network's parts and links. -/
structure Part where
  nodes : Int
  faults : Int
  deriving DecidableEq, Inhabited
structure Link where
  a : Int
  b : Int
  pa0 : Int
  pa1 : Int
  pb0 : Int
  pb1 : Int
  deriving DecidableEq, Inhabited
structure Cfg where
  parts : List Part
  links : List Link
  cycle : Int
  lead : Int
  slot : Int
  window : Int
  drift : Int
  rate : Int
  ages : Int
  lost : Int
  listen : Int
  span : Int
  room : Int
  deriving DecidableEq, Inhabited
structure Port where
  node : Int
  link : Int
  gate : Int
  side : Int
  deriving DecidableEq, Inhabited
def Zc9 (p : Part) : SV := .agg [.int .i64 p.nodes, .int .i64 p.faults]
def Za2 (l : Link) : SV := .agg [.int .i64 l.a, .int .i64 l.b, .int .i64 l.pa0, .int .i64 l.pa1, .int .i64 l.pb0, .int .i64 l.pb1]
def Zap (p : Port) : SV := .agg [.int .i64 p.node, .int .i64 p.link, .int .i64 p.gate, .int .i64 p.side]
def Z7 (c : Cfg) (p l : SV) : List SV := [p, l, .int .i64 c.cycle, .int .i64 c.lead, .int .i64 c.slot, .int .i64 c.window, .int .i64 c.drift, .int .i64 c.rate, .int .i64 c.ages, .int .i64 c.lost, .int .i64 c.listen, .int .i64 c.span, .int .i64 c.room]
def Parts (x : SV) (l : List Part) : Prop := RSl (fun y a => y = Zc9 a) x l
def Links (x : SV) (l : List Link) : Prop := RSl (fun y a => y = Za2 a) x l
def Zsl (x : SV) (l : List Port) : Prop := RSl (fun y a => y = Zap a) x l
def Ints (x : SV) (l : List Int) : Prop := RSl (fun y n => y = .int .i64 n) x l
/-- A network: few parts and links. -/
structure Zi2 (c : Cfg) (p l : SV) : Prop where
  p : Parts p c.parts
  l : Links l c.links
  lp : c.parts.length ≤ 17592186044416
  ll : c.links.length ≤ 17592186044416
def CfgR (y : SV) (c : Cfg) : Prop := ∃ p l, y = .agg (Z7 c p l) ∧ Zi2 c p l

@[simp] theorem Zaun (k : IntKind) (v : Int) (n : Nat) : np n (.int k v) = true := Zac rfl _
@[simp] theorem np_bool (b : Bool) (n : Nat) : np n (.bool b) = true := Zac rfl _
@[simp] theorem np_rint (k : IntKind) (v : Int) (i o : Nat) (s : Bool) : np Zar (.rptr [.int k v] i o s) = true := by show (pv _ || ([SV.int k v].all (np 11))) = true; simp
theorem Zaht (p : Part) (n : Nat) : np n (Zc9 p) = true := Zac rfl _
theorem Zri (p : Link) (n : Nat) : np n (Za2 p) = true := Zac rfl _
theorem Z38 (p : Port) (n : Nat) : np n (Zap p) = true := Zac rfl _
theorem Zais (l : Link) : pv (Za2 l) = true := rfl
theorem Zap1 (l : Link) (i o : Nat) (s : Bool) : np Zar (.rptr [Za2 l] i o s) = true := by show (pv _ || ([Za2 l].all (np 11))) = true; simp [Zri]
theorem Zanq (l : Link) {f : Nat} : np Zar (.fn f [] [.rptr [Za2 l] 0 0 false]) = true := rfl
theorem Parts.np {x : SV} {l : List Part} (h : Parts x l) : np 10 x = true := RSl.np h (n := 9) fun y a h => by rw [h]; exact Zaht a 9
theorem Links.np {x : SV} {l : List Link} (h : Links x l) : np 10 x = true := RSl.np h (n := 9) fun y a h => by rw [h]; exact Zri a 9
theorem Zsl.np {x : SV} {l : List Port} (h : Zsl x l) : np 10 x = true := RSl.np h (n := 9) fun y a h => by rw [h]; exact Z38 a 9
theorem Ints.np {x : SV} {l : List Int} (h : Ints x l) : np 10 x = true := RSl.np h (n := 9) fun y a h => by rw [h]; rfl
theorem Ints.Z2q {x : SV} {l : List Int} (h : Ints x l) : Sh.np Zar x = true := Zwn (by decide) h.np
theorem Links.Z2q {x : SV} {l : List Link} (h : Links x l) : Sh.np Zar x = true := Zwn (by decide) h.np
theorem Parts.Z2q {x : SV} {l : List Part} (h : Parts x l) : Sh.np Zar x = true := Zwn (by decide) h.np
theorem Zsl.Z2q {x : SV} {l : List Port} (h : Zsl x l) : Sh.np Zar x = true := Zwn (by decide) h.np
theorem Zi2.npA {c : Cfg} {p l : SV} (h : Zi2 c p l) : Sh.np Zar (.agg (Z7 c p l)) = true := by
  have h1 := Zwn (m := 11) (by decide) h.p.np
  have h2 := Zwn (m := 11) (by decide) h.l.np
  simp only [Zar, Sh.np, Bool.or_eq_true]
  refine .inr ?_
  simp only [Z7, List.all_cons, List.all_nil, Bool.and_true, Bool.and_eq_true]
  exact ⟨h1, h2, rfl, rfl, rfl, rfl, rfl, rfl, rfl, rfl, rfl, rfl, rfl⟩
theorem CfgR.Z2q {y : SV} {c : Cfg} (h : CfgR y c) : Sh.np Zar y = true := by
  obtain ⟨p, l, rfl, hp⟩ := h
  exact hp.npA
theorem Zz {x : SV} (h : Ztp x = true) : x.cells = [x] := by cases x <;> simp [Ztp] at h <;> rfl
theorem Zax {x : SV} (h : Ztp x = true) : x.sto = true := by cases x <;> simp [Ztp] at h <;> rfl
@[simp] theorem Zao5 (p : Part) : (Zc9 p).cells = [.int .i64 p.nodes, .int .i64 p.faults] := rfl
@[simp] theorem Zaqj (l : Link) : (Za2 l).cells = [.int .i64 l.a, .int .i64 l.b, .int .i64 l.pa0, .int .i64 l.pa1, .int .i64 l.pb0, .int .i64 l.pb1] := rfl
@[simp] theorem Zap4 (p : Port) : (Zap p).cells = [.int .i64 p.node, .int .i64 p.link, .int .i64 p.gate, .int .i64 p.side] := rfl
@[simp] theorem Zaof (l : Link) : SV.agg [.int .i64 l.a, .int .i64 l.b, .int .i64 l.pa0, .int .i64 l.pa1, .int .i64 l.pb0, .int .i64 l.pb1] = Za2 l := rfl
@[simp] theorem Zzv (p : Part) : SV.agg [.int .i64 p.nodes, .int .i64 p.faults] = Zc9 p := rfl
@[simp] theorem Zawd (p : Port) : SV.agg [.int .i64 p.node, .int .i64 p.link, .int .i64 p.gate, .int .i64 p.side] = Zap p := rfl
@[simp] theorem Zase (l : Link) : (Za2 l).sto = true := rfl
@[simp] theorem Zasf (l : Part) : (Zc9 l).sto = true := rfl
@[simp] theorem Zar5 (l : Port) : (Zap l).sto = true := rfl
theorem Z50 : Elm (fun y a => y = Za2 a) ⟨.struct [(Zc, 0), (Zc, 1), (Zaq, 2), (Zaq, 4)], 6, 48, some (.agg [.int .i64 0, .int .i64 0, .int .i64 0, .int .i64 0, .int .i64 0, .int .i64 0])⟩ :=
  ⟨fun h => by rw [h]; rfl, fun h => by rw [h]; rfl, fun h => by rw [h]; rfl, fun h => by rw [h]; rfl⟩
theorem Parts.at {x : SV} {l : List Part} (h : Parts x l) {j : Nat} (hj : j < l.length) : Z9 ES.P Zm x (.int .i64 j) = some (.rptr (l.map Zc9) j 0 (Zwi x)) := RSl.at h Za1 Z1c (fun _ => rfl) hj
theorem Links.at {x : SV} {l : List Link} (h : Links x l) {j : Nat} (hj : j < l.length) : Z9 ES.P Zr x (.int .i64 j) = some (.rptr (l.map Za2) j 0 (Zwi x)) := RSl.at h Zbi Zlw (fun _ => rfl) hj
theorem Zsl.at {x : SV} {l : List Port} (h : Zsl x l) {j : Nat} (hj : j < l.length) : Z9 ES.P Zaf x (.int .i64 j) = some (.rptr (l.map Zap) j 0 (Zwi x)) := RSl.at h Zh1 Znr (fun _ => rfl) hj
@[simp] theorem Zav8 (id i o : Nat) : Z9 ES.P Zaq (.ptr id i o) (.int .i64 0) = some (.ptr id i o) := by simp [Z9, Zs4]
@[simp] theorem Zawo (id i o : Nat) : Z9 ES.P Zaq (.ptr id i o) (.int .i64 1) = some (.ptr id i (o + 1)) := by simp [Z9, Zs4]
@[simp] theorem ixr2_0 (l : List SV) (i o : Nat) (s : Bool) : Z9 ES.P Zaq (.rptr l i o s) (.int .i64 0) = some (.rptr l i o s) := by simp [Z9, Zs4]
@[simp] theorem ixr2_1 (l : List SV) (i o : Nat) (s : Bool) : Z9 ES.P Zaq (.rptr l i o s) (.int .i64 1) = some (.rptr l i (o + 1) s) := by simp [Z9, Zs4]
@[simp] theorem ix2_0 (x y : SV) : Zt5 ES.P Zaq (.agg [x, y]) (.int .i64 0) = some x := by simp [Zt5, Zs4, Zo, TK.agg]
@[simp] theorem ix2_1 (x y : SV) : Zt5 ES.P Zaq (.agg [x, y]) (.int .i64 1) = some y := by simp [Zt5, Zs4, Zo, TK.agg]

end Go.Proofs.YtfphjfbknphhjaaGreatDoor

/-
  Walks of the seat's functions: Rp.
-/
set_option linter.unusedVariables false
set_option linter.unusedSimpArgs false
set_option maxRecDepth 100000
namespace Go.Proofs.YtfphjfbknphhjaaGreatDoor
open Go.Proofs.YtfphjfbknphhjaaGreatDoor.Sh
/-! slices.Repeat of one number; slices.Index. -/
theorem Zae3 (get) {n : Nat} (h1 : 1 ≤ n) (h6 : n ≤ 6) : Za0 (PCw ES) get Zqb [.int .u64 1, .int .u64 n] = some (.tup [.int .u64 0, .int .u64 n]) := by
  have h : n = 1 ∨ n = 2 ∨ n = 3 ∨ n = 4 ∨ n = 5 ∨ n = 6 := by omega
  rcases h with rfl | rfl | rfl | rfl | rfl | rfl
  all_goals exact Z4 (Zeu 20 (by kernel_rfl)) rfl

theorem Zaqn (v z : SV) {m n : Nat} (hm : m ≤ n) : (List.replicate m v ++ List.replicate (n - m) z).take m ++ (List.replicate m v).take (min m (n - m)) ++ (List.replicate m v ++ List.replicate (n - m) z).drop (m + min m (n - m)) =
    List.replicate (m + min m (n - m)) v ++ List.replicate (n - (m + min m (n - m))) z := by
  have h1 : (List.replicate m v ++ List.replicate (n - m) z).take m = List.replicate m v := by
    rw [List.take_append_of_le_length (by simp)]; simp
  have h2 : (List.replicate m v).take (min m (n - m)) = List.replicate (min m (n - m)) v := by
    rw [List.take_replicate]; congr 1; omega
  have h3 : (List.replicate m v ++ List.replicate (n - m) z).drop (m + min m (n - m)) = List.replicate (n - (m + min m (n - m))) z := by
    rw [List.drop_append, List.drop_replicate, List.drop_replicate]
    have : m - (m + min m (n - m)) = 0 := by omega
    rw [this]
    simp only [List.replicate_zero, List.nil_append, List.length_replicate]
    congr 1; omega
  rw [h1, h2, h3, ← List.replicate_append_replicate]
theorem Z5s {n q : Nat} (v : Int) (h6 : n ≤ 6) : ∀ (k m : Nat) (M : Mem), n - m ≤ k → 1 ≤ m → m ≤ n → M.blk q = some (List.replicate m (.int .i64 v) ++ List.replicate (n - m) (.int .i64 0)) → q < M.next →
    ∃ M', evW ES Zbq Zd2 ⟨Zc8 (.own q 1 0 n) (.int .i64 m), M⟩ =
      some (.exit 0, ⟨(Zc8 (.own q 1 0 n) (.int .i64 n)).set 37 (.bool false), M'⟩) ∧ M'.blk q = some (List.replicate n (.int .i64 v)) ∧ M.next ≤ M'.next ∧ ∀ id, id ≠ q → id < M.next → M'.blk id = M.blk id
  | 0, m, M, hk, h1, hm, hb, hlt => by
    obtain rfl : m = n := by omega
    unfold Zd2
    rw [Zbl]
    refine ⟨M, ?_, by simpa using hb, Nat.le_refl _, fun _ _ _ => rfl⟩
    simp [Zf0, Zf, Zd, Ze, Zl, TK.agg, zeroS, Zx, Z5, Zc8, Zex]
  | k + 1, m, M, hk, h1, hm, hb, hlt => by
    by_cases hmn : m = n
    · exact Z5s v h6 0 m M (by omega) h1 hm hb hlt
    have hmn' : (m : Int) < n := by omega
    have hlt' : m < n := by omega
    have hst := Zaqn (.int .i64 v) (.int .i64 0) hm
    generalize hj : min m (n - m) = j at hst
    have hw : IntKind.i64.wrap ((m : Int) + (j : Int)) = ((m + j : Nat) : Int) := by rw [i64_in (by omega) (by omega)]; omega
    have hs1 : Zse ES.P Zv (.own q 1 0 n) (some (.int .i64 m)) none none = some (.own q 1 m (n - m)) := by
      simp [Zse, Zpq, Zs4, hm, hmn]
    have hs2 : Zse ES.P Zv (.own q 1 0 n) none (some (.int .i64 m)) none = some (.own q 1 0 m) := by
      have : ¬ (0 = m) := by omega
      simp [Zse, Zpq, Zs4, hm, this]
    have hcp : ∀ get : Nat → Option (List SV), get q = some (List.replicate m (.int .i64 v) ++ List.replicate (n - m) (.int .i64 0)) → copyS ES.P get Zv (.own q 1 m (n - m)) (.own q 1 0 m) =
        some (.int .i64 j, [(q, some (List.replicate (m + j) (.int .i64 v) ++ List.replicate (n - (m + j)) (.int .i64 0)))]) := by
      intro get hg
      have hit : Zkn get (.own q 1 0 m) = some (List.replicate m (.int .i64 v)) := by
        simp only [Zkn, hg]
        rw [if_pos (by simp)]
        rw [List.drop_zero, List.take_append_of_le_length (by simp)]
        simp
      have hu : Sh.Zv5 1 (List.replicate m (SV.int .i64 v)) = true := by simp [Sh.Zv5]
      simp only [copyS, Zb3, Zes, hit, hg]
      rw [if_pos ⟨trivial, trivial, rfl, by simp, hu⟩]
      simp only [List.length_replicate, hj, hst]
    obtain ⟨M', g1, g2, g3, g4⟩ := Z5s (q := q) v h6 k (m + j) ((M.bump 10).set q (some (List.replicate (m + j) (.int .i64 v) ++ List.replicate (n - (m + j)) (.int .i64 0)))) (by omega) (by omega) (by omega) (by simp) (by simp; omega)
    refine ⟨M', ?_, g2, by simp at g3; omega, fun id hid hl => by rw [g4 id hid (by simp; omega)]; simp [hid]⟩
    rw [← g1]
    unfold Zd2
    rw [Zbl]
    simp [Zf0, Zf, Zd, Ze, Zl, TK.agg, zeroS, Zx, Z5, Zc8, Zex, hmn', hlt', hs1, hs2, hcp, hb, hlt, hw]
theorem Zaoe {n id : Nat} (v : Int) (h1 : 1 ≤ n) (h6 : n ≤ 6) (M : Mem) (hb : M.blk id = some [.int .i64 v]) (hlt : id < M.next) : ∃ M' q, ICw ES Zbq [.own id 1 0 1, .int .i64 n] M = some (.own q 1 0 n, M') ∧
    M'.blk q = some (List.replicate n (.int .i64 v)) ∧ q < M'.next ∧ M.next ≤ q ∧ Old M M' := by
  rw [Zqk]
  have w1 : IntKind.u64.wrap (1 : Int) = 1 := rfl
  have w2 : IntKind.u64.wrap (n : Int) = n := by rw [IntKind.wrap_u64]; omega
  have w3 : IntKind.i64.wrap (n : Int) = n := i64_in (by omega) (by omega)
  have hn0 : ¬ ((n : Int) < 0) := by omega
  have hn1 : ¬ (9223372036854775807 < (n : Int)) := by omega
  have hmk : ∀ a, mkSl ES.P Zv a (.int .i64 n) (.int .i64 n) = some (.own a 1 0 n, List.replicate n (.int .i64 0)) := by
    intro a
    simp [mkSl]
    omega
  have hcp : ∀ get : Nat → Option (List SV), get (M.next + 2) = some (List.replicate n (.int .i64 0)) → get id = some [.int .i64 v] → copyS ES.P get Zv (.own (M.next + 2) 1 0 n) (.own id 1 0 1) =
      some (.int .i64 1, [(M.next + 2, some (List.replicate 1 (.int .i64 v) ++ List.replicate (n - 1) (.int .i64 0)))]) := by
    intro get hg hg2
    have hit : Zkn get (.own id 1 0 1) = some [.int .i64 v] := by simp [Zkn, hg2]
    have hu : Sh.Zv5 1 [SV.int .i64 v] = true := by simp [Sh.Zv5]
    simp only [copyS, Zb3, Zes, hit, hg]
    rw [if_pos ⟨trivial, trivial, rfl, by simp, hu⟩]
    have : min 1 n = 1 := by omega
    simp [this]
  obtain ⟨M', g1, g2, g3, g4⟩ := Z5s (q := M.next + 2) v h6 n 1 ((((M.bump 4).set (M.next + 2) (some (List.replicate n (.int .i64 0)))).bump 4).set (M.next + 2) (some (List.replicate 1 (.int .i64 v) ++ List.replicate (n - 1) (.int .i64 0)))) (by omega) (by omega) h1 (by simp) (by simp)
  have hold : Old M M' := by
    intro i hi
    rw [g4 i (by omega) (by simp; omega)]
    have : ¬ (i = M.next + 2) := by omega
    simp [this]
  refine ⟨M', M.next + 2, ?_, g2, by simp at g3; omega, by omega, hold⟩
  simp [Zc8] at g1
  have hne : ¬ (id = M.next + 2) := by omega
  simp [Zg0, Zf, Zd, Ze, Zl, TK.agg, zeroS, Zx, Z5, Zex, Zz8, w1, w2, w3, hn0, hn1, Zae3 _ h1 h6, hmk, hcp, hb, hne, g1]
/-- The first place of a number; -1. -/
def idxI (l : List Int) (v : Int) : Int := match (List.range l.length).find? (fun j => (l[j]?.map fun x => decide (v = x)).getD false) with
  | some i => (i : Int)
  | none => -1
theorem Zapr {x : SV} {l : List Int} (hx : Ints x l) (hb : l.length < 4611686018427387904) (v : Int) : PCw ES Zbu [x, .int .i64 v] = some (.int .i64 (idxI l v)) := by
  refine Za4 (fun M => ?_) rfl
  rw [Zq1]
  obtain ⟨r, h1, M', h2⟩ := Zdc (E := ES) (me := Zbu) (B := Zc6) (len := l.length) (T := fun j => Zbk x (.int .i64 v) (.int .i64 l.length) (.int .i64 j))
    (I := fun _ _ => True) (p := fun j => (l[j]?.map fun x => decide (v = x)).getD false)
    (Q := fun o r => ∃ M', r = match o with
      | some j => (.ret, ⟨(Zbk .Z .Z .Z .Z).set 4 (.int .i64 j), M'⟩)
      | none => (.exit 0, ⟨(Zbk x (.int .i64 v) (.int .i64 l.length) (.int .i64 l.length)).set 9 (.bool false), M'⟩))
    (fun j M hj _ hpj => by
      obtain ⟨y, hy, _, ha, hl⟩ := RSl.item hx Zb3 Zes Elm.int hj
      subst hy
      have hw : IntKind.i64.wrap ((j : Int) + 1) = (j : Int) + 1 := i64_in (by omega) (by omega)
      simp [hj] at hpj
      simp [Zc6, Zf, Zd, Ze, Zl, TK.agg, zeroS, Zx, Z5, Zbk, hj, ha, hl, hpj, hw])
    (fun j M hj _ hpj => by
      obtain ⟨y, hy, _, ha, hl⟩ := RSl.item hx Zb3 Zes Elm.int hj
      subst hy
      simp [hj] at hpj
      simp [Zc6, Zf, Zd, Ze, Zl, TK.agg, zeroS, Zx, Z5, Zbk, hj, ha, hl, hpj])
    (fun M _ => by simp [Zc6, Zf, Zd, Ze, Zl, TK.agg, zeroS, Zx, Z5, Zbk]) M trivial
  unfold idxI
  cases hf : (List.range l.length).find? (fun j => (l[j]?.map fun x => decide (v = x)).getD false) with
  | none =>
    rw [hf] at h2
    subst h2
    simp [Zbk] at h1
    simp [Zfa, Zf, Zd, Ze, Zl, TK.agg, zeroS, Zx, Z5, hx.Zex Zb3, Zgb, h1]
  | some j =>
    rw [hf] at h2
    subst h2
    simp [Zbk] at h1
    simp [Zfa, Zf, Zd, Ze, Zl, TK.agg, zeroS, Zx, Z5, hx.Zex Zb3, Zgb, h1]
theorem Zas2 (get) {x : SV} {l : List Int} (hx : Ints x l) (hb : l.length < 4611686018427387904) (v : Int) : Za0 (PCw ES) get Zbu [x, .int .i64 v] = some (.int .i64 (idxI l v)) := Z4 (Zapr hx hb v) (by simp [hx.Z2q])

end Go.Proofs.YtfphjfbknphhjaaGreatDoor
