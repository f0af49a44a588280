/-
  Walks of the seat's functions: Cf.
-/
import Derived.Test.YtedmidpnfnhnlaaEb0
import Derived.Test.YtedmidpnfnhnlaaShMb
import Derived.Test.YtedmidpnfnhnlaaLSl
import Derived.Sort.Grow
set_option linter.unusedVariables false
set_option linter.unusedSimpArgs false
set_option maxRecDepth 100000
namespace Go.Proofs.Ytedmidpnfnhnlaa
open Go.Proofs.Ytedmidpnfnhnlaa.Sh
/-! A network's parts and links. -/
structure Part where
  nodes : Int
  faults : Int
  deriving DecidableEq, Inhabited
structure Link where
  a : Int
  b : Int
  pa0 : Int
  pa1 : Int
  pb0 : Int
  pb1 : Int
  deriving DecidableEq, Inhabited
structure Cfg where
  parts : List Part
  links : List Link
  cycle : Int
  lead : Int
  slot : Int
  window : Int
  drift : Int
  rate : Int
  ages : Int
  lost : Int
  listen : Int
  span : Int
  room : Int
  deriving DecidableEq, Inhabited
structure Port where
  node : Int
  link : Int
  gate : Int
  side : Int
  deriving DecidableEq, Inhabited
def encPart (p : Part) : SV := .agg [.int .i64 p.nodes, .int .i64 p.faults]
def encLink (l : Link) : SV := .agg [.int .i64 l.a, .int .i64 l.b, .int .i64 l.pa0, .int .i64 l.pa1, .int .i64 l.pb0, .int .i64 l.pb1]
def encPort (p : Port) : SV := .agg [.int .i64 p.node, .int .i64 p.link, .int .i64 p.gate, .int .i64 p.side]
def cfgC (c : Cfg) (p l : SV) : List SV := [p, l, .int .i64 c.cycle, .int .i64 c.lead, .int .i64 c.slot, .int .i64 c.window, .int .i64 c.drift, .int .i64 c.rate, .int .i64 c.ages, .int .i64 c.lost, .int .i64 c.listen, .int .i64 c.span, .int .i64 c.room]
def Parts (x : SV) (l : List Part) : Prop := RSl (fun y a => y = encPart a) x l
def Links (x : SV) (l : List Link) : Prop := RSl (fun y a => y = encLink a) x l
def Ports (x : SV) (l : List Port) : Prop := RSl (fun y a => y = encPort a) x l
def Ints (x : SV) (l : List Int) : Prop := RSl (fun y n => y = .int .i64 n) x l
/-- A network: few parts and links. -/
structure CfgP (c : Cfg) (p l : SV) : Prop where
  p : Parts p c.parts
  l : Links l c.links
  lp : c.parts.length ≤ 17592186044416
  ll : c.links.length ≤ 17592186044416
def CfgR (y : SV) (c : Cfg) : Prop := ∃ p l, y = .agg (cfgC c p l) ∧ CfgP c p l

@[simp] theorem np_int (k : IntKind) (v : Int) (n : Nat) : np n (.int k v) = true := np_of_pv rfl _
@[simp] theorem np_bool (b : Bool) (n : Nat) : np n (.bool b) = true := np_of_pv rfl _
@[simp] theorem np_rint (k : IntKind) (v : Int) (i o : Nat) (s : Bool) : np picDepth (.rptr [.int k v] i o s) = true := by show (pv _ || ([SV.int k v].all (np 11))) = true; simp
theorem encPart_np (p : Part) (n : Nat) : np n (encPart p) = true := np_of_pv rfl _
theorem encLink_np (p : Link) (n : Nat) : np n (encLink p) = true := np_of_pv rfl _
theorem encPort_np (p : Port) (n : Nat) : np n (encPort p) = true := np_of_pv rfl _
theorem pv_encLink (l : Link) : pv (encLink l) = true := rfl
theorem np_rlink (l : Link) (i o : Nat) (s : Bool) : np picDepth (.rptr [encLink l] i o s) = true := by show (pv _ || ([encLink l].all (np 11))) = true; simp [encLink_np]
theorem np_fnlink (l : Link) {f : Nat} : np picDepth (.fn f [] [.rptr [encLink l] 0 0 false]) = true := rfl
theorem Parts.np {x : SV} {l : List Part} (h : Parts x l) : np 10 x = true := RSl.np h (n := 9) fun y a h => by rw [h]; exact encPart_np a 9
theorem Links.np {x : SV} {l : List Link} (h : Links x l) : np 10 x = true := RSl.np h (n := 9) fun y a h => by rw [h]; exact encLink_np a 9
theorem Ports.np {x : SV} {l : List Port} (h : Ports x l) : np 10 x = true := RSl.np h (n := 9) fun y a h => by rw [h]; exact encPort_np a 9
theorem Ints.np {x : SV} {l : List Int} (h : Ints x l) : np 10 x = true := RSl.np h (n := 9) fun y a h => by rw [h]; rfl
theorem Ints.np12 {x : SV} {l : List Int} (h : Ints x l) : Sh.np picDepth x = true := np_le (by decide) h.np
theorem Links.np12 {x : SV} {l : List Link} (h : Links x l) : Sh.np picDepth x = true := np_le (by decide) h.np
theorem Parts.np12 {x : SV} {l : List Part} (h : Parts x l) : Sh.np picDepth x = true := np_le (by decide) h.np
theorem Ports.np12 {x : SV} {l : List Port} (h : Ports x l) : Sh.np picDepth x = true := np_le (by decide) h.np
theorem CfgP.npA {c : Cfg} {p l : SV} (h : CfgP c p l) : Sh.np picDepth (.agg (cfgC c p l)) = true := by
  have h1 := np_le (m := 11) (by decide) h.p.np
  have h2 := np_le (m := 11) (by decide) h.l.np
  simp only [picDepth, Sh.np, Bool.or_eq_true]
  refine .inr ?_
  simp only [cfgC, List.all_cons, List.all_nil, Bool.and_true, Bool.and_eq_true]
  exact ⟨h1, h2, rfl, rfl, rfl, rfl, rfl, rfl, rfl, rfl, rfl, rfl, rfl⟩
theorem CfgR.np12 {y : SV} {c : Cfg} (h : CfgR y c) : Sh.np picDepth y = true := by
  obtain ⟨p, l, rfl, hp⟩ := h
  exact hp.npA
theorem sl_cells {x : SV} (h : isSl x = true) : x.cells = [x] := by cases x <;> simp [isSl] at h <;> rfl
theorem sl_sto {x : SV} (h : isSl x = true) : x.sto = true := by cases x <;> simp [isSl] at h <;> rfl
theorem sl_one {x : SV} (h : isSl x = true) : x.one = true := by cases x <;> simp [isSl] at h <;> rfl
@[simp] theorem encPart_cells (p : Part) : (encPart p).cells = [.int .i64 p.nodes, .int .i64 p.faults] := rfl
@[simp] theorem encLink_cells (l : Link) : (encLink l).cells = [.int .i64 l.a, .int .i64 l.b, .int .i64 l.pa0, .int .i64 l.pa1, .int .i64 l.pb0, .int .i64 l.pb1] := rfl
@[simp] theorem encPort_cells (p : Port) : (encPort p).cells = [.int .i64 p.node, .int .i64 p.link, .int .i64 p.gate, .int .i64 p.side] := rfl
@[simp] theorem fold_link (l : Link) : SV.agg [.int .i64 l.a, .int .i64 l.b, .int .i64 l.pa0, .int .i64 l.pa1, .int .i64 l.pb0, .int .i64 l.pb1] = encLink l := rfl
@[simp] theorem fold_part (p : Part) : SV.agg [.int .i64 p.nodes, .int .i64 p.faults] = encPart p := rfl
@[simp] theorem fold_port (p : Port) : SV.agg [.int .i64 p.node, .int .i64 p.link, .int .i64 p.gate, .int .i64 p.side] = encPort p := rfl
@[simp] theorem encLink_sto (l : Link) : (encLink l).sto = true := rfl
@[simp] theorem encPart_sto (l : Part) : (encPart l).sto = true := rfl
@[simp] theorem encPort_sto (l : Port) : (encPort l).sto = true := rfl

end Go.Proofs.Ytedmidpnfnhnlaa

/-
  Walks of the seat's functions: Mi.
-/
set_option linter.unusedVariables false
set_option linter.unusedSimpArgs false
set_option maxRecDepth 100000
namespace Go.Proofs.Ytedmidpnfnhnlaa
open Go.Proofs.Ytedmidpnfnhnlaa.Sh
/-! The middle of numbers: plain laws (no program in sight). -/
def cntLe (l : List Int) (t : Int) : Nat := l.countP fun x => decide (x ≤ t)
theorem cntLe_perm {a b : List Int} (h : a.Perm b) (t : Int) : cntLe a t = cntLe b t := h.countP_eq _
theorem cntLe_le (l : List Int) (t : Int) : cntLe l t ≤ l.length := List.countP_le_length
theorem cntLe_append (a b : List Int) (t : Int) : cntLe (a ++ b) t = cntLe a t + cntLe b t := List.countP_append ..
theorem cntLe_mono {l : List Int} {s t : Int} (h : s ≤ t) : cntLe l s ≤ cntLe l t := by
  unfold cntLe
  refine List.countP_mono_left fun x _ hx => ?_
  simp only [decide_eq_true_eq] at hx ⊢
  omega
/-- The k-th of numbers in order is at most t just where more than k are at most t. -/
theorem sorted_le_iff {s : List Int} (hs : s.Pairwise (· ≤ ·)) {k : Nat} (hk : k < s.length) (t : Int) : s[k] ≤ t ↔ k < cntLe s t := by
  induction s generalizing k with
  | nil => simp at hk
  | cons x s ih =>
    rw [List.pairwise_cons] at hs
    have hc : cntLe (x :: s) t = cntLe s t + if x ≤ t then 1 else 0 := by
      unfold cntLe
      rw [List.countP_cons]
      simp
    rw [hc]
    cases k with
    | zero =>
      simp only [List.getElem_cons_zero]
      by_cases hx : x ≤ t
      · simp [hx]
      · simp only [hx, if_false, Nat.add_zero, false_iff, Nat.not_lt, Nat.le_zero]
        unfold cntLe
        rw [List.countP_eq_zero]
        intro y hy
        have := hs.1 y hy
        simp
        omega
    | succ k =>
      have hk' : k < s.length := by simpa using hk
      simp only [List.getElem_cons_succ]
      rw [ih hs.2 hk']
      by_cases hx : x ≤ t
      · simp [hx]
      · simp only [hx, if_false, Nat.add_zero]
        have hz : cntLe s t = 0 := by
          unfold cntLe
          rw [List.countP_eq_zero]
          intro y hy
          have := hs.1 y hy
          simp
          omega
        omega
/-- Numbers in order. -/
structure Sorts (l s : List Int) : Prop where
  perm : s.Perm l
  le : s.Pairwise (· ≤ ·)
theorem Sorts.len {l s : List Int} (h : Sorts l s) : s.length = l.length := h.perm.length_eq
theorem Sorts.le_iff {l s : List Int} (h : Sorts l s) {k : Nat} (hk : k < s.length) (t : Int) : s[k] ≤ t ↔ k < cntLe l t := by
  rw [sorted_le_iff h.le hk, cntLe_perm h.perm]
theorem Sorts.mono {l s : List Int} (h : Sorts l s) {i j : Nat} (hij : i ≤ j) (hj : j < s.length) : s[i] ≤ s[j] := by
  rcases Nat.lt_or_eq_of_le hij with hlt | rfl
  · exact List.pairwise_iff_getElem.1 h.le i j (by omega) hj hlt
  · exact Int.le_refl _
/-- Twice the middle. -/
def mid2 (s : List Int) (f : Nat) : Int := s.getD f 0 + s.getD (s.length - 1 - f) 0
theorem near_cnt {a b : List Int} {d : Int} (hl : a.length = b.length) (h : ∀ i (h1 : i < a.length) (h2 : i < b.length), b[i] ≤ a[i] + d) (t : Int) : cntLe a t ≤ cntLe b (t + d) := by
  induction a generalizing b with
  | nil => simp [cntLe]
  | cons x a ih =>
    cases b with
    | nil => simp at hl
    | cons y b =>
      have h0 := h 0 (by simp) (by simp)
      simp only [List.getElem_cons_zero] at h0
      have hr := ih (b := b) (by simpa using hl) (fun i h1 h2 => by
        have h3 := h (i + 1) (by simp; omega) (by simp; omega)
        simp only [List.getElem_cons_succ] at h3
        exact h3)
      unfold cntLe at hr ⊢
      rw [List.countP_cons, List.countP_cons]
      by_cases hx : x ≤ t
      · have hy : y ≤ t + d := by omega
        simp [hx, hy]
        exact hr
      · simp [hx]
        omega
/-- Place by place at most d less: so are the numbers in order. -/
theorem near_sorts {a b sa sb : List Int} (ha : Sorts a sa) (hb : Sorts b sb) {d : Int} (hl : a.length = b.length) (h : ∀ i (h1 : i < a.length) (h2 : i < b.length), b[i] ≤ a[i] + d) {k : Nat} (hk : k < sa.length) (hk2 : k < sb.length) : sb[k] ≤ sa[k] + d := by
  rw [hb.le_iff hk2]
  have h1 := (ha.le_iff hk sa[k]).1 (Int.le_refl _)
  exact Nat.lt_of_lt_of_le h1 (near_cnt hl h sa[k])
theorem half_near {A B d : Int} (h : A ≤ B + 2 * d) : A / 2 ≤ B / 2 + d := by omega
/-- Few numbers ahead of the others: the middle lies among the others. -/
theorem mid_within {wrong right s : List Int} {f : Nat} (hs : Sorts (wrong ++ right) s) (hw : wrong.length ≤ f) (hn : 2 * f + 1 ≤ s.length) {low high : Int} (hl : ∀ x ∈ right, low ≤ x) (hh : ∀ x ∈ right, x ≤ high) : low ≤ mid2 s f / 2 ∧ mid2 s f / 2 ≤ high := by
  have hlen := hs.len
  rw [List.length_append] at hlen
  have k1 : f < s.length := by omega
  have k2 : s.length - 1 - f < s.length := by omega
  have e : mid2 s f = s[f] + s[s.length - 1 - f] := by unfold mid2; simp [k1, k2]
  have h1 : low ≤ s[f] := by
    apply Classical.byContradiction
    intro hc
    have := (hs.le_iff k1 (low - 1)).1 (by omega)
    rw [cntLe_append] at this
    have hz : cntLe right (low - 1) = 0 := by
      unfold cntLe
      rw [List.countP_eq_zero]
      intro x hx
      have := hl x hx
      simp
      omega
    have := cntLe_le wrong (low - 1)
    omega
  have h2 : s[s.length - 1 - f] ≤ high := by
    rw [hs.le_iff k2, cntLe_append]
    have hz : cntLe right high = right.length := by
      unfold cntLe
      rw [List.countP_eq_length]
      intro x hx
      simpa using hh x hx
    omega
  have h3 := hs.mono (i := f) (j := s.length - 1 - f) (by omega) k2
  rw [e]
  omega
/-- With at least 3 f and 1 numbers of which f are wrong: the middle's interval holds the f-th of the others. -/
theorem mid_holds {wrong right s r : List Int} {f : Nat} (hs : Sorts (wrong ++ right) s) (hr : Sorts right r) (hw : wrong.length = f) (hn : 3 * f + 1 ≤ s.length) (k1 : f < s.length) (k2 : s.length - 1 - f < s.length) (k3 : f < r.length) : s[f] ≤ r[f] ∧ r[f] ≤ s[s.length - 1 - f] := by
  have hlen := hs.len
  have hlr := hr.len
  rw [List.length_append] at hlen
  constructor
  · rw [hs.le_iff k1, cntLe_append]
    have := (hr.le_iff k3 r[f]).1 (Int.le_refl _)
    omega
  · apply Classical.byContradiction
    intro hc
    have h1 : s[s.length - 1 - f] ≤ r[f] - 1 := by omega
    rw [hs.le_iff k2, cntLe_append] at h1
    have h2 : ¬ (r[f] ≤ r[f] - 1) := by omega
    rw [hr.le_iff k3] at h2
    have := cntLe_le wrong (r[f] - 1)
    omega
theorem mid_bounds {wrong right s : List Int} {f : Nat} (hs : Sorts (wrong ++ right) s) (hw : wrong.length = f) (hn : 3 * f + 1 ≤ s.length) {low high : Int} (hl : ∀ x ∈ right, low ≤ x) (hh : ∀ x ∈ right, x ≤ high) (k1 : f < s.length) (k2 : s.length - 1 - f < s.length) : low ≤ s[f] ∧ s[s.length - 1 - f] ≤ high := by
  have hlen := hs.len
  rw [List.length_append] at hlen
  constructor
  · apply Classical.byContradiction
    intro hc
    have := (hs.le_iff k1 (low - 1)).1 (by omega)
    rw [cntLe_append] at this
    have hz : cntLe right (low - 1) = 0 := by
      unfold cntLe
      rw [List.countP_eq_zero]
      intro x hx
      have := hl x hx
      simp
      omega
    have := cntLe_le wrong (low - 1)
    omega
  · rw [hs.le_iff k2, cntLe_append]
    have hz : cntLe right high = right.length := by
      unfold cntLe
      rw [List.countP_eq_length]
      intro x hx
      simpa using hh x hx
    omega
theorem mid_halves {wa wb ra rb sa sb : List Int} {f : Nat} (ha : Sorts (wa ++ ra) sa) (hb : Sorts (wb ++ rb) sb) (hwa : wa.length = f) (hwb : wb.length = f) (hr : ra.length = rb.length) (hn : 3 * f + 1 ≤ sa.length) {d low high : Int} (hd : 0 ≤ d)
    (h : ∀ i (h1 : i < ra.length) (h2 : i < rb.length), ra[i] ≤ rb[i] + d) (hl : ∀ x ∈ rb, low ≤ x) (hh : ∀ x ∈ ra, x ≤ high) (hla : ∀ x ∈ ra, low ≤ x) (hhb : ∀ x ∈ rb, x ≤ high) (hex : ∀ l : List Int, ∃ s, Sorts l s) :
    mid2 sa f / 2 ≤ mid2 sb f / 2 + ((high - low) / 2 + d + 1) := by
  obtain ⟨qa, hqa⟩ := hex ra
  obtain ⟨qb, hqb⟩ := hex rb
  have la := ha.len
  have lb := hb.len
  have lqa := hqa.len
  have lqb := hqb.len
  rw [List.length_append] at la lb
  have a1 : f < sa.length := by omega
  have a2 : sa.length - 1 - f < sa.length := by omega
  have b1 : f < sb.length := by omega
  have b2 : sb.length - 1 - f < sb.length := by omega
  obtain ⟨p1, _⟩ := mid_holds ha hqa hwa hn a1 a2 (by omega)
  obtain ⟨_, p2⟩ := mid_holds hb hqb hwb (by omega) b1 b2 (by omega)
  obtain ⟨_, p3⟩ := mid_bounds ha hwa hn hla hh a1 a2
  obtain ⟨p4, _⟩ := mid_bounds hb hwb (by omega) hl hhb b1 b2
  have p5 := near_sorts hqb hqa (d := d) hr.symm (fun i h1 h2 => h i h2 h1) (k := f) (by omega) (by omega)
  have e1 : mid2 sa f = sa[f] + sa[sa.length - 1 - f] := by unfold mid2; simp [a1, a2]
  have e2 : mid2 sb f = sb[f] + sb[sb.length - 1 - f] := by unfold mid2; simp [b1, b2]
  rw [e1, e2]
  omega
theorem sorts_exists (l : List Int) : ∃ s, Sorts l s := by
  induction l with
  | nil => exact ⟨[], .refl _, .nil⟩
  | cons x l ih =>
    obtain ⟨s, h1, h2⟩ := ih
    refine ⟨(s.filter fun y => decide (y < x)) ++ x :: (s.filter fun y => !decide (y < x)), ?_, ?_⟩
    · refine (List.perm_middle).trans ?_
      exact ((List.filter_append_perm _ s).trans h1).cons x
    · rw [List.pairwise_append]
      refine ⟨h2.filter _, ?_, ?_⟩
      · rw [List.pairwise_cons]
        refine ⟨fun y hy => ?_, h2.filter _⟩
        simp at hy
        omega
      · intro a ha b hb
        simp at ha hb
        rcases hb with rfl | ⟨_, hb⟩ <;> omega
/-- Numbers have one order. -/
theorem Sorts.uniq {l s t : List Int} (hs : Sorts l s) (ht : Sorts l t) : s = t := by
  refine List.ext_getElem (by rw [hs.len, ht.len]) fun k h1 h2 => ?_
  have a := (hs.le_iff h1 t[k]).2 ((ht.le_iff h2 t[k]).1 (Int.le_refl _))
  have b := (ht.le_iff h2 s[k]).2 ((hs.le_iff h1 s[k]).1 (Int.le_refl _))
  omega
theorem Sorts.shift {l s : List Int} (h : Sorts l s) (d : Int) : Sorts (l.map (· + d)) (s.map (· + d)) :=
  ⟨h.perm.map _, List.pairwise_map.2 (h.le.imp fun hab => by omega)⟩

end Go.Proofs.Ytedmidpnfnhnlaa

/-
  Walks of the seat's functions: Pt.
-/
set_option linter.unusedVariables false
set_option linter.unusedSimpArgs false
set_option maxRecDepth 100000
namespace Go.Proofs.Ytedmidpnfnhnlaa
open Go.Proofs.Ytedmidpnfnhnlaa.Sh
/-! slices.Sort on numbers of the call's own: what the shadow says of it, out of the library's contract. -/
theorem insI_perm (x : Int) : ∀ l, (insI x l).Perm (x :: l)
  | [] => .refl _
  | y :: r => by
    unfold insI
    split
    · exact .refl _
    · exact ((insI_perm x r).cons y).trans (.swap ..)
theorem isortI_perm : ∀ l, (isortI l).Perm l
  | [] => .refl _
  | x :: r => (insI_perm x _).trans ((isortI_perm r).cons x)
theorem insI_le (x : Int) : ∀ {l : List Int}, l.Pairwise (· ≤ ·) → (insI x l).Pairwise (· ≤ ·)
  | [], _ => by simp [insI]
  | y :: r, h => by
    rw [List.pairwise_cons] at h
    unfold insI
    split
    · rename_i hxy
      rw [List.pairwise_cons, List.pairwise_cons]
      refine ⟨fun z hz => ?_, h.1, h.2⟩
      rcases List.mem_cons.1 hz with rfl | hz
      · exact hxy
      · have := h.1 z hz; omega
    · rename_i hxy
      rw [List.pairwise_cons]
      refine ⟨fun z hz => ?_, insI_le x h.2⟩
      rcases List.mem_cons.1 ((insI_perm x r).mem_iff.1 hz) with rfl | hz
      · omega
      · exact h.1 z hz
theorem isortI_le : ∀ l, (isortI l).Pairwise (· ≤ ·)
  | [] => .nil
  | x :: r => insI_le x (isortI_le r)
theorem isortI_sorts (l : List Int) : Sorts l (isortI l) := ⟨isortI_perm l, isortI_le l⟩
theorem isortI_len (l : List Int) : (isortI l).length = l.length := (isortI_sorts l).len
theorem mergeSort_isortI (l : List Int) : (l.mergeSort fun x y => decide (x ≤ y)) = isortI l := by
  refine Sorts.uniq (l := l) ⟨List.mergeSort_perm l _, ?_⟩ (isortI_sorts l)
  have := List.pairwise_mergeSort (le := fun x y : Int => decide (x ≤ y)) (fun a b c h1 h2 => by simp at *; omega) (fun a b => by simp; omega) l
  exact this.imp fun h => by simpa using h
theorem numsOf_map : ∀ {items : List SV} {l : List Int}, numsOf items = some l → items = l.map (SV.int .i64)
  | [], l, h => by simp [numsOf] at h; subst h; rfl
  | x :: r, l, h => by
    unfold numsOf at h
    split at h
    · simp at *
    · rename_i n r' e
      cases e
      split at h
      · rename_i l' hl'
        cases h
        rw [numsOf_map hl']
        rfl
      · cases h
    · cases h
theorem numsOf_of : ∀ l : List Int, numsOf (l.map (SV.int .i64)) = some l
  | [] => rfl
  | x :: r => by simp [numsOf, numsOf_of r]
theorem flat_nums (l : List Int) : flat (l.map (SV.int .i64)) = l.map (SV.int .i64) := by
  unfold flat
  induction l with
  | nil => rfl
  | cons x r ih => rw [List.map_cons, List.flatMap_cons, ih]; rfl
theorem sort_ok {E : Env} {f : Nat} (hent : Enters E.P f) (hcall : ∀ (blk off cap : Nat) (zs : List Int) (w : World), Go.Sort.Holds (Value.int .i64) w blk off zs.toArray → blk < w.heap.size → zs.length < 4611686018427387904 →
      Calls E.P f #[.slice (some ⟨blk, off, none⟩) zs.length cap] w fun e w' => e = .returned (.tuple #[]) ∧ ∃ n os, w' = Go.Sort.grow (Go.Sort.putRow (Value.int .i64) (Go.Sort.ahead w n) blk off (zs.mergeSort fun x y => decide (x ≤ y)).toArray) os) :
    ICok E (fun f' args M => if f' = f then prim_slices_Sort args M else none) := by
  intro f' args M r M' h
  simp only at h
  split at h
  case isFalse => cases h
  rename_i hf
  subst hf
  unfold prim_slices_Sort at h
  split at h
  case h_2 => cases h
  rename_i id len
  split at h
  case h_2 => cases h
  rename_i items hid
  split at h
  case h_2 => cases h
  rename_i l hl
  split at h
  case isFalse => cases h
  rename_i hlen
  obtain ⟨hlen, hbig⟩ := hlen
  simp only [Option.some.injEq, Prod.mk.injEq] at h
  obtain ⟨rfl, rfl⟩ := h
  have hit := numsOf_map hl
  subst hit hlen
  refine ⟨hent, Nat.le_refl _, fun g w fr args' hM hfr hargs => ?_⟩
  obtain ⟨v, rfl, hv⟩ : ∃ v, args' = #[v] ∧ VR g w (.own id 1 0 l.length) v := by
    obtain ⟨h1, h2⟩ := hargs
    obtain ⟨a⟩ := args'
    match a, h1 with
    | [v], _ => exact ⟨v, rfl, h2 0 _ v rfl rfl⟩
  cases hv with
  | own _ _ _ _ b cap hown hesz hle hs =>
  obtain ⟨b', c, e, q1, q2, q3, q4, q5, q6⟩ := hM.blk id _ hid
  obtain rfl : b' = b := by rw [hown] at q1; simpa using q1.symm
  rw [flat_nums] at q6
  have hcell : ∀ j, (hj : j < l.length) → c[j]? = some (Value.int .i64 l[j]) := fun j hj => by
    obtain ⟨_, u, hu1, hu2⟩ := q6 j (.int .i64 l[j]) (by simp [hj])
    rw [hu1, hu2.int_inv]
  have hb : b' < w.heap.size := (Array.getElem?_eq_some_iff.1 q5).1
  have hH : Go.Sort.Holds (Value.int .i64) w b' 0 l.toArray := fun j hj => by
    have hj' : j < l.length := by simpa using hj
    refine ⟨?_, by simp [World.frozen?, q5]⟩
    rw [cell?_cells q5, Nat.zero_add, hcell j hj']
    try simp [hj']
  rw [Nat.zero_mul]
  refine (hcall b' 0 cap l w hH hb (by omega)).mono ?_
  rintro en w' ⟨rfl, n, os, rfl⟩
  rw [mergeSort_isortI]
  have hb1 : RowKit.Below w.heap.size w (Go.Sort.ahead w n) := ⟨rfl, rfl, rfl, Nat.le_refl _, fun _ _ => rfl⟩
  obtain ⟨ev1, hM1⟩ := hM.grow hb1
  have hrow : Go.Sort.putRow (Value.int .i64) (Go.Sort.ahead w n) b' 0 (isortI l).toArray = (Go.Sort.ahead w n).setRow b' (Go.Sort.putCells (Value.int .i64) 0 (isortI l).toArray c) := by
    have e1 := Go.Sort.mapBlock_congr (Go.Sort.ahead w n) b' (Go.Sort.putCells (Value.int .i64) 0 (isortI l).toArray) (fun _ => Go.Sort.putCells (Value.int .i64) 0 (isortI l).toArray c) (fun c' e' fr' hh => by
      have : (Go.Sort.ahead w n).heap[b']? = some (Obj.cells c e (0, 0)) := q5
      rw [this] at hh
      cases hh
      rfl)
    show Go.Sort.mapBlock _ _ _ = _
    rw [e1]
    unfold Go.Sort.mapBlock World.setRow
    congr 1
  have hcs : (Go.Sort.putCells (Value.int .i64) 0 (isortI l).toArray c).size = c.size := by simp [Go.Sort.putCells]
  obtain ⟨ev2, hM2⟩ := MR.put (items' := (isortI l).map (SV.int .i64)) hM1 hid hown (show (Go.Sort.ahead w n).heap[b']? = some (Obj.cells c e (0, 0)) from q5) hcs (fun x hx => by
    simp only [List.mem_map] at hx
    obtain ⟨z, _, rfl⟩ := hx
    rw [hesz]; rfl) (fun k x hk => by
    rw [flat_nums] at hk
    have hkl : k < (isortI l).length := by
      have := (List.getElem?_eq_some_iff.1 hk).1
      simpa using this
    have hkl2 : k < l.length := by rw [← isortI_len l]; exact hkl
    rw [List.getElem?_map, List.getElem?_eq_getElem hkl] at hk
    simp only [Option.map_some, Option.some.injEq] at hk
    subst hk
    refine ⟨rfl, .int .i64 (isortI l)[k], ?_, .int _ _⟩
    have hck := hcell k hkl2
    have hks : k < c.size := (Array.getElem?_eq_some_iff.1 hck).1
    simp [Go.Sort.putCells, hks, hkl])
  rw [hrow]
  have hb3 : RowKit.Below ((Go.Sort.ahead w n).setRow b' (Go.Sort.putCells (Value.int .i64) 0 (isortI l).toArray c)).heap.size ((Go.Sort.ahead w n).setRow b' (Go.Sort.putCells (Value.int .i64) 0 (isortI l).toArray c)) (Go.Sort.grow ((Go.Sort.ahead w n).setRow b' (Go.Sort.putCells (Value.int .i64) 0 (isortI l).toArray c)) os) := by
    refine ⟨rfl, rfl, rfl, by simp, fun k hk => ?_⟩
    show (_ ++ os)[k]? = _
    rw [Array.getElem?_append, if_pos hk]
  obtain ⟨ev3, hM3⟩ := hM2.grow hb3
  exact ⟨_, g, rfl, (ev1.trans ev2).trans ev3, hM3.weaken hfr, .tup [] #[] rfl (fun k x v hx => by simp at hx), fun _ _ => rfl⟩

end Go.Proofs.Ytedmidpnfnhnlaa
