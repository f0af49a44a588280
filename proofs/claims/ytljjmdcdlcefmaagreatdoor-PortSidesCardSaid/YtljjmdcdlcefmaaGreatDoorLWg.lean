/-
  Walks of the seat's functions: Wg.
-/
import Derived.Test.YtljjmdcdlcefmaaGreatDoorEbMa
import Derived.Test.YtljjmdcdlcefmaaGreatDoorShMb
import Derived.Test.YtljjmdcdlcefmaaGreatDoorLzMf
set_option linter.unusedVariables false
set_option linter.unusedSimpArgs false
set_option maxRecDepth 100000
namespace Go.Proofs.YtljjmdcdlcefmaaGreatDoor
open Go.Proofs.YtljjmdcdlcefmaaGreatDoor.Sh
/-! The law PlanPorts. -/
def wantPorts (l : List Port) (links : Nat) : Bool :=
  (List.range l.length).all fun j => match l[j]? with
    | some p => decide (0 ≤ p.link ∧ p.link < links ∧ 0 ≤ p.gate ∧ p.gate ≤ 1) && (match j with | 0 => true | i + 1 => match l[i]? with | some q => decide (q.node < p.node) | none => false)
    | none => true
theorem wantPorts_at {l : List Port} {links j : Nat} (h : wantPorts l links = true) (hj : j < l.length) : (0 ≤ l[j].link ∧ l[j].link < links ∧ 0 ≤ l[j].gate ∧ l[j].gate ≤ 1) ∧ ∀ i, (hi : j = i + 1) → l[i].node < l[j].node := by
  have h1 := List.all_eq_true.1 h j (List.mem_range.2 hj)
  simp only [List.getElem?_eq_getElem hj, Bool.and_eq_true, decide_eq_true_eq] at h1
  refine ⟨h1.1, fun i hi => ?_⟩
  subst hi
  have h2 := h1.2
  simp only [List.getElem?_eq_getElem (show i < l.length by omega), decide_eq_true_eq] at h2
  exact h2
def addOne (cnt : List Int) (p : Port) : List Int := cnt.modify p.link.toNat fun x => w64 (x + 1)
def intSV (l : List Int) : List SV := l.map (.int .i64)
def cntTo (c : Cfg) (p : Nat) : List Int := (List.range p).foldl (fun cnt (q : Nat) => (portsG c q).foldl addOne cnt) (List.replicate c.links.length 0)
theorem addOne_len (cnt : List Int) (p : Port) : (addOne cnt p).length = cnt.length := by simp [addOne]
theorem foldl_addOne_len (l : List Port) : ∀ cnt : List Int, (l.foldl addOne cnt).length = cnt.length := by
  induction l with
  | nil => intro cnt; rfl
  | cons x l ih => intro cnt; rw [List.foldl_cons, ih, addOne_len]
theorem cntTo_succ (c : Cfg) (p : Nat) : cntTo c (p + 1) = (portsG c p).foldl addOne (cntTo c p) := by simp [cntTo, List.range_succ]
theorem cntTo_len (c : Cfg) : ∀ p, (cntTo c p).length = c.links.length
  | 0 => by simp [cntTo]
  | p + 1 => by rw [cntTo_succ, foldl_addOne_len, cntTo_len c p]
def netPL (p s : Nat) : Cfg :=
  let c := rowC (partC ⟨[], [], 0, 0, 0, 0, 0, 0, 0, 0, 0, 0, 0⟩ p) s (p - 1)
  if s = 1 ∧ 2 < p then joinC c 0 (p - 1) else c
theorem joinC_pl {c d : Cfg} (h1 : c.parts = d.parts) (h2 : c.links = d.links) (a b : Nat) : (joinC c a b).parts = (joinC d a b).parts ∧ (joinC c a b).links = (joinC d a b).links := by simp [joinC, h1, h2]
theorem rowC_pl {c d : Cfg} (s : Nat) (h1 : c.parts = d.parts) (h2 : c.links = d.links) : ∀ j, (rowC c s j).parts = (rowC d s j).parts ∧ (rowC c s j).links = (rowC d s j).links
  | 0 => ⟨h1, h2⟩
  | j + 1 => by
    obtain ⟨i1, i2⟩ := rowC_pl s h1 h2 j
    exact joinC_pl i1 i2 _ _
theorem netC_pl (m : Nat) : (netC m).parts = (netPL (partsN m) (shapeN m)).parts ∧ (netC m).links = (netPL (partsN m) (shapeN m)).links := by
  have h := rowC_pl (c := partC (baseC m) (partsN m)) (d := partC ⟨[], [], 0, 0, 0, 0, 0, 0, 0, 0, 0, 0, 0⟩ (partsN m)) (shapeN m) rfl rfl (partsN m - 1)
  unfold netC netPL
  simp only
  split
  · exact joinC_pl h.1 h.2 _ _
  · exact h
theorem checkG_pl {c d : Cfg} (h1 : c.parts = d.parts) (h2 : c.links = d.links) : checkG c = checkG d := by
  obtain ⟨p, l, _, _, _, _, _, _, _, _, _, _, _⟩ := c
  obtain ⟨p', l', _, _, _, _, _, _, _, _, _, _, _⟩ := d
  simp only at h1 h2
  subst h1 h2
  unfold checkG checkErr partsErr linksErr linkErr badEnds endBad portBad nodesAt
  rfl
theorem portsG_pl {c d : Cfg} (h1 : c.parts = d.parts) (h2 : c.links = d.links) (part : Int) : portsG c part = portsG d part := by
  unfold portsG rightC nodesAt
  rw [checkG_pl h1 h2, h1, h2]
/-- Whether a network is right, and each link has four ports. -/
def okNet (c : Cfg) : Bool := rightC c && (List.range c.parts.length).all (fun (p : Nat) => wantPorts (portsG c p) c.links.length) && decide (cntTo c c.parts.length = List.replicate c.links.length 4)
theorem okNet_all : (List.range 4).all (fun p => (List.range 4).all fun s => okNet (netPL (p + 1) s)) = true := by decide +kernel
theorem okNet_pl {c d : Cfg} (h1 : c.parts = d.parts) (h2 : c.links = d.links) (h : okNet d = true) : okNet c = true := by
  have e : okNet c = okNet d := by
    unfold okNet rightC cntTo
    rw [checkG_pl h1 h2]
    simp only [fun p : Int => portsG_pl h1 h2 p, h1, h2]
  rw [e]
  exact h
theorem made_ok (n : Int) : okNet (madeC n) = true := by
  have h1 := List.all_eq_true.1 okNet_all (partsN (mOf n) - 1) (by have := partsN_le (mOf n); simp; omega)
  have h2 := List.all_eq_true.1 h1 (shapeN (mOf n)) (by simp [shapeN]; omega)
  have e : partsN (mOf n) - 1 + 1 = partsN (mOf n) := by have := partsN_le (mOf n); omega
  rw [e] at h2
  obtain ⟨q1, q2⟩ := netC_pl (mOf n)
  exact okNet_pl q1 q2 h2
theorem made_right (n : Int) : rightC (madeC n) = true := by
  have := made_ok n
  simp only [okNet, Bool.and_eq_true] at this
  exact this.1.1

end Go.Proofs.YtljjmdcdlcefmaaGreatDoor
