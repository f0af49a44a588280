/-
  Walks of the seat's functions: Wg.
-/
import Derived.Test.YtfphjfbknphhjaaGreatDoorEb2
import Derived.Test.YtfphjfbknphhjaaGreatDoorShMb
import Derived.Test.YtfphjfbknphhjaaGreatDoorLzMk
set_option linter.unusedVariables false
set_option linter.unusedSimpArgs false
set_option maxRecDepth 100000
namespace Go.Proofs.YtfphjfbknphhjaaGreatDoor
open Go.Proofs.YtfphjfbknphhjaaGreatDoor.Sh
/-! The law PlanPorts. -/
def Zam7 (l : List Port) (links : Nat) : Bool :=
  (List.range l.length).all fun j => match l[j]? with
    | some p => decide (0 ≤ p.link ∧ p.link < links ∧ 0 ≤ p.gate ∧ p.gate ≤ 1) && (match j with | 0 => true | i + 1 => match l[i]? with | some q => decide (q.node < p.node) | none => false)
    | none => true
def Zaus (cn0 : List Int) (p : Port) : List Int := cn0.modify p.link.toNat fun x => w64 (x + 1)
def Zavu (c : Cfg) (p : Nat) : List Int := (List.range p).foldl (fun cn0 (q : Nat) => (Zabg c q).foldl Zaus cn0) (List.replicate c.links.length 0)
def Zaou (p s : Nat) : Cfg :=
  let c := Zza (Zil ⟨[], [], 0, 0, 0, 0, 0, 0, 0, 0, 0, 0, 0⟩ p) s (p - 1)
  if s = 1 ∧ 2 < p then Zsc c 0 (p - 1) else c
theorem Zagq {c d : Cfg} (h1 : c.parts = d.parts) (h2 : c.links = d.links) (a b : Nat) : (Zsc c a b).parts = (Zsc d a b).parts ∧ (Zsc c a b).links = (Zsc d a b).links := by simp [Zsc, h1, h2]
theorem Zand {c d : Cfg} (s : Nat) (h1 : c.parts = d.parts) (h2 : c.links = d.links) : ∀ j, (Zza c s j).parts = (Zza d s j).parts ∧ (Zza c s j).links = (Zza d s j).links
  | 0 => ⟨h1, h2⟩
  | j + 1 => by
    obtain ⟨i1, i2⟩ := Zand s h1 h2 j
    exact Zagq i1 i2 _ _
theorem Zasz (m : Nat) : (Z0g m).parts = (Zaou (Zaw m) (Zgy m)).parts ∧ (Z0g m).links = (Zaou (Zaw m) (Zgy m)).links := by
  have h := Zand (c := Zil (Znb m) (Zaw m)) (d := Zil ⟨[], [], 0, 0, 0, 0, 0, 0, 0, 0, 0, 0, 0⟩ (Zaw m)) (Zgy m) rfl rfl (Zaw m - 1)
  unfold Z0g Zaou
  simp only
  split
  · exact Zagq h.1 h.2 _ _
  · exact h
theorem Z1e {c d : Cfg} (h1 : c.parts = d.parts) (h2 : c.links = d.links) : Zem c = Zem d := by
  obtain ⟨p, l, _, _, _, _, _, _, _, _, _, _, _⟩ := c
  obtain ⟨p', l', _, _, _, _, _, _, _, _, _, _, _⟩ := d
  simp only at h1 h2
  subst h1 h2
  unfold Zem Zcn Zfu Zhf Zbs Zix endBad Zfl Zbx
  rfl
theorem Zakp {c d : Cfg} (h1 : c.parts = d.parts) (h2 : c.links = d.links) (part : Int) : Zabg c part = Zabg d part := by
  unfold Zabg Zcq Zbx
  rw [Z1e h1 h2, h1, h2]
/-- Whether a network is right, and each link has four ports. -/
def Zaba (c : Cfg) : Bool := Zcq c && (List.range c.parts.length).all (fun (p : Nat) => Zam7 (Zabg c p) c.links.length) && decide (Zavu c c.parts.length = List.replicate c.links.length 4)
theorem Zanx : (List.range 4).all (fun p => (List.range 4).all fun s => Zaba (Zaou (p + 1) s)) = true := by decide +kernel
theorem Zapj {c d : Cfg} (h1 : c.parts = d.parts) (h2 : c.links = d.links) (h : Zaba d = true) : Zaba c = true := by
  have e : Zaba c = Zaba d := by
    unfold Zaba Zcq Zavu
    rw [Z1e h1 h2]
    simp only [fun p : Int => Zakp h1 h2 p, h1, h2]
  rw [e]
  exact h
theorem Zasc (n : Int) : Zaba (Zck n) = true := by
  have h1 := List.all_eq_true.1 Zanx (Zaw (mOf n) - 1) (by have := Zki (mOf n); simp; omega)
  have h2 := List.all_eq_true.1 h1 (Zgy (mOf n)) (by simp [Zgy]; omega)
  have e : Zaw (mOf n) - 1 + 1 = Zaw (mOf n) := by have := Zki (mOf n); omega
  rw [e] at h2
  obtain ⟨q1, q2⟩ := Zasz (mOf n)
  exact Zapj q1 q2 h2
theorem Zwu (n : Int) : Zcq (Zck n) = true := by
  have := Zasc n
  simp only [Zaba, Bool.and_eq_true] at this
  exact this.1.1

end Go.Proofs.YtfphjfbknphhjaaGreatDoor
