/-
  Walks of the seat's functions: Ds.
-/
import Derived.Test.YtfphjfbknphhjaaGreatDoorEb2
import Derived.Test.YtfphjfbknphhjaaGreatDoorShMb
import Derived.Test.YtfphjfbknphhjaaGreatDoorLzMc
set_option linter.unusedVariables false
set_option linter.unusedSimpArgs false
set_option maxRecDepth 100000
namespace Go.Proofs.YtfphjfbknphhjaaGreatDoor
open Go.Proofs.YtfphjfbknphhjaaGreatDoor.Sh
/-! How far parts are: the plain law. -/
def Z21 (d : List Int) (x : Int) : Int := (d[x.toNat]?).getD 0
def relax (n : Int) (d : List Int) (x y : Int) : List Int := if Z21 d x = n ∧ Z21 d y < 0 then d.set y.toNat (n + 1) else d
def Zk7 (n : Int) (d : List Int) (l : Link) : List Int := relax n (relax n d l.a l.b) l.b l.a
def Zkv (n : Int) (ls : List Link) (d : List Int) : List Int := ls.foldl (Zk7 n) d
def Z7t (len : Nat) (fr : Int) : List Int := (List.replicate len (-1 : Int)).set fr.toNat 0
/-- How far, behind so many rounds. -/
def Zlc (ls : List Link) (len : Nat) (fr : Int) : Nat → List Int
  | 0 => Z7t len fr
  | k + 1 => Zkv k ls (Zlc ls len fr k)
def Zlx (ls : List Link) (len : Nat) (fr : Int) : List Int := Zlc ls len fr len

@[simp] theorem Zart (n : Int) (d : List Int) (x y : Int) : (relax n d x y).length = d.length := by unfold relax; split <;> simp
@[simp] theorem Zaqi (n : Int) (d : List Int) (l : Link) : (Zk7 n d l).length = d.length := by simp [Zk7]
@[simp] theorem Zaq8 (n : Int) (ls : List Link) (d : List Int) : (Zkv n ls d).length = d.length := by
  unfold Zkv
  induction ls generalizing d with
  | nil => rfl
  | cons l r ih => rw [List.foldl_cons, ih]; simp
@[simp] theorem Zarj (ls : List Link) (len : Nat) (fr : Int) (k : Nat) : (Zlc ls len fr k).length = len := by
  induction k with
  | zero => simp [Zlc, Z7t]
  | succ k ih => simp [Zlc, ih]

/-- Of so many entries below 0. -/
def Z4w (d : List Int) : Nat := d.countP fun x => decide (x < 0)
theorem Z54 {d : List Int} {y : Int} {v : Int} (hy : y.toNat < d.length) (hn : Z21 d y < 0) (hv : 0 ≤ v) : Z4w (d.set y.toNat v) + 1 = Z4w d := by
  unfold Z4w
  have hg : d[y.toNat] < 0 := by simpa [Z21, hy] using hn
  have := List.countP_set (p := fun x : Int => decide (x < 0)) (l := d) (i := y.toNat) (a := v) hy
  rw [this]
  have h1 : decide (d[y.toNat] < 0) = true := by simpa using hg
  have h2 : decide (v < 0) = false := by simp; omega
  have hpos : 0 < List.countP (fun x : Int => decide (x < 0)) d := List.countP_pos_iff.2 ⟨d[y.toNat], List.getElem_mem hy, h1⟩
  simp only [h1, h2, if_true]
  simp
  omega
theorem Zyk {n : Int} (hn : 0 ≤ n) {d : List Int} {x y : Int} (hy : y.toNat < d.length) : relax n d x y = d ∨ Z4w (relax n d x y) + 1 = Z4w d := by
  unfold relax
  split
  · rename_i h
    exact .inr (Z54 hy h.2 (by omega))
  · exact .inl rfl
def okL (len : Nat) (l : Link) : Prop := 0 ≤ l.a ∧ l.a < len ∧ 0 ≤ l.b ∧ l.b < len
theorem Z8x {n : Int} (hn : 0 ≤ n) {d : List Int} {l : Link} (h : okL d.length l) : Zk7 n d l = d ∨ Z4w (Zk7 n d l) + 1 ≤ Z4w d := by
  obtain ⟨h1, h2, h3, h4⟩ := h
  unfold Zk7
  rcases Zyk hn (d := d) (x := l.a) (y := l.b) (by omega) with e | e
  · rw [e]
    rcases Zyk hn (d := d) (x := l.b) (y := l.a) (by omega) with e | e
    · exact .inl e
    · exact .inr (by omega)
  · rcases Zyk hn (d := relax n d l.a l.b) (x := l.b) (y := l.a) (by simp; omega) with e2 | e2
    · rw [e2]; exact .inr (by omega)
    · exact .inr (by omega)
theorem Zaf3 {n : Int} (hn : 0 ≤ n) : ∀ {ls : List Link} {d : List Int}, (∀ l ∈ ls, okL d.length l) → Zkv n ls d = d ∨ Z4w (Zkv n ls d) + 1 ≤ Z4w d
  | [], d, _ => .inl rfl
  | l :: r, d, h => by
    have ih := Zaf3 hn (ls := r) (d := Zk7 n d l) (fun x hx => by simpa using h x (by simp [hx]))
    have e : Zkv n (l :: r) d = Zkv n r (Zk7 n d l) := rfl
    rw [e]
    rcases Z8x hn (h l (by simp)) with e1 | e1
    · rw [e1] at ih ⊢; exact ih
    · rcases ih with e2 | e2
      · rw [e2]; exact .inr e1
      · exact .inr (by omega)
/-- No entry above. -/
def below (n : Int) (d : List Int) : Prop := ∀ x ∈ d, x ≤ n
theorem Zzb {n : Int} {d : List Int} {x y : Int} (h : below (n + 1) d) : below (n + 1) (relax n d x y) := by
  unfold relax
  split
  · intro z hz
    rcases List.mem_or_eq_of_mem_set hz with h1 | h1
    · exact h z h1
    · omega
  · exact h
theorem Zy0 {n : Int} : ∀ {ls : List Link} {d : List Int}, below (n + 1) d → below (n + 1) (Zkv n ls d)
  | [], d, h => h
  | l :: r, d, h => Zy0 (ls := r) (Zzb (Zzb h))
theorem Zafr {n m : Int} (hm : m < n) : ∀ {ls : List Link} {d : List Int}, (∀ l ∈ ls, okL d.length l) → below m d → Zkv n ls d = d
  | [], d, _, _ => rfl
  | l :: r, d, hl, h => by
    have key : ∀ x y : Int, 0 ≤ x → x < d.length → relax n d x y = d := by
      intro x y hx hx2
      unfold relax
      rw [if_neg]
      rintro ⟨h1, _⟩
      have hx3 : x.toNat < d.length := by omega
      have := h d[x.toNat] (List.getElem_mem hx3)
      simp [Z21, hx3] at h1
      omega
    obtain ⟨o1, o2, o3, o4⟩ := hl l (by simp)
    have e : Zk7 n d l = d := by unfold Zk7; rw [key _ _ o1 o2, key _ _ o3 o4]
    show Zkv n r (Zk7 n d l) = d
    rw [e]
    exact Zafr hm (fun x hx => hl x (by simp [hx])) h
theorem Z0d (ls : List Link) (len : Nat) (fr : Int) : ∀ k : Nat, below k (Zlc ls len fr k)
  | 0 => by
    intro x hx
    rcases List.mem_or_eq_of_mem_set hx with h | h
    · have := List.eq_of_mem_replicate h; omega
    · omega
  | k + 1 => by
    have ih := Z0d ls len fr k
    have : below ((k : Int) + 1) (Zlc ls len fr k) := fun x hx => by have := ih x hx; omega
    have := Zy0 (ls := ls) this
    intro x hx
    have := this x hx
    simpa using this
/-- Where a round changes nothing, none does. -/
theorem Zaje {ls : List Link} {len : Nat} {fr : Int} (hl : ∀ l ∈ ls, okL len l) {k : Nat} (h : Zlc ls len fr (k + 1) = Zlc ls len fr k) : ∀ j, k ≤ j → Zlc ls len fr j = Zlc ls len fr k := by
  intro j hj
  obtain ⟨i, rfl⟩ : ∃ i, j = k + i := ⟨j - k, by omega⟩
  clear hj
  induction i with
  | zero => rfl
  | succ i ih =>
    rcases i with _ | i
    · exact h
    show Zkv ((k + (i + 1) : Nat) : Int) ls (Zlc ls len fr (k + (i + 1))) = _
    rw [ih]
    exact Zafr (m := k) (by omega) (by simpa using hl) (Z0d ls len fr k)
theorem Zar1 (d : List Int) : Z4w d ≤ d.length := List.countP_le_length
theorem Ztm {ls : List Link} {len : Nat} {fr : Int} (hl : ∀ l ∈ ls, okL len l) (hf : 0 ≤ fr ∧ fr < len) : ∀ k : Nat, (∀ i < k, Zlc ls len fr (i + 1) ≠ Zlc ls len fr i) → Z4w (Zlc ls len fr k) + k + 1 ≤ len
  | 0, _ => by
    have hlt : fr.toNat < (List.replicate len (-1 : Int)).length := by simp; omega
    have h := Z54 (d := List.replicate len (-1 : Int)) (y := fr) (v := 0) hlt (by unfold Z21; rw [List.getElem?_eq_getElem hlt]; simp) (by omega)
    have h2 := Zar1 (List.replicate len (-1 : Int))
    simp only [Zlc, Z7t]
    simp at h2
    omega
  | k + 1, h => by
    have ih := Ztm hl hf k (fun i hi => h i (by omega))
    rcases Zaf3 (n := (k : Int)) (by omega) (ls := ls) (d := Zlc ls len fr k) (by simpa using hl) with e | e
    · exact absurd e (h k (by omega))
    · show Z4w (Zkv k ls (Zlc ls len fr k)) + (k + 1) + 1 ≤ len
      omega
/-- The first round that changes nothing comes in time. -/
theorem Zanz {ls : List Link} {len : Nat} {fr : Int} (hl : ∀ l ∈ ls, okL len l) (hf : 0 ≤ fr ∧ fr < len) {k : Nat} (h1 : ∀ i < k, Zlc ls len fr (i + 1) ≠ Zlc ls len fr i) (h2 : Zlc ls len fr (k + 1) = Zlc ls len fr k) : Zlc ls len fr k = Zlx ls len fr := by
  have := Ztm hl hf k h1
  exact (Zaje hl h2 len (by omega)).symm

end Go.Proofs.YtfphjfbknphhjaaGreatDoor

/-
  Walks of the seat's functions: Sy.
-/
set_option linter.unusedVariables false
set_option linter.unusedSimpArgs false
set_option maxRecDepth 100000
namespace Go.Proofs.YtfphjfbknphhjaaGreatDoor
open Go.Proofs.YtfphjfbknphhjaaGreatDoor.Sh
/-! How far parts are: it is as far there as back. -/
open Classical in
open Classical in
def Zasd (ls : List Link) (x z : Int) : Prop := ∃ l ∈ ls, (l.a = x ∧ l.b = z) ∨ (l.b = x ∧ l.a = z)
theorem Zasd.symm {ls : List Link} {x z : Int} (h : Zasd ls x z) : Zasd ls z x := by
  obtain ⟨l, hl, h | h⟩ := h
  · exact ⟨l, hl, .inr ⟨h.2, h.1⟩⟩
  · exact ⟨l, hl, .inl ⟨h.2, h.1⟩⟩
end Go.Proofs.YtfphjfbknphhjaaGreatDoor
