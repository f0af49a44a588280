/-
  Walks of the seat's functions: Ds.
-/
import Derived.Test.YtljjmdcdlcefmaaGreatDoorEbMa
import Derived.Test.YtljjmdcdlcefmaaGreatDoorShMb
import Derived.Test.YtljjmdcdlcefmaaGreatDoorLPl
set_option linter.unusedVariables false
set_option linter.unusedSimpArgs false
set_option maxRecDepth 100000
namespace Go.Proofs.YtljjmdcdlcefmaaGreatDoor
open Go.Proofs.YtljjmdcdlcefmaaGreatDoor.Sh
/-! How far parts are: the plain law. -/
def dget (d : List Int) (x : Int) : Int := (d[x.toNat]?).getD 0
def relax (n : Int) (d : List Int) (x y : Int) : List Int := if dget d x = n ∧ dget d y < 0 then d.set y.toNat (n + 1) else d
def relaxL (n : Int) (d : List Int) (l : Link) : List Int := relax n (relax n d l.a l.b) l.b l.a
def passL (n : Int) (ls : List Link) (d : List Int) : List Int := ls.foldl (relaxL n) d
def dinit (len : Nat) (fr : Int) : List Int := (List.replicate len (-1 : Int)).set fr.toNat 0
/-- How far, behind so many rounds. -/
def distK (ls : List Link) (len : Nat) (fr : Int) : Nat → List Int
  | 0 => dinit len fr
  | k + 1 => passL k ls (distK ls len fr k)
def distL (ls : List Link) (len : Nat) (fr : Int) : List Int := distK ls len fr len

@[simp] theorem relax_length (n : Int) (d : List Int) (x y : Int) : (relax n d x y).length = d.length := by unfold relax; split <;> simp
@[simp] theorem relaxL_length (n : Int) (d : List Int) (l : Link) : (relaxL n d l).length = d.length := by simp [relaxL]
@[simp] theorem passL_length (n : Int) (ls : List Link) (d : List Int) : (passL n ls d).length = d.length := by
  unfold passL
  induction ls generalizing d with
  | nil => rfl
  | cons l r ih => rw [List.foldl_cons, ih]; simp
@[simp] theorem distK_length (ls : List Link) (len : Nat) (fr : Int) (k : Nat) : (distK ls len fr k).length = len := by
  induction k with
  | zero => simp [distK, dinit]
  | succ k ih => simp [distK, ih]

/-- Of so many entries below 0. -/
def negs (d : List Int) : Nat := d.countP fun x => decide (x < 0)
theorem negs_set {d : List Int} {y : Int} {v : Int} (hy : y.toNat < d.length) (hn : dget d y < 0) (hv : 0 ≤ v) : negs (d.set y.toNat v) + 1 = negs d := by
  unfold negs
  have hg : d[y.toNat] < 0 := by simpa [dget, hy] using hn
  have := List.countP_set (p := fun x : Int => decide (x < 0)) (l := d) (i := y.toNat) (a := v) hy
  rw [this]
  have h1 : decide (d[y.toNat] < 0) = true := by simpa using hg
  have h2 : decide (v < 0) = false := by simp; omega
  have hpos : 0 < List.countP (fun x : Int => decide (x < 0)) d := List.countP_pos_iff.2 ⟨d[y.toNat], List.getElem_mem hy, h1⟩
  simp only [h1, h2, if_true]
  simp
  omega
theorem relax_or {n : Int} (hn : 0 ≤ n) {d : List Int} {x y : Int} (hy : y.toNat < d.length) : relax n d x y = d ∨ negs (relax n d x y) + 1 = negs d := by
  unfold relax
  split
  · rename_i h
    exact .inr (negs_set hy h.2 (by omega))
  · exact .inl rfl
def okL (len : Nat) (l : Link) : Prop := 0 ≤ l.a ∧ l.a < len ∧ 0 ≤ l.b ∧ l.b < len
theorem relaxL_or {n : Int} (hn : 0 ≤ n) {d : List Int} {l : Link} (h : okL d.length l) : relaxL n d l = d ∨ negs (relaxL n d l) + 1 ≤ negs d := by
  obtain ⟨h1, h2, h3, h4⟩ := h
  unfold relaxL
  rcases relax_or hn (d := d) (x := l.a) (y := l.b) (by omega) with e | e
  · rw [e]
    rcases relax_or hn (d := d) (x := l.b) (y := l.a) (by omega) with e | e
    · exact .inl e
    · exact .inr (by omega)
  · rcases relax_or hn (d := relax n d l.a l.b) (x := l.b) (y := l.a) (by simp; omega) with e2 | e2
    · rw [e2]; exact .inr (by omega)
    · exact .inr (by omega)
theorem passL_or {n : Int} (hn : 0 ≤ n) : ∀ {ls : List Link} {d : List Int}, (∀ l ∈ ls, okL d.length l) → passL n ls d = d ∨ negs (passL n ls d) + 1 ≤ negs d
  | [], d, _ => .inl rfl
  | l :: r, d, h => by
    have ih := passL_or hn (ls := r) (d := relaxL n d l) (fun x hx => by simpa using h x (by simp [hx]))
    have e : passL n (l :: r) d = passL n r (relaxL n d l) := rfl
    rw [e]
    rcases relaxL_or hn (h l (by simp)) with e1 | e1
    · rw [e1] at ih ⊢; exact ih
    · rcases ih with e2 | e2
      · rw [e2]; exact .inr e1
      · exact .inr (by omega)
/-- No entry above. -/
def below (n : Int) (d : List Int) : Prop := ∀ x ∈ d, x ≤ n
theorem relax_below {n : Int} {d : List Int} {x y : Int} (h : below (n + 1) d) : below (n + 1) (relax n d x y) := by
  unfold relax
  split
  · intro z hz
    rcases List.mem_or_eq_of_mem_set hz with h1 | h1
    · exact h z h1
    · omega
  · exact h
theorem passL_below {n : Int} : ∀ {ls : List Link} {d : List Int}, below (n + 1) d → below (n + 1) (passL n ls d)
  | [], d, h => h
  | l :: r, d, h => passL_below (ls := r) (relax_below (relax_below h))
theorem passL_id {n m : Int} (hm : m < n) : ∀ {ls : List Link} {d : List Int}, (∀ l ∈ ls, okL d.length l) → below m d → passL n ls d = d
  | [], d, _, _ => rfl
  | l :: r, d, hl, h => by
    have key : ∀ x y : Int, 0 ≤ x → x < d.length → relax n d x y = d := by
      intro x y hx hx2
      unfold relax
      rw [if_neg]
      rintro ⟨h1, _⟩
      have hx3 : x.toNat < d.length := by omega
      have := h d[x.toNat] (List.getElem_mem hx3)
      simp [dget, hx3] at h1
      omega
    obtain ⟨o1, o2, o3, o4⟩ := hl l (by simp)
    have e : relaxL n d l = d := by unfold relaxL; rw [key _ _ o1 o2, key _ _ o3 o4]
    show passL n r (relaxL n d l) = d
    rw [e]
    exact passL_id hm (fun x hx => hl x (by simp [hx])) h
theorem distK_below (ls : List Link) (len : Nat) (fr : Int) : ∀ k : Nat, below k (distK ls len fr k)
  | 0 => by
    intro x hx
    rcases List.mem_or_eq_of_mem_set hx with h | h
    · have := List.eq_of_mem_replicate h; omega
    · omega
  | k + 1 => by
    have ih := distK_below ls len fr k
    have : below ((k : Int) + 1) (distK ls len fr k) := fun x hx => by have := ih x hx; omega
    have := passL_below (ls := ls) this
    intro x hx
    have := this x hx
    simpa using this
/-- Where a round changes nothing, none does. -/
theorem distK_stop {ls : List Link} {len : Nat} {fr : Int} (hl : ∀ l ∈ ls, okL len l) {k : Nat} (h : distK ls len fr (k + 1) = distK ls len fr k) : ∀ j, k ≤ j → distK ls len fr j = distK ls len fr k := by
  intro j hj
  obtain ⟨i, rfl⟩ : ∃ i, j = k + i := ⟨j - k, by omega⟩
  clear hj
  induction i with
  | zero => rfl
  | succ i ih =>
    rcases i with _ | i
    · exact h
    show passL ((k + (i + 1) : Nat) : Int) ls (distK ls len fr (k + (i + 1))) = _
    rw [ih]
    exact passL_id (m := k) (by omega) (by simpa using hl) (distK_below ls len fr k)
theorem negs_le (d : List Int) : negs d ≤ d.length := List.countP_le_length
theorem distK_negs {ls : List Link} {len : Nat} {fr : Int} (hl : ∀ l ∈ ls, okL len l) (hf : 0 ≤ fr ∧ fr < len) : ∀ k : Nat, (∀ i < k, distK ls len fr (i + 1) ≠ distK ls len fr i) → negs (distK ls len fr k) + k + 1 ≤ len
  | 0, _ => by
    have hlt : fr.toNat < (List.replicate len (-1 : Int)).length := by simp; omega
    have h := negs_set (d := List.replicate len (-1 : Int)) (y := fr) (v := 0) hlt (by unfold dget; rw [List.getElem?_eq_getElem hlt]; simp) (by omega)
    have h2 := negs_le (List.replicate len (-1 : Int))
    simp only [distK, dinit]
    simp at h2
    omega
  | k + 1, h => by
    have ih := distK_negs hl hf k (fun i hi => h i (by omega))
    rcases passL_or (n := (k : Int)) (by omega) (ls := ls) (d := distK ls len fr k) (by simpa using hl) with e | e
    · exact absurd e (h k (by omega))
    · show negs (passL k ls (distK ls len fr k)) + (k + 1) + 1 ≤ len
      omega
/-- The first round that changes nothing comes in time. -/
theorem distK_fin {ls : List Link} {len : Nat} {fr : Int} (hl : ∀ l ∈ ls, okL len l) (hf : 0 ≤ fr ∧ fr < len) {k : Nat} (h1 : ∀ i < k, distK ls len fr (i + 1) ≠ distK ls len fr i) (h2 : distK ls len fr (k + 1) = distK ls len fr k) : distK ls len fr k = distL ls len fr := by
  have := distK_negs hl hf k h1
  exact (distK_stop hl h2 len (by omega)).symm

end Go.Proofs.YtljjmdcdlcefmaaGreatDoor
