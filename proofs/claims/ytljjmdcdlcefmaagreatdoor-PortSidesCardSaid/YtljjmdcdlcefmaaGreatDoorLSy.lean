/-
  Walks of the seat's functions: Sy.
-/
import Derived.Test.YtljjmdcdlcefmaaGreatDoorEbMa
import Derived.Test.YtljjmdcdlcefmaaGreatDoorShMb
import Derived.Test.YtljjmdcdlcefmaaGreatDoorLDs
set_option linter.unusedVariables false
set_option linter.unusedSimpArgs false
set_option maxRecDepth 100000
namespace Go.Proofs.YtljjmdcdlcefmaaGreatDoor
open Go.Proofs.YtljjmdcdlcefmaaGreatDoor.Sh
/-! How far parts are: it is as far there as back. -/
def inR (len : Nat) (x : Int) : Prop := 0 ≤ x ∧ x < len
theorem dget_set {d : List Int} {y v z : Int} (hy : inR d.length y) (hz : inR d.length z) : dget (d.set y.toNat v) z = if z = y then v else dget d z := by
  unfold inR at hy hz
  unfold dget
  have h1 : y.toNat < d.length := by omega
  have h2 : z.toNat < d.length := by omega
  by_cases e : z = y
  · subst e
    simp [h1]
  · have : y.toNat ≠ z.toNat := by omega
    simp [List.getElem?_set, this, e]
theorem relax_get {n : Int} {d : List Int} {x y z : Int} (hy : inR d.length y) (hz : inR d.length z) : dget (relax n d x y) z = if z = y ∧ dget d x = n ∧ dget d y < 0 then n + 1 else dget d z := by
  unfold relax
  by_cases h : dget d x = n ∧ dget d y < 0
  · rw [if_pos h, dget_set hy hz]
    by_cases e : z = y
    · rw [if_pos e, if_pos ⟨e, h⟩]
    · rw [if_neg e, if_neg (fun q => e q.1)]
  · rw [if_neg h, if_neg (fun q => h q.2)]
/-- A link leads from a part that is n far. -/
def hits (n : Int) (d : List Int) (l : Link) (z : Int) : Prop := (l.b = z ∧ dget d l.a = n) ∨ (l.a = z ∧ dget d l.b = n)
def wasHit (n : Int) (d : List Int) (S : List Link) (z : Int) : Prop := ∃ l ∈ S, hits n d l z
open Classical in
noncomputable def valS (n : Int) (d : List Int) (S : List Link) (z : Int) : Int := if dget d z < 0 ∧ wasHit n d S z then n + 1 else dget d z
open Classical in
theorem relaxL_get {n : Int} (hn : 0 ≤ n) {d0 d : List Int} {S : List Link} {l : Link} (hlen : d.length = d0.length) (hl : okL d0.length l) (hd : ∀ z, inR d0.length z → dget d z = valS n d0 S z) {z : Int} (hz : inR d0.length z) :
    dget (relaxL n d l) z = valS n d0 (S ++ [l]) z := by
  obtain ⟨a0, a1, b0, b1⟩ := hl
  have ia : inR d0.length l.a := ⟨a0, a1⟩
  have ib : inR d0.length l.b := ⟨b0, b1⟩
  have ia' : inR d.length l.a := by rw [hlen]; exact ia
  have ib' : inR d.length l.b := by rw [hlen]; exact ib
  have iz' : inR d.length z := by rw [hlen]; exact hz
  have key : wasHit n d0 (S ++ [l]) z ↔ wasHit n d0 S z ∨ hits n d0 l z := by
    unfold wasHit
    constructor
    · rintro ⟨m, hm, hh⟩
      rcases List.mem_append.1 hm with h | h
      · exact .inl ⟨m, h, hh⟩
      · simp at h; subst h; exact .inr hh
    · rintro (⟨m, hm, hh⟩ | hh)
      · exact ⟨m, by simp [hm], hh⟩
      · exact ⟨l, by simp, hh⟩
  have va := hd _ ia
  have vb := hd _ ib
  have vz := hd _ hz
  have hr1 : (relax n d l.a l.b).length = d.length := by simp
  unfold relaxL
  rw [relax_get (by rw [hr1]; exact ia') (by rw [hr1]; exact iz'), relax_get ib' iz', relax_get ib' ia', relax_get ib' ib']
  unfold valS at va vb vz ⊢
  rw [key]
  unfold hits
  by_cases ea : z = l.a
  · by_cases eb : z = l.b
    · have e2 : l.a = l.b := by omega
      rw [← ea] at va
      rw [← eb] at vb
      simp only [← ea, ← eb]
      by_cases h1 : dget d0 z < 0 <;> by_cases h2 : wasHit n d0 S z <;> simp only [h1, h2, and_true, and_false, if_true, if_false, true_and, false_and, or_false, false_or, true_or, or_true] at va vz ⊢ <;> (repeat' split) <;> omega
    · have e2 : ¬ l.b = z := fun e => eb e.symm
      have e3 : ¬ l.a = l.b := by omega
      rw [← ea] at va
      simp only [← ea, e2, eb, false_and, false_or, true_and, if_false]
      by_cases h1 : dget d0 z < 0 <;> by_cases h2 : wasHit n d0 S z <;> by_cases h3 : dget d0 l.b < 0 <;> by_cases h4 : wasHit n d0 S l.b <;> simp only [h1, h2, h3, h4, and_true, and_false, if_true, if_false, true_and, false_and, or_false, false_or, true_or, or_true] at va vb vz ⊢ <;> (repeat' split) <;> omega
  · by_cases eb : z = l.b
    · have e2 : ¬ l.a = z := fun e => ea e.symm
      rw [← eb] at vb
      simp only [← eb, e2, ea, false_and, or_false, true_and, if_false]
      by_cases h1 : dget d0 z < 0 <;> by_cases h2 : wasHit n d0 S z <;> by_cases h3 : dget d0 l.a < 0 <;> by_cases h4 : wasHit n d0 S l.a <;> simp only [h1, h2, h3, h4, and_true, and_false, if_true, if_false, true_and, false_and, or_false, false_or, true_or, or_true] at va vb vz ⊢ <;> (repeat' split) <;> omega
    · have e1 : ¬ l.a = z := fun e => ea e.symm
      have e2 : ¬ l.b = z := fun e => eb e.symm
      simp only [ea, eb, e1, e2, false_and, or_false, if_false]
      exact vz
theorem passL_get {n : Int} (hn : 0 ≤ n) {d0 : List Int} : ∀ (R S : List Link) (d : List Int), d.length = d0.length → (∀ l ∈ R, okL d0.length l) → (∀ z, inR d0.length z → dget d z = valS n d0 S z) → ∀ z, inR d0.length z → dget (passL n R d) z = valS n d0 (S ++ R) z
  | [], S, d, _, _, h, z, hz => by simpa [passL] using h z hz
  | l :: R, S, d, hlen, hok, h, z, hz => by
    have := passL_get hn R (S ++ [l]) (relaxL n d l) (by simpa using hlen) (fun m hm => hok m (by simp [hm])) (fun z hz => relaxL_get hn hlen (hok l (by simp)) h hz) z hz
    rw [List.append_assoc] at this
    exact this
def edgeP (ls : List Link) (x z : Int) : Prop := ∃ l ∈ ls, (l.a = x ∧ l.b = z) ∨ (l.b = x ∧ l.a = z)
theorem edgeP.symm {ls : List Link} {x z : Int} (h : edgeP ls x z) : edgeP ls z x := by
  obtain ⟨l, hl, h | h⟩ := h
  · exact ⟨l, hl, .inr ⟨h.2, h.1⟩⟩
  · exact ⟨l, hl, .inl ⟨h.2, h.1⟩⟩
def reach (ls : List Link) (a : Int) : Nat → Int → Prop
  | 0, z => z = a
  | m + 1, z => ∃ x, reach ls a m x ∧ edgeP ls x z
theorem reach_front {ls : List Link} {a b : Int} (h : edgeP ls a b) : ∀ {m : Nat} {z : Int}, reach ls b m z → reach ls a (m + 1) z
  | 0, z, hz => ⟨a, rfl, by have : z = b := hz; subst this; exact h⟩
  | m + 1, z, ⟨x, hx, he⟩ => ⟨x, reach_front h hx, he⟩
theorem reach_symm {ls : List Link} {a : Int} : ∀ {m : Nat} {z : Int}, reach ls a m z → reach ls z m a
  | 0, z, h => (show z = a from h).symm
  | m + 1, z, ⟨x, hx, he⟩ => reach_front he.symm (reach_symm hx)
theorem edge_in {ls : List Link} {len : Nat} (hl : ∀ l ∈ ls, okL len l) {x z : Int} (h : edgeP ls x z) : inR len x ∧ inR len z := by
  obtain ⟨l, hm, h | h⟩ := h
  · obtain ⟨a, b, c, d⟩ := hl l hm
    obtain ⟨rfl, rfl⟩ := h
    exact ⟨⟨a, b⟩, ⟨c, d⟩⟩
  · obtain ⟨a, b, c, d⟩ := hl l hm
    obtain ⟨rfl, rfl⟩ := h
    exact ⟨⟨c, d⟩, ⟨a, b⟩⟩
theorem distK_spec {ls : List Link} {len : Nat} {fr : Int} (hl : ∀ l ∈ ls, okL len l) (hf : inR len fr) : ∀ (k : Nat) (z : Int), inR len z →
    (dget (distK ls len fr k) z = -1 ∧ ∀ m ≤ k, ¬ reach ls fr m z) ∨ (∃ m : Nat, m ≤ k ∧ dget (distK ls len fr k) z = m ∧ reach ls fr m z ∧ ∀ m' < m, ¬ reach ls fr m' z)
  | 0, z, hz => by
    have hlen : (List.replicate len (-1 : Int)).length = len := by simp
    have e : dget (distK ls len fr 0) z = if z = fr then 0 else -1 := by
      show dget ((List.replicate len (-1 : Int)).set fr.toNat 0) z = _
      rw [dget_set (by rw [hlen]; exact hf) (by rw [hlen]; exact hz)]
      congr 1
      unfold dget
      unfold inR at hz
      have : z.toNat < len := by omega
      simp [this]
    by_cases h : z = fr
    · right
      exact ⟨0, Nat.le_refl _, by rw [e, if_pos h]; rfl, h, by simp⟩
    · left
      refine ⟨by rw [e, if_neg h], fun m hm hr => ?_⟩
      obtain rfl : m = 0 := by omega
      exact h hr
  | k + 1, z, hz => by
    have ih := distK_spec hl hf k
    have hdl : (distK ls len fr k).length = len := by simp
    have e : dget (distK ls len fr (k + 1)) z = valS k (distK ls len fr k) ([] ++ ls) z := by
      refine passL_get (by omega) ls [] _ rfl (by rw [hdl]; exact hl) (fun z hz => ?_) z (by rw [hdl]; exact hz)
      have : ¬ wasHit k (distK ls len fr k) [] z := fun ⟨l, hl, _⟩ => by simp at hl
      simp [valS, this]
    rw [List.nil_append] at e
    have hw : wasHit k (distK ls len fr k) ls z ↔ ∃ x, edgeP ls x z ∧ dget (distK ls len fr k) x = k := by
      constructor
      · rintro ⟨l, hm, h | h⟩
        · exact ⟨l.a, ⟨l, hm, .inl ⟨rfl, h.1⟩⟩, h.2⟩
        · exact ⟨l.b, ⟨l, hm, .inr ⟨rfl, h.1⟩⟩, h.2⟩
      · rintro ⟨x, ⟨l, hm, h | h⟩, hx⟩
        · exact ⟨l, hm, .inl ⟨h.2, by rw [h.1]; exact hx⟩⟩
        · exact ⟨l, hm, .inr ⟨h.2, by rw [h.1]; exact hx⟩⟩
    rcases ih z hz with ⟨h1, h2⟩ | ⟨m, hm, h1, h2, h3⟩
    · by_cases h : wasHit k (distK ls len fr k) ls z
      · right
        obtain ⟨x, he, hx⟩ := hw.1 h
        have ex : dget (distK ls len fr (k + 1)) z = k + 1 := by
          rw [e]; unfold valS; rw [if_pos ⟨by omega, h⟩]
        refine ⟨k + 1, Nat.le_refl _, by rw [ex]; rfl, ⟨x, ?_, he⟩, fun m' hm' => h2 m' (by omega)⟩
        rcases ih x (edge_in hl he).1 with ⟨q, _⟩ | ⟨m, _, q1, q2, _⟩
        · omega
        · obtain rfl : m = k := by omega
          exact q2
      · left
        have ex : dget (distK ls len fr (k + 1)) z = -1 := by
          rw [e]; unfold valS; rw [if_neg (fun q => h q.2)]; exact h1
        refine ⟨ex, fun m hm hr => ?_⟩
        rcases Nat.lt_or_ge m (k + 1) with hlt | hge
        · exact h2 m (by omega) hr
        · obtain rfl : m = k + 1 := by omega
          obtain ⟨x, hx, he⟩ := hr
          rcases ih x (edge_in hl he).1 with ⟨_, q⟩ | ⟨m, hmk, q1, q2, _⟩
          · exact q k (Nat.le_refl _) hx
          · rcases Nat.lt_or_ge m k with h4 | h4
            · exact h2 (m + 1) (by omega) ⟨x, q2, he⟩
            · obtain rfl : m = k := by omega
              exact h (hw.2 ⟨x, he, q1⟩)
    · right
      refine ⟨m, by omega, ?_, h2, h3⟩
      rw [e]; unfold valS; rw [if_neg (fun q => by omega)]; exact h1
/-- As far there as back. -/
theorem distL_symm {ls : List Link} {len : Nat} (hl : ∀ l ∈ ls, okL len l) {a b : Int} (ha : inR len a) (hb : inR len b) : dget (distL ls len a) b = dget (distL ls len b) a := by
  unfold distL
  rcases distK_spec hl ha len b hb with ⟨h1, h2⟩ | ⟨m, hm, h1, h2, h3⟩
  · rcases distK_spec hl hb len a ha with ⟨g1, _⟩ | ⟨k, hk, _, g2, _⟩
    · rw [h1, g1]
    · exact absurd (reach_symm g2) (h2 k hk)
  · rcases distK_spec hl hb len a ha with ⟨_, g2⟩ | ⟨k, hk, g1, g2, g3⟩
    · exact absurd (reach_symm h2) (g2 m hm)
    · rw [h1, g1]
      have a1 : ¬ m < k := fun h => g3 m h (reach_symm h2)
      have a2 : ¬ k < m := fun h => h3 k h (reach_symm g2)
      omega

end Go.Proofs.YtljjmdcdlcefmaaGreatDoor
