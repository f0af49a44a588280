/-
  Walks of the seat's functions: Ap.
-/
import Derived.Test.YtaldchogcingbaaEb0
import Derived.Test.YtaldchogcingbaaShMb
import Derived.Test.YtaldchogcingbaaLCl
set_option linter.unusedVariables false
set_option linter.unusedSimpArgs false
set_option maxRecDepth 100000
namespace Go.Proofs.Ytaldchogcingbaa
open Go.Proofs.Ytaldchogcingbaa.Sh
/-! append of whatever list: a slice that came in, or a part of one of the call's own. -/
def Keeps (o : SV) (M M' : Mem) : Prop := ∀ id, id < M.next → (∀ e a b, o ≠ .own id e a b) → M'.blk id = M.blk id
theorem killO_oth {o : SV} {X : Mem} {s : Nat} (hne : ∀ e a b, o ≠ .own s e a b) : (X.sets (killO o)).blk s = X.blk s := by
  cases o <;> simp [killO, Mem.sets]
  rename_i id e a b
  intro hh
  subst hh
  exact absurd rfl (hne e a b)
theorem OutR.nextS {P : Program} {get : Nat → Option (List SV)} {o x : SV} {M X : Mem} {items ys : List SV} {a t e s1 b1 : Nat} {z1 : Option SV} {te : TI} {z : SV} (ht : tiOf P t = some ⟨.slice e, s1, b1, z1⟩) (hte : tiOf P e = some te)
    (hz : te.zero = some z) (h0 : 0 < te.size) (hsz : z.sto = true) (hc : z.cells.length = te.size) (hI : OutR te.size o M items) (h1 : (items.length + ys.length) * te.bytes ≤ 140737488355328) (h2 : items.length + ys.length ≤ 140737488355328)
    (hg : ∀ id, id < M.next → get id = M.blk id) (hx : itemsS get x = some ys) (hf : srcFits (.slice e) te.size x = true) (hu : Sh.unif te.size ys = true) (hX : Old M X) (hXn : a < X.next) (hMX : M.next ≤ X.next) (hMa : M.next ≤ a) :
    ∃ o' kl, appendS P get a t t o x = some (o', kl) ∧ OutR te.size o' (X.sets kl) (items ++ ys) ∧ Keeps o M (X.sets kl) ∧ (X.sets kl).next = X.next ∧ (∀ id e a b, o' = .own id e a b → M.next ≤ id ∨ o' = o) := by
  by_cases hy : ys = []
  · subst hy
    refine ⟨o, [], ?_, by simpa using hI.old hX hMX, fun id hid _ => hX id hid, rfl, fun _ _ _ _ _ => .inr rfl⟩
    rcases hI with ⟨rfl, rfl⟩ | ⟨id, rfl, hid, hlt⟩
    · rw [appendS_nil (ys := []) ht ht hte hz hx h0 hu hf hsz hc (by simp) (by simp)]
      rfl
    · rw [appendS_own (ys := []) (xs := items) ht ht hte hz hx h0 hu hf hsz hc ((hg id hlt).trans hid) (Nat.le_refl _) h1 h2]
      rfl
  · have he : ys.isEmpty = false := by cases ys with | nil => exact absurd rfl hy | cons _ _ => rfl
    refine ⟨.own a te.size 0 (items.length + ys.length), killO o ++ [(a, some (items ++ ys))], ?_, .inr ⟨a, by simp, by simp, by simpa using hXn⟩, fun id hid hne => ?_, by simp, fun id e a' b h => by cases h; exact .inl hMa⟩
    · rcases hI with ⟨rfl, rfl⟩ | ⟨id, rfl, hid, hlt⟩
      · rw [appendS_nil (ys := ys) ht ht hte hz hx h0 hu hf hsz hc (by simpa using h1) (by simpa using h2), he]
        simp [killO]
      · rw [appendS_own (ys := ys) (xs := items) ht ht hte hz hx h0 hu hf hsz hc ((hg id hlt).trans hid) (Nat.le_refl _) h1 h2, he]
        simp [killO]
    · rw [Mem.sets_append]
      show ((X.sets (killO o)).set a (some (items ++ ys))).blk id = _
      rw [Mem.blk_set, if_neg (by omega), killO_oth hne]
      exact hX id hid
/-- A place is found: a number more in order. -/
theorem insert_sorts {pre cur : List Int} (h : cur.Perm pre ∧ cur.Pairwise (· ≤ ·)) {x : Int} {k : Nat} (hk : k ≤ cur.length) (h1 : ∀ j (hj : j < cur.length), j < k → cur[j] ≤ x) (h2 : ∀ j (hj : j < cur.length), k ≤ j → x ≤ cur[j]) :
    (cur.take k ++ [x] ++ cur.drop k).Perm (pre ++ [x]) ∧ (cur.take k ++ [x] ++ cur.drop k).Pairwise (· ≤ ·) := by
  constructor
  · rw [List.append_assoc]
    have a1 : (cur.take k ++ ([x] ++ cur.drop k)).Perm (cur.take k ++ (cur.drop k ++ [x])) := List.Perm.append_left _ List.perm_append_comm
    refine a1.trans ?_
    rw [← List.append_assoc, List.take_append_drop]
    exact h.1.append_right _
  · rw [List.pairwise_append, List.pairwise_append]
    refine ⟨⟨h.2.sublist (List.take_sublist _ _), by simp, fun a ha b hb => ?_⟩, h.2.sublist (List.drop_sublist _ _), fun a ha b hb => ?_⟩
    · simp at hb
      subst hb
      obtain ⟨j, hj, rfl⟩ := List.mem_iff_getElem.1 ha
      rw [List.length_take] at hj
      rw [List.getElem_take]
      exact h1 j (by omega) (by omega)
    · obtain ⟨i, hi, rfl⟩ := List.mem_iff_getElem.1 hb
      rw [List.length_drop] at hi
      have hb' := h2 (k + i) (by omega) (by omega)
      rw [List.getElem_drop]
      rcases List.mem_append.1 ha with ha | ha
      · obtain ⟨j, hj, rfl⟩ := List.mem_iff_getElem.1 ha
        rw [List.length_take] at hj
        rw [List.getElem_take]
        have := h1 j (by omega) (by omega)
        omega
      · simp at ha
        subst ha
        exact hb'

end Go.Proofs.Ytaldchogcingbaa
