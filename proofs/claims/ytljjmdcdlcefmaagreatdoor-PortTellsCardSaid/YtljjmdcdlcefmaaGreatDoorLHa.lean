/-
  Walks of the seat's functions: Ha.
-/
import Derived.Test.YtljjmdcdlcefmaaGreatDoorEbMa
import Derived.Test.YtljjmdcdlcefmaaGreatDoorShMb
import Derived.Test.YtljjmdcdlcefmaaGreatDoorLzMb
import Derived.Test.YtljjmdcdlcefmaaGreatDoorLzMc
import Derived.Test.YtljjmdcdlcefmaaGreatDoorLSy
import Derived.Test.YtljjmdcdlcefmaaGreatDoorLBh
import Derived.Test.YtljjmdcdlcefmaaGreatDoorLzMf
set_option linter.unusedVariables false
set_option linter.unusedSimpArgs false
set_option maxRecDepth 100000
namespace Go.Proofs.YtljjmdcdlcefmaaGreatDoor
open Go.Proofs.YtljjmdcdlcefmaaGreatDoor.Sh
/-! How far parts are: hops.Dist, hops.Width, and the document's own. -/
def mostK (c : Cfg) : Nat → Int
  | 0 => 0
  | k + 1 => max (mostK c k) (maxL (distL c.links c.parts.length k))
def widthG (c : Cfg) : Int := if rightC c then mostK c c.parts.length else -1
def distG (c : Cfg) (a b : Int) : Int := if rightC c && decide (inMany a c.parts.length) && decide (inMany b c.parts.length) then dget (distL c.links c.parts.length b) a else -1
theorem foldl_max_max : ∀ (d : List Int) (m a : Int), d.foldl max (max m a) = max m (d.foldl max a)
  | [], _, _ => rfl
  | x :: d, m, a => by
    simp only [List.foldl_cons]
    rw [show max (max m a) x = max m (max a x) by omega]
    exact foldl_max_max d m (max a x)
theorem foldl_maxL {d : List Int} (h : 0 < d.length) (m : Int) : d.foldl max m = max m (maxL d) := by
  cases d with
  | nil => simp at h
  | cons x d =>
    unfold maxL
    simp only [List.foldl_cons, List.headD_cons]
    rw [show max x x = x by omega, foldl_max_max]
theorem distL_len (ls : List Link) (len : Nat) (fr : Int) : (distL ls len fr).length = len := by simp [distL]
theorem right_ok {c : Cfg} (h : rightC c = true) : 1 ≤ c.parts.length ∧ c.parts.length ≤ 6 ∧ ∀ l ∈ c.links, okL c.parts.length l := by
  have hf := right_facts h
  refine ⟨hf.1, hf.2.1, fun l hl => ?_⟩
  obtain ⟨j, hj, rfl⟩ := List.mem_iff_getElem.1 hl
  obtain ⟨h1, h2, _⟩ := right_link h hj
  exact ⟨h1.1, h1.2, h2.1, h2.2⟩
theorem distL_below (ls : List Link) (len : Nat) (fr : Int) : ∀ x ∈ distL ls len fr, x ≤ len := fun x hx => distK_below ls len fr len x hx
theorem maxL_le {d : List Int} {n : Int} (h : ∀ x ∈ d, x ≤ n) (h0 : 0 < d.length) : maxL d ≤ n := by
  have key : ∀ (r : List Int) (m : Int), m ≤ n → (∀ x ∈ r, x ≤ n) → r.foldl max m ≤ n := by
    intro r
    induction r with
    | nil => intro m hm _; exact hm
    | cons x r ih =>
      intro m hm hr
      simp only [List.foldl_cons]
      have := hr x (by simp)
      exact ih _ (by omega) (fun y hy => hr y (by simp [hy]))
  cases d with
  | nil => simp at h0
  | cons x d =>
    unfold maxL
    exact key _ _ (h x (by simp)) h
theorem mostK_le (c : Cfg) (h1 : 1 ≤ c.parts.length) : ∀ k, 0 ≤ mostK c k ∧ mostK c k ≤ c.parts.length
  | 0 => by simp [mostK]
  | k + 1 => by
    have ih := mostK_le c h1 k
    have := maxL_le (distL_below c.links c.parts.length k) (by rw [distL_len]; omega)
    simp only [mostK]
    omega
theorem ints_at {x : SV} {l : List Int} (h : Ints x l) {j : Nat} (hj : j < l.length) : indexAddrS ES.P T_sl_int x (.int .i64 j) = some (.rptr (l.map (SV.int .i64)) j 0 (stOf x)) := RSl.at h ti_sl_int ti_int (fun _ => rfl) hj
theorem ints_ld {l : List Int} {j : Nat} (hj : j < l.length) (get : Nat → Option (List SV)) (z : Bool) : loadS ES.P get T_int (.rptr (l.map (SV.int .i64)) j 0 z) = some (.int .i64 l[j]) := loadS_rptr ti_int (x := .int .i64 l[j]) (by simp [hj]) rfl
theorem mx2 (a b : Int) : mmS true [.int .i64 a, .int .i64 b] = some (.int .i64 (max a b)) := by
  simp only [mmS, mmGo, if_true]
  congr 2
  split <;> omega

end Go.Proofs.YtljjmdcdlcefmaaGreatDoor
