/-
  Walks of the seat's functions: Ag.
-/
import Derived.Test.YtjhlibdiojepaaaGreatDoorEbMa
import Derived.Test.YtjhlibdiojepaaaGreatDoorShMb
import Derived.Test.YtjhlibdiojepaaaGreatDoorLzMa
set_option linter.unusedVariables false
set_option linter.unusedSimpArgs false
set_option maxRecDepth 100000
namespace Go.Proofs.YtjhlibdiojepaaaGreatDoor
open Go.Proofs.YtjhlibdiojepaaaGreatDoor.Sh
/-! Ages: plain. -/
def boundG (gone : Int) : Int := min (max gone 0) 201
def atG (l : List Int) (i gone : Int) : Int := if 0 ≤ i then ((l[i.toNat]?).map fun x => min (max x 0) gone).getD gone else gone
theorem atG_nat (l : List Int) (i : Nat) (gone : Int) : atG l i gone = ((l[i]?).map fun x => min (max x 0) gone).getD gone := by simp [atG]
theorem boundG_in (g : Int) : 0 ≤ boundG g ∧ boundG g ≤ 201 := by unfold boundG; omega
theorem atG_in {g : Int} (h : 0 ≤ g) (l : List Int) (i : Int) : 0 ≤ atG l i g ∧ atG l i g ≤ g := by
  unfold atG
  split
  · cases l[i.toNat]? with
    | none => simpa using h
    | some x => simp only [Option.map_some, Option.getD_some]; omega
  · omega
def freshAt (self g : Int) (i : Nat) : Int := if (i : Int) = self then 0 else boundG g
def freshG (parts self gone : Int) : List Int := (List.range (min parts 6).toNat).map (freshAt self gone)
/-- The least of ages. -/
def leastA (x : Int) (heard : List (List Int)) (i g : Int) : Int := heard.foldl (fun n l => min n (atG l i g)) x
def nextAt (own : List Int) (self : Int) (heard : List (List Int)) (g : Int) (i : Nat) : Int := if (i : Int) = self then 0 else min (leastA (atG own i g) heard i g + 1) g
def nextG (own : List Int) (self : Int) (heard : List (List Int)) (gone : Int) : List Int := (List.range (min own.length 6)).map (nextAt own self heard (boundG gone))
theorem leastA_in {x g : Int} (h : 0 ≤ x ∧ x ≤ g) (i : Int) : ∀ heard : List (List Int), 0 ≤ leastA x heard i g ∧ leastA x heard i g ≤ g
  | [] => h
  | l :: r => by
    have := atG_in (g := g) (by omega) l i
    exact leastA_in (x := min x (atG l i g)) (by omega) i r
theorem leastA_up (x : Int) (heard : List (List Int)) (i g : Int) : heard.foldl (fun n l => min n (atG l i g + 1)) (x + 1) = leastA x heard i g + 1 := by
  induction heard generalizing x with
  | nil => rfl
  | cons l r ih =>
    unfold leastA at ih ⊢
    simp only [List.foldl_cons]
    rw [show min (x + 1) (atG l i g + 1) = min x (atG l i g) + 1 by omega, ih]
def livesG (l : List Int) (g : Int) (i : Nat) : Bool := decide (atG l i g < g)
/-- Bits, one for each that is so. -/
def bitsN (p : Nat → Bool) : Nat → Nat
  | 0 => 0
  | n + 1 => if p n then bitsN p n ||| 1 <<< n else bitsN p n
theorem bitsN_test (p : Nat → Bool) : ∀ n i, (bitsN p n).testBit i = (decide (i < n) && p i)
  | 0, i => by simp [bitsN]
  | n + 1, i => by
    unfold bitsN
    split
    · rename_i h
      rw [Nat.testBit_or, bitsN_test p n i, Nat.one_shiftLeft, Nat.testBit_two_pow]
      by_cases h1 : i = n
      · subst h1; simp [h]
      · have : ¬ n = i := fun e => h1 e.symm
        by_cases h2 : i < n
        · have : i < n + 1 := by omega
          simp [*]
        · have : ¬ i < n + 1 := by omega
          simp [*]
    · rename_i h
      rw [bitsN_test p n i]
      by_cases h1 : i = n
      · subst h1; simp [h]
      · by_cases h2 : i < n
        · have : i < n + 1 := by omega
          simp [*]
        · have : ¬ i < n + 1 := by omega
          simp [*]
theorem bitsN_lt (p : Nat → Bool) : ∀ n, bitsN p n < 2 ^ n
  | 0 => by simp [bitsN]
  | n + 1 => by
    have ih := bitsN_lt p n
    have h2 : 2 ^ (n + 1) = 2 * 2 ^ n := by omega
    unfold bitsN
    split
    · refine Nat.or_lt_two_pow (by omega) ?_
      rw [Nat.one_shiftLeft]
      omega
    · omega
def aliveN (l : List Int) (g : Int) : Nat := bitsN (livesG l g) (min l.length 6)
def rootG (l : List Int) (gone : Int) : Int := match (List.range 6).find? fun i => decide (i < l.length) && livesG l (boundG gone) i with
  | some i => (i : Int)
  | none => -1
theorem find_congr {α : Type} {p q : α → Bool} : ∀ l : List α, (∀ x ∈ l, p x = q x) → l.find? p = l.find? q
  | [], _ => rfl
  | x :: r, h => by
    rw [List.find?_cons, List.find?_cons, h x (by simp), find_congr r fun y hy => h y (by simp [hy])]
theorem pow2_int (j : Nat) : ((2 : Int) ^ j) = ((2 ^ j : Nat) : Int) := by push_cast; rfl
theorem rootG_find (l : List Int) (gone : Int) : rootG l gone = match (List.range 6).find? fun i => (aliveN l (boundG gone)).testBit i with
    | some i => (i : Int)
    | none => -1 := by
  unfold rootG
  have e : (List.range 6).find? (fun i => decide (i < l.length) && livesG l (boundG gone) i) = (List.range 6).find? fun i => (aliveN l (boundG gone)).testBit i := by
    refine find_congr _ fun i hi => ?_
    have h6 : i < 6 := by simpa using hi
    rw [aliveN, bitsN_test]
    congr 1
    simp only [decide_eq_decide]
    omega
  rw [e]
theorem orI_nat {a b : Nat} (ha : a < 2 ^ 40) (hb : b < 2 ^ 40) : orI .i64 (a : Int) (b : Int) = ((a ||| b : Nat) : Int) := by
  have h : (BitVec.ofInt 64 (a : Int) ||| BitVec.ofInt 64 (b : Int)).toNat = a ||| b := by
    rw [BitVec.toNat_or, BitVec.ofInt_natCast, BitVec.ofInt_natCast, BitVec.toNat_ofNat, BitVec.toNat_ofNat, Nat.mod_eq_of_lt (by omega), Nat.mod_eq_of_lt (by omega)]
  show IntKind.i64.wrap ((BitVec.ofInt 64 (a : Int) ||| BitVec.ofInt 64 (b : Int)).toNat : Int) = _
  rw [h]
  have := Nat.or_lt_two_pow ha hb
  exact i64_in (by omega) (by omega)
theorem shl_nat {j : Nat} (h : j ≤ 40) : shlI .i64 1 (j : Int) = ((1 <<< j : Nat) : Int) := by
  unfold shlI
  have hm : min (j : Int).toNat IntKind.i64.bits = j := by simp [IntKind.bits]; omega
  rw [hm, Int.one_mul, Nat.one_shiftLeft, pow2_int]
  have : 2 ^ j ≤ 2 ^ 40 := Nat.pow_le_pow_right (by decide) h
  generalize 2 ^ j = q at *
  exact i64_in (by omega) (by omega)
/-- A bit of a small number. -/
theorem bit_nat {m j : Nat} (hm : m < 2 ^ 40) (hj : j ≤ 40) : andI .i64 ((m : Int).fdiv (2 ^ (min (j : Int).toNat IntKind.i64.bits))) 1 = ((m.testBit j).toNat : Int) := by
  have hmn : min (j : Int).toNat IntKind.i64.bits = j := by simp [IntKind.bits]; omega
  rw [hmn, pow2_int, Int.fdiv_eq_ediv_of_nonneg _ (Int.natCast_nonneg _), ← Int.natCast_ediv]
  have hd : m / 2 ^ j ≤ m := Nat.div_le_self _ _
  have h : (BitVec.ofInt 64 ((m / 2 ^ j : Nat) : Int) &&& BitVec.ofInt 64 1).toNat = m / 2 ^ j % 2 := by
    rw [BitVec.toNat_and, BitVec.ofInt_natCast, BitVec.toNat_ofNat, show (BitVec.ofInt 64 1).toNat = 2 ^ 1 - 1 from by decide, Nat.and_two_pow_sub_one_eq_mod, Nat.mod_eq_of_lt (a := m / 2 ^ j) (by omega)]
  show IntKind.i64.wrap ((BitVec.ofInt 64 ((m / 2 ^ j : Nat) : Int) &&& BitVec.ofInt 64 1).toNat : Int) = _
  rw [h, Nat.toNat_testBit]
  exact i64_in (by omega) (by omega)

end Go.Proofs.YtjhlibdiojepaaaGreatDoor
