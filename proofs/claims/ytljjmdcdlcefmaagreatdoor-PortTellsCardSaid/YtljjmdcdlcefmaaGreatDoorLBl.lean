/-
  Walks of the seat's functions: Bl.
-/
import Derived.Test.YtljjmdcdlcefmaaGreatDoorEbMa
import Derived.Test.YtljjmdcdlcefmaaGreatDoorShMb
import Derived.Test.YtljjmdcdlcefmaaGreatDoorLzMg
import Derived.Test.YtljjmdcdlcefmaaGreatDoorLWg
set_option linter.unusedVariables false
set_option linter.unusedSimpArgs false
set_option maxRecDepth 100000
namespace Go.Proofs.YtljjmdcdlcefmaaGreatDoor
open Go.Proofs.YtljjmdcdlcefmaaGreatDoor.Sh
/-! A made network fits. -/
theorem made_num' (n : Int) : ∃ m : Nat, (madeC n).cycle = 20000 + 1000 * ((m / 16 % 8 : Nat) : Int) ∧ (madeC n).drift = 20 * ((m / 128 % 8 : Nat) : Int) ∧ (madeC n).rate = 300000 ∧ (madeC n).lost = ((m / 1024 % 2 : Nat) : Int) ∧ (madeC n).lead = 60 ∧ (madeC n).slot = 100 ∧ (madeC n).room = 12 ∧
    (madeC n).parts.length = partsN m ∧ (madeC n).ages = (((partsN m - 1) * (m / 1024 % 2 + 1) + 1 + m / 2048 % 4 : Nat) : Int) ∧ (madeC n).listen = ((calmN m + m / 8192 % 2 : Nat) : Int) ∧ (madeC n).span = (calmN m : Int) ∧ (madeC n).window = 3 * edgeG (preC m) ∧ edgeG (madeC n) = edgeG (preC m) := by
  have h := made_num (mOf n) (3 * edgeG (preC (mOf n))) .nilsl .nilsl
  have h' : cfgC (madeC n) .nilsl .nilsl = _ := h
  simp only [cfgC, List.cons.injEq, and_true, true_and, SV.int.injEq] at h'
  obtain ⟨h1, h2, h3, h4, h5, h6, h7, h8, h9, h10, h11⟩ := h'
  refine ⟨mOf n, ?_, ?_, h6, h8, h2, h3, h11, netC_parts (mOf n), h7, h9, h10, h4, ?_⟩
  · rw [h1]; omega
  · rw [h5]; omega
  · have e : rangedC (madeC n) = rangedC (preC (mOf n)) := by
      unfold rangedC rightC outN
      rw [checkG_pl (c := madeC n) (d := preC (mOf n)) rfl rfl]
      rfl
    unfold edgeG
    rw [e]
    rfl
theorem made_inRange (n : Int) : outN (madeC n) = 0 := by
  obtain ⟨m, h1, h2, h3, h4, h5, h6, h7, h8, h9, _⟩ := made_num' n
  have hn := partsN_le m
  have hq2 : (partsN m - 1) * (m / 1024 % 2 + 1) ≤ 3 * 2 := Nat.mul_le_mul (by omega) (by omega)
  unfold outN
  rw [if_neg (by omega), if_neg (by omega), if_neg (by omega), if_neg (by omega), if_neg (by omega)]
theorem made_ranged (n : Int) : rangedC (madeC n) = true := by simp [rangedC, made_right, made_inRange]
theorem made_small (n : Int) : 0 ≤ (madeC n).drift * (madeC n).cycle ∧ (madeC n).drift * (madeC n).cycle ≤ 3780000 := by
  obtain ⟨m, h1, h2, _⟩ := made_num' n
  constructor
  · exact Int.mul_nonneg (by omega) (by omega)
  · have := Int.mul_le_mul (show (madeC n).drift ≤ 140 by omega) (show (madeC n).cycle ≤ 27000 by omega) (by omega) (by omega)
    omega
theorem made_edge (n : Int) : 1 ≤ edgeN (madeC n) ∧ edgeN (madeC n) ≤ 9 ∧ slewN (madeC n) ≤ 4 ∧ 0 ≤ slewN (madeC n) := by
  have h := made_small n
  have e : 2 * (madeC n).drift * (madeC n).cycle = 2 * ((madeC n).drift * (madeC n).cycle) := by rw [Int.mul_assoc]
  unfold edgeN slewN upM
  rw [e]
  omega
theorem made_window (n : Int) : (madeC n).window = 3 * edgeN (madeC n) := by
  obtain ⟨m, _, _, _, _, _, _, _, _, _, _, _, h12, h13⟩ := made_num' n
  rw [h12, ← h13]
  unfold edgeG
  rw [made_ranged n]
  rfl
theorem made_jump (n : Int) : 0 ≤ jumpN (madeC n) ∧ jumpN (madeC n) ≤ 1000 := by
  obtain ⟨m, _, _, _, _, _, _, _, _, h9, _⟩ := made_num' n
  have hn := partsN_le m
  have hq2 : (partsN m - 1) * (m / 1024 % 2 + 1) ≤ 3 * 2 := Nat.mul_le_mul (by omega) (by omega)
  obtain ⟨e1, e2, e3, e4⟩ := made_edge n
  have hs : 0 ≤ stepN (madeC n) ∧ stepN (madeC n) ≤ 46 := by unfold stepN; omega
  have ha : 1 ≤ (madeC n).ages ∧ (madeC n).ages ≤ 10 := by omega
  have h1 := Int.mul_nonneg (show 0 ≤ 2 * (madeC n).ages by omega) hs.1
  have h2 := Int.mul_le_mul (show 2 * (madeC n).ages ≤ 20 by omega) hs.2 hs.1 (by omega)
  unfold jumpN
  omega
theorem made_fit (n : Int) : fitG (madeC n) = true := by
  refine fitG_spec.2 ⟨made_right n, made_inRange n, ?_⟩
  obtain ⟨m, h1, h2, h3, h4, h5, h6, h7, h8, h9, h10, h11, h12, h13⟩ := made_num' n
  have hn := partsN_le m
  have hw := made_window n
  obtain ⟨e1, e2, e3, e4⟩ := made_edge n
  have hj := made_jump n
  have hr := made_right n
  have hf := right_facts hr
  have hany : anySlots (madeC n) = false := by
    unfold anySlots
    rw [List.any_eq_false]
    intro i hi
    have hk := nodesAt_le (checkG_zero (by simpa [rightC] using hr)) i
    have hp := portsN_le (madeC n).links i
    unfold slotsBad slotsEnd
    rw [h5, h6, h1, hw]
    simp only [decide_eq_true_eq]
    omega
  have hrc : 6000000000 ≤ (madeC n).rate * (madeC n).cycle := by
    rw [h3]
    omega
  have hwin : windowsN (madeC n) = 0 := by
    unfold windowsN
    rw [if_neg (by omega), if_neg (by omega), if_neg (by omega), hany, if_neg (by simp), if_neg (by omega)]
  have hcalm : leastN (madeC n) = (calmN m : Int) := by
    unfold leastN calmN
    rw [h4, h8]
    push_cast
    rfl
  have hq : partsN m * (m / 1024 % 2 + 1) ≤ 4 * 2 := Nat.mul_le_mul hn.2 (by omega)
  have hc10 : calmN m ≤ 10 := by unfold calmN; omega
  have hages : ¬ ((madeC n).ages < (((madeC n).parts.length : Int) - 1) * ((madeC n).lost + 1) + 1) := by
    rw [h9, h8, h4]
    have e : ((partsN m : Int) - 1) * (((m / 1024 % 2 : Nat) : Int) + 1) = (((partsN m - 1) * (m / 1024 % 2 + 1) : Nat) : Int) := by
      push_cast
      rw [Int.natCast_sub hn.1]
      rfl
    rw [e]
    omega
  have hps : ((madeC n).parts.length : Int) * (madeC n).span ≤ 4 * 10 := by
    rw [h8, h11]
    exact Int.mul_le_mul (by omega) (by omega) (by omega) (by omega)
  have hwait : waitsN (madeC n) = 0 := by
    unfold waitsN
    rw [if_neg hages, hcalm, if_neg (by omega), if_neg (by omega), if_neg (by omega), if_neg (by omega)]
  unfold laterN
  rw [hwin]
  exact hwait

end Go.Proofs.YtljjmdcdlcefmaaGreatDoor
