/-
  Walks of the seat's functions: Be.
-/
import Derived.Test.YtljjmdcdlcefmaaGreatDoorEbMa
import Derived.Test.YtljjmdcdlcefmaaGreatDoorShMb
import Derived.Test.YtljjmdcdlcefmaaGreatDoorLBd
import Derived.Test.YtljjmdcdlcefmaaGreatDoorLzMe
set_option linter.unusedVariables false
set_option linter.unusedSimpArgs false
set_option maxRecDepth 100000
namespace Go.Proofs.YtljjmdcdlcefmaaGreatDoor
open Go.Proofs.YtljjmdcdlcefmaaGreatDoor.Sh
/-! What a network's numbers come to, and whether they fit: plain. -/
def slewN (c : Cfg) : Int := upM (c.drift * c.cycle)
def stepN (c : Cfg) : Int := 4 * edgeN c + 2 * slewN c + 2
def jumpN (c : Cfg) : Int := 2 * c.ages * stepN c + 4 * edgeN c
def tickN (c : Cfg) : Int := 3 * edgeN c + upM (2 * edgeN c * (c.rate + c.drift)) + 1
structure NumsOk (c : Cfg) : Prop where
  e : 1 ≤ edgeN c ∧ edgeN c ≤ 1001
  s : 0 ≤ slewN c ∧ slewN c ≤ 500
  st : 6 ≤ stepN c ∧ stepN c ≤ 5006
  j : 0 ≤ 2 * c.ages * stepN c ∧ 2 * c.ages * stepN c ≤ 2002400
  t : 0 ≤ 2 * edgeN c * (c.rate + c.drift) ∧ 2 * edgeN c * (c.rate + c.drift) ≤ 801801000
theorem InRange.nums {c : Cfg} (h : InRange c) : NumsOk c := by
  have h1 := h.dc
  have h2 := h.dc2
  have he : 1 ≤ edgeN c ∧ edgeN c ≤ 1001 := by unfold edgeN upM; omega
  have hs : 0 ≤ slewN c ∧ slewN c ≤ 500 := by unfold slewN upM; omega
  have hst : 6 ≤ stepN c ∧ stepN c ≤ 5006 := by unfold stepN; omega
  obtain ⟨a1, a2⟩ := h.ag
  obtain ⟨r1, r2⟩ := h.ra
  obtain ⟨d1, d2⟩ := h.dr
  refine ⟨he, hs, hst, ⟨Int.mul_nonneg (by omega) (by omega), ?_⟩, ⟨Int.mul_nonneg (by omega) (by omega), ?_⟩⟩
  · have := Int.mul_le_mul (show 2 * c.ages ≤ 400 by omega) hst.2 (by omega) (by omega)
    omega
  · have := Int.mul_le_mul (show 2 * edgeN c ≤ 2002 by omega) (show c.rate + c.drift ≤ 400500 by omega) (by omega) (by omega)
    omega
/-- How many ticks a part's slots take, at least. -/
def slotsEnd (c : Cfg) (i : Nat) : Int := c.lead + (3 * (portsN c.links i : Int) + nodesAt c i) * c.slot + c.window
def slotsBad (c : Cfg) (i : Nat) : Bool := decide (c.cycle < slotsEnd c i)
def anySlots (c : Cfg) : Bool := (List.range c.parts.length).any (slotsBad c)
def leastN (c : Cfg) : Int := c.parts.length * (c.lost + 1) + 2
def windowsN (c : Cfg) : Int :=
  if c.window < 3 * edgeN c ∨ 20000 < c.window then 6 else if c.slot < 2 * c.window + 1 ∨ 1000000 < c.slot then 7 else if c.lead < c.window ∨ 1000000 < c.lead then 8
  else if anySlots c then 9 else if c.rate * c.cycle < jumpN c * 1000000 then 10 else 0
def waitsN (c : Cfg) : Int :=
  if c.ages < (c.parts.length - 1) * (c.lost + 1) + 1 then 11 else if c.listen < leastN c ∨ 60000 < c.listen then 12 else if c.span < leastN c ∨ 60000 < c.span then 13
  else if 60000 < c.listen + c.parts.length * c.span then 14 else if c.room < c.parts.length + 2 ∨ 64 < c.room then 15 else 0
def laterN (c : Cfg) : Int := if windowsN c ≠ 0 then windowsN c else waitsN c
/-- What does not fit; 0: nothing; and which. -/
def fitsG (c : Cfg) : Int × Int :=
  if (checkG c).1 ≠ 0 then checkG c else if outN c ≠ 0 then (14, outN c) else if laterN c ≠ 0 then (14, laterN c) else (0, 0)
def fitG (c : Cfg) : Bool := (fitsG c).1 == 0
theorem fitG_spec {c : Cfg} : fitG c = true ↔ rightC c = true ∧ outN c = 0 ∧ laterN c = 0 := by
  unfold fitG fitsG rightC
  by_cases h1 : (checkG c).1 = 0
  · by_cases h2 : outN c = 0
    · by_cases h3 : laterN c = 0 <;> simp [h1, h2, h3]
    · simp [h1, h2]
  · simp [h1]
def firstG (c : Cfg) (part : Int) : Int := if fitG c && decide (inMany part c.parts.length) then c.listen + part * c.span else 0
/-- As many ports as each link has two of them at each end. -/
theorem endsL_count {ls : List Link} {part : Int} (h : ∀ l ∈ ls, l.a < l.b) : ∀ k, k ≤ ls.length → (endsK ls part k).length = portsN (ls.take k) part
  | 0, _ => rfl
  | k + 1, hk => by
    have hlt : k < ls.length := by omega
    rw [endsK_succ hlt, List.length_append, endsL_count h k (by omega), portsN_take hlt]
    have := h ls[k] (List.getElem_mem hlt)
    congr 1
    unfold portsOfLink portsOfEnd endOf
    by_cases h1 : ls[k].a = part
    · have h2 : ¬ ls[k].b = part := by omega
      simp [h1, h2]
    · by_cases h2 : ls[k].b = part <;> simp [h1, h2]

end Go.Proofs.YtljjmdcdlcefmaaGreatDoor

/-
  Walks of the seat's functions: Bf.
-/
set_option linter.unusedVariables false
set_option linter.unusedSimpArgs false
set_option maxRecDepth 100000
namespace Go.Proofs.YtljjmdcdlcefmaaGreatDoor
open Go.Proofs.YtljjmdcdlcefmaaGreatDoor.Sh
/-! bounds: reckoning; the first that is not so. -/
@[simp] theorem wrap_lit0 : IntKind.i64.wrap 0 = 0 := by decide
@[simp] theorem wrap_lit1 : IntKind.i64.wrap 1 = 1 := by decide
def val_Edge (c : Cfg) : Int := edgeN c
def val_Near (c : Cfg) : Int := 2 * edgeN c
def val_Slew (c : Cfg) : Int := slewN c
def val_Step (c : Cfg) : Int := stepN c
def val_Jump (c : Cfg) : Int := jumpN c
def val_Tick (c : Cfg) : Int := tickN c
def val_Gone (c : Cfg) : Int := c.ages + 1

end Go.Proofs.YtljjmdcdlcefmaaGreatDoor

/-
  Walks of the seat's functions: Bg.
-/
set_option linter.unusedVariables false
set_option linter.unusedSimpArgs false
set_option maxRecDepth 100000
namespace Go.Proofs.YtljjmdcdlcefmaaGreatDoor
open Go.Proofs.YtljjmdcdlcefmaaGreatDoor.Sh
/-! bounds: whether the numbers fit. -/
def anyAt (c : Cfg) : Option Nat := (List.range c.parts.length).find? (slotsBad c)
theorem anySlots_at (c : Cfg) : anySlots c = (anyAt c).isSome := by
  unfold anySlots anyAt
  rw [Bool.eq_iff_iff, List.any_eq_true, List.find?_isSome]
theorem right_facts {c : Cfg} (h : rightC c = true) : 1 ≤ c.parts.length ∧ c.parts.length ≤ 6 ∧ c.links.length ≤ 10 := by
  have h1 := checkErr_none (checkG_zero (by simpa [rightC] using h))
  have h2 := partsErr_none h1.1
  exact ⟨h2.1, h2.2.1, (linksErr_none h1.2).1⟩
theorem nodesAt_in {c : Cfg} {p : Nat} (h : p < c.parts.length) : nodesAt c p = c.parts[p].nodes := by simp [nodesAt, h]
theorem Ends_len {P L : SV} {c : Cfg} (hP : CfgP c P L) (hr : rightC c = true) (part : Int) :
    ∃ y l', (∀ get, callP (PCw ES) get n_plan_Ends [.agg (cfgC c P L), .int .i64 part] = some y) ∧ Ports y l' ∧ l'.length = portsN c.links part := by
  have he : checkErr c = none := checkG_zero (by simpa [rightC] using hr)
  have hok := portsOk_of he part
  have hn := nodesAt_le he part
  have h12 := endsL_len hok hn.1 hn.2
  have hl := (linksErr_none (checkErr_none he).2).1
  obtain ⟨y, l', h1, h2, h3, h4, h5⟩ := Ends_c hP part hl h12 (fun p hp => by
    have := (hok.ends (Nat.le_refl _)).2 p hp
    unfold inMany at this
    omega)
  refine ⟨y, l', h1, h2, ?_⟩
  rw [h3.length_eq]
  have := endsL_count (part := part) hok.ab c.links.length (Nat.le_refl _)
  rw [List.take_length] at this
  exact this
/-- Numbers of slots that are not too great. -/
structure SlotsOk (c : Cfg) : Prop where
  w : 0 ≤ c.window ∧ c.window ≤ 20000
  s : 0 ≤ c.slot ∧ c.slot ≤ 1000000
  l : 0 ≤ c.lead ∧ c.lead ≤ 1000000
theorem slots_nums {c : Cfg} (h : SlotsOk c) (hr : rightC c = true) (i : Nat) : 0 ≤ 3 * (portsN c.links i : Int) + nodesAt c i ∧ 3 * (portsN c.links i : Int) + nodesAt c i ≤ 72 ∧
    0 ≤ (3 * (portsN c.links i : Int) + nodesAt c i) * c.slot ∧ (3 * (portsN c.links i : Int) + nodesAt c i) * c.slot ≤ 72000000 := by
  have h1 := portsN_le c.links i
  have h2 := right_facts hr
  have h3 := nodesAt_le (checkG_zero (by simpa [rightC] using hr)) i
  have h4 : 0 ≤ 3 * (portsN c.links i : Int) + nodesAt c i ∧ 3 * (portsN c.links i : Int) + nodesAt c i ≤ 72 := by omega
  obtain ⟨s1, s2⟩ := h.s
  refine ⟨h4.1, h4.2, Int.mul_nonneg h4.1 s1, ?_⟩
  have := Int.mul_le_mul h4.2 s2 s1 (by omega)
  omega
theorem rc_le {c : Cfg} (h : InRange c) : 0 ≤ c.rate * c.cycle ∧ c.rate * c.cycle ≤ 400000000000 := by
  obtain ⟨a1, a2⟩ := h.cy
  obtain ⟨b1, b2⟩ := h.ra
  refine ⟨Int.mul_nonneg b1 (by omega), ?_⟩
  have := Int.mul_le_mul b2 a2 (by omega) (by omega)
  omega

end Go.Proofs.YtljjmdcdlcefmaaGreatDoor
