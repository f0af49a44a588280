/-
  Walks of the seat's functions: Wc.
-/
import Derived.Test.YtljjmdcdlcefmaaGreatDoorEbMa
import Derived.Test.YtljjmdcdlcefmaaGreatDoorShMb
import Derived.Test.YtljjmdcdlcefmaaGreatDoorLCf
set_option linter.unusedVariables false
set_option linter.unusedSimpArgs false
set_option maxRecDepth 100000
namespace Go.Proofs.YtljjmdcdlcefmaaGreatDoor
open Go.Proofs.YtljjmdcdlcefmaaGreatDoor.Sh
/-! A network that came in. -/
theorem a2_of {n : Nat} {xs : List SV} (h : WT ES.P (n + 2) T_a2_int xs) : ∃ u v, xs = [.int .i64 u, .int .i64 v] ∧ I64 u ∧ I64 v := by
  obtain ⟨_, parts, rfl, hl, hp⟩ := WT_arr ti_a2_int h
  match parts, hl with
  | [p0, p1], _ =>
    obtain ⟨u, rfl, _, hu⟩ := WT_int ti_int (hp p0 (by simp))
    obtain ⟨v, rfl, _, hv⟩ := WT_int ti_int (hp p1 (by simp))
    exact ⟨u, v, rfl, wf64 hu, wf64 hv⟩
def partI (p : Part) : Prop := I64 p.nodes ∧ I64 p.faults
def linkI (l : Link) : Prop := I64 l.a ∧ I64 l.b ∧ I64 l.pa0 ∧ I64 l.pa1 ∧ I64 l.pb0 ∧ I64 l.pb1
structure CfgI (c : Cfg) : Prop where
  parts : ∀ p ∈ c.parts, partI p
  links : ∀ l ∈ c.links, linkI l
  cycle : I64 c.cycle
  lead : I64 c.lead
  slot : I64 c.slot
  window : I64 c.window
  drift : I64 c.drift
  rate : I64 c.rate
  ages : I64 c.ages
  lost : I64 c.lost
  listen : I64 c.listen
  span : I64 c.span
  room : I64 c.room
theorem link_of {n : Nat} {xs : List SV} (h : WT ES.P (n + 3) T_api_Link xs) : ∃ l, mkV ES.P T_api_Link xs = encLink l ∧ linkI l := by
  obtain ⟨e, parts, rfl, hl, hp⟩ := WT_struct ti_api_Link h
  match parts, hl with
  | [p0, p1, p2, p3], _ =>
    obtain ⟨a, rfl, _, ha⟩ := WT_int ti_int (hp 0 _ p0 rfl rfl)
    obtain ⟨b, rfl, _, hb⟩ := WT_int ti_int (hp 1 _ p1 rfl rfl)
    obtain ⟨c0, c1, rfl, hc0, hc1⟩ := a2_of (hp 2 _ p2 rfl rfl)
    obtain ⟨d0, d1, rfl, hd0, hd1⟩ := a2_of (hp 3 _ p3 rfl rfl)
    rw [e]
    exact ⟨⟨a, b, c0, c1, d0, d1⟩, rfl, wf64 ha, wf64 hb, hc0, hc1, hd0, hd1⟩
theorem part_of {n : Nat} {xs : List SV} (h : WT ES.P (n + 2) T_api_Part xs) : ∃ p, mkV ES.P T_api_Part xs = encPart p ∧ partI p := by
  obtain ⟨e, parts, rfl, hl, hp⟩ := WT_struct ti_api_Part h
  match parts, hl with
  | [p0, p1], _ =>
    obtain ⟨a, rfl, _, ha⟩ := WT_int ti_int (hp 0 _ p0 rfl rfl)
    obtain ⟨b, rfl, _, hb⟩ := WT_int ti_int (hp 1 _ p1 rfl rfl)
    rw [e]
    exact ⟨⟨a, b⟩, rfl, wf64 ha, wf64 hb⟩
theorem rows_of {α : Type} {enc : α → SV} {I : α → Prop} {t e a b n : Nat} {z : Option SV} {te : TI} (ht : tiOf ES.P t = some ⟨.slice e, a, b, z⟩) (hte : tiOf ES.P e = some te) (hb : 8 ≤ te.bytes)
    (he : ∀ ys, WT ES.P n e ys → ∃ x, mkV ES.P e ys = enc x ∧ I x) {xs : List SV} (h : WT ES.P (n + 1) t xs) :
    ∃ l : List α, RSl (fun y a => y = enc a) (mkV ES.P t xs) l ∧ l.length ≤ 17592186044416 ∧ (∀ x ∈ l, I x) ∧ xs = [mkV ES.P t xs] := by
  rcases WT_slice ht hte h with ⟨e1, h⟩ | ⟨items, e1, h, hl, hi⟩
  · rw [h]; exact ⟨[], RSl.nil _, by simp, by simp, e1⟩
  · rw [h]
    obtain ⟨l, hl2⟩ := RSl.exists (R := fun y (x : α) => y = enc x ∧ I x) (tl := .ro) (items := items) fun y hy => by
      obtain ⟨ys, rfl, hw⟩ := hi y hy
      exact he ys hw
    refine ⟨l, ⟨hl2.sl, hl2.len, fun j y a hy ha => (hl2.at' j y a hy ha).1⟩, ?_, fun v hv => ?_, e1⟩
    · have h1 := hl2.len
      simp [its] at h1
      have h2 : items.length * 8 ≤ items.length * te.bytes := Nat.mul_le_mul_left _ hb
      omega
    · obtain ⟨j, hj, rfl⟩ := List.mem_iff_getElem.1 hv
      obtain ⟨y, hy, hr⟩ := hl2.get hj
      exact hr.2
theorem cfg_of {n : Nat} {xs : List SV} (h : WT ES.P (n + 6) T_api_Config xs) : ∃ c, CfgR (mkV ES.P T_api_Config xs) c ∧ CfgI c := by
  obtain ⟨e, parts, rfl, hl, hp⟩ := WT_struct ti_api_Config h
  match parts, hl with
  | [p0, p1, p2, p3, p4, p5, p6, p7, p8, p9, p10, p11, p12], _ =>
    obtain ⟨ps, h0, h0b, h0i, e0⟩ := rows_of ti_sl_api_Part ti_api_Part (by decide) (fun ys h => part_of h) (hp 0 _ p0 rfl rfl)
    obtain ⟨ls, h1, h1b, h1i, e1⟩ := rows_of ti_sl_api_Link ti_api_Link (by decide) (fun ys h => link_of h) (hp 1 _ p1 rfl rfl)
    obtain ⟨a2, rfl, _, w2⟩ := WT_int ti_int (hp 2 _ p2 rfl rfl)
    obtain ⟨a3, rfl, _, w3⟩ := WT_int ti_int (hp 3 _ p3 rfl rfl)
    obtain ⟨a4, rfl, _, w4⟩ := WT_int ti_int (hp 4 _ p4 rfl rfl)
    obtain ⟨a5, rfl, _, w5⟩ := WT_int ti_int (hp 5 _ p5 rfl rfl)
    obtain ⟨a6, rfl, _, w6⟩ := WT_int ti_int (hp 6 _ p6 rfl rfl)
    obtain ⟨a7, rfl, _, w7⟩ := WT_int ti_int (hp 7 _ p7 rfl rfl)
    obtain ⟨a8, rfl, _, w8⟩ := WT_int ti_int (hp 8 _ p8 rfl rfl)
    obtain ⟨a9, rfl, _, w9⟩ := WT_int ti_int (hp 9 _ p9 rfl rfl)
    obtain ⟨a10, rfl, _, w10⟩ := WT_int ti_int (hp 10 _ p10 rfl rfl)
    obtain ⟨a11, rfl, _, w11⟩ := WT_int ti_int (hp 11 _ p11 rfl rfl)
    obtain ⟨a12, rfl, _, w12⟩ := WT_int ti_int (hp 12 _ p12 rfl rfl)
    rw [e]
    refine ⟨⟨ps, ls, a2, a3, a4, a5, a6, a7, a8, a9, a10, a11, a12⟩, ⟨mkV ES.P T_sl_api_Part p0, mkV ES.P T_sl_api_Link p1, ?_, h0, h1, h0b, h1b⟩, h0i, h1i, wf64 w2, wf64 w3, wf64 w4, wf64 w5, wf64 w6, wf64 w7, wf64 w8, wf64 w9, wf64 w10, wf64 w11, wf64 w12⟩
    conv => lhs; rw [e0, e1]
    rfl

end Go.Proofs.YtljjmdcdlcefmaaGreatDoor
