/-
  Walks of the seat's functions: Fr.
-/
import Derived.Test.YtljjmdcdlcefmaaGreatDoorEbMa
import Derived.Test.YtljjmdcdlcefmaaGreatDoorShMb
import Derived.Test.YtljjmdcdlcefmaaGreatDoorLWc
import Derived.Test.YtljjmdcdlcefmaaGreatDoorLRp
import Derived.Test.YtljjmdcdlcefmaaGreatDoorLVp
set_option linter.unusedVariables false
set_option linter.unusedSimpArgs false
set_option maxRecDepth 100000
namespace Go.Proofs.YtljjmdcdlcefmaaGreatDoor
open Go.Proofs.YtljjmdcdlcefmaaGreatDoor.Sh
/-! Frames that were heard. -/
structure Frame where
  kind : Int
  part : Int
  node : Int
  wait : Int
  mask : Int
  link : Int
  flag : Bool
  cycle : Int
  offset : Int
  ages : List Int
  frm : Int
  dst : Int
  seq : Int
  body : List Int
structure Heard where
  slot : Int
  f : Frame
  tick : Int
def Bytes (x : SV) (l : List Int) : Prop := RSl (fun y n => y = .int .u8 n) x l
theorem Bytes.np9 {x : SV} {l : List Int} (h : Bytes x l) : Sh.np 9 x = true := RSl.np h (n := 8) fun y a h => by rw [h]; rfl
theorem Ints.npn {x : SV} {l : List Int} (h : Ints x l) : Sh.np 9 x = true := RSl.np h (n := 8) fun y a h => by rw [h]; rfl
def frC (f : Frame) (A B : SV) : List SV := [.int .i64 f.kind, .int .i64 f.part, .int .i64 f.node, .int .i64 f.wait, .int .i64 f.mask, .int .i64 f.link, .bool f.flag, .int .i64 f.cycle, .int .i64 f.offset, A, .int .i64 f.frm, .int .i64 f.dst, .int .i64 f.seq, B]
def hdC (h : Heard) (A B : SV) : List SV := [.int .i64 h.slot, .int .i64 h.f.kind, .int .i64 h.f.part, .int .i64 h.f.node, .int .i64 h.f.wait, .int .i64 h.f.mask, .int .i64 h.f.link, .bool h.f.flag, .int .i64 h.f.cycle, .int .i64 h.f.offset, A, .int .i64 h.f.frm, .int .i64 h.f.dst, .int .i64 h.f.seq, B, .int .i64 h.tick]
def HdR (y : SV) (h : Heard) : Prop := ∃ A B, y = .agg (hdC h A B) ∧ Ints A h.f.ages ∧ Bytes B h.f.body
def Heards (x : SV) (l : List Heard) : Prop := RSl HdR x l
theorem npAgg {n : Nat} {cs : List SV} (h : cs.all (Sh.np n) = true) : Sh.np (n + 1) (.agg cs) = true := by simp only [Sh.np, h, Bool.or_true]
theorem hdNp {h : Heard} {A B : SV} (hA : Ints A h.f.ages) (hB : Bytes B h.f.body) : Sh.np 10 (.agg (hdC h A B)) = true := by
  have h9 := hA.npn
  have h8 := hB.np9
  have hb : ∀ b, Sh.np 9 (.bool b) = true := fun b => np_of_pv rfl 9
  exact npAgg (by simp only [hdC, List.all_cons, List.all_nil, np_int, hb, h9, h8, Bool.and_true])
theorem int_row {n : Nat} {xs : List SV} (h : WT ES.P (n + 2) T_sl_int xs) : ∃ l : List Int, Ints (mkV ES.P T_sl_int xs) l ∧ xs = [mkV ES.P T_sl_int xs] := by
  rcases WT_slice ti_sl_int ti_int h with ⟨e1, e⟩ | ⟨items, e1, e, hl, hi⟩
  · rw [e]; exact ⟨[], RSl.nil _, e1⟩
  · rw [e]
    obtain ⟨l, hl2⟩ := RSl.exists (R := fun y (v : Int) => y = .int .i64 v) (tl := .ro) (items := items) fun y hy => by
      obtain ⟨ys, rfl, hw⟩ := hi y hy
      obtain ⟨v, _, e, _⟩ := WT_int ti_int hw
      exact ⟨v, e⟩
    exact ⟨l, hl2, e1⟩

end Go.Proofs.YtljjmdcdlcefmaaGreatDoor
