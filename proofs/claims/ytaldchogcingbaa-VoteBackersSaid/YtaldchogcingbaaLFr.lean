/-
  Walks of the seat's functions: Fr.
-/
import Derived.Test.YtaldchogcingbaaEb0
import Derived.Test.YtaldchogcingbaaShMb
import Derived.Test.YtaldchogcingbaaLWc
import Derived.Test.YtaldchogcingbaaLRp
import Derived.Test.YtaldchogcingbaaLVp
set_option linter.unusedVariables false
set_option linter.unusedSimpArgs false
set_option maxRecDepth 100000
namespace Go.Proofs.Ytaldchogcingbaa
open Go.Proofs.Ytaldchogcingbaa.Sh
/-! Frames that were heard. -/
structure Frame where
  kind : Int
  part : Int
  node : Int
  wait : Int
  mask : Int
  link : Int
  flag : Bool
  cycle : Int
  offset : Int
  ages : List Int
  frm : Int
  dst : Int
  seq : Int
  body : List Int
structure Heard where
  slot : Int
  f : Frame
  tick : Int
def Bytes (x : SV) (l : List Int) : Prop := RSl (fun y n => y = .int .u8 n) x l
theorem Bytes.np9 {x : SV} {l : List Int} (h : Bytes x l) : Sh.np 9 x = true := RSl.np h (n := 8) fun y a h => by rw [h]; rfl
theorem Ints.npn {x : SV} {l : List Int} (h : Ints x l) : Sh.np 9 x = true := RSl.np h (n := 8) fun y a h => by rw [h]; rfl
def frC (f : Frame) (A B : SV) : List SV := [.int .i64 f.kind, .int .i64 f.part, .int .i64 f.node, .int .i64 f.wait, .int .i64 f.mask, .int .i64 f.link, .bool f.flag, .int .i64 f.cycle, .int .i64 f.offset, A, .int .i64 f.frm, .int .i64 f.dst, .int .i64 f.seq, B]
def hdC (h : Heard) (A B : SV) : List SV := [.int .i64 h.slot, .int .i64 h.f.kind, .int .i64 h.f.part, .int .i64 h.f.node, .int .i64 h.f.wait, .int .i64 h.f.mask, .int .i64 h.f.link, .bool h.f.flag, .int .i64 h.f.cycle, .int .i64 h.f.offset, A, .int .i64 h.f.frm, .int .i64 h.f.dst, .int .i64 h.f.seq, B, .int .i64 h.tick]
def HdR (y : SV) (h : Heard) : Prop := ∃ A B, y = .agg (hdC h A B) ∧ Ints A h.f.ages ∧ Bytes B h.f.body
def Heards (x : SV) (l : List Heard) : Prop := RSl HdR x l
theorem npAgg {n : Nat} {cs : List SV} (h : cs.all (Sh.np n) = true) : Sh.np (n + 1) (.agg cs) = true := by simp only [Sh.np, h, Bool.or_true]
theorem hdNp {h : Heard} {A B : SV} (hA : Ints A h.f.ages) (hB : Bytes B h.f.body) : Sh.np 10 (.agg (hdC h A B)) = true := by
  have h9 := hA.npn
  have h8 := hB.np9
  have hb : ∀ b, Sh.np 9 (.bool b) = true := fun b => np_of_pv rfl 9
  exact npAgg (by simp only [hdC, List.all_cons, List.all_nil, np_int, hb, h9, h8, Bool.and_true])
theorem elmHd : Elm HdR ⟨.struct [(T_int, 0), (T_api_Frame, 1), (T_int64, 15)], 16, 160, some (.agg [.int .i64 0, .int .i64 0, .int .i64 0, .int .i64 0, .int .i64 0, .int .i64 0, .int .i64 0, .bool false, .int .i64 0, .int .i64 0, .nilsl, .int .i64 0, .int .i64 0, .int .i64 0, .nilsl, .int .i64 0])⟩ :=
  ⟨fun ⟨A, B, h, _⟩ => by rw [h]; rfl, fun ⟨A, B, h, _⟩ => by rw [h]; rfl, fun ⟨A, B, h, hA, hB⟩ => by rw [h]; exact hdNp hA hB, fun ⟨A, B, h, _⟩ => by rw [h]; rfl⟩
theorem int_row {n : Nat} {xs : List SV} (h : WT ES.P (n + 2) T_sl_int xs) : ∃ l : List Int, Ints (mkV ES.P T_sl_int xs) l ∧ xs = [mkV ES.P T_sl_int xs] := by
  rcases WT_slice ti_sl_int ti_int h with ⟨e1, e⟩ | ⟨items, e1, e, hl, hi⟩
  · rw [e]; exact ⟨[], RSl.nil _, e1⟩
  · rw [e]
    obtain ⟨l, hl2⟩ := RSl.exists (R := fun y (v : Int) => y = .int .i64 v) (tl := .ro) (items := items) fun y hy => by
      obtain ⟨ys, rfl, hw⟩ := hi y hy
      obtain ⟨v, _, e, _⟩ := WT_int ti_int hw
      exact ⟨v, e⟩
    exact ⟨l, hl2, e1⟩
theorem byte_row {n : Nat} {xs : List SV} (h : WT ES.P (n + 2) T_sl_uint8 xs) : ∃ l : List Int, Bytes (mkV ES.P T_sl_uint8 xs) l ∧ xs = [mkV ES.P T_sl_uint8 xs] := by
  rcases WT_slice ti_sl_uint8 ti_uint8 h with ⟨e1, e⟩ | ⟨items, e1, e, hl, hi⟩
  · rw [e]; exact ⟨[], RSl.nil _, e1⟩
  · rw [e]
    obtain ⟨l, hl2⟩ := RSl.exists (R := fun y (v : Int) => y = .int .u8 v) (tl := .ro) (items := items) fun y hy => by
      obtain ⟨ys, rfl, hw⟩ := hi y hy
      obtain ⟨v, _, e, _⟩ := WT_int ti_uint8 hw
      exact ⟨v, e⟩
    exact ⟨l, hl2, e1⟩
theorem frame_of {n : Nat} {xs : List SV} (h : WT ES.P (n + 3) T_api_Frame xs) : ∃ f A B, xs = frC f A B ∧ Ints A f.ages ∧ Bytes B f.body := by
  obtain ⟨e, parts, rfl, hl, hp⟩ := WT_struct ti_api_Frame h
  match parts, hl with
  | [p0, p1, p2, p3, p4, p5, p6, p7, p8, p9, p10, p11, p12, p13], _ =>
    obtain ⟨a0, rfl, _, _⟩ := WT_int ti_int (hp 0 _ p0 rfl rfl)
    obtain ⟨a1, rfl, _, _⟩ := WT_int ti_int (hp 1 _ p1 rfl rfl)
    obtain ⟨a2, rfl, _, _⟩ := WT_int ti_int (hp 2 _ p2 rfl rfl)
    obtain ⟨a3, rfl, _, _⟩ := WT_int ti_int (hp 3 _ p3 rfl rfl)
    obtain ⟨a4, rfl, _, _⟩ := WT_int ti_int (hp 4 _ p4 rfl rfl)
    obtain ⟨a5, rfl, _, _⟩ := WT_int ti_int (hp 5 _ p5 rfl rfl)
    obtain ⟨a6, rfl, _⟩ := WT_bool ti_bool (hp 6 _ p6 rfl rfl)
    obtain ⟨a7, rfl, _, _⟩ := WT_int ti_int64 (hp 7 _ p7 rfl rfl)
    obtain ⟨a8, rfl, _, _⟩ := WT_int ti_int64 (hp 8 _ p8 rfl rfl)
    obtain ⟨l, h9, e9⟩ := int_row (hp 9 _ p9 rfl rfl)
    obtain ⟨a10, rfl, _, _⟩ := WT_int ti_int (hp 10 _ p10 rfl rfl)
    obtain ⟨a11, rfl, _, _⟩ := WT_int ti_int (hp 11 _ p11 rfl rfl)
    obtain ⟨a12, rfl, _, _⟩ := WT_int ti_int64 (hp 12 _ p12 rfl rfl)
    obtain ⟨b, h13, e13⟩ := byte_row (hp 13 _ p13 rfl rfl)
    refine ⟨⟨a0, a1, a2, a3, a4, a5, a6, a7, a8, l, a10, a11, a12, b⟩, mkV ES.P T_sl_int p9, mkV ES.P T_sl_uint8 p13, ?_, h9, h13⟩
    conv => lhs; rw [e9, e13]
    rfl
theorem heard_of {n : Nat} {xs : List SV} (h : WT ES.P (n + 4) T_api_Heard xs) : ∃ o, HdR (mkV ES.P T_api_Heard xs) o := by
  obtain ⟨e, parts, rfl, hl, hp⟩ := WT_struct ti_api_Heard h
  match parts, hl with
  | [p0, p1, p2], _ =>
    obtain ⟨a0, rfl, _, _⟩ := WT_int ti_int (hp 0 _ p0 rfl rfl)
    obtain ⟨f, A, B, rfl, hA, hB⟩ := frame_of (hp 1 _ p1 rfl rfl)
    obtain ⟨a2, rfl, _, _⟩ := WT_int ti_int64 (hp 2 _ p2 rfl rfl)
    rw [e]
    exact ⟨⟨a0, f, a2⟩, A, B, rfl, hA, hB⟩
theorem heards_of {n : Nat} {xs : List SV} (h : WT ES.P (n + 5) T_sl_api_Heard xs) : ∃ os, Heards (mkV ES.P T_sl_api_Heard xs) os := by
  rcases WT_slice ti_sl_api_Heard ti_api_Heard h with ⟨e1, h⟩ | ⟨items, e1, h, hl, hi⟩
  · rw [h]; exact ⟨[], RSl.nil _⟩
  · rw [h]
    exact RSl.exists (R := HdR) (tl := .ro) (items := items) fun y hy => by
      obtain ⟨ys, rfl, hw⟩ := hi y hy
      exact heard_of hw

end Go.Proofs.Ytaldchogcingbaa
