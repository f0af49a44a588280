/-
  The seat's functions as short code, part 2 (printed by a program of the claim's own).
-/
import Derived.Test.YtfphjfbknphhjaaGreatDoorEbMa
set_option linter.unusedVariables false
set_option maxRecDepth 100000
namespace Go.Proofs.YtfphjfbknphhjaaGreatDoor
open Go.Proofs.YtfphjfbknphhjaaGreatDoor.Sh

/-! drumline/plan.links$1 -/
def Zq2 : C :=
  (.seq (rg 2 2 [] [i' 2 (.box Zw (q 0)), i' 3 (.assign (kb false))]) (.seq (rg 13 0 [] [fa 4 Zw 2 0, ld 5 Zc 4, fa 6 Zw 1 0, ld 7 Zc 6, bi 8 .eql Zc (q 5) (q 7) Zc, mv 9 8, gd 9 true (fa 10 Zw 2 1), gd 9 true (ld 11 Zc 10), gd 9 true (fa 12 Zw 1 1), gd 9 true (ld 13 Zc 12), gd 9 true (bi 14 .eql Zc (q 11) (q 13) Zc), i' 15 (.pick (q 9) (q 14) (kb false)), as' 3 15]) .ret))
theorem Z0n : Tryz.f130.body.map (comp ES Zeg) = some Zq2 := by kernel_rfl
theorem Z3m (t0 t1 : SV) (M : Mem) : ICw ES Zeg [t0, t1] M = Zx ES [.tmp 3] (evW ES Zeg Zq2 ⟨[t0, t1, .Z, .Z, .Z, .Z, .Z, .Z, .Z, .Z, .Z, .Z, .Z, .Z, .Z, .Z], M⟩) :=
  Zab rfl Tryz.func130 Z0n (by kernel_rfl) (by kernel_rfl) (by kernel_rfl) M

/-! drumline/plan.ports -/
def Zik : C :=
  (.seq (rg 1 0 [] [bi 30 .lss Zc (q 29) (ki 2) Zc]) (.seq (.cond (q 30) .skip (.exit 2)) (.seq (.block 3 (.seq (rg 2 0 [30, 31] [i' 31 (.index Zaq (q 28) (q 29)), as' 9 31]) (.seq (rg 18 0 [9, 32, 33, 34, 35, 36, 37, 38, 39, 40, 41, 42, 43, 44, 45, 46, 47, 48] [mv 32 9, fa 33 Za 2 0, ld 34 Zm 33, mv 35 6, i' 36 (.indexAddr Zm (q 34) (q 35)), fa 37 Zaz 36 0, ld 38 Zc 37, ca 39 Zhc #[q 32, q 38] #[Zc, Zc], i' 40 (.unOp .not Zbm (q 39)), mv 41 40, gd 41 false (fa 42 Za 2 1), gd 41 false (ld 43 Zr 42), gd 41 false (mv 44 1), gd 41 false (i' 45 (.slice Zr (q 43) none (some (q 44)) none)), gd 41 false (mv 46 6), gd 41 false (mv 47 9), gd 41 false (ca 48 Zha #[q 45, q 46, q 47] #[Zr, Zc, Zc]), i' 49 (.pick (q 41) (kb true) (q 48))]) (.cond (q 49) (.seq (rg 1 0 [1, 2, 6, 10, 28, 29, 49] [i' 4 (.assign (kb false))]) .ret) .skip)))) (rg 2 0 [49, 50] [bi 50 .add Zc (q 29) (ki 1) Zc, mv 29 50]))))
def Zp5 : C := .loop Zik
/-- What is live at the loop's head: t1 i, t2 c, t6 part, t10, t28, t29 -/
abbrev Zdt (t1 t2 t6 t10 t28 t29 : SV) : List SV := [.Z, t1, t2, .Z, .Z, .Z, t6, .Z, .Z, .Z, t10, .Z, .Z, .Z, .Z, .Z, .Z, .Z, .Z, .Z, .Z, .Z, .Z, .Z, .Z, .Z, .Z, .Z, t28, t29, .Z, .Z, .Z, .Z, .Z, .Z, .Z, .Z, .Z, .Z, .Z, .Z, .Z, .Z, .Z, .Z, .Z, .Z, .Z, .Z, .Z, .Z]
def Zkl : C :=
  (.seq (rg 1 0 [] [bi 11 .lss Zc (q 10) (ki 2) Zc]) (.seq (.cond (q 11) .skip (.exit 0)) (.seq (.block 1 (.seq (rg 2 0 [11, 12] [mv 12 10, as' 5 12]) (.seq (rg 13 13 [5, 13, 14, 15, 16, 17, 18, 19, 20, 21, 22] [fa 14 Za 2 1, ld 15 Zr 14, mv 16 1, i' 17 (.indexAddr Zr (q 15) (q 16)), ld 18 Zw 17, mv 19 5, ca 20 Zii #[q 18, q 19] #[Zw, Zc], mv 13 20, xt 21 13 0, xt 22 13 1, i' 7 (.alloc Zaq), as' 6 21, ⟨none, .store Zaq (q 7) (q 22), none, none⟩]) (.seq (.seq (rg 5 0 [23, 24, 25, 26] [i' 23 (.indexAddr Zaq (q 7) (ki 0)), ld 24 Zc 23, i' 25 (.indexAddr Zaq (q 7) (ki 1)), ld 26 Zc 25, bi 27 .eql Zc (q 24) (q 26) Zc]) (.cond (q 27) (.seq (rg 1 0 [1, 2, 6, 7, 10, 27] [i' 4 (.assign (kb false))]) .ret) .skip)) (.seq (rg 2 0 [7, 27] [ld 28 Zaq 7, i' 29 (.move (ki 0))]) (.block 2 Zp5)))))) (rg 2 0 [6, 28, 29, 30, 51] [bi 51 .add Zc (q 10) (ki 1) Zc, mv 10 51]))))
def Zpt : C := .loop Zkl
/-- What is live at the loop's head: t1 i, t2 c, t10 -/
abbrev Zeh (t1 t2 t10 : SV) : List SV := [.Z, t1, t2, .Z, .Z, .Z, .Z, .Z, .Z, .Z, t10, .Z, .Z, .Z, .Z, .Z, .Z, .Z, .Z, .Z, .Z, .Z, .Z, .Z, .Z, .Z, .Z, .Z, .Z, .Z, .Z, .Z, .Z, .Z, .Z, .Z, .Z, .Z, .Z, .Z, .Z, .Z, .Z, .Z, .Z, .Z, .Z, .Z, .Z, .Z, .Z, .Z]
def Zsq : C :=
  (.seq (rg 2 2 [0, 4] [i' 2 (.box Za (q 0)), i' 4 (.assign (kb false))]) (.seq (.seq (rg 1 0 [] [i' 10 (.move (ki 0))]) (.block 0 Zpt)) (.seq (rg 1 0 [1, 2, 10, 11] [i' 4 (.assign (kb true))]) .ret)))
theorem Z8a : Tryz.f131.body.map (comp ES Zdo) = some Zsq := by kernel_rfl
theorem Zaaa (t0 t1 : SV) (M : Mem) : ICw ES Zdo [t0, t1] M = Zx ES [.tmp 4] (evW ES Zdo Zsq ⟨[t0, t1, .Z, .Z, .Z, .Z, .Z, .Z, .Z, .Z, .Z, .Z, .Z, .Z, .Z, .Z, .Z, .Z, .Z, .Z, .Z, .Z, .Z, .Z, .Z, .Z, .Z, .Z, .Z, .Z, .Z, .Z, .Z, .Z, .Z, .Z, .Z, .Z, .Z, .Z, .Z, .Z, .Z, .Z, .Z, .Z, .Z, .Z, .Z, .Z, .Z, .Z], M⟩) :=
  Zab rfl Tryz.func131 Z8a (by kernel_rfl) (by kernel_rfl) (by kernel_rfl) M
@[simp] theorem Z9e : CX ES Zdo Zii := cx rfl
@[simp] theorem Z5h : CX ES Zdo Zhc := cx rfl
@[simp] theorem Z7j : CX ES Zdo Zha := cx rfl

/-! slices.Repeat[[]int,int] -/
def Zf0 : C :=
  (.seq (.seq (rg 4 0 [34, 35, 36] [mv 34 8, mv 35 7, le' 36 35 Zv, bi 37 .lss Zc (q 34) (q 36) Zc]) (.cond (q 37) .skip (.exit 0))) (.block 1 (rg 10 10 [37, 38, 39, 40, 41, 42, 43, 44, 45, 46] [li [] (mv 38 8), li [] (mv 39 7), li [] (mv 40 8), li [1, 2] (i' 41 (.slice Zv (q 39) (some (q 40)) none none)), li [] (mv 42 7), li [] (mv 43 8), li [4, 5] (i' 44 (.slice Zv (q 42) none (some (q 43)) none)), li [1, 2, 3, 4, 5, 6] (i' 45 (.call { callee := .builtin .copy, args := #[q 41, q 44], argTypes := #[Zv, Zv] })), li [0, 1, 2, 3, 4, 5, 6, 7] (bi 46 .add Zc (q 38) (q 45) Zc), li [0, 1, 2, 3, 4, 5, 6, 7, 8] (as' 8 46)])))
def Zd2 : C := .loop Zf0
/-- What is live at the loop's head: t7 newslice, t8 n -/
abbrev Zc8 (t7 t8 : SV) : List SV := [.Z, .Z, .Z, .Z, .Z, .Z, .Z, t7, t8, .Z, .Z, .Z, .Z, .Z, .Z, .Z, .Z, .Z, .Z, .Z, .Z, .Z, .Z, .Z, .Z, .Z, .Z, .Z, .Z, .Z, .Z, .Z, .Z, .Z, .Z, .Z, .Z, .Z, .Z, .Z, .Z, .Z, .Z, .Z, .Z, .Z, .Z, .Z]
def Zg0 : C :=
  (.seq (rg 1 0 [4] [i' 4 (.assign (.const (.slice none 0 0)))]) (.seq (.seq (rg 2 0 [9] [mv 9 1, bi 10 .lss Zc (q 9) (ki 0) Zc]) (.cond (q 10) (rg 2 0 [10, 11] [i' 11 (.makeInterface Ztr (.const (.string ⟨#[UInt8.ofNat 99, UInt8.ofNat 97, UInt8.ofNat 110, UInt8.ofNat 110, UInt8.ofNat 111, UInt8.ofNat 116, UInt8.ofNat 32, UInt8.ofNat 98, UInt8.ofNat 101, UInt8.ofNat 32, UInt8.ofNat 110, UInt8.ofNat 101, UInt8.ofNat 103, UInt8.ofNat 97, UInt8.ofNat 116, UInt8.ofNat 105, UInt8.ofNat 118, UInt8.ofNat 101]⟩))), ⟨none, .panic (q 11), none, none⟩]) .skip)) (.seq (rg 11 0 [1, 10, 12, 13, 14, 15, 16, 17, 18, 19, 20] [mv 13 0, le' 14 13 Zv, i' 15 (.convert Zc Zm6 (q 14)), mv 16 1, i' 17 (.convert Zc Zm6 (q 16)), ca 18 Zqb #[q 15, q 17] #[Zm6, Zm6], mv 12 18, xt 19 12 0, xt 20 12 1, as' 5 19, as' 6 20]) (.seq (.seq (rg 6 0 [5, 21, 22, 23, 24, 25] [mv 21 5, bi 22 .gtr Zm6 (q 21) (.const (.int .u64 0)) Zm6, mv 23 22, gd 23 false (mv 24 6), gd 23 false (bi 25 .gtr Zm6 (q 24) (.const (.int .u64 9223372036854775807)) Zm6), i' 26 (.pick (q 23) (kb true) (q 25))]) (.cond (q 26) (rg 2 0 [26, 27] [i' 27 (.makeInterface Ztr (.const (.string ⟨#[UInt8.ofNat 116, UInt8.ofNat 104, UInt8.ofNat 101, UInt8.ofNat 32, UInt8.ofNat 114, UInt8.ofNat 101, UInt8.ofNat 115, UInt8.ofNat 117, UInt8.ofNat 108, UInt8.ofNat 116, UInt8.ofNat 32, UInt8.ofNat 111, UInt8.ofNat 102, UInt8.ofNat 32, UInt8.ofNat 40, UInt8.ofNat 108, UInt8.ofNat 101, UInt8.ofNat 110, UInt8.ofNat 40, UInt8.ofNat 120, UInt8.ofNat 41, UInt8.ofNat 32, UInt8.ofNat 42, UInt8.ofNat 32, UInt8.ofNat 99, UInt8.ofNat 111, UInt8.ofNat 117, UInt8.ofNat 110, UInt8.ofNat 116, UInt8.ofNat 41, UInt8.ofNat 32, UInt8.ofNat 111, UInt8.ofNat 118, UInt8.ofNat 101, UInt8.ofNat 114, UInt8.ofNat 102, UInt8.ofNat 108, UInt8.ofNat 111, UInt8.ofNat 119, UInt8.ofNat 115]⟩))), ⟨none, .panic (q 27), none, none⟩]) .skip)) (.seq (rg 4 4 [6, 26, 28, 29, 30] [mv 28 6, i' 29 (.convert Zm6 Zc (q 28)), i' 30 (.makeSlice Zv (q 29) (q 29)), as' 7 30]) (.seq (rg 4 4 [0, 31, 32, 33] [mv 31 7, mv 32 0, i' 33 (.call { callee := .builtin .copy, args := #[q 31, q 32], argTypes := #[Zv, Zv] }), as' 8 33]) (.seq (.block 0 Zd2) (.seq (rg 2 0 [7, 8, 37, 47] [mv 47 7, as' 4 47]) .ret))))))))
theorem Zqg : Tryz.f132.body.map (comp ES Zbq) = some Zg0 := by kernel_rfl
theorem Zqk (t0 t1 : SV) (M : Mem) : ICw ES Zbq [t0, t1] M = Zx ES [.tmp 4] (evW ES Zbq Zg0 ⟨[t0, t1, .Z, .Z, .Z, .Z, .Z, .Z, .Z, .Z, .Z, .Z, .Z, .Z, .Z, .Z, .Z, .Z, .Z, .Z, .Z, .Z, .Z, .Z, .Z, .Z, .Z, .Z, .Z, .Z, .Z, .Z, .Z, .Z, .Z, .Z, .Z, .Z, .Z, .Z, .Z, .Z, .Z, .Z, .Z, .Z, .Z, .Z], M⟩) :=
  Zab rfl Tryz.func132 Zqg (by kernel_rfl) (by kernel_rfl) (by kernel_rfl) M
@[simp] theorem Zso : CX ES Zbq Zqb := cx rfl

/-! slices.IndexFunc[[]drumline/api.Link,drumline/api.Link] -/
def Zbc : C :=
  (.seq (rg 1 0 [] [bi 9 .lss Zc (q 8) (q 7) Zc]) (.seq (.cond (q 9) .skip (.exit 0)) (.seq (.block 1 (.seq (rg 2 0 [9, 10] [mv 10 8, as' 5 10]) (.seq (rg 6 6 [11, 12, 13, 14, 15] [mv 11 1, mv 12 0, mv 13 5, i' 14 (.indexAddr Zr (q 12) (q 13)), ld 15 Zw 14, i' 16 (.call { callee := .value (q 11), args := #[q 15], argTypes := #[Zw] })]) (.cond (q 16) (.seq (rg 2 0 [0, 1, 5, 7, 8, 16, 17] [mv 17 5, as' 4 17]) .ret) .skip)))) (rg 2 0 [5, 16, 18] [bi 18 .add Zc (q 8) (ki 1) Zc, mv 8 18]))))
def Zcr : C := .loop Zbc
/-- What is live at the loop's head: t0 s, t1 f, t7, t8 -/
abbrev Zak (t0 t1 t7 t8 : SV) : List SV := [t0, t1, .Z, .Z, .Z, .Z, .Z, t7, t8, .Z, .Z, .Z, .Z, .Z, .Z, .Z, .Z, .Z, .Z]
def Zb6 : C :=
  (.seq (rg 1 0 [4] [i' 4 (.assign (ki 0))]) (.seq (.seq (rg 3 0 [6] [mv 6 0, le' 7 6 Zr, i' 8 (.move (ki 0))]) (.block 0 Zcr)) (.seq (rg 1 0 [0, 1, 7, 8, 9] [i' 4 (.assign (ki (-1)))]) .ret)))
theorem Zjw : Tryz.f138.body.map (comp ES Zas) = some Zb6 := by kernel_rfl
theorem Zkd (t0 t1 : SV) (M : Mem) : ICw ES Zas [t0, t1] M = Zx ES [.tmp 4] (evW ES Zas Zb6 ⟨[t0, t1, .Z, .Z, .Z, .Z, .Z, .Z, .Z, .Z, .Z, .Z, .Z, .Z, .Z, .Z, .Z, .Z, .Z], M⟩) :=
  Zab rfl Tryz.func138 Zjw (by kernel_rfl) (by kernel_rfl) (by kernel_rfl) M

/-! drumline/plan.taken -/
def Zs0 : C :=
  (.seq (rg 3 3 [] [i' 4 (.box Zc (q 1)), i' 5 (.box Zc (q 2)), i' 6 (.assign (kb false))]) (.seq (rg 4 0 [] [mv 7 0, i' 8 (.makeFunc (.func Zdg) #[] #[q 4, q 5]), ca 9 Z8 #[q 7, q 8] #[Zr, Zf8], as' 6 9]) .ret))
theorem Z6b : Tryz.f139.body.map (comp ES Zha) = some Zs0 := by kernel_rfl
theorem Z98 (t0 t1 t2 : SV) (M : Mem) : ICw ES Zha [t0, t1, t2] M = Zx ES [.tmp 6] (evW ES Zha Zs0 ⟨[t0, t1, t2, .Z, .Z, .Z, .Z, .Z, .Z, .Z], M⟩) :=
  Zab rfl Tryz.func139 Z6b (by kernel_rfl) (by kernel_rfl) (by kernel_rfl) M
@[simp] theorem Zo2 : CX ES Zha Z8 := cx rfl
@[simp] theorem Z3v : CX ES Zha Zdg := cx rfl

/-! drumline/plan.taken$1 -/
def Ze4 : C :=
  (.seq (rg 1 0 [] [bi 9 .lss Zc (q 8) (ki 2) Zc]) (.seq (.cond (q 9) .skip (.exit 0)) (.seq (.block 1 (.seq (rg 2 0 [9, 10] [mv 10 8, as' 5 10]) (.seq (rg 9 9 [5, 11, 12, 13, 14, 15, 16] [ld 12 Zw 3, mv 13 5, ca 14 Zii #[q 12, q 13] #[Zw, Zc], mv 11 14, xt 15 11 0, xt 16 11 1, i' 7 (.alloc Zaq), as' 6 15, ⟨none, .store Zaq (q 7) (q 16), none, none⟩]) (.seq (rg 15 0 [6, 7, 17, 18, 19, 20, 21, 22, 23, 24, 25, 26, 27, 28, 29, 30] [mv 17 6, ld 18 Zc 1, bi 19 .eql Zc (q 17) (q 18) Zc, mv 20 19, gd 20 true (i' 21 (.indexAddr Zaq (q 7) (ki 0))), gd 20 true (ld 22 Zc 21), gd 20 true (ld 23 Zc 2), gd 20 true (bi 24 .eql Zc (q 22) (q 23) Zc), gd 20 true (mv 25 24), gd 25 false (i' 26 (.indexAddr Zaq (q 7) (ki 1))), gd 25 false (ld 27 Zc 26), gd 25 false (ld 28 Zc 2), gd 25 false (bi 29 .eql Zc (q 27) (q 28) Zc), gd 20 true (i' 30 (.pick (q 25) (kb true) (q 29))), i' 31 (.pick (q 20) (q 30) (kb false))]) (.cond (q 31) (.seq (rg 1 0 [1, 2, 3, 8, 31] [i' 4 (.assign (kb true))]) .ret) .skip))))) (rg 2 0 [31, 32] [bi 32 .add Zc (q 8) (ki 1) Zc, mv 8 32]))))
def Znl : C := .loop Ze4
/-- What is live at the loop's head: t1, t2, t3 x, t8 -/
abbrev Zdf (t1 t2 t3 t8 : SV) : List SV := [.Z, t1, t2, t3, .Z, .Z, .Z, .Z, t8, .Z, .Z, .Z, .Z, .Z, .Z, .Z, .Z, .Z, .Z, .Z, .Z, .Z, .Z, .Z, .Z, .Z, .Z, .Z, .Z, .Z, .Z, .Z, .Z]
def Zn5 : C :=
  (.seq (rg 2 2 [0, 4] [i' 3 (.box Zw (q 0)), i' 4 (.assign (kb false))]) (.seq (.seq (rg 1 0 [] [i' 8 (.move (ki 0))]) (.block 0 Znl)) (.seq (rg 1 0 [1, 2, 3, 8, 9] [i' 4 (.assign (kb false))]) .ret)))
theorem Z0b : Tryz.f142.body.map (comp ES Zdg) = some Zn5 := by kernel_rfl
theorem Z13 (t0 t1 t2 : SV) (M : Mem) : ICw ES Zdg [t0, t1, t2] M = Zx ES [.tmp 4] (evW ES Zdg Zn5 ⟨[t0, t1, t2, .Z, .Z, .Z, .Z, .Z, .Z, .Z, .Z, .Z, .Z, .Z, .Z, .Z, .Z, .Z, .Z, .Z, .Z, .Z, .Z, .Z, .Z, .Z, .Z, .Z, .Z, .Z, .Z, .Z, .Z], M⟩) :=
  Zab rfl Tryz.func142 Z0b (by kernel_rfl) (by kernel_rfl) (by kernel_rfl) M
@[simp] theorem Z6r : CX ES Zdg Zii := cx rfl


end Go.Proofs.YtfphjfbknphhjaaGreatDoor
