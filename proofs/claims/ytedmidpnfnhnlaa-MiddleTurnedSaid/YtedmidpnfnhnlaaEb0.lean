/-
  The seat's functions as short code, part 0 (printed by a program of the claim's own).
-/
import Derived.Test.YtedmidpnfnhnlaaEa
set_option linter.unusedVariables false
set_option maxRecDepth 100000
namespace Go.Proofs.Ytedmidpnfnhnlaa
open Go.Proofs.Ytedmidpnfnhnlaa.Sh

/-! drumline/drumlinelaw13.MiddleTurned -/
def c_l13_MiddleTurned_B0 : C :=
  (.seq (.seq (rg 4 0 [29, 30, 31] [mv 29 11, mv 30 0, le' 31 30 T_sl_int32, bi 32 .lss T_int (q 29) (q 31) T_int]) (.cond (q 32) .skip (.exit 0))) (.seq (.block 1 (.seq (rg 9 9 [32, 35, 36, 37, 38, 39, 40, 41, 42] [mv 35 8, mv 36 0, mv 37 11, i' 38 (.indexAddr T_sl_int32 (q 36) (q 37)), ld 39 T_int32 38, i' 40 (.convert T_int32 T_int64 (q 39)), i' 41 (.buildSlice T_sl_int64 1 #[(0, q 40)]), i' 42 (.call { callee := .builtin .append, args := #[q 35, q 41], argTypes := #[T_sl_int64, T_sl_int64] }), as' 8 42]) (.seq (rg 13 13 [43, 44, 45, 46, 47, 48, 49, 50, 51, 52, 53, 54] [mv 43 9, mv 44 0, mv 45 0, le' 46 45 T_sl_int32, bi 47 .sub T_int (q 46) (ki 1) T_int, mv 48 11, bi 49 .sub T_int (q 47) (q 48) T_int, i' 50 (.indexAddr T_sl_int32 (q 44) (q 49)), ld 51 T_int32 50, i' 52 (.convert T_int32 T_int64 (q 51)), i' 53 (.buildSlice T_sl_int64 1 #[(0, q 52)]), i' 54 (.call { callee := .builtin .append, args := #[q 43, q 53], argTypes := #[T_sl_int64, T_sl_int64] }), as' 9 54]) (rg 12 12 [55, 56, 57, 58, 59, 60, 61, 62, 63, 64, 65] [mv 55 10, mv 56 0, mv 57 11, i' 58 (.indexAddr T_sl_int32 (q 56) (q 57)), ld 59 T_int32 58, i' 60 (.convert T_int32 T_int64 (q 59)), mv 61 2, i' 62 (.convert T_int32 T_int64 (q 61)), bi 63 .add T_int64 (q 60) (q 62) T_int64, i' 64 (.buildSlice T_sl_int64 1 #[(0, q 63)]), i' 65 (.call { callee := .builtin .append, args := #[q 55, q 64], argTypes := #[T_sl_int64, T_sl_int64] }), as' 10 65])))) (rg 3 0 [33, 34] [mv 33 11, bi 34 .add T_int (q 33) (ki 1) T_int, as' 11 34])))
def c_l13_MiddleTurned_L0 : C := .loop c_l13_MiddleTurned_B0
/-- What is live at the loop's head: t0 l, t2 by, t7 f, t8 a, t9 b, t10 c, t11 i -/
abbrev h_l13_MiddleTurned_0 (t0 t2 t7 t8 t9 t10 t11 : SV) : List SV := [t0, .bad, t2, .bad, .bad, .bad, .bad, t7, t8, t9, t10, t11, .bad, .bad, .bad, .bad, .bad, .bad, .bad, .bad, .bad, .bad, .bad, .bad, .bad, .bad, .bad, .bad, .bad, .bad, .bad, .bad, .bad, .bad, .bad, .bad, .bad, .bad, .bad, .bad, .bad, .bad, .bad, .bad, .bad, .bad, .bad, .bad, .bad, .bad, .bad, .bad, .bad, .bad, .bad, .bad, .bad, .bad, .bad, .bad, .bad, .bad, .bad, .bad, .bad, .bad, .bad, .bad, .bad, .bad, .bad, .bad, .bad, .bad, .bad, .bad, .bad, .bad, .bad, .bad, .bad, .bad, .bad, .bad, .bad, .bad, .bad, .bad, .bad, .bad, .bad, .bad, .bad, .bad, .bad, .bad, .bad, .bad, .bad, .bad, .bad, .bad, .bad, .bad, .bad, .bad, .bad, .bad, .bad, .bad, .bad, .bad, .bad, .bad, .bad, .bad, .bad, .bad, .bad, .bad]
def c_l13_MiddleTurned : C :=
  (.seq (rg 1 0 [6] [i' 6 (.assign (kb false))]) (.seq (rg 4 0 [1, 18, 19, 20] [mv 18 1, i' 19 (.convert T_uint8 T_int (q 18)), bi 20 .rem T_int (q 19) (ki 4) T_int, as' 7 20]) (.seq (.seq (rg 7 0 [21, 22, 23, 24, 25, 26] [ca 21 n_l13_alive #[] #[], i' 22 (.unOp .not T_bool (q 21)), mv 23 22, gd 23 false (mv 24 0), gd 23 false (le' 25 24 T_sl_int32), gd 23 false (bi 26 .gtr T_int (q 25) (ki 60) T_int), i' 27 (.pick (q 23) (kb true) (q 26))]) (.cond (q 27) (.seq (rg 2 0 [0, 2, 7, 27, 28] [ca 28 n_l13_alive #[] #[], as' 6 28]) .ret) .skip)) (.seq (rg 3 0 [27] [i' 8 (.assign (.const (.slice none 0 0))), i' 9 (.assign (.const (.slice none 0 0))), i' 10 (.assign (.const (.slice none 0 0)))]) (.seq (.seq (rg 1 0 [] [i' 11 (.assign (ki 0))]) (.block 0 c_l13_MiddleTurned_L0)) (.seq (rg 8 0 [8, 11, 32, 66, 67, 68, 69, 70, 71] [mv 67 8, mv 68 7, ca 69 n_middle_Mid #[q 67, q 68] #[T_sl_int64, T_int], mv 66 69, xt 70 66 0, xt 71 66 1, as' 12 70, as' 13 71]) (.seq (rg 8 0 [9, 72, 73, 74, 75, 76, 77] [mv 73 9, mv 74 7, ca 75 n_middle_Mid #[q 73, q 74] #[T_sl_int64, T_int], mv 72 75, xt 76 72 0, xt 77 72 1, as' 14 76, as' 15 77]) (.seq (rg 8 0 [10, 78, 79, 80, 81, 82, 83] [mv 79 10, mv 80 7, ca 81 n_middle_Mid #[q 79, q 80] #[T_sl_int64, T_int], mv 78 81, xt 82 78 0, xt 83 78 1, as' 16 82, as' 17 83]) (.seq (.seq (rg 6 0 [0, 7, 84, 85, 86, 87, 88] [mv 84 0, le' 85 84 T_sl_int32, mv 86 7, bi 87 .mul T_int (ki 2) (q 86) T_int, bi 88 .add T_int (q 87) (ki 1) T_int, bi 89 .lss T_int (q 85) (q 88) T_int]) (.cond (q 89) (.seq (rg 11 0 [2, 12, 13, 14, 15, 16, 17, 89, 90, 91, 92, 93, 94, 95, 96, 97, 98, 99] [mv 90 13, i' 91 (.unOp .not T_bool (q 90)), mv 92 91, gd 92 true (mv 93 15), gd 92 true (i' 94 (.unOp .not T_bool (q 93))), i' 95 (.pick (q 92) (q 94) (kb false)), mv 96 95, gd 96 true (mv 97 17), gd 96 true (i' 98 (.unOp .not T_bool (q 97))), i' 99 (.pick (q 96) (q 98) (kb false)), as' 6 99]) .ret) .skip)) (.seq (rg 21 0 [2, 12, 13, 14, 15, 16, 17, 89, 100, 101, 102, 103, 104, 105, 106, 107, 108, 109, 110, 111, 112, 113, 114, 115, 116, 117, 118, 119] [mv 100 13, mv 101 100, gd 101 true (mv 102 15), i' 103 (.pick (q 101) (q 102) (kb false)), mv 104 103, gd 104 true (mv 105 17), i' 106 (.pick (q 104) (q 105) (kb false)), mv 107 106, gd 107 true (mv 108 12), gd 107 true (mv 109 14), gd 107 true (bi 110 .eql T_int64 (q 108) (q 109) T_int64), i' 111 (.pick (q 107) (q 110) (kb false)), mv 112 111, gd 112 true (mv 113 16), gd 112 true (mv 114 12), gd 112 true (mv 115 2), gd 112 true (i' 116 (.convert T_int32 T_int64 (q 115))), gd 112 true (bi 117 .add T_int64 (q 114) (q 116) T_int64), gd 112 true (bi 118 .eql T_int64 (q 113) (q 117) T_int64), i' 119 (.pick (q 112) (q 118) (kb false)), as' 6 119]) .ret))))))))))
theorem ok_l13_MiddleTurned : Try.f4.body.map (comp ES n_l13_MiddleTurned) = some c_l13_MiddleTurned := by kernel_rfl
theorem b_l13_MiddleTurned (t0 t1 t2 : SV) (M : Mem) : ICw ES n_l13_MiddleTurned [t0, t1, t2] M = endS ES [.tmp 6] (evW ES n_l13_MiddleTurned c_l13_MiddleTurned ⟨[t0, t1, t2, .bad, .bad, .bad, .bad, .bad, .bad, .bad, .bad, .bad, .bad, .bad, .bad, .bad, .bad, .bad, .bad, .bad, .bad, .bad, .bad, .bad, .bad, .bad, .bad, .bad, .bad, .bad, .bad, .bad, .bad, .bad, .bad, .bad, .bad, .bad, .bad, .bad, .bad, .bad, .bad, .bad, .bad, .bad, .bad, .bad, .bad, .bad, .bad, .bad, .bad, .bad, .bad, .bad, .bad, .bad, .bad, .bad, .bad, .bad, .bad, .bad, .bad, .bad, .bad, .bad, .bad, .bad, .bad, .bad, .bad, .bad, .bad, .bad, .bad, .bad, .bad, .bad, .bad, .bad, .bad, .bad, .bad, .bad, .bad, .bad, .bad, .bad, .bad, .bad, .bad, .bad, .bad, .bad, .bad, .bad, .bad, .bad, .bad, .bad, .bad, .bad, .bad, .bad, .bad, .bad, .bad, .bad, .bad, .bad, .bad, .bad, .bad, .bad, .bad, .bad, .bad, .bad], M⟩) :=
  ICw_run rfl Try.func4 ok_l13_MiddleTurned (by kernel_rfl) (by kernel_rfl) (by kernel_rfl) M
@[simp] theorem x_l13_MiddleTurned_l13_alive : CX ES n_l13_MiddleTurned n_l13_alive := cx rfl
@[simp] theorem x_l13_MiddleTurned_middle_Mid : CX ES n_l13_MiddleTurned n_middle_Mid := cx rfl

/-! drumline/drumlinelaw13.MiddleNear -/
def c_l13_MiddleNear_B0 : C :=
  (.seq (.seq (rg 4 0 [46, 47, 48] [mv 46 13, mv 47 0, le' 48 47 T_sl_int32, bi 49 .lss T_int (q 46) (q 48) T_int]) (.cond (q 49) .skip (.exit 0))) (.seq (.block 1 (.seq (rg 9 9 [49, 52, 53, 54, 55, 56, 57, 58, 59] [mv 52 11, mv 53 0, mv 54 13, i' 55 (.indexAddr T_sl_int32 (q 53) (q 54)), ld 56 T_int32 55, i' 57 (.convert T_int32 T_int64 (q 56)), i' 58 (.buildSlice T_sl_int64 1 #[(0, q 57)]), i' 59 (.call { callee := .builtin .append, args := #[q 52, q 58], argTypes := #[T_sl_int64, T_sl_int64] }), as' 11 59]) (rg 18 18 [60, 61, 62, 63, 64, 65, 66, 67, 68, 69, 70, 71, 72, 73, 74, 75, 76] [li [] (mv 60 12), li [] (mv 61 0), li [] (mv 62 13), li [1, 2] (i' 63 (.indexAddr T_sl_int32 (q 61) (q 62))), li [1, 2, 3] (ld 64 T_int32 63), li [1, 2, 3, 4] (i' 65 (.convert T_int32 T_int64 (q 64))), li [] (mv 66 1), li [] (mv 67 13), li [6, 7] (i' 68 (.indexAddr T_sl_int16 (q 66) (q 67))), li [6, 7, 8] (ld 69 T_int16 68), li [6, 7, 8, 9] (i' 70 (.convert T_int16 T_int (q 69))), li [] (mv 71 10), li [11] (bi 72 .add T_int (q 71) (ki 1) T_int), li [6, 7, 8, 9, 10, 11, 12] (bi 73 .rem T_int (q 70) (q 72) T_int), li [1, 2, 3, 4, 5, 6, 7, 8, 9, 10, 11, 12, 13] (bi 74 .add T_int64 (q 65) (q 73) T_int64), li [1, 2, 3, 4, 5, 6, 7, 8, 9, 10, 11, 12, 13, 14] (i' 75 (.buildSlice T_sl_int64 1 #[(0, q 74)])), li [0, 1, 2, 3, 4, 5, 6, 7, 8, 9, 10, 11, 12, 13, 14, 15] (i' 76 (.call { callee := .builtin .append, args := #[q 60, q 75], argTypes := #[T_sl_int64, T_sl_int64] })), li [0, 1, 2, 3, 4, 5, 6, 7, 8, 9, 10, 11, 12, 13, 14, 15, 16] (as' 12 76)]))) (rg 3 0 [50, 51] [mv 50 13, bi 51 .add T_int (q 50) (ki 1) T_int, as' 13 51])))
def c_l13_MiddleNear_L0 : C := .loop c_l13_MiddleNear_B0
/-- What is live at the loop's head: t0 l, t1 off, t9 f, t10 most, t11 a, t12 b, t13 i -/
abbrev h_l13_MiddleNear_0 (t0 t1 t9 t10 t11 t12 t13 : SV) : List SV := [t0, t1, .bad, .bad, .bad, .bad, .bad, .bad, .bad, t9, t10, t11, t12, t13, .bad, .bad, .bad, .bad, .bad, .bad, .bad, .bad, .bad, .bad, .bad, .bad, .bad, .bad, .bad, .bad, .bad, .bad, .bad, .bad, .bad, .bad, .bad, .bad, .bad, .bad, .bad, .bad, .bad, .bad, .bad, .bad, .bad, .bad, .bad, .bad, .bad, .bad, .bad, .bad, .bad, .bad, .bad, .bad, .bad, .bad, .bad, .bad, .bad, .bad, .bad, .bad, .bad, .bad, .bad, .bad, .bad, .bad, .bad, .bad, .bad, .bad, .bad, .bad, .bad, .bad, .bad, .bad, .bad, .bad, .bad, .bad, .bad, .bad, .bad, .bad, .bad, .bad, .bad, .bad, .bad, .bad, .bad, .bad, .bad, .bad, .bad, .bad, .bad, .bad, .bad, .bad, .bad]
def c_l13_MiddleNear : C :=
  (.seq (rg 1 0 [8] [i' 8 (.assign (kb false))]) (.seq (rg 7 0 [2, 3, 18, 19, 20, 21, 22] [mv 18 2, i' 19 (.convert T_uint8 T_int (q 18)), bi 20 .rem T_int (q 19) (ki 4) T_int, mv 21 3, i' 22 (.convert T_uint8 T_int (q 21)), as' 9 20, as' 10 22]) (.seq (.seq (rg 22 0 [23, 24, 25, 26, 27, 28, 29, 30, 31, 32, 33, 34, 35, 36, 37, 38, 39, 40, 41, 42, 43] [ca 23 n_l13_alive #[] #[], i' 24 (.unOp .not T_bool (q 23)), mv 25 24, gd 25 false (mv 26 0), gd 25 false (le' 27 26 T_sl_int32), gd 25 false (bi 28 .gtr T_int (q 27) (ki 40) T_int), i' 29 (.pick (q 25) (kb true) (q 28)), mv 30 29, gd 30 false (mv 31 1), gd 30 false (le' 32 31 T_sl_int16), gd 30 false (mv 33 0), gd 30 false (le' 34 33 T_sl_int32), gd 30 false (bi 35 .lss T_int (q 32) (q 34) T_int), i' 36 (.pick (q 30) (kb true) (q 35)), mv 37 36, gd 37 false (mv 38 0), gd 37 false (le' 39 38 T_sl_int32), gd 37 false (mv 40 9), gd 37 false (bi 41 .mul T_int (ki 2) (q 40) T_int), gd 37 false (bi 42 .add T_int (q 41) (ki 1) T_int), gd 37 false (bi 43 .lss T_int (q 39) (q 42) T_int), i' 44 (.pick (q 37) (kb true) (q 43))]) (.cond (q 44) (.seq (rg 2 0 [0, 1, 9, 10, 44, 45] [ca 45 n_l13_alive #[] #[], as' 8 45]) .ret) .skip)) (.seq (rg 2 0 [44] [i' 11 (.assign (.const (.slice none 0 0))), i' 12 (.assign (.const (.slice none 0 0)))]) (.seq (.seq (rg 1 0 [] [i' 13 (.assign (ki 0))]) (.block 0 c_l13_MiddleNear_L0)) (.seq (rg 8 0 [0, 1, 11, 13, 49, 77, 78, 79, 80, 81, 82] [mv 78 11, mv 79 9, ca 80 n_middle_Mid #[q 78, q 79] #[T_sl_int64, T_int], mv 77 80, xt 81 77 0, xt 82 77 1, as' 14 81, as' 15 82]) (.seq (rg 8 0 [9, 12, 83, 84, 85, 86, 87, 88] [mv 84 12, mv 85 9, ca 86 n_middle_Mid #[q 84, q 85] #[T_sl_int64, T_int], mv 83 86, xt 87 83 0, xt 88 83 1, as' 16 87, as' 17 88]) (.seq (rg 19 0 [10, 14, 15, 16, 17, 89, 90, 91, 92, 93, 94, 95, 96, 97, 98, 99, 100, 101, 102, 103, 104, 105, 106] [mv 89 15, mv 90 89, gd 90 true (mv 91 17), i' 92 (.pick (q 90) (q 91) (kb false)), mv 93 92, gd 93 true (mv 94 14), gd 93 true (mv 95 16), gd 93 true (bi 96 .sub T_int64 (q 94) (q 95) T_int64), gd 93 true (mv 97 10), gd 93 true (bi 98 .leq T_int64 (q 96) (q 97) T_int64), i' 99 (.pick (q 93) (q 98) (kb false)), mv 100 99, gd 100 true (mv 101 16), gd 100 true (mv 102 14), gd 100 true (bi 103 .sub T_int64 (q 101) (q 102) T_int64), gd 100 true (mv 104 10), gd 100 true (bi 105 .leq T_int64 (q 103) (q 104) T_int64), i' 106 (.pick (q 100) (q 105) (kb false)), as' 8 106]) .ret))))))))
theorem ok_l13_MiddleNear : Try.f6.body.map (comp ES n_l13_MiddleNear) = some c_l13_MiddleNear := by kernel_rfl
theorem b_l13_MiddleNear (t0 t1 t2 t3 : SV) (M : Mem) : ICw ES n_l13_MiddleNear [t0, t1, t2, t3] M = endS ES [.tmp 8] (evW ES n_l13_MiddleNear c_l13_MiddleNear ⟨[t0, t1, t2, t3, .bad, .bad, .bad, .bad, .bad, .bad, .bad, .bad, .bad, .bad, .bad, .bad, .bad, .bad, .bad, .bad, .bad, .bad, .bad, .bad, .bad, .bad, .bad, .bad, .bad, .bad, .bad, .bad, .bad, .bad, .bad, .bad, .bad, .bad, .bad, .bad, .bad, .bad, .bad, .bad, .bad, .bad, .bad, .bad, .bad, .bad, .bad, .bad, .bad, .bad, .bad, .bad, .bad, .bad, .bad, .bad, .bad, .bad, .bad, .bad, .bad, .bad, .bad, .bad, .bad, .bad, .bad, .bad, .bad, .bad, .bad, .bad, .bad, .bad, .bad, .bad, .bad, .bad, .bad, .bad, .bad, .bad, .bad, .bad, .bad, .bad, .bad, .bad, .bad, .bad, .bad, .bad, .bad, .bad, .bad, .bad, .bad, .bad, .bad, .bad, .bad, .bad, .bad], M⟩) :=
  ICw_run rfl Try.func6 ok_l13_MiddleNear (by kernel_rfl) (by kernel_rfl) (by kernel_rfl) M
@[simp] theorem x_l13_MiddleNear_l13_alive : CX ES n_l13_MiddleNear n_l13_alive := cx rfl
@[simp] theorem x_l13_MiddleNear_middle_Mid : CX ES n_l13_MiddleNear n_middle_Mid := cx rfl

/-! drumline/middle.Cut -/
def c_middle_Cut : C :=
  (.seq (rg 2 0 [] [i' 4 (.assign (.const (.slice none 0 0))), i' 5 (.assign (kb false))]) (.seq (.seq (rg 15 0 [] [mv 7 1, bi 8 .lss T_int (q 7) (ki 0) T_int, mv 9 8, gd 9 false (mv 10 0), gd 9 false (le' 11 10 T_sl_int64), gd 9 false (bi 12 .lss T_int (q 11) (ki 1) T_int), i' 13 (.pick (q 9) (kb true) (q 12)), mv 14 13, gd 14 false (mv 15 1), gd 14 false (mv 16 0), gd 14 false (le' 17 16 T_sl_int64), gd 14 false (bi 18 .sub T_int (q 17) (ki 1) T_int), gd 14 false (bi 19 .quo T_int (q 18) (ki 2) T_int), gd 14 false (bi 20 .gtr T_int (q 15) (q 19) T_int), i' 21 (.pick (q 14) (kb true) (q 20))]) (.cond (q 21) (.seq (rg 2 0 [] [i' 4 (.assign (.const (.slice none 0 0))), i' 5 (.assign (kb false))]) .ret) .skip)) (.seq (rg 3 3 [] [mv 22 0, ca 23 n_slices_Clone_sl_int64_int64 #[q 22] #[T_sl_int64], as' 6 23]) (.seq (rg 2 2 [] [mv 24 6, ca 25 n_slices_Sort_sl_int64_int64 #[q 24] #[T_sl_int64]]) (.seq (rg 10 10 [] [mv 26 6, mv 27 1, mv 28 6, le' 29 28 T_sl_int64, mv 30 1, bi 31 .sub T_int (q 29) (q 30) T_int, i' 32 (.slice T_sl_int64 (q 26) (some (q 27)) (some (q 31)) none), ca 33 n_slices_Clone_sl_int64_int64 #[q 32] #[T_sl_int64], as' 4 33, i' 5 (.assign (kb true))]) .ret)))))
theorem ok_middle_Cut : Try.f9.body.map (comp ES n_middle_Cut) = some c_middle_Cut := by kernel_rfl
theorem b_middle_Cut (t0 t1 : SV) (M : Mem) : ICw ES n_middle_Cut [t0, t1] M = endS ES [.tmp 4, .tmp 5] (evW ES n_middle_Cut c_middle_Cut ⟨[t0, t1, .bad, .bad, .bad, .bad, .bad, .bad, .bad, .bad, .bad, .bad, .bad, .bad, .bad, .bad, .bad, .bad, .bad, .bad, .bad, .bad, .bad, .bad, .bad, .bad, .bad, .bad, .bad, .bad, .bad, .bad, .bad, .bad], M⟩) :=
  ICw_run rfl Try.func9 ok_middle_Cut (by kernel_rfl) (by kernel_rfl) (by kernel_rfl) M
@[simp] theorem x_middle_Cut_slices_Clone_sl_int64_int64 : CI ES n_middle_Cut n_slices_Clone_sl_int64_int64 := ci rfl
@[simp] theorem x_middle_Cut_slices_Sort_sl_int64_int64 : CI ES n_middle_Cut n_slices_Sort_sl_int64_int64 := ci rfl

/-! drumline/middle.Mid -/
def c_middle_Mid : C :=
  (.seq (rg 2 0 [] [i' 4 (.assign (ki 0)), i' 5 (.assign (kb false))]) (.seq (rg 8 0 [] [mv 9 0, mv 10 1, ca 11 n_middle_Cut #[q 9, q 10] #[T_sl_int64, T_int], mv 8 11, xt 12 8 0, xt 13 8 1, as' 6 12, as' 7 13]) (.seq (.seq (rg 6 0 [] [mv 14 7, i' 15 (.unOp .not T_bool (q 14)), mv 16 15, gd 16 false (mv 17 0), gd 16 false (ca 18 n_slices_ContainsFunc_sl_int64_int64 #[q 17, .func n_middle_Mid_1] #[T_sl_int64, T_func_int64_bool]), i' 19 (.pick (q 16) (kb true) (q 18))]) (.cond (q 19) (.seq (rg 2 0 [] [i' 4 (.assign (ki 0)), i' 5 (.assign (kb false))]) .ret) .skip)) (.seq (rg 15 0 [] [mv 20 6, i' 21 (.indexAddr T_sl_int64 (q 20) (ki 0)), ld 22 T_int64 21, mv 23 6, mv 24 6, le' 25 24 T_sl_int64, bi 26 .sub T_int (q 25) (ki 1) T_int, i' 27 (.indexAddr T_sl_int64 (q 23) (q 26)), ld 28 T_int64 27, bi 29 .add T_int64 (q 22) (q 28) T_int64, ca 30 n_ticks_Floor #[q 29, (ki 2)] #[T_int64, T_int64], xt 31 30 0, xt 32 30 1, as' 4 31, as' 5 32]) .ret))))
theorem ok_middle_Mid : Try.f11.body.map (comp ES n_middle_Mid) = some c_middle_Mid := by kernel_rfl
theorem b_middle_Mid (t0 t1 : SV) (M : Mem) : ICw ES n_middle_Mid [t0, t1] M = endS ES [.tmp 4, .tmp 5] (evW ES n_middle_Mid c_middle_Mid ⟨[t0, t1, .bad, .bad, .bad, .bad, .bad, .bad, .bad, .bad, .bad, .bad, .bad, .bad, .bad, .bad, .bad, .bad, .bad, .bad, .bad, .bad, .bad, .bad, .bad, .bad, .bad, .bad, .bad, .bad, .bad, .bad, .bad], M⟩) :=
  ICw_run rfl Try.func11 ok_middle_Mid (by kernel_rfl) (by kernel_rfl) (by kernel_rfl) M
@[simp] theorem x_middle_Mid_middle_Cut : CX ES n_middle_Mid n_middle_Cut := cx rfl
@[simp] theorem x_middle_Mid_slices_ContainsFunc_sl_int64_int64 : CX ES n_middle_Mid n_slices_ContainsFunc_sl_int64_int64 := cx rfl
@[simp] theorem x_middle_Mid_middle_Mid_1 : CX ES n_middle_Mid n_middle_Mid_1 := cx rfl
@[simp] theorem x_middle_Mid_ticks_Floor : CX ES n_middle_Mid n_ticks_Floor := cx rfl

/-! slices.Clone[[]int64,int64] -/
def c_slices_Clone_sl_int64_int64 : C :=
  (.seq (rg 1 0 [] [i' 2 (.assign (.const (.slice none 0 0)))]) (.seq (.seq (rg 2 0 [] [mv 3 0, bi 4 .eql T_sl_int64 (q 3) (.const (.slice none 0 0)) T_sl_int64]) (.cond (q 4) (.seq (rg 1 0 [] [i' 2 (.assign (.const (.slice none 0 0)))]) .ret) .skip)) (.seq (rg 4 4 [] [i' 5 (.buildSlice T_sl_int64 0 #[]), mv 6 0, i' 7 (.call { callee := .builtin .append, args := #[q 5, q 6], argTypes := #[T_sl_int64, T_sl_int64] }), as' 2 7]) .ret)))
theorem ok_slices_Clone_sl_int64_int64 : Try.f14.body.map (comp ES n_slices_Clone_sl_int64_int64) = some c_slices_Clone_sl_int64_int64 := by kernel_rfl
theorem b_slices_Clone_sl_int64_int64 (t0 : SV) (M : Mem) : ICw ES n_slices_Clone_sl_int64_int64 [t0] M = endS ES [.tmp 2] (evW ES n_slices_Clone_sl_int64_int64 c_slices_Clone_sl_int64_int64 ⟨[t0, .bad, .bad, .bad, .bad, .bad, .bad, .bad], M⟩) :=
  ICw_run rfl Try.func14 ok_slices_Clone_sl_int64_int64 (by kernel_rfl) (by kernel_rfl) (by kernel_rfl) M

/-! slices.ContainsFunc[[]int64,int64] -/
def c_slices_ContainsFunc_sl_int64_int64 : C :=
  (.seq (rg 1 0 [] [i' 4 (.assign (kb false))]) (.seq (rg 5 0 [] [mv 5 0, mv 6 1, ca 7 n_slices_IndexFunc_sl_int64_int64 #[q 5, q 6] #[T_sl_int64, T_func_int64_bool], bi 8 .geq T_int (q 7) (ki 0) T_int, as' 4 8]) .ret))
theorem ok_slices_ContainsFunc_sl_int64_int64 : Try.f17.body.map (comp ES n_slices_ContainsFunc_sl_int64_int64) = some c_slices_ContainsFunc_sl_int64_int64 := by kernel_rfl
theorem b_slices_ContainsFunc_sl_int64_int64 (t0 t1 : SV) (M : Mem) : ICw ES n_slices_ContainsFunc_sl_int64_int64 [t0, t1] M = endS ES [.tmp 4] (evW ES n_slices_ContainsFunc_sl_int64_int64 c_slices_ContainsFunc_sl_int64_int64 ⟨[t0, t1, .bad, .bad, .bad, .bad, .bad, .bad, .bad], M⟩) :=
  ICw_run rfl Try.func17 ok_slices_ContainsFunc_sl_int64_int64 (by kernel_rfl) (by kernel_rfl) (by kernel_rfl) M
@[simp] theorem x_slices_ContainsFunc_sl_int64_int64_slices_IndexFunc_sl_int64_int64 : CX ES n_slices_ContainsFunc_sl_int64_int64 n_slices_IndexFunc_sl_int64_int64 := cx rfl

/-! drumline/middle.Mid$1 -/
def c_middle_Mid_1 : C :=
  (.seq (rg 1 0 [] [i' 2 (.assign (kb false))]) (.seq (rg 4 0 [] [mv 3 0, ca 4 n_ticks_Time #[q 3] #[T_int64], i' 5 (.unOp .not T_bool (q 4)), as' 2 5]) .ret))
theorem ok_middle_Mid_1 : Try.f18.body.map (comp ES n_middle_Mid_1) = some c_middle_Mid_1 := by kernel_rfl
theorem b_middle_Mid_1 (t0 : SV) (M : Mem) : ICw ES n_middle_Mid_1 [t0] M = endS ES [.tmp 2] (evW ES n_middle_Mid_1 c_middle_Mid_1 ⟨[t0, .bad, .bad, .bad, .bad, .bad], M⟩) :=
  ICw_run rfl Try.func18 ok_middle_Mid_1 (by kernel_rfl) (by kernel_rfl) (by kernel_rfl) M
@[simp] theorem x_middle_Mid_1_ticks_Time : CX ES n_middle_Mid_1 n_ticks_Time := cx rfl

/-! drumline/ticks.Time -/
def c_ticks_Time : C :=
  (.seq (rg 1 0 [] [i' 2 (.assign (kb false))]) (.seq (rg 7 0 [] [mv 3 0, bi 4 .geq T_int64 (q 3) (ki (-1099511627776)) T_int64, mv 5 4, gd 5 true (mv 6 0), gd 5 true (bi 7 .leq T_int64 (q 6) (ki 1099511627776) T_int64), i' 8 (.pick (q 5) (q 7) (kb false)), as' 2 8]) .ret))
theorem ok_ticks_Time : Try.f19.body.map (comp ES n_ticks_Time) = some c_ticks_Time := by kernel_rfl
theorem b_ticks_Time (t0 : SV) (M : Mem) : ICw ES n_ticks_Time [t0] M = endS ES [.tmp 2] (evW ES n_ticks_Time c_ticks_Time ⟨[t0, .bad, .bad, .bad, .bad, .bad, .bad, .bad, .bad], M⟩) :=
  ICw_run rfl Try.func19 ok_ticks_Time (by kernel_rfl) (by kernel_rfl) (by kernel_rfl) M

/-! drumline/ticks.Floor -/
def c_ticks_Floor : C :=
  (.seq (rg 2 0 [] [i' 4 (.assign (ki 0)), i' 5 (.assign (kb false))]) (.seq (.seq (rg 2 0 [] [mv 7 1, bi 8 .lss T_int64 (q 7) (ki 1) T_int64]) (.cond (q 8) (.seq (rg 2 0 [] [i' 4 (.assign (ki 0)), i' 5 (.assign (kb false))]) .ret) .skip)) (.seq (rg 4 0 [] [mv 9 0, mv 10 1, bi 11 .quo T_int64 (q 9) (q 10) T_int64, as' 6 11]) (.seq (.seq (rg 4 0 [] [mv 12 0, mv 13 1, bi 14 .rem T_int64 (q 12) (q 13) T_int64, bi 15 .lss T_int64 (q 14) (ki 0) T_int64]) (.cond (q 15) (rg 3 0 [] [mv 16 6, bi 17 .sub T_int64 (q 16) (ki 1) T_int64, as' 6 17]) .skip)) (.seq (rg 3 0 [] [mv 18 6, as' 4 18, i' 5 (.assign (kb true))]) .ret)))))
theorem ok_ticks_Floor : Try.f20.body.map (comp ES n_ticks_Floor) = some c_ticks_Floor := by kernel_rfl
theorem b_ticks_Floor (t0 t1 : SV) (M : Mem) : ICw ES n_ticks_Floor [t0, t1] M = endS ES [.tmp 4, .tmp 5] (evW ES n_ticks_Floor c_ticks_Floor ⟨[t0, t1, .bad, .bad, .bad, .bad, .bad, .bad, .bad, .bad, .bad, .bad, .bad, .bad, .bad, .bad, .bad, .bad, .bad], M⟩) :=
  ICw_run rfl Try.func20 ok_ticks_Floor (by kernel_rfl) (by kernel_rfl) (by kernel_rfl) M

/-! drumline/drumlineref10.times -/
def c_r10_times_B0 : C :=
  (.seq (.seq (rg 4 0 [4, 5, 6] [mv 4 3, mv 5 0, le' 6 5 T_sl_int64, bi 7 .lss T_int (q 4) (q 6) T_int]) (.cond (q 7) .skip (.exit 0))) (.seq (.block 1 (.seq (rg 6 0 [7, 10, 11, 12, 13, 14] [mv 10 0, mv 11 3, i' 12 (.indexAddr T_sl_int64 (q 10) (q 11)), ld 13 T_int64 12, ca 14 n_r1_Time #[q 13] #[T_int64], i' 15 (.unOp .not T_bool (q 14))]) (.cond (q 15) (.seq (rg 1 0 [0, 3, 15] [i' 2 (.assign (kb false))]) .ret) .skip))) (rg 3 0 [8, 9, 15] [mv 8 3, bi 9 .add T_int (q 8) (ki 1) T_int, as' 3 9])))
def c_r10_times_L0 : C := .loop c_r10_times_B0
/-- What is live at the loop's head: t0 l, t3 i -/
abbrev h_r10_times_0 (t0 t3 : SV) : List SV := [t0, .bad, .bad, t3, .bad, .bad, .bad, .bad, .bad, .bad, .bad, .bad, .bad, .bad, .bad, .bad]
def c_r10_times : C :=
  (.seq (rg 1 0 [2] [i' 2 (.assign (kb false))]) (.seq (.seq (rg 1 0 [] [i' 3 (.assign (ki 0))]) (.block 0 c_r10_times_L0)) (.seq (rg 1 0 [0, 3, 7] [i' 2 (.assign (kb true))]) .ret)))
theorem ok_r10_times : Try.f21.body.map (comp ES n_r10_times) = some c_r10_times := by kernel_rfl
theorem b_r10_times (t0 : SV) (M : Mem) : ICw ES n_r10_times [t0] M = endS ES [.tmp 2] (evW ES n_r10_times c_r10_times ⟨[t0, .bad, .bad, .bad, .bad, .bad, .bad, .bad, .bad, .bad, .bad, .bad, .bad, .bad, .bad, .bad], M⟩) :=
  ICw_run rfl Try.func21 ok_r10_times (by kernel_rfl) (by kernel_rfl) (by kernel_rfl) M
@[simp] theorem x_r10_times_r1_Time : CX ES n_r10_times n_r1_Time := cx rfl

/-! drumline/drumlineref1.Floor -/
def c_r1_Floor : C :=
  (.seq (rg 2 0 [] [i' 4 (.assign (ki 0)), i' 5 (.assign (kb false))]) (.seq (.seq (rg 2 0 [] [mv 7 1, bi 8 .lss T_int64 (q 7) (ki 1) T_int64]) (.cond (q 8) (.seq (rg 2 0 [] [i' 4 (.assign (ki 0)), i' 5 (.assign (kb false))]) .ret) .skip)) (.seq (rg 4 0 [] [mv 9 0, mv 10 1, bi 11 .quo T_int64 (q 9) (q 10) T_int64, as' 6 11]) (.seq (.seq (rg 4 0 [] [mv 12 0, mv 13 1, bi 14 .rem T_int64 (q 12) (q 13) T_int64, bi 15 .lss T_int64 (q 14) (ki 0) T_int64]) (.cond (q 15) (rg 3 0 [] [mv 16 6, bi 17 .sub T_int64 (q 16) (ki 1) T_int64, as' 6 17]) .skip)) (.seq (rg 3 0 [] [mv 18 6, as' 4 18, i' 5 (.assign (kb true))]) .ret)))))
theorem ok_r1_Floor : Try.f22.body.map (comp ES n_r1_Floor) = some c_r1_Floor := by kernel_rfl
theorem b_r1_Floor (t0 t1 : SV) (M : Mem) : ICw ES n_r1_Floor [t0, t1] M = endS ES [.tmp 4, .tmp 5] (evW ES n_r1_Floor c_r1_Floor ⟨[t0, t1, .bad, .bad, .bad, .bad, .bad, .bad, .bad, .bad, .bad, .bad, .bad, .bad, .bad, .bad, .bad, .bad, .bad], M⟩) :=
  ICw_run rfl Try.func22 ok_r1_Floor (by kernel_rfl) (by kernel_rfl) (by kernel_rfl) M

/-! slices.IndexFunc[[]int64,int64] -/
def c_slices_IndexFunc_sl_int64_int64_B0 : C :=
  (.seq (rg 1 0 [] [bi 9 .lss T_int (q 8) (q 7) T_int]) (.seq (.cond (q 9) .skip (.exit 0)) (.seq (.block 1 (.seq (rg 2 0 [9, 10] [mv 10 8, as' 5 10]) (.seq (rg 6 6 [11, 12, 13, 14, 15] [mv 11 1, mv 12 0, mv 13 5, i' 14 (.indexAddr T_sl_int64 (q 12) (q 13)), ld 15 T_int64 14, i' 16 (.call { callee := .value (q 11), args := #[q 15], argTypes := #[T_int64] })]) (.cond (q 16) (.seq (rg 2 0 [0, 1, 5, 7, 8, 16, 17] [mv 17 5, as' 4 17]) .ret) .skip)))) (rg 2 0 [5, 16, 18] [bi 18 .add T_int (q 8) (ki 1) T_int, mv 8 18]))))
def c_slices_IndexFunc_sl_int64_int64_L0 : C := .loop c_slices_IndexFunc_sl_int64_int64_B0
/-- What is live at the loop's head: t0 s, t1 f, t7, t8 -/
abbrev h_slices_IndexFunc_sl_int64_int64_0 (t0 t1 t7 t8 : SV) : List SV := [t0, t1, .bad, .bad, .bad, .bad, .bad, t7, t8, .bad, .bad, .bad, .bad, .bad, .bad, .bad, .bad, .bad, .bad]
def c_slices_IndexFunc_sl_int64_int64 : C :=
  (.seq (rg 1 0 [4] [i' 4 (.assign (ki 0))]) (.seq (.seq (rg 3 0 [6] [mv 6 0, le' 7 6 T_sl_int64, i' 8 (.move (ki 0))]) (.block 0 c_slices_IndexFunc_sl_int64_int64_L0)) (.seq (rg 1 0 [0, 1, 7, 8, 9] [i' 4 (.assign (ki (-1)))]) .ret)))
theorem ok_slices_IndexFunc_sl_int64_int64 : Try.f25.body.map (comp ES n_slices_IndexFunc_sl_int64_int64) = some c_slices_IndexFunc_sl_int64_int64 := by kernel_rfl
theorem b_slices_IndexFunc_sl_int64_int64 (t0 t1 : SV) (M : Mem) : ICw ES n_slices_IndexFunc_sl_int64_int64 [t0, t1] M = endS ES [.tmp 4] (evW ES n_slices_IndexFunc_sl_int64_int64 c_slices_IndexFunc_sl_int64_int64 ⟨[t0, t1, .bad, .bad, .bad, .bad, .bad, .bad, .bad, .bad, .bad, .bad, .bad, .bad, .bad, .bad, .bad, .bad, .bad], M⟩) :=
  ICw_run rfl Try.func25 ok_slices_IndexFunc_sl_int64_int64 (by kernel_rfl) (by kernel_rfl) (by kernel_rfl) M

/-! drumline/drumlineref1.Time -/
def c_r1_Time : C :=
  (.seq (rg 1 0 [] [i' 2 (.assign (kb false))]) (.seq (rg 7 0 [] [mv 3 0, bi 4 .geq T_int64 (q 3) (ki (-1099511627776)) T_int64, mv 5 4, gd 5 true (mv 6 0), gd 5 true (bi 7 .leq T_int64 (q 6) (ki 1099511627776) T_int64), i' 8 (.pick (q 5) (q 7) (kb false)), as' 2 8]) .ret))
theorem ok_r1_Time : Try.f26.body.map (comp ES n_r1_Time) = some c_r1_Time := by kernel_rfl
theorem b_r1_Time (t0 : SV) (M : Mem) : ICw ES n_r1_Time [t0] M = endS ES [.tmp 2] (evW ES n_r1_Time c_r1_Time ⟨[t0, .bad, .bad, .bad, .bad, .bad, .bad, .bad, .bad], M⟩) :=
  ICw_run rfl Try.func26 ok_r1_Time (by kernel_rfl) (by kernel_rfl) (by kernel_rfl) M


end Go.Proofs.Ytedmidpnfnhnlaa
