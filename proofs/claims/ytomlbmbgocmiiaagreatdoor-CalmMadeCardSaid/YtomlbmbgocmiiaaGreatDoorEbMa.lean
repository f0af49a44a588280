/-
  The seat's functions as short code, part 0 (printed by a program of the claim's own).
-/
import Derived.Test.YtomlbmbgocmiiaaGreatDoorEa
set_option linter.unusedVariables false
set_option maxRecDepth 100000
namespace Go.Proofs.YtomlbmbgocmiiaaGreatDoor
open Go.Proofs.YtomlbmbgocmiiaaGreatDoor.Sh

/-! drumline/drumlinelaw29.CalmTells -/
def c_l29_CalmTells : C :=
  (.seq (rg 2 2 [] [i' 4 (.box T_api_Config (q 0)), i' 8 (.assign (kb false))]) (.seq (.seq (rg 14 0 [] [ca 9 n_l29_alive #[] #[], i' 10 (.unOp .not T_bool (q 9)), mv 11 10, gd 11 false (fa 12 T_api_Config 4 0), gd 11 false (ld 13 T_sl_api_Part 12), gd 11 false (le' 14 13 T_sl_api_Part), gd 11 false (bi 15 .gtr T_int (q 14) (ki 20) T_int), i' 16 (.pick (q 11) (kb true) (q 15)), mv 17 16, gd 17 false (fa 18 T_api_Config 4 1), gd 17 false (ld 19 T_sl_api_Link 18), gd 17 false (le' 20 19 T_sl_api_Link), gd 17 false (bi 21 .gtr T_int (q 20) (ki 30) T_int), i' 22 (.pick (q 17) (kb true) (q 21))]) (.cond (q 22) (.seq (rg 2 0 [] [ca 23 n_l29_alive #[] #[], as' 8 23]) .ret) .skip)) (.seq (rg 49 0 [] [ld 24 T_api_Config 4, ca 25 n_calm_Hop #[q 24] #[T_api_Config], ld 26 T_api_Config 4, ca 27 n_r26_Hop #[q 26] #[T_api_Config], bi 28 .eql T_int (q 25) (q 27) T_int, mv 29 28, gd 29 true (ld 30 T_api_Config 4), gd 29 true (ca 31 n_calm_Wave #[q 30] #[T_api_Config]), gd 29 true (ld 32 T_api_Config 4), gd 29 true (ca 33 n_r26_Wave #[q 32] #[T_api_Config]), gd 29 true (bi 34 .eql T_int (q 31) (q 33) T_int), i' 35 (.pick (q 29) (q 34) (kb false)), mv 36 35, gd 36 true (ld 37 T_api_Config 4), gd 36 true (ca 38 n_calm_Settle #[q 37] #[T_api_Config]), gd 36 true (ld 39 T_api_Config 4), gd 36 true (ca 40 n_r26_Settle #[q 39] #[T_api_Config]), gd 36 true (bi 41 .eql T_int (q 38) (q 40) T_int), i' 42 (.pick (q 36) (q 41) (kb false)), mv 43 42, gd 43 true (ld 44 T_api_Config 4), gd 43 true (mv 45 1), gd 43 true (ca 46 n_calm_Cold #[q 44, q 45] #[T_api_Config, T_int]), gd 43 true (ld 47 T_api_Config 4), gd 43 true (mv 48 1), gd 43 true (ca 49 n_r26_Cold #[q 47, q 48] #[T_api_Config, T_int]), gd 43 true (bi 50 .eql T_int (q 46) (q 49) T_int), i' 51 (.pick (q 43) (q 50) (kb false)), mv 52 51, gd 52 true (ld 53 T_api_Config 4), gd 52 true (mv 54 1), gd 52 true (mv 55 2), gd 52 true (ca 56 n_calm_Deliver #[q 53, q 54, q 55] #[T_api_Config, T_int, T_int]), gd 52 true (ld 57 T_api_Config 4), gd 52 true (mv 58 1), gd 52 true (mv 59 2), gd 52 true (ca 60 n_r26_Deliver #[q 57, q 58, q 59] #[T_api_Config, T_int, T_int]), gd 52 true (bi 61 .eql T_int (q 56) (q 60) T_int), i' 62 (.pick (q 52) (q 61) (kb false)), mv 63 62, gd 63 true (ld 64 T_api_Config 4), gd 63 true (mv 65 3), gd 63 true (ca 66 n_calm_Envelope #[q 64, q 65] #[T_api_Config, T_int]), gd 63 true (ld 67 T_api_Config 4), gd 63 true (mv 68 3), gd 63 true (ca 69 n_r26_Envelope #[q 67, q 68] #[T_api_Config, T_int]), gd 63 true (bi 70 .eql T_int64 (q 66) (q 69) T_int64), i' 71 (.pick (q 63) (q 70) (kb false)), as' 8 71]) .ret)))
theorem ok_l29_CalmTells : Tryz.f6.body.map (comp ES n_l29_CalmTells) = some c_l29_CalmTells := by kernel_rfl
theorem b_l29_CalmTells (t0 t1 t2 t3 : SV) (M : Mem) : ICw ES n_l29_CalmTells [t0, t1, t2, t3] M = endS ES [.tmp 8] (evW ES n_l29_CalmTells c_l29_CalmTells ⟨[t0, t1, t2, t3, .bad, .bad, .bad, .bad, .bad, .bad, .bad, .bad, .bad, .bad, .bad, .bad, .bad, .bad, .bad, .bad, .bad, .bad, .bad, .bad, .bad, .bad, .bad, .bad, .bad, .bad, .bad, .bad, .bad, .bad, .bad, .bad, .bad, .bad, .bad, .bad, .bad, .bad, .bad, .bad, .bad, .bad, .bad, .bad, .bad, .bad, .bad, .bad, .bad, .bad, .bad, .bad, .bad, .bad, .bad, .bad, .bad, .bad, .bad, .bad, .bad, .bad, .bad, .bad, .bad, .bad, .bad, .bad], M⟩) :=
  ICw_run rfl Tryz.func6 ok_l29_CalmTells (by kernel_rfl) (by kernel_rfl) (by kernel_rfl) M
@[simp] theorem x_l29_CalmTells_l29_alive : CX ES n_l29_CalmTells n_l29_alive := cx rfl
@[simp] theorem x_l29_CalmTells_calm_Hop : CX ES n_l29_CalmTells n_calm_Hop := cx rfl
@[simp] theorem x_l29_CalmTells_r26_Hop : CX ES n_l29_CalmTells n_r26_Hop := cx rfl
@[simp] theorem x_l29_CalmTells_calm_Wave : CX ES n_l29_CalmTells n_calm_Wave := cx rfl
@[simp] theorem x_l29_CalmTells_r26_Wave : CX ES n_l29_CalmTells n_r26_Wave := cx rfl
@[simp] theorem x_l29_CalmTells_calm_Settle : CX ES n_l29_CalmTells n_calm_Settle := cx rfl
@[simp] theorem x_l29_CalmTells_r26_Settle : CX ES n_l29_CalmTells n_r26_Settle := cx rfl
@[simp] theorem x_l29_CalmTells_calm_Cold : CX ES n_l29_CalmTells n_calm_Cold := cx rfl
@[simp] theorem x_l29_CalmTells_r26_Cold : CX ES n_l29_CalmTells n_r26_Cold := cx rfl
@[simp] theorem x_l29_CalmTells_calm_Deliver : CX ES n_l29_CalmTells n_calm_Deliver := cx rfl
@[simp] theorem x_l29_CalmTells_r26_Deliver : CX ES n_l29_CalmTells n_r26_Deliver := cx rfl
@[simp] theorem x_l29_CalmTells_calm_Envelope : CX ES n_l29_CalmTells n_calm_Envelope := cx rfl
@[simp] theorem x_l29_CalmTells_r26_Envelope : CX ES n_l29_CalmTells n_r26_Envelope := cx rfl

/-! drumline/drumlinelaw29.CalmMade -/
def c_l29_CalmMade : C :=
  (.seq (rg 1 0 [] [i' 8 (.assign (kb false))]) (.seq (.seq (rg 2 0 [] [ca 10 n_l29_alive #[] #[], i' 11 (.unOp .not T_bool (q 10))]) (.cond (q 11) (.seq (rg 1 0 [] [i' 8 (.assign (kb false))]) .ret) .skip)) (.seq (rg 4 4 [] [mv 12 0, ca 13 n_r26_Made #[q 12] #[T_int], i' 9 (.alloc T_api_Config), ⟨none, .store T_api_Config (q 9) (q 13), none, none⟩]) (.seq (rg 49 0 [] [ld 14 T_api_Config 9, ca 15 n_calm_Hop #[q 14] #[T_api_Config], ld 16 T_api_Config 9, ca 17 n_r26_Hop #[q 16] #[T_api_Config], bi 18 .eql T_int (q 15) (q 17) T_int, mv 19 18, gd 19 true (ld 20 T_api_Config 9), gd 19 true (ca 21 n_calm_Wave #[q 20] #[T_api_Config]), gd 19 true (ld 22 T_api_Config 9), gd 19 true (ca 23 n_r26_Wave #[q 22] #[T_api_Config]), gd 19 true (bi 24 .eql T_int (q 21) (q 23) T_int), i' 25 (.pick (q 19) (q 24) (kb false)), mv 26 25, gd 26 true (ld 27 T_api_Config 9), gd 26 true (ca 28 n_calm_Settle #[q 27] #[T_api_Config]), gd 26 true (ld 29 T_api_Config 9), gd 26 true (ca 30 n_r26_Settle #[q 29] #[T_api_Config]), gd 26 true (bi 31 .eql T_int (q 28) (q 30) T_int), i' 32 (.pick (q 26) (q 31) (kb false)), mv 33 32, gd 33 true (ld 34 T_api_Config 9), gd 33 true (mv 35 1), gd 33 true (ca 36 n_calm_Cold #[q 34, q 35] #[T_api_Config, T_int]), gd 33 true (ld 37 T_api_Config 9), gd 33 true (mv 38 1), gd 33 true (ca 39 n_r26_Cold #[q 37, q 38] #[T_api_Config, T_int]), gd 33 true (bi 40 .eql T_int (q 36) (q 39) T_int), i' 41 (.pick (q 33) (q 40) (kb false)), mv 42 41, gd 42 true (ld 43 T_api_Config 9), gd 42 true (mv 44 1), gd 42 true (mv 45 2), gd 42 true (ca 46 n_calm_Deliver #[q 43, q 44, q 45] #[T_api_Config, T_int, T_int]), gd 42 true (ld 47 T_api_Config 9), gd 42 true (mv 48 1), gd 42 true (mv 49 2), gd 42 true (ca 50 n_r26_Deliver #[q 47, q 48, q 49] #[T_api_Config, T_int, T_int]), gd 42 true (bi 51 .eql T_int (q 46) (q 50) T_int), i' 52 (.pick (q 42) (q 51) (kb false)), mv 53 52, gd 53 true (ld 54 T_api_Config 9), gd 53 true (mv 55 3), gd 53 true (ca 56 n_calm_Envelope #[q 54, q 55] #[T_api_Config, T_int]), gd 53 true (ld 57 T_api_Config 9), gd 53 true (mv 58 3), gd 53 true (ca 59 n_r26_Envelope #[q 57, q 58] #[T_api_Config, T_int]), gd 53 true (bi 60 .eql T_int64 (q 56) (q 59) T_int64), i' 61 (.pick (q 53) (q 60) (kb false)), as' 8 61]) .ret))))
theorem ok_l29_CalmMade : Tryz.f7.body.map (comp ES n_l29_CalmMade) = some c_l29_CalmMade := by kernel_rfl
theorem b_l29_CalmMade (t0 t1 t2 t3 : SV) (M : Mem) : ICw ES n_l29_CalmMade [t0, t1, t2, t3] M = endS ES [.tmp 8] (evW ES n_l29_CalmMade c_l29_CalmMade ⟨[t0, t1, t2, t3, .bad, .bad, .bad, .bad, .bad, .bad, .bad, .bad, .bad, .bad, .bad, .bad, .bad, .bad, .bad, .bad, .bad, .bad, .bad, .bad, .bad, .bad, .bad, .bad, .bad, .bad, .bad, .bad, .bad, .bad, .bad, .bad, .bad, .bad, .bad, .bad, .bad, .bad, .bad, .bad, .bad, .bad, .bad, .bad, .bad, .bad, .bad, .bad, .bad, .bad, .bad, .bad, .bad, .bad, .bad, .bad, .bad, .bad], M⟩) :=
  ICw_run rfl Tryz.func7 ok_l29_CalmMade (by kernel_rfl) (by kernel_rfl) (by kernel_rfl) M
@[simp] theorem x_l29_CalmMade_r26_Made : CX ES n_l29_CalmMade n_r26_Made := cx rfl
@[simp] theorem x_l29_CalmMade_l29_alive : CX ES n_l29_CalmMade n_l29_alive := cx rfl
@[simp] theorem x_l29_CalmMade_calm_Hop : CX ES n_l29_CalmMade n_calm_Hop := cx rfl
@[simp] theorem x_l29_CalmMade_r26_Hop : CX ES n_l29_CalmMade n_r26_Hop := cx rfl
@[simp] theorem x_l29_CalmMade_calm_Wave : CX ES n_l29_CalmMade n_calm_Wave := cx rfl
@[simp] theorem x_l29_CalmMade_r26_Wave : CX ES n_l29_CalmMade n_r26_Wave := cx rfl
@[simp] theorem x_l29_CalmMade_calm_Settle : CX ES n_l29_CalmMade n_calm_Settle := cx rfl
@[simp] theorem x_l29_CalmMade_r26_Settle : CX ES n_l29_CalmMade n_r26_Settle := cx rfl
@[simp] theorem x_l29_CalmMade_calm_Cold : CX ES n_l29_CalmMade n_calm_Cold := cx rfl
@[simp] theorem x_l29_CalmMade_r26_Cold : CX ES n_l29_CalmMade n_r26_Cold := cx rfl
@[simp] theorem x_l29_CalmMade_calm_Deliver : CX ES n_l29_CalmMade n_calm_Deliver := cx rfl
@[simp] theorem x_l29_CalmMade_r26_Deliver : CX ES n_l29_CalmMade n_r26_Deliver := cx rfl
@[simp] theorem x_l29_CalmMade_calm_Envelope : CX ES n_l29_CalmMade n_calm_Envelope := cx rfl
@[simp] theorem x_l29_CalmMade_r26_Envelope : CX ES n_l29_CalmMade n_r26_Envelope := cx rfl

/-! drumline/drumlinelaw29.CalmOrder -/
def c_l29_CalmOrder : C :=
  (.seq (rg 1 0 [] [i' 6 (.assign (kb false))]) (.seq (.seq (rg 2 0 [] [ca 10 n_l29_alive #[] #[], i' 11 (.unOp .not T_bool (q 10))]) (.cond (q 11) (.seq (rg 1 0 [] [i' 6 (.assign (kb false))]) .ret) .skip)) (.seq (rg 4 4 [] [mv 12 0, ca 13 n_r26_Made #[q 12] #[T_int], i' 7 (.alloc T_api_Config), ⟨none, .store T_api_Config (q 7) (q 13), none, none⟩]) (.seq (rg 7 0 [] [mv 14 1, i' 15 (.convert T_uint8 T_int (q 14)), fa 16 T_api_Config 7 0, ld 17 T_sl_api_Part 16, le' 18 17 T_sl_api_Part, bi 19 .rem T_int (q 15) (q 18) T_int, as' 8 19]) (.seq (rg 6 0 [] [mv 20 2, i' 21 (.convert T_uint8 T_int (q 20)), fa 22 T_api_Config 7 8, ld 23 T_int 22, bi 24 .rem T_int (q 21) (q 23) T_int, as' 9 24]) (.seq (.seq (rg 15 0 [] [mv 25 8, bi 26 .gtr T_int (q 25) (ki 0) T_int, mv 27 26, gd 27 true (ld 28 T_api_Config 7), gd 27 true (mv 29 8), gd 27 true (bi 30 .sub T_int (q 29) (ki 1) T_int), gd 27 true (ca 31 n_calm_Cold #[q 28, q 30] #[T_api_Config, T_int]), gd 27 true (ld 32 T_api_Config 7), gd 27 true (ca 33 n_calm_Wave #[q 32] #[T_api_Config]), gd 27 true (bi 34 .add T_int (q 31) (q 33) T_int), gd 27 true (ld 35 T_api_Config 7), gd 27 true (mv 36 8), gd 27 true (ca 37 n_calm_Cold #[q 35, q 36] #[T_api_Config, T_int]), gd 27 true (bi 38 .geq T_int (q 34) (q 37) T_int), i' 39 (.pick (q 27) (q 38) (kb false))]) (.cond (q 39) (.seq (rg 1 0 [] [i' 6 (.assign (kb false))]) .ret) .skip)) (.seq (rg 38 0 [] [ld 40 T_api_Config 7, ca 41 n_calm_Wave #[q 40] #[T_api_Config], fa 42 T_api_Config 7 10, ld 43 T_int 42, bi 44 .lss T_int (q 41) (q 43) T_int, mv 45 44, gd 45 true (ld 46 T_api_Config 7), gd 45 true (mv 47 8), gd 45 true (ca 48 n_calm_Deliver #[q 46, (ki 0), q 47] #[T_api_Config, T_int, T_int]), gd 45 true (ld 49 T_api_Config 7), gd 45 true (ca 50 n_calm_Wave #[q 49] #[T_api_Config]), gd 45 true (bi 51 .lss T_int (q 48) (q 50) T_int), i' 52 (.pick (q 45) (q 51) (kb false)), mv 53 52, gd 53 true (ld 54 T_api_Config 7), gd 53 true (mv 55 9), gd 53 true (ca 56 n_calm_Envelope #[q 54, q 55] #[T_api_Config, T_int]), gd 53 true (ld 57 T_api_Config 7), gd 53 true (mv 58 9), gd 53 true (bi 59 .add T_int (q 58) (ki 1) T_int), gd 53 true (ca 60 n_calm_Envelope #[q 57, q 59] #[T_api_Config, T_int]), gd 53 true (bi 61 .lss T_int64 (q 56) (q 60) T_int64), i' 62 (.pick (q 53) (q 61) (kb false)), mv 63 62, gd 63 true (ld 64 T_api_Config 7), gd 63 true (ca 65 n_calm_Envelope #[q 64, (ki 0)] #[T_api_Config, T_int]), gd 63 true (bi 66 .gtr T_int64 (q 65) (ki 0) T_int64), i' 67 (.pick (q 63) (q 66) (kb false)), mv 68 67, gd 68 true (ld 69 T_api_Config 7), gd 68 true (ca 70 n_calm_Settle #[q 69] #[T_api_Config]), gd 68 true (ld 71 T_api_Config 7), gd 68 true (ca 72 n_calm_Wave #[q 71] #[T_api_Config]), gd 68 true (bi 73 .mul T_int (ki 2) (q 72) T_int), gd 68 true (bi 74 .add T_int (q 73) (ki 1) T_int), gd 68 true (bi 75 .eql T_int (q 70) (q 74) T_int), i' 76 (.pick (q 68) (q 75) (kb false)), as' 6 76]) .ret)))))))
theorem ok_l29_CalmOrder : Tryz.f8.body.map (comp ES n_l29_CalmOrder) = some c_l29_CalmOrder := by kernel_rfl
theorem b_l29_CalmOrder (t0 t1 t2 : SV) (M : Mem) : ICw ES n_l29_CalmOrder [t0, t1, t2] M = endS ES [.tmp 6] (evW ES n_l29_CalmOrder c_l29_CalmOrder ⟨[t0, t1, t2, .bad, .bad, .bad, .bad, .bad, .bad, .bad, .bad, .bad, .bad, .bad, .bad, .bad, .bad, .bad, .bad, .bad, .bad, .bad, .bad, .bad, .bad, .bad, .bad, .bad, .bad, .bad, .bad, .bad, .bad, .bad, .bad, .bad, .bad, .bad, .bad, .bad, .bad, .bad, .bad, .bad, .bad, .bad, .bad, .bad, .bad, .bad, .bad, .bad, .bad, .bad, .bad, .bad, .bad, .bad, .bad, .bad, .bad, .bad, .bad, .bad, .bad, .bad, .bad, .bad, .bad, .bad, .bad, .bad, .bad, .bad, .bad, .bad, .bad], M⟩) :=
  ICw_run rfl Tryz.func8 ok_l29_CalmOrder (by kernel_rfl) (by kernel_rfl) (by kernel_rfl) M
@[simp] theorem x_l29_CalmOrder_r26_Made : CX ES n_l29_CalmOrder n_r26_Made := cx rfl
@[simp] theorem x_l29_CalmOrder_l29_alive : CX ES n_l29_CalmOrder n_l29_alive := cx rfl
@[simp] theorem x_l29_CalmOrder_calm_Wave : CX ES n_l29_CalmOrder n_calm_Wave := cx rfl
@[simp] theorem x_l29_CalmOrder_calm_Settle : CX ES n_l29_CalmOrder n_calm_Settle := cx rfl
@[simp] theorem x_l29_CalmOrder_calm_Cold : CX ES n_l29_CalmOrder n_calm_Cold := cx rfl
@[simp] theorem x_l29_CalmOrder_calm_Deliver : CX ES n_l29_CalmOrder n_calm_Deliver := cx rfl
@[simp] theorem x_l29_CalmOrder_calm_Envelope : CX ES n_l29_CalmOrder n_calm_Envelope := cx rfl

/-! drumline/drumlineref26.Made -/
def c_r26_Made_B0 : C :=
  (.seq (.seq (rg 3 0 [31, 32] [mv 31 6, mv 32 3, bi 33 .lss T_int (q 31) (q 32) T_int]) (.cond (q 33) .skip (.exit 0))) (.seq (.block 1 (rg 7 7 [33, 36, 37, 38, 39, 40, 41] [fa 36 T_api_Config 5 0, ld 37 T_sl_api_Part 36, i' 38 (.build T_api_Part #[(0, (ki 5)), (1, (ki 1))]), i' 39 (.buildSlice T_sl_api_Part 1 #[(0, q 38)]), i' 40 (.call { callee := .builtin .append, args := #[q 37, q 39], argTypes := #[T_sl_api_Part, T_sl_api_Part] }), fa 41 T_api_Config 5 0, ⟨none, .store T_sl_api_Part (q 41) (q 40), none, none⟩])) (rg 3 0 [34, 35] [mv 34 6, bi 35 .add T_int (q 34) (ki 1) T_int, as' 6 35])))
def c_r26_Made_L0 : C := .loop c_r26_Made_B0
/-- What is live at the loop's head: t0 n, t2, t3 parts, t4 shape, t5 c, t6 i -/
abbrev h_r26_Made_0 (t0 t2 t3 t4 t5 t6 : SV) : List SV := [t0, .bad, t2, t3, t4, t5, t6, .bad, .bad, .bad, .bad, .bad, .bad, .bad, .bad, .bad, .bad, .bad, .bad, .bad, .bad, .bad, .bad, .bad, .bad, .bad, .bad, .bad, .bad, .bad, .bad, .bad, .bad, .bad, .bad, .bad, .bad, .bad, .bad, .bad, .bad, .bad, .bad, .bad, .bad, .bad, .bad, .bad, .bad, .bad, .bad, .bad, .bad, .bad, .bad, .bad, .bad, .bad, .bad, .bad, .bad, .bad, .bad, .bad, .bad, .bad, .bad, .bad, .bad, .bad, .bad, .bad, .bad, .bad, .bad, .bad, .bad, .bad, .bad, .bad, .bad, .bad, .bad, .bad, .bad, .bad, .bad, .bad, .bad, .bad, .bad, .bad, .bad, .bad, .bad, .bad, .bad, .bad, .bad, .bad, .bad, .bad, .bad, .bad]
def c_r26_Made_B1 : C :=
  (.seq (.seq (rg 3 0 [42, 43] [mv 42 7, mv 43 3, bi 44 .lss T_int (q 42) (q 43) T_int]) (.cond (q 44) .skip (.exit 2))) (.seq (.block 3 (.seq (rg 3 0 [44, 47, 48] [mv 47 7, bi 48 .sub T_int (q 47) (ki 1) T_int, as' 8 48]) (.seq (.seq (rg 2 0 [49] [mv 49 4, bi 50 .eql T_int (q 49) (ki 2) T_int]) (.cond (q 50) (rg 1 0 [50] [i' 8 (.assign (ki 0))]) .skip)) (.seq (.chk ⟨9, 9, [], [li [] (fa 51 T_api_Config 5 1), li [0] (ld 52 T_sl_api_Link 51), li [] (mv 53 8), li [] (mv 54 7), li [2, 3] (ca 55 n_r26_joined #[q 5, q 53, q 54] #[T_p_api_Config, T_int, T_int])]⟩ T_sl_api_Link (q 51) 52) (rg 9 9 [8, 50, 51, 52, 53, 54, 55, 56, 57, 58] [li [] (fa 51 T_api_Config 5 1), li [0] (ld 52 T_sl_api_Link 51), li [] (mv 53 8), li [] (mv 54 7), li [2, 3] (ca 55 n_r26_joined #[q 5, q 53, q 54] #[T_p_api_Config, T_int, T_int]), li [2, 3, 4] (i' 56 (.buildSlice T_sl_api_Link 1 #[(0, q 55)])), li [0, 1, 2, 3, 4, 5] (i' 57 (.call { callee := .builtin .append, args := #[q 52, q 56], argTypes := #[T_sl_api_Link, T_sl_api_Link] })), li [0, 1, 2, 3, 4, 5, 6] (fa 58 T_api_Config 5 1), ⟨none, .store T_sl_api_Link (q 58) (q 57), none, some [0, 1, 2, 3, 4, 5, 6, 7]⟩]))))) (rg 3 0 [45, 46] [mv 45 7, bi 46 .add T_int (q 45) (ki 1) T_int, as' 7 46])))
def c_r26_Made_L1 : C := .loop c_r26_Made_B1
/-- What is live at the loop's head: t0 n, t2, t3 parts, t4 shape, t5 c, t7 i -/
abbrev h_r26_Made_1 (t0 t2 t3 t4 t5 t7 : SV) : List SV := [t0, .bad, t2, t3, t4, t5, .bad, t7, .bad, .bad, .bad, .bad, .bad, .bad, .bad, .bad, .bad, .bad, .bad, .bad, .bad, .bad, .bad, .bad, .bad, .bad, .bad, .bad, .bad, .bad, .bad, .bad, .bad, .bad, .bad, .bad, .bad, .bad, .bad, .bad, .bad, .bad, .bad, .bad, .bad, .bad, .bad, .bad, .bad, .bad, .bad, .bad, .bad, .bad, .bad, .bad, .bad, .bad, .bad, .bad, .bad, .bad, .bad, .bad, .bad, .bad, .bad, .bad, .bad, .bad, .bad, .bad, .bad, .bad, .bad, .bad, .bad, .bad, .bad, .bad, .bad, .bad, .bad, .bad, .bad, .bad, .bad, .bad, .bad, .bad, .bad, .bad, .bad, .bad, .bad, .bad, .bad, .bad, .bad, .bad, .bad, .bad, .bad, .bad]
def c_r26_Made : C :=
  (.seq (rg 1 1 [] [i' 2 (.alloc T_api_Config)]) (.seq (rg 3 0 [10, 11] [mv 10 0, bi 11 .and T_int (q 10) (ki 65535) T_int, as' 0 11]) (.seq (rg 4 0 [12, 13, 14] [mv 12 0, bi 13 .and T_int (q 12) (ki 3) T_int, bi 14 .add T_int (ki 1) (q 13) T_int, as' 3 14]) (.seq (rg 4 0 [15, 16, 17] [mv 15 0, bi 16 .shr T_int (q 15) (.const (.int .u64 2)) T_uint, bi 17 .and T_int (q 16) (ki 3) T_int, as' 4 17]) (.seq (rg 15 15 [18, 19, 20, 21, 22, 23, 24, 25, 26, 27, 28, 29, 30] [mv 18 0, bi 19 .shr T_int (q 18) (.const (.int .u64 4)) T_uint, bi 20 .and T_int (q 19) (ki 7) T_int, bi 21 .mul T_int (ki 1000) (q 20) T_int, bi 22 .add T_int (ki 20000) (q 21) T_int, mv 23 0, bi 24 .shr T_int (q 23) (.const (.int .u64 7)) T_uint, bi 25 .and T_int (q 24) (ki 7) T_int, bi 26 .mul T_int (ki 20) (q 25) T_int, mv 27 0, bi 28 .shr T_int (q 27) (.const (.int .u64 10)) T_uint, bi 29 .and T_int (q 28) (ki 1) T_int, i' 30 (.build T_api_Config #[(2, q 22), (3, (ki 60)), (4, (ki 100)), (6, q 26), (7, (ki 300000)), (9, q 29), (12, (ki 12))]), i' 5 (.alloc T_api_Config), ⟨none, .store T_api_Config (q 5) (q 30), none, none⟩]) (.seq (.seq (rg 1 0 [] [i' 6 (.assign (ki 0))]) (.block 0 c_r26_Made_L0)) (.seq (.seq (rg 1 0 [6, 33] [i' 7 (.assign (ki 1))]) (.block 2 c_r26_Made_L1)) (.seq (.seq (rg 6 0 [4, 7, 44, 59, 60, 61, 62, 63] [mv 59 4, bi 60 .eql T_int (q 59) (ki 1) T_int, mv 61 60, gd 61 true (mv 62 3), gd 61 true (bi 63 .gtr T_int (q 62) (ki 2) T_int), i' 64 (.pick (q 61) (q 63) (kb false))]) (.cond (q 64) (.seq (.chk ⟨9, 9, [], [li [] (fa 65 T_api_Config 5 1), li [0] (ld 66 T_sl_api_Link 65), li [] (mv 67 3), li [2] (bi 68 .sub T_int (q 67) (ki 1) T_int), li [2, 3] (ca 69 n_r26_joined #[q 5, (ki 0), q 68] #[T_p_api_Config, T_int, T_int])]⟩ T_sl_api_Link (q 65) 66) (rg 9 9 [64, 65, 66, 67, 68, 69, 70, 71, 72] [li [] (fa 65 T_api_Config 5 1), li [0] (ld 66 T_sl_api_Link 65), li [] (mv 67 3), li [2] (bi 68 .sub T_int (q 67) (ki 1) T_int), li [2, 3] (ca 69 n_r26_joined #[q 5, (ki 0), q 68] #[T_p_api_Config, T_int, T_int]), li [2, 3, 4] (i' 70 (.buildSlice T_sl_api_Link 1 #[(0, q 69)])), li [0, 1, 2, 3, 4, 5] (i' 71 (.call { callee := .builtin .append, args := #[q 66, q 70], argTypes := #[T_sl_api_Link, T_sl_api_Link] })), li [0, 1, 2, 3, 4, 5, 6] (fa 72 T_api_Config 5 1), ⟨none, .store T_sl_api_Link (q 72) (q 71), none, some [0, 1, 2, 3, 4, 5, 6, 7]⟩])) .skip)) (.seq (rg 7 0 [64, 73, 74, 75, 76, 77, 78] [mv 73 3, fa 74 T_api_Config 5 9, ld 75 T_int 74, bi 76 .add T_int (q 75) (ki 1) T_int, bi 77 .mul T_int (q 73) (q 76) T_int, bi 78 .add T_int (q 77) (ki 2) T_int, as' 9 78]) (.seq (rg 13 0 [3, 79, 80, 81, 82, 83, 84, 85, 86, 87, 88, 89, 90] [mv 79 3, bi 80 .sub T_int (q 79) (ki 1) T_int, fa 81 T_api_Config 5 9, ld 82 T_int 81, bi 83 .add T_int (q 82) (ki 1) T_int, bi 84 .mul T_int (q 80) (q 83) T_int, bi 85 .add T_int (q 84) (ki 1) T_int, mv 86 0, bi 87 .shr T_int (q 86) (.const (.int .u64 11)) T_uint, bi 88 .and T_int (q 87) (ki 3) T_int, bi 89 .add T_int (q 85) (q 88) T_int, fa 90 T_api_Config 5 8, ⟨none, .store T_int (q 90) (q 89), none, none⟩]) (.seq (rg 7 0 [0, 91, 92, 93, 94, 95, 96] [mv 91 9, mv 92 0, bi 93 .shr T_int (q 92) (.const (.int .u64 13)) T_uint, bi 94 .and T_int (q 93) (ki 1) T_int, bi 95 .add T_int (q 91) (q 94) T_int, fa 96 T_api_Config 5 10, ⟨none, .store T_int (q 96) (q 95), none, none⟩]) (.seq (rg 3 0 [9, 97, 98] [mv 97 9, fa 98 T_api_Config 5 11, ⟨none, .store T_int (q 98) (q 97), none, none⟩]) (.seq (rg 5 0 [99, 100, 101, 102] [ld 99 T_api_Config 5, ca 100 n_r5_Edge #[q 99] #[T_api_Config], bi 101 .mul T_int (ki 3) (q 100) T_int, fa 102 T_api_Config 5 5, ⟨none, .store T_int (q 102) (q 101), none, none⟩]) (.seq (rg 2 0 [5, 103] [ld 103 T_api_Config 5, ⟨none, .store T_api_Config (q 2) (q 103), none, none⟩]) .ret))))))))))))))
theorem ok_r26_Made : Tryz.f20.body.map (comp ES n_r26_Made) = some c_r26_Made := by kernel_rfl
theorem b_r26_Made (t0 : SV) (M : Mem) : ICw ES n_r26_Made [t0] M = endS ES [.cell 2 T_api_Config] (evW ES n_r26_Made c_r26_Made ⟨[t0, .bad, .bad, .bad, .bad, .bad, .bad, .bad, .bad, .bad, .bad, .bad, .bad, .bad, .bad, .bad, .bad, .bad, .bad, .bad, .bad, .bad, .bad, .bad, .bad, .bad, .bad, .bad, .bad, .bad, .bad, .bad, .bad, .bad, .bad, .bad, .bad, .bad, .bad, .bad, .bad, .bad, .bad, .bad, .bad, .bad, .bad, .bad, .bad, .bad, .bad, .bad, .bad, .bad, .bad, .bad, .bad, .bad, .bad, .bad, .bad, .bad, .bad, .bad, .bad, .bad, .bad, .bad, .bad, .bad, .bad, .bad, .bad, .bad, .bad, .bad, .bad, .bad, .bad, .bad, .bad, .bad, .bad, .bad, .bad, .bad, .bad, .bad, .bad, .bad, .bad, .bad, .bad, .bad, .bad, .bad, .bad, .bad, .bad, .bad, .bad, .bad, .bad, .bad], M⟩) :=
  ICw_run rfl Tryz.func20 ok_r26_Made (by kernel_rfl) (by kernel_rfl) (by kernel_rfl) M
@[simp] theorem x_r26_Made_r26_joined : CI ES n_r26_Made n_r26_joined := ci rfl
@[simp] theorem x_r26_Made_r5_Edge : CX ES n_r26_Made n_r5_Edge := cx rfl

/-! drumline/drumlineref5.Ports -/
def c_r5_Ports_B0 : C :=
  (.seq (.seq (rg 8 0 [13, 14, 15, 16, 17, 18, 19] [mv 13 6, fa 14 T_api_Config 2 0, ld 15 T_sl_api_Part 14, mv 16 1, i' 17 (.indexAddr T_sl_api_Part (q 15) (q 16)), fa 18 T_api_Part 17 0, ld 19 T_int 18, bi 20 .lss T_int (q 13) (q 19) T_int]) (.cond (q 20) .skip (.exit 0))) (.seq (.block 1 (.seq (rg 13 13 [20, 23, 24, 25, 26, 27, 28, 29, 30, 31, 32] [ld 24 T_api_Config 2, fa 25 T_api_Config 2 1, ld 26 T_sl_api_Link 25, le' 27 26 T_sl_api_Link, mv 28 1, mv 29 6, ca 30 n_r5_port #[q 24, q 27, q 28, q 29] #[T_api_Config, T_int, T_int, T_int], mv 23 30, xt 31 23 0, xt 32 23 1, i' 7 (.alloc T_api_Port), ⟨none, .store T_api_Port (q 7) (q 31), none, none⟩, as' 8 32]) (.seq (rg 1 0 [8] [mv 33 8]) (.cond (q 33) (rg 5 5 [7, 33, 34, 35, 36, 37] [mv 34 5, ld 35 T_api_Port 7, i' 36 (.buildSlice T_sl_api_Port 1 #[(0, q 35)]), i' 37 (.call { callee := .builtin .append, args := #[q 34, q 36], argTypes := #[T_sl_api_Port, T_sl_api_Port] }), as' 5 37]) .skip)))) (rg 3 0 [7, 21, 22, 33] [mv 21 6, bi 22 .add T_int (q 21) (ki 1) T_int, as' 6 22])))
def c_r5_Ports_L0 : C := .loop c_r5_Ports_B0
/-- What is live at the loop's head: t1 part, t2 c, t5 out, t6 i -/
abbrev h_r5_Ports_0 (t1 t2 t5 t6 : SV) : List SV := [.bad, t1, t2, .bad, .bad, t5, t6, .bad, .bad, .bad, .bad, .bad, .bad, .bad, .bad, .bad, .bad, .bad, .bad, .bad, .bad, .bad, .bad, .bad, .bad, .bad, .bad, .bad, .bad, .bad, .bad, .bad, .bad, .bad, .bad, .bad, .bad, .bad, .bad]
def c_r5_Ports : C :=
  (.seq (rg 2 2 [0, 4] [i' 2 (.box T_api_Config (q 0)), i' 4 (.assign (.const (.slice none 0 0)))]) (.seq (rg 1 0 [] [i' 5 (.assign (.const (.slice none 0 0)))]) (.seq (.seq (rg 4 0 [9, 10, 11] [ld 9 T_api_Config 2, mv 10 1, ca 11 n_r5_Good #[q 9, q 10] #[T_api_Config, T_int], i' 12 (.unOp .not T_bool (q 11))]) (.cond (q 12) (.seq (rg 1 0 [1, 2, 5, 12] [i' 4 (.assign (.const (.slice none 0 0)))]) .ret) .skip)) (.seq (.seq (rg 1 0 [12] [i' 6 (.assign (ki 0))]) (.block 0 c_r5_Ports_L0)) (.seq (rg 2 0 [1, 2, 5, 6, 20, 38] [mv 38 5, as' 4 38]) .ret)))))
theorem ok_r5_Ports : Tryz.f22.body.map (comp ES n_r5_Ports) = some c_r5_Ports := by kernel_rfl
theorem b_r5_Ports (t0 t1 : SV) (M : Mem) : ICw ES n_r5_Ports [t0, t1] M = endS ES [.tmp 4] (evW ES n_r5_Ports c_r5_Ports ⟨[t0, t1, .bad, .bad, .bad, .bad, .bad, .bad, .bad, .bad, .bad, .bad, .bad, .bad, .bad, .bad, .bad, .bad, .bad, .bad, .bad, .bad, .bad, .bad, .bad, .bad, .bad, .bad, .bad, .bad, .bad, .bad, .bad, .bad, .bad, .bad, .bad, .bad, .bad], M⟩) :=
  ICw_run rfl Tryz.func22 ok_r5_Ports (by kernel_rfl) (by kernel_rfl) (by kernel_rfl) M
@[simp] theorem x_r5_Ports_r5_Good : CX ES n_r5_Ports n_r5_Good := cx rfl
@[simp] theorem x_r5_Ports_r5_port : CX ES n_r5_Ports n_r5_port := cx rfl

/-! drumline/drumlinelaw29.alive -/
def c_l29_alive : C :=
  (.seq (rg 1 0 [] [i' 0 (.assign (kb false))]) (.seq (rg 14 0 [] [ca 1 n_l29_row #[] #[], ca 2 n_calm_Hop #[q 1] #[T_api_Config], bi 3 .eql T_int (q 2) (ki 3) T_int, mv 4 3, gd 4 true (ca 5 n_l29_row #[] #[]), gd 4 true (ca 6 n_calm_Wave #[q 5] #[T_api_Config]), gd 4 true (bi 7 .eql T_int (q 6) (ki 7) T_int), i' 8 (.pick (q 4) (q 7) (kb false)), mv 9 8, gd 9 true (ca 10 n_l29_row #[] #[]), gd 9 true (ca 11 n_calm_Settle #[q 10] #[T_api_Config]), gd 9 true (bi 12 .eql T_int (q 11) (ki 15) T_int), i' 13 (.pick (q 9) (q 12) (kb false)), as' 0 13]) .ret))
theorem ok_l29_alive : Tryz.f24.body.map (comp ES n_l29_alive) = some c_l29_alive := by kernel_rfl
theorem b_l29_alive (M : Mem) : ICw ES n_l29_alive [] M = endS ES [.tmp 0] (evW ES n_l29_alive c_l29_alive ⟨[.bad, .bad, .bad, .bad, .bad, .bad, .bad, .bad, .bad, .bad, .bad, .bad, .bad, .bad], M⟩) :=
  ICw_run rfl Tryz.func24 ok_l29_alive (by kernel_rfl) (by kernel_rfl) (by kernel_rfl) M
@[simp] theorem x_l29_alive_calm_Hop : CX ES n_l29_alive n_calm_Hop := cx rfl
@[simp] theorem x_l29_alive_calm_Wave : CX ES n_l29_alive n_calm_Wave := cx rfl
@[simp] theorem x_l29_alive_calm_Settle : CX ES n_l29_alive n_calm_Settle := cx rfl
@[simp] theorem x_l29_alive_l29_row : CX ES n_l29_alive n_l29_row := cx rfl

/-! drumline/calm.Hop -/
def c_calm_Hop : C :=
  (.seq (rg 2 2 [] [i' 1 (.box T_api_Config (q 0)), i' 2 (.assign (ki 0))]) (.seq (.seq (rg 3 0 [] [ld 3 T_api_Config 1, ca 4 n_calm_fits #[q 3] #[T_api_Config], i' 5 (.unOp .not T_bool (q 4))]) (.cond (q 5) (.seq (rg 1 0 [] [i' 2 (.assign (ki 0))]) .ret) .skip)) (.seq (rg 4 0 [] [fa 6 T_api_Config 1 9, ld 7 T_int 6, bi 8 .add T_int (q 7) (ki 1) T_int, as' 2 8]) .ret)))
theorem ok_calm_Hop : Tryz.f25.body.map (comp ES n_calm_Hop) = some c_calm_Hop := by kernel_rfl
theorem b_calm_Hop (t0 : SV) (M : Mem) : ICw ES n_calm_Hop [t0] M = endS ES [.tmp 2] (evW ES n_calm_Hop c_calm_Hop ⟨[t0, .bad, .bad, .bad, .bad, .bad, .bad, .bad, .bad], M⟩) :=
  ICw_run rfl Tryz.func25 ok_calm_Hop (by kernel_rfl) (by kernel_rfl) (by kernel_rfl) M
@[simp] theorem x_calm_Hop_calm_fits : CX ES n_calm_Hop n_calm_fits := cx rfl

/-! drumline/drumlineref26.Hop -/
def c_r26_Hop : C :=
  (.seq (rg 2 2 [] [i' 1 (.box T_api_Config (q 0)), i' 2 (.assign (ki 0))]) (.seq (.seq (rg 3 0 [] [ld 3 T_api_Config 1, ca 4 n_r26_fit #[q 3] #[T_api_Config], i' 5 (.unOp .not T_bool (q 4))]) (.cond (q 5) (.seq (rg 1 0 [] [i' 2 (.assign (ki 0))]) .ret) .skip)) (.seq (rg 4 0 [] [fa 6 T_api_Config 1 9, ld 7 T_int 6, bi 8 .add T_int (q 7) (ki 1) T_int, as' 2 8]) .ret)))
theorem ok_r26_Hop : Tryz.f26.body.map (comp ES n_r26_Hop) = some c_r26_Hop := by kernel_rfl
theorem b_r26_Hop (t0 : SV) (M : Mem) : ICw ES n_r26_Hop [t0] M = endS ES [.tmp 2] (evW ES n_r26_Hop c_r26_Hop ⟨[t0, .bad, .bad, .bad, .bad, .bad, .bad, .bad, .bad], M⟩) :=
  ICw_run rfl Tryz.func26 ok_r26_Hop (by kernel_rfl) (by kernel_rfl) (by kernel_rfl) M
@[simp] theorem x_r26_Hop_r26_fit : CX ES n_r26_Hop n_r26_fit := cx rfl

/-! drumline/calm.Wave -/
def c_calm_Wave : C :=
  (.seq (rg 2 2 [] [i' 1 (.box T_api_Config (q 0)), i' 2 (.assign (ki 0))]) (.seq (.seq (rg 3 0 [] [ld 3 T_api_Config 1, ca 4 n_calm_fits #[q 3] #[T_api_Config], i' 5 (.unOp .not T_bool (q 4))]) (.cond (q 5) (.seq (rg 1 0 [] [i' 2 (.assign (ki 0))]) .ret) .skip)) (.seq (rg 7 0 [] [ld 6 T_api_Config 1, ca 7 n_hops_Width #[q 6] #[T_api_Config], ld 8 T_api_Config 1, ca 9 n_calm_Hop #[q 8] #[T_api_Config], bi 10 .mul T_int (q 7) (q 9) T_int, bi 11 .add T_int (q 10) (ki 1) T_int, as' 2 11]) .ret)))
theorem ok_calm_Wave : Tryz.f27.body.map (comp ES n_calm_Wave) = some c_calm_Wave := by kernel_rfl
theorem b_calm_Wave (t0 : SV) (M : Mem) : ICw ES n_calm_Wave [t0] M = endS ES [.tmp 2] (evW ES n_calm_Wave c_calm_Wave ⟨[t0, .bad, .bad, .bad, .bad, .bad, .bad, .bad, .bad, .bad, .bad, .bad], M⟩) :=
  ICw_run rfl Tryz.func27 ok_calm_Wave (by kernel_rfl) (by kernel_rfl) (by kernel_rfl) M
@[simp] theorem x_calm_Wave_calm_Hop : CX ES n_calm_Wave n_calm_Hop := cx rfl
@[simp] theorem x_calm_Wave_calm_fits : CX ES n_calm_Wave n_calm_fits := cx rfl
@[simp] theorem x_calm_Wave_hops_Width : CX ES n_calm_Wave n_hops_Width := cx rfl

/-! drumline/drumlineref26.Wave -/
def c_r26_Wave : C :=
  (.seq (rg 2 2 [] [i' 1 (.box T_api_Config (q 0)), i' 2 (.assign (ki 0))]) (.seq (.seq (rg 3 0 [] [ld 3 T_api_Config 1, ca 4 n_r26_fit #[q 3] #[T_api_Config], i' 5 (.unOp .not T_bool (q 4))]) (.cond (q 5) (.seq (rg 1 0 [] [i' 2 (.assign (ki 0))]) .ret) .skip)) (.seq (rg 7 0 [] [ld 6 T_api_Config 1, ca 7 n_r5_Width #[q 6] #[T_api_Config], ld 8 T_api_Config 1, ca 9 n_r26_Hop #[q 8] #[T_api_Config], bi 10 .mul T_int (q 7) (q 9) T_int, bi 11 .add T_int (q 10) (ki 1) T_int, as' 2 11]) .ret)))
theorem ok_r26_Wave : Tryz.f28.body.map (comp ES n_r26_Wave) = some c_r26_Wave := by kernel_rfl
theorem b_r26_Wave (t0 : SV) (M : Mem) : ICw ES n_r26_Wave [t0] M = endS ES [.tmp 2] (evW ES n_r26_Wave c_r26_Wave ⟨[t0, .bad, .bad, .bad, .bad, .bad, .bad, .bad, .bad, .bad, .bad, .bad], M⟩) :=
  ICw_run rfl Tryz.func28 ok_r26_Wave (by kernel_rfl) (by kernel_rfl) (by kernel_rfl) M
@[simp] theorem x_r26_Wave_r26_Hop : CX ES n_r26_Wave n_r26_Hop := cx rfl
@[simp] theorem x_r26_Wave_r26_fit : CX ES n_r26_Wave n_r26_fit := cx rfl
@[simp] theorem x_r26_Wave_r5_Width : CX ES n_r26_Wave n_r5_Width := cx rfl

/-! drumline/calm.Settle -/
def c_calm_Settle : C :=
  (.seq (rg 2 2 [] [i' 1 (.box T_api_Config (q 0)), i' 2 (.assign (ki 0))]) (.seq (.seq (rg 3 0 [] [ld 3 T_api_Config 1, ca 4 n_calm_fits #[q 3] #[T_api_Config], i' 5 (.unOp .not T_bool (q 4))]) (.cond (q 5) (.seq (rg 1 0 [] [i' 2 (.assign (ki 0))]) .ret) .skip)) (.seq (rg 5 0 [] [ld 6 T_api_Config 1, ca 7 n_calm_Wave #[q 6] #[T_api_Config], bi 8 .mul T_int (ki 2) (q 7) T_int, bi 9 .add T_int (q 8) (ki 1) T_int, as' 2 9]) .ret)))
theorem ok_calm_Settle : Tryz.f29.body.map (comp ES n_calm_Settle) = some c_calm_Settle := by kernel_rfl
theorem b_calm_Settle (t0 : SV) (M : Mem) : ICw ES n_calm_Settle [t0] M = endS ES [.tmp 2] (evW ES n_calm_Settle c_calm_Settle ⟨[t0, .bad, .bad, .bad, .bad, .bad, .bad, .bad, .bad, .bad], M⟩) :=
  ICw_run rfl Tryz.func29 ok_calm_Settle (by kernel_rfl) (by kernel_rfl) (by kernel_rfl) M
@[simp] theorem x_calm_Settle_calm_Wave : CX ES n_calm_Settle n_calm_Wave := cx rfl
@[simp] theorem x_calm_Settle_calm_fits : CX ES n_calm_Settle n_calm_fits := cx rfl

/-! drumline/drumlineref26.Settle -/
def c_r26_Settle : C :=
  (.seq (rg 2 2 [] [i' 1 (.box T_api_Config (q 0)), i' 2 (.assign (ki 0))]) (.seq (.seq (rg 3 0 [] [ld 3 T_api_Config 1, ca 4 n_r26_fit #[q 3] #[T_api_Config], i' 5 (.unOp .not T_bool (q 4))]) (.cond (q 5) (.seq (rg 1 0 [] [i' 2 (.assign (ki 0))]) .ret) .skip)) (.seq (rg 5 0 [] [ld 6 T_api_Config 1, ca 7 n_r26_Wave #[q 6] #[T_api_Config], bi 8 .mul T_int (ki 2) (q 7) T_int, bi 9 .add T_int (q 8) (ki 1) T_int, as' 2 9]) .ret)))
theorem ok_r26_Settle : Tryz.f30.body.map (comp ES n_r26_Settle) = some c_r26_Settle := by kernel_rfl
theorem b_r26_Settle (t0 : SV) (M : Mem) : ICw ES n_r26_Settle [t0] M = endS ES [.tmp 2] (evW ES n_r26_Settle c_r26_Settle ⟨[t0, .bad, .bad, .bad, .bad, .bad, .bad, .bad, .bad, .bad], M⟩) :=
  ICw_run rfl Tryz.func30 ok_r26_Settle (by kernel_rfl) (by kernel_rfl) (by kernel_rfl) M
@[simp] theorem x_r26_Settle_r26_Wave : CX ES n_r26_Settle n_r26_Wave := cx rfl
@[simp] theorem x_r26_Settle_r26_fit : CX ES n_r26_Settle n_r26_fit := cx rfl

/-! drumline/calm.Cold -/
def c_calm_Cold : C :=
  (.seq (rg 2 2 [] [i' 2 (.box T_api_Config (q 0)), i' 4 (.assign (ki 0))]) (.seq (.seq (rg 4 0 [] [ld 5 T_api_Config 2, mv 6 1, ca 7 n_calm_part #[q 5, q 6] #[T_api_Config, T_int], i' 8 (.unOp .not T_bool (q 7))]) (.cond (q 8) (.seq (rg 1 0 [] [i' 4 (.assign (ki 0))]) .ret) .skip)) (.seq (rg 5 0 [] [ld 9 T_api_Config 2, mv 10 1, ca 11 n_bounds_First #[q 9, q 10] #[T_api_Config, T_int], bi 12 .add T_int (q 11) (ki 1) T_int, as' 4 12]) .ret)))
theorem ok_calm_Cold : Tryz.f31.body.map (comp ES n_calm_Cold) = some c_calm_Cold := by kernel_rfl
theorem b_calm_Cold (t0 t1 : SV) (M : Mem) : ICw ES n_calm_Cold [t0, t1] M = endS ES [.tmp 4] (evW ES n_calm_Cold c_calm_Cold ⟨[t0, t1, .bad, .bad, .bad, .bad, .bad, .bad, .bad, .bad, .bad, .bad, .bad], M⟩) :=
  ICw_run rfl Tryz.func31 ok_calm_Cold (by kernel_rfl) (by kernel_rfl) (by kernel_rfl) M
@[simp] theorem x_calm_Cold_calm_part : CX ES n_calm_Cold n_calm_part := cx rfl
@[simp] theorem x_calm_Cold_bounds_First : CX ES n_calm_Cold n_bounds_First := cx rfl

/-! drumline/drumlineref26.Cold -/
def c_r26_Cold : C :=
  (.seq (rg 2 2 [] [i' 2 (.box T_api_Config (q 0)), i' 4 (.assign (ki 0))]) (.seq (.seq (rg 4 0 [] [ld 5 T_api_Config 2, mv 6 1, ca 7 n_r5_Fit #[q 5, q 6] #[T_api_Config, T_int], i' 8 (.unOp .not T_bool (q 7))]) (.cond (q 8) (.seq (rg 1 0 [] [i' 4 (.assign (ki 0))]) .ret) .skip)) (.seq (rg 5 0 [] [ld 9 T_api_Config 2, mv 10 1, ca 11 n_r5_First #[q 9, q 10] #[T_api_Config, T_int], bi 12 .add T_int (q 11) (ki 1) T_int, as' 4 12]) .ret)))
theorem ok_r26_Cold : Tryz.f32.body.map (comp ES n_r26_Cold) = some c_r26_Cold := by kernel_rfl
theorem b_r26_Cold (t0 t1 : SV) (M : Mem) : ICw ES n_r26_Cold [t0, t1] M = endS ES [.tmp 4] (evW ES n_r26_Cold c_r26_Cold ⟨[t0, t1, .bad, .bad, .bad, .bad, .bad, .bad, .bad, .bad, .bad, .bad, .bad], M⟩) :=
  ICw_run rfl Tryz.func32 ok_r26_Cold (by kernel_rfl) (by kernel_rfl) (by kernel_rfl) M
@[simp] theorem x_r26_Cold_r5_Fit : CX ES n_r26_Cold n_r5_Fit := cx rfl
@[simp] theorem x_r26_Cold_r5_First : CX ES n_r26_Cold n_r5_First := cx rfl

/-! drumline/calm.Deliver -/
def c_calm_Deliver : C :=
  (.seq (rg 2 2 [] [i' 3 (.box T_api_Config (q 0)), i' 6 (.assign (ki 0))]) (.seq (.seq (rg 10 0 [] [ld 7 T_api_Config 3, mv 8 1, ca 9 n_calm_part #[q 7, q 8] #[T_api_Config, T_int], i' 10 (.unOp .not T_bool (q 9)), mv 11 10, gd 11 false (ld 12 T_api_Config 3), gd 11 false (mv 13 2), gd 11 false (ca 14 n_calm_part #[q 12, q 13] #[T_api_Config, T_int]), gd 11 false (i' 15 (.unOp .not T_bool (q 14))), i' 16 (.pick (q 11) (kb true) (q 15))]) (.cond (q 16) (.seq (rg 1 0 [] [i' 6 (.assign (ki 0))]) .ret) .skip)) (.seq (rg 8 0 [] [ld 17 T_api_Config 3, mv 18 1, mv 19 2, ca 20 n_hops_Dist #[q 17, q 18, q 19] #[T_api_Config, T_int, T_int], ld 21 T_api_Config 3, ca 22 n_calm_Hop #[q 21] #[T_api_Config], bi 23 .mul T_int (q 20) (q 22) T_int, as' 6 23]) .ret)))
theorem ok_calm_Deliver : Tryz.f33.body.map (comp ES n_calm_Deliver) = some c_calm_Deliver := by kernel_rfl
theorem b_calm_Deliver (t0 t1 t2 : SV) (M : Mem) : ICw ES n_calm_Deliver [t0, t1, t2] M = endS ES [.tmp 6] (evW ES n_calm_Deliver c_calm_Deliver ⟨[t0, t1, t2, .bad, .bad, .bad, .bad, .bad, .bad, .bad, .bad, .bad, .bad, .bad, .bad, .bad, .bad, .bad, .bad, .bad, .bad, .bad, .bad, .bad], M⟩) :=
  ICw_run rfl Tryz.func33 ok_calm_Deliver (by kernel_rfl) (by kernel_rfl) (by kernel_rfl) M
@[simp] theorem x_calm_Deliver_calm_Hop : CX ES n_calm_Deliver n_calm_Hop := cx rfl
@[simp] theorem x_calm_Deliver_calm_part : CX ES n_calm_Deliver n_calm_part := cx rfl
@[simp] theorem x_calm_Deliver_hops_Dist : CX ES n_calm_Deliver n_hops_Dist := cx rfl

/-! drumline/drumlineref26.Deliver -/
def c_r26_Deliver : C :=
  (.seq (rg 2 2 [] [i' 3 (.box T_api_Config (q 0)), i' 6 (.assign (ki 0))]) (.seq (.seq (rg 10 0 [] [ld 7 T_api_Config 3, mv 8 1, ca 9 n_r5_Fit #[q 7, q 8] #[T_api_Config, T_int], i' 10 (.unOp .not T_bool (q 9)), mv 11 10, gd 11 false (ld 12 T_api_Config 3), gd 11 false (mv 13 2), gd 11 false (ca 14 n_r5_Fit #[q 12, q 13] #[T_api_Config, T_int]), gd 11 false (i' 15 (.unOp .not T_bool (q 14))), i' 16 (.pick (q 11) (kb true) (q 15))]) (.cond (q 16) (.seq (rg 1 0 [] [i' 6 (.assign (ki 0))]) .ret) .skip)) (.seq (rg 8 0 [] [ld 17 T_api_Config 3, mv 18 1, mv 19 2, ca 20 n_r5_Dist #[q 17, q 18, q 19] #[T_api_Config, T_int, T_int], ld 21 T_api_Config 3, ca 22 n_r26_Hop #[q 21] #[T_api_Config], bi 23 .mul T_int (q 20) (q 22) T_int, as' 6 23]) .ret)))
theorem ok_r26_Deliver : Tryz.f34.body.map (comp ES n_r26_Deliver) = some c_r26_Deliver := by kernel_rfl
theorem b_r26_Deliver (t0 t1 t2 : SV) (M : Mem) : ICw ES n_r26_Deliver [t0, t1, t2] M = endS ES [.tmp 6] (evW ES n_r26_Deliver c_r26_Deliver ⟨[t0, t1, t2, .bad, .bad, .bad, .bad, .bad, .bad, .bad, .bad, .bad, .bad, .bad, .bad, .bad, .bad, .bad, .bad, .bad, .bad, .bad, .bad, .bad], M⟩) :=
  ICw_run rfl Tryz.func34 ok_r26_Deliver (by kernel_rfl) (by kernel_rfl) (by kernel_rfl) M
@[simp] theorem x_r26_Deliver_r26_Hop : CX ES n_r26_Deliver n_r26_Hop := cx rfl
@[simp] theorem x_r26_Deliver_r5_Fit : CX ES n_r26_Deliver n_r5_Fit := cx rfl
@[simp] theorem x_r26_Deliver_r5_Dist : CX ES n_r26_Deliver n_r5_Dist := cx rfl

/-! drumline/calm.Envelope -/
def c_calm_Envelope : C :=
  (.seq (rg 2 2 [] [i' 2 (.box T_api_Config (q 0)), i' 4 (.assign (ki 0))]) (.seq (.seq (rg 13 0 [] [ld 5 T_api_Config 2, ca 6 n_calm_fits #[q 5] #[T_api_Config], i' 7 (.unOp .not T_bool (q 6)), mv 8 7, gd 8 false (mv 9 1), gd 8 false (bi 10 .lss T_int (q 9) (ki 0) T_int), i' 11 (.pick (q 8) (kb true) (q 10)), mv 12 11, gd 12 false (mv 13 1), gd 12 false (fa 14 T_api_Config 2 8), gd 12 false (ld 15 T_int 14), gd 12 false (bi 16 .gtr T_int (q 13) (q 15) T_int), i' 17 (.pick (q 12) (kb true) (q 16))]) (.cond (q 17) (.seq (rg 1 0 [] [i' 4 (.assign (ki 0))]) .ret) .skip)) (.seq (rg 8 0 [] [mv 18 1, ld 19 T_api_Config 2, ca 20 n_bounds_Step #[q 19] #[T_api_Config], bi 21 .mul T_int64 (q 18) (q 20) T_int64, ld 22 T_api_Config 2, ca 23 n_bounds_Near #[q 22] #[T_api_Config], bi 24 .add T_int64 (q 21) (q 23) T_int64, as' 4 24]) .ret)))
theorem ok_calm_Envelope : Tryz.f35.body.map (comp ES n_calm_Envelope) = some c_calm_Envelope := by kernel_rfl
theorem b_calm_Envelope (t0 t1 : SV) (M : Mem) : ICw ES n_calm_Envelope [t0, t1] M = endS ES [.tmp 4] (evW ES n_calm_Envelope c_calm_Envelope ⟨[t0, t1, .bad, .bad, .bad, .bad, .bad, .bad, .bad, .bad, .bad, .bad, .bad, .bad, .bad, .bad, .bad, .bad, .bad, .bad, .bad, .bad, .bad, .bad, .bad], M⟩) :=
  ICw_run rfl Tryz.func35 ok_calm_Envelope (by kernel_rfl) (by kernel_rfl) (by kernel_rfl) M
@[simp] theorem x_calm_Envelope_calm_fits : CX ES n_calm_Envelope n_calm_fits := cx rfl
@[simp] theorem x_calm_Envelope_bounds_Step : CX ES n_calm_Envelope n_bounds_Step := cx rfl
@[simp] theorem x_calm_Envelope_bounds_Near : CX ES n_calm_Envelope n_bounds_Near := cx rfl

/-! drumline/drumlineref26.Envelope -/
def c_r26_Envelope : C :=
  (.seq (rg 2 2 [] [i' 2 (.box T_api_Config (q 0)), i' 4 (.assign (ki 0))]) (.seq (.seq (rg 13 0 [] [ld 5 T_api_Config 2, ca 6 n_r26_fit #[q 5] #[T_api_Config], i' 7 (.unOp .not T_bool (q 6)), mv 8 7, gd 8 false (mv 9 1), gd 8 false (bi 10 .lss T_int (q 9) (ki 0) T_int), i' 11 (.pick (q 8) (kb true) (q 10)), mv 12 11, gd 12 false (mv 13 1), gd 12 false (fa 14 T_api_Config 2 8), gd 12 false (ld 15 T_int 14), gd 12 false (bi 16 .gtr T_int (q 13) (q 15) T_int), i' 17 (.pick (q 12) (kb true) (q 16))]) (.cond (q 17) (.seq (rg 1 0 [] [i' 4 (.assign (ki 0))]) .ret) .skip)) (.seq (rg 8 0 [] [mv 18 1, ld 19 T_api_Config 2, ca 20 n_r5_Step #[q 19] #[T_api_Config], bi 21 .mul T_int64 (q 18) (q 20) T_int64, ld 22 T_api_Config 2, ca 23 n_r5_Near #[q 22] #[T_api_Config], bi 24 .add T_int64 (q 21) (q 23) T_int64, as' 4 24]) .ret)))
theorem ok_r26_Envelope : Tryz.f36.body.map (comp ES n_r26_Envelope) = some c_r26_Envelope := by kernel_rfl
theorem b_r26_Envelope (t0 t1 : SV) (M : Mem) : ICw ES n_r26_Envelope [t0, t1] M = endS ES [.tmp 4] (evW ES n_r26_Envelope c_r26_Envelope ⟨[t0, t1, .bad, .bad, .bad, .bad, .bad, .bad, .bad, .bad, .bad, .bad, .bad, .bad, .bad, .bad, .bad, .bad, .bad, .bad, .bad, .bad, .bad, .bad, .bad], M⟩) :=
  ICw_run rfl Tryz.func36 ok_r26_Envelope (by kernel_rfl) (by kernel_rfl) (by kernel_rfl) M
@[simp] theorem x_r26_Envelope_r26_fit : CX ES n_r26_Envelope n_r26_fit := cx rfl
@[simp] theorem x_r26_Envelope_r5_Step : CX ES n_r26_Envelope n_r5_Step := cx rfl
@[simp] theorem x_r26_Envelope_r5_Near : CX ES n_r26_Envelope n_r5_Near := cx rfl

/-! drumline/bounds.Edge -/
def c_bounds_Edge : C :=
  (.seq (rg 2 2 [] [i' 1 (.box T_api_Config (q 0)), i' 2 (.assign (ki 0))]) (.seq (rg 4 0 [] [ld 3 T_api_Config 1, ca 4 n_bounds_in #[q 3] #[T_api_Config], i' 5 (.field T_bounds_Numbers (q 4) 0), as' 2 5]) .ret))
theorem ok_bounds_Edge : Tryz.f42.body.map (comp ES n_bounds_Edge) = some c_bounds_Edge := by kernel_rfl
theorem b_bounds_Edge (t0 : SV) (M : Mem) : ICw ES n_bounds_Edge [t0] M = endS ES [.tmp 2] (evW ES n_bounds_Edge c_bounds_Edge ⟨[t0, .bad, .bad, .bad, .bad, .bad], M⟩) :=
  ICw_run rfl Tryz.func42 ok_bounds_Edge (by kernel_rfl) (by kernel_rfl) (by kernel_rfl) M
@[simp] theorem x_bounds_Edge_bounds_in : CX ES n_bounds_Edge n_bounds_in := cx rfl

/-! drumline/plan.Ports -/
def c_plan_Ports : C :=
  (.seq (rg 2 2 [] [i' 2 (.box T_api_Config (q 0)), i' 4 (.assign (.const (.slice none 0 0)))]) (.seq (.seq (rg 11 0 [] [ld 5 T_api_Config 2, ca 6 n_plan_Right #[q 5] #[T_api_Config], i' 7 (.unOp .not T_bool (q 6)), mv 8 7, gd 8 false (mv 9 1), gd 8 false (fa 10 T_api_Config 2 0), gd 8 false (ld 11 T_sl_api_Part 10), gd 8 false (le' 12 11 T_sl_api_Part), gd 8 false (ca 13 n_plan_index #[q 9, q 12] #[T_int, T_int]), gd 8 false (i' 14 (.unOp .not T_bool (q 13))), i' 15 (.pick (q 8) (kb true) (q 14))]) (.cond (q 15) (.seq (rg 1 0 [] [i' 4 (.assign (.const (.slice none 0 0)))]) .ret) .skip)) (.seq (rg 4 0 [] [ld 16 T_api_Config 2, mv 17 1, ca 18 n_plan_Ends #[q 16, q 17] #[T_api_Config, T_int], as' 4 18]) .ret)))
theorem ok_plan_Ports : Tryz.f46.body.map (comp ES n_plan_Ports) = some c_plan_Ports := by kernel_rfl
theorem b_plan_Ports (t0 t1 : SV) (M : Mem) : ICw ES n_plan_Ports [t0, t1] M = endS ES [.tmp 4] (evW ES n_plan_Ports c_plan_Ports ⟨[t0, t1, .bad, .bad, .bad, .bad, .bad, .bad, .bad, .bad, .bad, .bad, .bad, .bad, .bad, .bad, .bad, .bad, .bad], M⟩) :=
  ICw_run rfl Tryz.func46 ok_plan_Ports (by kernel_rfl) (by kernel_rfl) (by kernel_rfl) M
@[simp] theorem x_plan_Ports_plan_Right : CX ES n_plan_Ports n_plan_Right := cx rfl
@[simp] theorem x_plan_Ports_plan_index : CX ES n_plan_Ports n_plan_index := cx rfl
@[simp] theorem x_plan_Ports_plan_Ends : CX ES n_plan_Ports n_plan_Ends := cx rfl

/-! drumline/drumlineref5.Good -/
def c_r5_Good : C :=
  (.seq (rg 2 2 [] [i' 2 (.box T_api_Config (q 0)), i' 4 (.assign (kb false))]) (.seq (rg 7 0 [] [ld 8 T_api_Config 2, ca 9 n_r5_Check #[q 8] #[T_api_Config], mv 7 9, xt 10 7 0, xt 11 7 1, as' 5 10, as' 6 11]) (.seq (rg 10 0 [] [mv 12 5, bi 13 .eql T_int (q 12) (ki 0) T_int, mv 14 13, gd 14 true (mv 15 1), gd 14 true (fa 16 T_api_Config 2 0), gd 14 true (ld 17 T_sl_api_Part 16), gd 14 true (le' 18 17 T_sl_api_Part), gd 14 true (ca 19 n_r5_is #[q 15, q 18] #[T_int, T_int]), i' 20 (.pick (q 14) (q 19) (kb false)), as' 4 20]) .ret)))
theorem ok_r5_Good : Tryz.f48.body.map (comp ES n_r5_Good) = some c_r5_Good := by kernel_rfl
theorem b_r5_Good (t0 t1 : SV) (M : Mem) : ICw ES n_r5_Good [t0, t1] M = endS ES [.tmp 4] (evW ES n_r5_Good c_r5_Good ⟨[t0, t1, .bad, .bad, .bad, .bad, .bad, .bad, .bad, .bad, .bad, .bad, .bad, .bad, .bad, .bad, .bad, .bad, .bad, .bad, .bad], M⟩) :=
  ICw_run rfl Tryz.func48 ok_r5_Good (by kernel_rfl) (by kernel_rfl) (by kernel_rfl) M
@[simp] theorem x_r5_Good_r5_Check : CX ES n_r5_Good n_r5_Check := cx rfl
@[simp] theorem x_r5_Good_r5_is : CX ES n_r5_Good n_r5_is := cx rfl

/-! drumline/drumlineref26.joined -/
def c_r26_joined : C :=
  (.seq (rg 1 1 [] [i' 6 (.alloc T_api_Link)]) (.seq (rg 5 5 [] [mv 10 1, mv 11 2, i' 12 (.build T_api_Link #[(0, q 10), (1, q 11)]), i' 7 (.alloc T_api_Link), ⟨none, .store T_api_Link (q 7) (q 12), none, none⟩]) (.seq (rg 12 0 [] [mv 13 0, i' 14 (.nilCheck (q 13)), ld 15 T_api_Config 14, mv 16 1, ca 17 n_r26_ports #[q 15, q 16] #[T_api_Config, T_int], mv 18 0, i' 19 (.nilCheck (q 18)), ld 20 T_api_Config 19, mv 21 2, ca 22 n_r26_ports #[q 20, q 21] #[T_api_Config, T_int], as' 8 17, as' 9 22]) (.seq (rg 6 0 [] [mv 23 8, mv 24 8, bi 25 .add T_int (q 24) (ki 1) T_int, i' 26 (.build T_a2_int #[(0, q 23), (1, q 25)]), fa 27 T_api_Link 7 2, ⟨none, .store T_a2_int (q 27) (q 26), none, none⟩]) (.seq (rg 6 0 [] [mv 28 9, mv 29 9, bi 30 .add T_int (q 29) (ki 1) T_int, i' 31 (.build T_a2_int #[(0, q 28), (1, q 30)]), fa 32 T_api_Link 7 3, ⟨none, .store T_a2_int (q 32) (q 31), none, none⟩]) (.seq (rg 19 0 [] [mv 33 0, i' 34 (.nilCheck (q 33)), fa 35 T_api_Config 34 0, ld 36 T_sl_api_Part 35, mv 37 1, mv 38 0, i' 39 (.nilCheck (q 38)), fa 40 T_api_Config 39 0, ld 41 T_sl_api_Part 40, mv 42 1, i' 43 (.indexAddr T_sl_api_Part (q 41) (q 42)), fa 44 T_api_Part 43 0, ld 45 T_int 44, mv 46 8, bi 47 .add T_int (q 46) (ki 6) T_int, i' 48 (.call { callee := .builtin .max, args := #[q 45, q 47], argTypes := #[T_int, T_int] }), i' 49 (.indexAddr T_sl_api_Part (q 36) (q 37)), fa 50 T_api_Part 49 0, ⟨none, .store T_int (q 50) (q 48), none, none⟩]) (.seq (rg 19 0 [] [mv 51 0, i' 52 (.nilCheck (q 51)), fa 53 T_api_Config 52 0, ld 54 T_sl_api_Part 53, mv 55 2, mv 56 0, i' 57 (.nilCheck (q 56)), fa 58 T_api_Config 57 0, ld 59 T_sl_api_Part 58, mv 60 2, i' 61 (.indexAddr T_sl_api_Part (q 59) (q 60)), fa 62 T_api_Part 61 0, ld 63 T_int 62, mv 64 9, bi 65 .add T_int (q 64) (ki 6) T_int, i' 66 (.call { callee := .builtin .max, args := #[q 63, q 65], argTypes := #[T_int, T_int] }), i' 67 (.indexAddr T_sl_api_Part (q 54) (q 55)), fa 68 T_api_Part 67 0, ⟨none, .store T_int (q 68) (q 66), none, none⟩]) (.seq (rg 2 0 [] [ld 69 T_api_Link 7, ⟨none, .store T_api_Link (q 6) (q 69), none, none⟩]) .ret))))))))
theorem ok_r26_joined : Tryz.f51.body.map (comp ES n_r26_joined) = some c_r26_joined := by kernel_rfl
theorem b_r26_joined (t0 t1 t2 : SV) (M : Mem) : ICw ES n_r26_joined [t0, t1, t2] M = endS ES [.cell 6 T_api_Link] (evW ES n_r26_joined c_r26_joined ⟨[t0, t1, t2, .bad, .bad, .bad, .bad, .bad, .bad, .bad, .bad, .bad, .bad, .bad, .bad, .bad, .bad, .bad, .bad, .bad, .bad, .bad, .bad, .bad, .bad, .bad, .bad, .bad, .bad, .bad, .bad, .bad, .bad, .bad, .bad, .bad, .bad, .bad, .bad, .bad, .bad, .bad, .bad, .bad, .bad, .bad, .bad, .bad, .bad, .bad, .bad, .bad, .bad, .bad, .bad, .bad, .bad, .bad, .bad, .bad, .bad, .bad, .bad, .bad, .bad, .bad, .bad, .bad, .bad, .bad], M⟩) :=
  ICw_run rfl Tryz.func51 ok_r26_joined (by kernel_rfl) (by kernel_rfl) (by kernel_rfl) M
@[simp] theorem x_r26_joined_r26_ports : CX ES n_r26_joined n_r26_ports := cx rfl

/-! drumline/drumlineref5.Edge -/
def c_r5_Edge : C :=
  (.seq (rg 2 2 [] [i' 1 (.box T_api_Config (q 0)), i' 2 (.assign (ki 0))]) (.seq (.seq (rg 3 0 [] [ld 3 T_api_Config 1, ca 4 n_r5_ranged #[q 3] #[T_api_Config], i' 5 (.unOp .not T_bool (q 4))]) (.cond (q 5) (.seq (rg 1 0 [] [i' 2 (.assign (ki 0))]) .ret) .skip)) (.seq (rg 3 0 [] [ld 6 T_api_Config 1, ca 7 n_r5_edge #[q 6] #[T_api_Config], as' 2 7]) .ret)))
theorem ok_r5_Edge : Tryz.f52.body.map (comp ES n_r5_Edge) = some c_r5_Edge := by kernel_rfl
theorem b_r5_Edge (t0 : SV) (M : Mem) : ICw ES n_r5_Edge [t0] M = endS ES [.tmp 2] (evW ES n_r5_Edge c_r5_Edge ⟨[t0, .bad, .bad, .bad, .bad, .bad, .bad, .bad], M⟩) :=
  ICw_run rfl Tryz.func52 ok_r5_Edge (by kernel_rfl) (by kernel_rfl) (by kernel_rfl) M
@[simp] theorem x_r5_Edge_r5_ranged : CX ES n_r5_Edge n_r5_ranged := cx rfl
@[simp] theorem x_r5_Edge_r5_edge : CX ES n_r5_Edge n_r5_edge := cx rfl

/-! drumline/drumlineref5.port -/
def c_r5_port_B0 : C :=
  (.seq (.seq (rg 2 0 [23] [mv 23 12, bi 24 .lss T_int (q 23) (ki 2) T_int]) (.cond (q 24) .skip (.exit 2))) (.seq (.block 3 (.seq (.seq (rg 12 0 [24, 27, 28, 29, 30, 31, 32, 33, 34, 35, 36, 37] [fa 27 T_api_Link 11 0, ld 28 T_int 27, mv 29 2, bi 30 .eql T_int (q 28) (q 29) T_int, mv 31 30, gd 31 true (mv 32 12), gd 31 true (fa 33 T_api_Link 11 2), gd 31 true (i' 34 (.indexAddr T_a2_int (q 33) (q 32))), gd 31 true (ld 35 T_int 34), gd 31 true (mv 36 3), gd 31 true (bi 37 .eql T_int (q 35) (q 36) T_int), i' 38 (.pick (q 31) (q 37) (kb false))]) (.cond (q 38) (.seq (rg 6 0 [1, 2, 3, 4, 10, 11, 12, 38, 39, 40, 41, 42] [mv 39 3, mv 40 10, mv 41 12, i' 42 (.build T_api_Port #[(0, q 39), (1, q 40), (2, q 41)]), ⟨none, .store T_api_Port (q 8) (q 42), none, none⟩, i' 9 (.assign (kb true))]) .ret) .skip)) (.seq (rg 12 0 [38, 43, 44, 45, 46, 47, 48, 49, 50, 51, 52, 53] [fa 43 T_api_Link 11 1, ld 44 T_int 43, mv 45 2, bi 46 .eql T_int (q 44) (q 45) T_int, mv 47 46, gd 47 true (mv 48 12), gd 47 true (fa 49 T_api_Link 11 3), gd 47 true (i' 50 (.indexAddr T_a2_int (q 49) (q 48))), gd 47 true (ld 51 T_int 50), gd 47 true (mv 52 3), gd 47 true (bi 53 .eql T_int (q 51) (q 52) T_int), i' 54 (.pick (q 47) (q 53) (kb false))]) (.cond (q 54) (.seq (rg 6 0 [1, 2, 3, 4, 10, 11, 12, 54, 55, 56, 57, 58] [mv 55 3, mv 56 10, mv 57 12, i' 58 (.build T_api_Port #[(0, q 55), (1, q 56), (2, q 57), (3, (ki 1))]), ⟨none, .store T_api_Port (q 8) (q 58), none, none⟩, i' 9 (.assign (kb true))]) .ret) .skip)))) (rg 3 0 [25, 26, 54] [mv 25 12, bi 26 .add T_int (q 25) (ki 1) T_int, as' 12 26])))
def c_r5_port_L0 : C := .loop c_r5_port_B0
/-- What is live at the loop's head: t1 links, t2 part, t3 node, t4 c, t8, t10 i, t11 l, t12 g -/
abbrev h_r5_port_0 (t1 t2 t3 t4 t8 t10 t11 t12 : SV) : List SV := [.bad, t1, t2, t3, t4, .bad, .bad, .bad, t8, .bad, t10, t11, t12, .bad, .bad, .bad, .bad, .bad, .bad, .bad, .bad, .bad, .bad, .bad, .bad, .bad, .bad, .bad, .bad, .bad, .bad, .bad, .bad, .bad, .bad, .bad, .bad, .bad, .bad, .bad, .bad, .bad, .bad, .bad, .bad, .bad, .bad, .bad, .bad, .bad, .bad, .bad, .bad, .bad, .bad, .bad, .bad, .bad, .bad, .bad]
def c_r5_port_B1 : C :=
  (.seq (.seq (rg 3 0 [13, 14] [mv 13 10, mv 14 1, bi 15 .lss T_int (q 13) (q 14) T_int]) (.cond (q 15) .skip (.exit 0))) (.seq (.block 1 (.seq (rg 7 7 [15, 18, 19, 20, 21, 22] [fa 18 T_api_Config 4 1, ld 19 T_sl_api_Link 18, mv 20 10, i' 21 (.indexAddr T_sl_api_Link (q 19) (q 20)), ld 22 T_api_Link 21, i' 11 (.alloc T_api_Link), ⟨none, .store T_api_Link (q 11) (q 22), none, none⟩]) (.seq (rg 1 0 [] [i' 12 (.assign (ki 0))]) (.block 2 c_r5_port_L0)))) (rg 3 0 [11, 12, 16, 17, 24] [mv 16 10, bi 17 .add T_int (q 16) (ki 1) T_int, as' 10 17])))
def c_r5_port_L1 : C := .loop c_r5_port_B1
/-- What is live at the loop's head: t1 links, t2 part, t3 node, t4 c, t8, t10 i -/
abbrev h_r5_port_1 (t1 t2 t3 t4 t8 t10 : SV) : List SV := [.bad, t1, t2, t3, t4, .bad, .bad, .bad, t8, .bad, t10, .bad, .bad, .bad, .bad, .bad, .bad, .bad, .bad, .bad, .bad, .bad, .bad, .bad, .bad, .bad, .bad, .bad, .bad, .bad, .bad, .bad, .bad, .bad, .bad, .bad, .bad, .bad, .bad, .bad, .bad, .bad, .bad, .bad, .bad, .bad, .bad, .bad, .bad, .bad, .bad, .bad, .bad, .bad, .bad, .bad, .bad, .bad, .bad, .bad]
def c_r5_port : C :=
  (.seq (rg 3 3 [0, 9] [i' 4 (.box T_api_Config (q 0)), i' 8 (.alloc T_api_Port), i' 9 (.assign (kb false))]) (.seq (.seq (rg 1 0 [] [i' 10 (.assign (ki 0))]) (.block 0 c_r5_port_L1)) (.seq (rg 3 0 [1, 2, 3, 4, 10, 15, 59] [i' 59 (.build T_api_Port #[]), ⟨none, .store T_api_Port (q 8) (q 59), none, none⟩, i' 9 (.assign (kb false))]) .ret)))
theorem ok_r5_port : Tryz.f54.body.map (comp ES n_r5_port) = some c_r5_port := by kernel_rfl
theorem b_r5_port (t0 t1 t2 t3 : SV) (M : Mem) : ICw ES n_r5_port [t0, t1, t2, t3] M = endS ES [.cell 8 T_api_Port, .tmp 9] (evW ES n_r5_port c_r5_port ⟨[t0, t1, t2, t3, .bad, .bad, .bad, .bad, .bad, .bad, .bad, .bad, .bad, .bad, .bad, .bad, .bad, .bad, .bad, .bad, .bad, .bad, .bad, .bad, .bad, .bad, .bad, .bad, .bad, .bad, .bad, .bad, .bad, .bad, .bad, .bad, .bad, .bad, .bad, .bad, .bad, .bad, .bad, .bad, .bad, .bad, .bad, .bad, .bad, .bad, .bad, .bad, .bad, .bad, .bad, .bad, .bad, .bad, .bad, .bad], M⟩) :=
  ICw_run rfl Tryz.func54 ok_r5_port (by kernel_rfl) (by kernel_rfl) (by kernel_rfl) M

/-! drumline/drumlineref5.Port -/
def c_r5_Port : C :=
  (.seq (rg 3 3 [] [i' 3 (.box T_api_Config (q 0)), i' 6 (.alloc T_api_Port), i' 7 (.assign (kb false))]) (.seq (.seq (rg 4 0 [] [ld 8 T_api_Config 3, mv 9 1, ca 10 n_r5_Good #[q 8, q 9] #[T_api_Config, T_int], i' 11 (.unOp .not T_bool (q 10))]) (.cond (q 11) (.seq (rg 3 0 [] [i' 12 (.build T_api_Port #[]), ⟨none, .store T_api_Port (q 6) (q 12), none, none⟩, i' 7 (.assign (kb false))]) .ret) .skip)) (.seq (rg 11 0 [] [ld 13 T_api_Config 3, fa 14 T_api_Config 3 1, ld 15 T_sl_api_Link 14, le' 16 15 T_sl_api_Link, mv 17 1, mv 18 2, ca 19 n_r5_port #[q 13, q 16, q 17, q 18] #[T_api_Config, T_int, T_int, T_int], xt 20 19 0, xt 21 19 1, ⟨none, .store T_api_Port (q 6) (q 20), none, none⟩, as' 7 21]) .ret)))
theorem ok_r5_Port : Tryz.f55.body.map (comp ES n_r5_Port) = some c_r5_Port := by kernel_rfl
theorem b_r5_Port (t0 t1 t2 : SV) (M : Mem) : ICw ES n_r5_Port [t0, t1, t2] M = endS ES [.cell 6 T_api_Port, .tmp 7] (evW ES n_r5_Port c_r5_Port ⟨[t0, t1, t2, .bad, .bad, .bad, .bad, .bad, .bad, .bad, .bad, .bad, .bad, .bad, .bad, .bad, .bad, .bad, .bad, .bad, .bad, .bad], M⟩) :=
  ICw_run rfl Tryz.func55 ok_r5_Port (by kernel_rfl) (by kernel_rfl) (by kernel_rfl) M
@[simp] theorem x_r5_Port_r5_Good : CX ES n_r5_Port n_r5_Good := cx rfl
@[simp] theorem x_r5_Port_r5_port : CX ES n_r5_Port n_r5_port := cx rfl

/-! drumline/calm.fits -/
def c_calm_fits : C :=
  (.seq (rg 2 2 [] [i' 1 (.box T_api_Config (q 0)), i' 2 (.assign (kb false))]) (.seq (rg 7 0 [] [ld 6 T_api_Config 1, ca 7 n_bounds_Fits #[q 6] #[T_api_Config], mv 5 7, xt 8 5 0, xt 9 5 1, as' 3 8, as' 4 9]) (.seq (rg 3 0 [] [mv 10 3, bi 11 .eql T_api_Errno (q 10) (ki 0) T_api_Errno, as' 2 11]) .ret)))
theorem ok_calm_fits : Tryz.f57.body.map (comp ES n_calm_fits) = some c_calm_fits := by kernel_rfl
theorem b_calm_fits (t0 : SV) (M : Mem) : ICw ES n_calm_fits [t0] M = endS ES [.tmp 2] (evW ES n_calm_fits c_calm_fits ⟨[t0, .bad, .bad, .bad, .bad, .bad, .bad, .bad, .bad, .bad, .bad, .bad], M⟩) :=
  ICw_run rfl Tryz.func57 ok_calm_fits (by kernel_rfl) (by kernel_rfl) (by kernel_rfl) M
@[simp] theorem x_calm_fits_bounds_Fits : CX ES n_calm_fits n_bounds_Fits := cx rfl

/-! drumline/drumlineref26.fit -/
def c_r26_fit : C :=
  (.seq (rg 2 2 [] [i' 1 (.box T_api_Config (q 0)), i' 2 (.assign (kb false))]) (.seq (rg 3 0 [] [ld 3 T_api_Config 1, ca 4 n_r5_Fit #[q 3, (ki 0)] #[T_api_Config, T_int], as' 2 4]) .ret))
theorem ok_r26_fit : Tryz.f58.body.map (comp ES n_r26_fit) = some c_r26_fit := by kernel_rfl
theorem b_r26_fit (t0 : SV) (M : Mem) : ICw ES n_r26_fit [t0] M = endS ES [.tmp 2] (evW ES n_r26_fit c_r26_fit ⟨[t0, .bad, .bad, .bad, .bad], M⟩) :=
  ICw_run rfl Tryz.func58 ok_r26_fit (by kernel_rfl) (by kernel_rfl) (by kernel_rfl) M
@[simp] theorem x_r26_fit_r5_Fit : CX ES n_r26_fit n_r5_Fit := cx rfl

/-! drumline/hops.Width -/
def c_hops_Width_B0 : C :=
  (.seq (rg 1 0 [] [bi 12 .lss T_int (q 11) (q 10) T_int]) (.seq (.cond (q 12) .skip (.exit 0)) (.seq (.block 1 (.seq (rg 2 0 [12, 13] [mv 13 11, as' 4 13]) (rg 7 0 [4, 14, 15, 16, 17, 18, 19] [mv 14 3, ld 15 T_api_Config 1, mv 16 4, ca 17 n_plan_Dists #[q 15, q 16] #[T_api_Config, T_int], ca 18 n_slices_Max_sl_int_int #[q 17] #[T_sl_int], i' 19 (.call { callee := .builtin .max, args := #[q 14, q 18], argTypes := #[T_int, T_int] }), as' 3 19]))) (rg 2 0 [20] [bi 20 .add T_int (q 11) (ki 1) T_int, mv 11 20]))))
def c_hops_Width_L0 : C := .loop c_hops_Width_B0
/-- What is live at the loop's head: t1 c, t3 most, t10, t11 -/
abbrev h_hops_Width_0 (t1 t3 t10 t11 : SV) : List SV := [.bad, t1, .bad, t3, .bad, .bad, .bad, .bad, .bad, .bad, t10, t11, .bad, .bad, .bad, .bad, .bad, .bad, .bad, .bad, .bad, .bad]
def c_hops_Width : C :=
  (.seq (rg 2 2 [0, 2] [i' 1 (.box T_api_Config (q 0)), i' 2 (.assign (ki 0))]) (.seq (.seq (rg 3 0 [5, 6] [ld 5 T_api_Config 1, ca 6 n_plan_Right #[q 5] #[T_api_Config], i' 7 (.unOp .not T_bool (q 6))]) (.cond (q 7) (.seq (rg 1 0 [1, 7] [i' 2 (.assign (ki (-1)))]) .ret) .skip)) (.seq (rg 1 0 [7] [i' 3 (.assign (ki 0))]) (.seq (.seq (rg 4 0 [8, 9] [fa 8 T_api_Config 1 0, ld 9 T_sl_api_Part 8, le' 10 9 T_sl_api_Part, i' 11 (.move (ki 0))]) (.block 0 c_hops_Width_L0)) (.seq (rg 2 0 [1, 3, 10, 11, 12, 21] [mv 21 3, as' 2 21]) .ret)))))
theorem ok_hops_Width : Tryz.f59.body.map (comp ES n_hops_Width) = some c_hops_Width := by kernel_rfl
theorem b_hops_Width (t0 : SV) (M : Mem) : ICw ES n_hops_Width [t0] M = endS ES [.tmp 2] (evW ES n_hops_Width c_hops_Width ⟨[t0, .bad, .bad, .bad, .bad, .bad, .bad, .bad, .bad, .bad, .bad, .bad, .bad, .bad, .bad, .bad, .bad, .bad, .bad, .bad, .bad, .bad], M⟩) :=
  ICw_run rfl Tryz.func59 ok_hops_Width (by kernel_rfl) (by kernel_rfl) (by kernel_rfl) M
@[simp] theorem x_hops_Width_plan_Right : CX ES n_hops_Width n_plan_Right := cx rfl
@[simp] theorem x_hops_Width_slices_Max_sl_int_int : CX ES n_hops_Width n_slices_Max_sl_int_int := cx rfl
@[simp] theorem x_hops_Width_plan_Dists : CX ES n_hops_Width n_plan_Dists := cx rfl

/-! drumline/drumlineref5.Width -/
def c_r5_Width_B0 : C :=
  (.seq (.seq (rg 4 0 [20, 21, 22] [mv 20 6, mv 21 5, le' 22 21 T_sl_int, bi 23 .lss T_int (q 20) (q 22) T_int]) (.cond (q 23) .skip (.exit 2))) (.seq (.block 3 (rg 7 0 [23, 26, 27, 28, 29, 30, 31] [mv 26 3, mv 27 5, mv 28 6, i' 29 (.indexAddr T_sl_int (q 27) (q 28)), ld 30 T_int 29, i' 31 (.call { callee := .builtin .max, args := #[q 26, q 30], argTypes := #[T_int, T_int] }), as' 3 31])) (rg 3 0 [24, 25] [mv 24 6, bi 25 .add T_int (q 24) (ki 1) T_int, as' 6 25])))
def c_r5_Width_L0 : C := .loop c_r5_Width_B0
/-- What is live at the loop's head: t1 c, t3 most, t4 a, t5 d, t6 b -/
abbrev h_r5_Width_0 (t1 t3 t4 t5 t6 : SV) : List SV := [.bad, t1, .bad, t3, t4, t5, t6, .bad, .bad, .bad, .bad, .bad, .bad, .bad, .bad, .bad, .bad, .bad, .bad, .bad, .bad, .bad, .bad, .bad, .bad, .bad, .bad, .bad, .bad, .bad, .bad, .bad, .bad]
def c_r5_Width_B1 : C :=
  (.seq (.seq (rg 5 0 [10, 11, 12, 13] [mv 10 4, fa 11 T_api_Config 1 0, ld 12 T_sl_api_Part 11, le' 13 12 T_sl_api_Part, bi 14 .lss T_int (q 10) (q 13) T_int]) (.cond (q 14) .skip (.exit 0))) (.seq (.block 1 (.seq (rg 4 0 [14, 17, 18, 19] [ld 17 T_api_Config 1, mv 18 4, ca 19 n_r5_dists #[q 17, q 18] #[T_api_Config, T_int], as' 5 19]) (.seq (rg 1 0 [] [i' 6 (.assign (ki 0))]) (.block 2 c_r5_Width_L0)))) (rg 3 0 [5, 6, 15, 16, 23] [mv 15 4, bi 16 .add T_int (q 15) (ki 1) T_int, as' 4 16])))
def c_r5_Width_L1 : C := .loop c_r5_Width_B1
/-- What is live at the loop's head: t1 c, t3 most, t4 a -/
abbrev h_r5_Width_1 (t1 t3 t4 : SV) : List SV := [.bad, t1, .bad, t3, t4, .bad, .bad, .bad, .bad, .bad, .bad, .bad, .bad, .bad, .bad, .bad, .bad, .bad, .bad, .bad, .bad, .bad, .bad, .bad, .bad, .bad, .bad, .bad, .bad, .bad, .bad, .bad, .bad]
def c_r5_Width : C :=
  (.seq (rg 2 2 [0, 2] [i' 1 (.box T_api_Config (q 0)), i' 2 (.assign (ki 0))]) (.seq (.seq (rg 3 0 [7, 8] [ld 7 T_api_Config 1, ca 8 n_r5_Good #[q 7, (ki 0)] #[T_api_Config, T_int], i' 9 (.unOp .not T_bool (q 8))]) (.cond (q 9) (.seq (rg 1 0 [1, 9] [i' 2 (.assign (ki (-1)))]) .ret) .skip)) (.seq (rg 1 0 [9] [i' 3 (.assign (ki 0))]) (.seq (.seq (rg 1 0 [] [i' 4 (.assign (ki 0))]) (.block 0 c_r5_Width_L1)) (.seq (rg 2 0 [1, 3, 4, 14, 32] [mv 32 3, as' 2 32]) .ret)))))
theorem ok_r5_Width : Tryz.f60.body.map (comp ES n_r5_Width) = some c_r5_Width := by kernel_rfl
theorem b_r5_Width (t0 : SV) (M : Mem) : ICw ES n_r5_Width [t0] M = endS ES [.tmp 2] (evW ES n_r5_Width c_r5_Width ⟨[t0, .bad, .bad, .bad, .bad, .bad, .bad, .bad, .bad, .bad, .bad, .bad, .bad, .bad, .bad, .bad, .bad, .bad, .bad, .bad, .bad, .bad, .bad, .bad, .bad, .bad, .bad, .bad, .bad, .bad, .bad, .bad, .bad], M⟩) :=
  ICw_run rfl Tryz.func60 ok_r5_Width (by kernel_rfl) (by kernel_rfl) (by kernel_rfl) M
@[simp] theorem x_r5_Width_r5_Good : CX ES n_r5_Width n_r5_Good := cx rfl
@[simp] theorem x_r5_Width_r5_dists : CX ES n_r5_Width n_r5_dists := cx rfl

/-! drumline/calm.part -/
def c_calm_part : C :=
  (.seq (rg 2 2 [] [i' 2 (.box T_api_Config (q 0)), i' 4 (.assign (kb false))]) (.seq (rg 14 0 [] [ld 5 T_api_Config 2, ca 6 n_calm_fits #[q 5] #[T_api_Config], mv 7 6, gd 7 true (mv 8 1), gd 7 true (bi 9 .geq T_int (q 8) (ki 0) T_int), i' 10 (.pick (q 7) (q 9) (kb false)), mv 11 10, gd 11 true (mv 12 1), gd 11 true (fa 13 T_api_Config 2 0), gd 11 true (ld 14 T_sl_api_Part 13), gd 11 true (le' 15 14 T_sl_api_Part), gd 11 true (bi 16 .lss T_int (q 12) (q 15) T_int), i' 17 (.pick (q 11) (q 16) (kb false)), as' 4 17]) .ret))
theorem ok_calm_part : Tryz.f61.body.map (comp ES n_calm_part) = some c_calm_part := by kernel_rfl
theorem b_calm_part (t0 t1 : SV) (M : Mem) : ICw ES n_calm_part [t0, t1] M = endS ES [.tmp 4] (evW ES n_calm_part c_calm_part ⟨[t0, t1, .bad, .bad, .bad, .bad, .bad, .bad, .bad, .bad, .bad, .bad, .bad, .bad, .bad, .bad, .bad, .bad], M⟩) :=
  ICw_run rfl Tryz.func61 ok_calm_part (by kernel_rfl) (by kernel_rfl) (by kernel_rfl) M
@[simp] theorem x_calm_part_calm_fits : CX ES n_calm_part n_calm_fits := cx rfl

/-! drumline/bounds.First -/
def c_bounds_First : C :=
  (.seq (rg 2 2 [] [i' 2 (.box T_api_Config (q 0)), i' 4 (.assign (ki 0))]) (.seq (.seq (rg 7 0 [] [ld 8 T_api_Config 2, ca 9 n_bounds_Fits #[q 8] #[T_api_Config], mv 7 9, xt 10 7 0, xt 11 7 1, as' 5 10, as' 6 11]) (.seq (rg 13 0 [] [mv 12 5, bi 13 .neq T_api_Errno (q 12) (ki 0) T_api_Errno, mv 14 13, gd 14 false (mv 15 1), gd 14 false (bi 16 .lss T_int (q 15) (ki 0) T_int), i' 17 (.pick (q 14) (kb true) (q 16)), mv 18 17, gd 18 false (mv 19 1), gd 18 false (fa 20 T_api_Config 2 0), gd 18 false (ld 21 T_sl_api_Part 20), gd 18 false (le' 22 21 T_sl_api_Part), gd 18 false (bi 23 .geq T_int (q 19) (q 22) T_int), i' 24 (.pick (q 18) (kb true) (q 23))]) (.cond (q 24) (.seq (rg 1 0 [] [i' 4 (.assign (ki 0))]) .ret) .skip))) (.seq (rg 4 0 [] [ld 25 T_api_Config 2, mv 26 1, ca 27 n_bounds_Patience #[q 25, q 26] #[T_api_Config, T_int], as' 4 27]) .ret)))
theorem ok_bounds_First : Tryz.f62.body.map (comp ES n_bounds_First) = some c_bounds_First := by kernel_rfl
theorem b_bounds_First (t0 t1 : SV) (M : Mem) : ICw ES n_bounds_First [t0, t1] M = endS ES [.tmp 4] (evW ES n_bounds_First c_bounds_First ⟨[t0, t1, .bad, .bad, .bad, .bad, .bad, .bad, .bad, .bad, .bad, .bad, .bad, .bad, .bad, .bad, .bad, .bad, .bad, .bad, .bad, .bad, .bad, .bad, .bad, .bad, .bad, .bad], M⟩) :=
  ICw_run rfl Tryz.func62 ok_bounds_First (by kernel_rfl) (by kernel_rfl) (by kernel_rfl) M
@[simp] theorem x_bounds_First_bounds_Fits : CX ES n_bounds_First n_bounds_Fits := cx rfl
@[simp] theorem x_bounds_First_bounds_Patience : CX ES n_bounds_First n_bounds_Patience := cx rfl

/-! drumline/drumlineref5.Fit -/
def c_r5_Fit : C :=
  (.seq (rg 2 2 [] [i' 2 (.box T_api_Config (q 0)), i' 4 (.assign (kb false))]) (.seq (rg 7 0 [] [ld 8 T_api_Config 2, ca 9 n_r5_Fits #[q 8] #[T_api_Config], mv 7 9, xt 10 7 0, xt 11 7 1, as' 5 10, as' 6 11]) (.seq (rg 10 0 [] [mv 12 5, bi 13 .eql T_int (q 12) (ki 0) T_int, mv 14 13, gd 14 true (mv 15 1), gd 14 true (fa 16 T_api_Config 2 0), gd 14 true (ld 17 T_sl_api_Part 16), gd 14 true (le' 18 17 T_sl_api_Part), gd 14 true (ca 19 n_r5_is #[q 15, q 18] #[T_int, T_int]), i' 20 (.pick (q 14) (q 19) (kb false)), as' 4 20]) .ret)))
theorem ok_r5_Fit : Tryz.f63.body.map (comp ES n_r5_Fit) = some c_r5_Fit := by kernel_rfl
theorem b_r5_Fit (t0 t1 : SV) (M : Mem) : ICw ES n_r5_Fit [t0, t1] M = endS ES [.tmp 4] (evW ES n_r5_Fit c_r5_Fit ⟨[t0, t1, .bad, .bad, .bad, .bad, .bad, .bad, .bad, .bad, .bad, .bad, .bad, .bad, .bad, .bad, .bad, .bad, .bad, .bad, .bad], M⟩) :=
  ICw_run rfl Tryz.func63 ok_r5_Fit (by kernel_rfl) (by kernel_rfl) (by kernel_rfl) M
@[simp] theorem x_r5_Fit_r5_is : CX ES n_r5_Fit n_r5_is := cx rfl
@[simp] theorem x_r5_Fit_r5_Fits : CX ES n_r5_Fit n_r5_Fits := cx rfl

/-! drumline/drumlineref5.First -/
def c_r5_First : C :=
  (.seq (rg 2 2 [] [i' 2 (.box T_api_Config (q 0)), i' 4 (.assign (ki 0))]) (.seq (.seq (rg 4 0 [] [ld 5 T_api_Config 2, mv 6 1, ca 7 n_r5_Fit #[q 5, q 6] #[T_api_Config, T_int], i' 8 (.unOp .not T_bool (q 7))]) (.cond (q 8) (.seq (rg 1 0 [] [i' 4 (.assign (ki 0))]) .ret) .skip)) (.seq (rg 8 0 [] [fa 9 T_api_Config 2 10, ld 10 T_int 9, mv 11 1, fa 12 T_api_Config 2 11, ld 13 T_int 12, bi 14 .mul T_int (q 11) (q 13) T_int, bi 15 .add T_int (q 10) (q 14) T_int, as' 4 15]) .ret)))
theorem ok_r5_First : Tryz.f64.body.map (comp ES n_r5_First) = some c_r5_First := by kernel_rfl
theorem b_r5_First (t0 t1 : SV) (M : Mem) : ICw ES n_r5_First [t0, t1] M = endS ES [.tmp 4] (evW ES n_r5_First c_r5_First ⟨[t0, t1, .bad, .bad, .bad, .bad, .bad, .bad, .bad, .bad, .bad, .bad, .bad, .bad, .bad, .bad], M⟩) :=
  ICw_run rfl Tryz.func64 ok_r5_First (by kernel_rfl) (by kernel_rfl) (by kernel_rfl) M
@[simp] theorem x_r5_First_r5_Fit : CX ES n_r5_First n_r5_Fit := cx rfl

/-! drumline/hops.Dist -/
def c_hops_Dist : C :=
  (.seq (rg 2 2 [] [i' 3 (.box T_api_Config (q 0)), i' 6 (.assign (ki 0))]) (.seq (.seq (rg 5 0 [] [ld 7 T_api_Config 3, mv 8 1, mv 9 2, ca 10 n_hops_right #[q 7, q 8, q 9] #[T_api_Config, T_int, T_int], i' 11 (.unOp .not T_bool (q 10))]) (.cond (q 11) (.seq (rg 1 0 [] [i' 6 (.assign (ki (-1)))]) .ret) .skip)) (.seq (rg 7 0 [] [ld 12 T_api_Config 3, mv 13 2, ca 14 n_plan_Dists #[q 12, q 13] #[T_api_Config, T_int], mv 15 1, i' 16 (.indexAddr T_sl_int (q 14) (q 15)), ld 17 T_int 16, as' 6 17]) .ret)))
theorem ok_hops_Dist : Tryz.f65.body.map (comp ES n_hops_Dist) = some c_hops_Dist := by kernel_rfl
theorem b_hops_Dist (t0 t1 t2 : SV) (M : Mem) : ICw ES n_hops_Dist [t0, t1, t2] M = endS ES [.tmp 6] (evW ES n_hops_Dist c_hops_Dist ⟨[t0, t1, t2, .bad, .bad, .bad, .bad, .bad, .bad, .bad, .bad, .bad, .bad, .bad, .bad, .bad, .bad, .bad], M⟩) :=
  ICw_run rfl Tryz.func65 ok_hops_Dist (by kernel_rfl) (by kernel_rfl) (by kernel_rfl) M
@[simp] theorem x_hops_Dist_plan_Dists : CX ES n_hops_Dist n_plan_Dists := cx rfl
@[simp] theorem x_hops_Dist_hops_right : CX ES n_hops_Dist n_hops_right := cx rfl

/-! drumline/drumlineref5.Dist -/
def c_r5_Dist : C :=
  (.seq (rg 2 2 [] [i' 3 (.box T_api_Config (q 0)), i' 6 (.assign (ki 0))]) (.seq (.seq (rg 10 0 [] [ld 7 T_api_Config 3, mv 8 1, ca 9 n_r5_Good #[q 7, q 8] #[T_api_Config, T_int], i' 10 (.unOp .not T_bool (q 9)), mv 11 10, gd 11 false (ld 12 T_api_Config 3), gd 11 false (mv 13 2), gd 11 false (ca 14 n_r5_Good #[q 12, q 13] #[T_api_Config, T_int]), gd 11 false (i' 15 (.unOp .not T_bool (q 14))), i' 16 (.pick (q 11) (kb true) (q 15))]) (.cond (q 16) (.seq (rg 1 0 [] [i' 6 (.assign (ki (-1)))]) .ret) .skip)) (.seq (rg 7 0 [] [ld 17 T_api_Config 3, mv 18 1, ca 19 n_r5_dists #[q 17, q 18] #[T_api_Config, T_int], mv 20 2, i' 21 (.indexAddr T_sl_int (q 19) (q 20)), ld 22 T_int 21, as' 6 22]) .ret)))
theorem ok_r5_Dist : Tryz.f66.body.map (comp ES n_r5_Dist) = some c_r5_Dist := by kernel_rfl
theorem b_r5_Dist (t0 t1 t2 : SV) (M : Mem) : ICw ES n_r5_Dist [t0, t1, t2] M = endS ES [.tmp 6] (evW ES n_r5_Dist c_r5_Dist ⟨[t0, t1, t2, .bad, .bad, .bad, .bad, .bad, .bad, .bad, .bad, .bad, .bad, .bad, .bad, .bad, .bad, .bad, .bad, .bad, .bad, .bad, .bad], M⟩) :=
  ICw_run rfl Tryz.func66 ok_r5_Dist (by kernel_rfl) (by kernel_rfl) (by kernel_rfl) M
@[simp] theorem x_r5_Dist_r5_Good : CX ES n_r5_Dist n_r5_Good := cx rfl
@[simp] theorem x_r5_Dist_r5_dists : CX ES n_r5_Dist n_r5_dists := cx rfl

/-! drumline/bounds.Step -/
def c_bounds_Step : C :=
  (.seq (rg 2 2 [] [i' 1 (.box T_api_Config (q 0)), i' 2 (.assign (ki 0))]) (.seq (rg 4 0 [] [ld 3 T_api_Config 1, ca 4 n_bounds_in #[q 3] #[T_api_Config], i' 5 (.field T_bounds_Numbers (q 4) 3), as' 2 5]) .ret))
theorem ok_bounds_Step : Tryz.f67.body.map (comp ES n_bounds_Step) = some c_bounds_Step := by kernel_rfl
theorem b_bounds_Step (t0 : SV) (M : Mem) : ICw ES n_bounds_Step [t0] M = endS ES [.tmp 2] (evW ES n_bounds_Step c_bounds_Step ⟨[t0, .bad, .bad, .bad, .bad, .bad], M⟩) :=
  ICw_run rfl Tryz.func67 ok_bounds_Step (by kernel_rfl) (by kernel_rfl) (by kernel_rfl) M
@[simp] theorem x_bounds_Step_bounds_in : CX ES n_bounds_Step n_bounds_in := cx rfl

/-! drumline/bounds.Near -/
def c_bounds_Near : C :=
  (.seq (rg 2 2 [] [i' 1 (.box T_api_Config (q 0)), i' 2 (.assign (ki 0))]) (.seq (rg 4 0 [] [ld 3 T_api_Config 1, ca 4 n_bounds_in #[q 3] #[T_api_Config], i' 5 (.field T_bounds_Numbers (q 4) 1), as' 2 5]) .ret))
theorem ok_bounds_Near : Tryz.f68.body.map (comp ES n_bounds_Near) = some c_bounds_Near := by kernel_rfl
theorem b_bounds_Near (t0 : SV) (M : Mem) : ICw ES n_bounds_Near [t0] M = endS ES [.tmp 2] (evW ES n_bounds_Near c_bounds_Near ⟨[t0, .bad, .bad, .bad, .bad, .bad], M⟩) :=
  ICw_run rfl Tryz.func68 ok_bounds_Near (by kernel_rfl) (by kernel_rfl) (by kernel_rfl) M
@[simp] theorem x_bounds_Near_bounds_in : CX ES n_bounds_Near n_bounds_in := cx rfl

/-! drumline/drumlineref5.Step -/
def c_r5_Step : C :=
  (.seq (rg 2 2 [] [i' 1 (.box T_api_Config (q 0)), i' 2 (.assign (ki 0))]) (.seq (.seq (rg 3 0 [] [ld 3 T_api_Config 1, ca 4 n_r5_ranged #[q 3] #[T_api_Config], i' 5 (.unOp .not T_bool (q 4))]) (.cond (q 5) (.seq (rg 1 0 [] [i' 2 (.assign (ki 0))]) .ret) .skip)) (.seq (rg 3 0 [] [ld 6 T_api_Config 1, ca 7 n_r5_step #[q 6] #[T_api_Config], as' 2 7]) .ret)))
theorem ok_r5_Step : Tryz.f69.body.map (comp ES n_r5_Step) = some c_r5_Step := by kernel_rfl
theorem b_r5_Step (t0 : SV) (M : Mem) : ICw ES n_r5_Step [t0] M = endS ES [.tmp 2] (evW ES n_r5_Step c_r5_Step ⟨[t0, .bad, .bad, .bad, .bad, .bad, .bad, .bad], M⟩) :=
  ICw_run rfl Tryz.func69 ok_r5_Step (by kernel_rfl) (by kernel_rfl) (by kernel_rfl) M
@[simp] theorem x_r5_Step_r5_ranged : CX ES n_r5_Step n_r5_ranged := cx rfl
@[simp] theorem x_r5_Step_r5_step : CX ES n_r5_Step n_r5_step := cx rfl

/-! drumline/drumlineref5.Near -/
def c_r5_Near : C :=
  (.seq (rg 2 2 [] [i' 1 (.box T_api_Config (q 0)), i' 2 (.assign (ki 0))]) (.seq (rg 4 0 [] [ld 3 T_api_Config 1, ca 4 n_r5_Edge #[q 3] #[T_api_Config], bi 5 .mul T_int64 (ki 2) (q 4) T_int64, as' 2 5]) .ret))
theorem ok_r5_Near : Tryz.f70.body.map (comp ES n_r5_Near) = some c_r5_Near := by kernel_rfl
theorem b_r5_Near (t0 : SV) (M : Mem) : ICw ES n_r5_Near [t0] M = endS ES [.tmp 2] (evW ES n_r5_Near c_r5_Near ⟨[t0, .bad, .bad, .bad, .bad, .bad], M⟩) :=
  ICw_run rfl Tryz.func70 ok_r5_Near (by kernel_rfl) (by kernel_rfl) (by kernel_rfl) M
@[simp] theorem x_r5_Near_r5_Edge : CX ES n_r5_Near n_r5_Edge := cx rfl


end Go.Proofs.YtomlbmbgocmiiaaGreatDoor

/-
  The seat's functions as short code, part 1 (printed by a program of the claim's own).
-/
set_option linter.unusedVariables false
set_option maxRecDepth 100000
namespace Go.Proofs.YtomlbmbgocmiiaaGreatDoor
open Go.Proofs.YtomlbmbgocmiiaaGreatDoor.Sh

/-! drumline/bounds.in -/
def c_bounds_in : C :=
  (.seq (rg 2 2 [] [i' 1 (.box T_api_Config (q 0)), i' 2 (.alloc T_bounds_Numbers)]) (.seq (.seq (rg 8 0 [] [ld 3 T_api_Config 1, ca 4 n_plan_Right #[q 3] #[T_api_Config], i' 5 (.unOp .not T_bool (q 4)), mv 6 5, gd 6 false (ld 7 T_api_Config 1), gd 6 false (ca 8 n_bounds_ranged #[q 7] #[T_api_Config]), gd 6 false (bi 9 .neq T_int (q 8) (ki 0) T_int), i' 10 (.pick (q 6) (kb true) (q 9))]) (.cond (q 10) (.seq (rg 2 0 [] [i' 11 (.build T_bounds_Numbers #[]), ⟨none, .store T_bounds_Numbers (q 2) (q 11), none, none⟩]) .ret) .skip)) (.seq (rg 3 0 [] [ld 12 T_api_Config 1, ca 13 n_bounds_Reckon #[q 12] #[T_api_Config], ⟨none, .store T_bounds_Numbers (q 2) (q 13), none, none⟩]) .ret)))
theorem ok_bounds_in : Tryz.f77.body.map (comp ES n_bounds_in) = some c_bounds_in := by kernel_rfl
theorem b_bounds_in (t0 : SV) (M : Mem) : ICw ES n_bounds_in [t0] M = endS ES [.cell 2 T_bounds_Numbers] (evW ES n_bounds_in c_bounds_in ⟨[t0, .bad, .bad, .bad, .bad, .bad, .bad, .bad, .bad, .bad, .bad, .bad, .bad, .bad], M⟩) :=
  ICw_run rfl Tryz.func77 ok_bounds_in (by kernel_rfl) (by kernel_rfl) (by kernel_rfl) M
@[simp] theorem x_bounds_in_plan_Right : CX ES n_bounds_in n_plan_Right := cx rfl
@[simp] theorem x_bounds_in_bounds_Reckon : CX ES n_bounds_in n_bounds_Reckon := cx rfl
@[simp] theorem x_bounds_in_bounds_ranged : CX ES n_bounds_in n_bounds_ranged := cx rfl

/-! drumline/plan.Right -/
def c_plan_Right : C :=
  (.seq (rg 2 2 [] [i' 1 (.box T_api_Config (q 0)), i' 2 (.assign (kb false))]) (.seq (rg 7 0 [] [ld 6 T_api_Config 1, ca 7 n_plan_Check #[q 6] #[T_api_Config], mv 5 7, xt 8 5 0, xt 9 5 1, as' 3 8, as' 4 9]) (.seq (rg 3 0 [] [mv 10 3, bi 11 .eql T_api_Errno (q 10) (ki 0) T_api_Errno, as' 2 11]) .ret)))
theorem ok_plan_Right : Tryz.f78.body.map (comp ES n_plan_Right) = some c_plan_Right := by kernel_rfl
theorem b_plan_Right (t0 : SV) (M : Mem) : ICw ES n_plan_Right [t0] M = endS ES [.tmp 2] (evW ES n_plan_Right c_plan_Right ⟨[t0, .bad, .bad, .bad, .bad, .bad, .bad, .bad, .bad, .bad, .bad, .bad], M⟩) :=
  ICw_run rfl Tryz.func78 ok_plan_Right (by kernel_rfl) (by kernel_rfl) (by kernel_rfl) M
@[simp] theorem x_plan_Right_plan_Check : CX ES n_plan_Right n_plan_Check := cx rfl

/-! drumline/plan.Other -/
def c_plan_Other : C :=
  (.seq (rg 4 4 [] [i' 2 (.box T_api_Config (q 0)), i' 3 (.box T_api_Port (q 1)), i' 4 (.assign (ki 0)), i' 5 (.assign (ki 0))]) (.seq (rg 16 16 [] [li [] (fa 9 T_api_Config 2 1), li [0] (ld 10 T_sl_api_Link 9), li [] (fa 11 T_api_Port 3 1), li [2] (ld 12 T_int 11), li [0, 1, 2, 3] (i' 13 (.indexAddr T_sl_api_Link (q 10) (q 12))), li [0, 1, 2, 3, 4] (ld 14 T_api_Link 13), li [] (fa 15 T_api_Port 3 3), li [6] (ld 16 T_int 15), li [6, 7] (bi 17 .sub T_int (ki 1) (q 16) T_int), li [0, 1, 2, 3, 4, 5, 6, 7, 8] (ca 18 n_plan_end #[q 14, q 17] #[T_api_Link, T_int]), li [0, 1, 2, 3, 4, 5, 6, 7, 8, 9] (mv 8 18), li [0, 1, 2, 3, 4, 5, 6, 7, 8, 9, 10] (xt 19 8 0), li [0, 1, 2, 3, 4, 5, 6, 7, 8, 9, 10] (xt 20 8 1), li [] (i' 7 (.alloc T_a2_int)), li [0, 1, 2, 3, 4, 5, 6, 7, 8, 9, 10, 11, 13] (as' 6 19), ⟨none, .store T_a2_int (q 7) (q 20), none, some [0, 1, 2, 3, 4, 5, 6, 7, 8, 9, 10, 11, 12, 13, 14]⟩]) (.seq (rg 7 0 [] [mv 21 6, fa 22 T_api_Port 3 2, ld 23 T_int 22, i' 24 (.indexAddr T_a2_int (q 7) (q 23)), ld 25 T_int 24, as' 4 21, as' 5 25]) .ret)))
theorem ok_plan_Other : Tryz.f79.body.map (comp ES n_plan_Other) = some c_plan_Other := by kernel_rfl
theorem b_plan_Other (t0 t1 : SV) (M : Mem) : ICw ES n_plan_Other [t0, t1] M = endS ES [.tmp 4, .tmp 5] (evW ES n_plan_Other c_plan_Other ⟨[t0, t1, .bad, .bad, .bad, .bad, .bad, .bad, .bad, .bad, .bad, .bad, .bad, .bad, .bad, .bad, .bad, .bad, .bad, .bad, .bad, .bad, .bad, .bad, .bad, .bad], M⟩) :=
  ICw_run rfl Tryz.func79 ok_plan_Other (by kernel_rfl) (by kernel_rfl) (by kernel_rfl) M
@[simp] theorem x_plan_Other_plan_end : CX ES n_plan_Other n_plan_end := cx rfl

/-! drumline/plan.index -/
def c_plan_index : C :=
  (.seq (rg 1 0 [] [i' 4 (.assign (kb false))]) (.seq (rg 8 0 [] [mv 5 0, bi 6 .geq T_int (q 5) (ki 0) T_int, mv 7 6, gd 7 true (mv 8 0), gd 7 true (mv 9 1), gd 7 true (bi 10 .lss T_int (q 8) (q 9) T_int), i' 11 (.pick (q 7) (q 10) (kb false)), as' 4 11]) .ret))
theorem ok_plan_index : Tryz.f81.body.map (comp ES n_plan_index) = some c_plan_index := by kernel_rfl
theorem b_plan_index (t0 t1 : SV) (M : Mem) : ICw ES n_plan_index [t0, t1] M = endS ES [.tmp 4] (evW ES n_plan_index c_plan_index ⟨[t0, t1, .bad, .bad, .bad, .bad, .bad, .bad, .bad, .bad, .bad, .bad], M⟩) :=
  ICw_run rfl Tryz.func81 ok_plan_index (by kernel_rfl) (by kernel_rfl) (by kernel_rfl) M

/-! drumline/plan.Ends -/
def c_plan_Ends_B0 : C :=
  (.seq (rg 1 0 [] [bi 20 .lss T_int (q 19) (ki 2) T_int]) (.seq (.cond (q 20) .skip (.exit 2)) (.seq (.block 3 (.seq (rg 2 0 [20, 21] [mv 21 19, as' 8 21]) (.seq (rg 9 9 [22, 23, 24, 25, 26, 27] [ld 23 T_api_Link 7, mv 24 8, ca 25 n_plan_end #[q 23, q 24] #[T_api_Link, T_int], mv 22 25, xt 26 22 0, xt 27 22 1, i' 10 (.alloc T_a2_int), as' 9 26, ⟨none, .store T_a2_int (q 10) (q 27), none, none⟩]) (.seq (rg 3 0 [9, 28, 29] [mv 28 9, mv 29 1, bi 30 .eql T_int (q 28) (q 29) T_int]) (.cond (q 30) (rg 14 14 [8, 10, 30, 31, 32, 33, 34, 35, 36, 37, 38, 39, 40, 41, 42, 43] [mv 31 5, i' 32 (.indexAddr T_a2_int (q 10) (ki 0)), ld 33 T_int 32, mv 34 6, mv 35 8, i' 36 (.build T_api_Port #[(0, q 33), (1, q 34), (3, q 35)]), i' 37 (.indexAddr T_a2_int (q 10) (ki 1)), ld 38 T_int 37, mv 39 6, mv 40 8, i' 41 (.build T_api_Port #[(0, q 38), (1, q 39), (2, (ki 1)), (3, q 40)]), i' 42 (.buildSlice T_sl_api_Port 2 #[(0, q 36), (1, q 41)]), i' 43 (.call { callee := .builtin .append, args := #[q 31, q 42], argTypes := #[T_sl_api_Port, T_sl_api_Port] }), as' 5 43]) .skip))))) (rg 2 0 [8, 10, 30, 44] [bi 44 .add T_int (q 19) (ki 1) T_int, mv 19 44]))))
def c_plan_Ends_L0 : C := .loop c_plan_Ends_B0
/-- What is live at the loop's head: t1 part, t5 out, t6 i, t7 l, t12, t13, t14, t19 -/
abbrev h_plan_Ends_0 (t1 t5 t6 t7 t12 t13 t14 t19 : SV) : List SV := [.bad, t1, .bad, .bad, .bad, t5, t6, t7, .bad, .bad, .bad, .bad, t12, t13, t14, .bad, .bad, .bad, .bad, t19, .bad, .bad, .bad, .bad, .bad, .bad, .bad, .bad, .bad, .bad, .bad, .bad, .bad, .bad, .bad, .bad, .bad, .bad, .bad, .bad, .bad, .bad, .bad, .bad, .bad, .bad, .bad, .bad, .bad]
def c_plan_Ends_B1 : C :=
  (.seq (rg 1 0 [] [bi 15 .lss T_int (q 14) (q 13) T_int]) (.seq (.cond (q 15) .skip (.exit 0)) (.seq (.block 1 (.seq (rg 6 6 [15, 16, 17, 18] [mv 16 14, i' 17 (.indexAddr T_sl_api_Link (q 12) (q 14)), ld 18 T_api_Link 17, i' 7 (.alloc T_api_Link), as' 6 16, ⟨none, .store T_api_Link (q 7) (q 18), none, none⟩]) (.seq (rg 1 0 [] [i' 19 (.move (ki 0))]) (.block 2 c_plan_Ends_L0)))) (rg 2 0 [6, 7, 19, 20, 45] [bi 45 .add T_int (q 14) (ki 1) T_int, mv 14 45]))))
def c_plan_Ends_L1 : C := .loop c_plan_Ends_B1
/-- What is live at the loop's head: t1 part, t5 out, t12, t13, t14 -/
abbrev h_plan_Ends_1 (t1 t5 t12 t13 t14 : SV) : List SV := [.bad, t1, .bad, .bad, .bad, t5, .bad, .bad, .bad, .bad, .bad, .bad, t12, t13, t14, .bad, .bad, .bad, .bad, .bad, .bad, .bad, .bad, .bad, .bad, .bad, .bad, .bad, .bad, .bad, .bad, .bad, .bad, .bad, .bad, .bad, .bad, .bad, .bad, .bad, .bad, .bad, .bad, .bad, .bad, .bad, .bad, .bad, .bad]
def c_plan_Ends : C :=
  (.seq (rg 2 2 [0, 4] [i' 2 (.box T_api_Config (q 0)), i' 4 (.assign (.const (.slice none 0 0)))]) (.seq (rg 1 0 [] [i' 5 (.assign (.const (.slice none 0 0)))]) (.seq (.seq (rg 4 0 [2, 11] [fa 11 T_api_Config 2 1, ld 12 T_sl_api_Link 11, le' 13 12 T_sl_api_Link, i' 14 (.move (ki 0))]) (.block 0 c_plan_Ends_L1)) (.seq (rg 2 2 [1, 12, 13, 14, 15, 46, 47] [mv 46 5, ca 47 n_slices_SortFunc_sl_api_Port_api_Port #[q 46, .func n_plan_Ends_1] #[T_sl_api_Port, T_func_api_Port_api_Port_int]]) (.seq (rg 2 0 [5, 48] [mv 48 5, as' 4 48]) .ret)))))
theorem ok_plan_Ends : Tryz.f82.body.map (comp ES n_plan_Ends) = some c_plan_Ends := by kernel_rfl
theorem b_plan_Ends (t0 t1 : SV) (M : Mem) : ICw ES n_plan_Ends [t0, t1] M = endS ES [.tmp 4] (evW ES n_plan_Ends c_plan_Ends ⟨[t0, t1, .bad, .bad, .bad, .bad, .bad, .bad, .bad, .bad, .bad, .bad, .bad, .bad, .bad, .bad, .bad, .bad, .bad, .bad, .bad, .bad, .bad, .bad, .bad, .bad, .bad, .bad, .bad, .bad, .bad, .bad, .bad, .bad, .bad, .bad, .bad, .bad, .bad, .bad, .bad, .bad, .bad, .bad, .bad, .bad, .bad, .bad, .bad], M⟩) :=
  ICw_run rfl Tryz.func82 ok_plan_Ends (by kernel_rfl) (by kernel_rfl) (by kernel_rfl) M
@[simp] theorem x_plan_Ends_plan_end : CX ES n_plan_Ends n_plan_end := cx rfl
@[simp] theorem x_plan_Ends_slices_SortFunc_sl_api_Port_api_Port : CI ES n_plan_Ends n_slices_SortFunc_sl_api_Port_api_Port := ci rfl
@[simp] theorem x_plan_Ends_plan_Ends_1 : CX ES n_plan_Ends n_plan_Ends_1 := cx rfl

/-! drumline/drumlineref5.Check -/
def c_r5_Check_B0 : C :=
  (.seq (.seq (rg 5 0 [20, 21, 22, 23] [mv 20 4, fa 21 T_api_Config 1 0, ld 22 T_sl_api_Part 21, le' 23 22 T_sl_api_Part, bi 24 .lss T_int (q 20) (q 23) T_int]) (.cond (q 24) .skip (.exit 0))) (.seq (.block 1 (.seq (rg 7 7 [24, 27, 28, 29, 30, 31] [fa 27 T_api_Config 1 0, ld 28 T_sl_api_Part 27, mv 29 4, i' 30 (.indexAddr T_sl_api_Part (q 28) (q 29)), ld 31 T_api_Part 30, i' 5 (.alloc T_api_Part), ⟨none, .store T_api_Part (q 5) (q 31), none, none⟩]) (.seq (rg 27 0 [5, 32, 33, 34, 35, 36, 37, 38, 39, 40, 41, 42, 43, 44, 45, 46, 47, 48, 49, 50, 51, 52, 53, 54, 55, 56, 57] [fa 32 T_api_Part 5 0, ld 33 T_int 32, bi 34 .lss T_int (q 33) (ki 1) T_int, mv 35 34, gd 35 false (fa 36 T_api_Part 5 0), gd 35 false (ld 37 T_int 36), gd 35 false (bi 38 .gtr T_int (q 37) (ki 12) T_int), i' 39 (.pick (q 35) (kb true) (q 38)), mv 40 39, gd 40 false (fa 41 T_api_Part 5 1), gd 40 false (ld 42 T_int 41), gd 40 false (bi 43 .lss T_int (q 42) (ki 0) T_int), i' 44 (.pick (q 40) (kb true) (q 43)), mv 45 44, gd 45 false (fa 46 T_api_Part 5 1), gd 45 false (ld 47 T_int 46), gd 45 false (bi 48 .gtr T_int (q 47) (ki 3) T_int), i' 49 (.pick (q 45) (kb true) (q 48)), mv 50 49, gd 50 false (fa 51 T_api_Part 5 0), gd 50 false (ld 52 T_int 51), gd 50 false (fa 53 T_api_Part 5 1), gd 50 false (ld 54 T_int 53), gd 50 false (bi 55 .mul T_int (ki 3) (q 54) T_int), gd 50 false (bi 56 .add T_int (q 55) (ki 1) T_int), gd 50 false (bi 57 .lss T_int (q 52) (q 56) T_int), i' 58 (.pick (q 50) (kb true) (q 57))]) (.cond (q 58) (.seq (rg 3 0 [1, 4, 58, 59] [mv 59 4, i' 2 (.assign (ki 8)), as' 3 59]) .ret) .skip)))) (rg 3 0 [25, 26, 58] [mv 25 4, bi 26 .add T_int (q 25) (ki 1) T_int, as' 4 26])))
def c_r5_Check_L0 : C := .loop c_r5_Check_B0
/-- What is live at the loop's head: t1 c, t4 i -/
abbrev h_r5_Check_0 (t1 t4 : SV) : List SV := [.bad, t1, .bad, .bad, t4, .bad, .bad, .bad, .bad, .bad, .bad, .bad, .bad, .bad, .bad, .bad, .bad, .bad, .bad, .bad, .bad, .bad, .bad, .bad, .bad, .bad, .bad, .bad, .bad, .bad, .bad, .bad, .bad, .bad, .bad, .bad, .bad, .bad, .bad, .bad, .bad, .bad, .bad, .bad, .bad, .bad, .bad, .bad, .bad, .bad, .bad, .bad, .bad, .bad, .bad, .bad, .bad, .bad, .bad, .bad, .bad, .bad, .bad, .bad, .bad, .bad, .bad, .bad, .bad, .bad, .bad, .bad, .bad, .bad, .bad, .bad, .bad, .bad, .bad, .bad, .bad, .bad, .bad, .bad, .bad, .bad, .bad, .bad, .bad, .bad, .bad, .bad]
def c_r5_Check_B1 : C :=
  (.seq (.seq (rg 5 0 [64, 65, 66, 67] [mv 64 6, fa 65 T_api_Config 1 1, ld 66 T_sl_api_Link 65, le' 67 66 T_sl_api_Link, bi 68 .lss T_int (q 64) (q 67) T_int]) (.cond (q 68) .skip (.exit 2))) (.seq (.block 3 (.seq (rg 4 0 [68, 71, 72, 73] [ld 71 T_api_Config 1, mv 72 6, ca 73 n_r5_link #[q 71, q 72] #[T_api_Config, T_int], as' 7 73]) (.seq (rg 2 0 [74] [mv 74 7, bi 75 .neq T_api_Errno (q 74) (ki 0) T_api_Errno]) (.cond (q 75) (.seq (rg 4 0 [1, 6, 7, 75, 76, 77] [mv 76 7, mv 77 6, as' 2 76, as' 3 77]) .ret) .skip)))) (rg 3 0 [7, 69, 70, 75] [mv 69 6, bi 70 .add T_int (q 69) (ki 1) T_int, as' 6 70])))
def c_r5_Check_L1 : C := .loop c_r5_Check_B1
/-- What is live at the loop's head: t1 c, t6 i -/
abbrev h_r5_Check_1 (t1 t6 : SV) : List SV := [.bad, t1, .bad, .bad, .bad, .bad, t6, .bad, .bad, .bad, .bad, .bad, .bad, .bad, .bad, .bad, .bad, .bad, .bad, .bad, .bad, .bad, .bad, .bad, .bad, .bad, .bad, .bad, .bad, .bad, .bad, .bad, .bad, .bad, .bad, .bad, .bad, .bad, .bad, .bad, .bad, .bad, .bad, .bad, .bad, .bad, .bad, .bad, .bad, .bad, .bad, .bad, .bad, .bad, .bad, .bad, .bad, .bad, .bad, .bad, .bad, .bad, .bad, .bad, .bad, .bad, .bad, .bad, .bad, .bad, .bad, .bad, .bad, .bad, .bad, .bad, .bad, .bad, .bad, .bad, .bad, .bad, .bad, .bad, .bad, .bad, .bad, .bad, .bad, .bad, .bad, .bad]
def c_r5_Check_B2 : C :=
  (.seq (.seq (rg 4 0 [80, 81, 82] [mv 80 9, mv 81 8, le' 82 81 T_sl_int, bi 83 .lss T_int (q 80) (q 82) T_int]) (.cond (q 83) .skip (.exit 4))) (.seq (.block 5 (.seq (rg 5 0 [83, 86, 87, 88, 89] [mv 86 8, mv 87 9, i' 88 (.indexAddr T_sl_int (q 86) (q 87)), ld 89 T_int 88, bi 90 .lss T_int (q 89) (ki 0) T_int]) (.cond (q 90) (.seq (rg 3 0 [8, 9, 90, 91] [mv 91 9, i' 2 (.assign (ki 13)), as' 3 91]) .ret) .skip))) (rg 3 0 [84, 85, 90] [mv 84 9, bi 85 .add T_int (q 84) (ki 1) T_int, as' 9 85])))
def c_r5_Check_L2 : C := .loop c_r5_Check_B2
/-- What is live at the loop's head: t8 d, t9 i -/
abbrev h_r5_Check_2 (t8 t9 : SV) : List SV := [.bad, .bad, .bad, .bad, .bad, .bad, .bad, .bad, t8, t9, .bad, .bad, .bad, .bad, .bad, .bad, .bad, .bad, .bad, .bad, .bad, .bad, .bad, .bad, .bad, .bad, .bad, .bad, .bad, .bad, .bad, .bad, .bad, .bad, .bad, .bad, .bad, .bad, .bad, .bad, .bad, .bad, .bad, .bad, .bad, .bad, .bad, .bad, .bad, .bad, .bad, .bad, .bad, .bad, .bad, .bad, .bad, .bad, .bad, .bad, .bad, .bad, .bad, .bad, .bad, .bad, .bad, .bad, .bad, .bad, .bad, .bad, .bad, .bad, .bad, .bad, .bad, .bad, .bad, .bad, .bad, .bad, .bad, .bad, .bad, .bad, .bad, .bad, .bad, .bad, .bad, .bad]
def c_r5_Check : C :=
  (.seq (rg 3 3 [0, 2, 3] [i' 1 (.box T_api_Config (q 0)), i' 2 (.assign (ki 0)), i' 3 (.assign (ki 0))]) (.seq (.seq (rg 10 0 [10, 11, 12, 13, 14, 15, 16, 17, 18] [fa 10 T_api_Config 1 0, ld 11 T_sl_api_Part 10, le' 12 11 T_sl_api_Part, bi 13 .lss T_int (q 12) (ki 1) T_int, mv 14 13, gd 14 false (fa 15 T_api_Config 1 0), gd 14 false (ld 16 T_sl_api_Part 15), gd 14 false (le' 17 16 T_sl_api_Part), gd 14 false (bi 18 .gtr T_int (q 17) (ki 6) T_int), i' 19 (.pick (q 14) (kb true) (q 18))]) (.cond (q 19) (.seq (rg 2 0 [1, 19] [i' 2 (.assign (ki 7)), i' 3 (.assign (ki 0))]) .ret) .skip)) (.seq (.seq (rg 1 0 [19] [i' 4 (.assign (ki 0))]) (.block 0 c_r5_Check_L0)) (.seq (.seq (rg 4 0 [4, 24, 60, 61, 62] [fa 60 T_api_Config 1 1, ld 61 T_sl_api_Link 60, le' 62 61 T_sl_api_Link, bi 63 .gtr T_int (q 62) (ki 10) T_int]) (.cond (q 63) (.seq (rg 2 0 [1, 63] [i' 2 (.assign (ki 9)), i' 3 (.assign (ki 0))]) .ret) .skip)) (.seq (.seq (rg 1 0 [63] [i' 6 (.assign (ki 0))]) (.block 2 c_r5_Check_L1)) (.seq (rg 3 0 [1, 6, 68, 78, 79] [ld 78 T_api_Config 1, ca 79 n_r5_dists #[q 78, (ki 0)] #[T_api_Config, T_int], as' 8 79]) (.seq (.seq (rg 1 0 [] [i' 9 (.assign (ki 0))]) (.block 4 c_r5_Check_L2)) (.seq (rg 2 0 [8, 9, 83] [i' 2 (.assign (ki 0)), i' 3 (.assign (ki 0))]) .ret))))))))
theorem ok_r5_Check : Tryz.f83.body.map (comp ES n_r5_Check) = some c_r5_Check := by kernel_rfl
theorem b_r5_Check (t0 : SV) (M : Mem) : ICw ES n_r5_Check [t0] M = endS ES [.tmp 2, .tmp 3] (evW ES n_r5_Check c_r5_Check ⟨[t0, .bad, .bad, .bad, .bad, .bad, .bad, .bad, .bad, .bad, .bad, .bad, .bad, .bad, .bad, .bad, .bad, .bad, .bad, .bad, .bad, .bad, .bad, .bad, .bad, .bad, .bad, .bad, .bad, .bad, .bad, .bad, .bad, .bad, .bad, .bad, .bad, .bad, .bad, .bad, .bad, .bad, .bad, .bad, .bad, .bad, .bad, .bad, .bad, .bad, .bad, .bad, .bad, .bad, .bad, .bad, .bad, .bad, .bad, .bad, .bad, .bad, .bad, .bad, .bad, .bad, .bad, .bad, .bad, .bad, .bad, .bad, .bad, .bad, .bad, .bad, .bad, .bad, .bad, .bad, .bad, .bad, .bad, .bad, .bad, .bad, .bad, .bad, .bad, .bad, .bad, .bad], M⟩) :=
  ICw_run rfl Tryz.func83 ok_r5_Check (by kernel_rfl) (by kernel_rfl) (by kernel_rfl) M
@[simp] theorem x_r5_Check_r5_dists : CX ES n_r5_Check n_r5_dists := cx rfl
@[simp] theorem x_r5_Check_r5_link : CX ES n_r5_Check n_r5_link := cx rfl

/-! drumline/drumlineref5.is -/
def c_r5_is : C :=
  (.seq (rg 1 0 [] [i' 4 (.assign (kb false))]) (.seq (rg 8 0 [] [mv 5 0, bi 6 .geq T_int (q 5) (ki 0) T_int, mv 7 6, gd 7 true (mv 8 0), gd 7 true (mv 9 1), gd 7 true (bi 10 .lss T_int (q 8) (q 9) T_int), i' 11 (.pick (q 7) (q 10) (kb false)), as' 4 11]) .ret))
theorem ok_r5_is : Tryz.f84.body.map (comp ES n_r5_is) = some c_r5_is := by kernel_rfl
theorem b_r5_is (t0 t1 : SV) (M : Mem) : ICw ES n_r5_is [t0, t1] M = endS ES [.tmp 4] (evW ES n_r5_is c_r5_is ⟨[t0, t1, .bad, .bad, .bad, .bad, .bad, .bad, .bad, .bad, .bad, .bad], M⟩) :=
  ICw_run rfl Tryz.func84 ok_r5_is (by kernel_rfl) (by kernel_rfl) (by kernel_rfl) M

/-! drumline/drumlineref26.ports -/
def c_r26_ports_B0 : C :=
  (.seq (.seq (rg 5 0 [7, 8, 9, 10] [mv 7 6, fa 8 T_api_Config 2 1, ld 9 T_sl_api_Link 8, le' 10 9 T_sl_api_Link, bi 11 .lss T_int (q 7) (q 10) T_int]) (.cond (q 11) .skip (.exit 0))) (.seq (.block 1 (.seq (rg 18 0 [11, 14, 15, 16, 17, 18, 19, 20, 21, 22, 23, 24, 25, 26, 27, 28, 29, 30] [fa 14 T_api_Config 2 1, ld 15 T_sl_api_Link 14, mv 16 6, i' 17 (.indexAddr T_sl_api_Link (q 15) (q 16)), fa 18 T_api_Link 17 0, ld 19 T_int 18, mv 20 1, bi 21 .eql T_int (q 19) (q 20) T_int, mv 22 21, gd 22 false (fa 23 T_api_Config 2 1), gd 22 false (ld 24 T_sl_api_Link 23), gd 22 false (mv 25 6), gd 22 false (i' 26 (.indexAddr T_sl_api_Link (q 24) (q 25))), gd 22 false (fa 27 T_api_Link 26 1), gd 22 false (ld 28 T_int 27), gd 22 false (mv 29 1), gd 22 false (bi 30 .eql T_int (q 28) (q 29) T_int), i' 31 (.pick (q 22) (kb true) (q 30))]) (.cond (q 31) (rg 3 0 [31, 32, 33] [mv 32 5, bi 33 .add T_int (q 32) (ki 2) T_int, as' 5 33]) .skip))) (rg 3 0 [12, 13, 31] [mv 12 6, bi 13 .add T_int (q 12) (ki 1) T_int, as' 6 13])))
def c_r26_ports_L0 : C := .loop c_r26_ports_B0
/-- What is live at the loop's head: t1 part, t2 c, t5 n, t6 i -/
abbrev h_r26_ports_0 (t1 t2 t5 t6 : SV) : List SV := [.bad, t1, t2, .bad, .bad, t5, t6, .bad, .bad, .bad, .bad, .bad, .bad, .bad, .bad, .bad, .bad, .bad, .bad, .bad, .bad, .bad, .bad, .bad, .bad, .bad, .bad, .bad, .bad, .bad, .bad, .bad, .bad, .bad, .bad]
def c_r26_ports : C :=
  (.seq (rg 2 2 [0, 4] [i' 2 (.box T_api_Config (q 0)), i' 4 (.assign (ki 0))]) (.seq (rg 1 0 [] [i' 5 (.assign (ki 0))]) (.seq (.seq (rg 1 0 [] [i' 6 (.assign (ki 0))]) (.block 0 c_r26_ports_L0)) (.seq (rg 2 0 [1, 2, 5, 6, 11, 34] [mv 34 5, as' 4 34]) .ret))))
theorem ok_r26_ports : Tryz.f85.body.map (comp ES n_r26_ports) = some c_r26_ports := by kernel_rfl
theorem b_r26_ports (t0 t1 : SV) (M : Mem) : ICw ES n_r26_ports [t0, t1] M = endS ES [.tmp 4] (evW ES n_r26_ports c_r26_ports ⟨[t0, t1, .bad, .bad, .bad, .bad, .bad, .bad, .bad, .bad, .bad, .bad, .bad, .bad, .bad, .bad, .bad, .bad, .bad, .bad, .bad, .bad, .bad, .bad, .bad, .bad, .bad, .bad, .bad, .bad, .bad, .bad, .bad, .bad, .bad], M⟩) :=
  ICw_run rfl Tryz.func85 ok_r26_ports (by kernel_rfl) (by kernel_rfl) (by kernel_rfl) M

/-! drumline/drumlineref5.ranged -/
def c_r5_ranged : C :=
  (.seq (rg 2 2 [] [i' 1 (.box T_api_Config (q 0)), i' 2 (.assign (kb false))]) (.seq (rg 8 0 [] [ld 3 T_api_Config 1, ca 4 n_r5_Good #[q 3, (ki 0)] #[T_api_Config, T_int], mv 5 4, gd 5 true (ld 6 T_api_Config 1), gd 5 true (ca 7 n_r5_out #[q 6] #[T_api_Config]), gd 5 true (bi 8 .eql T_int (q 7) (ki 0) T_int), i' 9 (.pick (q 5) (q 8) (kb false)), as' 2 9]) .ret))
theorem ok_r5_ranged : Tryz.f86.body.map (comp ES n_r5_ranged) = some c_r5_ranged := by kernel_rfl
theorem b_r5_ranged (t0 : SV) (M : Mem) : ICw ES n_r5_ranged [t0] M = endS ES [.tmp 2] (evW ES n_r5_ranged c_r5_ranged ⟨[t0, .bad, .bad, .bad, .bad, .bad, .bad, .bad, .bad, .bad], M⟩) :=
  ICw_run rfl Tryz.func86 ok_r5_ranged (by kernel_rfl) (by kernel_rfl) (by kernel_rfl) M
@[simp] theorem x_r5_ranged_r5_Good : CX ES n_r5_ranged n_r5_Good := cx rfl
@[simp] theorem x_r5_ranged_r5_out : CX ES n_r5_ranged n_r5_out := cx rfl

/-! drumline/drumlineref5.edge -/
def c_r5_edge : C :=
  (.seq (rg 2 2 [] [i' 1 (.box T_api_Config (q 0)), i' 2 (.assign (ki 0))]) (.seq (rg 9 0 [] [fa 3 T_api_Config 1 6, ld 4 T_int 3, bi 5 .mul T_int64 (ki 2) (q 4) T_int64, fa 6 T_api_Config 1 2, ld 7 T_int 6, bi 8 .mul T_int64 (q 5) (q 7) T_int64, ca 9 n_r5_up #[q 8] #[T_int64], bi 10 .add T_int64 (q 9) (ki 1) T_int64, as' 2 10]) .ret))
theorem ok_r5_edge : Tryz.f87.body.map (comp ES n_r5_edge) = some c_r5_edge := by kernel_rfl
theorem b_r5_edge (t0 : SV) (M : Mem) : ICw ES n_r5_edge [t0] M = endS ES [.tmp 2] (evW ES n_r5_edge c_r5_edge ⟨[t0, .bad, .bad, .bad, .bad, .bad, .bad, .bad, .bad, .bad, .bad], M⟩) :=
  ICw_run rfl Tryz.func87 ok_r5_edge (by kernel_rfl) (by kernel_rfl) (by kernel_rfl) M
@[simp] theorem x_r5_edge_r5_up : CX ES n_r5_edge n_r5_up := cx rfl

/-! drumline/bounds.Fits -/
def c_bounds_Fits : C :=
  (.seq (rg 3 3 [] [i' 1 (.box T_api_Config (q 0)), i' 2 (.assign (ki 0)), i' 3 (.assign (ki 0))]) (.seq (.seq (rg 7 0 [] [ld 9 T_api_Config 1, ca 10 n_plan_Check #[q 9] #[T_api_Config], mv 8 10, xt 11 8 0, xt 12 8 1, as' 4 11, as' 5 12]) (.seq (rg 2 0 [] [mv 13 4, bi 14 .neq T_api_Errno (q 13) (ki 0) T_api_Errno]) (.cond (q 14) (.seq (rg 4 0 [] [mv 15 4, mv 16 5, as' 2 15, as' 3 16]) .ret) .skip))) (.seq (rg 3 0 [] [ld 17 T_api_Config 1, ca 18 n_bounds_fits #[q 17] #[T_api_Config], as' 6 18]) (.seq (rg 1 1 [] [i' 7 (.alloc T_p_bounds_fault)]) (.seq (.seq (rg 8 8 [] [mv 19 6, i' 20 (.makeInterface T_p_p_bounds_fault (q 7)), ca 21 n_errors_As #[q 19, q 20] #[T_error, T_interface], mv 22 21, gd 22 true (mv 23 6), gd 22 true (i' 24 (.load T_error (.global 0))), gd 22 true (ca 25 n_errors_Is #[q 23, q 24] #[T_error, T_error]), i' 26 (.pick (q 22) (q 25) (kb false))]) (.cond (q 26) (.seq (rg 6 0 [] [ld 27 T_p_bounds_fault 7, i' 28 (.nilCheck (q 27)), fa 29 T_bounds_fault 28 0, ld 30 T_int 29, i' 2 (.assign (ki 14)), as' 3 30]) .ret) .skip)) (.seq (rg 2 0 [] [i' 2 (.assign (ki 0)), i' 3 (.assign (ki 0))]) .ret))))))
theorem ok_bounds_Fits : Tryz.f91.body.map (comp ES n_bounds_Fits) = some c_bounds_Fits := by kernel_rfl
theorem b_bounds_Fits (t0 : SV) (M : Mem) : ICw ES n_bounds_Fits [t0] M = endS ES [.tmp 2, .tmp 3] (evW ES n_bounds_Fits c_bounds_Fits ⟨[t0, .bad, .bad, .bad, .bad, .bad, .bad, .bad, .bad, .bad, .bad, .bad, .bad, .bad, .bad, .bad, .bad, .bad, .bad, .bad, .bad, .bad, .bad, .bad, .bad, .bad, .bad, .bad, .bad, .bad, .bad], M⟩) :=
  ICw_run rfl Tryz.func91 ok_bounds_Fits (by kernel_rfl) (by kernel_rfl) (by kernel_rfl) M
@[simp] theorem x_bounds_Fits_plan_Check : CX ES n_bounds_Fits n_plan_Check := cx rfl
@[simp] theorem x_bounds_Fits_bounds_fits : CX ES n_bounds_Fits n_bounds_fits := cx rfl
@[simp] theorem x_bounds_Fits_errors_As : CI ES n_bounds_Fits n_errors_As := ci rfl
@[simp] theorem x_bounds_Fits_errors_Is : CI ES n_bounds_Fits n_errors_Is := ci rfl

/-! slices.Max[[]int,int] -/
def c_slices_Max_sl_int_int_B0 : C :=
  (.seq (.seq (rg 4 0 [12, 13, 14] [mv 12 4, mv 13 0, le' 14 13 T_sl_int, bi 15 .lss T_int (q 12) (q 14) T_int]) (.cond (q 15) .skip (.exit 0))) (.seq (.block 1 (rg 7 0 [15, 18, 19, 20, 21, 22, 23] [mv 18 3, mv 19 0, mv 20 4, i' 21 (.indexAddr T_sl_int (q 19) (q 20)), ld 22 T_int 21, i' 23 (.call { callee := .builtin .max, args := #[q 18, q 22], argTypes := #[T_int, T_int] }), as' 3 23])) (rg 3 0 [16, 17] [mv 16 4, bi 17 .add T_int (q 16) (ki 1) T_int, as' 4 17])))
def c_slices_Max_sl_int_int_L0 : C := .loop c_slices_Max_sl_int_int_B0
/-- What is live at the loop's head: t0 x, t3 m, t4 i -/
abbrev h_slices_Max_sl_int_int_0 (t0 t3 t4 : SV) : List SV := [t0, .bad, .bad, t3, t4, .bad, .bad, .bad, .bad, .bad, .bad, .bad, .bad, .bad, .bad, .bad, .bad, .bad, .bad, .bad, .bad, .bad, .bad, .bad, .bad]
def c_slices_Max_sl_int_int : C :=
  (.seq (rg 1 0 [2] [i' 2 (.assign (ki 0))]) (.seq (.seq (rg 3 0 [5, 6] [mv 5 0, le' 6 5 T_sl_int, bi 7 .lss T_int (q 6) (ki 1) T_int]) (.cond (q 7) (rg 2 0 [7, 8] [i' 8 (.makeInterface T_string (.const (.string ⟨#[UInt8.ofNat 115, UInt8.ofNat 108, UInt8.ofNat 105, UInt8.ofNat 99, UInt8.ofNat 101, UInt8.ofNat 115, UInt8.ofNat 46, UInt8.ofNat 77, UInt8.ofNat 97, UInt8.ofNat 120, UInt8.ofNat 58, UInt8.ofNat 32, UInt8.ofNat 101, UInt8.ofNat 109, UInt8.ofNat 112, UInt8.ofNat 116, UInt8.ofNat 121, UInt8.ofNat 32, UInt8.ofNat 108, UInt8.ofNat 105, UInt8.ofNat 115, UInt8.ofNat 116]⟩))), ⟨none, .panic (q 8), none, none⟩]) .skip)) (.seq (rg 4 0 [7, 9, 10, 11] [mv 9 0, i' 10 (.indexAddr T_sl_int (q 9) (ki 0)), ld 11 T_int 10, as' 3 11]) (.seq (.seq (rg 1 0 [] [i' 4 (.assign (ki 1))]) (.block 0 c_slices_Max_sl_int_int_L0)) (.seq (rg 2 0 [0, 3, 4, 15, 24] [mv 24 3, as' 2 24]) .ret)))))
theorem ok_slices_Max_sl_int_int : Tryz.f92.body.map (comp ES n_slices_Max_sl_int_int) = some c_slices_Max_sl_int_int := by kernel_rfl
theorem b_slices_Max_sl_int_int (t0 : SV) (M : Mem) : ICw ES n_slices_Max_sl_int_int [t0] M = endS ES [.tmp 2] (evW ES n_slices_Max_sl_int_int c_slices_Max_sl_int_int ⟨[t0, .bad, .bad, .bad, .bad, .bad, .bad, .bad, .bad, .bad, .bad, .bad, .bad, .bad, .bad, .bad, .bad, .bad, .bad, .bad, .bad, .bad, .bad, .bad, .bad], M⟩) :=
  ICw_run rfl Tryz.func92 ok_slices_Max_sl_int_int (by kernel_rfl) (by kernel_rfl) (by kernel_rfl) M

/-! drumline/plan.Dists -/
def c_plan_Dists_B0 : C :=
  (.seq (rg 1 0 [] [bi 43 .lss T_int (q 42) (q 41) T_int]) (.seq (.cond (q 43) .skip (.exit 4)) (.seq (.block 5 (.seq (rg 4 4 [43, 44, 45] [i' 44 (.indexAddr T_sl_a2_int (q 40) (q 42)), ld 45 T_a2_int 44, i' 11 (.alloc T_a2_int), ⟨none, .store T_a2_int (q 11) (q 45), none, none⟩]) (.seq (rg 15 0 [46, 47, 48, 49, 50, 51, 52, 53, 54, 55, 56, 57, 58, 59] [mv 46 5, i' 47 (.indexAddr T_a2_int (q 11) (ki 0)), ld 48 T_int 47, i' 49 (.indexAddr T_sl_int (q 46) (q 48)), ld 50 T_int 49, mv 51 6, bi 52 .eql T_int (q 50) (q 51) T_int, mv 53 52, gd 53 true (mv 54 5), gd 53 true (i' 55 (.indexAddr T_a2_int (q 11) (ki 1))), gd 53 true (ld 56 T_int 55), gd 53 true (i' 57 (.indexAddr T_sl_int (q 54) (q 56))), gd 53 true (ld 58 T_int 57), gd 53 true (bi 59 .lss T_int (q 58) (ki 0) T_int), i' 60 (.pick (q 53) (q 59) (kb false))]) (.cond (q 60) (rg 8 0 [11, 60, 61, 62, 63, 64, 65, 66] [mv 61 5, i' 62 (.indexAddr T_a2_int (q 11) (ki 1)), ld 63 T_int 62, mv 64 6, bi 65 .add T_int (q 64) (ki 1) T_int, i' 66 (.indexAddr T_sl_int (q 61) (q 63)), ⟨none, .store T_int (q 66) (q 65), none, none⟩, i' 7 (.assign (kb true))]) .skip)))) (rg 2 0 [11, 60, 67] [bi 67 .add T_int (q 42) (ki 1) T_int, mv 42 67]))))
def c_plan_Dists_L0 : C := .loop c_plan_Dists_B0
/-- What is live at the loop's head: t2 c, t5 out, t6 d, t7 more, t24, t25, t26, t40, t41, t42 -/
abbrev h_plan_Dists_0 (t2 t5 t6 t7 t24 t25 t26 t40 t41 t42 : SV) : List SV := [.bad, .bad, t2, .bad, .bad, t5, t6, t7, .bad, .bad, .bad, .bad, .bad, .bad, .bad, .bad, .bad, .bad, .bad, .bad, .bad, .bad, .bad, .bad, t24, t25, t26, .bad, .bad, .bad, .bad, .bad, .bad, .bad, .bad, .bad, .bad, .bad, .bad, .bad, t40, t41, t42, .bad, .bad, .bad, .bad, .bad, .bad, .bad, .bad, .bad, .bad, .bad, .bad, .bad, .bad, .bad, .bad, .bad, .bad, .bad, .bad, .bad, .bad, .bad, .bad, .bad, .bad, .bad]
def c_plan_Dists_B1 : C :=
  (.seq (rg 1 0 [] [bi 27 .lss T_int (q 26) (q 25) T_int]) (.seq (.cond (q 27) .skip (.exit 2)) (.seq (.block 3 (.seq (rg 4 4 [27, 28, 29] [i' 28 (.indexAddr T_sl_api_Link (q 24) (q 26)), ld 29 T_api_Link 28, i' 9 (.alloc T_api_Link), ⟨none, .store T_api_Link (q 9) (q 29), none, none⟩]) (.seq (rg 13 13 [9, 30, 31, 32, 33, 34, 35, 36, 37, 38, 39] [fa 30 T_api_Link 9 0, ld 31 T_int 30, fa 32 T_api_Link 9 1, ld 33 T_int 32, i' 34 (.build T_a2_int #[(0, q 31), (1, q 33)]), fa 35 T_api_Link 9 1, ld 36 T_int 35, fa 37 T_api_Link 9 0, ld 38 T_int 37, i' 39 (.build T_a2_int #[(0, q 36), (1, q 38)]), i' 40 (.buildSlice T_sl_a2_int 2 #[(0, q 34), (1, q 39)]), le' 41 40 T_sl_a2_int, i' 42 (.move (ki 0))]) (.block 4 c_plan_Dists_L0)))) (rg 2 0 [40, 41, 42, 43, 68] [bi 68 .add T_int (q 26) (ki 1) T_int, mv 26 68]))))
def c_plan_Dists_L1 : C := .loop c_plan_Dists_B1
/-- What is live at the loop's head: t2 c, t5 out, t6 d, t7 more, t24, t25, t26 -/
abbrev h_plan_Dists_1 (t2 t5 t6 t7 t24 t25 t26 : SV) : List SV := [.bad, .bad, t2, .bad, .bad, t5, t6, t7, .bad, .bad, .bad, .bad, .bad, .bad, .bad, .bad, .bad, .bad, .bad, .bad, .bad, .bad, .bad, .bad, t24, t25, t26, .bad, .bad, .bad, .bad, .bad, .bad, .bad, .bad, .bad, .bad, .bad, .bad, .bad, .bad, .bad, .bad, .bad, .bad, .bad, .bad, .bad, .bad, .bad, .bad, .bad, .bad, .bad, .bad, .bad, .bad, .bad, .bad, .bad, .bad, .bad, .bad, .bad, .bad, .bad, .bad, .bad, .bad, .bad]
def c_plan_Dists_B2 : C :=
  (.seq (.seq (rg 1 0 [7] [mv 20 7]) (.cond (q 20) .skip (.exit 0))) (.seq (.block 1 (.seq (rg 1 0 [20] [i' 7 (.assign (kb false))]) (.seq (rg 4 0 [23] [fa 23 T_api_Config 2 1, ld 24 T_sl_api_Link 23, le' 25 24 T_sl_api_Link, i' 26 (.move (ki 0))]) (.block 2 c_plan_Dists_L1)))) (rg 3 0 [21, 22, 24, 25, 26, 27] [mv 21 6, bi 22 .add T_int (q 21) (ki 1) T_int, as' 6 22])))
def c_plan_Dists_L2 : C := .loop c_plan_Dists_B2
/-- What is live at the loop's head: t2 c, t5 out, t6 d, t7 more -/
abbrev h_plan_Dists_2 (t2 t5 t6 t7 : SV) : List SV := [.bad, .bad, t2, .bad, .bad, t5, t6, t7, .bad, .bad, .bad, .bad, .bad, .bad, .bad, .bad, .bad, .bad, .bad, .bad, .bad, .bad, .bad, .bad, .bad, .bad, .bad, .bad, .bad, .bad, .bad, .bad, .bad, .bad, .bad, .bad, .bad, .bad, .bad, .bad, .bad, .bad, .bad, .bad, .bad, .bad, .bad, .bad, .bad, .bad, .bad, .bad, .bad, .bad, .bad, .bad, .bad, .bad, .bad, .bad, .bad, .bad, .bad, .bad, .bad, .bad, .bad, .bad, .bad, .bad]
def c_plan_Dists : C :=
  (.seq (rg 2 2 [0, 4] [i' 2 (.box T_api_Config (q 0)), i' 4 (.assign (.const (.slice none 0 0)))]) (.seq (rg 6 6 [12, 13, 14, 15, 16] [i' 12 (.buildSlice T_sl_int 1 #[(0, (ki (-1)))]), fa 13 T_api_Config 2 0, ld 14 T_sl_api_Part 13, le' 15 14 T_sl_api_Part, ca 16 n_slices_Repeat_sl_int_int #[q 12, q 15] #[T_sl_int, T_int], as' 5 16]) (.seq (rg 4 0 [1, 17, 18, 19] [mv 17 5, mv 18 1, i' 19 (.indexAddr T_sl_int (q 17) (q 18)), ⟨none, .store T_int (q 19) (ki 0), none, none⟩]) (.seq (.seq (rg 2 0 [] [i' 6 (.assign (ki 0)), i' 7 (.assign (kb true))]) (.block 0 c_plan_Dists_L2)) (.seq (rg 2 0 [2, 5, 6, 20, 69] [mv 69 5, as' 4 69]) .ret)))))
theorem ok_plan_Dists : Tryz.f93.body.map (comp ES n_plan_Dists) = some c_plan_Dists := by kernel_rfl
theorem b_plan_Dists (t0 t1 : SV) (M : Mem) : ICw ES n_plan_Dists [t0, t1] M = endS ES [.tmp 4] (evW ES n_plan_Dists c_plan_Dists ⟨[t0, t1, .bad, .bad, .bad, .bad, .bad, .bad, .bad, .bad, .bad, .bad, .bad, .bad, .bad, .bad, .bad, .bad, .bad, .bad, .bad, .bad, .bad, .bad, .bad, .bad, .bad, .bad, .bad, .bad, .bad, .bad, .bad, .bad, .bad, .bad, .bad, .bad, .bad, .bad, .bad, .bad, .bad, .bad, .bad, .bad, .bad, .bad, .bad, .bad, .bad, .bad, .bad, .bad, .bad, .bad, .bad, .bad, .bad, .bad, .bad, .bad, .bad, .bad, .bad, .bad, .bad, .bad, .bad, .bad], M⟩) :=
  ICw_run rfl Tryz.func93 ok_plan_Dists (by kernel_rfl) (by kernel_rfl) (by kernel_rfl) M
@[simp] theorem x_plan_Dists_slices_Repeat_sl_int_int : CI ES n_plan_Dists n_slices_Repeat_sl_int_int := ci rfl

/-! drumline/drumlineref5.dists -/
def c_r5_dists_B0 : C :=
  (.seq (.seq (rg 4 0 [14, 15, 16] [mv 14 6, mv 15 5, le' 16 15 T_sl_int, bi 17 .lss T_int (q 14) (q 16) T_int]) (.cond (q 17) .skip (.exit 0))) (.seq (.block 1 (rg 4 0 [17, 20, 21, 22] [mv 20 5, mv 21 6, i' 22 (.indexAddr T_sl_int (q 20) (q 21)), ⟨none, .store T_int (q 22) (ki (-1)), none, none⟩])) (rg 3 0 [18, 19] [mv 18 6, bi 19 .add T_int (q 18) (ki 1) T_int, as' 6 19])))
def c_r5_dists_L0 : C := .loop c_r5_dists_B0
/-- What is live at the loop's head: t1 from, t2 c, t5 d, t6 i -/
abbrev h_r5_dists_0 (t1 t2 t5 t6 : SV) : List SV := [.bad, t1, t2, .bad, .bad, t5, t6, .bad, .bad, .bad, .bad, .bad, .bad, .bad, .bad, .bad, .bad, .bad, .bad, .bad, .bad, .bad, .bad, .bad, .bad, .bad, .bad, .bad, .bad, .bad, .bad, .bad, .bad, .bad, .bad, .bad, .bad, .bad, .bad, .bad, .bad, .bad, .bad, .bad, .bad, .bad, .bad, .bad, .bad, .bad, .bad, .bad, .bad, .bad, .bad, .bad, .bad, .bad, .bad, .bad, .bad, .bad, .bad, .bad, .bad, .bad, .bad, .bad, .bad, .bad, .bad, .bad, .bad, .bad, .bad, .bad, .bad, .bad, .bad, .bad, .bad, .bad, .bad, .bad, .bad, .bad, .bad]
def c_r5_dists_B1 : C :=
  (.seq (.seq (rg 5 0 [32, 33, 34, 35] [mv 32 8, fa 33 T_api_Config 2 1, ld 34 T_sl_api_Link 33, le' 35 34 T_sl_api_Link, bi 36 .lss T_int (q 32) (q 35) T_int]) (.cond (q 36) .skip (.exit 4))) (.seq (.block 5 (.seq (rg 7 7 [36, 39, 40, 41, 42, 43] [fa 39 T_api_Config 2 1, ld 40 T_sl_api_Link 39, mv 41 8, i' 42 (.indexAddr T_sl_api_Link (q 40) (q 41)), ld 43 T_api_Link 42, i' 9 (.alloc T_api_Link), ⟨none, .store T_api_Link (q 9) (q 43), none, none⟩]) (.seq (.seq (rg 15 0 [44, 45, 46, 47, 48, 49, 50, 51, 52, 53, 54, 55, 56, 57] [mv 44 5, fa 45 T_api_Link 9 0, ld 46 T_int 45, i' 47 (.indexAddr T_sl_int (q 44) (q 46)), ld 48 T_int 47, mv 49 7, bi 50 .eql T_int (q 48) (q 49) T_int, mv 51 50, gd 51 true (mv 52 5), gd 51 true (fa 53 T_api_Link 9 1), gd 51 true (ld 54 T_int 53), gd 51 true (i' 55 (.indexAddr T_sl_int (q 52) (q 54))), gd 51 true (ld 56 T_int 55), gd 51 true (bi 57 .lss T_int (q 56) (ki 0) T_int), i' 58 (.pick (q 51) (q 57) (kb false))]) (.cond (q 58) (rg 7 0 [58, 59, 60, 61, 62, 63, 64] [mv 59 5, fa 60 T_api_Link 9 1, ld 61 T_int 60, mv 62 7, bi 63 .add T_int (q 62) (ki 1) T_int, i' 64 (.indexAddr T_sl_int (q 59) (q 61)), ⟨none, .store T_int (q 64) (q 63), none, none⟩]) .skip)) (.seq (rg 15 0 [58, 65, 66, 67, 68, 69, 70, 71, 72, 73, 74, 75, 76, 77, 78] [mv 65 5, fa 66 T_api_Link 9 1, ld 67 T_int 66, i' 68 (.indexAddr T_sl_int (q 65) (q 67)), ld 69 T_int 68, mv 70 7, bi 71 .eql T_int (q 69) (q 70) T_int, mv 72 71, gd 72 true (mv 73 5), gd 72 true (fa 74 T_api_Link 9 0), gd 72 true (ld 75 T_int 74), gd 72 true (i' 76 (.indexAddr T_sl_int (q 73) (q 75))), gd 72 true (ld 77 T_int 76), gd 72 true (bi 78 .lss T_int (q 77) (ki 0) T_int), i' 79 (.pick (q 72) (q 78) (kb false))]) (.cond (q 79) (rg 7 0 [9, 79, 80, 81, 82, 83, 84, 85] [mv 80 5, fa 81 T_api_Link 9 0, ld 82 T_int 81, mv 83 7, bi 84 .add T_int (q 83) (ki 1) T_int, i' 85 (.indexAddr T_sl_int (q 80) (q 82)), ⟨none, .store T_int (q 85) (q 84), none, none⟩]) .skip))))) (rg 3 0 [9, 37, 38, 79] [mv 37 8, bi 38 .add T_int (q 37) (ki 1) T_int, as' 8 38])))
def c_r5_dists_L1 : C := .loop c_r5_dists_B1
/-- What is live at the loop's head: t2 c, t5 d, t7 n, t8 i -/
abbrev h_r5_dists_1 (t2 t5 t7 t8 : SV) : List SV := [.bad, .bad, t2, .bad, .bad, t5, .bad, t7, t8, .bad, .bad, .bad, .bad, .bad, .bad, .bad, .bad, .bad, .bad, .bad, .bad, .bad, .bad, .bad, .bad, .bad, .bad, .bad, .bad, .bad, .bad, .bad, .bad, .bad, .bad, .bad, .bad, .bad, .bad, .bad, .bad, .bad, .bad, .bad, .bad, .bad, .bad, .bad, .bad, .bad, .bad, .bad, .bad, .bad, .bad, .bad, .bad, .bad, .bad, .bad, .bad, .bad, .bad, .bad, .bad, .bad, .bad, .bad, .bad, .bad, .bad, .bad, .bad, .bad, .bad, .bad, .bad, .bad, .bad, .bad, .bad, .bad, .bad, .bad, .bad, .bad, .bad]
def c_r5_dists_B2 : C :=
  (.seq (.seq (rg 4 0 [26, 27, 28] [mv 26 7, mv 27 5, le' 28 27 T_sl_int, bi 29 .lss T_int (q 26) (q 28) T_int]) (.cond (q 29) .skip (.exit 2))) (.seq (.block 3 (.seq (rg 1 0 [29] [i' 8 (.assign (ki 0))]) (.block 4 c_r5_dists_L1))) (rg 3 0 [8, 30, 31, 36] [mv 30 7, bi 31 .add T_int (q 30) (ki 1) T_int, as' 7 31])))
def c_r5_dists_L2 : C := .loop c_r5_dists_B2
/-- What is live at the loop's head: t2 c, t5 d, t7 n -/
abbrev h_r5_dists_2 (t2 t5 t7 : SV) : List SV := [.bad, .bad, t2, .bad, .bad, t5, .bad, t7, .bad, .bad, .bad, .bad, .bad, .bad, .bad, .bad, .bad, .bad, .bad, .bad, .bad, .bad, .bad, .bad, .bad, .bad, .bad, .bad, .bad, .bad, .bad, .bad, .bad, .bad, .bad, .bad, .bad, .bad, .bad, .bad, .bad, .bad, .bad, .bad, .bad, .bad, .bad, .bad, .bad, .bad, .bad, .bad, .bad, .bad, .bad, .bad, .bad, .bad, .bad, .bad, .bad, .bad, .bad, .bad, .bad, .bad, .bad, .bad, .bad, .bad, .bad, .bad, .bad, .bad, .bad, .bad, .bad, .bad, .bad, .bad, .bad, .bad, .bad, .bad, .bad, .bad, .bad]
def c_r5_dists : C :=
  (.seq (rg 2 2 [0, 4] [i' 2 (.box T_api_Config (q 0)), i' 4 (.assign (.const (.slice none 0 0)))]) (.seq (rg 5 5 [10, 11, 12, 13] [fa 10 T_api_Config 2 0, ld 11 T_sl_api_Part 10, le' 12 11 T_sl_api_Part, i' 13 (.makeSlice T_sl_int (q 12) (q 12)), as' 5 13]) (.seq (.seq (rg 1 0 [] [i' 6 (.assign (ki 0))]) (.block 0 c_r5_dists_L0)) (.seq (rg 4 0 [1, 6, 17, 23, 24, 25] [mv 23 5, mv 24 1, i' 25 (.indexAddr T_sl_int (q 23) (q 24)), ⟨none, .store T_int (q 25) (ki 0), none, none⟩]) (.seq (.seq (rg 1 0 [] [i' 7 (.assign (ki 0))]) (.block 2 c_r5_dists_L2)) (.seq (rg 2 0 [2, 5, 7, 29, 86] [mv 86 5, as' 4 86]) .ret))))))
theorem ok_r5_dists : Tryz.f94.body.map (comp ES n_r5_dists) = some c_r5_dists := by kernel_rfl
theorem b_r5_dists (t0 t1 : SV) (M : Mem) : ICw ES n_r5_dists [t0, t1] M = endS ES [.tmp 4] (evW ES n_r5_dists c_r5_dists ⟨[t0, t1, .bad, .bad, .bad, .bad, .bad, .bad, .bad, .bad, .bad, .bad, .bad, .bad, .bad, .bad, .bad, .bad, .bad, .bad, .bad, .bad, .bad, .bad, .bad, .bad, .bad, .bad, .bad, .bad, .bad, .bad, .bad, .bad, .bad, .bad, .bad, .bad, .bad, .bad, .bad, .bad, .bad, .bad, .bad, .bad, .bad, .bad, .bad, .bad, .bad, .bad, .bad, .bad, .bad, .bad, .bad, .bad, .bad, .bad, .bad, .bad, .bad, .bad, .bad, .bad, .bad, .bad, .bad, .bad, .bad, .bad, .bad, .bad, .bad, .bad, .bad, .bad, .bad, .bad, .bad, .bad, .bad, .bad, .bad, .bad, .bad], M⟩) :=
  ICw_run rfl Tryz.func94 ok_r5_dists (by kernel_rfl) (by kernel_rfl) (by kernel_rfl) M

/-! drumline/bounds.Patience -/
def c_bounds_Patience : C :=
  (.seq (rg 2 2 [] [i' 2 (.box T_api_Config (q 0)), i' 4 (.assign (ki 0))]) (.seq (rg 8 0 [] [fa 5 T_api_Config 2 10, ld 6 T_int 5, mv 7 1, fa 8 T_api_Config 2 11, ld 9 T_int 8, bi 10 .mul T_int (q 7) (q 9) T_int, bi 11 .add T_int (q 6) (q 10) T_int, as' 4 11]) .ret))
theorem ok_bounds_Patience : Tryz.f95.body.map (comp ES n_bounds_Patience) = some c_bounds_Patience := by kernel_rfl
theorem b_bounds_Patience (t0 t1 : SV) (M : Mem) : ICw ES n_bounds_Patience [t0, t1] M = endS ES [.tmp 4] (evW ES n_bounds_Patience c_bounds_Patience ⟨[t0, t1, .bad, .bad, .bad, .bad, .bad, .bad, .bad, .bad, .bad, .bad], M⟩) :=
  ICw_run rfl Tryz.func95 ok_bounds_Patience (by kernel_rfl) (by kernel_rfl) (by kernel_rfl) M

/-! drumline/drumlineref5.Fits -/
def c_r5_Fits : C :=
  (.seq (rg 3 3 [] [i' 1 (.box T_api_Config (q 0)), i' 2 (.assign (ki 0)), i' 3 (.assign (ki 0))]) (.seq (rg 7 0 [] [ld 7 T_api_Config 1, ca 8 n_r5_Check #[q 7] #[T_api_Config], mv 6 8, xt 9 6 0, xt 10 6 1, as' 4 9, as' 5 10]) (.seq (.seq (rg 2 0 [] [mv 11 4, bi 12 .neq T_int (q 11) (ki 0) T_int]) (.cond (q 12) (.seq (rg 4 0 [] [mv 13 4, mv 14 5, as' 2 13, as' 3 14]) .ret) .skip)) (.seq (rg 3 0 [] [ld 15 T_api_Config 1, ca 16 n_r5_out #[q 15] #[T_api_Config], as' 5 16]) (.seq (.seq (rg 2 0 [] [mv 17 5, bi 18 .eql T_int (q 17) (ki 0) T_int]) (.cond (q 18) (rg 3 0 [] [ld 19 T_api_Config 1, ca 20 n_r5_fits #[q 19] #[T_api_Config], as' 5 20]) .skip)) (.seq (.seq (rg 2 0 [] [mv 21 5, bi 22 .neq T_int (q 21) (ki 0) T_int]) (.cond (q 22) (.seq (rg 3 0 [] [mv 23 5, i' 2 (.assign (ki 14)), as' 3 23]) .ret) .skip)) (.seq (rg 2 0 [] [i' 2 (.assign (ki 0)), i' 3 (.assign (ki 0))]) .ret)))))))
theorem ok_r5_Fits : Tryz.f96.body.map (comp ES n_r5_Fits) = some c_r5_Fits := by kernel_rfl
theorem b_r5_Fits (t0 : SV) (M : Mem) : ICw ES n_r5_Fits [t0] M = endS ES [.tmp 2, .tmp 3] (evW ES n_r5_Fits c_r5_Fits ⟨[t0, .bad, .bad, .bad, .bad, .bad, .bad, .bad, .bad, .bad, .bad, .bad, .bad, .bad, .bad, .bad, .bad, .bad, .bad, .bad, .bad, .bad, .bad, .bad], M⟩) :=
  ICw_run rfl Tryz.func96 ok_r5_Fits (by kernel_rfl) (by kernel_rfl) (by kernel_rfl) M
@[simp] theorem x_r5_Fits_r5_Check : CX ES n_r5_Fits n_r5_Check := cx rfl
@[simp] theorem x_r5_Fits_r5_out : CX ES n_r5_Fits n_r5_out := cx rfl
@[simp] theorem x_r5_Fits_r5_fits : CX ES n_r5_Fits n_r5_fits := cx rfl

/-! drumline/hops.right -/
def c_hops_right : C :=
  (.seq (rg 2 2 [] [i' 3 (.box T_api_Config (q 0)), i' 6 (.assign (kb false))]) (.seq (rg 25 0 [] [ld 7 T_api_Config 3, ca 8 n_plan_Right #[q 7] #[T_api_Config], mv 9 8, gd 9 true (mv 10 1), gd 9 true (bi 11 .geq T_int (q 10) (ki 0) T_int), i' 12 (.pick (q 9) (q 11) (kb false)), mv 13 12, gd 13 true (mv 14 1), gd 13 true (fa 15 T_api_Config 3 0), gd 13 true (ld 16 T_sl_api_Part 15), gd 13 true (le' 17 16 T_sl_api_Part), gd 13 true (bi 18 .lss T_int (q 14) (q 17) T_int), i' 19 (.pick (q 13) (q 18) (kb false)), mv 20 19, gd 20 true (mv 21 2), gd 20 true (bi 22 .geq T_int (q 21) (ki 0) T_int), i' 23 (.pick (q 20) (q 22) (kb false)), mv 24 23, gd 24 true (mv 25 2), gd 24 true (fa 26 T_api_Config 3 0), gd 24 true (ld 27 T_sl_api_Part 26), gd 24 true (le' 28 27 T_sl_api_Part), gd 24 true (bi 29 .lss T_int (q 25) (q 28) T_int), i' 30 (.pick (q 24) (q 29) (kb false)), as' 6 30]) .ret))
theorem ok_hops_right : Tryz.f97.body.map (comp ES n_hops_right) = some c_hops_right := by kernel_rfl
theorem b_hops_right (t0 t1 t2 : SV) (M : Mem) : ICw ES n_hops_right [t0, t1, t2] M = endS ES [.tmp 6] (evW ES n_hops_right c_hops_right ⟨[t0, t1, t2, .bad, .bad, .bad, .bad, .bad, .bad, .bad, .bad, .bad, .bad, .bad, .bad, .bad, .bad, .bad, .bad, .bad, .bad, .bad, .bad, .bad, .bad, .bad, .bad, .bad, .bad, .bad, .bad], M⟩) :=
  ICw_run rfl Tryz.func97 ok_hops_right (by kernel_rfl) (by kernel_rfl) (by kernel_rfl) M
@[simp] theorem x_hops_right_plan_Right : CX ES n_hops_right n_plan_Right := cx rfl

/-! drumline/drumlineref5.step -/
def c_r5_step : C :=
  (.seq (rg 2 2 [] [i' 1 (.box T_api_Config (q 0)), i' 2 (.assign (ki 0))]) (.seq (rg 9 0 [] [ld 3 T_api_Config 1, ca 4 n_r5_edge #[q 3] #[T_api_Config], bi 5 .mul T_int64 (ki 4) (q 4) T_int64, ld 6 T_api_Config 1, ca 7 n_r5_slew #[q 6] #[T_api_Config], bi 8 .mul T_int64 (ki 2) (q 7) T_int64, bi 9 .add T_int64 (q 5) (q 8) T_int64, bi 10 .add T_int64 (q 9) (ki 2) T_int64, as' 2 10]) .ret))
theorem ok_r5_step : Tryz.f98.body.map (comp ES n_r5_step) = some c_r5_step := by kernel_rfl
theorem b_r5_step (t0 : SV) (M : Mem) : ICw ES n_r5_step [t0] M = endS ES [.tmp 2] (evW ES n_r5_step c_r5_step ⟨[t0, .bad, .bad, .bad, .bad, .bad, .bad, .bad, .bad, .bad, .bad], M⟩) :=
  ICw_run rfl Tryz.func98 ok_r5_step (by kernel_rfl) (by kernel_rfl) (by kernel_rfl) M
@[simp] theorem x_r5_step_r5_edge : CX ES n_r5_step n_r5_edge := cx rfl
@[simp] theorem x_r5_step_r5_slew : CX ES n_r5_step n_r5_slew := cx rfl

/-! slices.ContainsFunc[[]int64,int64] -/
def c_slices_ContainsFunc_sl_int64_int64 : C :=
  (.seq (rg 1 0 [] [i' 4 (.assign (kb false))]) (.seq (rg 5 0 [] [mv 5 0, mv 6 1, ca 7 n_slices_IndexFunc_sl_int64_int64 #[q 5, q 6] #[T_sl_int64, T_func_int64_bool], bi 8 .geq T_int (q 7) (ki 0) T_int, as' 4 8]) .ret))
theorem ok_slices_ContainsFunc_sl_int64_int64 : Tryz.f101.body.map (comp ES n_slices_ContainsFunc_sl_int64_int64) = some c_slices_ContainsFunc_sl_int64_int64 := by kernel_rfl
theorem b_slices_ContainsFunc_sl_int64_int64 (t0 t1 : SV) (M : Mem) : ICw ES n_slices_ContainsFunc_sl_int64_int64 [t0, t1] M = endS ES [.tmp 4] (evW ES n_slices_ContainsFunc_sl_int64_int64 c_slices_ContainsFunc_sl_int64_int64 ⟨[t0, t1, .bad, .bad, .bad, .bad, .bad, .bad, .bad], M⟩) :=
  ICw_run rfl Tryz.func101 ok_slices_ContainsFunc_sl_int64_int64 (by kernel_rfl) (by kernel_rfl) (by kernel_rfl) M
@[simp] theorem x_slices_ContainsFunc_sl_int64_int64_slices_IndexFunc_sl_int64_int64 : CX ES n_slices_ContainsFunc_sl_int64_int64 n_slices_IndexFunc_sl_int64_int64 := cx rfl

/-! slices.Max[[]int64,int64] -/
def c_slices_Max_sl_int64_int64_B0 : C :=
  (.seq (.seq (rg 4 0 [12, 13, 14] [mv 12 4, mv 13 0, le' 14 13 T_sl_int64, bi 15 .lss T_int (q 12) (q 14) T_int]) (.cond (q 15) .skip (.exit 0))) (.seq (.block 1 (rg 7 0 [15, 18, 19, 20, 21, 22, 23] [mv 18 3, mv 19 0, mv 20 4, i' 21 (.indexAddr T_sl_int64 (q 19) (q 20)), ld 22 T_int64 21, i' 23 (.call { callee := .builtin .max, args := #[q 18, q 22], argTypes := #[T_int64, T_int64] }), as' 3 23])) (rg 3 0 [16, 17] [mv 16 4, bi 17 .add T_int (q 16) (ki 1) T_int, as' 4 17])))
def c_slices_Max_sl_int64_int64_L0 : C := .loop c_slices_Max_sl_int64_int64_B0
/-- What is live at the loop's head: t0 x, t3 m, t4 i -/
abbrev h_slices_Max_sl_int64_int64_0 (t0 t3 t4 : SV) : List SV := [t0, .bad, .bad, t3, t4, .bad, .bad, .bad, .bad, .bad, .bad, .bad, .bad, .bad, .bad, .bad, .bad, .bad, .bad, .bad, .bad, .bad, .bad, .bad, .bad]
def c_slices_Max_sl_int64_int64 : C :=
  (.seq (rg 1 0 [2] [i' 2 (.assign (ki 0))]) (.seq (.seq (rg 3 0 [5, 6] [mv 5 0, le' 6 5 T_sl_int64, bi 7 .lss T_int (q 6) (ki 1) T_int]) (.cond (q 7) (rg 2 0 [7, 8] [i' 8 (.makeInterface T_string (.const (.string ⟨#[UInt8.ofNat 115, UInt8.ofNat 108, UInt8.ofNat 105, UInt8.ofNat 99, UInt8.ofNat 101, UInt8.ofNat 115, UInt8.ofNat 46, UInt8.ofNat 77, UInt8.ofNat 97, UInt8.ofNat 120, UInt8.ofNat 58, UInt8.ofNat 32, UInt8.ofNat 101, UInt8.ofNat 109, UInt8.ofNat 112, UInt8.ofNat 116, UInt8.ofNat 121, UInt8.ofNat 32, UInt8.ofNat 108, UInt8.ofNat 105, UInt8.ofNat 115, UInt8.ofNat 116]⟩))), ⟨none, .panic (q 8), none, none⟩]) .skip)) (.seq (rg 4 0 [7, 9, 10, 11] [mv 9 0, i' 10 (.indexAddr T_sl_int64 (q 9) (ki 0)), ld 11 T_int64 10, as' 3 11]) (.seq (.seq (rg 1 0 [] [i' 4 (.assign (ki 1))]) (.block 0 c_slices_Max_sl_int64_int64_L0)) (.seq (rg 2 0 [0, 3, 4, 15, 24] [mv 24 3, as' 2 24]) .ret)))))
theorem ok_slices_Max_sl_int64_int64 : Tryz.f103.body.map (comp ES n_slices_Max_sl_int64_int64) = some c_slices_Max_sl_int64_int64 := by kernel_rfl
theorem b_slices_Max_sl_int64_int64 (t0 : SV) (M : Mem) : ICw ES n_slices_Max_sl_int64_int64 [t0] M = endS ES [.tmp 2] (evW ES n_slices_Max_sl_int64_int64 c_slices_Max_sl_int64_int64 ⟨[t0, .bad, .bad, .bad, .bad, .bad, .bad, .bad, .bad, .bad, .bad, .bad, .bad, .bad, .bad, .bad, .bad, .bad, .bad, .bad, .bad, .bad, .bad, .bad, .bad], M⟩) :=
  ICw_run rfl Tryz.func103 ok_slices_Max_sl_int64_int64 (by kernel_rfl) (by kernel_rfl) (by kernel_rfl) M

/-! slices.Min[[]int64,int64] -/
def c_slices_Min_sl_int64_int64_B0 : C :=
  (.seq (.seq (rg 4 0 [12, 13, 14] [mv 12 4, mv 13 0, le' 14 13 T_sl_int64, bi 15 .lss T_int (q 12) (q 14) T_int]) (.cond (q 15) .skip (.exit 0))) (.seq (.block 1 (rg 7 0 [15, 18, 19, 20, 21, 22, 23] [mv 18 3, mv 19 0, mv 20 4, i' 21 (.indexAddr T_sl_int64 (q 19) (q 20)), ld 22 T_int64 21, i' 23 (.call { callee := .builtin .min, args := #[q 18, q 22], argTypes := #[T_int64, T_int64] }), as' 3 23])) (rg 3 0 [16, 17] [mv 16 4, bi 17 .add T_int (q 16) (ki 1) T_int, as' 4 17])))
def c_slices_Min_sl_int64_int64_L0 : C := .loop c_slices_Min_sl_int64_int64_B0
/-- What is live at the loop's head: t0 x, t3 m, t4 i -/
abbrev h_slices_Min_sl_int64_int64_0 (t0 t3 t4 : SV) : List SV := [t0, .bad, .bad, t3, t4, .bad, .bad, .bad, .bad, .bad, .bad, .bad, .bad, .bad, .bad, .bad, .bad, .bad, .bad, .bad, .bad, .bad, .bad, .bad, .bad]
def c_slices_Min_sl_int64_int64 : C :=
  (.seq (rg 1 0 [2] [i' 2 (.assign (ki 0))]) (.seq (.seq (rg 3 0 [5, 6] [mv 5 0, le' 6 5 T_sl_int64, bi 7 .lss T_int (q 6) (ki 1) T_int]) (.cond (q 7) (rg 2 0 [7, 8] [i' 8 (.makeInterface T_string (.const (.string ⟨#[UInt8.ofNat 115, UInt8.ofNat 108, UInt8.ofNat 105, UInt8.ofNat 99, UInt8.ofNat 101, UInt8.ofNat 115, UInt8.ofNat 46, UInt8.ofNat 77, UInt8.ofNat 105, UInt8.ofNat 110, UInt8.ofNat 58, UInt8.ofNat 32, UInt8.ofNat 101, UInt8.ofNat 109, UInt8.ofNat 112, UInt8.ofNat 116, UInt8.ofNat 121, UInt8.ofNat 32, UInt8.ofNat 108, UInt8.ofNat 105, UInt8.ofNat 115, UInt8.ofNat 116]⟩))), ⟨none, .panic (q 8), none, none⟩]) .skip)) (.seq (rg 4 0 [7, 9, 10, 11] [mv 9 0, i' 10 (.indexAddr T_sl_int64 (q 9) (ki 0)), ld 11 T_int64 10, as' 3 11]) (.seq (.seq (rg 1 0 [] [i' 4 (.assign (ki 1))]) (.block 0 c_slices_Min_sl_int64_int64_L0)) (.seq (rg 2 0 [0, 3, 4, 15, 24] [mv 24 3, as' 2 24]) .ret)))))
theorem ok_slices_Min_sl_int64_int64 : Tryz.f104.body.map (comp ES n_slices_Min_sl_int64_int64) = some c_slices_Min_sl_int64_int64 := by kernel_rfl
theorem b_slices_Min_sl_int64_int64 (t0 : SV) (M : Mem) : ICw ES n_slices_Min_sl_int64_int64 [t0] M = endS ES [.tmp 2] (evW ES n_slices_Min_sl_int64_int64 c_slices_Min_sl_int64_int64 ⟨[t0, .bad, .bad, .bad, .bad, .bad, .bad, .bad, .bad, .bad, .bad, .bad, .bad, .bad, .bad, .bad, .bad, .bad, .bad, .bad, .bad, .bad, .bad, .bad, .bad], M⟩) :=
  ICw_run rfl Tryz.func104 ok_slices_Min_sl_int64_int64 (by kernel_rfl) (by kernel_rfl) (by kernel_rfl) M

/-! drumline/bounds.Reckon -/
def c_bounds_Reckon : C :=
  (.seq (rg 2 2 [] [i' 1 (.box T_api_Config (q 0)), i' 2 (.alloc T_bounds_Numbers)]) (.seq (rg 6 0 [] [fa 6 T_api_Config 1 2, ld 7 T_int 6, fa 8 T_api_Config 1 6, ld 9 T_int 8, as' 3 7, as' 4 9]) (.seq (rg 16 16 [] [li [] (mv 10 4), li [0] (bi 11 .mul T_int64 (ki 2) (q 10) T_int64), li [] (mv 12 3), li [0, 1, 2] (bi 13 .mul T_int64 (q 11) (q 12) T_int64), li [0, 1, 2, 3] (ca 14 n_bounds_part #[q 13] #[T_int64]), li [0, 1, 2, 3, 4] (bi 15 .add T_int64 (q 14) (ki 1) T_int64), li [] (mv 16 4), li [] (mv 17 3), li [6, 7] (bi 18 .mul T_int64 (q 16) (q 17) T_int64), li [0, 1, 2, 3, 4, 6, 7, 8] (ca 19 n_bounds_part #[q 18] #[T_int64]), li [] (fa 20 T_api_Config 1 8), li [10] (ld 21 T_int 20), li [10, 11] (bi 22 .add T_int (q 21) (ki 1) T_int), li [0, 1, 2, 3, 4, 5, 6, 7, 8, 9, 10, 11, 12] (i' 23 (.build T_bounds_Numbers #[(0, q 15), (2, q 19), (6, q 22)])), li [] (i' 5 (.alloc T_bounds_Numbers)), ⟨none, .store T_bounds_Numbers (q 5) (q 23), none, some [0, 1, 2, 3, 4, 5, 6, 7, 8, 9, 10, 11, 12, 13, 14]⟩]) (.seq (rg 5 0 [] [fa 24 T_bounds_Numbers 5 0, ld 25 T_int64 24, bi 26 .mul T_int64 (ki 2) (q 25) T_int64, fa 27 T_bounds_Numbers 5 1, ⟨none, .store T_int64 (q 27) (q 26), none, none⟩]) (.seq (rg 10 0 [] [fa 28 T_bounds_Numbers 5 1, ld 29 T_int64 28, bi 30 .mul T_int64 (ki 2) (q 29) T_int64, fa 31 T_bounds_Numbers 5 2, ld 32 T_int64 31, bi 33 .mul T_int64 (ki 2) (q 32) T_int64, bi 34 .add T_int64 (q 30) (q 33) T_int64, bi 35 .add T_int64 (q 34) (ki 2) T_int64, fa 36 T_bounds_Numbers 5 3, ⟨none, .store T_int64 (q 36) (q 35), none, none⟩]) (.seq (rg 12 0 [] [fa 37 T_api_Config 1 8, ld 38 T_int 37, bi 39 .mul T_int64 (ki 2) (q 38) T_int64, fa 40 T_bounds_Numbers 5 3, ld 41 T_int64 40, bi 42 .mul T_int64 (q 39) (q 41) T_int64, fa 43 T_bounds_Numbers 5 1, ld 44 T_int64 43, bi 45 .mul T_int64 (ki 2) (q 44) T_int64, bi 46 .add T_int64 (q 42) (q 45) T_int64, fa 47 T_bounds_Numbers 5 4, ⟨none, .store T_int64 (q 47) (q 46), none, none⟩]) (.seq (rg 18 0 [] [fa 48 T_bounds_Numbers 5 1, ld 49 T_int64 48, fa 50 T_bounds_Numbers 5 0, ld 51 T_int64 50, bi 52 .add T_int64 (q 49) (q 51) T_int64, fa 53 T_bounds_Numbers 5 1, ld 54 T_int64 53, fa 55 T_api_Config 1 7, ld 56 T_int 55, fa 57 T_api_Config 1 6, ld 58 T_int 57, bi 59 .add T_int (q 56) (q 58) T_int, bi 60 .mul T_int64 (q 54) (q 59) T_int64, ca 61 n_bounds_part #[q 60] #[T_int64], bi 62 .add T_int64 (q 52) (q 61) T_int64, bi 63 .add T_int64 (q 62) (ki 1) T_int64, fa 64 T_bounds_Numbers 5 5, ⟨none, .store T_int64 (q 64) (q 63), none, none⟩]) (.seq (rg 2 0 [] [ld 65 T_bounds_Numbers 5, ⟨none, .store T_bounds_Numbers (q 2) (q 65), none, none⟩]) .ret))))))))
theorem ok_bounds_Reckon : Tryz.f106.body.map (comp ES n_bounds_Reckon) = some c_bounds_Reckon := by kernel_rfl
theorem b_bounds_Reckon (t0 : SV) (M : Mem) : ICw ES n_bounds_Reckon [t0] M = endS ES [.cell 2 T_bounds_Numbers] (evW ES n_bounds_Reckon c_bounds_Reckon ⟨[t0, .bad, .bad, .bad, .bad, .bad, .bad, .bad, .bad, .bad, .bad, .bad, .bad, .bad, .bad, .bad, .bad, .bad, .bad, .bad, .bad, .bad, .bad, .bad, .bad, .bad, .bad, .bad, .bad, .bad, .bad, .bad, .bad, .bad, .bad, .bad, .bad, .bad, .bad, .bad, .bad, .bad, .bad, .bad, .bad, .bad, .bad, .bad, .bad, .bad, .bad, .bad, .bad, .bad, .bad, .bad, .bad, .bad, .bad, .bad, .bad, .bad, .bad, .bad, .bad, .bad], M⟩) :=
  ICw_run rfl Tryz.func106 ok_bounds_Reckon (by kernel_rfl) (by kernel_rfl) (by kernel_rfl) M
@[simp] theorem x_bounds_Reckon_bounds_part : CX ES n_bounds_Reckon n_bounds_part := cx rfl

/-! drumline/bounds.ranged -/
def c_bounds_ranged : C :=
  (.seq (rg 2 2 [] [i' 1 (.box T_api_Config (q 0)), i' 2 (.assign (ki 0))]) (.seq (rg 18 18 [] [li [] (fa 3 T_api_Config 1 2), li [0] (ld 4 T_int 3), li [0, 1] (ca 5 n_bounds_within #[q 4, (ki 1000), (ki 1000000)] #[T_int, T_int, T_int]), li [] (fa 6 T_api_Config 1 6), li [3] (ld 7 T_int 6), li [0, 1, 2, 3, 4] (ca 8 n_bounds_within #[q 7, (ki 0), (ki 500)] #[T_int, T_int, T_int]), li [] (fa 9 T_api_Config 1 7), li [6] (ld 10 T_int 9), li [0, 1, 2, 3, 4, 5, 6, 7] (ca 11 n_bounds_within #[q 10, (ki 0), (ki 400000)] #[T_int, T_int, T_int]), li [] (fa 12 T_api_Config 1 8), li [9] (ld 13 T_int 12), li [0, 1, 2, 3, 4, 5, 6, 7, 8, 9, 10] (ca 14 n_bounds_within #[q 13, (ki 1), (ki 200)] #[T_int, T_int, T_int]), li [] (fa 15 T_api_Config 1 9), li [12] (ld 16 T_int 15), li [0, 1, 2, 3, 4, 5, 6, 7, 8, 9, 10, 11, 12, 13] (ca 17 n_bounds_within #[q 16, (ki 0), (ki 20)] #[T_int, T_int, T_int]), li [0, 1, 2, 3, 4, 5, 6, 7, 8, 9, 10, 11, 12, 13, 14] (i' 18 (.buildSlice T_sl_bool 5 #[(0, q 5), (1, q 8), (2, q 11), (3, q 14), (4, q 17)])), li [0, 1, 2, 3, 4, 5, 6, 7, 8, 9, 10, 11, 12, 13, 14, 15] (ca 19 n_bounds_first #[(ki 1), q 18] #[T_int, T_sl_bool]), li [0, 1, 2, 3, 4, 5, 6, 7, 8, 9, 10, 11, 12, 13, 14, 15, 16] (as' 2 19)]) .ret))
theorem ok_bounds_ranged : Tryz.f110.body.map (comp ES n_bounds_ranged) = some c_bounds_ranged := by kernel_rfl
theorem b_bounds_ranged (t0 : SV) (M : Mem) : ICw ES n_bounds_ranged [t0] M = endS ES [.tmp 2] (evW ES n_bounds_ranged c_bounds_ranged ⟨[t0, .bad, .bad, .bad, .bad, .bad, .bad, .bad, .bad, .bad, .bad, .bad, .bad, .bad, .bad, .bad, .bad, .bad, .bad, .bad], M⟩) :=
  ICw_run rfl Tryz.func110 ok_bounds_ranged (by kernel_rfl) (by kernel_rfl) (by kernel_rfl) M
@[simp] theorem x_bounds_ranged_bounds_first : CX ES n_bounds_ranged n_bounds_first := cx rfl
@[simp] theorem x_bounds_ranged_bounds_within : CX ES n_bounds_ranged n_bounds_within := cx rfl

/-! drumline/plan.Check -/
def c_plan_Check_B0 : C :=
  (.seq (rg 1 0 [] [bi 17 .lss T_int (q 16) (q 15) T_int]) (.seq (.cond (q 17) .skip (.exit 0)) (.seq (.block 1 (.seq (rg 3 0 [17, 18, 19] [i' 18 (.indexAddr T_sl_api_Errno (q 14) (q 16)), ld 19 T_api_Errno 18, as' 7 19]) (.seq (rg 4 4 [20, 21, 22] [mv 20 4, mv 21 7, i' 22 (.makeInterface T_plan_code (q 21)), ca 23 n_errors_Is #[q 20, q 22] #[T_error, T_error]]) (.cond (q 23) (.seq (rg 7 0 [4, 5, 7, 14, 15, 16, 23, 24, 25, 26, 27, 28] [mv 24 7, ld 25 T_p_plan_fault 5, i' 26 (.nilCheck (q 25)), fa 27 T_plan_fault 26 0, ld 28 T_int 27, as' 2 24, as' 3 28]) .ret) .skip)))) (rg 2 0 [7, 23, 29] [bi 29 .add T_int (q 16) (ki 1) T_int, mv 16 29]))))
def c_plan_Check_L0 : C := .loop c_plan_Check_B0
/-- What is live at the loop's head: t4 e, t5 f, t14, t15, t16 -/
abbrev h_plan_Check_0 (t4 t5 t14 t15 t16 : SV) : List SV := [.bad, .bad, .bad, .bad, t4, t5, .bad, .bad, .bad, .bad, .bad, .bad, .bad, .bad, t14, t15, t16, .bad, .bad, .bad, .bad, .bad, .bad, .bad, .bad, .bad, .bad, .bad, .bad, .bad, .bad, .bad, .bad, .bad]
def c_plan_Check : C :=
  (.seq (rg 3 3 [0, 2, 3] [i' 1 (.box T_api_Config (q 0)), i' 2 (.assign (ki 0)), i' 3 (.assign (ki 0))]) (.seq (rg 3 0 [1, 8, 9] [ld 8 T_api_Config 1, ca 9 n_plan_check #[q 8] #[T_api_Config], as' 4 9]) (.seq (rg 1 1 [] [i' 5 (.alloc T_p_plan_fault)]) (.seq (.seq (rg 4 4 [10, 11, 12] [mv 10 4, i' 11 (.makeInterface T_p_p_plan_fault (q 5)), ca 12 n_errors_As #[q 10, q 11] #[T_error, T_interface], i' 13 (.unOp .not T_bool (q 12))]) (.cond (q 13) (.seq (rg 2 0 [4, 5, 13] [i' 2 (.assign (ki 0)), i' 3 (.assign (ki 0))]) .ret) .skip)) (.seq (.seq (rg 3 3 [13] [i' 14 (.buildSlice T_sl_api_Errno 6 #[(0, (ki 7)), (1, (ki 8)), (2, (ki 9)), (3, (ki 10)), (4, (ki 11)), (5, (ki 12))]), le' 15 14 T_sl_api_Errno, i' 16 (.move (ki 0))]) (.block 0 c_plan_Check_L0)) (.seq (rg 6 0 [4, 5, 14, 15, 16, 17, 30, 31, 32, 33] [ld 30 T_p_plan_fault 5, i' 31 (.nilCheck (q 30)), fa 32 T_plan_fault 31 0, ld 33 T_int 32, i' 2 (.assign (ki 13)), as' 3 33]) .ret))))))
theorem ok_plan_Check : Tryz.f111.body.map (comp ES n_plan_Check) = some c_plan_Check := by kernel_rfl
theorem b_plan_Check (t0 : SV) (M : Mem) : ICw ES n_plan_Check [t0] M = endS ES [.tmp 2, .tmp 3] (evW ES n_plan_Check c_plan_Check ⟨[t0, .bad, .bad, .bad, .bad, .bad, .bad, .bad, .bad, .bad, .bad, .bad, .bad, .bad, .bad, .bad, .bad, .bad, .bad, .bad, .bad, .bad, .bad, .bad, .bad, .bad, .bad, .bad, .bad, .bad, .bad, .bad, .bad, .bad], M⟩) :=
  ICw_run rfl Tryz.func111 ok_plan_Check (by kernel_rfl) (by kernel_rfl) (by kernel_rfl) M
@[simp] theorem x_plan_Check_errors_As : CI ES n_plan_Check n_errors_As := ci rfl
@[simp] theorem x_plan_Check_errors_Is : CI ES n_plan_Check n_errors_Is := ci rfl
@[simp] theorem x_plan_Check_plan_check : CX ES n_plan_Check n_plan_check := cx rfl

/-! drumline/plan.end -/
def c_plan_end : C :=
  (.seq (rg 3 3 [] [i' 2 (.box T_api_Link (q 0)), i' 4 (.assign (ki 0)), i' 5 (.alloc T_a2_int)]) (.seq (.seq (rg 2 0 [] [mv 6 1, bi 7 .eql T_int (q 6) (ki 0) T_int]) (.cond (q 7) (.seq (rg 6 0 [] [fa 8 T_api_Link 2 0, ld 9 T_int 8, fa 10 T_api_Link 2 2, ld 11 T_a2_int 10, as' 4 9, ⟨none, .store T_a2_int (q 5) (q 11), none, none⟩]) .ret) .skip)) (.seq (rg 6 0 [] [fa 12 T_api_Link 2 1, ld 13 T_int 12, fa 14 T_api_Link 2 3, ld 15 T_a2_int 14, as' 4 13, ⟨none, .store T_a2_int (q 5) (q 15), none, none⟩]) .ret)))
theorem ok_plan_end : Tryz.f112.body.map (comp ES n_plan_end) = some c_plan_end := by kernel_rfl
theorem b_plan_end (t0 t1 : SV) (M : Mem) : ICw ES n_plan_end [t0, t1] M = endS ES [.tmp 4, .cell 5 T_a2_int] (evW ES n_plan_end c_plan_end ⟨[t0, t1, .bad, .bad, .bad, .bad, .bad, .bad, .bad, .bad, .bad, .bad, .bad, .bad, .bad, .bad], M⟩) :=
  ICw_run rfl Tryz.func112 ok_plan_end (by kernel_rfl) (by kernel_rfl) (by kernel_rfl) M

/-! slices.SortFunc[[]drumline/api.Port,drumline/api.Port] -/
def c_slices_SortFunc_sl_api_Port_api_Port : C :=
  (.seq (rg 3 0 [] [mv 5 0, le' 6 5 T_sl_api_Port, as' 4 6]) (rg 7 7 [] [mv 7 0, mv 8 4, mv 9 4, i' 10 (.convert T_int T_uint (q 9)), ca 11 n_math_bits_Len #[q 10] #[T_uint], mv 12 1, ca 13 n_slices_pdqsortCmpFunc_api_Port #[q 7, (ki 0), q 8, q 11, q 12] #[T_sl_api_Port, T_int, T_int, T_int, T_func_api_Port_api_Port_int]]))
theorem ok_slices_SortFunc_sl_api_Port_api_Port : Tryz.f113.body.map (comp ES n_slices_SortFunc_sl_api_Port_api_Port) = some c_slices_SortFunc_sl_api_Port_api_Port := by kernel_rfl
theorem b_slices_SortFunc_sl_api_Port_api_Port (t0 t1 : SV) (M : Mem) : ICw ES n_slices_SortFunc_sl_api_Port_api_Port [t0, t1] M = endS ES [] (evW ES n_slices_SortFunc_sl_api_Port_api_Port c_slices_SortFunc_sl_api_Port_api_Port ⟨[t0, t1, .bad, .bad, .bad, .bad, .bad, .bad, .bad, .bad, .bad, .bad, .bad, .bad], M⟩) :=
  ICw_run rfl Tryz.func113 ok_slices_SortFunc_sl_api_Port_api_Port (by kernel_rfl) (by kernel_rfl) (by kernel_rfl) M
@[simp] theorem x_slices_SortFunc_sl_api_Port_api_Port_slices_pdqsortCmpFunc_api_Port : CI ES n_slices_SortFunc_sl_api_Port_api_Port n_slices_pdqsortCmpFunc_api_Port := ci rfl
@[simp] theorem x_slices_SortFunc_sl_api_Port_api_Port_math_bits_Len : CX ES n_slices_SortFunc_sl_api_Port_api_Port n_math_bits_Len := cx rfl

/-! drumline/plan.Ends$1 -/
def c_plan_Ends_1 : C :=
  (.seq (rg 3 3 [] [i' 2 (.box T_api_Port (q 0)), i' 3 (.box T_api_Port (q 1)), i' 4 (.assign (ki 0))]) (.seq (rg 6 0 [] [fa 5 T_api_Port 2 0, ld 6 T_int 5, fa 7 T_api_Port 3 0, ld 8 T_int 7, bi 9 .sub T_int (q 6) (q 8) T_int, as' 4 9]) .ret))
theorem ok_plan_Ends_1 : Tryz.f114.body.map (comp ES n_plan_Ends_1) = some c_plan_Ends_1 := by kernel_rfl
theorem b_plan_Ends_1 (t0 t1 : SV) (M : Mem) : ICw ES n_plan_Ends_1 [t0, t1] M = endS ES [.tmp 4] (evW ES n_plan_Ends_1 c_plan_Ends_1 ⟨[t0, t1, .bad, .bad, .bad, .bad, .bad, .bad, .bad, .bad], M⟩) :=
  ICw_run rfl Tryz.func114 ok_plan_Ends_1 (by kernel_rfl) (by kernel_rfl) (by kernel_rfl) M

/-! drumline/drumlineref5.link -/
def c_r5_link_B0 : C :=
  (.seq (.seq (rg 3 0 [35, 36] [mv 35 6, mv 36 1, bi 37 .lss T_int (q 35) (q 36) T_int]) (.cond (q 37) .skip (.exit 0))) (.seq (.block 1 (.seq (rg 20 0 [37, 40, 41, 42, 43, 44, 45, 46, 47, 48, 49, 50, 51, 52, 53, 54, 55, 56, 57, 58] [fa 40 T_api_Config 2 1, ld 41 T_sl_api_Link 40, mv 42 6, i' 43 (.indexAddr T_sl_api_Link (q 41) (q 42)), fa 44 T_api_Link 43 0, ld 45 T_int 44, fa 46 T_api_Link 5 0, ld 47 T_int 46, bi 48 .eql T_int (q 45) (q 47) T_int, mv 49 48, gd 49 true (fa 50 T_api_Config 2 1), gd 49 true (ld 51 T_sl_api_Link 50), gd 49 true (mv 52 6), gd 49 true (i' 53 (.indexAddr T_sl_api_Link (q 51) (q 52))), gd 49 true (fa 54 T_api_Link 53 1), gd 49 true (ld 55 T_int 54), gd 49 true (fa 56 T_api_Link 5 1), gd 49 true (ld 57 T_int 56), gd 49 true (bi 58 .eql T_int (q 55) (q 57) T_int), i' 59 (.pick (q 49) (q 58) (kb false))]) (.cond (q 59) (.seq (rg 1 0 [1, 2, 5, 6, 59] [i' 4 (.assign (ki 11))]) .ret) .skip))) (rg 3 0 [38, 39, 59] [mv 38 6, bi 39 .add T_int (q 38) (ki 1) T_int, as' 6 39])))
def c_r5_link_L0 : C := .loop c_r5_link_B0
/-- What is live at the loop's head: t1 i, t2 c, t5 l, t6 k -/
abbrev h_r5_link_0 (t1 t2 t5 t6 : SV) : List SV := [.bad, t1, t2, .bad, .bad, t5, t6, .bad, .bad, .bad, .bad, .bad, .bad, .bad, .bad, .bad, .bad, .bad, .bad, .bad, .bad, .bad, .bad, .bad, .bad, .bad, .bad, .bad, .bad, .bad, .bad, .bad, .bad, .bad, .bad, .bad, .bad, .bad, .bad, .bad, .bad, .bad, .bad, .bad, .bad, .bad, .bad, .bad, .bad, .bad, .bad, .bad, .bad, .bad, .bad, .bad, .bad, .bad, .bad, .bad, .bad, .bad, .bad, .bad, .bad, .bad, .bad, .bad, .bad, .bad, .bad, .bad, .bad, .bad, .bad, .bad]
def c_r5_link : C :=
  (.seq (rg 2 2 [0, 4] [i' 2 (.box T_api_Config (q 0)), i' 4 (.assign (ki 0))]) (.seq (rg 7 7 [7, 8, 9, 10, 11] [fa 7 T_api_Config 2 1, ld 8 T_sl_api_Link 7, mv 9 1, i' 10 (.indexAddr T_sl_api_Link (q 8) (q 9)), ld 11 T_api_Link 10, i' 5 (.alloc T_api_Link), ⟨none, .store T_api_Link (q 5) (q 11), none, none⟩]) (.seq (.seq (rg 23 0 [12, 13, 14, 15, 16, 17, 18, 19, 20, 21, 22, 23, 24, 25, 26, 27, 28, 29, 30, 31, 32, 33] [fa 12 T_api_Link 5 0, ld 13 T_int 12, fa 14 T_api_Config 2 0, ld 15 T_sl_api_Part 14, le' 16 15 T_sl_api_Part, ca 17 n_r5_is #[q 13, q 16] #[T_int, T_int], i' 18 (.unOp .not T_bool (q 17)), mv 19 18, gd 19 false (fa 20 T_api_Link 5 1), gd 19 false (ld 21 T_int 20), gd 19 false (fa 22 T_api_Config 2 0), gd 19 false (ld 23 T_sl_api_Part 22), gd 19 false (le' 24 23 T_sl_api_Part), gd 19 false (ca 25 n_r5_is #[q 21, q 24] #[T_int, T_int]), gd 19 false (i' 26 (.unOp .not T_bool (q 25))), i' 27 (.pick (q 19) (kb true) (q 26)), mv 28 27, gd 28 false (fa 29 T_api_Link 5 0), gd 28 false (ld 30 T_int 29), gd 28 false (fa 31 T_api_Link 5 1), gd 28 false (ld 32 T_int 31), gd 28 false (bi 33 .geq T_int (q 30) (q 32) T_int), i' 34 (.pick (q 28) (kb true) (q 33))]) (.cond (q 34) (.seq (rg 1 0 [1, 2, 5, 34] [i' 4 (.assign (ki 10))]) .ret) .skip)) (.seq (.seq (rg 1 0 [34] [i' 6 (.assign (ki 0))]) (.block 0 c_r5_link_L0)) (.seq (.seq (rg 16 0 [1, 2, 5, 6, 37, 60, 61, 62, 63, 64, 65, 66, 67, 68, 69, 70, 71, 72, 73, 74] [ld 60 T_api_Config 2, mv 61 1, fa 62 T_api_Link 5 0, ld 63 T_int 62, fa 64 T_api_Link 5 2, ld 65 T_a2_int 64, ca 66 n_r5_ends #[q 60, q 61, q 63, q 65] #[T_api_Config, T_int, T_int, T_a2_int], mv 67 66, gd 67 false (ld 68 T_api_Config 2), gd 67 false (mv 69 1), gd 67 false (fa 70 T_api_Link 5 1), gd 67 false (ld 71 T_int 70), gd 67 false (fa 72 T_api_Link 5 3), gd 67 false (ld 73 T_a2_int 72), gd 67 false (ca 74 n_r5_ends #[q 68, q 69, q 71, q 73] #[T_api_Config, T_int, T_int, T_a2_int]), i' 75 (.pick (q 67) (kb true) (q 74))]) (.cond (q 75) (.seq (rg 1 0 [75] [i' 4 (.assign (ki 12))]) .ret) .skip)) (.seq (rg 1 0 [75] [i' 4 (.assign (ki 0))]) .ret))))))
theorem ok_r5_link : Tryz.f115.body.map (comp ES n_r5_link) = some c_r5_link := by kernel_rfl
theorem b_r5_link (t0 t1 : SV) (M : Mem) : ICw ES n_r5_link [t0, t1] M = endS ES [.tmp 4] (evW ES n_r5_link c_r5_link ⟨[t0, t1, .bad, .bad, .bad, .bad, .bad, .bad, .bad, .bad, .bad, .bad, .bad, .bad, .bad, .bad, .bad, .bad, .bad, .bad, .bad, .bad, .bad, .bad, .bad, .bad, .bad, .bad, .bad, .bad, .bad, .bad, .bad, .bad, .bad, .bad, .bad, .bad, .bad, .bad, .bad, .bad, .bad, .bad, .bad, .bad, .bad, .bad, .bad, .bad, .bad, .bad, .bad, .bad, .bad, .bad, .bad, .bad, .bad, .bad, .bad, .bad, .bad, .bad, .bad, .bad, .bad, .bad, .bad, .bad, .bad, .bad, .bad, .bad, .bad, .bad], M⟩) :=
  ICw_run rfl Tryz.func115 ok_r5_link (by kernel_rfl) (by kernel_rfl) (by kernel_rfl) M
@[simp] theorem x_r5_link_r5_is : CX ES n_r5_link n_r5_is := cx rfl
@[simp] theorem x_r5_link_r5_ends : CX ES n_r5_link n_r5_ends := cx rfl

/-! drumline/drumlineref5.out -/
def c_r5_out : C :=
  (.seq (rg 2 2 [] [i' 1 (.box T_api_Config (q 0)), i' 2 (.assign (ki 0))]) (.seq (.block 0 (.seq (rg 9 0 [] [fa 4 T_api_Config 1 2, ld 5 T_int 4, bi 6 .lss T_int (q 5) (ki 1000) T_int, mv 7 6, gd 7 false (fa 8 T_api_Config 1 2), gd 7 false (ld 9 T_int 8), gd 7 false (bi 10 .gtr T_int (q 9) (ki 1000000) T_int), i' 11 (.pick (q 7) (kb true) (q 10)), as' 3 11]) (.cond (q 3) (.seq (rg 1 0 [] [i' 2 (.assign (ki 1))]) .ret) (.seq (rg 9 0 [] [fa 13 T_api_Config 1 6, ld 14 T_int 13, bi 15 .lss T_int (q 14) (ki 0) T_int, mv 16 15, gd 16 false (fa 17 T_api_Config 1 6), gd 16 false (ld 18 T_int 17), gd 16 false (bi 19 .gtr T_int (q 18) (ki 500) T_int), i' 20 (.pick (q 16) (kb true) (q 19)), as' 12 20]) (.cond (q 12) (.seq (rg 1 0 [] [i' 2 (.assign (ki 2))]) .ret) (.seq (rg 9 0 [] [fa 22 T_api_Config 1 7, ld 23 T_int 22, bi 24 .lss T_int (q 23) (ki 0) T_int, mv 25 24, gd 25 false (fa 26 T_api_Config 1 7), gd 25 false (ld 27 T_int 26), gd 25 false (bi 28 .gtr T_int (q 27) (ki 400000) T_int), i' 29 (.pick (q 25) (kb true) (q 28)), as' 21 29]) (.cond (q 21) (.seq (rg 1 0 [] [i' 2 (.assign (ki 3))]) .ret) (.seq (rg 9 0 [] [fa 31 T_api_Config 1 8, ld 32 T_int 31, bi 33 .lss T_int (q 32) (ki 1) T_int, mv 34 33, gd 34 false (fa 35 T_api_Config 1 8), gd 34 false (ld 36 T_int 35), gd 34 false (bi 37 .gtr T_int (q 36) (ki 200) T_int), i' 38 (.pick (q 34) (kb true) (q 37)), as' 30 38]) (.cond (q 30) (.seq (rg 1 0 [] [i' 2 (.assign (ki 4))]) .ret) (.seq (rg 9 0 [] [fa 40 T_api_Config 1 9, ld 41 T_int 40, bi 42 .lss T_int (q 41) (ki 0) T_int, mv 43 42, gd 43 false (fa 44 T_api_Config 1 9), gd 43 false (ld 45 T_int 44), gd 43 false (bi 46 .gtr T_int (q 45) (ki 20) T_int), i' 47 (.pick (q 43) (kb true) (q 46)), as' 39 47]) (.cond (q 39) (.seq (rg 1 0 [] [i' 2 (.assign (ki 5))]) .ret) .skip))))))))))) (.seq (rg 1 0 [] [i' 2 (.assign (ki 0))]) .ret)))
theorem ok_r5_out : Tryz.f116.body.map (comp ES n_r5_out) = some c_r5_out := by kernel_rfl
theorem b_r5_out (t0 : SV) (M : Mem) : ICw ES n_r5_out [t0] M = endS ES [.tmp 2] (evW ES n_r5_out c_r5_out ⟨[t0, .bad, .bad, .bad, .bad, .bad, .bad, .bad, .bad, .bad, .bad, .bad, .bad, .bad, .bad, .bad, .bad, .bad, .bad, .bad, .bad, .bad, .bad, .bad, .bad, .bad, .bad, .bad, .bad, .bad, .bad, .bad, .bad, .bad, .bad, .bad, .bad, .bad, .bad, .bad, .bad, .bad, .bad, .bad, .bad, .bad, .bad, .bad], M⟩) :=
  ICw_run rfl Tryz.func116 ok_r5_out (by kernel_rfl) (by kernel_rfl) (by kernel_rfl) M

/-! drumline/drumlineref5.up -/
def c_r5_up : C :=
  (.seq (rg 1 0 [] [i' 2 (.assign (ki 0))]) (.seq (rg 7 0 [] [mv 6 0, ca 7 n_r1_Ceil #[q 6, (ki 1000000)] #[T_int64, T_int64], mv 5 7, xt 8 5 0, xt 9 5 1, as' 3 8, as' 4 9]) (.seq (rg 2 0 [] [mv 10 3, as' 2 10]) .ret)))
theorem ok_r5_up : Tryz.f117.body.map (comp ES n_r5_up) = some c_r5_up := by kernel_rfl
theorem b_r5_up (t0 : SV) (M : Mem) : ICw ES n_r5_up [t0] M = endS ES [.tmp 2] (evW ES n_r5_up c_r5_up ⟨[t0, .bad, .bad, .bad, .bad, .bad, .bad, .bad, .bad, .bad, .bad], M⟩) :=
  ICw_run rfl Tryz.func117 ok_r5_up (by kernel_rfl) (by kernel_rfl) (by kernel_rfl) M
@[simp] theorem x_r5_up_r1_Ceil : CX ES n_r5_up n_r1_Ceil := cx rfl

/-! drumline/drumlineref5.Gone -/
def c_r5_Gone : C :=
  (.seq (rg 2 2 [] [i' 1 (.box T_api_Config (q 0)), i' 2 (.assign (ki 0))]) (.seq (.seq (rg 3 0 [] [ld 3 T_api_Config 1, ca 4 n_r5_ranged #[q 3] #[T_api_Config], i' 5 (.unOp .not T_bool (q 4))]) (.cond (q 5) (.seq (rg 1 0 [] [i' 2 (.assign (ki 0))]) .ret) .skip)) (.seq (rg 4 0 [] [fa 6 T_api_Config 1 8, ld 7 T_int 6, bi 8 .add T_int (q 7) (ki 1) T_int, as' 2 8]) .ret)))
theorem ok_r5_Gone : Tryz.f118.body.map (comp ES n_r5_Gone) = some c_r5_Gone := by kernel_rfl
theorem b_r5_Gone (t0 : SV) (M : Mem) : ICw ES n_r5_Gone [t0] M = endS ES [.tmp 2] (evW ES n_r5_Gone c_r5_Gone ⟨[t0, .bad, .bad, .bad, .bad, .bad, .bad, .bad, .bad], M⟩) :=
  ICw_run rfl Tryz.func118 ok_r5_Gone (by kernel_rfl) (by kernel_rfl) (by kernel_rfl) M
@[simp] theorem x_r5_Gone_r5_ranged : CX ES n_r5_Gone n_r5_ranged := cx rfl

/-! drumline/bounds.fits -/
def c_bounds_fits_B0 : C :=
  (.seq (rg 1 0 [] [bi 9 .lss T_int (q 8) (q 7) T_int]) (.seq (.cond (q 9) .skip (.exit 0)) (.seq (.block 1 (.seq (rg 3 0 [9, 10, 11] [i' 10 (.indexAddr T_sl_func_api_Config_int (q 6) (q 8)), ld 11 T_func_api_Config_int 10, as' 4 11]) (.seq (rg 4 4 [4, 12, 13, 14] [mv 12 4, ld 13 T_api_Config 1, i' 14 (.call { callee := .value (q 12), args := #[q 13], argTypes := #[T_api_Config] }), as' 5 14]) (.seq (rg 2 0 [15] [mv 15 5, bi 16 .neq T_int (q 15) (ki 0) T_int]) (.cond (q 16) (.seq (rg 6 6 [1, 5, 6, 7, 8, 16, 17, 18, 19, 20, 21] [mv 17 5, i' 18 (.load T_error (.global 0)), i' 19 (.build T_bounds_fault #[(0, q 17), (1, q 18)]), i' 20 (.box T_bounds_fault (q 19)), i' 21 (.makeInterface T_p_bounds_fault (q 20)), as' 2 21]) .ret) .skip))))) (rg 2 0 [5, 16, 22] [bi 22 .add T_int (q 8) (ki 1) T_int, mv 8 22]))))
def c_bounds_fits_L0 : C := .loop c_bounds_fits_B0
/-- What is live at the loop's head: t1 c, t6, t7, t8 -/
abbrev h_bounds_fits_0 (t1 t6 t7 t8 : SV) : List SV := [.bad, t1, .bad, .bad, .bad, .bad, t6, t7, t8, .bad, .bad, .bad, .bad, .bad, .bad, .bad, .bad, .bad, .bad, .bad, .bad, .bad, .bad]
def c_bounds_fits : C :=
  (.seq (rg 2 2 [0, 2] [i' 1 (.box T_api_Config (q 0)), i' 2 (.assign (.const .nilIface))]) (.seq (.seq (rg 3 3 [] [i' 6 (.buildSlice T_sl_func_api_Config_int 3 #[(0, .func n_bounds_ranged), (1, .func n_bounds_windows), (2, .func n_bounds_waits)]), le' 7 6 T_sl_func_api_Config_int, i' 8 (.move (ki 0))]) (.block 0 c_bounds_fits_L0)) (.seq (rg 1 0 [1, 6, 7, 8, 9] [i' 2 (.assign (.const .nilIface))]) .ret)))
theorem ok_bounds_fits : Tryz.f119.body.map (comp ES n_bounds_fits) = some c_bounds_fits := by kernel_rfl
theorem b_bounds_fits (t0 : SV) (M : Mem) : ICw ES n_bounds_fits [t0] M = endS ES [.tmp 2] (evW ES n_bounds_fits c_bounds_fits ⟨[t0, .bad, .bad, .bad, .bad, .bad, .bad, .bad, .bad, .bad, .bad, .bad, .bad, .bad, .bad, .bad, .bad, .bad, .bad, .bad, .bad, .bad, .bad], M⟩) :=
  ICw_run rfl Tryz.func119 ok_bounds_fits (by kernel_rfl) (by kernel_rfl) (by kernel_rfl) M
@[simp] theorem x_bounds_fits_bounds_ranged : CX ES n_bounds_fits n_bounds_ranged := cx rfl
@[simp] theorem x_bounds_fits_bounds_windows : CX ES n_bounds_fits n_bounds_windows := cx rfl
@[simp] theorem x_bounds_fits_bounds_waits : CX ES n_bounds_fits n_bounds_waits := cx rfl

/-! slices.Repeat[[]int,int] -/
def c_slices_Repeat_sl_int_int_B0 : C :=
  (.seq (.seq (rg 4 0 [34, 35, 36] [mv 34 8, mv 35 7, le' 36 35 T_sl_int, bi 37 .lss T_int (q 34) (q 36) T_int]) (.cond (q 37) .skip (.exit 0))) (.block 1 (rg 10 10 [37, 38, 39, 40, 41, 42, 43, 44, 45, 46] [li [] (mv 38 8), li [] (mv 39 7), li [] (mv 40 8), li [1, 2] (i' 41 (.slice T_sl_int (q 39) (some (q 40)) none none)), li [] (mv 42 7), li [] (mv 43 8), li [4, 5] (i' 44 (.slice T_sl_int (q 42) none (some (q 43)) none)), li [1, 2, 3, 4, 5, 6] (i' 45 (.call { callee := .builtin .copy, args := #[q 41, q 44], argTypes := #[T_sl_int, T_sl_int] })), li [0, 1, 2, 3, 4, 5, 6, 7] (bi 46 .add T_int (q 38) (q 45) T_int), li [0, 1, 2, 3, 4, 5, 6, 7, 8] (as' 8 46)])))
def c_slices_Repeat_sl_int_int_L0 : C := .loop c_slices_Repeat_sl_int_int_B0
/-- What is live at the loop's head: t7 newslice, t8 n -/
abbrev h_slices_Repeat_sl_int_int_0 (t7 t8 : SV) : List SV := [.bad, .bad, .bad, .bad, .bad, .bad, .bad, t7, t8, .bad, .bad, .bad, .bad, .bad, .bad, .bad, .bad, .bad, .bad, .bad, .bad, .bad, .bad, .bad, .bad, .bad, .bad, .bad, .bad, .bad, .bad, .bad, .bad, .bad, .bad, .bad, .bad, .bad, .bad, .bad, .bad, .bad, .bad, .bad, .bad, .bad, .bad, .bad]
def c_slices_Repeat_sl_int_int : C :=
  (.seq (rg 1 0 [4] [i' 4 (.assign (.const (.slice none 0 0)))]) (.seq (.seq (rg 2 0 [9] [mv 9 1, bi 10 .lss T_int (q 9) (ki 0) T_int]) (.cond (q 10) (rg 2 0 [10, 11] [i' 11 (.makeInterface T_string (.const (.string ⟨#[UInt8.ofNat 99, UInt8.ofNat 97, UInt8.ofNat 110, UInt8.ofNat 110, UInt8.ofNat 111, UInt8.ofNat 116, UInt8.ofNat 32, UInt8.ofNat 98, UInt8.ofNat 101, UInt8.ofNat 32, UInt8.ofNat 110, UInt8.ofNat 101, UInt8.ofNat 103, UInt8.ofNat 97, UInt8.ofNat 116, UInt8.ofNat 105, UInt8.ofNat 118, UInt8.ofNat 101]⟩))), ⟨none, .panic (q 11), none, none⟩]) .skip)) (.seq (rg 11 0 [1, 10, 12, 13, 14, 15, 16, 17, 18, 19, 20] [mv 13 0, le' 14 13 T_sl_int, i' 15 (.convert T_int T_uint (q 14)), mv 16 1, i' 17 (.convert T_int T_uint (q 16)), ca 18 n_math_bits_Mul #[q 15, q 17] #[T_uint, T_uint], mv 12 18, xt 19 12 0, xt 20 12 1, as' 5 19, as' 6 20]) (.seq (.seq (rg 6 0 [5, 21, 22, 23, 24, 25] [mv 21 5, bi 22 .gtr T_uint (q 21) (.const (.int .u64 0)) T_uint, mv 23 22, gd 23 false (mv 24 6), gd 23 false (bi 25 .gtr T_uint (q 24) (.const (.int .u64 9223372036854775807)) T_uint), i' 26 (.pick (q 23) (kb true) (q 25))]) (.cond (q 26) (rg 2 0 [26, 27] [i' 27 (.makeInterface T_string (.const (.string ⟨#[UInt8.ofNat 116, UInt8.ofNat 104, UInt8.ofNat 101, UInt8.ofNat 32, UInt8.ofNat 114, UInt8.ofNat 101, UInt8.ofNat 115, UInt8.ofNat 117, UInt8.ofNat 108, UInt8.ofNat 116, UInt8.ofNat 32, UInt8.ofNat 111, UInt8.ofNat 102, UInt8.ofNat 32, UInt8.ofNat 40, UInt8.ofNat 108, UInt8.ofNat 101, UInt8.ofNat 110, UInt8.ofNat 40, UInt8.ofNat 120, UInt8.ofNat 41, UInt8.ofNat 32, UInt8.ofNat 42, UInt8.ofNat 32, UInt8.ofNat 99, UInt8.ofNat 111, UInt8.ofNat 117, UInt8.ofNat 110, UInt8.ofNat 116, UInt8.ofNat 41, UInt8.ofNat 32, UInt8.ofNat 111, UInt8.ofNat 118, UInt8.ofNat 101, UInt8.ofNat 114, UInt8.ofNat 102, UInt8.ofNat 108, UInt8.ofNat 111, UInt8.ofNat 119, UInt8.ofNat 115]⟩))), ⟨none, .panic (q 27), none, none⟩]) .skip)) (.seq (rg 4 4 [6, 26, 28, 29, 30] [mv 28 6, i' 29 (.convert T_uint T_int (q 28)), i' 30 (.makeSlice T_sl_int (q 29) (q 29)), as' 7 30]) (.seq (rg 4 4 [0, 31, 32, 33] [mv 31 7, mv 32 0, i' 33 (.call { callee := .builtin .copy, args := #[q 31, q 32], argTypes := #[T_sl_int, T_sl_int] }), as' 8 33]) (.seq (.block 0 c_slices_Repeat_sl_int_int_L0) (.seq (rg 2 0 [7, 8, 37, 47] [mv 47 7, as' 4 47]) .ret))))))))
theorem ok_slices_Repeat_sl_int_int : Tryz.f122.body.map (comp ES n_slices_Repeat_sl_int_int) = some c_slices_Repeat_sl_int_int := by kernel_rfl
theorem b_slices_Repeat_sl_int_int (t0 t1 : SV) (M : Mem) : ICw ES n_slices_Repeat_sl_int_int [t0, t1] M = endS ES [.tmp 4] (evW ES n_slices_Repeat_sl_int_int c_slices_Repeat_sl_int_int ⟨[t0, t1, .bad, .bad, .bad, .bad, .bad, .bad, .bad, .bad, .bad, .bad, .bad, .bad, .bad, .bad, .bad, .bad, .bad, .bad, .bad, .bad, .bad, .bad, .bad, .bad, .bad, .bad, .bad, .bad, .bad, .bad, .bad, .bad, .bad, .bad, .bad, .bad, .bad, .bad, .bad, .bad, .bad, .bad, .bad, .bad, .bad, .bad], M⟩) :=
  ICw_run rfl Tryz.func122 ok_slices_Repeat_sl_int_int (by kernel_rfl) (by kernel_rfl) (by kernel_rfl) M
@[simp] theorem x_slices_Repeat_sl_int_int_math_bits_Mul : CX ES n_slices_Repeat_sl_int_int n_math_bits_Mul := cx rfl

/-! drumline/drumlineref5.fits -/
def c_r5_fits_B0 : C :=
  (.seq (.seq (rg 3 0 [51, 52] [mv 51 5, mv 52 3, bi 53 .lss T_int (q 51) (q 52) T_int]) (.cond (q 53) .skip (.exit 1))) (.seq (.block 2 (.seq (rg 23 0 [53, 56, 57, 58, 59, 60, 61, 62, 63, 64, 65, 66, 67, 68, 69, 70, 71, 72, 73, 74, 75, 76, 77] [fa 56 T_api_Config 1 3, ld 57 T_int 56, ld 58 T_api_Config 1, mv 59 5, ca 60 n_r5_ports #[q 58, q 59] #[T_api_Config, T_int], bi 61 .mul T_int (ki 3) (q 60) T_int, fa 62 T_api_Config 1 0, ld 63 T_sl_api_Part 62, mv 64 5, i' 65 (.indexAddr T_sl_api_Part (q 63) (q 64)), fa 66 T_api_Part 65 0, ld 67 T_int 66, bi 68 .add T_int (q 61) (q 67) T_int, fa 69 T_api_Config 1 4, ld 70 T_int 69, bi 71 .mul T_int (q 68) (q 70) T_int, bi 72 .add T_int (q 57) (q 71) T_int, fa 73 T_api_Config 1 5, ld 74 T_int 73, bi 75 .add T_int (q 72) (q 74) T_int, fa 76 T_api_Config 1 2, ld 77 T_int 76, bi 78 .gtr T_int (q 75) (q 77) T_int]) (.cond (q 78) (.seq (rg 1 0 [1, 3, 4, 5, 78] [i' 2 (.assign (ki 9))]) .ret) .skip))) (rg 3 0 [54, 55, 78] [mv 54 5, bi 55 .add T_int (q 54) (ki 1) T_int, as' 5 55])))
def c_r5_fits_L0 : C := .loop c_r5_fits_B0
/-- What is live at the loop's head: t1 c, t3 parts, t4 calm, t5 i -/
abbrev h_r5_fits_0 (t1 t3 t4 t5 : SV) : List SV := [.bad, t1, .bad, t3, t4, t5, .bad, .bad, .bad, .bad, .bad, .bad, .bad, .bad, .bad, .bad, .bad, .bad, .bad, .bad, .bad, .bad, .bad, .bad, .bad, .bad, .bad, .bad, .bad, .bad, .bad, .bad, .bad, .bad, .bad, .bad, .bad, .bad, .bad, .bad, .bad, .bad, .bad, .bad, .bad, .bad, .bad, .bad, .bad, .bad, .bad, .bad, .bad, .bad, .bad, .bad, .bad, .bad, .bad, .bad, .bad, .bad, .bad, .bad, .bad, .bad, .bad, .bad, .bad, .bad, .bad, .bad, .bad, .bad, .bad, .bad, .bad, .bad, .bad, .bad, .bad, .bad, .bad, .bad, .bad, .bad, .bad, .bad, .bad, .bad, .bad, .bad, .bad, .bad, .bad, .bad, .bad, .bad, .bad, .bad, .bad, .bad, .bad, .bad, .bad, .bad, .bad, .bad, .bad, .bad, .bad, .bad, .bad, .bad, .bad, .bad, .bad, .bad, .bad, .bad, .bad, .bad, .bad, .bad, .bad, .bad, .bad, .bad, .bad, .bad, .bad, .bad, .bad, .bad, .bad, .bad, .bad, .bad, .bad, .bad]
def c_r5_fits : C :=
  (.seq (rg 2 2 [0, 2] [i' 1 (.box T_api_Config (q 0)), i' 2 (.assign (ki 0))]) (.seq (rg 4 0 [6, 7, 8] [fa 6 T_api_Config 1 0, ld 7 T_sl_api_Part 6, le' 8 7 T_sl_api_Part, as' 3 8]) (.seq (rg 7 0 [9, 10, 11, 12, 13, 14] [mv 9 3, fa 10 T_api_Config 1 9, ld 11 T_int 10, bi 12 .add T_int (q 11) (ki 1) T_int, bi 13 .mul T_int (q 9) (q 12) T_int, bi 14 .add T_int (q 13) (ki 2) T_int, as' 4 14]) (.seq (.block 0 (.seq (rg 12 0 [16, 17, 18, 19, 20, 21, 22, 23, 24, 25, 26] [fa 16 T_api_Config 1 5, ld 17 T_int 16, ld 18 T_api_Config 1, ca 19 n_r5_edge #[q 18] #[T_api_Config], bi 20 .mul T_int (ki 3) (q 19) T_int, bi 21 .lss T_int (q 17) (q 20) T_int, mv 22 21, gd 22 false (fa 23 T_api_Config 1 5), gd 22 false (ld 24 T_int 23), gd 22 false (bi 25 .gtr T_int (q 24) (ki 20000) T_int), i' 26 (.pick (q 22) (kb true) (q 25)), as' 15 26]) (.cond (q 15) (.seq (rg 1 0 [1, 3, 4, 15] [i' 2 (.assign (ki 6))]) .ret) (.seq (rg 13 0 [15, 28, 29, 30, 31, 32, 33, 34, 35, 36, 37, 38, 39] [fa 28 T_api_Config 1 4, ld 29 T_int 28, fa 30 T_api_Config 1 5, ld 31 T_int 30, bi 32 .mul T_int (ki 2) (q 31) T_int, bi 33 .add T_int (q 32) (ki 1) T_int, bi 34 .lss T_int (q 29) (q 33) T_int, mv 35 34, gd 35 false (fa 36 T_api_Config 1 4), gd 35 false (ld 37 T_int 36), gd 35 false (bi 38 .gtr T_int (q 37) (ki 1000000) T_int), i' 39 (.pick (q 35) (kb true) (q 38)), as' 27 39]) (.cond (q 27) (.seq (rg 1 0 [1, 3, 4, 27] [i' 2 (.assign (ki 7))]) .ret) (.seq (rg 11 0 [27, 41, 42, 43, 44, 45, 46, 47, 48, 49, 50] [fa 41 T_api_Config 1 3, ld 42 T_int 41, fa 43 T_api_Config 1 5, ld 44 T_int 43, bi 45 .lss T_int (q 42) (q 44) T_int, mv 46 45, gd 46 false (fa 47 T_api_Config 1 3), gd 46 false (ld 48 T_int 47), gd 46 false (bi 49 .gtr T_int (q 48) (ki 1000000) T_int), i' 50 (.pick (q 46) (kb true) (q 49)), as' 40 50]) (.cond (q 40) (.seq (rg 1 0 [1, 3, 4, 40] [i' 2 (.assign (ki 8))]) .ret) .skip))))))) (.seq (.seq (rg 1 0 [40] [i' 5 (.assign (ki 0))]) (.block 1 c_r5_fits_L0)) (.seq (.block 3 (.seq (rg 10 0 [5, 53, 80, 81, 82, 83, 84, 85, 86, 87, 88] [fa 80 T_api_Config 1 7, ld 81 T_int 80, fa 82 T_api_Config 1 2, ld 83 T_int 82, bi 84 .mul T_int64 (q 81) (q 83) T_int64, ld 85 T_api_Config 1, ca 86 n_r5_jump #[q 85] #[T_api_Config], bi 87 .mul T_int64 (q 86) (ki 1000000) T_int64, bi 88 .lss T_int64 (q 84) (q 87) T_int64, as' 79 88]) (.cond (q 79) (.seq (rg 1 0 [1, 3, 4, 79] [i' 2 (.assign (ki 10))]) .ret) (.seq (rg 11 0 [79, 90, 91, 92, 93, 94, 95, 96, 97, 98, 99] [fa 90 T_api_Config 1 8, ld 91 T_int 90, mv 92 3, bi 93 .sub T_int (q 92) (ki 1) T_int, fa 94 T_api_Config 1 9, ld 95 T_int 94, bi 96 .add T_int (q 95) (ki 1) T_int, bi 97 .mul T_int (q 93) (q 96) T_int, bi 98 .add T_int (q 97) (ki 1) T_int, bi 99 .lss T_int (q 91) (q 98) T_int, as' 89 99]) (.cond (q 89) (.seq (rg 1 0 [1, 3, 4, 89] [i' 2 (.assign (ki 11))]) .ret) (.seq (rg 10 0 [89, 101, 102, 103, 104, 105, 106, 107, 108, 109] [fa 101 T_api_Config 1 10, ld 102 T_int 101, mv 103 4, bi 104 .lss T_int (q 102) (q 103) T_int, mv 105 104, gd 105 false (fa 106 T_api_Config 1 10), gd 105 false (ld 107 T_int 106), gd 105 false (bi 108 .gtr T_int (q 107) (ki 60000) T_int), i' 109 (.pick (q 105) (kb true) (q 108)), as' 100 109]) (.cond (q 100) (.seq (rg 1 0 [1, 3, 4, 100] [i' 2 (.assign (ki 12))]) .ret) (.seq (rg 10 0 [4, 100, 111, 112, 113, 114, 115, 116, 117, 118, 119] [fa 111 T_api_Config 1 11, ld 112 T_int 111, mv 113 4, bi 114 .lss T_int (q 112) (q 113) T_int, mv 115 114, gd 115 false (fa 116 T_api_Config 1 11), gd 115 false (ld 117 T_int 116), gd 115 false (bi 118 .gtr T_int (q 117) (ki 60000) T_int), i' 119 (.pick (q 115) (kb true) (q 118)), as' 110 119]) (.cond (q 110) (.seq (rg 1 0 [1, 3, 110] [i' 2 (.assign (ki 13))]) .ret) (.seq (rg 9 0 [110, 121, 122, 123, 124, 125, 126, 127, 128] [fa 121 T_api_Config 1 10, ld 122 T_int 121, mv 123 3, fa 124 T_api_Config 1 11, ld 125 T_int 124, bi 126 .mul T_int (q 123) (q 125) T_int, bi 127 .add T_int (q 122) (q 126) T_int, bi 128 .gtr T_int (q 127) (ki 60000) T_int, as' 120 128]) (.cond (q 120) (.seq (rg 1 0 [1, 3, 120] [i' 2 (.assign (ki 14))]) .ret) (.seq (rg 11 0 [1, 3, 120, 130, 131, 132, 133, 134, 135, 136, 137, 138, 139] [fa 130 T_api_Config 1 12, ld 131 T_int 130, mv 132 3, bi 133 .add T_int (q 132) (ki 2) T_int, bi 134 .lss T_int (q 131) (q 133) T_int, mv 135 134, gd 135 false (fa 136 T_api_Config 1 12), gd 135 false (ld 137 T_int 136), gd 135 false (bi 138 .gtr T_int (q 137) (ki 64) T_int), i' 139 (.pick (q 135) (kb true) (q 138)), as' 129 139]) (.cond (q 129) (.seq (rg 1 0 [129] [i' 2 (.assign (ki 15))]) .ret) .skip))))))))))))) (.seq (rg 1 0 [129] [i' 2 (.assign (ki 0))]) .ret)))))))
theorem ok_r5_fits : Tryz.f123.body.map (comp ES n_r5_fits) = some c_r5_fits := by kernel_rfl
theorem b_r5_fits (t0 : SV) (M : Mem) : ICw ES n_r5_fits [t0] M = endS ES [.tmp 2] (evW ES n_r5_fits c_r5_fits ⟨[t0, .bad, .bad, .bad, .bad, .bad, .bad, .bad, .bad, .bad, .bad, .bad, .bad, .bad, .bad, .bad, .bad, .bad, .bad, .bad, .bad, .bad, .bad, .bad, .bad, .bad, .bad, .bad, .bad, .bad, .bad, .bad, .bad, .bad, .bad, .bad, .bad, .bad, .bad, .bad, .bad, .bad, .bad, .bad, .bad, .bad, .bad, .bad, .bad, .bad, .bad, .bad, .bad, .bad, .bad, .bad, .bad, .bad, .bad, .bad, .bad, .bad, .bad, .bad, .bad, .bad, .bad, .bad, .bad, .bad, .bad, .bad, .bad, .bad, .bad, .bad, .bad, .bad, .bad, .bad, .bad, .bad, .bad, .bad, .bad, .bad, .bad, .bad, .bad, .bad, .bad, .bad, .bad, .bad, .bad, .bad, .bad, .bad, .bad, .bad, .bad, .bad, .bad, .bad, .bad, .bad, .bad, .bad, .bad, .bad, .bad, .bad, .bad, .bad, .bad, .bad, .bad, .bad, .bad, .bad, .bad, .bad, .bad, .bad, .bad, .bad, .bad, .bad, .bad, .bad, .bad, .bad, .bad, .bad, .bad, .bad, .bad, .bad, .bad, .bad], M⟩) :=
  ICw_run rfl Tryz.func123 ok_r5_fits (by kernel_rfl) (by kernel_rfl) (by kernel_rfl) M
@[simp] theorem x_r5_fits_r5_edge : CX ES n_r5_fits n_r5_edge := cx rfl
@[simp] theorem x_r5_fits_r5_ports : CX ES n_r5_fits n_r5_ports := cx rfl
@[simp] theorem x_r5_fits_r5_jump : CX ES n_r5_fits n_r5_jump := cx rfl

/-! drumline/drumlineref5.slew -/
def c_r5_slew : C :=
  (.seq (rg 2 2 [] [i' 1 (.box T_api_Config (q 0)), i' 2 (.assign (ki 0))]) (.seq (rg 7 0 [] [fa 3 T_api_Config 1 6, ld 4 T_int 3, fa 5 T_api_Config 1 2, ld 6 T_int 5, bi 7 .mul T_int64 (q 4) (q 6) T_int64, ca 8 n_r5_up #[q 7] #[T_int64], as' 2 8]) .ret))
theorem ok_r5_slew : Tryz.f124.body.map (comp ES n_r5_slew) = some c_r5_slew := by kernel_rfl
theorem b_r5_slew (t0 : SV) (M : Mem) : ICw ES n_r5_slew [t0] M = endS ES [.tmp 2] (evW ES n_r5_slew c_r5_slew ⟨[t0, .bad, .bad, .bad, .bad, .bad, .bad, .bad, .bad], M⟩) :=
  ICw_run rfl Tryz.func124 ok_r5_slew (by kernel_rfl) (by kernel_rfl) (by kernel_rfl) M
@[simp] theorem x_r5_slew_r5_up : CX ES n_r5_slew n_r5_up := cx rfl

/-! slices.IndexFunc[[]int64,int64] -/
def c_slices_IndexFunc_sl_int64_int64_B0 : C :=
  (.seq (rg 1 0 [] [bi 9 .lss T_int (q 8) (q 7) T_int]) (.seq (.cond (q 9) .skip (.exit 0)) (.seq (.block 1 (.seq (rg 2 0 [9, 10] [mv 10 8, as' 5 10]) (.seq (rg 6 6 [11, 12, 13, 14, 15] [mv 11 1, mv 12 0, mv 13 5, i' 14 (.indexAddr T_sl_int64 (q 12) (q 13)), ld 15 T_int64 14, i' 16 (.call { callee := .value (q 11), args := #[q 15], argTypes := #[T_int64] })]) (.cond (q 16) (.seq (rg 2 0 [0, 1, 5, 7, 8, 16, 17] [mv 17 5, as' 4 17]) .ret) .skip)))) (rg 2 0 [5, 16, 18] [bi 18 .add T_int (q 8) (ki 1) T_int, mv 8 18]))))
def c_slices_IndexFunc_sl_int64_int64_L0 : C := .loop c_slices_IndexFunc_sl_int64_int64_B0
/-- What is live at the loop's head: t0 s, t1 f, t7, t8 -/
abbrev h_slices_IndexFunc_sl_int64_int64_0 (t0 t1 t7 t8 : SV) : List SV := [t0, t1, .bad, .bad, .bad, .bad, .bad, t7, t8, .bad, .bad, .bad, .bad, .bad, .bad, .bad, .bad, .bad, .bad]
def c_slices_IndexFunc_sl_int64_int64 : C :=
  (.seq (rg 1 0 [4] [i' 4 (.assign (ki 0))]) (.seq (.seq (rg 3 0 [6] [mv 6 0, le' 7 6 T_sl_int64, i' 8 (.move (ki 0))]) (.block 0 c_slices_IndexFunc_sl_int64_int64_L0)) (.seq (rg 1 0 [0, 1, 7, 8, 9] [i' 4 (.assign (ki (-1)))]) .ret)))
theorem ok_slices_IndexFunc_sl_int64_int64 : Tryz.f126.body.map (comp ES n_slices_IndexFunc_sl_int64_int64) = some c_slices_IndexFunc_sl_int64_int64 := by kernel_rfl
theorem b_slices_IndexFunc_sl_int64_int64 (t0 t1 : SV) (M : Mem) : ICw ES n_slices_IndexFunc_sl_int64_int64 [t0, t1] M = endS ES [.tmp 4] (evW ES n_slices_IndexFunc_sl_int64_int64 c_slices_IndexFunc_sl_int64_int64 ⟨[t0, t1, .bad, .bad, .bad, .bad, .bad, .bad, .bad, .bad, .bad, .bad, .bad, .bad, .bad, .bad, .bad, .bad, .bad], M⟩) :=
  ICw_run rfl Tryz.func126 ok_slices_IndexFunc_sl_int64_int64 (by kernel_rfl) (by kernel_rfl) (by kernel_rfl) M

/-! drumline/bounds.part -/
def c_bounds_part : C :=
  (.seq (rg 1 0 [] [i' 2 (.assign (ki 0))]) (.seq (rg 7 0 [] [mv 6 0, ca 7 n_ticks_Ceil #[q 6, (ki 1000000)] #[T_int64, T_int64], mv 5 7, xt 8 5 0, xt 9 5 1, as' 3 8, as' 4 9]) (.seq (rg 2 0 [] [mv 10 3, as' 2 10]) .ret)))
theorem ok_bounds_part : Tryz.f128.body.map (comp ES n_bounds_part) = some c_bounds_part := by kernel_rfl
theorem b_bounds_part (t0 : SV) (M : Mem) : ICw ES n_bounds_part [t0] M = endS ES [.tmp 2] (evW ES n_bounds_part c_bounds_part ⟨[t0, .bad, .bad, .bad, .bad, .bad, .bad, .bad, .bad, .bad, .bad], M⟩) :=
  ICw_run rfl Tryz.func128 ok_bounds_part (by kernel_rfl) (by kernel_rfl) (by kernel_rfl) M
@[simp] theorem x_bounds_part_ticks_Ceil : CX ES n_bounds_part n_ticks_Ceil := cx rfl

/-! drumline/bounds.first -/
def c_bounds_first_B0 : C :=
  (.seq (rg 1 0 [] [bi 10 .lss T_int (q 9) (q 8) T_int]) (.seq (.cond (q 10) .skip (.exit 0)) (.seq (.block 1 (.seq (rg 5 0 [10, 11, 12, 13] [mv 11 9, i' 12 (.indexAddr T_sl_bool (q 7) (q 9)), ld 13 T_bool 12, as' 5 11, as' 6 13]) (.seq (rg 2 0 [6, 14] [mv 14 6, i' 15 (.unOp .not T_bool (q 14))]) (.cond (q 15) (.seq (rg 4 0 [0, 5, 7, 8, 9, 15, 16, 17, 18] [mv 16 0, mv 17 5, bi 18 .add T_int (q 16) (q 17) T_int, as' 4 18]) .ret) .skip)))) (rg 2 0 [5, 15, 19] [bi 19 .add T_int (q 9) (ki 1) T_int, mv 9 19]))))
def c_bounds_first_L0 : C := .loop c_bounds_first_B0
/-- What is live at the loop's head: t0 from, t7, t8, t9 -/
abbrev h_bounds_first_0 (t0 t7 t8 t9 : SV) : List SV := [t0, .bad, .bad, .bad, .bad, .bad, .bad, t7, t8, t9, .bad, .bad, .bad, .bad, .bad, .bad, .bad, .bad, .bad, .bad]
def c_bounds_first : C :=
  (.seq (rg 1 0 [4] [i' 4 (.assign (ki 0))]) (.seq (.seq (rg 3 0 [1] [mv 7 1, le' 8 7 T_sl_bool, i' 9 (.move (ki 0))]) (.block 0 c_bounds_first_L0)) (.seq (rg 1 0 [0, 7, 8, 9, 10] [i' 4 (.assign (ki 0))]) .ret)))
theorem ok_bounds_first : Tryz.f130.body.map (comp ES n_bounds_first) = some c_bounds_first := by kernel_rfl
theorem b_bounds_first (t0 t1 : SV) (M : Mem) : ICw ES n_bounds_first [t0, t1] M = endS ES [.tmp 4] (evW ES n_bounds_first c_bounds_first ⟨[t0, t1, .bad, .bad, .bad, .bad, .bad, .bad, .bad, .bad, .bad, .bad, .bad, .bad, .bad, .bad, .bad, .bad, .bad, .bad], M⟩) :=
  ICw_run rfl Tryz.func130 ok_bounds_first (by kernel_rfl) (by kernel_rfl) (by kernel_rfl) M

/-! drumline/bounds.within -/
def c_bounds_within : C :=
  (.seq (rg 1 0 [] [i' 6 (.assign (kb false))]) (.seq (rg 9 0 [] [mv 7 0, mv 8 1, bi 9 .geq T_int (q 7) (q 8) T_int, mv 10 9, gd 10 true (mv 11 0), gd 10 true (mv 12 2), gd 10 true (bi 13 .leq T_int (q 11) (q 12) T_int), i' 14 (.pick (q 10) (q 13) (kb false)), as' 6 14]) .ret))
theorem ok_bounds_within : Tryz.f131.body.map (comp ES n_bounds_within) = some c_bounds_within := by kernel_rfl
theorem b_bounds_within (t0 t1 t2 : SV) (M : Mem) : ICw ES n_bounds_within [t0, t1, t2] M = endS ES [.tmp 6] (evW ES n_bounds_within c_bounds_within ⟨[t0, t1, t2, .bad, .bad, .bad, .bad, .bad, .bad, .bad, .bad, .bad, .bad, .bad, .bad], M⟩) :=
  ICw_run rfl Tryz.func131 ok_bounds_within (by kernel_rfl) (by kernel_rfl) (by kernel_rfl) M

/-! drumline/plan.check -/
def c_plan_check : C :=
  (.seq (rg 2 2 [] [i' 1 (.box T_api_Config (q 0)), i' 2 (.assign (.const .nilIface))]) (.seq (.seq (rg 3 0 [] [ld 6 T_api_Config 1, ca 7 n_plan_parts #[q 6] #[T_api_Config], as' 3 7]) (.seq (rg 2 0 [] [mv 8 3, bi 9 .neq T_error (q 8) (.const .nilIface) T_error]) (.cond (q 9) (.seq (rg 2 0 [] [mv 10 3, as' 2 10]) .ret) .skip))) (.seq (.seq (rg 3 0 [] [ld 11 T_api_Config 1, ca 12 n_plan_links #[q 11] #[T_api_Config], as' 4 12]) (.seq (rg 2 0 [] [mv 13 4, bi 14 .neq T_error (q 13) (.const .nilIface) T_error]) (.cond (q 14) (.seq (rg 2 0 [] [mv 15 4, as' 2 15]) .ret) .skip))) (.seq (.seq (rg 4 0 [] [ld 16 T_api_Config 1, ca 17 n_plan_Dists #[q 16, (ki 0)] #[T_api_Config, T_int], ca 18 n_slices_Index_sl_int_int #[q 17, (ki (-1))] #[T_sl_int, T_int], as' 5 18]) (.seq (rg 2 0 [] [mv 19 5, bi 20 .geq T_int (q 19) (ki 0) T_int]) (.cond (q 20) (.seq (rg 3 0 [] [mv 21 5, ca 22 n_plan_wrong #[(ki 13), q 21] #[T_api_Errno, T_int], as' 2 22]) .ret) .skip))) (.seq (rg 1 0 [] [i' 2 (.assign (.const .nilIface))]) .ret)))))
theorem ok_plan_check : Tryz.f132.body.map (comp ES n_plan_check) = some c_plan_check := by kernel_rfl
theorem b_plan_check (t0 : SV) (M : Mem) : ICw ES n_plan_check [t0] M = endS ES [.tmp 2] (evW ES n_plan_check c_plan_check ⟨[t0, .bad, .bad, .bad, .bad, .bad, .bad, .bad, .bad, .bad, .bad, .bad, .bad, .bad, .bad, .bad, .bad, .bad, .bad, .bad, .bad, .bad, .bad], M⟩) :=
  ICw_run rfl Tryz.func132 ok_plan_check (by kernel_rfl) (by kernel_rfl) (by kernel_rfl) M
@[simp] theorem x_plan_check_plan_Dists : CX ES n_plan_check n_plan_Dists := cx rfl
@[simp] theorem x_plan_check_plan_parts : CX ES n_plan_check n_plan_parts := cx rfl
@[simp] theorem x_plan_check_plan_links : CX ES n_plan_check n_plan_links := cx rfl
@[simp] theorem x_plan_check_slices_Index_sl_int_int : CX ES n_plan_check n_slices_Index_sl_int_int := cx rfl
@[simp] theorem x_plan_check_plan_wrong : CX ES n_plan_check n_plan_wrong := cx rfl

/-! slices.pdqsortCmpFunc[drumline/api.Port] -/
def c_slices_pdqsortCmpFunc_api_Port_B0 : C :=
  (.block 1 (.seq (rg 4 0 [21, 22, 23] [mv 21 2, mv 22 1, bi 23 .sub T_int (q 21) (q 22) T_int, as' 12 23]) (.seq (.seq (rg 2 0 [24] [mv 24 12, bi 25 .leq T_int (q 24) (ki 12) T_int]) (.cond (q 25) (.seq (rg 5 5 [0, 1, 2, 3, 4, 10, 11, 12, 25, 26, 27, 28, 29, 30] [mv 26 0, mv 27 1, mv 28 2, mv 29 4, ca 30 n_slices_insertionSortCmpFunc_api_Port #[q 26, q 27, q 28, q 29] #[T_sl_api_Port, T_int, T_int, T_func_api_Port_api_Port_int]]) .ret) .skip)) (.seq (.seq (rg 2 0 [25, 31] [mv 31 3, bi 32 .eql T_int (q 31) (ki 0) T_int]) (.cond (q 32) (.seq (rg 5 0 [0, 1, 2, 3, 4, 10, 11, 12, 32, 33, 34, 35, 36, 37] [mv 33 0, mv 34 1, mv 35 2, mv 36 4, ca 37 n_slices_heapSortCmpFunc_api_Port #[q 33, q 34, q 35, q 36] #[T_sl_api_Port, T_int, T_int, T_func_api_Port_api_Port_int]]) .ret) .skip)) (.seq (.seq (rg 2 0 [32, 38] [mv 38 10, i' 39 (.unOp .not T_bool (q 38))]) (.cond (q 39) (.seq (rg 5 0 [39, 40, 41, 42, 43, 44] [mv 40 0, mv 41 1, mv 42 2, mv 43 4, ca 44 n_slices_breakPatternsCmpFunc_api_Port #[q 40, q 41, q 42, q 43] #[T_sl_api_Port, T_int, T_int, T_func_api_Port_api_Port_int]]) (rg 3 0 [45, 46] [mv 45 3, bi 46 .sub T_int (q 45) (ki 1) T_int, as' 3 46])) .skip)) (.seq (rg 10 0 [39, 47, 48, 49, 50, 51, 52, 53, 54] [mv 48 0, mv 49 1, mv 50 2, mv 51 4, ca 52 n_slices_choosePivotCmpFunc_api_Port #[q 48, q 49, q 50, q 51] #[T_sl_api_Port, T_int, T_int, T_func_api_Port_api_Port_int], mv 47 52, xt 53 47 0, xt 54 47 1, as' 13 53, as' 14 54]) (.seq (.seq (rg 2 0 [55] [mv 55 14, bi 56 .eql T_slices_sortedHint (q 55) (ki 2) T_slices_sortedHint]) (.cond (q 56) (.seq (rg 5 0 [14, 56, 57, 58, 59, 60, 61] [mv 57 0, mv 58 1, mv 59 2, mv 60 4, ca 61 n_slices_reverseRangeCmpFunc_api_Port #[q 57, q 58, q 59, q 60] #[T_sl_api_Port, T_int, T_int, T_func_api_Port_api_Port_int]]) (.seq (rg 7 0 [62, 63, 64, 65, 66, 67] [mv 62 2, bi 63 .sub T_int (q 62) (ki 1) T_int, mv 64 13, mv 65 1, bi 66 .sub T_int (q 64) (q 65) T_int, bi 67 .sub T_int (q 63) (q 66) T_int, as' 13 67]) (rg 1 0 [] [i' 14 (.assign (ki 1))]))) .skip)) (.seq (.seq (rg 8 0 [14, 56, 68, 69, 70, 71, 72, 73, 74] [mv 68 10, mv 69 68, gd 69 true (mv 70 11), i' 71 (.pick (q 69) (q 70) (kb false)), mv 72 71, gd 72 true (mv 73 14), gd 72 true (bi 74 .eql T_slices_sortedHint (q 73) (ki 1) T_slices_sortedHint), i' 75 (.pick (q 72) (q 74) (kb false))]) (.cond (q 75) (.seq (rg 5 0 [75, 76, 77, 78, 79] [mv 76 0, mv 77 1, mv 78 2, mv 79 4, ca 80 n_slices_partialInsertionSortCmpFunc_api_Port #[q 76, q 77, q 78, q 79] #[T_sl_api_Port, T_int, T_int, T_func_api_Port_api_Port_int]]) (.cond (q 80) .ret .skip)) .skip)) (.seq (.seq (rg 17 17 [75, 80, 81, 82, 83, 84, 85, 86, 87, 88, 89, 90, 91, 92, 93, 94, 95, 96] [li [] (mv 81 1), li [0] (bi 82 .gtr T_int (q 81) (ki 0) T_int), li [0, 1] (mv 83 82), li [0, 1, 2] (gd 83 true (mv 84 4)), li [0, 1, 2] (gd 83 true (mv 85 0)), li [0, 1, 2] (gd 83 true (mv 86 1)), li [0, 1, 2, 5] (gd 83 true (bi 87 .sub T_int (q 86) (ki 1) T_int)), li [0, 1, 2, 4, 5, 6] (gd 83 true (i' 88 (.indexAddr T_sl_api_Port (q 85) (q 87)))), li [0, 1, 2, 4, 5, 6, 7] (gd 83 true (ld 89 T_api_Port 88)), li [0, 1, 2] (gd 83 true (mv 90 0)), li [0, 1, 2] (gd 83 true (mv 91 13)), li [0, 1, 2, 9, 10] (gd 83 true (i' 92 (.indexAddr T_sl_api_Port (q 90) (q 91)))), li [0, 1, 2, 9, 10, 11] (gd 83 true (ld 93 T_api_Port 92)), li [0, 1, 2, 3, 4, 5, 6, 7, 8, 9, 10, 11, 12] (gd 83 true (i' 94 (.call { callee := .value (q 84), args := #[q 89, q 93], argTypes := #[T_api_Port, T_api_Port] }))), li [0, 1, 2, 3, 4, 5, 6, 7, 8, 9, 10, 11, 12, 13] (gd 83 true (bi 95 .lss T_int (q 94) (ki 0) T_int)), li [0, 1, 2, 3, 4, 5, 6, 7, 8, 9, 10, 11, 12, 13, 14] (gd 83 true (i' 96 (.unOp .not T_bool (q 95)))), li [0, 1, 2, 3, 4, 5, 6, 7, 8, 9, 10, 11, 12, 13, 14, 15] (i' 97 (.pick (q 83) (q 96) (kb false)))]) (.cond (q 97) (.seq (rg 7 0 [1, 12, 13, 97, 98, 99, 100, 101, 102, 103] [mv 98 0, mv 99 1, mv 100 2, mv 101 13, mv 102 4, ca 103 n_slices_partitionEqualCmpFunc_api_Port #[q 98, q 99, q 100, q 101, q 102] #[T_sl_api_Port, T_int, T_int, T_int, T_func_api_Port_api_Port_int], as' 15 103]) (.seq (rg 2 0 [15, 104] [mv 104 15, as' 1 104]) (.exit 1))) .skip)) (.seq (rg 11 0 [10, 11, 13, 97, 105, 106, 107, 108, 109, 110, 111, 112, 113] [mv 106 0, mv 107 1, mv 108 2, mv 109 13, mv 110 4, ca 111 n_slices_partitionCmpFunc_api_Port #[q 106, q 107, q 108, q 109, q 110] #[T_sl_api_Port, T_int, T_int, T_int, T_func_api_Port_api_Port_int], mv 105 111, xt 112 105 0, xt 113 105 1, as' 16 112, as' 17 113]) (.seq (rg 2 0 [17, 114] [mv 114 17, as' 11 114]) (.seq (rg 8 0 [115, 116, 117, 118, 119, 120] [mv 115 16, mv 116 1, bi 117 .sub T_int (q 115) (q 116) T_int, mv 118 2, mv 119 16, bi 120 .sub T_int (q 118) (q 119) T_int, as' 18 117, as' 19 120]) (.seq (rg 3 0 [12, 121, 122] [mv 121 12, bi 122 .quo T_int (q 121) (ki 8) T_int, as' 20 122]) (.seq (rg 3 0 [123, 124] [mv 123 18, mv 124 19, bi 125 .lss T_int (q 123) (q 124) T_int]) (.cond (q 125) (.seq (rg 4 0 [18, 19, 20, 125, 126, 127, 128] [mv 126 18, mv 127 20, bi 128 .geq T_int (q 126) (q 127) T_int, as' 10 128]) (.seq (rg 6 0 [1, 129, 130, 131, 132, 133, 134] [mv 129 0, mv 130 1, mv 131 16, mv 132 3, mv 133 4, ca 134 n_slices_pdqsortCmpFunc_api_Port #[q 129, q 130, q 131, q 132, q 133] #[T_sl_api_Port, T_int, T_int, T_int, T_func_api_Port_api_Port_int]]) (rg 3 0 [16, 135, 136] [mv 135 16, bi 136 .add T_int (q 135) (ki 1) T_int, as' 1 136]))) (.seq (rg 4 0 [18, 19, 20, 125, 137, 138, 139] [mv 137 19, mv 138 20, bi 139 .geq T_int (q 137) (q 138) T_int, as' 10 139]) (.seq (rg 7 0 [2, 140, 141, 142, 143, 144, 145, 146] [mv 140 0, mv 141 16, bi 142 .add T_int (q 141) (ki 1) T_int, mv 143 2, mv 144 3, mv 145 4, ca 146 n_slices_pdqsortCmpFunc_api_Port #[q 140, q 142, q 143, q 144, q 145] #[T_sl_api_Port, T_int, T_int, T_int, T_func_api_Port_api_Port_int]]) (rg 2 0 [16, 147] [mv 147 16, as' 2 147]))))))))))))))))))
def c_slices_pdqsortCmpFunc_api_Port_L0 : C := .loop c_slices_pdqsortCmpFunc_api_Port_B0
/-- What is live at the loop's head: t0 data, t1 a, t2 b, t3 limit, t4 cmp, t10 wasBalanced, t11 wasPartitioned -/
abbrev h_slices_pdqsortCmpFunc_api_Port_0 (t0 t1 t2 t3 t4 t10 t11 : SV) : List SV := [t0, t1, t2, t3, t4, .bad, .bad, .bad, .bad, .bad, t10, t11, .bad, .bad, .bad, .bad, .bad, .bad, .bad, .bad, .bad, .bad, .bad, .bad, .bad, .bad, .bad, .bad, .bad, .bad, .bad, .bad, .bad, .bad, .bad, .bad, .bad, .bad, .bad, .bad, .bad, .bad, .bad, .bad, .bad, .bad, .bad, .bad, .bad, .bad, .bad, .bad, .bad, .bad, .bad, .bad, .bad, .bad, .bad, .bad, .bad, .bad, .bad, .bad, .bad, .bad, .bad, .bad, .bad, .bad, .bad, .bad, .bad, .bad, .bad, .bad, .bad, .bad, .bad, .bad, .bad, .bad, .bad, .bad, .bad, .bad, .bad, .bad, .bad, .bad, .bad, .bad, .bad, .bad, .bad, .bad, .bad, .bad, .bad, .bad, .bad, .bad, .bad, .bad, .bad, .bad, .bad, .bad, .bad, .bad, .bad, .bad, .bad, .bad, .bad, .bad, .bad, .bad, .bad, .bad, .bad, .bad, .bad, .bad, .bad, .bad, .bad, .bad, .bad, .bad, .bad, .bad, .bad, .bad, .bad, .bad, .bad, .bad, .bad, .bad, .bad, .bad, .bad, .bad, .bad, .bad, .bad, .bad]
def c_slices_pdqsortCmpFunc_api_Port : C :=
  (.seq (rg 1 0 [] [i' 10 (.assign (kb true))]) (.seq (rg 1 0 [] [i' 11 (.assign (kb true))]) (.block 0 c_slices_pdqsortCmpFunc_api_Port_L0)))
theorem ok_slices_pdqsortCmpFunc_api_Port : Tryz.f133.body.map (comp ES n_slices_pdqsortCmpFunc_api_Port) = some c_slices_pdqsortCmpFunc_api_Port := by kernel_rfl
theorem b_slices_pdqsortCmpFunc_api_Port (t0 t1 t2 t3 t4 : SV) (M : Mem) : ICw ES n_slices_pdqsortCmpFunc_api_Port [t0, t1, t2, t3, t4] M = endS ES [] (evW ES n_slices_pdqsortCmpFunc_api_Port c_slices_pdqsortCmpFunc_api_Port ⟨[t0, t1, t2, t3, t4, .bad, .bad, .bad, .bad, .bad, .bad, .bad, .bad, .bad, .bad, .bad, .bad, .bad, .bad, .bad, .bad, .bad, .bad, .bad, .bad, .bad, .bad, .bad, .bad, .bad, .bad, .bad, .bad, .bad, .bad, .bad, .bad, .bad, .bad, .bad, .bad, .bad, .bad, .bad, .bad, .bad, .bad, .bad, .bad, .bad, .bad, .bad, .bad, .bad, .bad, .bad, .bad, .bad, .bad, .bad, .bad, .bad, .bad, .bad, .bad, .bad, .bad, .bad, .bad, .bad, .bad, .bad, .bad, .bad, .bad, .bad, .bad, .bad, .bad, .bad, .bad, .bad, .bad, .bad, .bad, .bad, .bad, .bad, .bad, .bad, .bad, .bad, .bad, .bad, .bad, .bad, .bad, .bad, .bad, .bad, .bad, .bad, .bad, .bad, .bad, .bad, .bad, .bad, .bad, .bad, .bad, .bad, .bad, .bad, .bad, .bad, .bad, .bad, .bad, .bad, .bad, .bad, .bad, .bad, .bad, .bad, .bad, .bad, .bad, .bad, .bad, .bad, .bad, .bad, .bad, .bad, .bad, .bad, .bad, .bad, .bad, .bad, .bad, .bad, .bad, .bad, .bad, .bad], M⟩) :=
  ICw_run rfl Tryz.func133 ok_slices_pdqsortCmpFunc_api_Port (by kernel_rfl) (by kernel_rfl) (by kernel_rfl) M
@[simp] theorem x_slices_pdqsortCmpFunc_api_Port_slices_pdqsortCmpFunc_api_Port : CX ES n_slices_pdqsortCmpFunc_api_Port n_slices_pdqsortCmpFunc_api_Port := cx rfl
@[simp] theorem x_slices_pdqsortCmpFunc_api_Port_slices_insertionSortCmpFunc_api_Port : CI ES n_slices_pdqsortCmpFunc_api_Port n_slices_insertionSortCmpFunc_api_Port := ci rfl
@[simp] theorem x_slices_pdqsortCmpFunc_api_Port_slices_heapSortCmpFunc_api_Port : CX ES n_slices_pdqsortCmpFunc_api_Port n_slices_heapSortCmpFunc_api_Port := cx rfl
@[simp] theorem x_slices_pdqsortCmpFunc_api_Port_slices_breakPatternsCmpFunc_api_Port : CX ES n_slices_pdqsortCmpFunc_api_Port n_slices_breakPatternsCmpFunc_api_Port := cx rfl
@[simp] theorem x_slices_pdqsortCmpFunc_api_Port_slices_choosePivotCmpFunc_api_Port : CX ES n_slices_pdqsortCmpFunc_api_Port n_slices_choosePivotCmpFunc_api_Port := cx rfl
@[simp] theorem x_slices_pdqsortCmpFunc_api_Port_slices_reverseRangeCmpFunc_api_Port : CX ES n_slices_pdqsortCmpFunc_api_Port n_slices_reverseRangeCmpFunc_api_Port := cx rfl
@[simp] theorem x_slices_pdqsortCmpFunc_api_Port_slices_partialInsertionSortCmpFunc_api_Port : CX ES n_slices_pdqsortCmpFunc_api_Port n_slices_partialInsertionSortCmpFunc_api_Port := cx rfl
@[simp] theorem x_slices_pdqsortCmpFunc_api_Port_slices_partitionEqualCmpFunc_api_Port : CX ES n_slices_pdqsortCmpFunc_api_Port n_slices_partitionEqualCmpFunc_api_Port := cx rfl
@[simp] theorem x_slices_pdqsortCmpFunc_api_Port_slices_partitionCmpFunc_api_Port : CX ES n_slices_pdqsortCmpFunc_api_Port n_slices_partitionCmpFunc_api_Port := cx rfl

/-! drumline/drumlineref5.ends -/
def c_r5_ends_B0 : C :=
  (.seq (.seq (rg 2 0 [17] [mv 17 9, bi 18 .lss T_int (q 17) (ki 2) T_int]) (.cond (q 18) .skip (.exit 0))) (.seq (.block 1 (.seq (rg 13 13 [10, 18, 21, 22, 23, 24, 25, 26, 27, 28, 29, 30] [li [] (ld 22 T_api_Config 4), li [] (mv 23 1), li [] (mv 24 2), li [] (mv 25 9), li [3] (i' 26 (.indexAddr T_a2_int (q 7) (q 25))), li [3, 4] (ld 27 T_int 26), li [0, 1, 2, 3, 4, 5] (ca 28 n_r5_port #[q 22, q 23, q 24, q 27] #[T_api_Config, T_int, T_int, T_int]), li [0, 1, 2, 3, 4, 5, 6] (mv 21 28), li [0, 1, 2, 3, 4, 5, 6, 7] (xt 29 21 0), li [0, 1, 2, 3, 4, 5, 6, 7] (xt 30 21 1), li [] (i' 10 (.alloc T_api_Port)), ⟨none, .store T_api_Port (q 10) (q 29), none, some [0, 1, 2, 3, 4, 5, 6, 7, 8, 10]⟩, li [0, 1, 2, 3, 4, 5, 6, 7, 8, 9, 10, 11] (as' 11 30)]) (.seq (rg 14 0 [11, 31, 32, 33, 34, 35, 36, 37, 38, 39, 40, 41, 42, 43] [mv 31 9, i' 32 (.indexAddr T_a2_int (q 7) (q 31)), ld 33 T_int 32, fa 34 T_api_Config 4 0, ld 35 T_sl_api_Part 34, mv 36 2, i' 37 (.indexAddr T_sl_api_Part (q 35) (q 36)), fa 38 T_api_Part 37 0, ld 39 T_int 38, ca 40 n_r5_is #[q 33, q 39] #[T_int, T_int], i' 41 (.unOp .not T_bool (q 40)), mv 42 41, gd 42 false (mv 43 11), i' 44 (.pick (q 42) (kb true) (q 43))]) (.cond (q 44) (.seq (rg 1 0 [1, 2, 4, 7, 9, 44] [i' 8 (.assign (kb true))]) .ret) .skip)))) (rg 3 0 [19, 20, 44] [mv 19 9, bi 20 .add T_int (q 19) (ki 1) T_int, as' 9 20])))
def c_r5_ends_L0 : C := .loop c_r5_ends_B0
/-- What is live at the loop's head: t1 i, t2 part, t4 c, t7 p, t9 g -/
abbrev h_r5_ends_0 (t1 t2 t4 t7 t9 : SV) : List SV := [.bad, t1, t2, .bad, t4, .bad, .bad, t7, .bad, t9, .bad, .bad, .bad, .bad, .bad, .bad, .bad, .bad, .bad, .bad, .bad, .bad, .bad, .bad, .bad, .bad, .bad, .bad, .bad, .bad, .bad, .bad, .bad, .bad, .bad, .bad, .bad, .bad, .bad, .bad, .bad, .bad, .bad, .bad, .bad]
def c_r5_ends : C :=
  (.seq (rg 3 3 [0, 3, 8] [i' 4 (.box T_api_Config (q 0)), i' 7 (.box T_a2_int (q 3)), i' 8 (.assign (kb false))]) (.seq (.seq (rg 5 0 [12, 13, 14, 15] [i' 12 (.indexAddr T_a2_int (q 7) (ki 0)), ld 13 T_int 12, i' 14 (.indexAddr T_a2_int (q 7) (ki 1)), ld 15 T_int 14, bi 16 .eql T_int (q 13) (q 15) T_int]) (.cond (q 16) (.seq (rg 1 0 [1, 2, 4, 7, 16] [i' 8 (.assign (kb true))]) .ret) .skip)) (.seq (.seq (rg 1 0 [16] [i' 9 (.assign (ki 0))]) (.block 0 c_r5_ends_L0)) (.seq (rg 1 0 [1, 2, 4, 7, 9, 18] [i' 8 (.assign (kb false))]) .ret))))
theorem ok_r5_ends : Tryz.f135.body.map (comp ES n_r5_ends) = some c_r5_ends := by kernel_rfl
theorem b_r5_ends (t0 t1 t2 t3 : SV) (M : Mem) : ICw ES n_r5_ends [t0, t1, t2, t3] M = endS ES [.tmp 8] (evW ES n_r5_ends c_r5_ends ⟨[t0, t1, t2, t3, .bad, .bad, .bad, .bad, .bad, .bad, .bad, .bad, .bad, .bad, .bad, .bad, .bad, .bad, .bad, .bad, .bad, .bad, .bad, .bad, .bad, .bad, .bad, .bad, .bad, .bad, .bad, .bad, .bad, .bad, .bad, .bad, .bad, .bad, .bad, .bad, .bad, .bad, .bad, .bad, .bad], M⟩) :=
  ICw_run rfl Tryz.func135 ok_r5_ends (by kernel_rfl) (by kernel_rfl) (by kernel_rfl) M
@[simp] theorem x_r5_ends_r5_port : CX ES n_r5_ends n_r5_port := cx rfl
@[simp] theorem x_r5_ends_r5_is : CX ES n_r5_ends n_r5_is := cx rfl

/-! drumline/drumlineref1.Ceil -/
def c_r1_Ceil : C :=
  (.seq (rg 2 0 [] [i' 4 (.assign (ki 0)), i' 5 (.assign (kb false))]) (.seq (.seq (rg 2 0 [] [mv 7 1, bi 8 .lss T_int64 (q 7) (ki 1) T_int64]) (.cond (q 8) (.seq (rg 2 0 [] [i' 4 (.assign (ki 0)), i' 5 (.assign (kb false))]) .ret) .skip)) (.seq (rg 4 0 [] [mv 9 0, mv 10 1, bi 11 .quo T_int64 (q 9) (q 10) T_int64, as' 6 11]) (.seq (.seq (rg 4 0 [] [mv 12 0, mv 13 1, bi 14 .rem T_int64 (q 12) (q 13) T_int64, bi 15 .gtr T_int64 (q 14) (ki 0) T_int64]) (.cond (q 15) (rg 3 0 [] [mv 16 6, bi 17 .add T_int64 (q 16) (ki 1) T_int64, as' 6 17]) .skip)) (.seq (rg 3 0 [] [mv 18 6, as' 4 18, i' 5 (.assign (kb true))]) .ret)))))
theorem ok_r1_Ceil : Tryz.f136.body.map (comp ES n_r1_Ceil) = some c_r1_Ceil := by kernel_rfl
theorem b_r1_Ceil (t0 t1 : SV) (M : Mem) : ICw ES n_r1_Ceil [t0, t1] M = endS ES [.tmp 4, .tmp 5] (evW ES n_r1_Ceil c_r1_Ceil ⟨[t0, t1, .bad, .bad, .bad, .bad, .bad, .bad, .bad, .bad, .bad, .bad, .bad, .bad, .bad, .bad, .bad, .bad, .bad], M⟩) :=
  ICw_run rfl Tryz.func136 ok_r1_Ceil (by kernel_rfl) (by kernel_rfl) (by kernel_rfl) M

/-! drumline/bounds.windows -/
def c_bounds_windows : C :=
  (.seq (rg 2 2 [] [i' 1 (.box T_api_Config (q 0)), i' 2 (.assign (ki 0))]) (.seq (rg 4 4 [] [ld 6 T_api_Config 1, ca 7 n_bounds_Reckon #[q 6] #[T_api_Config], i' 3 (.alloc T_bounds_Numbers), ⟨none, .store T_bounds_Numbers (q 3) (q 7), none, none⟩]) (.seq (.seq (rg 11 11 [] [fa 8 T_api_Config 1 5, ld 9 T_int 8, fa 10 T_bounds_Numbers 3 1, ld 11 T_int64 10, fa 12 T_bounds_Numbers 3 0, ld 13 T_int64 12, bi 14 .add T_int64 (q 11) (q 13) T_int64, ca 15 n_bounds_within #[q 9, q 14, (ki 20000)] #[T_int, T_int, T_int], i' 16 (.buildSlice T_sl_bool 1 #[(0, q 15)]), ca 17 n_bounds_first #[(ki 6), q 16] #[T_int, T_sl_bool], as' 4 17]) (.seq (rg 2 0 [] [mv 18 4, bi 19 .neq T_int (q 18) (ki 0) T_int]) (.cond (q 19) (.seq (rg 2 0 [] [mv 20 4, as' 2 20]) .ret) .skip))) (.seq (.seq (rg 15 15 [] [li [] (fa 21 T_api_Config 1 4), li [0] (ld 22 T_int 21), li [] (fa 23 T_api_Config 1 5), li [2] (ld 24 T_int 23), li [2, 3] (bi 25 .mul T_int (ki 2) (q 24) T_int), li [2, 3, 4] (bi 26 .add T_int (q 25) (ki 1) T_int), li [0, 1, 2, 3, 4, 5] (ca 27 n_bounds_within #[q 22, q 26, (ki 1000000)] #[T_int, T_int, T_int]), li [] (fa 28 T_api_Config 1 3), li [7] (ld 29 T_int 28), li [] (fa 30 T_api_Config 1 5), li [9] (ld 31 T_int 30), li [0, 1, 2, 3, 4, 5, 6, 7, 8, 9, 10] (ca 32 n_bounds_within #[q 29, q 31, (ki 1000000)] #[T_int, T_int, T_int]), li [0, 1, 2, 3, 4, 5, 6, 7, 8, 9, 10, 11] (i' 33 (.buildSlice T_sl_bool 2 #[(0, q 27), (1, q 32)])), li [0, 1, 2, 3, 4, 5, 6, 7, 8, 9, 10, 11, 12] (ca 34 n_bounds_first #[(ki 7), q 33] #[T_int, T_sl_bool]), li [0, 1, 2, 3, 4, 5, 6, 7, 8, 9, 10, 11, 12, 13] (as' 5 34)]) (.seq (rg 2 0 [] [mv 35 5, bi 36 .neq T_int (q 35) (ki 0) T_int]) (.cond (q 36) (.seq (rg 2 0 [] [mv 37 5, as' 2 37]) .ret) .skip))) (.seq (rg 14 14 [] [li [] (ld 38 T_api_Config 1), li [0] (ca 39 n_bounds_slots #[q 38] #[T_api_Config]), li [] (fa 40 T_api_Config 1 7), li [2] (ld 41 T_int 40), li [] (fa 42 T_api_Config 1 2), li [4] (ld 43 T_int 42), li [2, 3, 4, 5] (bi 44 .mul T_int64 (q 41) (q 43) T_int64), li [] (fa 45 T_bounds_Numbers 3 4), li [7] (ld 46 T_int64 45), li [7, 8] (bi 47 .mul T_int64 (q 46) (ki 1000000) T_int64), li [2, 3, 4, 5, 6, 7, 8, 9] (bi 48 .geq T_int64 (q 44) (q 47) T_int64), li [0, 1, 2, 3, 4, 5, 6, 7, 8, 9, 10] (i' 49 (.buildSlice T_sl_bool 2 #[(0, q 39), (1, q 48)])), li [0, 1, 2, 3, 4, 5, 6, 7, 8, 9, 10, 11] (ca 50 n_bounds_first #[(ki 9), q 49] #[T_int, T_sl_bool]), li [0, 1, 2, 3, 4, 5, 6, 7, 8, 9, 10, 11, 12] (as' 2 50)]) .ret)))))
theorem ok_bounds_windows : Tryz.f137.body.map (comp ES n_bounds_windows) = some c_bounds_windows := by kernel_rfl
theorem b_bounds_windows (t0 : SV) (M : Mem) : ICw ES n_bounds_windows [t0] M = endS ES [.tmp 2] (evW ES n_bounds_windows c_bounds_windows ⟨[t0, .bad, .bad, .bad, .bad, .bad, .bad, .bad, .bad, .bad, .bad, .bad, .bad, .bad, .bad, .bad, .bad, .bad, .bad, .bad, .bad, .bad, .bad, .bad, .bad, .bad, .bad, .bad, .bad, .bad, .bad, .bad, .bad, .bad, .bad, .bad, .bad, .bad, .bad, .bad, .bad, .bad, .bad, .bad, .bad, .bad, .bad, .bad, .bad, .bad, .bad], M⟩) :=
  ICw_run rfl Tryz.func137 ok_bounds_windows (by kernel_rfl) (by kernel_rfl) (by kernel_rfl) M
@[simp] theorem x_bounds_windows_bounds_Reckon : CX ES n_bounds_windows n_bounds_Reckon := cx rfl
@[simp] theorem x_bounds_windows_bounds_first : CX ES n_bounds_windows n_bounds_first := cx rfl
@[simp] theorem x_bounds_windows_bounds_within : CX ES n_bounds_windows n_bounds_within := cx rfl
@[simp] theorem x_bounds_windows_bounds_slots : CX ES n_bounds_windows n_bounds_slots := cx rfl

/-! drumline/bounds.waits -/
def c_bounds_waits : C :=
  (.seq (rg 2 2 [] [i' 1 (.box T_api_Config (q 0)), i' 2 (.assign (ki 0))]) (.seq (rg 4 0 [] [fa 6 T_api_Config 1 0, ld 7 T_sl_api_Part 6, le' 8 7 T_sl_api_Part, as' 3 8]) (.seq (rg 7 0 [] [mv 9 3, fa 10 T_api_Config 1 9, ld 11 T_int 10, bi 12 .add T_int (q 11) (ki 1) T_int, bi 13 .mul T_int (q 9) (q 12) T_int, bi 14 .add T_int (q 13) (ki 2) T_int, as' 4 14]) (.seq (.seq (rg 21 21 [] [li [] (fa 15 T_api_Config 1 8), li [0] (ld 16 T_int 15), li [] (mv 17 3), li [2] (bi 18 .sub T_int (q 17) (ki 1) T_int), li [] (fa 19 T_api_Config 1 9), li [4] (ld 20 T_int 19), li [4, 5] (bi 21 .add T_int (q 20) (ki 1) T_int), li [2, 3, 4, 5, 6] (bi 22 .mul T_int (q 18) (q 21) T_int), li [2, 3, 4, 5, 6, 7] (bi 23 .add T_int (q 22) (ki 1) T_int), li [0, 1, 2, 3, 4, 5, 6, 7, 8] (bi 24 .geq T_int (q 16) (q 23) T_int), li [] (fa 25 T_api_Config 1 10), li [10] (ld 26 T_int 25), li [] (mv 27 4), li [10, 11, 12] (ca 28 n_bounds_within #[q 26, q 27, (ki 60000)] #[T_int, T_int, T_int]), li [] (fa 29 T_api_Config 1 11), li [14] (ld 30 T_int 29), li [] (mv 31 4), li [10, 11, 12, 13, 14, 15, 16] (ca 32 n_bounds_within #[q 30, q 31, (ki 60000)] #[T_int, T_int, T_int]), li [0, 1, 2, 3, 4, 5, 6, 7, 8, 9, 10, 11, 12, 13, 14, 15, 16, 17] (i' 33 (.buildSlice T_sl_bool 3 #[(0, q 24), (1, q 28), (2, q 32)])), li [0, 1, 2, 3, 4, 5, 6, 7, 8, 9, 10, 11, 12, 13, 14, 15, 16, 17, 18] (ca 34 n_bounds_first #[(ki 11), q 33] #[T_int, T_sl_bool]), li [0, 1, 2, 3, 4, 5, 6, 7, 8, 9, 10, 11, 12, 13, 14, 15, 16, 17, 18, 19] (as' 5 34)]) (.seq (rg 2 0 [] [mv 35 5, bi 36 .neq T_int (q 35) (ki 0) T_int]) (.cond (q 36) (.seq (rg 2 0 [] [mv 37 5, as' 2 37]) .ret) .skip))) (.seq (rg 16 16 [] [li [] (fa 38 T_api_Config 1 10), li [0] (ld 39 T_int 38), li [] (mv 40 3), li [] (fa 41 T_api_Config 1 11), li [3] (ld 42 T_int 41), li [2, 3, 4] (bi 43 .mul T_int (q 40) (q 42) T_int), li [0, 1, 2, 3, 4, 5] (bi 44 .add T_int (q 39) (q 43) T_int), li [0, 1, 2, 3, 4, 5, 6] (bi 45 .leq T_int (q 44) (ki 60000) T_int), li [] (fa 46 T_api_Config 1 12), li [8] (ld 47 T_int 46), li [] (mv 48 3), li [10] (bi 49 .add T_int (q 48) (ki 2) T_int), li [8, 9, 10, 11] (ca 50 n_bounds_within #[q 47, q 49, (ki 64)] #[T_int, T_int, T_int]), li [0, 1, 2, 3, 4, 5, 6, 7, 8, 9, 10, 11, 12] (i' 51 (.buildSlice T_sl_bool 2 #[(0, q 45), (1, q 50)])), li [0, 1, 2, 3, 4, 5, 6, 7, 8, 9, 10, 11, 12, 13] (ca 52 n_bounds_first #[(ki 14), q 51] #[T_int, T_sl_bool]), li [0, 1, 2, 3, 4, 5, 6, 7, 8, 9, 10, 11, 12, 13, 14] (as' 2 52)]) .ret)))))
theorem ok_bounds_waits : Tryz.f138.body.map (comp ES n_bounds_waits) = some c_bounds_waits := by kernel_rfl
theorem b_bounds_waits (t0 : SV) (M : Mem) : ICw ES n_bounds_waits [t0] M = endS ES [.tmp 2] (evW ES n_bounds_waits c_bounds_waits ⟨[t0, .bad, .bad, .bad, .bad, .bad, .bad, .bad, .bad, .bad, .bad, .bad, .bad, .bad, .bad, .bad, .bad, .bad, .bad, .bad, .bad, .bad, .bad, .bad, .bad, .bad, .bad, .bad, .bad, .bad, .bad, .bad, .bad, .bad, .bad, .bad, .bad, .bad, .bad, .bad, .bad, .bad, .bad, .bad, .bad, .bad, .bad, .bad, .bad, .bad, .bad, .bad, .bad], M⟩) :=
  ICw_run rfl Tryz.func138 ok_bounds_waits (by kernel_rfl) (by kernel_rfl) (by kernel_rfl) M
@[simp] theorem x_bounds_waits_bounds_first : CX ES n_bounds_waits n_bounds_first := cx rfl
@[simp] theorem x_bounds_waits_bounds_within : CX ES n_bounds_waits n_bounds_within := cx rfl

/-! drumline/drumlineref5.ports -/
def c_r5_ports_B0 : C :=
  (.seq (.seq (rg 5 0 [7, 8, 9, 10] [mv 7 6, fa 8 T_api_Config 2 1, ld 9 T_sl_api_Link 8, le' 10 9 T_sl_api_Link, bi 11 .lss T_int (q 7) (q 10) T_int]) (.cond (q 11) .skip (.exit 0))) (.seq (.block 1 (.seq (rg 18 0 [11, 14, 15, 16, 17, 18, 19, 20, 21, 22, 23, 24, 25, 26, 27, 28, 29, 30] [fa 14 T_api_Config 2 1, ld 15 T_sl_api_Link 14, mv 16 6, i' 17 (.indexAddr T_sl_api_Link (q 15) (q 16)), fa 18 T_api_Link 17 0, ld 19 T_int 18, mv 20 1, bi 21 .eql T_int (q 19) (q 20) T_int, mv 22 21, gd 22 false (fa 23 T_api_Config 2 1), gd 22 false (ld 24 T_sl_api_Link 23), gd 22 false (mv 25 6), gd 22 false (i' 26 (.indexAddr T_sl_api_Link (q 24) (q 25))), gd 22 false (fa 27 T_api_Link 26 1), gd 22 false (ld 28 T_int 27), gd 22 false (mv 29 1), gd 22 false (bi 30 .eql T_int (q 28) (q 29) T_int), i' 31 (.pick (q 22) (kb true) (q 30))]) (.cond (q 31) (rg 3 0 [31, 32, 33] [mv 32 5, bi 33 .add T_int (q 32) (ki 2) T_int, as' 5 33]) .skip))) (rg 3 0 [12, 13, 31] [mv 12 6, bi 13 .add T_int (q 12) (ki 1) T_int, as' 6 13])))
def c_r5_ports_L0 : C := .loop c_r5_ports_B0
/-- What is live at the loop's head: t1 part, t2 c, t5 n, t6 i -/
abbrev h_r5_ports_0 (t1 t2 t5 t6 : SV) : List SV := [.bad, t1, t2, .bad, .bad, t5, t6, .bad, .bad, .bad, .bad, .bad, .bad, .bad, .bad, .bad, .bad, .bad, .bad, .bad, .bad, .bad, .bad, .bad, .bad, .bad, .bad, .bad, .bad, .bad, .bad, .bad, .bad, .bad, .bad]
def c_r5_ports : C :=
  (.seq (rg 2 2 [0, 4] [i' 2 (.box T_api_Config (q 0)), i' 4 (.assign (ki 0))]) (.seq (rg 1 0 [] [i' 5 (.assign (ki 0))]) (.seq (.seq (rg 1 0 [] [i' 6 (.assign (ki 0))]) (.block 0 c_r5_ports_L0)) (.seq (rg 2 0 [1, 2, 5, 6, 11, 34] [mv 34 5, as' 4 34]) .ret))))
theorem ok_r5_ports : Tryz.f146.body.map (comp ES n_r5_ports) = some c_r5_ports := by kernel_rfl
theorem b_r5_ports (t0 t1 : SV) (M : Mem) : ICw ES n_r5_ports [t0, t1] M = endS ES [.tmp 4] (evW ES n_r5_ports c_r5_ports ⟨[t0, t1, .bad, .bad, .bad, .bad, .bad, .bad, .bad, .bad, .bad, .bad, .bad, .bad, .bad, .bad, .bad, .bad, .bad, .bad, .bad, .bad, .bad, .bad, .bad, .bad, .bad, .bad, .bad, .bad, .bad, .bad, .bad, .bad, .bad], M⟩) :=
  ICw_run rfl Tryz.func146 ok_r5_ports (by kernel_rfl) (by kernel_rfl) (by kernel_rfl) M

/-! drumline/drumlineref5.jump -/
def c_r5_jump : C :=
  (.seq (rg 2 2 [] [i' 1 (.box T_api_Config (q 0)), i' 2 (.assign (ki 0))]) (.seq (rg 11 0 [] [fa 3 T_api_Config 1 8, ld 4 T_int 3, bi 5 .mul T_int64 (ki 2) (q 4) T_int64, ld 6 T_api_Config 1, ca 7 n_r5_step #[q 6] #[T_api_Config], bi 8 .mul T_int64 (q 5) (q 7) T_int64, ld 9 T_api_Config 1, ca 10 n_r5_edge #[q 9] #[T_api_Config], bi 11 .mul T_int64 (ki 4) (q 10) T_int64, bi 12 .add T_int64 (q 8) (q 11) T_int64, as' 2 12]) .ret))
theorem ok_r5_jump : Tryz.f147.body.map (comp ES n_r5_jump) = some c_r5_jump := by kernel_rfl
theorem b_r5_jump (t0 : SV) (M : Mem) : ICw ES n_r5_jump [t0] M = endS ES [.tmp 2] (evW ES n_r5_jump c_r5_jump ⟨[t0, .bad, .bad, .bad, .bad, .bad, .bad, .bad, .bad, .bad, .bad, .bad, .bad], M⟩) :=
  ICw_run rfl Tryz.func147 ok_r5_jump (by kernel_rfl) (by kernel_rfl) (by kernel_rfl) M
@[simp] theorem x_r5_jump_r5_edge : CX ES n_r5_jump n_r5_edge := cx rfl
@[simp] theorem x_r5_jump_r5_step : CX ES n_r5_jump n_r5_step := cx rfl

/-! drumline/ticks.Ceil -/
def c_ticks_Ceil : C :=
  (.seq (rg 2 0 [] [i' 4 (.assign (ki 0)), i' 5 (.assign (kb false))]) (.seq (.seq (rg 2 0 [] [mv 7 1, bi 8 .lss T_int64 (q 7) (ki 1) T_int64]) (.cond (q 8) (.seq (rg 2 0 [] [i' 4 (.assign (ki 0)), i' 5 (.assign (kb false))]) .ret) .skip)) (.seq (rg 4 0 [] [mv 9 0, mv 10 1, bi 11 .quo T_int64 (q 9) (q 10) T_int64, as' 6 11]) (.seq (.seq (rg 4 0 [] [mv 12 0, mv 13 1, bi 14 .rem T_int64 (q 12) (q 13) T_int64, bi 15 .gtr T_int64 (q 14) (ki 0) T_int64]) (.cond (q 15) (rg 3 0 [] [mv 16 6, bi 17 .add T_int64 (q 16) (ki 1) T_int64, as' 6 17]) .skip)) (.seq (rg 3 0 [] [mv 18 6, as' 4 18, i' 5 (.assign (kb true))]) .ret)))))
theorem ok_ticks_Ceil : Tryz.f149.body.map (comp ES n_ticks_Ceil) = some c_ticks_Ceil := by kernel_rfl
theorem b_ticks_Ceil (t0 t1 : SV) (M : Mem) : ICw ES n_ticks_Ceil [t0, t1] M = endS ES [.tmp 4, .tmp 5] (evW ES n_ticks_Ceil c_ticks_Ceil ⟨[t0, t1, .bad, .bad, .bad, .bad, .bad, .bad, .bad, .bad, .bad, .bad, .bad, .bad, .bad, .bad, .bad, .bad, .bad], M⟩) :=
  ICw_run rfl Tryz.func149 ok_ticks_Ceil (by kernel_rfl) (by kernel_rfl) (by kernel_rfl) M

/-! drumline/plan.parts -/
def c_plan_parts_B0 : C :=
  (.seq (rg 1 0 [] [bi 20 .lss T_int (q 19) (q 18) T_int]) (.seq (.cond (q 20) .skip (.exit 0)) (.seq (.block 1 (.seq (rg 6 6 [20, 21, 22, 23] [mv 21 19, i' 22 (.indexAddr T_sl_api_Part (q 17) (q 19)), ld 23 T_api_Part 22, i' 4 (.alloc T_api_Part), as' 3 21, ⟨none, .store T_api_Part (q 4) (q 23), none, none⟩]) (.seq (rg 27 0 [4, 24, 25, 26, 27, 28, 29, 30, 31, 32, 33, 34, 35, 36, 37, 38, 39, 40, 41, 42, 43, 44, 45, 46, 47, 48, 49] [fa 24 T_api_Part 4 0, ld 25 T_int 24, bi 26 .lss T_int (q 25) (ki 1) T_int, mv 27 26, gd 27 false (fa 28 T_api_Part 4 0), gd 27 false (ld 29 T_int 28), gd 27 false (bi 30 .gtr T_int (q 29) (ki 12) T_int), i' 31 (.pick (q 27) (kb true) (q 30)), mv 32 31, gd 32 false (fa 33 T_api_Part 4 1), gd 32 false (ld 34 T_int 33), gd 32 false (bi 35 .lss T_int (q 34) (ki 0) T_int), i' 36 (.pick (q 32) (kb true) (q 35)), mv 37 36, gd 37 false (fa 38 T_api_Part 4 1), gd 37 false (ld 39 T_int 38), gd 37 false (bi 40 .gtr T_int (q 39) (ki 3) T_int), i' 41 (.pick (q 37) (kb true) (q 40)), mv 42 41, gd 42 false (fa 43 T_api_Part 4 0), gd 42 false (ld 44 T_int 43), gd 42 false (fa 45 T_api_Part 4 1), gd 42 false (ld 46 T_int 45), gd 42 false (bi 47 .mul T_int (ki 3) (q 46) T_int), gd 42 false (bi 48 .add T_int (q 47) (ki 1) T_int), gd 42 false (bi 49 .lss T_int (q 44) (q 48) T_int), i' 50 (.pick (q 42) (kb true) (q 49))]) (.cond (q 50) (.seq (rg 3 0 [3, 17, 18, 19, 50, 51, 52] [mv 51 3, ca 52 n_plan_wrong #[(ki 8), q 51] #[T_api_Errno, T_int], as' 2 52]) .ret) .skip)))) (rg 2 0 [3, 50, 53] [bi 53 .add T_int (q 19) (ki 1) T_int, mv 19 53]))))
def c_plan_parts_L0 : C := .loop c_plan_parts_B0
/-- What is live at the loop's head: t17, t18, t19 -/
abbrev h_plan_parts_0 (t17 t18 t19 : SV) : List SV := [.bad, .bad, .bad, .bad, .bad, .bad, .bad, .bad, .bad, .bad, .bad, .bad, .bad, .bad, .bad, .bad, .bad, t17, t18, t19, .bad, .bad, .bad, .bad, .bad, .bad, .bad, .bad, .bad, .bad, .bad, .bad, .bad, .bad, .bad, .bad, .bad, .bad, .bad, .bad, .bad, .bad, .bad, .bad, .bad, .bad, .bad, .bad, .bad, .bad, .bad, .bad, .bad, .bad]
def c_plan_parts : C :=
  (.seq (rg 2 2 [0, 2] [i' 1 (.box T_api_Config (q 0)), i' 2 (.assign (.const .nilIface))]) (.seq (.seq (rg 10 0 [5, 6, 7, 8, 9, 10, 11, 12, 13] [fa 5 T_api_Config 1 0, ld 6 T_sl_api_Part 5, le' 7 6 T_sl_api_Part, bi 8 .lss T_int (q 7) (ki 1) T_int, mv 9 8, gd 9 false (fa 10 T_api_Config 1 0), gd 9 false (ld 11 T_sl_api_Part 10), gd 9 false (le' 12 11 T_sl_api_Part), gd 9 false (bi 13 .gtr T_int (q 12) (ki 6) T_int), i' 14 (.pick (q 9) (kb true) (q 13))]) (.cond (q 14) (.seq (rg 2 0 [1, 14, 15] [ca 15 n_plan_wrong #[(ki 7), (ki 0)] #[T_api_Errno, T_int], as' 2 15]) .ret) .skip)) (.seq (.seq (rg 4 0 [1, 14, 16] [fa 16 T_api_Config 1 0, ld 17 T_sl_api_Part 16, le' 18 17 T_sl_api_Part, i' 19 (.move (ki 0))]) (.block 0 c_plan_parts_L0)) (.seq (rg 1 0 [17, 18, 19, 20] [i' 2 (.assign (.const .nilIface))]) .ret))))
theorem ok_plan_parts : Tryz.f151.body.map (comp ES n_plan_parts) = some c_plan_parts := by kernel_rfl
theorem b_plan_parts (t0 : SV) (M : Mem) : ICw ES n_plan_parts [t0] M = endS ES [.tmp 2] (evW ES n_plan_parts c_plan_parts ⟨[t0, .bad, .bad, .bad, .bad, .bad, .bad, .bad, .bad, .bad, .bad, .bad, .bad, .bad, .bad, .bad, .bad, .bad, .bad, .bad, .bad, .bad, .bad, .bad, .bad, .bad, .bad, .bad, .bad, .bad, .bad, .bad, .bad, .bad, .bad, .bad, .bad, .bad, .bad, .bad, .bad, .bad, .bad, .bad, .bad, .bad, .bad, .bad, .bad, .bad, .bad, .bad, .bad, .bad], M⟩) :=
  ICw_run rfl Tryz.func151 ok_plan_parts (by kernel_rfl) (by kernel_rfl) (by kernel_rfl) M
@[simp] theorem x_plan_parts_plan_wrong : CX ES n_plan_parts n_plan_wrong := cx rfl

/-! drumline/plan.links -/
def c_plan_links_B0 : C :=
  (.seq (rg 1 0 [] [bi 14 .lss T_int (q 13) (q 12) T_int]) (.seq (.cond (q 14) .skip (.exit 0)) (.seq (.block 1 (.seq (rg 6 6 [14, 15, 16, 17] [mv 15 13, i' 16 (.indexAddr T_sl_api_Link (q 11) (q 13)), ld 17 T_api_Link 16, i' 4 (.alloc T_api_Link), as' 3 15, ⟨none, .store T_api_Link (q 4) (q 17), none, none⟩]) (.block 2 (.seq (rg 24 0 [19, 20, 21, 22, 23, 24, 25, 26, 27, 28, 29, 30, 31, 32, 33, 34, 35, 36, 37, 38, 39, 40, 41] [fa 19 T_api_Link 4 0, ld 20 T_int 19, fa 21 T_api_Config 1 0, ld 22 T_sl_api_Part 21, le' 23 22 T_sl_api_Part, ca 24 n_plan_index #[q 20, q 23] #[T_int, T_int], i' 25 (.unOp .not T_bool (q 24)), mv 26 25, gd 26 false (fa 27 T_api_Link 4 1), gd 26 false (ld 28 T_int 27), gd 26 false (fa 29 T_api_Config 1 0), gd 26 false (ld 30 T_sl_api_Part 29), gd 26 false (le' 31 30 T_sl_api_Part), gd 26 false (ca 32 n_plan_index #[q 28, q 31] #[T_int, T_int]), gd 26 false (i' 33 (.unOp .not T_bool (q 32))), i' 34 (.pick (q 26) (kb true) (q 33)), mv 35 34, gd 35 false (fa 36 T_api_Link 4 0), gd 35 false (ld 37 T_int 36), gd 35 false (fa 38 T_api_Link 4 1), gd 35 false (ld 39 T_int 38), gd 35 false (bi 40 .geq T_int (q 37) (q 39) T_int), i' 41 (.pick (q 35) (kb true) (q 40)), as' 18 41]) (.cond (q 18) (.seq (rg 3 0 [1, 3, 4, 11, 12, 13, 18, 42, 43] [mv 42 3, ca 43 n_plan_wrong #[(ki 10), q 42] #[T_api_Errno, T_int], as' 2 43]) .ret) (.seq (rg 7 0 [4, 18, 45, 46, 47, 48, 49, 50] [fa 45 T_api_Config 1 1, ld 46 T_sl_api_Link 45, mv 47 3, i' 48 (.slice T_sl_api_Link (q 46) none (some (q 47)) none), i' 49 (.makeFunc (.func n_plan_links_1) #[] #[q 4]), ca 50 n_slices_ContainsFunc_sl_api_Link_api_Link #[q 48, q 49] #[T_sl_api_Link, T_func_api_Link_bool], as' 44 50]) (.cond (q 44) (.seq (rg 3 0 [1, 3, 11, 12, 13, 44, 51, 52] [mv 51 3, ca 52 n_plan_wrong #[(ki 11), q 51] #[T_api_Errno, T_int], as' 2 52]) .ret) (.seq (rg 5 0 [44, 54, 55, 56, 57] [ld 54 T_api_Config 1, mv 55 3, ca 56 n_plan_ports #[q 54, q 55] #[T_api_Config, T_int], i' 57 (.unOp .not T_bool (q 56)), as' 53 57]) (.cond (q 53) (.seq (rg 3 0 [1, 3, 11, 12, 13, 53, 58, 59] [mv 58 3, ca 59 n_plan_wrong #[(ki 12), q 58] #[T_api_Errno, T_int], as' 2 59]) .ret) .skip))))))))) (rg 2 0 [3, 53, 60] [bi 60 .add T_int (q 13) (ki 1) T_int, mv 13 60]))))
def c_plan_links_L0 : C := .loop c_plan_links_B0
/-- What is live at the loop's head: t1 c, t11, t12, t13 -/
abbrev h_plan_links_0 (t1 t11 t12 t13 : SV) : List SV := [.bad, t1, .bad, .bad, .bad, .bad, .bad, .bad, .bad, .bad, .bad, t11, t12, t13, .bad, .bad, .bad, .bad, .bad, .bad, .bad, .bad, .bad, .bad, .bad, .bad, .bad, .bad, .bad, .bad, .bad, .bad, .bad, .bad, .bad, .bad, .bad, .bad, .bad, .bad, .bad, .bad, .bad, .bad, .bad, .bad, .bad, .bad, .bad, .bad, .bad, .bad, .bad, .bad, .bad, .bad, .bad, .bad, .bad, .bad, .bad]
def c_plan_links : C :=
  (.seq (rg 2 2 [0, 2] [i' 1 (.box T_api_Config (q 0)), i' 2 (.assign (.const .nilIface))]) (.seq (.seq (rg 4 0 [5, 6, 7] [fa 5 T_api_Config 1 1, ld 6 T_sl_api_Link 5, le' 7 6 T_sl_api_Link, bi 8 .gtr T_int (q 7) (ki 10) T_int]) (.cond (q 8) (.seq (rg 2 0 [1, 8, 9] [ca 9 n_plan_wrong #[(ki 9), (ki 0)] #[T_api_Errno, T_int], as' 2 9]) .ret) .skip)) (.seq (.seq (rg 4 0 [8, 10] [fa 10 T_api_Config 1 1, ld 11 T_sl_api_Link 10, le' 12 11 T_sl_api_Link, i' 13 (.move (ki 0))]) (.block 0 c_plan_links_L0)) (.seq (rg 1 0 [1, 11, 12, 13, 14] [i' 2 (.assign (.const .nilIface))]) .ret))))
theorem ok_plan_links : Tryz.f152.body.map (comp ES n_plan_links) = some c_plan_links := by kernel_rfl
theorem b_plan_links (t0 : SV) (M : Mem) : ICw ES n_plan_links [t0] M = endS ES [.tmp 2] (evW ES n_plan_links c_plan_links ⟨[t0, .bad, .bad, .bad, .bad, .bad, .bad, .bad, .bad, .bad, .bad, .bad, .bad, .bad, .bad, .bad, .bad, .bad, .bad, .bad, .bad, .bad, .bad, .bad, .bad, .bad, .bad, .bad, .bad, .bad, .bad, .bad, .bad, .bad, .bad, .bad, .bad, .bad, .bad, .bad, .bad, .bad, .bad, .bad, .bad, .bad, .bad, .bad, .bad, .bad, .bad, .bad, .bad, .bad, .bad, .bad, .bad, .bad, .bad, .bad, .bad], M⟩) :=
  ICw_run rfl Tryz.func152 ok_plan_links (by kernel_rfl) (by kernel_rfl) (by kernel_rfl) M
@[simp] theorem x_plan_links_plan_index : CX ES n_plan_links n_plan_index := cx rfl
@[simp] theorem x_plan_links_plan_wrong : CX ES n_plan_links n_plan_wrong := cx rfl
@[simp] theorem x_plan_links_slices_ContainsFunc_sl_api_Link_api_Link : CX ES n_plan_links n_slices_ContainsFunc_sl_api_Link_api_Link := cx rfl
@[simp] theorem x_plan_links_plan_links_1 : CX ES n_plan_links n_plan_links_1 := cx rfl
@[simp] theorem x_plan_links_plan_ports : CX ES n_plan_links n_plan_ports := cx rfl

/-! slices.Index[[]int,int] -/
def c_slices_Index_sl_int_int_B0 : C :=
  (.seq (rg 1 0 [] [bi 9 .lss T_int (q 8) (q 7) T_int]) (.seq (.cond (q 9) .skip (.exit 0)) (.seq (.block 1 (.seq (rg 2 0 [9, 10] [mv 10 8, as' 5 10]) (.seq (rg 6 0 [11, 12, 13, 14, 15] [mv 11 1, mv 12 0, mv 13 5, i' 14 (.indexAddr T_sl_int (q 12) (q 13)), ld 15 T_int 14, bi 16 .eql T_int (q 11) (q 15) T_int]) (.cond (q 16) (.seq (rg 2 0 [0, 1, 5, 7, 8, 16, 17] [mv 17 5, as' 4 17]) .ret) .skip)))) (rg 2 0 [5, 16, 18] [bi 18 .add T_int (q 8) (ki 1) T_int, mv 8 18]))))
def c_slices_Index_sl_int_int_L0 : C := .loop c_slices_Index_sl_int_int_B0
/-- What is live at the loop's head: t0 s, t1 v, t7, t8 -/
abbrev h_slices_Index_sl_int_int_0 (t0 t1 t7 t8 : SV) : List SV := [t0, t1, .bad, .bad, .bad, .bad, .bad, t7, t8, .bad, .bad, .bad, .bad, .bad, .bad, .bad, .bad, .bad, .bad]
def c_slices_Index_sl_int_int : C :=
  (.seq (rg 1 0 [4] [i' 4 (.assign (ki 0))]) (.seq (.seq (rg 3 0 [6] [mv 6 0, le' 7 6 T_sl_int, i' 8 (.move (ki 0))]) (.block 0 c_slices_Index_sl_int_int_L0)) (.seq (rg 1 0 [0, 1, 7, 8, 9] [i' 4 (.assign (ki (-1)))]) .ret)))
theorem ok_slices_Index_sl_int_int : Tryz.f153.body.map (comp ES n_slices_Index_sl_int_int) = some c_slices_Index_sl_int_int := by kernel_rfl
theorem b_slices_Index_sl_int_int (t0 t1 : SV) (M : Mem) : ICw ES n_slices_Index_sl_int_int [t0, t1] M = endS ES [.tmp 4] (evW ES n_slices_Index_sl_int_int c_slices_Index_sl_int_int ⟨[t0, t1, .bad, .bad, .bad, .bad, .bad, .bad, .bad, .bad, .bad, .bad, .bad, .bad, .bad, .bad, .bad, .bad, .bad], M⟩) :=
  ICw_run rfl Tryz.func153 ok_slices_Index_sl_int_int (by kernel_rfl) (by kernel_rfl) (by kernel_rfl) M

/-! drumline/plan.wrong -/
def c_plan_wrong : C :=
  (.seq (rg 1 0 [] [i' 4 (.assign (.const .nilIface))]) (.seq (rg 7 7 [] [mv 5 1, mv 6 0, i' 7 (.makeInterface T_plan_code (q 6)), i' 8 (.build T_plan_fault #[(0, q 5), (1, q 7)]), i' 9 (.box T_plan_fault (q 8)), i' 10 (.makeInterface T_p_plan_fault (q 9)), as' 4 10]) .ret))
theorem ok_plan_wrong : Tryz.f154.body.map (comp ES n_plan_wrong) = some c_plan_wrong := by kernel_rfl
theorem b_plan_wrong (t0 t1 : SV) (M : Mem) : ICw ES n_plan_wrong [t0, t1] M = endS ES [.tmp 4] (evW ES n_plan_wrong c_plan_wrong ⟨[t0, t1, .bad, .bad, .bad, .bad, .bad, .bad, .bad, .bad, .bad], M⟩) :=
  ICw_run rfl Tryz.func154 ok_plan_wrong (by kernel_rfl) (by kernel_rfl) (by kernel_rfl) M

/-! slices.insertionSortCmpFunc[drumline/api.Port] -/
def c_slices_insertionSortCmpFunc_api_Port_B0 : C :=
  (.seq (.seq (rg 17 17 [18, 19, 20, 21, 22, 23, 24, 25, 26, 27, 28, 29, 30, 31, 32, 33] [li [] (mv 18 9), li [] (mv 19 1), li [0, 1] (bi 20 .gtr T_int (q 18) (q 19) T_int), li [0, 1, 2] (mv 21 20), li [0, 1, 2, 3] (gd 21 true (mv 22 3)), li [0, 1, 2, 3] (gd 21 true (mv 23 0)), li [0, 1, 2, 3] (gd 21 true (mv 24 9)), li [0, 1, 2, 3, 5, 6] (gd 21 true (i' 25 (.indexAddr T_sl_api_Port (q 23) (q 24)))), li [0, 1, 2, 3, 5, 6, 7] (gd 21 true (ld 26 T_api_Port 25)), li [0, 1, 2, 3] (gd 21 true (mv 27 0)), li [0, 1, 2, 3] (gd 21 true (mv 28 9)), li [0, 1, 2, 3, 10] (gd 21 true (bi 29 .sub T_int (q 28) (ki 1) T_int)), li [0, 1, 2, 3, 9, 10, 11] (gd 21 true (i' 30 (.indexAddr T_sl_api_Port (q 27) (q 29)))), li [0, 1, 2, 3, 9, 10, 11, 12] (gd 21 true (ld 31 T_api_Port 30)), li [0, 1, 2, 3, 4, 5, 6, 7, 8, 9, 10, 11, 12, 13] (gd 21 true (i' 32 (.call { callee := .value (q 22), args := #[q 26, q 31], argTypes := #[T_api_Port, T_api_Port] }))), li [0, 1, 2, 3, 4, 5, 6, 7, 8, 9, 10, 11, 12, 13, 14] (gd 21 true (bi 33 .lss T_int (q 32) (ki 0) T_int)), li [0, 1, 2, 3, 4, 5, 6, 7, 8, 9, 10, 11, 12, 13, 14, 15] (i' 34 (.pick (q 21) (q 33) (kb false)))]) (.cond (q 34) .skip (.exit 2))) (.seq (.block 3 (rg 18 0 [34, 37, 38, 39, 40, 41, 42, 43, 44, 45, 46, 47, 48, 49, 50, 51, 52] [mv 37 0, mv 38 9, mv 39 0, mv 40 9, bi 41 .sub T_int (q 40) (ki 1) T_int, mv 42 0, mv 43 9, bi 44 .sub T_int (q 43) (ki 1) T_int, i' 45 (.indexAddr T_sl_api_Port (q 42) (q 44)), ld 46 T_api_Port 45, mv 47 0, mv 48 9, i' 49 (.indexAddr T_sl_api_Port (q 47) (q 48)), ld 50 T_api_Port 49, i' 51 (.indexAddr T_sl_api_Port (q 37) (q 38)), ⟨none, .store T_api_Port (q 51) (q 46), none, none⟩, i' 52 (.indexAddr T_sl_api_Port (q 39) (q 41)), ⟨none, .store T_api_Port (q 52) (q 50), none, none⟩])) (rg 3 0 [35, 36] [mv 35 9, bi 36 .sub T_int (q 35) (ki 1) T_int, as' 9 36])))
def c_slices_insertionSortCmpFunc_api_Port_L0 : C := .loop c_slices_insertionSortCmpFunc_api_Port_B0
/-- What is live at the loop's head: t0 data, t1 a, t2 b, t3 cmp, t8 i, t9 j -/
abbrev h_slices_insertionSortCmpFunc_api_Port_0 (t0 t1 t2 t3 t8 t9 : SV) : List SV := [t0, t1, t2, t3, .bad, .bad, .bad, .bad, t8, t9, .bad, .bad, .bad, .bad, .bad, .bad, .bad, .bad, .bad, .bad, .bad, .bad, .bad, .bad, .bad, .bad, .bad, .bad, .bad, .bad, .bad, .bad, .bad, .bad, .bad, .bad, .bad, .bad, .bad, .bad, .bad, .bad, .bad, .bad, .bad, .bad, .bad, .bad, .bad, .bad, .bad, .bad, .bad]
def c_slices_insertionSortCmpFunc_api_Port_B1 : C :=
  (.seq (.seq (rg 3 0 [12, 13] [mv 12 8, mv 13 2, bi 14 .lss T_int (q 12) (q 13) T_int]) (.cond (q 14) .skip (.exit 0))) (.seq (.block 1 (.seq (rg 2 0 [14, 17] [mv 17 8, as' 9 17]) (.block 2 c_slices_insertionSortCmpFunc_api_Port_L0))) (rg 3 0 [9, 15, 16, 34] [mv 15 8, bi 16 .add T_int (q 15) (ki 1) T_int, as' 8 16])))
def c_slices_insertionSortCmpFunc_api_Port_L1 : C := .loop c_slices_insertionSortCmpFunc_api_Port_B1
/-- What is live at the loop's head: t0 data, t1 a, t2 b, t3 cmp, t8 i -/
abbrev h_slices_insertionSortCmpFunc_api_Port_1 (t0 t1 t2 t3 t8 : SV) : List SV := [t0, t1, t2, t3, .bad, .bad, .bad, .bad, t8, .bad, .bad, .bad, .bad, .bad, .bad, .bad, .bad, .bad, .bad, .bad, .bad, .bad, .bad, .bad, .bad, .bad, .bad, .bad, .bad, .bad, .bad, .bad, .bad, .bad, .bad, .bad, .bad, .bad, .bad, .bad, .bad, .bad, .bad, .bad, .bad, .bad, .bad, .bad, .bad, .bad, .bad, .bad, .bad]
def c_slices_insertionSortCmpFunc_api_Port : C :=
  (.seq (rg 3 0 [10, 11] [mv 10 1, bi 11 .add T_int (q 10) (ki 1) T_int, as' 8 11]) (.block 0 c_slices_insertionSortCmpFunc_api_Port_L1))
theorem ok_slices_insertionSortCmpFunc_api_Port : Tryz.f155.body.map (comp ES n_slices_insertionSortCmpFunc_api_Port) = some c_slices_insertionSortCmpFunc_api_Port := by kernel_rfl
theorem b_slices_insertionSortCmpFunc_api_Port (t0 t1 t2 t3 : SV) (M : Mem) : ICw ES n_slices_insertionSortCmpFunc_api_Port [t0, t1, t2, t3] M = endS ES [] (evW ES n_slices_insertionSortCmpFunc_api_Port c_slices_insertionSortCmpFunc_api_Port ⟨[t0, t1, t2, t3, .bad, .bad, .bad, .bad, .bad, .bad, .bad, .bad, .bad, .bad, .bad, .bad, .bad, .bad, .bad, .bad, .bad, .bad, .bad, .bad, .bad, .bad, .bad, .bad, .bad, .bad, .bad, .bad, .bad, .bad, .bad, .bad, .bad, .bad, .bad, .bad, .bad, .bad, .bad, .bad, .bad, .bad, .bad, .bad, .bad, .bad, .bad, .bad, .bad], M⟩) :=
  ICw_run rfl Tryz.func155 ok_slices_insertionSortCmpFunc_api_Port (by kernel_rfl) (by kernel_rfl) (by kernel_rfl) M


end Go.Proofs.YtomlbmbgocmiiaaGreatDoor

/-
  The seat's functions as short code, part 2 (printed by a program of the claim's own).
-/
set_option linter.unusedVariables false
set_option maxRecDepth 100000
namespace Go.Proofs.YtomlbmbgocmiiaaGreatDoor
open Go.Proofs.YtomlbmbgocmiiaaGreatDoor.Sh

/-! drumline/bounds.slots -/
def c_bounds_slots_B0 : C :=
  (.seq (rg 1 0 [] [bi 9 .lss T_int (q 8) (q 7) T_int]) (.seq (.cond (q 9) .skip (.exit 0)) (.seq (.block 1 (.seq (rg 6 6 [9, 10, 11, 12] [mv 10 8, i' 11 (.indexAddr T_sl_api_Part (q 6) (q 8)), ld 12 T_api_Part 11, i' 4 (.alloc T_api_Part), as' 3 10, ⟨none, .store T_api_Part (q 4) (q 12), none, none⟩]) (.seq (rg 20 0 [3, 4, 13, 14, 15, 16, 17, 18, 19, 20, 21, 22, 23, 24, 25, 26, 27, 28, 29, 30, 31] [fa 13 T_api_Config 1 3, ld 14 T_int 13, ld 15 T_api_Config 1, mv 16 3, ca 17 n_plan_Ends #[q 15, q 16] #[T_api_Config, T_int], le' 18 17 T_sl_api_Port, bi 19 .mul T_int (ki 3) (q 18) T_int, fa 20 T_api_Part 4 0, ld 21 T_int 20, bi 22 .add T_int (q 19) (q 21) T_int, fa 23 T_api_Config 1 4, ld 24 T_int 23, bi 25 .mul T_int (q 22) (q 24) T_int, bi 26 .add T_int (q 14) (q 25) T_int, fa 27 T_api_Config 1 5, ld 28 T_int 27, bi 29 .add T_int (q 26) (q 28) T_int, fa 30 T_api_Config 1 2, ld 31 T_int 30, bi 32 .gtr T_int (q 29) (q 31) T_int]) (.cond (q 32) (.seq (rg 1 0 [1, 6, 7, 8, 32] [i' 2 (.assign (kb false))]) .ret) .skip)))) (rg 2 0 [32, 33] [bi 33 .add T_int (q 8) (ki 1) T_int, mv 8 33]))))
def c_bounds_slots_L0 : C := .loop c_bounds_slots_B0
/-- What is live at the loop's head: t1 c, t6, t7, t8 -/
abbrev h_bounds_slots_0 (t1 t6 t7 t8 : SV) : List SV := [.bad, t1, .bad, .bad, .bad, .bad, t6, t7, t8, .bad, .bad, .bad, .bad, .bad, .bad, .bad, .bad, .bad, .bad, .bad, .bad, .bad, .bad, .bad, .bad, .bad, .bad, .bad, .bad, .bad, .bad, .bad, .bad, .bad]
def c_bounds_slots : C :=
  (.seq (rg 2 2 [0, 2] [i' 1 (.box T_api_Config (q 0)), i' 2 (.assign (kb false))]) (.seq (.seq (rg 4 0 [5] [fa 5 T_api_Config 1 0, ld 6 T_sl_api_Part 5, le' 7 6 T_sl_api_Part, i' 8 (.move (ki 0))]) (.block 0 c_bounds_slots_L0)) (.seq (rg 1 0 [1, 6, 7, 8, 9] [i' 2 (.assign (kb true))]) .ret)))
theorem ok_bounds_slots : Tryz.f165.body.map (comp ES n_bounds_slots) = some c_bounds_slots := by kernel_rfl
theorem b_bounds_slots (t0 : SV) (M : Mem) : ICw ES n_bounds_slots [t0] M = endS ES [.tmp 2] (evW ES n_bounds_slots c_bounds_slots ⟨[t0, .bad, .bad, .bad, .bad, .bad, .bad, .bad, .bad, .bad, .bad, .bad, .bad, .bad, .bad, .bad, .bad, .bad, .bad, .bad, .bad, .bad, .bad, .bad, .bad, .bad, .bad, .bad, .bad, .bad, .bad, .bad, .bad, .bad], M⟩) :=
  ICw_run rfl Tryz.func165 ok_bounds_slots (by kernel_rfl) (by kernel_rfl) (by kernel_rfl) M
@[simp] theorem x_bounds_slots_plan_Ends : CX ES n_bounds_slots n_plan_Ends := cx rfl

/-! slices.ContainsFunc[[]drumline/api.Link,drumline/api.Link] -/
def c_slices_ContainsFunc_sl_api_Link_api_Link : C :=
  (.seq (rg 1 0 [] [i' 4 (.assign (kb false))]) (.seq (rg 5 0 [] [mv 5 0, mv 6 1, ca 7 n_slices_IndexFunc_sl_api_Link_api_Link #[q 5, q 6] #[T_sl_api_Link, T_func_api_Link_bool], bi 8 .geq T_int (q 7) (ki 0) T_int, as' 4 8]) .ret))
theorem ok_slices_ContainsFunc_sl_api_Link_api_Link : Tryz.f170.body.map (comp ES n_slices_ContainsFunc_sl_api_Link_api_Link) = some c_slices_ContainsFunc_sl_api_Link_api_Link := by kernel_rfl
theorem b_slices_ContainsFunc_sl_api_Link_api_Link (t0 t1 : SV) (M : Mem) : ICw ES n_slices_ContainsFunc_sl_api_Link_api_Link [t0, t1] M = endS ES [.tmp 4] (evW ES n_slices_ContainsFunc_sl_api_Link_api_Link c_slices_ContainsFunc_sl_api_Link_api_Link ⟨[t0, t1, .bad, .bad, .bad, .bad, .bad, .bad, .bad], M⟩) :=
  ICw_run rfl Tryz.func170 ok_slices_ContainsFunc_sl_api_Link_api_Link (by kernel_rfl) (by kernel_rfl) (by kernel_rfl) M
@[simp] theorem x_slices_ContainsFunc_sl_api_Link_api_Link_slices_IndexFunc_sl_api_Link_api_Link : CX ES n_slices_ContainsFunc_sl_api_Link_api_Link n_slices_IndexFunc_sl_api_Link_api_Link := cx rfl

/-! drumline/plan.links$1 -/
def c_plan_links_1 : C :=
  (.seq (rg 2 2 [] [i' 2 (.box T_api_Link (q 0)), i' 3 (.assign (kb false))]) (.seq (rg 13 0 [] [fa 4 T_api_Link 2 0, ld 5 T_int 4, fa 6 T_api_Link 1 0, ld 7 T_int 6, bi 8 .eql T_int (q 5) (q 7) T_int, mv 9 8, gd 9 true (fa 10 T_api_Link 2 1), gd 9 true (ld 11 T_int 10), gd 9 true (fa 12 T_api_Link 1 1), gd 9 true (ld 13 T_int 12), gd 9 true (bi 14 .eql T_int (q 11) (q 13) T_int), i' 15 (.pick (q 9) (q 14) (kb false)), as' 3 15]) .ret))
theorem ok_plan_links_1 : Tryz.f171.body.map (comp ES n_plan_links_1) = some c_plan_links_1 := by kernel_rfl
theorem b_plan_links_1 (t0 t1 : SV) (M : Mem) : ICw ES n_plan_links_1 [t0, t1] M = endS ES [.tmp 3] (evW ES n_plan_links_1 c_plan_links_1 ⟨[t0, t1, .bad, .bad, .bad, .bad, .bad, .bad, .bad, .bad, .bad, .bad, .bad, .bad, .bad, .bad], M⟩) :=
  ICw_run rfl Tryz.func171 ok_plan_links_1 (by kernel_rfl) (by kernel_rfl) (by kernel_rfl) M

/-! drumline/plan.ports -/
def c_plan_ports_B0 : C :=
  (.seq (rg 1 0 [] [bi 30 .lss T_int (q 29) (ki 2) T_int]) (.seq (.cond (q 30) .skip (.exit 2)) (.seq (.block 3 (.seq (rg 2 0 [30, 31] [i' 31 (.index T_a2_int (q 28) (q 29)), as' 9 31]) (.seq (rg 18 0 [9, 32, 33, 34, 35, 36, 37, 38, 39, 40, 41, 42, 43, 44, 45, 46, 47, 48] [mv 32 9, fa 33 T_api_Config 2 0, ld 34 T_sl_api_Part 33, mv 35 6, i' 36 (.indexAddr T_sl_api_Part (q 34) (q 35)), fa 37 T_api_Part 36 0, ld 38 T_int 37, ca 39 n_plan_index #[q 32, q 38] #[T_int, T_int], i' 40 (.unOp .not T_bool (q 39)), mv 41 40, gd 41 false (fa 42 T_api_Config 2 1), gd 41 false (ld 43 T_sl_api_Link 42), gd 41 false (mv 44 1), gd 41 false (i' 45 (.slice T_sl_api_Link (q 43) none (some (q 44)) none)), gd 41 false (mv 46 6), gd 41 false (mv 47 9), gd 41 false (ca 48 n_plan_taken #[q 45, q 46, q 47] #[T_sl_api_Link, T_int, T_int]), i' 49 (.pick (q 41) (kb true) (q 48))]) (.cond (q 49) (.seq (rg 1 0 [1, 2, 6, 10, 28, 29, 49] [i' 4 (.assign (kb false))]) .ret) .skip)))) (rg 2 0 [49, 50] [bi 50 .add T_int (q 29) (ki 1) T_int, mv 29 50]))))
def c_plan_ports_L0 : C := .loop c_plan_ports_B0
/-- What is live at the loop's head: t1 i, t2 c, t6 part, t10, t28, t29 -/
abbrev h_plan_ports_0 (t1 t2 t6 t10 t28 t29 : SV) : List SV := [.bad, t1, t2, .bad, .bad, .bad, t6, .bad, .bad, .bad, t10, .bad, .bad, .bad, .bad, .bad, .bad, .bad, .bad, .bad, .bad, .bad, .bad, .bad, .bad, .bad, .bad, .bad, t28, t29, .bad, .bad, .bad, .bad, .bad, .bad, .bad, .bad, .bad, .bad, .bad, .bad, .bad, .bad, .bad, .bad, .bad, .bad, .bad, .bad, .bad, .bad]
def c_plan_ports_B1 : C :=
  (.seq (rg 1 0 [] [bi 11 .lss T_int (q 10) (ki 2) T_int]) (.seq (.cond (q 11) .skip (.exit 0)) (.seq (.block 1 (.seq (rg 2 0 [11, 12] [mv 12 10, as' 5 12]) (.seq (rg 13 13 [5, 13, 14, 15, 16, 17, 18, 19, 20, 21, 22] [fa 14 T_api_Config 2 1, ld 15 T_sl_api_Link 14, mv 16 1, i' 17 (.indexAddr T_sl_api_Link (q 15) (q 16)), ld 18 T_api_Link 17, mv 19 5, ca 20 n_plan_end #[q 18, q 19] #[T_api_Link, T_int], mv 13 20, xt 21 13 0, xt 22 13 1, i' 7 (.alloc T_a2_int), as' 6 21, ⟨none, .store T_a2_int (q 7) (q 22), none, none⟩]) (.seq (.seq (rg 5 0 [23, 24, 25, 26] [i' 23 (.indexAddr T_a2_int (q 7) (ki 0)), ld 24 T_int 23, i' 25 (.indexAddr T_a2_int (q 7) (ki 1)), ld 26 T_int 25, bi 27 .eql T_int (q 24) (q 26) T_int]) (.cond (q 27) (.seq (rg 1 0 [1, 2, 6, 7, 10, 27] [i' 4 (.assign (kb false))]) .ret) .skip)) (.seq (rg 2 0 [7, 27] [ld 28 T_a2_int 7, i' 29 (.move (ki 0))]) (.block 2 c_plan_ports_L0)))))) (rg 2 0 [6, 28, 29, 30, 51] [bi 51 .add T_int (q 10) (ki 1) T_int, mv 10 51]))))
def c_plan_ports_L1 : C := .loop c_plan_ports_B1
/-- What is live at the loop's head: t1 i, t2 c, t10 -/
abbrev h_plan_ports_1 (t1 t2 t10 : SV) : List SV := [.bad, t1, t2, .bad, .bad, .bad, .bad, .bad, .bad, .bad, t10, .bad, .bad, .bad, .bad, .bad, .bad, .bad, .bad, .bad, .bad, .bad, .bad, .bad, .bad, .bad, .bad, .bad, .bad, .bad, .bad, .bad, .bad, .bad, .bad, .bad, .bad, .bad, .bad, .bad, .bad, .bad, .bad, .bad, .bad, .bad, .bad, .bad, .bad, .bad, .bad, .bad]
def c_plan_ports : C :=
  (.seq (rg 2 2 [0, 4] [i' 2 (.box T_api_Config (q 0)), i' 4 (.assign (kb false))]) (.seq (.seq (rg 1 0 [] [i' 10 (.move (ki 0))]) (.block 0 c_plan_ports_L1)) (.seq (rg 1 0 [1, 2, 10, 11] [i' 4 (.assign (kb true))]) .ret)))
theorem ok_plan_ports : Tryz.f172.body.map (comp ES n_plan_ports) = some c_plan_ports := by kernel_rfl
theorem b_plan_ports (t0 t1 : SV) (M : Mem) : ICw ES n_plan_ports [t0, t1] M = endS ES [.tmp 4] (evW ES n_plan_ports c_plan_ports ⟨[t0, t1, .bad, .bad, .bad, .bad, .bad, .bad, .bad, .bad, .bad, .bad, .bad, .bad, .bad, .bad, .bad, .bad, .bad, .bad, .bad, .bad, .bad, .bad, .bad, .bad, .bad, .bad, .bad, .bad, .bad, .bad, .bad, .bad, .bad, .bad, .bad, .bad, .bad, .bad, .bad, .bad, .bad, .bad, .bad, .bad, .bad, .bad, .bad, .bad, .bad, .bad], M⟩) :=
  ICw_run rfl Tryz.func172 ok_plan_ports (by kernel_rfl) (by kernel_rfl) (by kernel_rfl) M
@[simp] theorem x_plan_ports_plan_index : CX ES n_plan_ports n_plan_index := cx rfl
@[simp] theorem x_plan_ports_plan_end : CX ES n_plan_ports n_plan_end := cx rfl
@[simp] theorem x_plan_ports_plan_taken : CX ES n_plan_ports n_plan_taken := cx rfl

/-! slices.IndexFunc[[]drumline/api.Link,drumline/api.Link] -/
def c_slices_IndexFunc_sl_api_Link_api_Link_B0 : C :=
  (.seq (rg 1 0 [] [bi 9 .lss T_int (q 8) (q 7) T_int]) (.seq (.cond (q 9) .skip (.exit 0)) (.seq (.block 1 (.seq (rg 2 0 [9, 10] [mv 10 8, as' 5 10]) (.seq (rg 6 6 [11, 12, 13, 14, 15] [mv 11 1, mv 12 0, mv 13 5, i' 14 (.indexAddr T_sl_api_Link (q 12) (q 13)), ld 15 T_api_Link 14, i' 16 (.call { callee := .value (q 11), args := #[q 15], argTypes := #[T_api_Link] })]) (.cond (q 16) (.seq (rg 2 0 [0, 1, 5, 7, 8, 16, 17] [mv 17 5, as' 4 17]) .ret) .skip)))) (rg 2 0 [5, 16, 18] [bi 18 .add T_int (q 8) (ki 1) T_int, mv 8 18]))))
def c_slices_IndexFunc_sl_api_Link_api_Link_L0 : C := .loop c_slices_IndexFunc_sl_api_Link_api_Link_B0
/-- What is live at the loop's head: t0 s, t1 f, t7, t8 -/
abbrev h_slices_IndexFunc_sl_api_Link_api_Link_0 (t0 t1 t7 t8 : SV) : List SV := [t0, t1, .bad, .bad, .bad, .bad, .bad, t7, t8, .bad, .bad, .bad, .bad, .bad, .bad, .bad, .bad, .bad, .bad]
def c_slices_IndexFunc_sl_api_Link_api_Link : C :=
  (.seq (rg 1 0 [4] [i' 4 (.assign (ki 0))]) (.seq (.seq (rg 3 0 [6] [mv 6 0, le' 7 6 T_sl_api_Link, i' 8 (.move (ki 0))]) (.block 0 c_slices_IndexFunc_sl_api_Link_api_Link_L0)) (.seq (rg 1 0 [0, 1, 7, 8, 9] [i' 4 (.assign (ki (-1)))]) .ret)))
theorem ok_slices_IndexFunc_sl_api_Link_api_Link : Tryz.f178.body.map (comp ES n_slices_IndexFunc_sl_api_Link_api_Link) = some c_slices_IndexFunc_sl_api_Link_api_Link := by kernel_rfl
theorem b_slices_IndexFunc_sl_api_Link_api_Link (t0 t1 : SV) (M : Mem) : ICw ES n_slices_IndexFunc_sl_api_Link_api_Link [t0, t1] M = endS ES [.tmp 4] (evW ES n_slices_IndexFunc_sl_api_Link_api_Link c_slices_IndexFunc_sl_api_Link_api_Link ⟨[t0, t1, .bad, .bad, .bad, .bad, .bad, .bad, .bad, .bad, .bad, .bad, .bad, .bad, .bad, .bad, .bad, .bad, .bad], M⟩) :=
  ICw_run rfl Tryz.func178 ok_slices_IndexFunc_sl_api_Link_api_Link (by kernel_rfl) (by kernel_rfl) (by kernel_rfl) M

/-! drumline/plan.taken -/
def c_plan_taken : C :=
  (.seq (rg 3 3 [] [i' 4 (.box T_int (q 1)), i' 5 (.box T_int (q 2)), i' 6 (.assign (kb false))]) (.seq (rg 4 0 [] [mv 7 0, i' 8 (.makeFunc (.func n_plan_taken_1) #[] #[q 4, q 5]), ca 9 n_slices_ContainsFunc_sl_api_Link_api_Link #[q 7, q 8] #[T_sl_api_Link, T_func_api_Link_bool], as' 6 9]) .ret))
theorem ok_plan_taken : Tryz.f179.body.map (comp ES n_plan_taken) = some c_plan_taken := by kernel_rfl
theorem b_plan_taken (t0 t1 t2 : SV) (M : Mem) : ICw ES n_plan_taken [t0, t1, t2] M = endS ES [.tmp 6] (evW ES n_plan_taken c_plan_taken ⟨[t0, t1, t2, .bad, .bad, .bad, .bad, .bad, .bad, .bad], M⟩) :=
  ICw_run rfl Tryz.func179 ok_plan_taken (by kernel_rfl) (by kernel_rfl) (by kernel_rfl) M
@[simp] theorem x_plan_taken_slices_ContainsFunc_sl_api_Link_api_Link : CX ES n_plan_taken n_slices_ContainsFunc_sl_api_Link_api_Link := cx rfl
@[simp] theorem x_plan_taken_plan_taken_1 : CX ES n_plan_taken n_plan_taken_1 := cx rfl

/-! drumline/plan.taken$1 -/
def c_plan_taken_1_B0 : C :=
  (.seq (rg 1 0 [] [bi 9 .lss T_int (q 8) (ki 2) T_int]) (.seq (.cond (q 9) .skip (.exit 0)) (.seq (.block 1 (.seq (rg 2 0 [9, 10] [mv 10 8, as' 5 10]) (.seq (rg 9 9 [5, 11, 12, 13, 14, 15, 16] [ld 12 T_api_Link 3, mv 13 5, ca 14 n_plan_end #[q 12, q 13] #[T_api_Link, T_int], mv 11 14, xt 15 11 0, xt 16 11 1, i' 7 (.alloc T_a2_int), as' 6 15, ⟨none, .store T_a2_int (q 7) (q 16), none, none⟩]) (.seq (rg 15 0 [6, 7, 17, 18, 19, 20, 21, 22, 23, 24, 25, 26, 27, 28, 29, 30] [mv 17 6, ld 18 T_int 1, bi 19 .eql T_int (q 17) (q 18) T_int, mv 20 19, gd 20 true (i' 21 (.indexAddr T_a2_int (q 7) (ki 0))), gd 20 true (ld 22 T_int 21), gd 20 true (ld 23 T_int 2), gd 20 true (bi 24 .eql T_int (q 22) (q 23) T_int), gd 20 true (mv 25 24), gd 25 false (i' 26 (.indexAddr T_a2_int (q 7) (ki 1))), gd 25 false (ld 27 T_int 26), gd 25 false (ld 28 T_int 2), gd 25 false (bi 29 .eql T_int (q 27) (q 28) T_int), gd 20 true (i' 30 (.pick (q 25) (kb true) (q 29))), i' 31 (.pick (q 20) (q 30) (kb false))]) (.cond (q 31) (.seq (rg 1 0 [1, 2, 3, 8, 31] [i' 4 (.assign (kb true))]) .ret) .skip))))) (rg 2 0 [31, 32] [bi 32 .add T_int (q 8) (ki 1) T_int, mv 8 32]))))
def c_plan_taken_1_L0 : C := .loop c_plan_taken_1_B0
/-- What is live at the loop's head: t1, t2, t3 x, t8 -/
abbrev h_plan_taken_1_0 (t1 t2 t3 t8 : SV) : List SV := [.bad, t1, t2, t3, .bad, .bad, .bad, .bad, t8, .bad, .bad, .bad, .bad, .bad, .bad, .bad, .bad, .bad, .bad, .bad, .bad, .bad, .bad, .bad, .bad, .bad, .bad, .bad, .bad, .bad, .bad, .bad, .bad]
def c_plan_taken_1 : C :=
  (.seq (rg 2 2 [0, 4] [i' 3 (.box T_api_Link (q 0)), i' 4 (.assign (kb false))]) (.seq (.seq (rg 1 0 [] [i' 8 (.move (ki 0))]) (.block 0 c_plan_taken_1_L0)) (.seq (rg 1 0 [1, 2, 3, 8, 9] [i' 4 (.assign (kb false))]) .ret)))
theorem ok_plan_taken_1 : Tryz.f181.body.map (comp ES n_plan_taken_1) = some c_plan_taken_1 := by kernel_rfl
theorem b_plan_taken_1 (t0 t1 t2 : SV) (M : Mem) : ICw ES n_plan_taken_1 [t0, t1, t2] M = endS ES [.tmp 4] (evW ES n_plan_taken_1 c_plan_taken_1 ⟨[t0, t1, t2, .bad, .bad, .bad, .bad, .bad, .bad, .bad, .bad, .bad, .bad, .bad, .bad, .bad, .bad, .bad, .bad, .bad, .bad, .bad, .bad, .bad, .bad, .bad, .bad, .bad, .bad, .bad, .bad, .bad, .bad], M⟩) :=
  ICw_run rfl Tryz.func181 ok_plan_taken_1 (by kernel_rfl) (by kernel_rfl) (by kernel_rfl) M
@[simp] theorem x_plan_taken_1_plan_end : CX ES n_plan_taken_1 n_plan_end := cx rfl


end Go.Proofs.YtomlbmbgocmiiaaGreatDoor
