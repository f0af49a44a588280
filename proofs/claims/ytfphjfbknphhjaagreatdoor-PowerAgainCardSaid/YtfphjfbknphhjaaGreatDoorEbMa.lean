/-
  The seat's functions as short code, part 0 (printed by a program of the claim's own).
-/
import Derived.Test.YtfphjfbknphhjaaGreatDoorEa
set_option linter.unusedVariables false
set_option maxRecDepth 100000
namespace Go.Proofs.YtfphjfbknphhjaaGreatDoor
open Go.Proofs.YtfphjfbknphhjaaGreatDoor.Sh

/-! drumline/drumlinelaw24.PowerRaw -/
def Zle : C :=
  (.seq (rg 2 2 [] [i' 7 (.box Zu (q 3)), i' 8 (.assign (kb false))]) (.seq (.seq (rg 13 0 [] [ca 14 Zdd #[] #[], i' 15 (.unOp .not Zbm (q 14)), mv 16 15, gd 16 false (mv 17 1), gd 16 false (ca 18 Zf5 #[q 17] #[Zt]), gd 16 false (i' 19 (.unOp .not Zbm (q 18))), i' 20 (.pick (q 16) (kb true) (q 19)), mv 21 20, gd 21 false (fa 22 Zu 7 4), gd 21 false (ld 23 Zgo 22), gd 21 false (le' 24 23 Zgo), gd 21 false (bi 25 .gtr Zc (q 24) (ki 100) Zc), i' 26 (.pick (q 21) (kb true) (q 25))]) (.cond (q 26) (.seq (rg 2 0 [] [ca 27 Zdd #[] #[], as' 8 27]) .ret) .skip)) (.seq (rg 4 4 [] [mv 28 0, ca 29 Zb9 #[q 28] #[Zc], i' 9 (.alloc Za), ⟨none, .store Za (q 9) (q 29), none, none⟩]) (.seq (rg 10 0 [] [ld 31 Za 9, mv 32 1, mv 33 2, ld 34 Zu 7, ca 35 Zcm #[q 31, q 32, q 33, q 34] #[Za, Zt, Zc, Zu], mv 30 35, xt 36 30 0, xt 37 30 1, as' 10 36, as' 11 37]) (.seq (rg 10 0 [] [ld 39 Za 9, mv 40 1, mv 41 2, ld 42 Zu 7, ca 43 Ze2 #[q 39, q 40, q 41, q 42] #[Za, Zt, Zc, Zu], mv 38 43, xt 44 38 0, xt 45 38 1, as' 12 44, as' 13 45]) (.seq (rg 10 0 [] [mv 46 10, mv 47 12, ca 48 Zdw #[q 46, q 47] #[Zt, Zt], mv 49 48, gd 49 true (mv 50 11), gd 49 true (ca 51 Zon #[q 50] #[Zby]), gd 49 true (mv 52 13), gd 49 true (bi 53 .eql Zc (q 51) (q 52) Zc), i' 54 (.pick (q 49) (q 53) (kb false)), as' 8 54]) .ret))))))
theorem Z08 : Tryz.f3.body.map (comp ES Zdx) = some Zle := by kernel_rfl
theorem Z2x (t0 t1 t2 t3 : SV) (M : Mem) : ICw ES Zdx [t0, t1, t2, t3] M = Zx ES [.tmp 8] (evW ES Zdx Zle ⟨[t0, t1, t2, t3, .Z, .Z, .Z, .Z, .Z, .Z, .Z, .Z, .Z, .Z, .Z, .Z, .Z, .Z, .Z, .Z, .Z, .Z, .Z, .Z, .Z, .Z, .Z, .Z, .Z, .Z, .Z, .Z, .Z, .Z, .Z, .Z, .Z, .Z, .Z, .Z, .Z, .Z, .Z, .Z, .Z, .Z, .Z, .Z, .Z, .Z, .Z, .Z, .Z, .Z, .Z], M⟩) :=
  Zab rfl Tryz.func3 Z08 (by kernel_rfl) (by kernel_rfl) (by kernel_rfl) M
@[simp] theorem Z4t : CX ES Zdx Zdd := cx rfl
@[simp] theorem Z4b : CX ES Zdx Zf5 := cx rfl
@[simp] theorem Z5a : CX ES Zdx Zb9 := cx rfl
@[simp] theorem Z5d : CX ES Zdx Zcm := cx rfl
@[simp] theorem Z9z : CX ES Zdx Ze2 := cx rfl
@[simp] theorem Zyl : CX ES Zdx Zdw := cx rfl
@[simp] theorem Z8e : CX ES Zdx Zon := cx rfl

/-! drumline/drumlinelaw24.PowerDoes -/
def Zfz : C :=
  (.seq (.seq (rg 4 0 [35, 36, 37] [mv 35 11, mv 36 3, le' 37 36 Zdv, bi 38 .lss Zc (q 35) (q 37) Zc]) (.cond (q 38) .skip (.exit 0))) (.seq (.block 1 (.seq (.seq (rg 7 0 [38, 41, 42, 43, 44, 45, 46] [mv 41 3, mv 42 11, i' 43 (.indexAddr Zdv (q 41) (q 42)), fa 44 Zu 43 4, ld 45 Zgo 44, le' 46 45 Zgo, bi 47 .gtr Zc (q 46) (ki 100) Zc]) (.cond (q 47) (.seq (rg 1 0 [2, 3, 9, 10, 11, 47] [i' 8 (.assign (kb true))]) .ret) .skip)) (.seq (rg 6 6 [47, 48, 49, 50, 51] [mv 48 3, mv 49 11, i' 50 (.indexAddr Zdv (q 48) (q 49)), ld 51 Zu 50, i' 12 (.alloc Zu), ⟨none, .store Zu (q 12) (q 51), none, none⟩]) (.seq (rg 6 0 [52, 53, 54, 55, 56] [fa 52 Zu 12 0, ld 53 Zc 52, bi 54 .and Zc (q 53) (ki 7) Zc, bi 55 .add Zc (ki 1) (q 54) Zc, fa 56 Zu 12 0, ⟨none, .store Zc (q 56) (q 55), none, none⟩]) (.seq (rg 11 0 [57, 58, 59, 60, 61, 62, 63, 64, 65] [ld 58 Za 9, mv 59 10, mv 60 2, i' 61 (.convert Zud Zc (q 60)), ld 62 Zu 12, ca 63 Zcm #[q 58, q 59, q 61, q 62] #[Za, Zt, Zc, Zu], mv 57 63, xt 64 57 0, xt 65 57 1, as' 13 64, as' 14 65]) (.seq (rg 11 0 [12, 66, 67, 68, 69, 70, 71, 72, 73, 74] [ld 67 Za 9, mv 68 10, mv 69 2, i' 70 (.convert Zud Zc (q 69)), ld 71 Zu 12, ca 72 Ze2 #[q 67, q 68, q 70, q 71] #[Za, Zt, Zc, Zu], mv 66 72, xt 73 66 0, xt 74 66 1, as' 15 73, as' 16 74]) (.seq (.seq (rg 10 0 [13, 14, 75, 76, 77, 78, 79, 80, 81, 82, 83] [mv 75 14, ca 76 Zon #[q 75] #[Zby], mv 77 16, bi 78 .neq Zc (q 76) (q 77) Zc, mv 79 78, gd 79 false (mv 80 13), gd 79 false (mv 81 15), gd 79 false (ca 82 Zdw #[q 80, q 81] #[Zt, Zt]), gd 79 false (i' 83 (.unOp .not Zbm (q 82))), i' 84 (.pick (q 79) (kb true) (q 83))]) (.cond (q 84) (.seq (rg 1 0 [2, 3, 9, 10, 11, 15, 16, 84] [i' 8 (.assign (kb false))]) .ret) .skip)) (.seq (rg 2 0 [16, 84, 85] [mv 85 16, bi 86 .eql Zc (q 85) (ki 0) Zc]) (.cond (q 86) (rg 2 0 [15, 86, 87] [mv 87 15, as' 10 87]) .skip))))))))) (rg 3 0 [15, 39, 40, 86] [mv 39 11, bi 40 .add Zc (q 39) (ki 1) Zc, as' 11 40])))
def Zmy : C := .loop Zfz
/-- What is live at the loop's head: t2 now, t3 events, t9 c, t10 x, t11 i -/
abbrev Zdj (t2 t3 t9 t10 t11 : SV) : List SV := [.Z, .Z, t2, t3, .Z, .Z, .Z, .Z, .Z, t9, t10, t11, .Z, .Z, .Z, .Z, .Z, .Z, .Z, .Z, .Z, .Z, .Z, .Z, .Z, .Z, .Z, .Z, .Z, .Z, .Z, .Z, .Z, .Z, .Z, .Z, .Z, .Z, .Z, .Z, .Z, .Z, .Z, .Z, .Z, .Z, .Z, .Z, .Z, .Z, .Z, .Z, .Z, .Z, .Z, .Z, .Z, .Z, .Z, .Z, .Z, .Z, .Z, .Z, .Z, .Z, .Z, .Z, .Z, .Z, .Z, .Z, .Z, .Z, .Z, .Z, .Z, .Z, .Z, .Z, .Z, .Z, .Z, .Z, .Z, .Z, .Z, .Z]
def Zh8 : C :=
  (.seq (rg 1 0 [8] [i' 8 (.assign (kb false))]) (.seq (.seq (rg 12 0 [17, 18, 19, 20, 21, 22, 23, 24, 25, 26, 27] [ca 17 Zdd #[] #[], i' 18 (.unOp .not Zbm (q 17)), mv 19 18, gd 19 false (mv 20 1), gd 19 false (ca 21 Zf5 #[q 20] #[Zt]), gd 19 false (i' 22 (.unOp .not Zbm (q 21))), i' 23 (.pick (q 19) (kb true) (q 22)), mv 24 23, gd 24 false (mv 25 3), gd 24 false (le' 26 25 Zdv), gd 24 false (bi 27 .gtr Zc (q 26) (ki 40) Zc), i' 28 (.pick (q 24) (kb true) (q 27))]) (.cond (q 28) (.seq (rg 2 0 [0, 1, 2, 3, 28, 29] [ca 29 Zdd #[] #[], as' 8 29]) .ret) .skip)) (.seq (rg 4 4 [0, 28, 30, 31] [mv 30 0, ca 31 Zb9 #[q 30] #[Zc], i' 9 (.alloc Za), ⟨none, .store Za (q 9) (q 31), none, none⟩]) (.seq (rg 4 0 [1, 32, 33, 34] [ld 32 Za 9, mv 33 1, ca 34 Ze7 #[q 32, q 33] #[Za, Zt], as' 10 34]) (.seq (.seq (rg 1 0 [] [i' 11 (.assign (ki 0))]) (.block 0 Zmy)) (.seq (rg 1 0 [2, 3, 9, 10, 11, 38] [i' 8 (.assign (kb true))]) .ret))))))
theorem Zxq : Tryz.f4.body.map (comp ES Zcg) = some Zh8 := by kernel_rfl
theorem Zzi (t0 t1 t2 t3 : SV) (M : Mem) : ICw ES Zcg [t0, t1, t2, t3] M = Zx ES [.tmp 8] (evW ES Zcg Zh8 ⟨[t0, t1, t2, t3, .Z, .Z, .Z, .Z, .Z, .Z, .Z, .Z, .Z, .Z, .Z, .Z, .Z, .Z, .Z, .Z, .Z, .Z, .Z, .Z, .Z, .Z, .Z, .Z, .Z, .Z, .Z, .Z, .Z, .Z, .Z, .Z, .Z, .Z, .Z, .Z, .Z, .Z, .Z, .Z, .Z, .Z, .Z, .Z, .Z, .Z, .Z, .Z, .Z, .Z, .Z, .Z, .Z, .Z, .Z, .Z, .Z, .Z, .Z, .Z, .Z, .Z, .Z, .Z, .Z, .Z, .Z, .Z, .Z, .Z, .Z, .Z, .Z, .Z, .Z, .Z, .Z, .Z, .Z, .Z, .Z, .Z, .Z, .Z], M⟩) :=
  Zab rfl Tryz.func4 Zxq (by kernel_rfl) (by kernel_rfl) (by kernel_rfl) M
@[simp] theorem Z2s : CX ES Zcg Zdd := cx rfl
@[simp] theorem Z19 : CX ES Zcg Zf5 := cx rfl
@[simp] theorem Z43 : CX ES Zcg Zb9 := cx rfl
@[simp] theorem Z33 : CX ES Zcg Zcm := cx rfl
@[simp] theorem Z8o : CX ES Zcg Ze2 := cx rfl
@[simp] theorem Zyd : CX ES Zcg Zdw := cx rfl
@[simp] theorem Z60 : CX ES Zcg Zon := cx rfl
@[simp] theorem Z2j : CX ES Zcg Ze7 := cx rfl

/-! drumline/drumlinelaw24.PowerTells -/
def Zls : C :=
  (.seq (rg 2 2 [] [i' 4 (.box Zh (q 1)), i' 6 (.assign (kb false))]) (.seq (.seq (rg 8 0 [] [ca 8 Zdd #[] #[], i' 9 (.unOp .not Zbm (q 8)), mv 10 9, gd 10 false (fa 11 Zh 4 5), gd 10 false (ld 12 Zv 11), gd 10 false (le' 13 12 Zv), gd 10 false (bi 14 .gtr Zc (q 13) (ki 30) Zc), i' 15 (.pick (q 10) (kb true) (q 14))]) (.cond (q 15) (.seq (rg 2 0 [] [ca 16 Zdd #[] #[], as' 6 16]) .ret) .skip)) (.seq (rg 4 4 [] [mv 17 0, ca 18 Zb9 #[q 17] #[Zc], i' 7 (.alloc Za), ⟨none, .store Za (q 7) (q 18), none, none⟩]) (.seq (rg 17 0 [] [ld 19 Za 7, ld 20 Zh 4, mv 21 2, ca 22 Zig #[q 19, q 20, q 21] #[Za, Zh, Zc], ld 23 Za 7, ld 24 Zh 4, mv 25 2, ca 26 Zjq #[q 23, q 24, q 25] #[Za, Zh, Zc], ca 27 Zdy #[q 22, q 26] #[Zh, Zh], mv 28 27, gd 28 true (ld 29 Zh 4), gd 28 true (ca 30 Zl1 #[q 29] #[Zh]), gd 28 true (ld 31 Zh 4), gd 28 true (ca 32 Zob #[q 31] #[Zh]), gd 28 true (ca 33 Zdy #[q 30, q 32] #[Zh, Zh]), i' 34 (.pick (q 28) (q 33) (kb false)), as' 6 34]) .ret))))
theorem Zwg : Tryz.f7.body.map (comp ES Zcu) = some Zls := by kernel_rfl
theorem Zx3 (t0 t1 t2 : SV) (M : Mem) : ICw ES Zcu [t0, t1, t2] M = Zx ES [.tmp 6] (evW ES Zcu Zls ⟨[t0, t1, t2, .Z, .Z, .Z, .Z, .Z, .Z, .Z, .Z, .Z, .Z, .Z, .Z, .Z, .Z, .Z, .Z, .Z, .Z, .Z, .Z, .Z, .Z, .Z, .Z, .Z, .Z, .Z, .Z, .Z, .Z, .Z, .Z], M⟩) :=
  Zab rfl Tryz.func7 Zwg (by kernel_rfl) (by kernel_rfl) (by kernel_rfl) M
@[simp] theorem Z1q : CX ES Zcu Zdd := cx rfl
@[simp] theorem Z27 : CX ES Zcu Zb9 := cx rfl
@[simp] theorem Zx5 : CX ES Zcu Zdy := cx rfl
@[simp] theorem Z3i : CX ES Zcu Zig := cx rfl
@[simp] theorem Z6f : CX ES Zcu Zjq := cx rfl
@[simp] theorem Z1z : CX ES Zcu Zl1 := cx rfl
@[simp] theorem Z37 : CX ES Zcu Zob := cx rfl

/-! drumline/drumlinelaw24.alive -/
def Zup : C :=
  (.seq (rg 1 0 [] [i' 0 (.assign (kb false))]) (.seq (rg 3 3 [] [ca 4 Zb9 #[(ki 1)] #[Zc], i' 1 (.alloc Za), ⟨none, .store Za (q 1) (q 4), none, none⟩]) (.seq (rg 10 0 [] [ld 6 Za 1, ld 7 Za 1, ca 8 Ze7 #[q 7, .const (.slice none 0 0)] #[Za, Zt], i' 9 (.build Zu #[(0, (ki 5)), (1, (ki 1))]), ca 10 Zcm #[q 6, q 8, (ki 3), q 9] #[Za, Zt, Zc, Zu], mv 5 10, xt 11 5 0, xt 12 5 1, as' 2 11, as' 3 12]) (.seq (rg 49 0 [] [mv 13 3, bi 14 .eql Zby (q 13) (ki 0) Zby, mv 15 14, gd 15 true (mv 16 2), gd 15 true (le' 17 16 Zt), gd 15 true (bi 18 .eql Zc (q 17) (ki 2) Zc), i' 19 (.pick (q 15) (q 18) (kb false)), mv 20 19, gd 20 true (mv 21 2), gd 20 true (i' 22 (.indexAddr Zt (q 21) (ki 1))), gd 20 true (fa 23 Zq 22 0), gd 20 true (ld 24 Zj 23), gd 20 true (le' 25 24 Zj), gd 20 true (bi 26 .eql Zc (q 25) (ki 6) Zc), i' 27 (.pick (q 20) (q 26) (kb false)), mv 28 27, gd 28 true (mv 29 2), gd 28 true (i' 30 (.indexAddr Zt (q 29) (ki 1))), gd 28 true (fa 31 Zq 30 0), gd 28 true (ld 32 Zj 31), gd 28 true (i' 33 (.indexAddr Zj (q 32) (ki 5))), gd 28 true (fa 34 Zh 33 0), gd 28 true (ld 35 Zc 34), gd 28 true (bi 36 .eql Zc (q 35) (ki 1) Zc), i' 37 (.pick (q 28) (q 36) (kb false)), mv 38 37, gd 38 true (mv 39 2), gd 38 true (i' 40 (.indexAddr Zt (q 39) (ki 1))), gd 38 true (fa 41 Zq 40 0), gd 38 true (ld 42 Zj 41), gd 38 true (i' 43 (.indexAddr Zj (q 42) (ki 5))), gd 38 true (fa 44 Zh 43 3), gd 38 true (ld 45 Zp 44), gd 38 true (fa 46 Za 1 2), gd 38 true (ld 47 Zc 46), gd 38 true (bi 48 .mul Zp (ki 3) (q 47) Zp), gd 38 true (bi 49 .eql Zp (q 45) (q 48) Zp), i' 50 (.pick (q 38) (q 49) (kb false)), mv 51 50, gd 51 true (mv 52 2), gd 51 true (i' 53 (.indexAddr Zt (q 52) (ki 0))), gd 51 true (fa 54 Zq 53 0), gd 51 true (ld 55 Zj 54), gd 51 true (i' 56 (.indexAddr Zj (q 55) (ki 0))), gd 51 true (fa 57 Zh 56 0), gd 51 true (ld 58 Zc 57), gd 51 true (bi 59 .eql Zc (q 58) (ki 0) Zc), i' 60 (.pick (q 51) (q 59) (kb false)), as' 0 60]) .ret))))
theorem Zaat : Tryz.f8.body.map (comp ES Zdd) = some Zup := by kernel_rfl
theorem Zads (M : Mem) : ICw ES Zdd [] M = Zx ES [.tmp 0] (evW ES Zdd Zup ⟨[.Z, .Z, .Z, .Z, .Z, .Z, .Z, .Z, .Z, .Z, .Z, .Z, .Z, .Z, .Z, .Z, .Z, .Z, .Z, .Z, .Z, .Z, .Z, .Z, .Z, .Z, .Z, .Z, .Z, .Z, .Z, .Z, .Z, .Z, .Z, .Z, .Z, .Z, .Z, .Z, .Z, .Z, .Z, .Z, .Z, .Z, .Z, .Z, .Z, .Z, .Z, .Z, .Z, .Z, .Z, .Z, .Z, .Z, .Z, .Z, .Z], M⟩) :=
  Zab rfl Tryz.func8 Zaat (by kernel_rfl) (by kernel_rfl) (by kernel_rfl) M
@[simp] theorem Zaca : CX ES Zdd Zb9 := cx rfl
@[simp] theorem Zab9 : CX ES Zdd Zcm := cx rfl
@[simp] theorem Z89 : CX ES Zdd Ze7 := cx rfl

/-! drumline/drumlinelaw24.small -/
def Zjf : C :=
  (.seq (.seq (rg 8 0 [31, 32, 33, 34, 35, 36, 37] [mv 31 4, mv 32 0, mv 33 3, i' 34 (.indexAddr Zt (q 32) (q 33)), fa 35 Zq 34 0, ld 36 Zj 35, le' 37 36 Zj, bi 38 .lss Zc (q 31) (q 37) Zc]) (.cond (q 38) .skip (.exit 2))) (.seq (.block 3 (.seq (rg 11 0 [38, 41, 42, 43, 44, 45, 46, 47, 48, 49, 50] [mv 41 0, mv 42 3, i' 43 (.indexAddr Zt (q 41) (q 42)), fa 44 Zq 43 0, ld 45 Zj 44, mv 46 4, i' 47 (.indexAddr Zj (q 45) (q 46)), fa 48 Zh 47 5, ld 49 Zv 48, le' 50 49 Zv, bi 51 .gtr Zc (q 50) (ki 20) Zc]) (.cond (q 51) (.seq (rg 1 0 [0, 3, 4, 51] [i' 2 (.assign (kb false))]) .ret) .skip))) (rg 3 0 [39, 40, 51] [mv 39 4, bi 40 .add Zc (q 39) (ki 1) Zc, as' 4 40])))
def Zua : C := .loop Zjf
/-- What is live at the loop's head: t0 l, t3 i, t4 k -/
abbrev Zer (t0 t3 t4 : SV) : List SV := [t0, .Z, .Z, t3, t4, .Z, .Z, .Z, .Z, .Z, .Z, .Z, .Z, .Z, .Z, .Z, .Z, .Z, .Z, .Z, .Z, .Z, .Z, .Z, .Z, .Z, .Z, .Z, .Z, .Z, .Z, .Z, .Z, .Z, .Z, .Z, .Z, .Z, .Z, .Z, .Z, .Z, .Z, .Z, .Z, .Z, .Z, .Z, .Z, .Z, .Z, .Z]
def Zhu : C :=
  (.seq (.seq (rg 4 0 [8, 9, 10] [mv 8 3, mv 9 0, le' 10 9 Zt, bi 11 .lss Zc (q 8) (q 10) Zc]) (.cond (q 11) .skip (.exit 0))) (.seq (.block 1 (.seq (.seq (rg 17 0 [11, 14, 15, 16, 17, 18, 19, 20, 21, 22, 23, 24, 25, 26, 27, 28, 29] [mv 14 0, mv 15 3, i' 16 (.indexAddr Zt (q 14) (q 15)), fa 17 Zq 16 0, ld 18 Zj 17, le' 19 18 Zj, bi 20 .gtr Zc (q 19) (ki 20) Zc, mv 21 20, gd 21 false (mv 22 0), gd 21 false (mv 23 3), gd 21 false (i' 24 (.indexAddr Zt (q 22) (q 23))), gd 21 false (fa 25 Zq 24 1), gd 21 false (fa 26 Zan 25 2), gd 21 false (ld 27 Zv 26), gd 21 false (le' 28 27 Zv), gd 21 false (bi 29 .gtr Zc (q 28) (ki 20) Zc), i' 30 (.pick (q 21) (kb true) (q 29))]) (.cond (q 30) (.seq (rg 1 0 [0, 3, 30] [i' 2 (.assign (kb false))]) .ret) .skip)) (.seq (rg 1 0 [30] [i' 4 (.assign (ki 0))]) (.block 2 Zua)))) (rg 3 0 [4, 12, 13, 38] [mv 12 3, bi 13 .add Zc (q 12) (ki 1) Zc, as' 3 13])))
def Zqx : C := .loop Zhu
/-- What is live at the loop's head: t0 l, t3 i -/
abbrev Ze9 (t0 t3 : SV) : List SV := [t0, .Z, .Z, t3, .Z, .Z, .Z, .Z, .Z, .Z, .Z, .Z, .Z, .Z, .Z, .Z, .Z, .Z, .Z, .Z, .Z, .Z, .Z, .Z, .Z, .Z, .Z, .Z, .Z, .Z, .Z, .Z, .Z, .Z, .Z, .Z, .Z, .Z, .Z, .Z, .Z, .Z, .Z, .Z, .Z, .Z, .Z, .Z, .Z, .Z, .Z, .Z]
def Zpu : C :=
  (.seq (rg 1 0 [2] [i' 2 (.assign (kb false))]) (.seq (.seq (rg 3 0 [5, 6] [mv 5 0, le' 6 5 Zt, bi 7 .gtr Zc (q 6) (ki 20) Zc]) (.cond (q 7) (.seq (rg 1 0 [0, 7] [i' 2 (.assign (kb false))]) .ret) .skip)) (.seq (.seq (rg 1 0 [7] [i' 3 (.assign (ki 0))]) (.block 0 Zqx)) (.seq (rg 1 0 [0, 3, 11] [i' 2 (.assign (kb true))]) .ret))))
theorem Zaa3 : Tryz.f9.body.map (comp ES Zf5) = some Zpu := by kernel_rfl
theorem Zac5 (t0 : SV) (M : Mem) : ICw ES Zf5 [t0] M = Zx ES [.tmp 2] (evW ES Zf5 Zpu ⟨[t0, .Z, .Z, .Z, .Z, .Z, .Z, .Z, .Z, .Z, .Z, .Z, .Z, .Z, .Z, .Z, .Z, .Z, .Z, .Z, .Z, .Z, .Z, .Z, .Z, .Z, .Z, .Z, .Z, .Z, .Z, .Z, .Z, .Z, .Z, .Z, .Z, .Z, .Z, .Z, .Z, .Z, .Z, .Z, .Z, .Z, .Z, .Z, .Z, .Z, .Z, .Z], M⟩) :=
  Zab rfl Tryz.func9 Zaa3 (by kernel_rfl) (by kernel_rfl) (by kernel_rfl) M

/-! drumline/drumlineref26.Made -/
def Zmx : C :=
  (.seq (.seq (rg 3 0 [31, 32] [mv 31 6, mv 32 3, bi 33 .lss Zc (q 31) (q 32) Zc]) (.cond (q 33) .skip (.exit 0))) (.seq (.block 1 (rg 7 7 [33, 36, 37, 38, 39, 40, 41] [fa 36 Za 5 0, ld 37 Zm 36, i' 38 (.build Zaz #[(0, (ki 5)), (1, (ki 1))]), i' 39 (.buildSlice Zm 1 #[(0, q 38)]), i' 40 (.call { callee := .builtin .append, args := #[q 37, q 39], argTypes := #[Zm, Zm] }), fa 41 Za 5 0, ⟨none, .store Zm (q 41) (q 40), none, none⟩])) (rg 3 0 [34, 35] [mv 34 6, bi 35 .add Zc (q 34) (ki 1) Zc, as' 6 35])))
def Zv3 : C := .loop Zmx
/-- What is live at the loop's head: t0 n, t2, t3 parts, t4 shape, t5 c, t6 i -/
abbrev Zhk (t0 t2 t3 t4 t5 t6 : SV) : List SV := [t0, .Z, t2, t3, t4, t5, t6, .Z, .Z, .Z, .Z, .Z, .Z, .Z, .Z, .Z, .Z, .Z, .Z, .Z, .Z, .Z, .Z, .Z, .Z, .Z, .Z, .Z, .Z, .Z, .Z, .Z, .Z, .Z, .Z, .Z, .Z, .Z, .Z, .Z, .Z, .Z, .Z, .Z, .Z, .Z, .Z, .Z, .Z, .Z, .Z, .Z, .Z, .Z, .Z, .Z, .Z, .Z, .Z, .Z, .Z, .Z, .Z, .Z, .Z, .Z, .Z, .Z, .Z, .Z, .Z, .Z, .Z, .Z, .Z, .Z, .Z, .Z, .Z, .Z, .Z, .Z, .Z, .Z, .Z, .Z, .Z, .Z, .Z, .Z, .Z, .Z, .Z, .Z, .Z, .Z, .Z, .Z, .Z, .Z, .Z, .Z, .Z, .Z]
def Zkx : C :=
  (.seq (.seq (rg 3 0 [42, 43] [mv 42 7, mv 43 3, bi 44 .lss Zc (q 42) (q 43) Zc]) (.cond (q 44) .skip (.exit 2))) (.seq (.block 3 (.seq (rg 3 0 [44, 47, 48] [mv 47 7, bi 48 .sub Zc (q 47) (ki 1) Zc, as' 8 48]) (.seq (.seq (rg 2 0 [49] [mv 49 4, bi 50 .eql Zc (q 49) (ki 2) Zc]) (.cond (q 50) (rg 1 0 [50] [i' 8 (.assign (ki 0))]) .skip)) (.seq (.chk ⟨9, 9, [], [li [] (fa 51 Za 5 1), li [0] (ld 52 Zr 51), li [] (mv 53 8), li [] (mv 54 7), li [2, 3] (ca 55 Zfs #[q 5, q 53, q 54] #[Zjg, Zc, Zc])]⟩ Zr (q 51) 52) (rg 9 9 [8, 50, 51, 52, 53, 54, 55, 56, 57, 58] [li [] (fa 51 Za 5 1), li [0] (ld 52 Zr 51), li [] (mv 53 8), li [] (mv 54 7), li [2, 3] (ca 55 Zfs #[q 5, q 53, q 54] #[Zjg, Zc, Zc]), li [2, 3, 4] (i' 56 (.buildSlice Zr 1 #[(0, q 55)])), li [0, 1, 2, 3, 4, 5] (i' 57 (.call { callee := .builtin .append, args := #[q 52, q 56], argTypes := #[Zr, Zr] })), li [0, 1, 2, 3, 4, 5, 6] (fa 58 Za 5 1), ⟨none, .store Zr (q 58) (q 57), none, some [0, 1, 2, 3, 4, 5, 6, 7]⟩]))))) (rg 3 0 [45, 46] [mv 45 7, bi 46 .add Zc (q 45) (ki 1) Zc, as' 7 46])))
def Zvf : C := .loop Zkx
/-- What is live at the loop's head: t0 n, t2, t3 parts, t4 shape, t5 c, t7 i -/
abbrev Zgl (t0 t2 t3 t4 t5 t7 : SV) : List SV := [t0, .Z, t2, t3, t4, t5, .Z, t7, .Z, .Z, .Z, .Z, .Z, .Z, .Z, .Z, .Z, .Z, .Z, .Z, .Z, .Z, .Z, .Z, .Z, .Z, .Z, .Z, .Z, .Z, .Z, .Z, .Z, .Z, .Z, .Z, .Z, .Z, .Z, .Z, .Z, .Z, .Z, .Z, .Z, .Z, .Z, .Z, .Z, .Z, .Z, .Z, .Z, .Z, .Z, .Z, .Z, .Z, .Z, .Z, .Z, .Z, .Z, .Z, .Z, .Z, .Z, .Z, .Z, .Z, .Z, .Z, .Z, .Z, .Z, .Z, .Z, .Z, .Z, .Z, .Z, .Z, .Z, .Z, .Z, .Z, .Z, .Z, .Z, .Z, .Z, .Z, .Z, .Z, .Z, .Z, .Z, .Z, .Z, .Z, .Z, .Z, .Z, .Z]
def Zwr : C :=
  (.seq (rg 1 1 [] [i' 2 (.alloc Za)]) (.seq (rg 3 0 [10, 11] [mv 10 0, bi 11 .and Zc (q 10) (ki 65535) Zc, as' 0 11]) (.seq (rg 4 0 [12, 13, 14] [mv 12 0, bi 13 .and Zc (q 12) (ki 3) Zc, bi 14 .add Zc (ki 1) (q 13) Zc, as' 3 14]) (.seq (rg 4 0 [15, 16, 17] [mv 15 0, bi 16 .shr Zc (q 15) (.const (.int .u64 2)) Zm6, bi 17 .and Zc (q 16) (ki 3) Zc, as' 4 17]) (.seq (rg 15 15 [18, 19, 20, 21, 22, 23, 24, 25, 26, 27, 28, 29, 30] [mv 18 0, bi 19 .shr Zc (q 18) (.const (.int .u64 4)) Zm6, bi 20 .and Zc (q 19) (ki 7) Zc, bi 21 .mul Zc (ki 1000) (q 20) Zc, bi 22 .add Zc (ki 20000) (q 21) Zc, mv 23 0, bi 24 .shr Zc (q 23) (.const (.int .u64 7)) Zm6, bi 25 .and Zc (q 24) (ki 7) Zc, bi 26 .mul Zc (ki 20) (q 25) Zc, mv 27 0, bi 28 .shr Zc (q 27) (.const (.int .u64 10)) Zm6, bi 29 .and Zc (q 28) (ki 1) Zc, i' 30 (.build Za #[(2, q 22), (3, (ki 60)), (4, (ki 100)), (6, q 26), (7, (ki 300000)), (9, q 29), (12, (ki 12))]), i' 5 (.alloc Za), ⟨none, .store Za (q 5) (q 30), none, none⟩]) (.seq (.seq (rg 1 0 [] [i' 6 (.assign (ki 0))]) (.block 0 Zv3)) (.seq (.seq (rg 1 0 [6, 33] [i' 7 (.assign (ki 1))]) (.block 2 Zvf)) (.seq (.seq (rg 6 0 [4, 7, 44, 59, 60, 61, 62, 63] [mv 59 4, bi 60 .eql Zc (q 59) (ki 1) Zc, mv 61 60, gd 61 true (mv 62 3), gd 61 true (bi 63 .gtr Zc (q 62) (ki 2) Zc), i' 64 (.pick (q 61) (q 63) (kb false))]) (.cond (q 64) (.seq (.chk ⟨9, 9, [], [li [] (fa 65 Za 5 1), li [0] (ld 66 Zr 65), li [] (mv 67 3), li [2] (bi 68 .sub Zc (q 67) (ki 1) Zc), li [2, 3] (ca 69 Zfs #[q 5, (ki 0), q 68] #[Zjg, Zc, Zc])]⟩ Zr (q 65) 66) (rg 9 9 [64, 65, 66, 67, 68, 69, 70, 71, 72] [li [] (fa 65 Za 5 1), li [0] (ld 66 Zr 65), li [] (mv 67 3), li [2] (bi 68 .sub Zc (q 67) (ki 1) Zc), li [2, 3] (ca 69 Zfs #[q 5, (ki 0), q 68] #[Zjg, Zc, Zc]), li [2, 3, 4] (i' 70 (.buildSlice Zr 1 #[(0, q 69)])), li [0, 1, 2, 3, 4, 5] (i' 71 (.call { callee := .builtin .append, args := #[q 66, q 70], argTypes := #[Zr, Zr] })), li [0, 1, 2, 3, 4, 5, 6] (fa 72 Za 5 1), ⟨none, .store Zr (q 72) (q 71), none, some [0, 1, 2, 3, 4, 5, 6, 7]⟩])) .skip)) (.seq (rg 7 0 [64, 73, 74, 75, 76, 77, 78] [mv 73 3, fa 74 Za 5 9, ld 75 Zc 74, bi 76 .add Zc (q 75) (ki 1) Zc, bi 77 .mul Zc (q 73) (q 76) Zc, bi 78 .add Zc (q 77) (ki 2) Zc, as' 9 78]) (.seq (rg 13 0 [3, 79, 80, 81, 82, 83, 84, 85, 86, 87, 88, 89, 90] [mv 79 3, bi 80 .sub Zc (q 79) (ki 1) Zc, fa 81 Za 5 9, ld 82 Zc 81, bi 83 .add Zc (q 82) (ki 1) Zc, bi 84 .mul Zc (q 80) (q 83) Zc, bi 85 .add Zc (q 84) (ki 1) Zc, mv 86 0, bi 87 .shr Zc (q 86) (.const (.int .u64 11)) Zm6, bi 88 .and Zc (q 87) (ki 3) Zc, bi 89 .add Zc (q 85) (q 88) Zc, fa 90 Za 5 8, ⟨none, .store Zc (q 90) (q 89), none, none⟩]) (.seq (rg 7 0 [0, 91, 92, 93, 94, 95, 96] [mv 91 9, mv 92 0, bi 93 .shr Zc (q 92) (.const (.int .u64 13)) Zm6, bi 94 .and Zc (q 93) (ki 1) Zc, bi 95 .add Zc (q 91) (q 94) Zc, fa 96 Za 5 10, ⟨none, .store Zc (q 96) (q 95), none, none⟩]) (.seq (rg 3 0 [9, 97, 98] [mv 97 9, fa 98 Za 5 11, ⟨none, .store Zc (q 98) (q 97), none, none⟩]) (.seq (rg 5 0 [99, 100, 101, 102] [ld 99 Za 5, ca 100 Zm8 #[q 99] #[Za], bi 101 .mul Zc (ki 3) (q 100) Zc, fa 102 Za 5 5, ⟨none, .store Zc (q 102) (q 101), none, none⟩]) (.seq (rg 2 0 [5, 103] [ld 103 Za 5, ⟨none, .store Za (q 2) (q 103), none, none⟩]) .ret))))))))))))))
theorem Zad2 : Tryz.f10.body.map (comp ES Zb9) = some Zwr := by kernel_rfl
theorem Zahk (t0 : SV) (M : Mem) : ICw ES Zb9 [t0] M = Zx ES [.cell 2 Za] (evW ES Zb9 Zwr ⟨[t0, .Z, .Z, .Z, .Z, .Z, .Z, .Z, .Z, .Z, .Z, .Z, .Z, .Z, .Z, .Z, .Z, .Z, .Z, .Z, .Z, .Z, .Z, .Z, .Z, .Z, .Z, .Z, .Z, .Z, .Z, .Z, .Z, .Z, .Z, .Z, .Z, .Z, .Z, .Z, .Z, .Z, .Z, .Z, .Z, .Z, .Z, .Z, .Z, .Z, .Z, .Z, .Z, .Z, .Z, .Z, .Z, .Z, .Z, .Z, .Z, .Z, .Z, .Z, .Z, .Z, .Z, .Z, .Z, .Z, .Z, .Z, .Z, .Z, .Z, .Z, .Z, .Z, .Z, .Z, .Z, .Z, .Z, .Z, .Z, .Z, .Z, .Z, .Z, .Z, .Z, .Z, .Z, .Z, .Z, .Z, .Z, .Z, .Z, .Z, .Z, .Z, .Z, .Z], M⟩) :=
  Zab rfl Tryz.func10 Zad2 (by kernel_rfl) (by kernel_rfl) (by kernel_rfl) M
@[simp] theorem Z9y : CI ES Zb9 Zfs := ci rfl
@[simp] theorem Zafu : CX ES Zb9 Zm8 := cx rfl

/-! drumline/power.Do -/
def Zm2 : C :=
  (.seq (rg 1 0 [] [bi 35 .lss Zc (q 34) (q 33) Zc]) (.seq (.cond (q 35) .skip (.exit 0)) (.seq (.block 1 (.seq (rg 4 4 [35, 36, 37] [i' 36 (.indexAddr Zt (q 32) (q 34)), ld 37 Zq 36, i' 14 (.alloc Zq), ⟨none, .store Zq (q 14) (q 37), none, none⟩]) (rg 6 6 [14, 38, 39, 40, 41, 42] [mv 38 12, ld 39 Zq 14, ca 40 Zdm #[q 39] #[Zq], i' 41 (.buildSlice Zt 1 #[(0, q 40)]), i' 42 (.call { callee := .builtin .append, args := #[q 38, q 41], argTypes := #[Zt, Zt] }), as' 12 42]))) (rg 2 0 [43] [bi 43 .add Zc (q 34) (ki 1) Zc, mv 34 43]))))
def Zu2 : C := .loop Zm2
/-- What is live at the loop's head: t2 now, t4 c, t7 e, t10 l, t12 out, t32, t33, t34 -/
abbrev Zkc (t2 t4 t7 t10 t12 t32 t33 t34 : SV) : List SV := [.Z, .Z, t2, .Z, t4, .Z, .Z, t7, .Z, .Z, t10, .Z, t12, .Z, .Z, .Z, .Z, .Z, .Z, .Z, .Z, .Z, .Z, .Z, .Z, .Z, .Z, .Z, .Z, .Z, .Z, .Z, t32, t33, t34, .Z, .Z, .Z, .Z, .Z, .Z, .Z, .Z, .Z, .Z, .Z, .Z, .Z, .Z, .Z, .Z, .Z, .Z, .Z, .Z, .Z, .Z, .Z, .Z, .Z, .Z, .Z, .Z, .Z, .Z, .Z, .Z, .Z, .Z, .Z]
def Zm0 : C :=
  (.seq (rg 1 0 [] [bi 47 .lss Zc (q 46) (q 45) Zc]) (.seq (.cond (q 47) .skip (.exit 2)) (.seq (.block 3 (.seq (rg 4 4 [47, 48, 49] [i' 48 (.indexAddr Zbv (q 44) (q 46)), ld 49 Zc7 48, i' 16 (.alloc Zc7), ⟨none, .store Zc7 (q 16) (q 49), none, none⟩]) (.seq (rg 10 0 [16, 50, 51, 52, 53, 54, 55, 56, 57, 58] [mv 50 12, fa 51 Zc7 16 0, ld 52 Zc 51, i' 53 (.indexAddr Zt (q 50) (q 52)), fa 54 Zq 53 0, ld 55 Zj 54, fa 56 Zc7 16 1, ld 57 Zc 56, i' 58 (.indexAddr Zj (q 55) (q 57)), as' 17 58]) (rg 10 0 [17, 59, 60, 61, 62, 63, 64, 65, 66, 67] [mv 59 17, ld 60 Za 4, mv 61 17, i' 62 (.nilCheck (q 61)), ld 63 Zh 62, mv 64 2, ld 65 Zu 7, ca 66 Zej #[q 60, q 63, q 64, q 65] #[Za, Zh, Zc, Zu], i' 67 (.nilCheck (q 59)), ⟨none, .store Zh (q 67) (q 66), none, none⟩])))) (rg 2 0 [68] [bi 68 .add Zc (q 46) (ki 1) Zc, mv 46 68]))))
def Zvb : C := .loop Zm0
/-- What is live at the loop's head: t2 now, t4 c, t7 e, t12 out, t44, t45, t46 -/
abbrev Zj3 (t2 t4 t7 t12 t44 t45 t46 : SV) : List SV := [.Z, .Z, t2, .Z, t4, .Z, .Z, t7, .Z, .Z, .Z, .Z, t12, .Z, .Z, .Z, .Z, .Z, .Z, .Z, .Z, .Z, .Z, .Z, .Z, .Z, .Z, .Z, .Z, .Z, .Z, .Z, .Z, .Z, .Z, .Z, .Z, .Z, .Z, .Z, .Z, .Z, .Z, .Z, t44, t45, t46, .Z, .Z, .Z, .Z, .Z, .Z, .Z, .Z, .Z, .Z, .Z, .Z, .Z, .Z, .Z, .Z, .Z, .Z, .Z, .Z, .Z, .Z, .Z]
def Zrj : C :=
  (.seq (rg 4 4 [0, 3, 8, 9] [i' 4 (.box Za (q 0)), i' 7 (.box Zu (q 3)), i' 8 (.assign (.const (.slice none 0 0))), i' 9 (.assign (ki 0))]) (.seq (.seq (rg 6 0 [18, 19, 20, 21, 22] [ld 18 Za 4, mv 19 1, mv 20 2, ld 21 Zu 7, ca 22 Zhv #[q 18, q 19, q 20, q 21] #[Za, Zt, Zc, Zu], i' 23 (.unOp .not Zbm (q 22))]) (.cond (q 23) (.seq (rg 2 0 [1, 2, 4, 7, 23] [i' 8 (.assign (.const (.slice none 0 0))), i' 9 (.assign (ki 1))]) .ret) .skip)) (.seq (rg 8 0 [23, 24, 25, 26, 27, 28, 29] [ld 25 Za 4, ld 26 Zu 7, ca 27 Zb0 #[q 25, q 26] #[Za, Zu], mv 24 27, xt 28 24 0, xt 29 24 1, as' 10 28, as' 11 29]) (.seq (.seq (rg 2 0 [11, 30] [mv 30 11, i' 31 (.unOp .not Zbm (q 30))]) (.cond (q 31) (.seq (rg 2 0 [1, 2, 4, 7, 10, 31] [i' 8 (.assign (.const (.slice none 0 0))), i' 9 (.assign (ki 1))]) .ret) .skip)) (.seq (rg 1 0 [31] [i' 12 (.assign (.const (.slice none 0 0)))]) (.seq (.seq (rg 3 0 [1] [mv 32 1, le' 33 32 Zt, i' 34 (.move (ki 0))]) (.block 0 Zu2)) (.seq (.seq (rg 3 0 [10, 32, 33, 34, 35] [mv 44 10, le' 45 44 Zbv, i' 46 (.move (ki 0))]) (.block 2 Zvb)) (.seq (rg 3 0 [2, 4, 7, 12, 44, 45, 46, 47, 69] [mv 69 12, as' 8 69, i' 9 (.assign (ki 0))]) .ret))))))))
theorem Zadt : Tryz.f11.body.map (comp ES Zcm) = some Zrj := by kernel_rfl
theorem Zwh (t0 t1 t2 t3 : SV) (M : Mem) : ICw ES Zcm [t0, t1, t2, t3] M = Zx ES [.tmp 8, .tmp 9] (evW ES Zcm Zrj ⟨[t0, t1, t2, t3, .Z, .Z, .Z, .Z, .Z, .Z, .Z, .Z, .Z, .Z, .Z, .Z, .Z, .Z, .Z, .Z, .Z, .Z, .Z, .Z, .Z, .Z, .Z, .Z, .Z, .Z, .Z, .Z, .Z, .Z, .Z, .Z, .Z, .Z, .Z, .Z, .Z, .Z, .Z, .Z, .Z, .Z, .Z, .Z, .Z, .Z, .Z, .Z, .Z, .Z, .Z, .Z, .Z, .Z, .Z, .Z, .Z, .Z, .Z, .Z, .Z, .Z, .Z, .Z, .Z, .Z], M⟩) :=
  Zab rfl Tryz.func11 Zadt (by kernel_rfl) (by kernel_rfl) (by kernel_rfl) M
@[simp] theorem Zacd : CX ES Zcm Zhv := cx rfl
@[simp] theorem Z7x : CX ES Zcm Zb0 := cx rfl
@[simp] theorem Z91 : CI ES Zcm Zdm := ci rfl
@[simp] theorem Z5l : CX ES Zcm Zej := cx rfl

/-! drumline/drumlineref21.Do -/
def Zly : C :=
  (.seq (.seq (rg 8 0 [101, 102, 103, 104, 105, 106, 107] [mv 101 14, mv 102 1, mv 103 12, i' 104 (.indexAddr Zt (q 102) (q 103)), fa 105 Zq 104 0, ld 106 Zj 105, le' 107 106 Zj, bi 108 .lss Zc (q 101) (q 107) Zc]) (.cond (q 108) .skip (.exit 2))) (.seq (.block 3 (.seq (rg 10 10 [108, 111, 112, 113, 114, 115, 116, 117, 118] [mv 111 1, mv 112 12, i' 113 (.indexAddr Zt (q 111) (q 112)), fa 114 Zq 113 0, ld 115 Zj 114, mv 116 14, i' 117 (.indexAddr Zj (q 115) (q 116)), ld 118 Zh 117, i' 15 (.alloc Zh), ⟨none, .store Zh (q 15) (q 118), none, none⟩]) (.seq (rg 5 0 [119, 120, 121, 122] [fa 119 Zh 15 5, ld 120 Zv 119, ca 121 Zmk #[q 120] #[Zv], fa 122 Zh 15 5, ⟨none, .store Zv (q 122) (q 121), none, none⟩]) (.seq (.seq (rg 10 0 [123, 124, 125, 126, 127, 128, 129, 130, 131] [ld 123 Za 4, ld 124 Zu 7, mv 125 12, mv 126 14, ca 127 Zl2 #[q 123, q 124, q 125, q 126] #[Za, Zu, Zc, Zc], mv 128 127, gd 128 true (fa 129 Zu 7 0), gd 128 true (ld 130 Zc 129), gd 128 true (bi 131 .eql Zc (q 130) (ki 1) Zc), i' 132 (.pick (q 128) (q 131) (kb false))]) (.cond (q 132) (rg 4 0 [132, 133, 134, 135] [fa 133 Zu 7 3, ld 134 Zc 133, fa 135 Zh 15 2, ⟨none, .store Zc (q 135) (q 134), none, none⟩]) (.seq (rg 5 0 [132, 136, 137, 138, 139] [ld 136 Za 4, ld 137 Zu 7, mv 138 12, mv 139 14, ca 140 Zl2 #[q 136, q 137, q 138, q 139] #[Za, Zu, Zc, Zc]]) (.cond (q 140) (rg 6 0 [140, 141, 142, 143, 144, 145] [ld 141 Za 4, ld 142 Zh 15, mv 143 2, mv 144 10, ca 145 Zim #[q 141, q 142, q 143, q 144] #[Za, Zh, Zc, Zbm], ⟨none, .store Zh (q 15) (q 145), none, none⟩]) .skip)))) (rg 7 7 [15, 140, 146, 147, 148, 149, 150, 151] [fa 146 Zq 13 0, ld 147 Zj 146, ld 148 Zh 15, i' 149 (.buildSlice Zj 1 #[(0, q 148)]), i' 150 (.call { callee := .builtin .append, args := #[q 147, q 149], argTypes := #[Zj, Zj] }), fa 151 Zq 13 0, ⟨none, .store Zj (q 151) (q 150), none, none⟩]))))) (rg 3 0 [109, 110] [mv 109 14, bi 110 .add Zc (q 109) (ki 1) Zc, as' 14 110])))
def Z1p : C := .loop Zly
/-- What is live at the loop's head: t1 cells, t2 now, t4 c, t7 e, t10 on, t11 out, t12 p, t13 x, t14 k -/
abbrev Zkr (t1 t2 t4 t7 t10 t11 t12 t13 t14 : SV) : List SV := [.Z, t1, t2, .Z, t4, .Z, .Z, t7, .Z, .Z, t10, t11, t12, t13, t14, .Z, .Z, .Z, .Z, .Z, .Z, .Z, .Z, .Z, .Z, .Z, .Z, .Z, .Z, .Z, .Z, .Z, .Z, .Z, .Z, .Z, .Z, .Z, .Z, .Z, .Z, .Z, .Z, .Z, .Z, .Z, .Z, .Z, .Z, .Z, .Z, .Z, .Z, .Z, .Z, .Z, .Z, .Z, .Z, .Z, .Z, .Z, .Z, .Z, .Z, .Z, .Z, .Z, .Z, .Z, .Z, .Z, .Z, .Z, .Z, .Z, .Z, .Z, .Z, .Z, .Z, .Z, .Z, .Z, .Z, .Z, .Z, .Z, .Z, .Z, .Z, .Z, .Z, .Z, .Z, .Z, .Z, .Z, .Z, .Z, .Z, .Z, .Z, .Z, .Z, .Z, .Z, .Z, .Z, .Z, .Z, .Z, .Z, .Z, .Z, .Z, .Z, .Z, .Z, .Z, .Z, .Z, .Z, .Z, .Z, .Z, .Z, .Z, .Z, .Z, .Z, .Z, .Z, .Z, .Z, .Z, .Z, .Z, .Z, .Z, .Z, .Z, .Z, .Z, .Z, .Z, .Z, .Z, .Z, .Z, .Z, .Z, .Z, .Z, .Z, .Z, .Z]
def Zqa : C :=
  (.seq (.seq (rg 4 0 [80, 81, 82] [mv 80 12, mv 81 1, le' 82 81 Zt, bi 83 .lss Zc (q 80) (q 82) Zc]) (.cond (q 83) .skip (.exit 0))) (.seq (.block 1 (.seq (rg 8 8 [83, 86, 87, 88, 89, 90, 91] [mv 86 1, mv 87 12, i' 88 (.indexAddr Zt (q 86) (q 87)), fa 89 Zq 88 1, ld 90 Zan 89, i' 91 (.build Zq #[(1, q 90)]), i' 13 (.alloc Zq), ⟨none, .store Zq (q 13) (q 91), none, none⟩]) (.seq (rg 10 0 [92, 93, 94, 95, 96, 97, 98, 99, 100] [mv 92 1, mv 93 12, i' 94 (.indexAddr Zt (q 92) (q 93)), fa 95 Zq 94 1, fa 96 Zan 95 2, ld 97 Zv 96, ca 98 Zmk #[q 97] #[Zv], fa 99 Zq 13 1, fa 100 Zan 99 2, ⟨none, .store Zv (q 100) (q 98), none, none⟩]) (.seq (.seq (rg 1 0 [] [i' 14 (.assign (ki 0))]) (.block 2 Z1p)) (rg 5 5 [13, 14, 108, 152, 153, 154, 155] [mv 152 11, ld 153 Zq 13, i' 154 (.buildSlice Zt 1 #[(0, q 153)]), i' 155 (.call { callee := .builtin .append, args := #[q 152, q 154], argTypes := #[Zt, Zt] }), as' 11 155]))))) (rg 3 0 [84, 85] [mv 84 12, bi 85 .add Zc (q 84) (ki 1) Zc, as' 12 85])))
def Znk : C := .loop Zqa
/-- What is live at the loop's head: t1 cells, t2 now, t4 c, t7 e, t10 on, t11 out, t12 p -/
abbrev Znj (t1 t2 t4 t7 t10 t11 t12 : SV) : List SV := [.Z, t1, t2, .Z, t4, .Z, .Z, t7, .Z, .Z, t10, t11, t12, .Z, .Z, .Z, .Z, .Z, .Z, .Z, .Z, .Z, .Z, .Z, .Z, .Z, .Z, .Z, .Z, .Z, .Z, .Z, .Z, .Z, .Z, .Z, .Z, .Z, .Z, .Z, .Z, .Z, .Z, .Z, .Z, .Z, .Z, .Z, .Z, .Z, .Z, .Z, .Z, .Z, .Z, .Z, .Z, .Z, .Z, .Z, .Z, .Z, .Z, .Z, .Z, .Z, .Z, .Z, .Z, .Z, .Z, .Z, .Z, .Z, .Z, .Z, .Z, .Z, .Z, .Z, .Z, .Z, .Z, .Z, .Z, .Z, .Z, .Z, .Z, .Z, .Z, .Z, .Z, .Z, .Z, .Z, .Z, .Z, .Z, .Z, .Z, .Z, .Z, .Z, .Z, .Z, .Z, .Z, .Z, .Z, .Z, .Z, .Z, .Z, .Z, .Z, .Z, .Z, .Z, .Z, .Z, .Z, .Z, .Z, .Z, .Z, .Z, .Z, .Z, .Z, .Z, .Z, .Z, .Z, .Z, .Z, .Z, .Z, .Z, .Z, .Z, .Z, .Z, .Z, .Z, .Z, .Z, .Z, .Z, .Z, .Z, .Z, .Z, .Z, .Z, .Z, .Z]
def Zh6 : C :=
  (.seq (rg 4 4 [0, 3, 8, 9] [i' 4 (.box Za (q 0)), i' 7 (.box Zu (q 3)), i' 8 (.assign (.const (.slice none 0 0))), i' 9 (.assign (ki 0))]) (.seq (.seq (rg 33 0 [16, 17, 18, 19, 20, 21, 22, 23, 24, 25, 26, 27, 28, 29, 30, 31, 32, 33, 34, 35, 36, 37, 38, 39, 40, 41, 42, 43, 44, 45, 46, 47] [ld 16 Za 4, ca 17 Zjo #[q 16, (ki 0)] #[Za, Zc], i' 18 (.unOp .not Zbm (q 17)), mv 19 18, gd 19 false (mv 20 2), gd 19 false (bi 21 .lss Zc (q 20) (ki 0) Zc), i' 22 (.pick (q 19) (kb true) (q 21)), mv 23 22, gd 23 false (mv 24 2), gd 23 false (bi 25 .gtr Zc (q 24) (ki 1000) Zc), i' 26 (.pick (q 23) (kb true) (q 25)), mv 27 26, gd 27 false (ld 28 Za 4), gd 27 false (mv 29 1), gd 27 false (ca 30 Ziq #[q 28, q 29] #[Za, Zt]), gd 27 false (i' 31 (.unOp .not Zbm (q 30))), i' 32 (.pick (q 27) (kb true) (q 31)), mv 33 32, gd 33 false (fa 34 Zu 7 0), gd 33 false (ld 35 Zc 34), gd 33 false (bi 36 .lss Zc (q 35) (ki 1) Zc), i' 37 (.pick (q 33) (kb true) (q 36)), mv 38 37, gd 38 false (fa 39 Zu 7 0), gd 38 false (ld 40 Zc 39), gd 38 false (bi 41 .gtr Zc (q 40) (ki 7) Zc), i' 42 (.pick (q 38) (kb true) (q 41)), mv 43 42, gd 43 false (ld 44 Za 4), gd 43 false (ld 45 Zu 7), gd 43 false (ca 46 Zni #[q 44, q 45] #[Za, Zu]), gd 43 false (i' 47 (.unOp .not Zbm (q 46))), i' 48 (.pick (q 43) (kb true) (q 47))]) (.cond (q 48) (.seq (rg 2 0 [1, 2, 4, 7, 48] [i' 8 (.assign (.const (.slice none 0 0))), i' 9 (.assign (ki 1))]) .ret) .skip)) (.seq (.seq (rg 18 0 [48, 49, 50, 51, 52, 53, 54, 55, 56, 57, 58, 59, 60, 61, 62, 63, 64, 65] [fa 49 Zu 7 0, ld 50 Zc 49, bi 51 .eql Zc (q 50) (ki 1) Zc, mv 52 51, gd 52 true (fa 53 Zu 7 3), gd 52 true (ld 54 Zc 53), gd 52 true (fa 55 Za 4 6), gd 52 true (ld 56 Zc 55), gd 52 true (i' 57 (.unOp .neg Zc (q 56))), gd 52 true (bi 58 .lss Zc (q 54) (q 57) Zc), gd 52 true (mv 59 58), gd 59 false (fa 60 Zu 7 3), gd 59 false (ld 61 Zc 60), gd 59 false (fa 62 Za 4 6), gd 59 false (ld 63 Zc 62), gd 59 false (bi 64 .gtr Zc (q 61) (q 63) Zc), gd 52 true (i' 65 (.pick (q 59) (kb true) (q 64))), i' 66 (.pick (q 52) (q 65) (kb false))]) (.cond (q 66) (.seq (rg 2 0 [1, 2, 4, 7, 66] [i' 8 (.assign (.const (.slice none 0 0))), i' 9 (.assign (ki 1))]) .ret) .skip)) (.seq (rg 14 0 [66, 67, 68, 69, 70, 71, 72, 73, 74, 75, 76, 77, 78, 79] [fa 67 Zu 7 0, ld 68 Zc 67, bi 69 .eql Zc (q 68) (ki 2) Zc, mv 70 69, gd 70 false (fa 71 Zu 7 0), gd 70 false (ld 72 Zc 71), gd 70 false (bi 73 .eql Zc (q 72) (ki 5) Zc), i' 74 (.pick (q 70) (kb true) (q 73)), mv 75 74, gd 75 false (fa 76 Zu 7 0), gd 75 false (ld 77 Zc 76), gd 75 false (bi 78 .eql Zc (q 77) (ki 7) Zc), i' 79 (.pick (q 75) (kb true) (q 78)), as' 10 79]) (.seq (rg 1 0 [] [i' 11 (.assign (.const (.slice none 0 0)))]) (.seq (.seq (rg 1 0 [] [i' 12 (.assign (ki 0))]) (.block 0 Znk)) (.seq (rg 3 0 [1, 2, 4, 7, 10, 11, 12, 83, 156] [mv 156 11, as' 8 156, i' 9 (.assign (ki 0))]) .ret)))))))
theorem Zakn : Tryz.f12.body.map (comp ES Ze2) = some Zh6 := by kernel_rfl
theorem Zo5 (t0 t1 t2 t3 : SV) (M : Mem) : ICw ES Ze2 [t0, t1, t2, t3] M = Zx ES [.tmp 8, .tmp 9] (evW ES Ze2 Zh6 ⟨[t0, t1, t2, t3, .Z, .Z, .Z, .Z, .Z, .Z, .Z, .Z, .Z, .Z, .Z, .Z, .Z, .Z, .Z, .Z, .Z, .Z, .Z, .Z, .Z, .Z, .Z, .Z, .Z, .Z, .Z, .Z, .Z, .Z, .Z, .Z, .Z, .Z, .Z, .Z, .Z, .Z, .Z, .Z, .Z, .Z, .Z, .Z, .Z, .Z, .Z, .Z, .Z, .Z, .Z, .Z, .Z, .Z, .Z, .Z, .Z, .Z, .Z, .Z, .Z, .Z, .Z, .Z, .Z, .Z, .Z, .Z, .Z, .Z, .Z, .Z, .Z, .Z, .Z, .Z, .Z, .Z, .Z, .Z, .Z, .Z, .Z, .Z, .Z, .Z, .Z, .Z, .Z, .Z, .Z, .Z, .Z, .Z, .Z, .Z, .Z, .Z, .Z, .Z, .Z, .Z, .Z, .Z, .Z, .Z, .Z, .Z, .Z, .Z, .Z, .Z, .Z, .Z, .Z, .Z, .Z, .Z, .Z, .Z, .Z, .Z, .Z, .Z, .Z, .Z, .Z, .Z, .Z, .Z, .Z, .Z, .Z, .Z, .Z, .Z, .Z, .Z, .Z, .Z, .Z, .Z, .Z, .Z, .Z, .Z, .Z, .Z, .Z, .Z, .Z, .Z, .Z], M⟩) :=
  Zab rfl Tryz.func12 Zakn (by kernel_rfl) (by kernel_rfl) (by kernel_rfl) M
@[simp] theorem Zak7 : CX ES Ze2 Zjo := cx rfl
@[simp] theorem Zagh : CX ES Ze2 Ziq := cx rfl
@[simp] theorem Zags : CX ES Ze2 Zni := cx rfl
@[simp] theorem Zakb : CX ES Ze2 Zmk := cx rfl
@[simp] theorem Zaft : CX ES Ze2 Zl2 := cx rfl
@[simp] theorem Zadz : CX ES Ze2 Zim := cx rfl

/-! drumline/drumlineref21.SameCells -/
def Zjp : C :=
  (.seq (.seq (rg 4 0 [11, 12, 13] [mv 11 5, mv 12 0, le' 13 12 Zt, bi 14 .lss Zc (q 11) (q 13) Zc]) (.cond (q 14) .skip (.exit 0))) (.seq (.block 1 (.seq (rg 10 0 [14, 17, 18, 19, 20, 21, 22, 23, 24, 25] [mv 17 0, mv 18 5, i' 19 (.indexAddr Zt (q 17) (q 18)), ld 20 Zq 19, mv 21 1, mv 22 5, i' 23 (.indexAddr Zt (q 21) (q 22)), ld 24 Zq 23, ca 25 Zfb #[q 20, q 24] #[Zq, Zq], i' 26 (.unOp .not Zbm (q 25))]) (.cond (q 26) (.seq (rg 1 0 [0, 1, 5, 26] [i' 4 (.assign (kb false))]) .ret) .skip))) (rg 3 0 [15, 16, 26] [mv 15 5, bi 16 .add Zc (q 15) (ki 1) Zc, as' 5 16])))
def Zqs : C := .loop Zjp
/-- What is live at the loop's head: t0 a, t1 b, t5 i -/
abbrev Zia (t0 t1 t5 : SV) : List SV := [t0, t1, .Z, .Z, .Z, t5, .Z, .Z, .Z, .Z, .Z, .Z, .Z, .Z, .Z, .Z, .Z, .Z, .Z, .Z, .Z, .Z, .Z, .Z, .Z, .Z, .Z]
def Zqh : C :=
  (.seq (rg 1 0 [4] [i' 4 (.assign (kb false))]) (.seq (.seq (rg 5 0 [6, 7, 8, 9] [mv 6 0, le' 7 6 Zt, mv 8 1, le' 9 8 Zt, bi 10 .neq Zc (q 7) (q 9) Zc]) (.cond (q 10) (.seq (rg 1 0 [0, 1, 10] [i' 4 (.assign (kb false))]) .ret) .skip)) (.seq (.seq (rg 1 0 [10] [i' 5 (.assign (ki 0))]) (.block 0 Zqs)) (.seq (rg 1 0 [0, 1, 5, 14] [i' 4 (.assign (kb true))]) .ret))))
theorem Zxo : Tryz.f13.body.map (comp ES Zdw) = some Zqh := by kernel_rfl
theorem Zze (t0 t1 : SV) (M : Mem) : ICw ES Zdw [t0, t1] M = Zx ES [.tmp 4] (evW ES Zdw Zqh ⟨[t0, t1, .Z, .Z, .Z, .Z, .Z, .Z, .Z, .Z, .Z, .Z, .Z, .Z, .Z, .Z, .Z, .Z, .Z, .Z, .Z, .Z, .Z, .Z, .Z, .Z, .Z], M⟩) :=
  Zab rfl Tryz.func13 Zxo (by kernel_rfl) (by kernel_rfl) (by kernel_rfl) M
@[simp] theorem Zyh : CX ES Zdw Zfb := cx rfl

/-! drumline/drumlinelaw24.num -/
def Zzm : C :=
  (.seq (rg 1 0 [] [i' 2 (.assign (ki 0))]) (.seq (rg 2 0 [] [mv 3 0, as' 2 3]) .ret))
theorem Zahz : Tryz.f14.body.map (comp ES Zon) = some Zzm := by kernel_rfl
theorem Zal1 (t0 : SV) (M : Mem) : ICw ES Zon [t0] M = Zx ES [.tmp 2] (evW ES Zon Zzm ⟨[t0, .Z, .Z, .Z], M⟩) :=
  Zab rfl Tryz.func14 Zahz (by kernel_rfl) (by kernel_rfl) (by kernel_rfl) M

/-! drumline/drumlinelaw24.cells -/
def Zjb : C :=
  (.seq (.seq (rg 5 0 [8, 9, 10, 11] [mv 8 6, fa 9 Za 2 0, ld 10 Zm 9, le' 11 10 Zm, bi 12 .lss Zc (q 8) (q 11) Zc]) (.cond (q 12) .skip (.exit 0))) (.seq (.block 1 (.seq (rg 3 3 [12, 15] [i' 15 (.build Zq #[]), i' 7 (.alloc Zq), ⟨none, .store Zq (q 7) (q 15), none, none⟩]) (.seq (.seq (rg 4 0 [16, 17, 18] [mv 16 6, mv 17 1, le' 18 17 Zt, bi 19 .lss Zc (q 16) (q 18) Zc]) (.cond (q 19) (rg 5 0 [19, 20, 21, 22, 23] [mv 20 1, mv 21 6, i' 22 (.indexAddr Zt (q 20) (q 21)), ld 23 Zq 22, ⟨none, .store Zq (q 7) (q 23), none, none⟩]) .skip)) (rg 8 8 [7, 19, 24, 25, 26, 27, 28, 29, 30] [mv 24 5, ld 25 Za 2, mv 26 6, ld 27 Zq 7, ca 28 Zie #[q 25, q 26, q 27, (kb false)] #[Za, Zc, Zq, Zbm], i' 29 (.buildSlice Zt 1 #[(0, q 28)]), i' 30 (.call { callee := .builtin .append, args := #[q 24, q 29], argTypes := #[Zt, Zt] }), as' 5 30])))) (rg 3 0 [13, 14] [mv 13 6, bi 14 .add Zc (q 13) (ki 1) Zc, as' 6 14])))
def Zt9 : C := .loop Zjb
/-- What is live at the loop's head: t1 l, t2 c, t5 out, t6 i -/
abbrev Zhd (t1 t2 t5 t6 : SV) : List SV := [.Z, t1, t2, .Z, .Z, t5, t6, .Z, .Z, .Z, .Z, .Z, .Z, .Z, .Z, .Z, .Z, .Z, .Z, .Z, .Z, .Z, .Z, .Z, .Z, .Z, .Z, .Z, .Z, .Z, .Z, .Z]
def Zuc : C :=
  (.seq (rg 2 2 [0, 4] [i' 2 (.box Za (q 0)), i' 4 (.assign (.const (.slice none 0 0)))]) (.seq (rg 1 0 [] [i' 5 (.assign (.const (.slice none 0 0)))]) (.seq (.seq (rg 1 0 [] [i' 6 (.assign (ki 0))]) (.block 0 Zt9)) (.seq (rg 2 0 [1, 2, 5, 6, 12, 31] [mv 31 5, as' 4 31]) .ret))))
theorem Z9u : Tryz.f15.body.map (comp ES Ze7) = some Zuc := by kernel_rfl
theorem Zac9 (t0 t1 : SV) (M : Mem) : ICw ES Ze7 [t0, t1] M = Zx ES [.tmp 4] (evW ES Ze7 Zuc ⟨[t0, t1, .Z, .Z, .Z, .Z, .Z, .Z, .Z, .Z, .Z, .Z, .Z, .Z, .Z, .Z, .Z, .Z, .Z, .Z, .Z, .Z, .Z, .Z, .Z, .Z, .Z, .Z, .Z, .Z, .Z, .Z], M⟩) :=
  Zab rfl Tryz.func15 Z9u (by kernel_rfl) (by kernel_rfl) (by kernel_rfl) M
@[simp] theorem Zacj : CI ES Ze7 Zie := ci rfl

/-! drumline/drumlineref17.SameNode -/
def Zq4 : C :=
  (.seq (rg 3 3 [] [i' 2 (.box Zh (q 0)), i' 3 (.box Zh (q 1)), i' 4 (.assign (kb false))]) (.seq (rg 55 0 [] [fa 5 Zh 2 0, ld 6 Zc 5, fa 7 Zh 3 0, ld 8 Zc 7, bi 9 .eql Zc (q 6) (q 8) Zc, mv 10 9, gd 10 true (fa 11 Zh 2 1), gd 10 true (ld 12 Zc 11), gd 10 true (fa 13 Zh 3 1), gd 10 true (ld 14 Zc 13), gd 10 true (bi 15 .eql Zc (q 12) (q 14) Zc), i' 16 (.pick (q 10) (q 15) (kb false)), mv 17 16, gd 17 true (fa 18 Zh 2 2), gd 17 true (ld 19 Zc 18), gd 17 true (fa 20 Zh 3 2), gd 17 true (ld 21 Zc 20), gd 17 true (bi 22 .eql Zc (q 19) (q 21) Zc), i' 23 (.pick (q 17) (q 22) (kb false)), mv 24 23, gd 24 true (fa 25 Zh 2 3), gd 24 true (ld 26 Zp 25), gd 24 true (fa 27 Zh 3 3), gd 24 true (ld 28 Zp 27), gd 24 true (bi 29 .eql Zp (q 26) (q 28) Zp), i' 30 (.pick (q 24) (q 29) (kb false)), mv 31 30, gd 31 true (fa 32 Zh 2 4), gd 31 true (ld 33 Zp 32), gd 31 true (fa 34 Zh 3 4), gd 31 true (ld 35 Zp 34), gd 31 true (bi 36 .eql Zp (q 33) (q 35) Zp), i' 37 (.pick (q 31) (q 36) (kb false)), mv 38 37, gd 38 true (fa 39 Zh 2 6), gd 38 true (ld 40 Zc 39), gd 38 true (fa 41 Zh 3 6), gd 38 true (ld 42 Zc 41), gd 38 true (bi 43 .eql Zc (q 40) (q 42) Zc), i' 44 (.pick (q 38) (q 43) (kb false)), mv 45 44, gd 45 true (fa 46 Zh 2 7), gd 45 true (ld 47 Zc 46), gd 45 true (fa 48 Zh 3 7), gd 45 true (ld 49 Zc 48), gd 45 true (bi 50 .eql Zc (q 47) (q 49) Zc), i' 51 (.pick (q 45) (q 50) (kb false)), mv 52 51, gd 52 true (fa 53 Zh 2 5), gd 52 true (ld 54 Zv 53), gd 52 true (fa 55 Zh 3 5), gd 52 true (ld 56 Zv 55), gd 52 true (ca 57 Zgc #[q 54, q 56] #[Zv, Zv]), i' 58 (.pick (q 52) (q 57) (kb false)), as' 4 58]) .ret))
theorem Z1j : Tryz.f16.body.map (comp ES Zdy) = some Zq4 := by kernel_rfl
theorem Z3a (t0 t1 : SV) (M : Mem) : ICw ES Zdy [t0, t1] M = Zx ES [.tmp 4] (evW ES Zdy Zq4 ⟨[t0, t1, .Z, .Z, .Z, .Z, .Z, .Z, .Z, .Z, .Z, .Z, .Z, .Z, .Z, .Z, .Z, .Z, .Z, .Z, .Z, .Z, .Z, .Z, .Z, .Z, .Z, .Z, .Z, .Z, .Z, .Z, .Z, .Z, .Z, .Z, .Z, .Z, .Z, .Z, .Z, .Z, .Z, .Z, .Z, .Z, .Z, .Z, .Z, .Z, .Z, .Z, .Z, .Z, .Z, .Z, .Z, .Z, .Z], M⟩) :=
  Zab rfl Tryz.func16 Z1j (by kernel_rfl) (by kernel_rfl) (by kernel_rfl) M
@[simp] theorem Z1t : CX ES Zdy Zgc := cx rfl

/-! drumline/power.On -/
def Ztl : C :=
  (.seq (rg 3 3 [] [i' 3 (.box Za (q 0)), i' 4 (.box Zh (q 1)), i' 6 (.alloc Zh)]) (.seq (rg 8 8 [] [ld 7 Zh 4, i' 8 (.buildSlice Zj 1 #[(0, q 7)]), i' 9 (.build Zq #[(0, q 8)]), ca 10 Zdm #[q 9] #[Zq], i' 11 (.field Zq (q 10) 0), i' 12 (.indexAddr Zj (q 11) (ki 0)), ld 13 Zh 12, ⟨none, .store Zh (q 4) (q 13), none, none⟩]) (.seq (.seq (rg 4 0 [] [ld 14 Za 3, mv 15 2, ca 16 Zg5 #[q 14, q 15] #[Za, Zc], i' 17 (.unOp .not Zbm (q 16))]) (.cond (q 17) (.seq (rg 2 0 [] [ld 18 Zh 4, ⟨none, .store Zh (q 6) (q 18), none, none⟩]) .ret) .skip)) (.seq (rg 5 0 [] [ld 19 Za 3, ld 20 Zh 4, mv 21 2, ca 22 Zmd #[q 19, q 20, q 21] #[Za, Zh, Zc], ⟨none, .store Zh (q 6) (q 22), none, none⟩]) .ret))))
theorem Zaet : Tryz.f17.body.map (comp ES Zig) = some Ztl := by kernel_rfl
theorem Z32 (t0 t1 t2 : SV) (M : Mem) : ICw ES Zig [t0, t1, t2] M = Zx ES [.cell 6 Zh] (evW ES Zig Ztl ⟨[t0, t1, t2, .Z, .Z, .Z, .Z, .Z, .Z, .Z, .Z, .Z, .Z, .Z, .Z, .Z, .Z, .Z, .Z, .Z, .Z, .Z, .Z], M⟩) :=
  Zab rfl Tryz.func17 Zaet (by kernel_rfl) (by kernel_rfl) (by kernel_rfl) M
@[simp] theorem Zaae : CX ES Zig Zdm := cx rfl
@[simp] theorem Zaa6 : CX ES Zig Zg5 := cx rfl
@[simp] theorem Zaeg : CX ES Zig Zmd := cx rfl

/-! drumline/drumlineref21.On -/
def Zsd : C :=
  (.seq (rg 3 3 [] [i' 3 (.box Za (q 0)), i' 4 (.box Zh (q 1)), i' 6 (.alloc Zh)]) (.seq (rg 5 0 [] [fa 9 Zh 4 5, ld 10 Zv 9, ca 11 Zmk #[q 10] #[Zv], fa 12 Zh 4 5, ⟨none, .store Zv (q 12) (q 11), none, none⟩]) (.seq (rg 7 0 [] [ld 14 Za 3, ca 15 Zkg #[q 14] #[Za], mv 13 15, xt 16 13 0, xt 17 13 1, as' 7 16, as' 8 17]) (.seq (.seq (rg 15 0 [] [fa 18 Zh 4 0, ld 19 Zc 18, bi 20 .neq Zc (q 19) (ki 0) Zc, mv 21 20, gd 21 false (mv 22 7), gd 21 false (bi 23 .neq Zc (q 22) (ki 0) Zc), i' 24 (.pick (q 21) (kb true) (q 23)), mv 25 24, gd 25 false (mv 26 2), gd 25 false (bi 27 .lss Zc (q 26) (ki 0) Zc), i' 28 (.pick (q 25) (kb true) (q 27)), mv 29 28, gd 29 false (mv 30 2), gd 29 false (bi 31 .gtr Zc (q 30) (ki 1000) Zc), i' 32 (.pick (q 29) (kb true) (q 31))]) (.cond (q 32) (.seq (rg 2 0 [] [ld 33 Zh 4, ⟨none, .store Zh (q 6) (q 33), none, none⟩]) .ret) .skip)) (.seq (rg 10 0 [] [fa 34 Zh 4 2, ld 35 Zc 34, fa 36 Zh 4 7, ld 37 Zc 36, mv 38 2, fa 39 Za 3 2, ld 40 Zc 39, bi 41 .mul Zp (q 38) (q 40) Zp, i' 42 (.build Zh #[(0, (ki 1)), (2, q 35), (7, q 37), (3, q 41)]), ⟨none, .store Zh (q 6) (q 42), none, none⟩]) .ret)))))
theorem Zak9 : Tryz.f18.body.map (comp ES Zjq) = some Zsd := by kernel_rfl
theorem Zu1 (t0 t1 t2 : SV) (M : Mem) : ICw ES Zjq [t0, t1, t2] M = Zx ES [.cell 6 Zh] (evW ES Zjq Zsd ⟨[t0, t1, t2, .Z, .Z, .Z, .Z, .Z, .Z, .Z, .Z, .Z, .Z, .Z, .Z, .Z, .Z, .Z, .Z, .Z, .Z, .Z, .Z, .Z, .Z, .Z, .Z, .Z, .Z, .Z, .Z, .Z, .Z, .Z, .Z, .Z, .Z, .Z, .Z, .Z, .Z, .Z, .Z], M⟩) :=
  Zab rfl Tryz.func18 Zak9 (by kernel_rfl) (by kernel_rfl) (by kernel_rfl) M
@[simp] theorem Zaj9 : CX ES Zjq Zmk := cx rfl
@[simp] theorem Zakj : CX ES Zjq Zkg := cx rfl

/-! drumline/power.Off -/
def Zum : C :=
  (.seq (rg 2 2 [] [i' 1 (.box Zh (q 0)), i' 2 (.alloc Zh)]) (.seq (rg 3 0 [] [ld 3 Zh 1, ca 4 Zj6 #[q 3] #[Zh], ⟨none, .store Zh (q 2) (q 4), none, none⟩]) .ret))
theorem Zaa4 : Tryz.f19.body.map (comp ES Zl1) = some Zum := by kernel_rfl
theorem Zaef (t0 : SV) (M : Mem) : ICw ES Zl1 [t0] M = Zx ES [.cell 2 Zh] (evW ES Zl1 Zum ⟨[t0, .Z, .Z, .Z, .Z], M⟩) :=
  Zab rfl Tryz.func19 Zaa4 (by kernel_rfl) (by kernel_rfl) (by kernel_rfl) M
@[simp] theorem Zaas : CX ES Zl1 Zj6 := cx rfl

/-! drumline/drumlineref21.Off -/
def Z05 : C :=
  (.seq (rg 2 2 [] [i' 1 (.box Zh (q 0)), i' 2 (.alloc Zh)]) (.seq (rg 6 0 [] [fa 3 Zh 1 2, ld 4 Zc 3, fa 5 Zh 1 7, ld 6 Zc 5, i' 7 (.build Zh #[(2, q 4), (7, q 6)]), ⟨none, .store Zh (q 2) (q 7), none, none⟩]) .ret))
theorem Zahl : Tryz.f20.body.map (comp ES Zob) = some Z05 := by kernel_rfl
theorem Zals (t0 : SV) (M : Mem) : ICw ES Zob [t0] M = Zx ES [.cell 2 Zh] (evW ES Zob Z05 ⟨[t0, .Z, .Z, .Z, .Z, .Z, .Z, .Z], M⟩) :=
  Zab rfl Tryz.func20 Zahl (by kernel_rfl) (by kernel_rfl) (by kernel_rfl) M

/-! drumline/drumlineref26.joined -/
def Zsy : C :=
  (.seq (rg 1 1 [] [i' 6 (.alloc Zw)]) (.seq (rg 5 5 [] [mv 10 1, mv 11 2, i' 12 (.build Zw #[(0, q 10), (1, q 11)]), i' 7 (.alloc Zw), ⟨none, .store Zw (q 7) (q 12), none, none⟩]) (.seq (rg 12 0 [] [mv 13 0, i' 14 (.nilCheck (q 13)), ld 15 Za 14, mv 16 1, ca 17 Zhq #[q 15, q 16] #[Za, Zc], mv 18 0, i' 19 (.nilCheck (q 18)), ld 20 Za 19, mv 21 2, ca 22 Zhq #[q 20, q 21] #[Za, Zc], as' 8 17, as' 9 22]) (.seq (rg 6 0 [] [mv 23 8, mv 24 8, bi 25 .add Zc (q 24) (ki 1) Zc, i' 26 (.build Zaq #[(0, q 23), (1, q 25)]), fa 27 Zw 7 2, ⟨none, .store Zaq (q 27) (q 26), none, none⟩]) (.seq (rg 6 0 [] [mv 28 9, mv 29 9, bi 30 .add Zc (q 29) (ki 1) Zc, i' 31 (.build Zaq #[(0, q 28), (1, q 30)]), fa 32 Zw 7 3, ⟨none, .store Zaq (q 32) (q 31), none, none⟩]) (.seq (rg 19 0 [] [mv 33 0, i' 34 (.nilCheck (q 33)), fa 35 Za 34 0, ld 36 Zm 35, mv 37 1, mv 38 0, i' 39 (.nilCheck (q 38)), fa 40 Za 39 0, ld 41 Zm 40, mv 42 1, i' 43 (.indexAddr Zm (q 41) (q 42)), fa 44 Zaz 43 0, ld 45 Zc 44, mv 46 8, bi 47 .add Zc (q 46) (ki 6) Zc, i' 48 (.call { callee := .builtin .max, args := #[q 45, q 47], argTypes := #[Zc, Zc] }), i' 49 (.indexAddr Zm (q 36) (q 37)), fa 50 Zaz 49 0, ⟨none, .store Zc (q 50) (q 48), none, none⟩]) (.seq (rg 19 0 [] [mv 51 0, i' 52 (.nilCheck (q 51)), fa 53 Za 52 0, ld 54 Zm 53, mv 55 2, mv 56 0, i' 57 (.nilCheck (q 56)), fa 58 Za 57 0, ld 59 Zm 58, mv 60 2, i' 61 (.indexAddr Zm (q 59) (q 60)), fa 62 Zaz 61 0, ld 63 Zc 62, mv 64 9, bi 65 .add Zc (q 64) (ki 6) Zc, i' 66 (.call { callee := .builtin .max, args := #[q 63, q 65], argTypes := #[Zc, Zc] }), i' 67 (.indexAddr Zm (q 54) (q 55)), fa 68 Zaz 67 0, ⟨none, .store Zc (q 68) (q 66), none, none⟩]) (.seq (rg 2 0 [] [ld 69 Zw 7, ⟨none, .store Zw (q 6) (q 69), none, none⟩]) .ret))))))))
theorem Z65 : Tryz.f21.body.map (comp ES Zfs) = some Zsy := by kernel_rfl
theorem Z8s (t0 t1 t2 : SV) (M : Mem) : ICw ES Zfs [t0, t1, t2] M = Zx ES [.cell 6 Zw] (evW ES Zfs Zsy ⟨[t0, t1, t2, .Z, .Z, .Z, .Z, .Z, .Z, .Z, .Z, .Z, .Z, .Z, .Z, .Z, .Z, .Z, .Z, .Z, .Z, .Z, .Z, .Z, .Z, .Z, .Z, .Z, .Z, .Z, .Z, .Z, .Z, .Z, .Z, .Z, .Z, .Z, .Z, .Z, .Z, .Z, .Z, .Z, .Z, .Z, .Z, .Z, .Z, .Z, .Z, .Z, .Z, .Z, .Z, .Z, .Z, .Z, .Z, .Z, .Z, .Z, .Z, .Z, .Z, .Z, .Z, .Z, .Z, .Z], M⟩) :=
  Zab rfl Tryz.func21 Z65 (by kernel_rfl) (by kernel_rfl) (by kernel_rfl) M
@[simp] theorem Z8j : CX ES Zfs Zhq := cx rfl

/-! drumline/drumlineref5.Edge -/
def Zvr : C :=
  (.seq (rg 2 2 [] [i' 1 (.box Za (q 0)), i' 2 (.assign (ki 0))]) (.seq (.seq (rg 3 0 [] [ld 3 Za 1, ca 4 Zhz #[q 3] #[Za], i' 5 (.unOp .not Zbm (q 4))]) (.cond (q 5) (.seq (rg 1 0 [] [i' 2 (.assign (ki 0))]) .ret) .skip)) (.seq (rg 3 0 [] [ld 6 Za 1, ca 7 Zib #[q 6] #[Za], as' 2 7]) .ret)))
theorem Zain : Tryz.f22.body.map (comp ES Zm8) = some Zvr := by kernel_rfl
theorem Zalw (t0 : SV) (M : Mem) : ICw ES Zm8 [t0] M = Zx ES [.tmp 2] (evW ES Zm8 Zvr ⟨[t0, .Z, .Z, .Z, .Z, .Z, .Z, .Z], M⟩) :=
  Zab rfl Tryz.func22 Zain (by kernel_rfl) (by kernel_rfl) (by kernel_rfl) M
@[simp] theorem Zadu : CX ES Zm8 Zhz := cx rfl
@[simp] theorem Zajj : CX ES Zm8 Zib := cx rfl

/-! drumline/power.may -/
def Zlf : C :=
  (.seq (rg 1 0 [] [bi 38 .lss Zc (q 37) (q 36) Zc]) (.seq (.cond (q 38) .skip (.exit 0)) (.seq (.block 1 (.seq (rg 6 6 [38, 39, 40, 41] [mv 39 37, i' 40 (.indexAddr Zt (q 35) (q 37)), ld 41 Zq 40, i' 10 (.alloc Zq), as' 9 39, ⟨none, .store Zq (q 10) (q 41), none, none⟩]) (.seq (rg 9 9 [9, 42, 43, 44, 45, 46, 47] [ld 43 Za 4, mv 44 9, ca 45 Zif #[q 43, q 44] #[Za, Zc], mv 42 45, xt 46 42 0, xt 47 42 1, i' 11 (.alloc Za5), ⟨none, .store Za5 (q 11) (q 46), none, none⟩, as' 12 47]) (.seq (rg 8 0 [10, 11, 12, 48, 49, 50, 51, 52, 53, 54] [mv 48 12, i' 49 (.unOp .not Zbm (q 48)), mv 50 49, gd 50 false (ld 51 Za5 11), gd 50 false (ld 52 Zq 10), gd 50 false (ca 53 Zgw #[q 51, q 52] #[Za5, Zq]), gd 50 false (i' 54 (.unOp .not Zbm (q 53))), i' 55 (.pick (q 50) (kb true) (q 54))]) (.cond (q 55) (.seq (rg 1 0 [4, 7, 35, 36, 37, 55] [i' 8 (.assign (kb false))]) .ret) .skip))))) (rg 2 0 [55, 56] [bi 56 .add Zc (q 37) (ki 1) Zc, mv 37 56]))))
def Zn2 : C := .loop Zlf
/-- What is live at the loop's head: t4 c, t7 e, t35, t36, t37 -/
abbrev Zhl (t4 t7 t35 t36 t37 : SV) : List SV := [.Z, .Z, .Z, .Z, t4, .Z, .Z, t7, .Z, .Z, .Z, .Z, .Z, .Z, .Z, .Z, .Z, .Z, .Z, .Z, .Z, .Z, .Z, .Z, .Z, .Z, .Z, .Z, .Z, .Z, .Z, .Z, .Z, .Z, .Z, t35, t36, t37, .Z, .Z, .Z, .Z, .Z, .Z, .Z, .Z, .Z, .Z, .Z, .Z, .Z, .Z, .Z, .Z, .Z, .Z, .Z, .Z, .Z, .Z, .Z, .Z, .Z, .Z, .Z, .Z, .Z, .Z, .Z, .Z, .Z, .Z, .Z, .Z, .Z]
def Zir : C :=
  (.seq (rg 3 3 [0, 3, 8] [i' 4 (.box Za (q 0)), i' 7 (.box Zu (q 3)), i' 8 (.assign (kb false))]) (.seq (.seq (rg 22 0 [2, 13, 14, 15, 16, 17, 18, 19, 20, 21, 22, 23, 24, 25, 26, 27, 28, 29, 30, 31, 32, 33] [ld 13 Za 4, mv 14 2, ca 15 Zg5 #[q 13, q 14] #[Za, Zc], i' 16 (.unOp .not Zbm (q 15)), mv 17 16, gd 17 false (mv 18 1), gd 17 false (le' 19 18 Zt), gd 17 false (fa 20 Za 4 0), gd 17 false (ld 21 Zm 20), gd 17 false (le' 22 21 Zm), gd 17 false (bi 23 .neq Zc (q 19) (q 22) Zc), i' 24 (.pick (q 17) (kb true) (q 23)), mv 25 24, gd 25 false (fa 26 Zu 7 0), gd 25 false (ld 27 Zc 26), gd 25 false (bi 28 .lss Zc (q 27) (ki 1) Zc), i' 29 (.pick (q 25) (kb true) (q 28)), mv 30 29, gd 30 false (fa 31 Zu 7 0), gd 30 false (ld 32 Zc 31), gd 30 false (bi 33 .gtr Zc (q 32) (ki 7) Zc), i' 34 (.pick (q 30) (kb true) (q 33))]) (.cond (q 34) (.seq (rg 1 0 [1, 4, 7, 34] [i' 8 (.assign (kb false))]) .ret) .skip)) (.seq (.seq (rg 3 0 [1, 34] [mv 35 1, le' 36 35 Zt, i' 37 (.move (ki 0))]) (.block 0 Zn2)) (.seq (rg 19 0 [4, 7, 35, 36, 37, 38, 57, 58, 59, 60, 61, 62, 63, 64, 65, 66, 67, 68, 69, 70, 71, 72, 73, 74] [fa 57 Zu 7 0, ld 58 Zc 57, bi 59 .neq Zc (q 58) (ki 1) Zc, mv 60 59, gd 60 false (fa 61 Zu 7 3), gd 60 false (ld 62 Zc 61), gd 60 false (fa 63 Za 4 6), gd 60 false (ld 64 Zc 63), gd 60 false (i' 65 (.unOp .neg Zc (q 64))), gd 60 false (bi 66 .geq Zc (q 62) (q 65) Zc), gd 60 false (mv 67 66), gd 67 true (fa 68 Zu 7 3), gd 67 true (ld 69 Zc 68), gd 67 true (fa 70 Za 4 6), gd 67 true (ld 71 Zc 70), gd 67 true (bi 72 .leq Zc (q 69) (q 71) Zc), gd 60 false (i' 73 (.pick (q 67) (q 72) (kb false))), i' 74 (.pick (q 60) (kb true) (q 73)), as' 8 74]) .ret))))
theorem Zaah : Tryz.f23.body.map (comp ES Zhv) = some Zir := by kernel_rfl
theorem Zaeb (t0 t1 t2 t3 : SV) (M : Mem) : ICw ES Zhv [t0, t1, t2, t3] M = Zx ES [.tmp 8] (evW ES Zhv Zir ⟨[t0, t1, t2, t3, .Z, .Z, .Z, .Z, .Z, .Z, .Z, .Z, .Z, .Z, .Z, .Z, .Z, .Z, .Z, .Z, .Z, .Z, .Z, .Z, .Z, .Z, .Z, .Z, .Z, .Z, .Z, .Z, .Z, .Z, .Z, .Z, .Z, .Z, .Z, .Z, .Z, .Z, .Z, .Z, .Z, .Z, .Z, .Z, .Z, .Z, .Z, .Z, .Z, .Z, .Z, .Z, .Z, .Z, .Z, .Z, .Z, .Z, .Z, .Z, .Z, .Z, .Z, .Z, .Z, .Z, .Z, .Z, .Z, .Z, .Z], M⟩) :=
  Zab rfl Tryz.func23 Zaah (by kernel_rfl) (by kernel_rfl) (by kernel_rfl) M
@[simp] theorem Z8c : CX ES Zhv Zg5 := cx rfl
@[simp] theorem Zacg : CX ES Zhv Zif := cx rfl
@[simp] theorem Zabs : CX ES Zhv Zgw := cx rfl

/-! drumline/power.places -/
def Zic : C :=
  (.seq (rg 1 0 [] [bi 68 .lss Zc (q 67) (q 66) Zc]) (.seq (.cond (q 68) .skip (.exit 1)) (.seq (.block 2 (.seq (rg 2 0 [68, 69] [mv 69 67, as' 8 69]) (rg 8 8 [8, 70, 71, 72, 73, 74, 75, 76] [mv 70 7, fa 71 Zu 3 1, ld 72 Zc 71, mv 73 8, i' 74 (.build Zc7 #[(0, q 72), (1, q 73)]), i' 75 (.buildSlice Zbv 1 #[(0, q 74)]), i' 76 (.call { callee := .builtin .append, args := #[q 70, q 75], argTypes := #[Zbv, Zbv] }), as' 7 76]))) (rg 2 0 [77] [bi 77 .add Zc (q 67) (ki 1) Zc, mv 67 77]))))
def Znz : C := .loop Zic
/-- What is live at the loop's head: t3 e, t7 out, t66, t67 -/
abbrev Zf4 (t3 t7 t66 t67 : SV) : List SV := [.Z, .Z, .Z, t3, .Z, .Z, .Z, t7, .Z, .Z, .Z, .Z, .Z, .Z, .Z, .Z, .Z, .Z, .Z, .Z, .Z, .Z, .Z, .Z, .Z, .Z, .Z, .Z, .Z, .Z, .Z, .Z, .Z, .Z, .Z, .Z, .Z, .Z, .Z, .Z, .Z, .Z, .Z, .Z, .Z, .Z, .Z, .Z, .Z, .Z, .Z, .Z, .Z, .Z, .Z, .Z, .Z, .Z, .Z, .Z, .Z, .Z, .Z, .Z, .Z, .Z, t66, t67, .Z, .Z, .Z, .Z, .Z, .Z, .Z, .Z, .Z, .Z, .Z, .Z, .Z, .Z, .Z, .Z, .Z, .Z, .Z, .Z, .Z, .Z, .Z, .Z, .Z, .Z, .Z, .Z, .Z, .Z, .Z, .Z, .Z, .Z, .Z]
def Zei : C :=
  (.seq (rg 4 4 [0, 1, 4, 5] [i' 2 (.box Za (q 0)), i' 3 (.box Zu (q 1)), i' 4 (.assign (.const (.slice none 0 0))), i' 5 (.assign (kb false))]) (.seq (.seq (rg 2 0 [9] [fa 9 Zu 3 0, ld 10 Zc 9]) (.block 0 (.seq (.seq (rg 2 0 [12] [bi 12 .eql Zc (q 10) (ki 6) Zc, as' 11 12]) (.cond (q 11) .skip (rg 2 0 [13] [bi 13 .eql Zc (q 10) (ki 7) Zc, as' 11 13]))) (.cond (q 11) (.seq (.seq (rg 13 0 [10, 11, 14, 15, 16, 17, 18, 19, 20, 21, 22, 23, 24, 25] [fa 14 Zu 3 1, ld 15 Zc 14, fa 16 Za 2 1, ld 17 Zr 16, le' 18 17 Zr, ca 19 Zfc #[q 15, q 18] #[Zc, Zc], i' 20 (.unOp .not Zbm (q 19)), mv 21 20, gd 21 false (fa 22 Zu 3 2), gd 21 false (ld 23 Zc 22), gd 21 false (ca 24 Zfc #[q 23, (ki 2)] #[Zc, Zc]), gd 21 false (i' 25 (.unOp .not Zbm (q 24))), i' 26 (.pick (q 21) (kb true) (q 25))]) (.cond (q 26) (.seq (rg 2 0 [2, 3, 26] [i' 4 (.assign (.const (.slice none 0 0))), i' 5 (.assign (kb false))]) .ret) .skip)) (.seq (rg 8 8 [2, 26, 27, 28, 29, 30, 31, 32] [fa 27 Za 2 1, ld 28 Zr 27, fa 29 Zu 3 1, ld 30 Zc 29, i' 31 (.indexAddr Zr (q 28) (q 30)), ld 32 Zw 31, i' 6 (.alloc Zw), ⟨none, .store Zw (q 6) (q 32), none, none⟩]) (.seq (rg 19 19 [3, 6, 33, 34, 35, 36, 37, 38, 39, 40, 41, 42, 43, 44, 45, 46, 47, 48, 49] [li [] (fa 33 Zw 6 0), li [0] (ld 34 Zc 33), li [] (fa 35 Zu 3 2), li [2] (ld 36 Zc 35), li [] (fa 37 Zw 6 2), li [2, 3, 4] (i' 38 (.indexAddr Zaq (q 37) (q 36))), li [2, 3, 4, 5] (ld 39 Zc 38), li [0, 1, 2, 3, 4, 5, 6] (i' 40 (.build Zc7 #[(0, q 34), (1, q 39)])), li [] (fa 41 Zw 6 1), li [8] (ld 42 Zc 41), li [] (fa 43 Zu 3 2), li [10] (ld 44 Zc 43), li [] (fa 45 Zw 6 3), li [10, 11, 12] (i' 46 (.indexAddr Zaq (q 45) (q 44))), li [10, 11, 12, 13] (ld 47 Zc 46), li [8, 9, 10, 11, 12, 13, 14] (i' 48 (.build Zc7 #[(0, q 42), (1, q 47)])), li [0, 1, 2, 3, 4, 5, 6, 7, 8, 9, 10, 11, 12, 13, 14, 15] (i' 49 (.buildSlice Zbv 2 #[(0, q 40), (1, q 48)])), li [0, 1, 2, 3, 4, 5, 6, 7, 8, 9, 10, 11, 12, 13, 14, 15, 16] (as' 4 49), li [0, 1, 2, 3, 4, 5, 6, 7, 8, 9, 10, 11, 12, 13, 14, 15, 16, 17] (i' 5 (.assign (kb true)))]) .ret))) (.seq (.seq (rg 2 0 [11, 51] [bi 51 .eql Zc (q 10) (ki 4) Zc, as' 50 51]) (.cond (q 50) .skip (rg 2 0 [10, 52] [bi 52 .eql Zc (q 10) (ki 5) Zc, as' 50 52]))) (.cond (q 50) (.seq (.seq (rg 7 0 [10, 50, 53, 54, 55, 56, 57, 58] [fa 53 Zu 3 1, ld 54 Zc 53, fa 55 Za 2 0, ld 56 Zm 55, le' 57 56 Zm, ca 58 Zfc #[q 54, q 57] #[Zc, Zc], i' 59 (.unOp .not Zbm (q 58))]) (.cond (q 59) (.seq (rg 2 0 [2, 3, 59] [i' 4 (.assign (.const (.slice none 0 0))), i' 5 (.assign (kb false))]) .ret) .skip)) (.seq (rg 1 0 [59] [i' 7 (.assign (.const (.slice none 0 0)))]) (.seq (.seq (rg 8 0 [2, 60, 61, 62, 63, 64, 65] [fa 60 Za 2 0, ld 61 Zm 60, fa 62 Zu 3 1, ld 63 Zc 62, i' 64 (.indexAddr Zm (q 61) (q 63)), fa 65 Zaz 64 0, ld 66 Zc 65, i' 67 (.move (ki 0))]) (.block 1 Znz)) (.seq (rg 3 0 [3, 7, 66, 67, 68, 78] [mv 78 7, as' 4 78, i' 5 (.assign (kb true))]) .ret)))) .skip)))))) (.seq (rg 26 26 [2, 3, 10, 50, 79, 80, 81, 82, 83, 84, 85, 86, 87, 88, 89, 90, 91, 92, 93, 94, 95, 96, 97, 98, 99, 100, 101, 102] [li [] (fa 79 Zu 3 1), li [0] (ld 80 Zc 79), li [] (fa 81 Zu 3 2), li [2] (ld 82 Zc 81), li [0, 1, 2, 3] (i' 83 (.build Zc7 #[(0, q 80), (1, q 82)])), li [0, 1, 2, 3, 4] (i' 84 (.buildSlice Zbv 1 #[(0, q 83)])), li [] (fa 85 Zu 3 1), li [6] (ld 86 Zc 85), li [] (fa 87 Za 2 0), li [8] (ld 88 Zm 87), li [8, 9] (le' 89 88 Zm), li [6, 7, 8, 9, 10] (ca 90 Zfc #[q 86, q 89] #[Zc, Zc]), li [6, 7, 8, 9, 10, 11] (mv 91 90), li [6, 7, 8, 9, 10, 11, 12] (gd 91 true (fa 92 Zu 3 2)), li [6, 7, 8, 9, 10, 11, 12, 13] (gd 91 true (ld 93 Zc 92)), li [6, 7, 8, 9, 10, 11, 12] (gd 91 true (fa 94 Za 2 0)), li [6, 7, 8, 9, 10, 11, 12, 15] (gd 91 true (ld 95 Zm 94)), li [6, 7, 8, 9, 10, 11, 12] (gd 91 true (fa 96 Zu 3 1)), li [6, 7, 8, 9, 10, 11, 12, 17] (gd 91 true (ld 97 Zc 96)), li [6, 7, 8, 9, 10, 11, 12, 15, 16, 17, 18] (gd 91 true (i' 98 (.indexAddr Zm (q 95) (q 97)))), li [6, 7, 8, 9, 10, 11, 12, 15, 16, 17, 18, 19] (gd 91 true (fa 99 Zaz 98 0)), li [6, 7, 8, 9, 10, 11, 12, 15, 16, 17, 18, 19, 20] (gd 91 true (ld 100 Zc 99)), li [6, 7, 8, 9, 10, 11, 12, 13, 14, 15, 16, 17, 18, 19, 20, 21] (gd 91 true (ca 101 Zfc #[q 93, q 100] #[Zc, Zc])), li [6, 7, 8, 9, 10, 11, 12, 13, 14, 15, 16, 17, 18, 19, 20, 21, 22] (i' 102 (.pick (q 91) (q 101) (kb false))), li [0, 1, 2, 3, 4, 5, 6, 7, 8, 9, 10, 11, 12, 13, 14, 15, 16, 17, 18, 19, 20, 21, 22] (as' 4 84), li [0, 1, 2, 3, 4, 5, 6, 7, 8, 9, 10, 11, 12, 13, 14, 15, 16, 17, 18, 19, 20, 21, 22, 23, 24] (as' 5 102)]) .ret)))
theorem Zzu : Tryz.f24.body.map (comp ES Zb0) = some Zei := by kernel_rfl
theorem Zh3 (t0 t1 : SV) (M : Mem) : ICw ES Zb0 [t0, t1] M = Zx ES [.tmp 4, .tmp 5] (evW ES Zb0 Zei ⟨[t0, t1, .Z, .Z, .Z, .Z, .Z, .Z, .Z, .Z, .Z, .Z, .Z, .Z, .Z, .Z, .Z, .Z, .Z, .Z, .Z, .Z, .Z, .Z, .Z, .Z, .Z, .Z, .Z, .Z, .Z, .Z, .Z, .Z, .Z, .Z, .Z, .Z, .Z, .Z, .Z, .Z, .Z, .Z, .Z, .Z, .Z, .Z, .Z, .Z, .Z, .Z, .Z, .Z, .Z, .Z, .Z, .Z, .Z, .Z, .Z, .Z, .Z, .Z, .Z, .Z, .Z, .Z, .Z, .Z, .Z, .Z, .Z, .Z, .Z, .Z, .Z, .Z, .Z, .Z, .Z, .Z, .Z, .Z, .Z, .Z, .Z, .Z, .Z, .Z, .Z, .Z, .Z, .Z, .Z, .Z, .Z, .Z, .Z, .Z, .Z, .Z, .Z], M⟩) :=
  Zab rfl Tryz.func24 Zzu (by kernel_rfl) (by kernel_rfl) (by kernel_rfl) M
@[simp] theorem Z1y : CX ES Zb0 Zfc := cx rfl

/-! drumline/cell.Clone -/
def Zjz : C :=
  (.seq (rg 1 0 [] [bi 18 .lss Zc (q 17) (q 16) Zc]) (.seq (.cond (q 18) .skip (.exit 0)) (.seq (.block 1 (.seq (rg 2 0 [18, 19] [mv 19 17, as' 3 19]) (rg 13 0 [3, 20, 21, 22, 23, 24, 25, 26, 27, 28, 29, 30, 31] [fa 20 Zq 1 0, ld 21 Zj 20, mv 22 3, fa 23 Zq 1 0, ld 24 Zj 23, mv 25 3, i' 26 (.indexAddr Zj (q 24) (q 25)), fa 27 Zh 26 5, ld 28 Zv 27, ca 29 Zbt #[q 28] #[Zv], i' 30 (.indexAddr Zj (q 21) (q 22)), fa 31 Zh 30 5, ⟨none, .store Zv (q 31) (q 29), none, none⟩]))) (rg 2 0 [32] [bi 32 .add Zc (q 17) (ki 1) Zc, mv 17 32]))))
def Zs5 : C := .loop Zjz
/-- What is live at the loop's head: t1 x, t2, t16, t17 -/
abbrev Zhp (t1 t2 t16 t17 : SV) : List SV := [.Z, t1, t2, .Z, .Z, .Z, .Z, .Z, .Z, .Z, .Z, .Z, .Z, .Z, .Z, .Z, t16, t17, .Z, .Z, .Z, .Z, .Z, .Z, .Z, .Z, .Z, .Z, .Z, .Z, .Z, .Z, .Z, .Z]
def Ztg : C :=
  (.seq (rg 2 2 [0] [i' 1 (.box Zq (q 0)), i' 2 (.alloc Zq)]) (.seq (.seq (.chf ⟨12, 12, [], [li [] (fa 4 Zq 1 0), li [0] (ld 5 Zj 4), li [0, 1] (ca 6 Za7 #[q 5] #[Zj]), li [] (fa 7 Zq 1 1), li [3] (fa 8 Zan 7 2), li [3, 4] (ld 9 Zv 8), li [0, 1, 2, 3, 4, 5] (ca 10 Zbt #[q 9] #[Zv]), li [0, 1, 2, 3, 4, 5] (fa 11 Zq 1 0), ⟨none, .store Zj (q 11) (q 6), none, some [0, 1, 2, 3, 4, 5, 6, 7]⟩, li [0, 1, 2, 3, 4, 5, 6, 7, 8] (fa 12 Zq 1 1), li [0, 1, 2, 3, 4, 5, 6, 7, 8, 9] (fa 13 Zan 12 2), ⟨none, .store Zv (q 13) (q 10), none, some [0, 1, 2, 3, 4, 5, 6, 7, 8, 9, 10]⟩]⟩ [.ll Zv 8 9]) (rg 12 12 [4, 5, 6, 7, 8, 9, 10, 11, 12, 13] [li [] (fa 4 Zq 1 0), li [0] (ld 5 Zj 4), li [0, 1] (ca 6 Za7 #[q 5] #[Zj]), li [] (fa 7 Zq 1 1), li [3] (fa 8 Zan 7 2), li [3, 4] (ld 9 Zv 8), li [0, 1, 2, 3, 4, 5] (ca 10 Zbt #[q 9] #[Zv]), li [0, 1, 2, 3, 4, 5] (fa 11 Zq 1 0), ⟨none, .store Zj (q 11) (q 6), none, some [0, 1, 2, 3, 4, 5, 6, 7]⟩, li [0, 1, 2, 3, 4, 5, 6, 7, 8] (fa 12 Zq 1 1), li [0, 1, 2, 3, 4, 5, 6, 7, 8, 9] (fa 13 Zan 12 2), ⟨none, .store Zv (q 13) (q 10), none, some [0, 1, 2, 3, 4, 5, 6, 7, 8, 9, 10]⟩])) (.seq (.seq (rg 4 0 [14, 15] [fa 14 Zq 1 0, ld 15 Zj 14, le' 16 15 Zj, i' 17 (.move (ki 0))]) (.block 0 Zs5)) (.seq (rg 2 0 [1, 16, 17, 18, 33] [ld 33 Zq 1, ⟨none, .store Zq (q 2) (q 33), none, none⟩]) .ret))))
theorem Z5f : Tryz.f25.body.map (comp ES Zdm) = some Ztg := by kernel_rfl
theorem Zaav (t0 : SV) (M : Mem) : ICw ES Zdm [t0] M = Zx ES [.cell 2 Zq] (evW ES Zdm Ztg ⟨[t0, .Z, .Z, .Z, .Z, .Z, .Z, .Z, .Z, .Z, .Z, .Z, .Z, .Z, .Z, .Z, .Z, .Z, .Z, .Z, .Z, .Z, .Z, .Z, .Z, .Z, .Z, .Z, .Z, .Z, .Z, .Z, .Z, .Z], M⟩) :=
  Zab rfl Tryz.func25 Z5f (by kernel_rfl) (by kernel_rfl) (by kernel_rfl) M
@[simp] theorem Zra : CI ES Zdm Za7 := ci rfl
@[simp] theorem Zt8 : CX ES Zdm Zbt := cx rfl

/-! drumline/power.become -/
def Zhr : C :=
  (.seq (rg 4 4 [] [i' 4 (.box Za (q 0)), i' 5 (.box Zh (q 1)), i' 7 (.box Zu (q 3)), i' 8 (.alloc Zh)]) (.seq (.seq (rg 2 0 [] [fa 9 Zu 7 0, ld 10 Zc 9]) (.block 0 (.seq (.block 4 (.seq (.block 3 (.block 2 (.block 1 (.seq (.seq (.seq (rg 2 0 [] [bi 12 .eql Zc (q 10) (ki 6) Zc, as' 11 12]) (.cond (q 11) (.exit 1) .skip)) (.seq (.seq (rg 2 0 [] [bi 14 .eql Zc (q 10) (ki 4) Zc, as' 13 14]) (.cond (q 13) (.exit 2) .skip)) (.seq (.seq (rg 2 0 [] [bi 16 .eql Zc (q 10) (ki 3) Zc, as' 15 16]) (.cond (q 15) (.exit 3) .skip)) (.seq (rg 2 0 [] [bi 18 .eql Zc (q 10) (ki 1) Zc, as' 17 18]) (.cond (q 17) (.exit 4) .skip))))) (.exit 0))))) (.seq (.seq (rg 3 0 [] [ld 19 Zh 5, ca 20 Zj6 #[q 19] #[Zh], ⟨none, .store Zh (q 8) (q 20), none, none⟩]) .ret) (.exit 0)))) (.seq (.seq (rg 4 0 [] [fa 21 Zu 7 3, ld 22 Zc 21, fa 23 Zh 5 2, ⟨none, .store Zc (q 23) (q 22), none, none⟩]) (.seq (rg 2 0 [] [ld 24 Zh 5, ⟨none, .store Zh (q 8) (q 24), none, none⟩]) .ret)) (.exit 0))))) (.seq (rg 5 0 [] [ld 25 Za 4, ld 26 Zh 5, mv 27 2, ca 28 Zmd #[q 25, q 26, q 27] #[Za, Zh, Zc], ⟨none, .store Zh (q 8) (q 28), none, none⟩]) .ret)))
theorem Zz6 : Tryz.f26.body.map (comp ES Zej) = some Zhr := by kernel_rfl
theorem Zq5 (t0 t1 t2 t3 : SV) (M : Mem) : ICw ES Zej [t0, t1, t2, t3] M = Zx ES [.cell 8 Zh] (evW ES Zej Zhr ⟨[t0, t1, t2, t3, .Z, .Z, .Z, .Z, .Z, .Z, .Z, .Z, .Z, .Z, .Z, .Z, .Z, .Z, .Z, .Z, .Z, .Z, .Z, .Z, .Z, .Z, .Z, .Z, .Z], M⟩) :=
  Zab rfl Tryz.func26 Zz6 (by kernel_rfl) (by kernel_rfl) (by kernel_rfl) M
@[simp] theorem Z6y : CX ES Zej Zmd := cx rfl
@[simp] theorem Z4x : CX ES Zej Zj6 := cx rfl

/-! drumline/drumlineref5.Fit -/
def Zyw : C :=
  (.seq (rg 2 2 [] [i' 2 (.box Za (q 0)), i' 4 (.assign (kb false))]) (.seq (rg 7 0 [] [ld 8 Za 2, ca 9 Zkg #[q 8] #[Za], mv 7 9, xt 10 7 0, xt 11 7 1, as' 5 10, as' 6 11]) (.seq (rg 10 0 [] [mv 12 5, bi 13 .eql Zc (q 12) (ki 0) Zc, mv 14 13, gd 14 true (mv 15 1), gd 14 true (fa 16 Za 2 0), gd 14 true (ld 17 Zm 16), gd 14 true (le' 18 17 Zm), gd 14 true (ca 19 Znx #[q 15, q 18] #[Zc, Zc]), i' 20 (.pick (q 14) (q 19) (kb false)), as' 4 20]) .ret)))
theorem Zamm : Tryz.f27.body.map (comp ES Zjo) = some Zyw := by kernel_rfl
theorem Zao9 (t0 t1 : SV) (M : Mem) : ICw ES Zjo [t0, t1] M = Zx ES [.tmp 4] (evW ES Zjo Zyw ⟨[t0, t1, .Z, .Z, .Z, .Z, .Z, .Z, .Z, .Z, .Z, .Z, .Z, .Z, .Z, .Z, .Z, .Z, .Z, .Z, .Z], M⟩) :=
  Zab rfl Tryz.func27 Zamm (by kernel_rfl) (by kernel_rfl) (by kernel_rfl) M
@[simp] theorem Zakc : CX ES Zjo Zkg := cx rfl
@[simp] theorem Zaol : CX ES Zjo Znx := cx rfl

/-! drumline/drumlineref21.right -/
def Zli : C :=
  (.seq (.seq (rg 4 0 [17, 18, 19] [mv 17 5, mv 18 1, le' 19 18 Zt, bi 20 .lss Zc (q 17) (q 19) Zc]) (.cond (q 20) .skip (.exit 0))) (.seq (.block 1 (.seq (rg 8 0 [20, 23, 24, 25, 26, 27, 28, 29] [ld 23 Za 2, mv 24 5, mv 25 1, mv 26 5, i' 27 (.indexAddr Zt (q 25) (q 26)), ld 28 Zq 27, ca 29 Zf1 #[q 23, q 24, q 28] #[Za, Zc, Zq], i' 30 (.unOp .not Zbm (q 29))]) (.cond (q 30) (.seq (rg 1 0 [1, 2, 5, 30] [i' 4 (.assign (kb false))]) .ret) .skip))) (rg 3 0 [21, 22, 30] [mv 21 5, bi 22 .add Zc (q 21) (ki 1) Zc, as' 5 22])))
def Zqz : C := .loop Zli
/-- What is live at the loop's head: t1 cells, t2 c, t5 i -/
abbrev Zg9 (t1 t2 t5 : SV) : List SV := [.Z, t1, t2, .Z, .Z, t5, .Z, .Z, .Z, .Z, .Z, .Z, .Z, .Z, .Z, .Z, .Z, .Z, .Z, .Z, .Z, .Z, .Z, .Z, .Z, .Z, .Z, .Z, .Z, .Z, .Z]
def Zp4 : C :=
  (.seq (rg 2 2 [0, 4] [i' 2 (.box Za (q 0)), i' 4 (.assign (kb false))]) (.seq (.seq (rg 11 0 [6, 7, 8, 9, 10, 11, 12, 13, 14, 15] [ld 6 Za 2, ca 7 Zjo #[q 6, (ki 0)] #[Za, Zc], i' 8 (.unOp .not Zbm (q 7)), mv 9 8, gd 9 false (mv 10 1), gd 9 false (le' 11 10 Zt), gd 9 false (fa 12 Za 2 0), gd 9 false (ld 13 Zm 12), gd 9 false (le' 14 13 Zm), gd 9 false (bi 15 .neq Zc (q 11) (q 14) Zc), i' 16 (.pick (q 9) (kb true) (q 15))]) (.cond (q 16) (.seq (rg 1 0 [1, 2, 16] [i' 4 (.assign (kb false))]) .ret) .skip)) (.seq (.seq (rg 1 0 [16] [i' 5 (.assign (ki 0))]) (.block 0 Zqz)) (.seq (rg 1 0 [1, 2, 5, 20] [i' 4 (.assign (kb true))]) .ret))))
theorem Zabx : Tryz.f28.body.map (comp ES Ziq) = some Zp4 := by kernel_rfl
theorem Zadb (t0 t1 : SV) (M : Mem) : ICw ES Ziq [t0, t1] M = Zx ES [.tmp 4] (evW ES Ziq Zp4 ⟨[t0, t1, .Z, .Z, .Z, .Z, .Z, .Z, .Z, .Z, .Z, .Z, .Z, .Z, .Z, .Z, .Z, .Z, .Z, .Z, .Z, .Z, .Z, .Z, .Z, .Z, .Z, .Z, .Z, .Z, .Z], M⟩) :=
  Zab rfl Tryz.func28 Zabx (by kernel_rfl) (by kernel_rfl) (by kernel_rfl) M
@[simp] theorem Zafj : CX ES Ziq Zjo := cx rfl
@[simp] theorem Zab6 : CX ES Ziq Zf1 := cx rfl

/-! drumline/drumlineref21.there -/
def Zgv : C :=
  (.seq (rg 3 3 [] [i' 2 (.box Za (q 0)), i' 3 (.box Zu (q 1)), i' 4 (.assign (kb false))]) (.seq (.seq (rg 8 0 [] [fa 5 Zu 3 0, ld 6 Zc 5, bi 7 .eql Zc (q 6) (ki 6) Zc, mv 8 7, gd 8 false (fa 9 Zu 3 0), gd 8 false (ld 10 Zc 9), gd 8 false (bi 11 .eql Zc (q 10) (ki 7) Zc), i' 12 (.pick (q 8) (kb true) (q 11))]) (.cond (q 12) (.seq (rg 22 0 [] [fa 13 Zu 3 1, ld 14 Zc 13, bi 15 .geq Zc (q 14) (ki 0) Zc, mv 16 15, gd 16 true (fa 17 Zu 3 1), gd 16 true (ld 18 Zc 17), gd 16 true (fa 19 Za 2 1), gd 16 true (ld 20 Zr 19), gd 16 true (le' 21 20 Zr), gd 16 true (bi 22 .lss Zc (q 18) (q 21) Zc), i' 23 (.pick (q 16) (q 22) (kb false)), mv 24 23, gd 24 true (fa 25 Zu 3 2), gd 24 true (ld 26 Zc 25), gd 24 true (bi 27 .geq Zc (q 26) (ki 0) Zc), i' 28 (.pick (q 24) (q 27) (kb false)), mv 29 28, gd 29 true (fa 30 Zu 3 2), gd 29 true (ld 31 Zc 30), gd 29 true (bi 32 .lss Zc (q 31) (ki 2) Zc), i' 33 (.pick (q 29) (q 32) (kb false)), as' 4 33]) .ret) .skip)) (.seq (.seq (rg 11 0 [] [fa 34 Zu 3 1, ld 35 Zc 34, bi 36 .lss Zc (q 35) (ki 0) Zc, mv 37 36, gd 37 false (fa 38 Zu 3 1), gd 37 false (ld 39 Zc 38), gd 37 false (fa 40 Za 2 0), gd 37 false (ld 41 Zm 40), gd 37 false (le' 42 41 Zm), gd 37 false (bi 43 .geq Zc (q 39) (q 42) Zc), i' 44 (.pick (q 37) (kb true) (q 43))]) (.cond (q 44) (.seq (rg 1 0 [] [i' 4 (.assign (kb false))]) .ret) .skip)) (.seq (.seq (rg 8 0 [] [fa 45 Zu 3 0, ld 46 Zc 45, bi 47 .eql Zc (q 46) (ki 4) Zc, mv 48 47, gd 48 false (fa 49 Zu 3 0), gd 48 false (ld 50 Zc 49), gd 48 false (bi 51 .eql Zc (q 50) (ki 5) Zc), i' 52 (.pick (q 48) (kb true) (q 51))]) (.cond (q 52) (.seq (rg 1 0 [] [i' 4 (.assign (kb true))]) .ret) .skip)) (.seq (rg 16 0 [] [fa 53 Zu 3 2, ld 54 Zc 53, bi 55 .geq Zc (q 54) (ki 0) Zc, mv 56 55, gd 56 true (fa 57 Zu 3 2), gd 56 true (ld 58 Zc 57), gd 56 true (fa 59 Za 2 0), gd 56 true (ld 60 Zm 59), gd 56 true (fa 61 Zu 3 1), gd 56 true (ld 62 Zc 61), gd 56 true (i' 63 (.indexAddr Zm (q 60) (q 62))), gd 56 true (fa 64 Zaz 63 0), gd 56 true (ld 65 Zc 64), gd 56 true (bi 66 .lss Zc (q 58) (q 65) Zc), i' 67 (.pick (q 56) (q 66) (kb false)), as' 4 67]) .ret)))))
theorem Z9r : Tryz.f29.body.map (comp ES Zni) = some Zgv := by kernel_rfl
theorem Zad3 (t0 t1 : SV) (M : Mem) : ICw ES Zni [t0, t1] M = Zx ES [.tmp 4] (evW ES Zni Zgv ⟨[t0, t1, .Z, .Z, .Z, .Z, .Z, .Z, .Z, .Z, .Z, .Z, .Z, .Z, .Z, .Z, .Z, .Z, .Z, .Z, .Z, .Z, .Z, .Z, .Z, .Z, .Z, .Z, .Z, .Z, .Z, .Z, .Z, .Z, .Z, .Z, .Z, .Z, .Z, .Z, .Z, .Z, .Z, .Z, .Z, .Z, .Z, .Z, .Z, .Z, .Z, .Z, .Z, .Z, .Z, .Z, .Z, .Z, .Z, .Z, .Z, .Z, .Z, .Z, .Z, .Z, .Z, .Z], M⟩) :=
  Zab rfl Tryz.func29 Z9r (by kernel_rfl) (by kernel_rfl) (by kernel_rfl) M

/-! drumline/drumlineref1.Ints -/
def Zvd : C :=
  (.seq (rg 1 0 [] [i' 2 (.assign (.const (.slice none 0 0)))]) (.seq (rg 3 3 [] [mv 3 0, i' 4 (.call { callee := .builtin .append, args := #[.const (.slice none 0 0), q 3], argTypes := #[Zv, Zv] }), as' 2 4]) .ret))
theorem Zaja : Tryz.f30.body.map (comp ES Zmk) = some Zvd := by kernel_rfl
theorem Zabt (t0 : SV) (M : Mem) : ICw ES Zmk [t0] M = Zx ES [.tmp 2] (evW ES Zmk Zvd ⟨[t0, .Z, .Z, .Z, .Z], M⟩) :=
  Zab rfl Tryz.func30 Zaja (by kernel_rfl) (by kernel_rfl) (by kernel_rfl) M

/-! drumline/drumlineref21.meant -/
def Zhy : C :=
  (.seq (rg 3 3 [] [i' 4 (.box Za (q 0)), i' 5 (.box Zu (q 1)), i' 8 (.assign (kb false))]) (.seq (.seq (rg 2 0 [] [fa 10 Zu 5 0, ld 11 Zc 10]) (.block 0 (.seq (.seq (rg 2 0 [] [bi 13 .eql Zc (q 11) (ki 6) Zc, as' 12 13]) (.cond (q 12) .skip (rg 2 0 [] [bi 14 .eql Zc (q 11) (ki 7) Zc, as' 12 14]))) (.cond (q 12) (.seq (rg 8 8 [] [fa 15 Za 4 1, ld 16 Zr 15, fa 17 Zu 5 1, ld 18 Zc 17, i' 19 (.indexAddr Zr (q 16) (q 18)), ld 20 Zw 19, i' 9 (.alloc Zw), ⟨none, .store Zw (q 9) (q 20), none, none⟩]) (.seq (rg 29 0 [] [mv 21 2, fa 22 Zw 9 0, ld 23 Zc 22, bi 24 .eql Zc (q 21) (q 23) Zc, mv 25 24, gd 25 true (mv 26 3), gd 25 true (fa 27 Zu 5 2), gd 25 true (ld 28 Zc 27), gd 25 true (fa 29 Zw 9 2), gd 25 true (i' 30 (.indexAddr Zaq (q 29) (q 28))), gd 25 true (ld 31 Zc 30), gd 25 true (bi 32 .eql Zc (q 26) (q 31) Zc), i' 33 (.pick (q 25) (q 32) (kb false)), mv 34 33, gd 34 false (mv 35 2), gd 34 false (fa 36 Zw 9 1), gd 34 false (ld 37 Zc 36), gd 34 false (bi 38 .eql Zc (q 35) (q 37) Zc), gd 34 false (mv 39 38), gd 39 true (mv 40 3), gd 39 true (fa 41 Zu 5 2), gd 39 true (ld 42 Zc 41), gd 39 true (fa 43 Zw 9 3), gd 39 true (i' 44 (.indexAddr Zaq (q 43) (q 42))), gd 39 true (ld 45 Zc 44), gd 39 true (bi 46 .eql Zc (q 40) (q 45) Zc), gd 34 false (i' 47 (.pick (q 39) (q 46) (kb false))), i' 48 (.pick (q 34) (kb true) (q 47)), as' 8 48]) .ret)) (.seq (.seq (rg 2 0 [] [bi 50 .eql Zc (q 11) (ki 4) Zc, as' 49 50]) (.cond (q 49) .skip (rg 2 0 [] [bi 51 .eql Zc (q 11) (ki 5) Zc, as' 49 51]))) (.cond (q 49) (.seq (rg 5 0 [] [mv 52 2, fa 53 Zu 5 1, ld 54 Zc 53, bi 55 .eql Zc (q 52) (q 54) Zc, as' 8 55]) .ret) .skip)))))) (.seq (rg 11 0 [] [mv 56 2, fa 57 Zu 5 1, ld 58 Zc 57, bi 59 .eql Zc (q 56) (q 58) Zc, mv 60 59, gd 60 true (mv 61 3), gd 60 true (fa 62 Zu 5 2), gd 60 true (ld 63 Zc 62), gd 60 true (bi 64 .eql Zc (q 61) (q 63) Zc), i' 65 (.pick (q 60) (q 64) (kb false)), as' 8 65]) .ret)))
theorem Z88 : Tryz.f31.body.map (comp ES Zl2) = some Zhy := by kernel_rfl
theorem Zad1 (t0 t1 t2 t3 : SV) (M : Mem) : ICw ES Zl2 [t0, t1, t2, t3] M = Zx ES [.tmp 8] (evW ES Zl2 Zhy ⟨[t0, t1, t2, t3, .Z, .Z, .Z, .Z, .Z, .Z, .Z, .Z, .Z, .Z, .Z, .Z, .Z, .Z, .Z, .Z, .Z, .Z, .Z, .Z, .Z, .Z, .Z, .Z, .Z, .Z, .Z, .Z, .Z, .Z, .Z, .Z, .Z, .Z, .Z, .Z, .Z, .Z, .Z, .Z, .Z, .Z, .Z, .Z, .Z, .Z, .Z, .Z, .Z, .Z, .Z, .Z, .Z, .Z, .Z, .Z, .Z, .Z, .Z, .Z, .Z, .Z], M⟩) :=
  Zab rfl Tryz.func31 Z88 (by kernel_rfl) (by kernel_rfl) (by kernel_rfl) M

/-! drumline/drumlineref21.turned -/
def Zqv : C :=
  (.seq (rg 3 3 [] [i' 4 (.box Za (q 0)), i' 5 (.box Zh (q 1)), i' 8 (.alloc Zh)]) (.seq (.seq (rg 1 0 [] [mv 9 3]) (.cond (q 9) (.seq (rg 5 0 [] [ld 10 Za 4, ld 11 Zh 5, mv 12 2, ca 13 Zjq #[q 10, q 11, q 12] #[Za, Zh, Zc], ⟨none, .store Zh (q 8) (q 13), none, none⟩]) .ret) .skip)) (.seq (rg 3 0 [] [ld 14 Zh 5, ca 15 Zob #[q 14] #[Zh], ⟨none, .store Zh (q 8) (q 15), none, none⟩]) .ret)))
theorem Z5m : Tryz.f32.body.map (comp ES Zim) = some Zqv := by kernel_rfl
theorem Zxa (t0 t1 t2 t3 : SV) (M : Mem) : ICw ES Zim [t0, t1, t2, t3] M = Zx ES [.cell 8 Zh] (evW ES Zim Zqv ⟨[t0, t1, t2, t3, .Z, .Z, .Z, .Z, .Z, .Z, .Z, .Z, .Z, .Z, .Z, .Z], M⟩) :=
  Zab rfl Tryz.func32 Z5m (by kernel_rfl) (by kernel_rfl) (by kernel_rfl) M
@[simp] theorem Zacp : CX ES Zim Zjq := cx rfl
@[simp] theorem Zacc : CX ES Zim Zob := cx rfl

/-! drumline/drumlineref17.SameCell -/
def Zk4 : C :=
  (.seq (.seq (rg 5 0 [21, 22, 23, 24] [mv 21 5, fa 22 Zq 2 0, ld 23 Zj 22, le' 24 23 Zj, bi 25 .lss Zc (q 21) (q 24) Zc]) (.cond (q 25) .skip (.exit 0))) (.seq (.block 1 (.seq (rg 12 0 [25, 28, 29, 30, 31, 32, 33, 34, 35, 36, 37, 38] [fa 28 Zq 2 0, ld 29 Zj 28, mv 30 5, i' 31 (.indexAddr Zj (q 29) (q 30)), ld 32 Zh 31, fa 33 Zq 3 0, ld 34 Zj 33, mv 35 5, i' 36 (.indexAddr Zj (q 34) (q 35)), ld 37 Zh 36, ca 38 Zdy #[q 32, q 37] #[Zh, Zh], i' 39 (.unOp .not Zbm (q 38))]) (.cond (q 39) (.seq (rg 1 0 [2, 3, 5, 39] [i' 4 (.assign (kb false))]) .ret) .skip))) (rg 3 0 [26, 27, 39] [mv 26 5, bi 27 .add Zc (q 26) (ki 1) Zc, as' 5 27])))
def Zrq : C := .loop Zk4
/-- What is live at the loop's head: t2 a, t3 b, t5 i -/
abbrev Zja (t2 t3 t5 : SV) : List SV := [.Z, .Z, t2, t3, .Z, t5, .Z, .Z, .Z, .Z, .Z, .Z, .Z, .Z, .Z, .Z, .Z, .Z, .Z, .Z, .Z, .Z, .Z, .Z, .Z, .Z, .Z, .Z, .Z, .Z, .Z, .Z, .Z, .Z, .Z, .Z, .Z, .Z, .Z, .Z]
def Zq7 : C :=
  (.seq (rg 3 3 [0, 1, 4] [i' 2 (.box Zq (q 0)), i' 3 (.box Zq (q 1)), i' 4 (.assign (kb false))]) (.seq (.seq (rg 15 0 [6, 7, 8, 9, 10, 11, 12, 13, 14, 15, 16, 17, 18, 19] [fa 6 Zq 2 0, ld 7 Zj 6, le' 8 7 Zj, fa 9 Zq 3 0, ld 10 Zj 9, le' 11 10 Zj, bi 12 .neq Zc (q 8) (q 11) Zc, mv 13 12, gd 13 false (fa 14 Zq 2 1), gd 13 false (ld 15 Zan 14), gd 13 false (fa 16 Zq 3 1), gd 13 false (ld 17 Zan 16), gd 13 false (ca 18 Zgr #[q 15, q 17] #[Zan, Zan]), gd 13 false (i' 19 (.unOp .not Zbm (q 18))), i' 20 (.pick (q 13) (kb true) (q 19))]) (.cond (q 20) (.seq (rg 1 0 [2, 3, 20] [i' 4 (.assign (kb false))]) .ret) .skip)) (.seq (.seq (rg 1 0 [20] [i' 5 (.assign (ki 0))]) (.block 0 Zrq)) (.seq (rg 1 0 [2, 3, 5, 25] [i' 4 (.assign (kb true))]) .ret))))
theorem Z0c : Tryz.f33.body.map (comp ES Zfb) = some Zq7 := by kernel_rfl
theorem Z2c (t0 t1 : SV) (M : Mem) : ICw ES Zfb [t0, t1] M = Zx ES [.tmp 4] (evW ES Zfb Zq7 ⟨[t0, t1, .Z, .Z, .Z, .Z, .Z, .Z, .Z, .Z, .Z, .Z, .Z, .Z, .Z, .Z, .Z, .Z, .Z, .Z, .Z, .Z, .Z, .Z, .Z, .Z, .Z, .Z, .Z, .Z, .Z, .Z, .Z, .Z, .Z, .Z, .Z, .Z, .Z, .Z], M⟩) :=
  Zab rfl Tryz.func33 Z0c (by kernel_rfl) (by kernel_rfl) (by kernel_rfl) M
@[simp] theorem Zy3 : CX ES Zfb Zdy := cx rfl
@[simp] theorem Zyu : CX ES Zfb Zgr := cx rfl

/-! drumline/drumlinelaw19.Made -/
def Zgf : C :=
  (.seq (.seq (rg 5 0 [15, 16, 17, 18] [mv 15 10, fa 16 Zq 9 0, ld 17 Zj 16, le' 18 17 Zj, bi 19 .lss Zc (q 15) (q 18) Zc]) (.cond (q 19) .skip (.exit 0))) (.seq (.block 1 (.seq (rg 3 3 [19, 22] [i' 22 (.build Zh #[]), i' 11 (.alloc Zh), ⟨none, .store Zh (q 11) (q 22), none, none⟩]) (.seq (.seq (rg 5 0 [23, 24, 25, 26] [mv 23 10, fa 24 Zq 6 0, ld 25 Zj 24, le' 26 25 Zj, bi 27 .lss Zc (q 23) (q 26) Zc]) (.cond (q 27) (rg 6 0 [27, 28, 29, 30, 31, 32] [fa 28 Zq 6 0, ld 29 Zj 28, mv 30 10, i' 31 (.indexAddr Zj (q 29) (q 30)), ld 32 Zh 31, ⟨none, .store Zh (q 11) (q 32), none, none⟩]) .skip)) (.seq (.seq (rg 7 0 [27, 33, 34, 35, 36, 37, 38] [mv 33 3, mv 34 33, gd 34 true (fa 35 Zq 6 0), gd 34 true (ld 36 Zj 35), gd 34 true (le' 37 36 Zj), gd 34 true (bi 38 .gtr Zc (q 37) (ki 0) Zc), i' 39 (.pick (q 34) (q 38) (kb false))]) (.cond (q 39) (.seq (.seq (.chf ⟨21, 0, [], [fa 40 Zq 6 0, ld 41 Zj 40, i' 42 (.indexAddr Zj (q 41) (ki 0)), fa 43 Zh 42 4, ld 44 Zp 43, fa 45 Zq 6 0, ld 46 Zj 45, i' 47 (.indexAddr Zj (q 46) (ki 0)), fa 48 Zh 47 6, ld 49 Zc 48, fa 50 Zq 6 0, ld 51 Zj 50, i' 52 (.indexAddr Zj (q 51) (ki 0)), fa 53 Zh 52 5, ld 54 Zv 53, fa 55 Zh 11 4, ⟨none, .store Zp (q 55) (q 44), none, none⟩, fa 56 Zh 11 6, ⟨none, .store Zc (q 56) (q 49), none, none⟩, fa 57 Zh 11 5, ⟨none, .store Zv (q 57) (q 54), none, none⟩]⟩ [.ld 45 55, .ld 48 55, .ld 50 55, .ld 53 55, .ld 50 56, .ld 53 56]) (rg 21 0 [39, 40, 41, 42, 43, 44, 45, 46, 47, 48, 49, 50, 51, 52, 53, 54, 55, 56, 57] [fa 40 Zq 6 0, ld 41 Zj 40, i' 42 (.indexAddr Zj (q 41) (ki 0)), fa 43 Zh 42 4, ld 44 Zp 43, fa 45 Zq 6 0, ld 46 Zj 45, i' 47 (.indexAddr Zj (q 46) (ki 0)), fa 48 Zh 47 6, ld 49 Zc 48, fa 50 Zq 6 0, ld 51 Zj 50, i' 52 (.indexAddr Zj (q 51) (ki 0)), fa 53 Zh 52 5, ld 54 Zv 53, fa 55 Zh 11 4, ⟨none, .store Zp (q 55) (q 44), none, none⟩, fa 56 Zh 11 6, ⟨none, .store Zc (q 56) (q 49), none, none⟩, fa 57 Zh 11 5, ⟨none, .store Zv (q 57) (q 54), none, none⟩])) (rg 12 0 [58, 59, 60, 61, 62, 63, 64, 65, 66, 67, 68] [fa 58 Zq 6 0, ld 59 Zj 58, i' 60 (.indexAddr Zj (q 59) (ki 0)), fa 61 Zh 60 3, ld 62 Zp 61, bi 63 .rem Zp (q 62) (ki 1073741824) Zp, fa 64 Zh 11 3, ld 65 Zp 64, bi 66 .rem Zp (q 65) (ki 5) Zp, bi 67 .add Zp (q 63) (q 66) Zp, fa 68 Zh 11 3, ⟨none, .store Zp (q 68) (q 67), none, none⟩])) .skip)) (rg 8 0 [11, 39, 69, 70, 71, 72, 73, 74, 75] [fa 69 Zq 9 0, ld 70 Zj 69, mv 71 10, ld 72 Za 4, ld 73 Zh 11, ca 74 Zkw #[q 72, q 73] #[Za, Zh], i' 75 (.indexAddr Zj (q 70) (q 71)), ⟨none, .store Zh (q 75) (q 74), none, none⟩]))))) (rg 3 0 [20, 21] [mv 20 10, bi 21 .add Zc (q 20) (ki 1) Zc, as' 10 21])))
def Zm5 : C := .loop Zgf
/-- What is live at the loop's head: t3 alike, t4 c, t6 x, t8, t9 o, t10 i -/
abbrev Zfk (t3 t4 t6 t8 t9 t10 : SV) : List SV := [.Z, .Z, .Z, t3, t4, .Z, t6, .Z, t8, t9, t10, .Z, .Z, .Z, .Z, .Z, .Z, .Z, .Z, .Z, .Z, .Z, .Z, .Z, .Z, .Z, .Z, .Z, .Z, .Z, .Z, .Z, .Z, .Z, .Z, .Z, .Z, .Z, .Z, .Z, .Z, .Z, .Z, .Z, .Z, .Z, .Z, .Z, .Z, .Z, .Z, .Z, .Z, .Z, .Z, .Z, .Z, .Z, .Z, .Z, .Z, .Z, .Z, .Z, .Z, .Z, .Z, .Z, .Z, .Z, .Z, .Z, .Z, .Z, .Z, .Z, .Z, .Z, .Z, .Z, .Z, .Z, .Z, .Z, .Z, .Z, .Z, .Z, .Z, .Z, .Z, .Z, .Z, .Z, .Z, .Z, .Z, .Z, .Z, .Z, .Z, .Z, .Z, .Z, .Z, .Z, .Z, .Z, .Z, .Z, .Z, .Z, .Z, .Z, .Z, .Z, .Z, .Z, .Z, .Z, .Z, .Z]
def Zpe : C :=
  (.seq (rg 3 3 [0, 2] [i' 4 (.box Za (q 0)), i' 6 (.box Zq (q 2)), i' 8 (.alloc Zq)]) (.seq (rg 5 5 [1, 12, 13, 14] [ld 12 Za 4, mv 13 1, ca 14 Zpl #[q 12, q 13] #[Za, Zc], i' 9 (.alloc Zq), ⟨none, .store Zq (q 9) (q 14), none, none⟩]) (.seq (.seq (rg 1 0 [] [i' 10 (.assign (ki 0))]) (.block 0 Zm5)) (.seq (rg 7 0 [10, 19, 76, 77, 78, 79, 80, 81] [fa 76 Zq 6 1, fa 77 Zan 76 1, ld 78 Zp 77, bi 79 .rem Zp (q 78) (ki 1073741824) Zp, fa 80 Zq 9 1, fa 81 Zan 80 1, ⟨none, .store Zp (q 81) (q 79), none, none⟩]) (.seq (rg 6 0 [82, 83, 84, 85, 86] [fa 82 Zq 6 1, fa 83 Zan 82 0, ld 84 Zbm 83, fa 85 Zq 9 1, fa 86 Zan 85 0, ⟨none, .store Zbm (q 86) (q 84), none, none⟩]) (.seq (.seq (rg 3 0 [87, 88] [fa 87 Zq 9 1, fa 88 Zan 87 0, ld 89 Zbm 88]) (.cond (q 89) (.seq (rg 8 0 [89, 90, 91, 92, 93, 94, 95, 96] [ld 90 Za 4, fa 91 Zq 6 1, fa 92 Zan 91 2, ld 93 Zv 92, ca 94 Zeo #[q 90, q 93] #[Za, Zv], fa 95 Zq 9 1, fa 96 Zan 95 2, ⟨none, .store Zv (q 96) (q 94), none, none⟩]) (.seq (rg 7 0 [3, 97, 98, 99, 100, 101, 102] [mv 97 3, mv 98 97, gd 98 true (fa 99 Zq 6 0), gd 98 true (ld 100 Zj 99), gd 98 true (le' 101 100 Zj), gd 98 true (bi 102 .gtr Zc (q 101) (ki 0) Zc), i' 103 (.pick (q 98) (q 102) (kb false))]) (.cond (q 103) (.seq (rg 9 0 [103, 104, 105, 106, 107, 108, 109, 110, 111] [fa 104 Zq 6 0, ld 105 Zj 104, i' 106 (.indexAddr Zj (q 105) (ki 0)), fa 107 Zh 106 3, ld 108 Zp 107, bi 109 .rem Zp (q 108) (ki 1073741824) Zp, fa 110 Zq 9 1, fa 111 Zan 110 1, ⟨none, .store Zp (q 111) (q 109), none, none⟩]) (rg 10 0 [4, 6, 112, 113, 114, 115, 116, 117, 118, 119, 120] [ld 112 Za 4, fa 113 Zq 6 0, ld 114 Zj 113, i' 115 (.indexAddr Zj (q 114) (ki 0)), fa 116 Zh 115 5, ld 117 Zv 116, ca 118 Zeo #[q 112, q 117] #[Za, Zv], fa 119 Zq 9 1, fa 120 Zan 119 2, ⟨none, .store Zv (q 120) (q 118), none, none⟩])) .skip))) .skip)) (.seq (rg 2 0 [3, 4, 6, 9, 89, 103, 121] [ld 121 Zq 9, ⟨none, .store Zq (q 8) (q 121), none, none⟩]) .ret)))))))
theorem Zae0 : Tryz.f34.body.map (comp ES Zie) = some Zpe := by kernel_rfl
theorem Zahs (t0 t1 t2 t3 : SV) (M : Mem) : ICw ES Zie [t0, t1, t2, t3] M = Zx ES [.cell 8 Zq] (evW ES Zie Zpe ⟨[t0, t1, t2, t3, .Z, .Z, .Z, .Z, .Z, .Z, .Z, .Z, .Z, .Z, .Z, .Z, .Z, .Z, .Z, .Z, .Z, .Z, .Z, .Z, .Z, .Z, .Z, .Z, .Z, .Z, .Z, .Z, .Z, .Z, .Z, .Z, .Z, .Z, .Z, .Z, .Z, .Z, .Z, .Z, .Z, .Z, .Z, .Z, .Z, .Z, .Z, .Z, .Z, .Z, .Z, .Z, .Z, .Z, .Z, .Z, .Z, .Z, .Z, .Z, .Z, .Z, .Z, .Z, .Z, .Z, .Z, .Z, .Z, .Z, .Z, .Z, .Z, .Z, .Z, .Z, .Z, .Z, .Z, .Z, .Z, .Z, .Z, .Z, .Z, .Z, .Z, .Z, .Z, .Z, .Z, .Z, .Z, .Z, .Z, .Z, .Z, .Z, .Z, .Z, .Z, .Z, .Z, .Z, .Z, .Z, .Z, .Z, .Z, .Z, .Z, .Z, .Z, .Z, .Z, .Z, .Z, .Z], M⟩) :=
  Zab rfl Tryz.func34 Zae0 (by kernel_rfl) (by kernel_rfl) (by kernel_rfl) M
@[simp] theorem Zagt : CI ES Zie Zpl := ci rfl
@[simp] theorem Zaea : CX ES Zie Zkw := cx rfl
@[simp] theorem Zacb : CX ES Zie Zeo := cx rfl

/-! drumline/drumlineref1.SameInts -/
def Zi5 : C :=
  (.seq (.seq (rg 4 0 [11, 12, 13] [mv 11 5, mv 12 0, le' 13 12 Zv, bi 14 .lss Zc (q 11) (q 13) Zc]) (.cond (q 14) .skip (.exit 0))) (.seq (.block 1 (.seq (rg 9 0 [14, 17, 18, 19, 20, 21, 22, 23, 24] [mv 17 0, mv 18 5, i' 19 (.indexAddr Zv (q 17) (q 18)), ld 20 Zc 19, mv 21 1, mv 22 5, i' 23 (.indexAddr Zv (q 21) (q 22)), ld 24 Zc 23, bi 25 .neq Zc (q 20) (q 24) Zc]) (.cond (q 25) (.seq (rg 1 0 [0, 1, 5, 25] [i' 4 (.assign (kb false))]) .ret) .skip))) (rg 3 0 [15, 16, 25] [mv 15 5, bi 16 .add Zc (q 15) (ki 1) Zc, as' 5 16])))
def Zor : C := .loop Zi5
/-- What is live at the loop's head: t0 a, t1 b, t5 i -/
abbrev Zfr (t0 t1 t5 : SV) : List SV := [t0, t1, .Z, .Z, .Z, t5, .Z, .Z, .Z, .Z, .Z, .Z, .Z, .Z, .Z, .Z, .Z, .Z, .Z, .Z, .Z, .Z, .Z, .Z, .Z, .Z]
def Zmq : C :=
  (.seq (rg 1 0 [4] [i' 4 (.assign (kb false))]) (.seq (.seq (rg 5 0 [6, 7, 8, 9] [mv 6 0, le' 7 6 Zv, mv 8 1, le' 9 8 Zv, bi 10 .neq Zc (q 7) (q 9) Zc]) (.cond (q 10) (.seq (rg 1 0 [0, 1, 10] [i' 4 (.assign (kb false))]) .ret) .skip)) (.seq (.seq (rg 1 0 [10] [i' 5 (.assign (ki 0))]) (.block 0 Zor)) (.seq (rg 1 0 [0, 1, 5, 14] [i' 4 (.assign (kb true))]) .ret))))
theorem Z2m : Tryz.f35.body.map (comp ES Zgc) = some Zmq := by kernel_rfl
theorem Z5w (t0 t1 : SV) (M : Mem) : ICw ES Zgc [t0, t1] M = Zx ES [.tmp 4] (evW ES Zgc Zmq ⟨[t0, t1, .Z, .Z, .Z, .Z, .Z, .Z, .Z, .Z, .Z, .Z, .Z, .Z, .Z, .Z, .Z, .Z, .Z, .Z, .Z, .Z, .Z, .Z, .Z, .Z], M⟩) :=
  Zab rfl Tryz.func35 Z2m (by kernel_rfl) (by kernel_rfl) (by kernel_rfl) M

/-! drumline/power.when -/
def Zqr : C :=
  (.seq (rg 2 2 [] [i' 2 (.box Za (q 0)), i' 4 (.assign (kb false))]) (.seq (rg 7 0 [] [ld 8 Za 2, ca 9 Zdz #[q 8] #[Za], mv 7 9, xt 10 7 0, xt 11 7 1, as' 5 10, as' 6 11]) (.seq (rg 11 0 [] [mv 12 5, bi 13 .eql Zby (q 12) (ki 0) Zby, mv 14 13, gd 14 true (mv 15 1), gd 14 true (bi 16 .geq Zc (q 15) (ki 0) Zc), i' 17 (.pick (q 14) (q 16) (kb false)), mv 18 17, gd 18 true (mv 19 1), gd 18 true (bi 20 .leq Zc (q 19) (ki 1000) Zc), i' 21 (.pick (q 18) (q 20) (kb false)), as' 4 21]) .ret)))
theorem Z7v : Tryz.f36.body.map (comp ES Zg5) = some Zqr := by kernel_rfl
theorem Zabr (t0 t1 : SV) (M : Mem) : ICw ES Zg5 [t0, t1] M = Zx ES [.tmp 4] (evW ES Zg5 Zqr ⟨[t0, t1, .Z, .Z, .Z, .Z, .Z, .Z, .Z, .Z, .Z, .Z, .Z, .Z, .Z, .Z, .Z, .Z, .Z, .Z, .Z, .Z], M⟩) :=
  Zab rfl Tryz.func36 Z7v (by kernel_rfl) (by kernel_rfl) (by kernel_rfl) M
@[simp] theorem Z39 : CX ES Zg5 Zdz := cx rfl

/-! drumline/power.on -/
def Zts : C :=
  (.seq (rg 3 3 [] [i' 3 (.box Za (q 0)), i' 4 (.box Zh (q 1)), i' 6 (.alloc Zh)]) (.seq (.seq (rg 3 0 [] [fa 7 Zh 4 0, ld 8 Zc 7, bi 9 .neq Zc (q 8) (ki 0) Zc]) (.cond (q 9) (.seq (rg 2 0 [] [ld 10 Zh 4, ⟨none, .store Zh (q 6) (q 10), none, none⟩]) .ret) .skip)) (.seq (rg 10 0 [] [mv 11 2, fa 12 Za 3 2, ld 13 Zc 12, bi 14 .mul Zp (q 11) (q 13) Zp, fa 15 Zh 4 2, ld 16 Zc 15, fa 17 Zh 4 7, ld 18 Zc 17, i' 19 (.build Zh #[(0, (ki 1)), (3, q 14), (2, q 16), (7, q 18)]), ⟨none, .store Zh (q 6) (q 19), none, none⟩]) .ret)))
theorem Zaes : Tryz.f37.body.map (comp ES Zmd) = some Zts := by kernel_rfl
theorem Zajw (t0 t1 t2 : SV) (M : Mem) : ICw ES Zmd [t0, t1, t2] M = Zx ES [.cell 6 Zh] (evW ES Zmd Zts ⟨[t0, t1, t2, .Z, .Z, .Z, .Z, .Z, .Z, .Z, .Z, .Z, .Z, .Z, .Z, .Z, .Z, .Z, .Z, .Z], M⟩) :=
  Zab rfl Tryz.func37 Zaes (by kernel_rfl) (by kernel_rfl) (by kernel_rfl) M

/-! drumline/drumlineref5.Fits -/
def Zrp : C :=
  (.seq (rg 3 3 [] [i' 1 (.box Za (q 0)), i' 2 (.assign (ki 0)), i' 3 (.assign (ki 0))]) (.seq (rg 7 0 [] [ld 7 Za 1, ca 8 Zee #[q 7] #[Za], mv 6 8, xt 9 6 0, xt 10 6 1, as' 4 9, as' 5 10]) (.seq (.seq (rg 2 0 [] [mv 11 4, bi 12 .neq Zc (q 11) (ki 0) Zc]) (.cond (q 12) (.seq (rg 4 0 [] [mv 13 4, mv 14 5, as' 2 13, as' 3 14]) .ret) .skip)) (.seq (rg 3 0 [] [ld 15 Za 1, ca 16 Zqt #[q 15] #[Za], as' 5 16]) (.seq (.seq (rg 2 0 [] [mv 17 5, bi 18 .eql Zc (q 17) (ki 0) Zc]) (.cond (q 18) (rg 3 0 [] [ld 19 Za 1, ca 20 Zkb #[q 19] #[Za], as' 5 20]) .skip)) (.seq (.seq (rg 2 0 [] [mv 21 5, bi 22 .neq Zc (q 21) (ki 0) Zc]) (.cond (q 22) (.seq (rg 3 0 [] [mv 23 5, i' 2 (.assign (ki 14)), as' 3 23]) .ret) .skip)) (.seq (rg 2 0 [] [i' 2 (.assign (ki 0)), i' 3 (.assign (ki 0))]) .ret)))))))
theorem Zahr : Tryz.f38.body.map (comp ES Zkg) = some Zrp := by kernel_rfl
theorem Zalp (t0 : SV) (M : Mem) : ICw ES Zkg [t0] M = Zx ES [.tmp 2, .tmp 3] (evW ES Zkg Zrp ⟨[t0, .Z, .Z, .Z, .Z, .Z, .Z, .Z, .Z, .Z, .Z, .Z, .Z, .Z, .Z, .Z, .Z, .Z, .Z, .Z, .Z, .Z, .Z, .Z], M⟩) :=
  Zab rfl Tryz.func38 Zahr (by kernel_rfl) (by kernel_rfl) (by kernel_rfl) M
@[simp] theorem Zaf7 : CX ES Zkg Zee := cx rfl
@[simp] theorem Zakd : CX ES Zkg Zqt := cx rfl
@[simp] theorem Zaiq : CX ES Zkg Zkb := cx rfl

/-! drumline/power.off -/
def Zug : C :=
  (.seq (rg 2 2 [] [i' 1 (.box Zh (q 0)), i' 2 (.alloc Zh)]) (.seq (rg 6 0 [] [fa 3 Zh 1 2, ld 4 Zc 3, fa 5 Zh 1 7, ld 6 Zc 5, i' 7 (.build Zh #[(2, q 4), (7, q 6)]), ⟨none, .store Zh (q 2) (q 7), none, none⟩]) .ret))
theorem Z9d : Tryz.f39.body.map (comp ES Zj6) = some Zug := by kernel_rfl
theorem Zaer (t0 : SV) (M : Mem) : ICw ES Zj6 [t0] M = Zx ES [.cell 2 Zh] (evW ES Zj6 Zug ⟨[t0, .Z, .Z, .Z, .Z, .Z, .Z, .Z], M⟩) :=
  Zab rfl Tryz.func39 Z9d (by kernel_rfl) (by kernel_rfl) (by kernel_rfl) M

/-! drumline/drumlineref26.ports -/
def Zjh : C :=
  (.seq (.seq (rg 5 0 [7, 8, 9, 10] [mv 7 6, fa 8 Za 2 1, ld 9 Zr 8, le' 10 9 Zr, bi 11 .lss Zc (q 7) (q 10) Zc]) (.cond (q 11) .skip (.exit 0))) (.seq (.block 1 (.seq (rg 18 0 [11, 14, 15, 16, 17, 18, 19, 20, 21, 22, 23, 24, 25, 26, 27, 28, 29, 30] [fa 14 Za 2 1, ld 15 Zr 14, mv 16 6, i' 17 (.indexAddr Zr (q 15) (q 16)), fa 18 Zw 17 0, ld 19 Zc 18, mv 20 1, bi 21 .eql Zc (q 19) (q 20) Zc, mv 22 21, gd 22 false (fa 23 Za 2 1), gd 22 false (ld 24 Zr 23), gd 22 false (mv 25 6), gd 22 false (i' 26 (.indexAddr Zr (q 24) (q 25))), gd 22 false (fa 27 Zw 26 1), gd 22 false (ld 28 Zc 27), gd 22 false (mv 29 1), gd 22 false (bi 30 .eql Zc (q 28) (q 29) Zc), i' 31 (.pick (q 22) (kb true) (q 30))]) (.cond (q 31) (rg 3 0 [31, 32, 33] [mv 32 5, bi 33 .add Zc (q 32) (ki 2) Zc, as' 5 33]) .skip))) (rg 3 0 [12, 13, 31] [mv 12 6, bi 13 .add Zc (q 12) (ki 1) Zc, as' 6 13])))
def Zt2 : C := .loop Zjh
/-- What is live at the loop's head: t1 part, t2 c, t5 n, t6 i -/
abbrev Zit (t1 t2 t5 t6 : SV) : List SV := [.Z, t1, t2, .Z, .Z, t5, t6, .Z, .Z, .Z, .Z, .Z, .Z, .Z, .Z, .Z, .Z, .Z, .Z, .Z, .Z, .Z, .Z, .Z, .Z, .Z, .Z, .Z, .Z, .Z, .Z, .Z, .Z, .Z, .Z]
def Zuq : C :=
  (.seq (rg 2 2 [0, 4] [i' 2 (.box Za (q 0)), i' 4 (.assign (ki 0))]) (.seq (rg 1 0 [] [i' 5 (.assign (ki 0))]) (.seq (.seq (rg 1 0 [] [i' 6 (.assign (ki 0))]) (.block 0 Zt2)) (.seq (rg 2 0 [1, 2, 5, 6, 11, 34] [mv 34 5, as' 4 34]) .ret))))
theorem Z9b : Tryz.f40.body.map (comp ES Zhq) = some Zuq := by kernel_rfl
theorem Zaeq (t0 t1 : SV) (M : Mem) : ICw ES Zhq [t0, t1] M = Zx ES [.tmp 4] (evW ES Zhq Zuq ⟨[t0, t1, .Z, .Z, .Z, .Z, .Z, .Z, .Z, .Z, .Z, .Z, .Z, .Z, .Z, .Z, .Z, .Z, .Z, .Z, .Z, .Z, .Z, .Z, .Z, .Z, .Z, .Z, .Z, .Z, .Z, .Z, .Z, .Z, .Z], M⟩) :=
  Zab rfl Tryz.func40 Z9b (by kernel_rfl) (by kernel_rfl) (by kernel_rfl) M

/-! drumline/drumlineref5.ranged -/
def Zru : C :=
  (.seq (rg 2 2 [] [i' 1 (.box Za (q 0)), i' 2 (.assign (kb false))]) (.seq (rg 8 0 [] [ld 3 Za 1, ca 4 Zoe #[q 3, (ki 0)] #[Za, Zc], mv 5 4, gd 5 true (ld 6 Za 1), gd 5 true (ca 7 Zqt #[q 6] #[Za]), gd 5 true (bi 8 .eql Zc (q 7) (ki 0) Zc), i' 9 (.pick (q 5) (q 8) (kb false)), as' 2 9]) .ret))
theorem Z99 : Tryz.f41.body.map (comp ES Zhz) = some Zru := by kernel_rfl
theorem Zac2 (t0 : SV) (M : Mem) : ICw ES Zhz [t0] M = Zx ES [.tmp 2] (evW ES Zhz Zru ⟨[t0, .Z, .Z, .Z, .Z, .Z, .Z, .Z, .Z, .Z], M⟩) :=
  Zab rfl Tryz.func41 Z99 (by kernel_rfl) (by kernel_rfl) (by kernel_rfl) M
@[simp] theorem Zafn : CX ES Zhz Zqt := cx rfl
@[simp] theorem Zael : CX ES Zhz Zoe := cx rfl

/-! drumline/drumlineref5.edge -/
def Z0j : C :=
  (.seq (rg 2 2 [] [i' 1 (.box Za (q 0)), i' 2 (.assign (ki 0))]) (.seq (rg 9 0 [] [fa 3 Za 1 6, ld 4 Zc 3, bi 5 .mul Zp (ki 2) (q 4) Zp, fa 6 Za 1 2, ld 7 Zc 6, bi 8 .mul Zp (q 5) (q 7) Zp, ca 9 Zsb #[q 8] #[Zp], bi 10 .add Zp (q 9) (ki 1) Zp, as' 2 10]) .ret))
theorem Zajm : Tryz.f42.body.map (comp ES Zib) = some Z0j := by kernel_rfl
theorem Zakv (t0 : SV) (M : Mem) : ICw ES Zib [t0] M = Zx ES [.tmp 2] (evW ES Zib Z0j ⟨[t0, .Z, .Z, .Z, .Z, .Z, .Z, .Z, .Z, .Z, .Z], M⟩) :=
  Zab rfl Tryz.func42 Zajm (by kernel_rfl) (by kernel_rfl) (by kernel_rfl) M
@[simp] theorem Zalb : CX ES Zib Zsb := cx rfl

/-! drumline/table.Of -/
def Zwb : C :=
  (.seq (rg 3 3 [] [i' 2 (.box Za (q 0)), i' 4 (.alloc Za5), i' 5 (.assign (kb false))]) (.seq (.seq (rg 7 0 [] [ld 10 Za 2, ca 11 Zdz #[q 10] #[Za], mv 9 11, xt 12 9 0, xt 13 9 1, as' 6 12, as' 7 13]) (.seq (rg 13 0 [] [mv 14 6, bi 15 .neq Zby (q 14) (ki 0) Zby, mv 16 15, gd 16 false (mv 17 1), gd 16 false (bi 18 .lss Zc (q 17) (ki 0) Zc), i' 19 (.pick (q 16) (kb true) (q 18)), mv 20 19, gd 20 false (mv 21 1), gd 20 false (fa 22 Za 2 0), gd 20 false (ld 23 Zm 22), gd 20 false (le' 24 23 Zm), gd 20 false (bi 25 .geq Zc (q 21) (q 24) Zc), i' 26 (.pick (q 20) (kb true) (q 25))]) (.cond (q 26) (.seq (rg 3 0 [] [i' 27 (.build Za5 #[]), ⟨none, .store Za5 (q 4) (q 27), none, none⟩, i' 5 (.assign (kb false))]) .ret) .skip))) (.seq (rg 4 0 [] [ld 28 Za 2, mv 29 1, ca 30 Zch #[q 28, q 29] #[Za, Zc], as' 8 30]) (.seq (rg 12 0 [] [ld 31 Za 2, mv 32 1, ld 33 Za 2, mv 34 1, mv 35 8, ca 36 Zc1 #[q 33, q 34, q 35] #[Za, Zc, Zaf], mv 37 8, ld 38 Za 2, ca 39 Zen #[q 38] #[Za], i' 40 (.build Za5 #[(0, q 31), (1, q 32), (2, q 36), (3, q 37), (4, q 39)]), ⟨none, .store Za5 (q 4) (q 40), none, none⟩, i' 5 (.assign (kb true))]) .ret))))
theorem Zaep : Tryz.f43.body.map (comp ES Zif) = some Zwb := by kernel_rfl
theorem Zaj0 (t0 t1 : SV) (M : Mem) : ICw ES Zif [t0, t1] M = Zx ES [.cell 4 Za5, .tmp 5] (evW ES Zif Zwb ⟨[t0, t1, .Z, .Z, .Z, .Z, .Z, .Z, .Z, .Z, .Z, .Z, .Z, .Z, .Z, .Z, .Z, .Z, .Z, .Z, .Z, .Z, .Z, .Z, .Z, .Z, .Z, .Z, .Z, .Z, .Z, .Z, .Z, .Z, .Z, .Z, .Z, .Z, .Z, .Z, .Z], M⟩) :=
  Zab rfl Tryz.func43 Zaep (by kernel_rfl) (by kernel_rfl) (by kernel_rfl) M
@[simp] theorem Z8f : CX ES Zif Zdz := cx rfl
@[simp] theorem Zaco : CX ES Zif Zch := cx rfl
@[simp] theorem Z86 : CX ES Zif Zc1 := cx rfl
@[simp] theorem Z4h : CX ES Zif Zen := cx rfl

/-! drumline/cell.Fine -/
def Zpn : C :=
  (.seq (rg 3 3 [] [i' 2 (.box Za5 (q 0)), i' 3 (.box Zq (q 1)), i' 4 (.assign (kb false))]) (.seq (rg 36 0 [] [fa 5 Zq 3 0, ld 6 Zj 5, le' 7 6 Zj, fa 8 Za5 2 0, fa 9 Za 8 0, ld 10 Zm 9, fa 11 Za5 2 1, ld 12 Zc 11, i' 13 (.indexAddr Zm (q 10) (q 12)), fa 14 Zaz 13 0, ld 15 Zc 14, bi 16 .eql Zc (q 7) (q 15) Zc, mv 17 16, gd 17 true (fa 18 Zq 3 0), gd 17 true (ld 19 Zj 18), gd 17 true (i' 20 (.makeFunc (.func Zet) #[] #[q 2])), gd 17 true (ca 21 Zai #[q 19, q 20] #[Zj, Zh7]), gd 17 true (i' 22 (.unOp .not Zbm (q 21))), i' 23 (.pick (q 17) (q 22) (kb false)), mv 24 23, gd 24 true (fa 25 Zq 3 1), gd 24 true (fa 26 Zan 25 1), gd 24 true (ld 27 Zp 26), gd 24 true (ca 28 Zhb #[q 27] #[Zp]), i' 29 (.pick (q 24) (q 28) (kb false)), mv 30 29, gd 30 true (ld 31 Za5 2), gd 30 true (fa 32 Zq 3 1), gd 30 true (fa 33 Zan 32 0), gd 30 true (ld 34 Zbm 33), gd 30 true (fa 35 Zq 3 1), gd 30 true (fa 36 Zan 35 2), gd 30 true (ld 37 Zv 36), gd 30 true (ca 38 Zhw #[q 31, q 34, q 37] #[Za5, Zbm, Zv]), i' 39 (.pick (q 30) (q 38) (kb false)), as' 4 39]) .ret))
theorem Zabn : Tryz.f44.body.map (comp ES Zgw) = some Zpn := by kernel_rfl
theorem Zad9 (t0 t1 : SV) (M : Mem) : ICw ES Zgw [t0, t1] M = Zx ES [.tmp 4] (evW ES Zgw Zpn ⟨[t0, t1, .Z, .Z, .Z, .Z, .Z, .Z, .Z, .Z, .Z, .Z, .Z, .Z, .Z, .Z, .Z, .Z, .Z, .Z, .Z, .Z, .Z, .Z, .Z, .Z, .Z, .Z, .Z, .Z, .Z, .Z, .Z, .Z, .Z, .Z, .Z, .Z, .Z, .Z], M⟩) :=
  Zab rfl Tryz.func44 Zabn (by kernel_rfl) (by kernel_rfl) (by kernel_rfl) M
@[simp] theorem Zpg : CX ES Zgw Zai := cx rfl
@[simp] theorem Z6w : CX ES Zgw Zet := cx rfl
@[simp] theorem Z8i : CX ES Zgw Zhb := cx rfl
@[simp] theorem Zaa5 : CX ES Zgw Zhw := cx rfl

/-! drumline/power.index -/
def Zr3 : C :=
  (.seq (rg 1 0 [] [i' 4 (.assign (kb false))]) (.seq (rg 8 0 [] [mv 5 0, bi 6 .geq Zc (q 5) (ki 0) Zc, mv 7 6, gd 7 true (mv 8 0), gd 7 true (mv 9 1), gd 7 true (bi 10 .lss Zc (q 8) (q 9) Zc), i' 11 (.pick (q 7) (q 10) (kb false)), as' 4 11]) .ret))
theorem Z18 : Tryz.f45.body.map (comp ES Zfc) = some Zr3 := by kernel_rfl
theorem Z5v (t0 t1 : SV) (M : Mem) : ICw ES Zfc [t0, t1] M = Zx ES [.tmp 4] (evW ES Zfc Zr3 ⟨[t0, t1, .Z, .Z, .Z, .Z, .Z, .Z, .Z, .Z, .Z, .Z], M⟩) :=
  Zab rfl Tryz.func45 Z18 (by kernel_rfl) (by kernel_rfl) (by kernel_rfl) M

/-! slices.Clone[[]drumline/api.Node,drumline/api.Node] -/
def Zbw : C :=
  (.seq (rg 1 0 [] [i' 2 (.assign (.const (.slice none 0 0)))]) (.seq (.seq (rg 2 0 [] [mv 3 0, bi 4 .eql Zj (q 3) (.const (.slice none 0 0)) Zj]) (.cond (q 4) (.seq (rg 1 0 [] [i' 2 (.assign (.const (.slice none 0 0)))]) .ret) .skip)) (.seq (rg 4 4 [] [i' 5 (.buildSlice Zj 0 #[]), mv 6 0, i' 7 (.call { callee := .builtin .append, args := #[q 5, q 6], argTypes := #[Zj, Zj] }), as' 2 7]) .ret)))
theorem Zln : Tryz.f46.body.map (comp ES Za7) = some Zbw := by kernel_rfl
theorem Zl3 (t0 : SV) (M : Mem) : ICw ES Za7 [t0] M = Zx ES [.tmp 2] (evW ES Za7 Zbw ⟨[t0, .Z, .Z, .Z, .Z, .Z, .Z, .Z], M⟩) :=
  Zab rfl Tryz.func46 Zln (by kernel_rfl) (by kernel_rfl) (by kernel_rfl) M

/-! slices.Clone[[]int,int] -/
def Zdu : C :=
  (.seq (rg 1 0 [] [i' 2 (.assign (.const (.slice none 0 0)))]) (.seq (.seq (rg 2 0 [] [mv 3 0, bi 4 .eql Zv (q 3) (.const (.slice none 0 0)) Zv]) (.cond (q 4) (.seq (rg 1 0 [] [i' 2 (.assign (.const (.slice none 0 0)))]) .ret) .skip)) (.seq (rg 4 4 [] [i' 5 (.buildSlice Zv 0 #[]), mv 6 0, i' 7 (.call { callee := .builtin .append, args := #[q 5, q 6], argTypes := #[Zv, Zv] }), as' 2 7]) .ret)))
theorem Zqj : Tryz.f47.body.map (comp ES Zbt) = some Zdu := by kernel_rfl
theorem Zlm (t0 : SV) (M : Mem) : ICw ES Zbt [t0] M = Zx ES [.tmp 2] (evW ES Zbt Zdu ⟨[t0, .Z, .Z, .Z, .Z, .Z, .Z, .Z], M⟩) :=
  Zab rfl Tryz.func47 Zqj (by kernel_rfl) (by kernel_rfl) (by kernel_rfl) M

/-! drumline/drumlineref5.is -/
def Zadr : C :=
  (.seq (rg 1 0 [] [i' 4 (.assign (kb false))]) (.seq (rg 8 0 [] [mv 5 0, bi 6 .geq Zc (q 5) (ki 0) Zc, mv 7 6, gd 7 true (mv 8 0), gd 7 true (mv 9 1), gd 7 true (bi 10 .lss Zc (q 8) (q 9) Zc), i' 11 (.pick (q 7) (q 10) (kb false)), as' 4 11]) .ret))
theorem Zapk : Tryz.f48.body.map (comp ES Znx) = some Zadr := by kernel_rfl
theorem Zasv (t0 t1 : SV) (M : Mem) : ICw ES Znx [t0, t1] M = Zx ES [.tmp 4] (evW ES Znx Zadr ⟨[t0, t1, .Z, .Z, .Z, .Z, .Z, .Z, .Z, .Z, .Z, .Z], M⟩) :=
  Zab rfl Tryz.func48 Zapk (by kernel_rfl) (by kernel_rfl) (by kernel_rfl) M

/-! drumline/drumlineref17.Right -/
def Zlg : C :=
  (.seq (.seq (rg 5 0 [24, 25, 26, 27] [mv 24 7, fa 25 Zq 5 0, ld 26 Zj 25, le' 27 26 Zj, bi 28 .lss Zc (q 24) (q 27) Zc]) (.cond (q 28) .skip (.exit 0))) (.seq (.block 1 (.seq (rg 8 0 [28, 31, 32, 33, 34, 35, 36, 37] [ld 31 Za 3, fa 32 Zq 5 0, ld 33 Zj 32, mv 34 7, i' 35 (.indexAddr Zj (q 33) (q 34)), ld 36 Zh 35, ca 37 Zj7 #[q 31, q 36] #[Za, Zh], i' 38 (.unOp .not Zbm (q 37))]) (.cond (q 38) (.seq (rg 1 0 [3, 5, 7, 38] [i' 6 (.assign (kb false))]) .ret) .skip))) (rg 3 0 [29, 30, 38] [mv 29 7, bi 30 .add Zc (q 29) (ki 1) Zc, as' 7 30])))
def Zq9 : C := .loop Zlg
/-- What is live at the loop's head: t3 c, t5 x, t7 i -/
abbrev Zhe (t3 t5 t7 : SV) : List SV := [.Z, .Z, .Z, t3, .Z, t5, .Z, t7, .Z, .Z, .Z, .Z, .Z, .Z, .Z, .Z, .Z, .Z, .Z, .Z, .Z, .Z, .Z, .Z, .Z, .Z, .Z, .Z, .Z, .Z, .Z, .Z, .Z, .Z, .Z, .Z, .Z, .Z, .Z, .Z, .Z, .Z, .Z, .Z, .Z, .Z, .Z, .Z, .Z, .Z, .Z, .Z, .Z]
def Zp6 : C :=
  (.seq (rg 3 3 [0, 2, 6] [i' 3 (.box Za (q 0)), i' 5 (.box Zq (q 2)), i' 6 (.assign (kb false))]) (.seq (.seq (rg 16 0 [1, 8, 9, 10, 11, 12, 13, 14, 15, 16, 17, 18, 19, 20, 21, 22] [ld 8 Za 3, mv 9 1, ca 10 Zjo #[q 8, q 9] #[Za, Zc], i' 11 (.unOp .not Zbm (q 10)), mv 12 11, gd 12 false (fa 13 Zq 5 0), gd 12 false (ld 14 Zj 13), gd 12 false (le' 15 14 Zj), gd 12 false (fa 16 Za 3 0), gd 12 false (ld 17 Zm 16), gd 12 false (mv 18 1), gd 12 false (i' 19 (.indexAddr Zm (q 17) (q 18))), gd 12 false (fa 20 Zaz 19 0), gd 12 false (ld 21 Zc 20), gd 12 false (bi 22 .neq Zc (q 15) (q 21) Zc), i' 23 (.pick (q 12) (kb true) (q 22))]) (.cond (q 23) (.seq (rg 1 0 [3, 5, 23] [i' 6 (.assign (kb false))]) .ret) .skip)) (.seq (.seq (rg 1 0 [23] [i' 7 (.assign (ki 0))]) (.block 0 Zq9)) (.seq (rg 15 0 [3, 5, 7, 28, 39, 40, 41, 42, 43, 44, 45, 46, 47, 48, 49, 50, 51, 52] [fa 39 Zq 5 1, fa 40 Zan 39 1, ld 41 Zp 40, ca 42 Zmp #[q 41] #[Zp], mv 43 42, gd 43 true (ld 44 Za 3), gd 43 true (fa 45 Zq 5 1), gd 43 true (fa 46 Zan 45 2), gd 43 true (ld 47 Zv 46), gd 43 true (fa 48 Zq 5 1), gd 43 true (fa 49 Zan 48 0), gd 43 true (ld 50 Zbm 49), gd 43 true (ca 51 Zje #[q 44, q 47, q 50] #[Za, Zv, Zbm]), i' 52 (.pick (q 43) (q 51) (kb false)), as' 6 52]) .ret))))
theorem Z9o : Tryz.f49.body.map (comp ES Zf1) = some Zp6 := by kernel_rfl
theorem Zad0 (t0 t1 t2 : SV) (M : Mem) : ICw ES Zf1 [t0, t1, t2] M = Zx ES [.tmp 6] (evW ES Zf1 Zp6 ⟨[t0, t1, t2, .Z, .Z, .Z, .Z, .Z, .Z, .Z, .Z, .Z, .Z, .Z, .Z, .Z, .Z, .Z, .Z, .Z, .Z, .Z, .Z, .Z, .Z, .Z, .Z, .Z, .Z, .Z, .Z, .Z, .Z, .Z, .Z, .Z, .Z, .Z, .Z, .Z, .Z, .Z, .Z, .Z, .Z, .Z, .Z, .Z, .Z, .Z, .Z, .Z, .Z], M⟩) :=
  Zab rfl Tryz.func49 Z9o (by kernel_rfl) (by kernel_rfl) (by kernel_rfl) M
@[simp] theorem Zag0 : CX ES Zf1 Zjo := cx rfl
@[simp] theorem Z9q : CX ES Zf1 Zj7 := cx rfl
@[simp] theorem Zad7 : CX ES Zf1 Zmp := cx rfl
@[simp] theorem Zacn : CX ES Zf1 Zje := cx rfl

/-! drumline/drumlineref10.SameGuard -/
def Zpy : C :=
  (.seq (rg 3 3 [] [i' 2 (.box Zan (q 0)), i' 3 (.box Zan (q 1)), i' 4 (.assign (kb false))]) (.seq (rg 20 0 [] [fa 5 Zan 2 0, ld 6 Zbm 5, fa 7 Zan 3 0, ld 8 Zbm 7, bi 9 .eql Zbm (q 6) (q 8) Zbm, mv 10 9, gd 10 true (fa 11 Zan 2 1), gd 10 true (ld 12 Zp 11), gd 10 true (fa 13 Zan 3 1), gd 10 true (ld 14 Zp 13), gd 10 true (bi 15 .eql Zp (q 12) (q 14) Zp), i' 16 (.pick (q 10) (q 15) (kb false)), mv 17 16, gd 17 true (fa 18 Zan 2 2), gd 17 true (ld 19 Zv 18), gd 17 true (fa 20 Zan 3 2), gd 17 true (ld 21 Zv 20), gd 17 true (ca 22 Zgc #[q 19, q 21] #[Zv, Zv]), i' 23 (.pick (q 17) (q 22) (kb false)), as' 4 23]) .ret))
theorem Zxp : Tryz.f50.body.map (comp ES Zgr) = some Zpy := by kernel_rfl
theorem Z0y (t0 t1 : SV) (M : Mem) : ICw ES Zgr [t0, t1] M = Zx ES [.tmp 4] (evW ES Zgr Zpy ⟨[t0, t1, .Z, .Z, .Z, .Z, .Z, .Z, .Z, .Z, .Z, .Z, .Z, .Z, .Z, .Z, .Z, .Z, .Z, .Z, .Z, .Z, .Z, .Z], M⟩) :=
  Zab rfl Tryz.func50 Zxp (by kernel_rfl) (by kernel_rfl) (by kernel_rfl) M
@[simp] theorem Zy6 : CX ES Zgr Zgc := cx rfl

/-! drumline/drumlineref17.New -/
def Z1m : C :=
  (.seq (rg 2 2 [] [i' 2 (.box Za (q 0)), i' 4 (.alloc Zq)]) (.seq (.seq (rg 4 0 [] [ld 5 Za 2, mv 6 1, ca 7 Zjo #[q 5, q 6] #[Za, Zc], i' 8 (.unOp .not Zbm (q 7))]) (.cond (q 8) (.seq (rg 2 0 [] [i' 9 (.build Zq #[]), ⟨none, .store Zq (q 4) (q 9), none, none⟩]) .ret) .skip)) (.seq (rg 9 9 [] [fa 10 Za 2 0, ld 11 Zm 10, mv 12 1, i' 13 (.indexAddr Zm (q 11) (q 12)), fa 14 Zaz 13 0, ld 15 Zc 14, i' 16 (.makeSlice Zj (q 15) (q 15)), i' 17 (.build Zq #[(0, q 16)]), ⟨none, .store Zq (q 4) (q 17), none, none⟩]) .ret)))
theorem Zajb : Tryz.f51.body.map (comp ES Zpl) = some Z1m := by kernel_rfl
theorem Zal8 (t0 t1 : SV) (M : Mem) : ICw ES Zpl [t0, t1] M = Zx ES [.cell 4 Zq] (evW ES Zpl Z1m ⟨[t0, t1, .Z, .Z, .Z, .Z, .Z, .Z, .Z, .Z, .Z, .Z, .Z, .Z, .Z, .Z, .Z, .Z], M⟩) :=
  Zab rfl Tryz.func51 Zajb (by kernel_rfl) (by kernel_rfl) (by kernel_rfl) M
@[simp] theorem Zakk : CX ES Zpl Zjo := cx rfl

/-! drumline/drumlinelaw19.held -/
def Zti : C :=
  (.seq (rg 3 3 [] [i' 2 (.box Za (q 0)), i' 3 (.box Zh (q 1)), i' 4 (.alloc Zh)]) (.seq (rg 6 0 [] [fa 5 Zh 3 0, ld 6 Zc 5, bi 7 .and Zc (q 6) (ki 3) Zc, bi 8 .rem Zc (q 7) (ki 3) Zc, fa 9 Zh 3 0, ⟨none, .store Zc (q 9) (q 8), none, none⟩]) (.seq (rg 8 0 [] [fa 10 Zh 3 2, ld 11 Zc 10, fa 12 Za 2 6, ld 13 Zc 12, bi 14 .add Zc (q 13) (ki 1) Zc, bi 15 .rem Zc (q 11) (q 14) Zc, fa 16 Zh 3 2, ⟨none, .store Zc (q 16) (q 15), none, none⟩]) (.seq (rg 5 0 [] [fa 17 Zh 3 3, ld 18 Zp 17, bi 19 .rem Zp (q 18) (ki 2147483648) Zp, fa 20 Zh 3 3, ⟨none, .store Zp (q 20) (q 19), none, none⟩]) (.seq (rg 5 0 [] [fa 21 Zh 3 1, ld 22 Zc 21, bi 23 .and Zc (q 22) (ki 31) Zc, fa 24 Zh 3 1, ⟨none, .store Zc (q 24) (q 23), none, none⟩]) (.seq (rg 5 0 [] [fa 25 Zh 3 4, ld 26 Zp 25, bi 27 .and Zp (q 26) (ki 274877906943) Zp, fa 28 Zh 3 4, ⟨none, .store Zp (q 28) (q 27), none, none⟩]) (.seq (rg 5 0 [] [fa 29 Zh 3 6, ld 30 Zc 29, bi 31 .and Zc (q 30) (ki 4095) Zc, fa 32 Zh 3 6, ⟨none, .store Zc (q 32) (q 31), none, none⟩]) (.seq (rg 5 0 [] [fa 33 Zh 3 7, ld 34 Zc 33, bi 35 .and Zc (q 34) (ki 1023) Zc, fa 36 Zh 3 7, ⟨none, .store Zc (q 36) (q 35), none, none⟩]) (.seq (.seq (rg 3 0 [] [fa 37 Zh 3 0, ld 38 Zc 37, bi 39 .eql Zc (q 38) (ki 2) Zc]) (.cond (q 39) (rg 6 0 [] [ld 40 Za 2, fa 41 Zh 3 5, ld 42 Zv 41, ca 43 Zeo #[q 40, q 42] #[Za, Zv], fa 44 Zh 3 5, ⟨none, .store Zv (q 44) (q 43), none, none⟩]) (rg 2 0 [] [fa 45 Zh 3 5, ⟨none, .store Zv (q 45) (.const (.slice none 0 0)), none, none⟩]))) (.seq (rg 2 0 [] [ld 46 Zh 3, ⟨none, .store Zh (q 4) (q 46), none, none⟩]) .ret))))))))))
theorem Zaec : Tryz.f52.body.map (comp ES Zkw) = some Zti := by kernel_rfl
theorem Z4f (t0 t1 : SV) (M : Mem) : ICw ES Zkw [t0, t1] M = Zx ES [.cell 4 Zh] (evW ES Zkw Zti ⟨[t0, t1, .Z, .Z, .Z, .Z, .Z, .Z, .Z, .Z, .Z, .Z, .Z, .Z, .Z, .Z, .Z, .Z, .Z, .Z, .Z, .Z, .Z, .Z, .Z, .Z, .Z, .Z, .Z, .Z, .Z, .Z, .Z, .Z, .Z, .Z, .Z, .Z, .Z, .Z, .Z, .Z, .Z, .Z, .Z, .Z, .Z], M⟩) :=
  Zab rfl Tryz.func52 Zaec (by kernel_rfl) (by kernel_rfl) (by kernel_rfl) M
@[simp] theorem Zach : CX ES Zkw Zeo := cx rfl

/-! drumline/drumlinelaw19.whole -/
def Zjl : C :=
  (.seq (.seq (rg 5 0 [8, 9, 10, 11] [mv 8 6, fa 9 Za 2 0, ld 10 Zm 9, le' 11 10 Zm, bi 12 .lss Zc (q 8) (q 11) Zc]) (.cond (q 12) .skip (.exit 0))) (.seq (.block 1 (.seq (rg 1 0 [12] [i' 7 (.assign (ki 1))]) (.seq (.seq (rg 4 0 [15, 16, 17] [mv 15 6, mv 16 1, le' 17 16 Zv, bi 18 .lss Zc (q 15) (q 17) Zc]) (.cond (q 18) (rg 9 0 [18, 19, 20, 21, 22, 23, 24, 25, 26] [mv 19 1, mv 20 6, i' 21 (.indexAddr Zv (q 19) (q 20)), ld 22 Zc 21, i' 23 (.call { callee := .builtin .max, args := #[q 22, (ki 0)], argTypes := #[Zc, Zc] }), ld 24 Za 2, ca 25 Zld #[q 24] #[Za], i' 26 (.call { callee := .builtin .min, args := #[q 23, q 25], argTypes := #[Zc, Zc] }), as' 7 26]) .skip)) (rg 5 5 [7, 18, 27, 28, 29, 30] [mv 27 5, mv 28 7, i' 29 (.buildSlice Zv 1 #[(0, q 28)]), i' 30 (.call { callee := .builtin .append, args := #[q 27, q 29], argTypes := #[Zv, Zv] }), as' 5 30])))) (rg 3 0 [13, 14] [mv 13 6, bi 14 .add Zc (q 13) (ki 1) Zc, as' 6 14])))
def Zt7 : C := .loop Zjl
/-- What is live at the loop's head: t1 l, t2 c, t5 out, t6 i -/
abbrev Zhj (t1 t2 t5 t6 : SV) : List SV := [.Z, t1, t2, .Z, .Z, t5, t6, .Z, .Z, .Z, .Z, .Z, .Z, .Z, .Z, .Z, .Z, .Z, .Z, .Z, .Z, .Z, .Z, .Z, .Z, .Z, .Z, .Z, .Z, .Z, .Z, .Z]
def Zue : C :=
  (.seq (rg 2 2 [0, 4] [i' 2 (.box Za (q 0)), i' 4 (.assign (.const (.slice none 0 0)))]) (.seq (rg 1 0 [] [i' 5 (.assign (.const (.slice none 0 0)))]) (.seq (.seq (rg 1 0 [] [i' 6 (.assign (ki 0))]) (.block 0 Zt7)) (.seq (rg 2 0 [1, 2, 5, 6, 12, 31] [mv 31 5, as' 4 31]) .ret))))
theorem Zaar : Tryz.f53.body.map (comp ES Zeo) = some Zue := by kernel_rfl
theorem Zaeh (t0 t1 : SV) (M : Mem) : ICw ES Zeo [t0, t1] M = Zx ES [.tmp 4] (evW ES Zeo Zue ⟨[t0, t1, .Z, .Z, .Z, .Z, .Z, .Z, .Z, .Z, .Z, .Z, .Z, .Z, .Z, .Z, .Z, .Z, .Z, .Z, .Z, .Z, .Z, .Z, .Z, .Z, .Z, .Z, .Z, .Z, .Z, .Z], M⟩) :=
  Zab rfl Tryz.func53 Zaar (by kernel_rfl) (by kernel_rfl) (by kernel_rfl) M
@[simp] theorem Zae9 : CX ES Zeo Zld := cx rfl

/-! drumline/bounds.Fits -/
def Zmw : C :=
  (.seq (rg 3 3 [] [i' 1 (.box Za (q 0)), i' 2 (.assign (ki 0)), i' 3 (.assign (ki 0))]) (.seq (.seq (rg 7 0 [] [ld 9 Za 1, ca 10 Zfo #[q 9] #[Za], mv 8 10, xt 11 8 0, xt 12 8 1, as' 4 11, as' 5 12]) (.seq (rg 2 0 [] [mv 13 4, bi 14 .neq Zby (q 13) (ki 0) Zby]) (.cond (q 14) (.seq (rg 4 0 [] [mv 15 4, mv 16 5, as' 2 15, as' 3 16]) .ret) .skip))) (.seq (rg 3 0 [] [ld 17 Za 1, ca 18 Zbn #[q 17] #[Za], as' 6 18]) (.seq (rg 1 1 [] [i' 7 (.alloc Zbo)]) (.seq (.seq (rg 8 8 [] [mv 19 6, i' 20 (.makeInterface Zeq (q 7)), ca 21 Zgt #[q 19, q 20] #[Zj9, Zr2], mv 22 21, gd 22 true (mv 23 6), gd 22 true (i' 24 (.load Zj9 (.global 0))), gd 22 true (ca 25 Zi0 #[q 23, q 24] #[Zj9, Zj9]), i' 26 (.pick (q 22) (q 25) (kb false))]) (.cond (q 26) (.seq (rg 6 0 [] [ld 27 Zbo 7, i' 28 (.nilCheck (q 27)), fa 29 Zjk 28 0, ld 30 Zc 29, i' 2 (.assign (ki 14)), as' 3 30]) .ret) .skip)) (.seq (rg 2 0 [] [i' 2 (.assign (ki 0)), i' 3 (.assign (ki 0))]) .ret))))))
theorem Z2l : Tryz.f54.body.map (comp ES Zdz) = some Zmw := by kernel_rfl
theorem Z7y (t0 : SV) (M : Mem) : ICw ES Zdz [t0] M = Zx ES [.tmp 2, .tmp 3] (evW ES Zdz Zmw ⟨[t0, .Z, .Z, .Z, .Z, .Z, .Z, .Z, .Z, .Z, .Z, .Z, .Z, .Z, .Z, .Z, .Z, .Z, .Z, .Z, .Z, .Z, .Z, .Z, .Z, .Z, .Z, .Z, .Z, .Z, .Z], M⟩) :=
  Zab rfl Tryz.func54 Z2l (by kernel_rfl) (by kernel_rfl) (by kernel_rfl) M
@[simp] theorem Z41 : CX ES Zdz Zfo := cx rfl
@[simp] theorem Z3c : CX ES Zdz Zbn := cx rfl
@[simp] theorem Z7s : CI ES Zdz Zgt := ci rfl
@[simp] theorem Z5t : CI ES Zdz Zi0 := ci rfl

/-! drumline/drumlineref5.Check -/
def Zfj : C :=
  (.seq (.seq (rg 5 0 [20, 21, 22, 23] [mv 20 4, fa 21 Za 1 0, ld 22 Zm 21, le' 23 22 Zm, bi 24 .lss Zc (q 20) (q 23) Zc]) (.cond (q 24) .skip (.exit 0))) (.seq (.block 1 (.seq (rg 7 7 [24, 27, 28, 29, 30, 31] [fa 27 Za 1 0, ld 28 Zm 27, mv 29 4, i' 30 (.indexAddr Zm (q 28) (q 29)), ld 31 Zaz 30, i' 5 (.alloc Zaz), ⟨none, .store Zaz (q 5) (q 31), none, none⟩]) (.seq (rg 27 0 [5, 32, 33, 34, 35, 36, 37, 38, 39, 40, 41, 42, 43, 44, 45, 46, 47, 48, 49, 50, 51, 52, 53, 54, 55, 56, 57] [fa 32 Zaz 5 0, ld 33 Zc 32, bi 34 .lss Zc (q 33) (ki 1) Zc, mv 35 34, gd 35 false (fa 36 Zaz 5 0), gd 35 false (ld 37 Zc 36), gd 35 false (bi 38 .gtr Zc (q 37) (ki 12) Zc), i' 39 (.pick (q 35) (kb true) (q 38)), mv 40 39, gd 40 false (fa 41 Zaz 5 1), gd 40 false (ld 42 Zc 41), gd 40 false (bi 43 .lss Zc (q 42) (ki 0) Zc), i' 44 (.pick (q 40) (kb true) (q 43)), mv 45 44, gd 45 false (fa 46 Zaz 5 1), gd 45 false (ld 47 Zc 46), gd 45 false (bi 48 .gtr Zc (q 47) (ki 3) Zc), i' 49 (.pick (q 45) (kb true) (q 48)), mv 50 49, gd 50 false (fa 51 Zaz 5 0), gd 50 false (ld 52 Zc 51), gd 50 false (fa 53 Zaz 5 1), gd 50 false (ld 54 Zc 53), gd 50 false (bi 55 .mul Zc (ki 3) (q 54) Zc), gd 50 false (bi 56 .add Zc (q 55) (ki 1) Zc), gd 50 false (bi 57 .lss Zc (q 52) (q 56) Zc), i' 58 (.pick (q 50) (kb true) (q 57))]) (.cond (q 58) (.seq (rg 3 0 [1, 4, 58, 59] [mv 59 4, i' 2 (.assign (ki 8)), as' 3 59]) .ret) .skip)))) (rg 3 0 [25, 26, 58] [mv 25 4, bi 26 .add Zc (q 25) (ki 1) Zc, as' 4 26])))
def Zvk : C := .loop Zfj
/-- What is live at the loop's head: t1 c, t4 i -/
abbrev Zcl (t1 t4 : SV) : List SV := [.Z, t1, .Z, .Z, t4, .Z, .Z, .Z, .Z, .Z, .Z, .Z, .Z, .Z, .Z, .Z, .Z, .Z, .Z, .Z, .Z, .Z, .Z, .Z, .Z, .Z, .Z, .Z, .Z, .Z, .Z, .Z, .Z, .Z, .Z, .Z, .Z, .Z, .Z, .Z, .Z, .Z, .Z, .Z, .Z, .Z, .Z, .Z, .Z, .Z, .Z, .Z, .Z, .Z, .Z, .Z, .Z, .Z, .Z, .Z, .Z, .Z, .Z, .Z, .Z, .Z, .Z, .Z, .Z, .Z, .Z, .Z, .Z, .Z, .Z, .Z, .Z, .Z, .Z, .Z, .Z, .Z, .Z, .Z, .Z, .Z, .Z, .Z, .Z, .Z, .Z, .Z]
def Zm3 : C :=
  (.seq (.seq (rg 5 0 [64, 65, 66, 67] [mv 64 6, fa 65 Za 1 1, ld 66 Zr 65, le' 67 66 Zr, bi 68 .lss Zc (q 64) (q 67) Zc]) (.cond (q 68) .skip (.exit 2))) (.seq (.block 3 (.seq (rg 4 0 [68, 71, 72, 73] [ld 71 Za 1, mv 72 6, ca 73 Zmm #[q 71, q 72] #[Za, Zc], as' 7 73]) (.seq (rg 2 0 [74] [mv 74 7, bi 75 .neq Zby (q 74) (ki 0) Zby]) (.cond (q 75) (.seq (rg 4 0 [1, 6, 7, 75, 76, 77] [mv 76 7, mv 77 6, as' 2 76, as' 3 77]) .ret) .skip)))) (rg 3 0 [7, 69, 70, 75] [mv 69 6, bi 70 .add Zc (q 69) (ki 1) Zc, as' 6 70])))
def Zuz : C := .loop Zm3
/-- What is live at the loop's head: t1 c, t6 i -/
abbrev Zft (t1 t6 : SV) : List SV := [.Z, t1, .Z, .Z, .Z, .Z, t6, .Z, .Z, .Z, .Z, .Z, .Z, .Z, .Z, .Z, .Z, .Z, .Z, .Z, .Z, .Z, .Z, .Z, .Z, .Z, .Z, .Z, .Z, .Z, .Z, .Z, .Z, .Z, .Z, .Z, .Z, .Z, .Z, .Z, .Z, .Z, .Z, .Z, .Z, .Z, .Z, .Z, .Z, .Z, .Z, .Z, .Z, .Z, .Z, .Z, .Z, .Z, .Z, .Z, .Z, .Z, .Z, .Z, .Z, .Z, .Z, .Z, .Z, .Z, .Z, .Z, .Z, .Z, .Z, .Z, .Z, .Z, .Z, .Z, .Z, .Z, .Z, .Z, .Z, .Z, .Z, .Z, .Z, .Z, .Z, .Z]
def Zm9 : C :=
  (.seq (.seq (rg 4 0 [80, 81, 82] [mv 80 9, mv 81 8, le' 82 81 Zv, bi 83 .lss Zc (q 80) (q 82) Zc]) (.cond (q 83) .skip (.exit 4))) (.seq (.block 5 (.seq (rg 5 0 [83, 86, 87, 88, 89] [mv 86 8, mv 87 9, i' 88 (.indexAddr Zv (q 86) (q 87)), ld 89 Zc 88, bi 90 .lss Zc (q 89) (ki 0) Zc]) (.cond (q 90) (.seq (rg 3 0 [8, 9, 90, 91] [mv 91 9, i' 2 (.assign (ki 13)), as' 3 91]) .ret) .skip))) (rg 3 0 [84, 85, 90] [mv 84 9, bi 85 .add Zc (q 84) (ki 1) Zc, as' 9 85])))
def Zvw : C := .loop Zm9
/-- What is live at the loop's head: t8 d, t9 i -/
abbrev Zfq (t8 t9 : SV) : List SV := [.Z, .Z, .Z, .Z, .Z, .Z, .Z, .Z, t8, t9, .Z, .Z, .Z, .Z, .Z, .Z, .Z, .Z, .Z, .Z, .Z, .Z, .Z, .Z, .Z, .Z, .Z, .Z, .Z, .Z, .Z, .Z, .Z, .Z, .Z, .Z, .Z, .Z, .Z, .Z, .Z, .Z, .Z, .Z, .Z, .Z, .Z, .Z, .Z, .Z, .Z, .Z, .Z, .Z, .Z, .Z, .Z, .Z, .Z, .Z, .Z, .Z, .Z, .Z, .Z, .Z, .Z, .Z, .Z, .Z, .Z, .Z, .Z, .Z, .Z, .Z, .Z, .Z, .Z, .Z, .Z, .Z, .Z, .Z, .Z, .Z, .Z, .Z, .Z, .Z, .Z, .Z]
def Zk5 : C :=
  (.seq (rg 3 3 [0, 2, 3] [i' 1 (.box Za (q 0)), i' 2 (.assign (ki 0)), i' 3 (.assign (ki 0))]) (.seq (.seq (rg 10 0 [10, 11, 12, 13, 14, 15, 16, 17, 18] [fa 10 Za 1 0, ld 11 Zm 10, le' 12 11 Zm, bi 13 .lss Zc (q 12) (ki 1) Zc, mv 14 13, gd 14 false (fa 15 Za 1 0), gd 14 false (ld 16 Zm 15), gd 14 false (le' 17 16 Zm), gd 14 false (bi 18 .gtr Zc (q 17) (ki 6) Zc), i' 19 (.pick (q 14) (kb true) (q 18))]) (.cond (q 19) (.seq (rg 2 0 [1, 19] [i' 2 (.assign (ki 7)), i' 3 (.assign (ki 0))]) .ret) .skip)) (.seq (.seq (rg 1 0 [19] [i' 4 (.assign (ki 0))]) (.block 0 Zvk)) (.seq (.seq (rg 4 0 [4, 24, 60, 61, 62] [fa 60 Za 1 1, ld 61 Zr 60, le' 62 61 Zr, bi 63 .gtr Zc (q 62) (ki 10) Zc]) (.cond (q 63) (.seq (rg 2 0 [1, 63] [i' 2 (.assign (ki 9)), i' 3 (.assign (ki 0))]) .ret) .skip)) (.seq (.seq (rg 1 0 [63] [i' 6 (.assign (ki 0))]) (.block 2 Zuz)) (.seq (rg 3 0 [1, 6, 68, 78, 79] [ld 78 Za 1, ca 79 Zg2 #[q 78, (ki 0)] #[Za, Zc], as' 8 79]) (.seq (.seq (rg 1 0 [] [i' 9 (.assign (ki 0))]) (.block 4 Zvw)) (.seq (rg 2 0 [8, 9, 83] [i' 2 (.assign (ki 0)), i' 3 (.assign (ki 0))]) .ret))))))))
theorem Zadc : Tryz.f55.body.map (comp ES Zee) = some Zk5 := by kernel_rfl
theorem Zai3 (t0 : SV) (M : Mem) : ICw ES Zee [t0] M = Zx ES [.tmp 2, .tmp 3] (evW ES Zee Zk5 ⟨[t0, .Z, .Z, .Z, .Z, .Z, .Z, .Z, .Z, .Z, .Z, .Z, .Z, .Z, .Z, .Z, .Z, .Z, .Z, .Z, .Z, .Z, .Z, .Z, .Z, .Z, .Z, .Z, .Z, .Z, .Z, .Z, .Z, .Z, .Z, .Z, .Z, .Z, .Z, .Z, .Z, .Z, .Z, .Z, .Z, .Z, .Z, .Z, .Z, .Z, .Z, .Z, .Z, .Z, .Z, .Z, .Z, .Z, .Z, .Z, .Z, .Z, .Z, .Z, .Z, .Z, .Z, .Z, .Z, .Z, .Z, .Z, .Z, .Z, .Z, .Z, .Z, .Z, .Z, .Z, .Z, .Z, .Z, .Z, .Z, .Z, .Z, .Z, .Z, .Z, .Z, .Z], M⟩) :=
  Zab rfl Tryz.func55 Zadc (by kernel_rfl) (by kernel_rfl) (by kernel_rfl) M
@[simp] theorem Zagi : CX ES Zee Zmm := cx rfl
@[simp] theorem Zadd : CX ES Zee Zg2 := cx rfl

/-! drumline/drumlineref5.out -/
def Zk6 : C :=
  (.seq (rg 2 2 [] [i' 1 (.box Za (q 0)), i' 2 (.assign (ki 0))]) (.seq (.block 0 (.seq (rg 9 0 [] [fa 4 Za 1 2, ld 5 Zc 4, bi 6 .lss Zc (q 5) (ki 1000) Zc, mv 7 6, gd 7 false (fa 8 Za 1 2), gd 7 false (ld 9 Zc 8), gd 7 false (bi 10 .gtr Zc (q 9) (ki 1000000) Zc), i' 11 (.pick (q 7) (kb true) (q 10)), as' 3 11]) (.cond (q 3) (.seq (rg 1 0 [] [i' 2 (.assign (ki 1))]) .ret) (.seq (rg 9 0 [] [fa 13 Za 1 6, ld 14 Zc 13, bi 15 .lss Zc (q 14) (ki 0) Zc, mv 16 15, gd 16 false (fa 17 Za 1 6), gd 16 false (ld 18 Zc 17), gd 16 false (bi 19 .gtr Zc (q 18) (ki 500) Zc), i' 20 (.pick (q 16) (kb true) (q 19)), as' 12 20]) (.cond (q 12) (.seq (rg 1 0 [] [i' 2 (.assign (ki 2))]) .ret) (.seq (rg 9 0 [] [fa 22 Za 1 7, ld 23 Zc 22, bi 24 .lss Zc (q 23) (ki 0) Zc, mv 25 24, gd 25 false (fa 26 Za 1 7), gd 25 false (ld 27 Zc 26), gd 25 false (bi 28 .gtr Zc (q 27) (ki 400000) Zc), i' 29 (.pick (q 25) (kb true) (q 28)), as' 21 29]) (.cond (q 21) (.seq (rg 1 0 [] [i' 2 (.assign (ki 3))]) .ret) (.seq (rg 9 0 [] [fa 31 Za 1 8, ld 32 Zc 31, bi 33 .lss Zc (q 32) (ki 1) Zc, mv 34 33, gd 34 false (fa 35 Za 1 8), gd 34 false (ld 36 Zc 35), gd 34 false (bi 37 .gtr Zc (q 36) (ki 200) Zc), i' 38 (.pick (q 34) (kb true) (q 37)), as' 30 38]) (.cond (q 30) (.seq (rg 1 0 [] [i' 2 (.assign (ki 4))]) .ret) (.seq (rg 9 0 [] [fa 40 Za 1 9, ld 41 Zc 40, bi 42 .lss Zc (q 41) (ki 0) Zc, mv 43 42, gd 43 false (fa 44 Za 1 9), gd 43 false (ld 45 Zc 44), gd 43 false (bi 46 .gtr Zc (q 45) (ki 20) Zc), i' 47 (.pick (q 43) (kb true) (q 46)), as' 39 47]) (.cond (q 39) (.seq (rg 1 0 [] [i' 2 (.assign (ki 5))]) .ret) .skip))))))))))) (.seq (rg 1 0 [] [i' 2 (.assign (ki 0))]) .ret)))
theorem Zanw : Tryz.f56.body.map (comp ES Zqt) = some Zk6 := by kernel_rfl
theorem Zap9 (t0 : SV) (M : Mem) : ICw ES Zqt [t0] M = Zx ES [.tmp 2] (evW ES Zqt Zk6 ⟨[t0, .Z, .Z, .Z, .Z, .Z, .Z, .Z, .Z, .Z, .Z, .Z, .Z, .Z, .Z, .Z, .Z, .Z, .Z, .Z, .Z, .Z, .Z, .Z, .Z, .Z, .Z, .Z, .Z, .Z, .Z, .Z, .Z, .Z, .Z, .Z, .Z, .Z, .Z, .Z, .Z, .Z, .Z, .Z, .Z, .Z, .Z, .Z], M⟩) :=
  Zab rfl Tryz.func56 Zanw (by kernel_rfl) (by kernel_rfl) (by kernel_rfl) M

/-! drumline/drumlineref5.fits -/
def Zl5 : C :=
  (.seq (.seq (rg 3 0 [51, 52] [mv 51 5, mv 52 3, bi 53 .lss Zc (q 51) (q 52) Zc]) (.cond (q 53) .skip (.exit 1))) (.seq (.block 2 (.seq (rg 23 0 [53, 56, 57, 58, 59, 60, 61, 62, 63, 64, 65, 66, 67, 68, 69, 70, 71, 72, 73, 74, 75, 76, 77] [fa 56 Za 1 3, ld 57 Zc 56, ld 58 Za 1, mv 59 5, ca 60 Zmc #[q 58, q 59] #[Za, Zc], bi 61 .mul Zc (ki 3) (q 60) Zc, fa 62 Za 1 0, ld 63 Zm 62, mv 64 5, i' 65 (.indexAddr Zm (q 63) (q 64)), fa 66 Zaz 65 0, ld 67 Zc 66, bi 68 .add Zc (q 61) (q 67) Zc, fa 69 Za 1 4, ld 70 Zc 69, bi 71 .mul Zc (q 68) (q 70) Zc, bi 72 .add Zc (q 57) (q 71) Zc, fa 73 Za 1 5, ld 74 Zc 73, bi 75 .add Zc (q 72) (q 74) Zc, fa 76 Za 1 2, ld 77 Zc 76, bi 78 .gtr Zc (q 75) (q 77) Zc]) (.cond (q 78) (.seq (rg 1 0 [1, 3, 4, 5, 78] [i' 2 (.assign (ki 9))]) .ret) .skip))) (rg 3 0 [54, 55, 78] [mv 54 5, bi 55 .add Zc (q 54) (ki 1) Zc, as' 5 55])))
def Zez : C := .loop Zl5
/-- What is live at the loop's head: t1 c, t3 parts, t4 calm, t5 i -/
abbrev Zgs (t1 t3 t4 t5 : SV) : List SV := [.Z, t1, .Z, t3, t4, t5, .Z, .Z, .Z, .Z, .Z, .Z, .Z, .Z, .Z, .Z, .Z, .Z, .Z, .Z, .Z, .Z, .Z, .Z, .Z, .Z, .Z, .Z, .Z, .Z, .Z, .Z, .Z, .Z, .Z, .Z, .Z, .Z, .Z, .Z, .Z, .Z, .Z, .Z, .Z, .Z, .Z, .Z, .Z, .Z, .Z, .Z, .Z, .Z, .Z, .Z, .Z, .Z, .Z, .Z, .Z, .Z, .Z, .Z, .Z, .Z, .Z, .Z, .Z, .Z, .Z, .Z, .Z, .Z, .Z, .Z, .Z, .Z, .Z, .Z, .Z, .Z, .Z, .Z, .Z, .Z, .Z, .Z, .Z, .Z, .Z, .Z, .Z, .Z, .Z, .Z, .Z, .Z, .Z, .Z, .Z, .Z, .Z, .Z, .Z, .Z, .Z, .Z, .Z, .Z, .Z, .Z, .Z, .Z, .Z, .Z, .Z, .Z, .Z, .Z, .Z, .Z, .Z, .Z, .Z, .Z, .Z, .Z, .Z, .Z, .Z, .Z, .Z, .Z, .Z, .Z, .Z, .Z, .Z, .Z]
def Zep : C :=
  (.seq (rg 2 2 [0, 2] [i' 1 (.box Za (q 0)), i' 2 (.assign (ki 0))]) (.seq (rg 4 0 [6, 7, 8] [fa 6 Za 1 0, ld 7 Zm 6, le' 8 7 Zm, as' 3 8]) (.seq (rg 7 0 [9, 10, 11, 12, 13, 14] [mv 9 3, fa 10 Za 1 9, ld 11 Zc 10, bi 12 .add Zc (q 11) (ki 1) Zc, bi 13 .mul Zc (q 9) (q 12) Zc, bi 14 .add Zc (q 13) (ki 2) Zc, as' 4 14]) (.seq (.block 0 (.seq (rg 12 0 [16, 17, 18, 19, 20, 21, 22, 23, 24, 25, 26] [fa 16 Za 1 5, ld 17 Zc 16, ld 18 Za 1, ca 19 Zib #[q 18] #[Za], bi 20 .mul Zc (ki 3) (q 19) Zc, bi 21 .lss Zc (q 17) (q 20) Zc, mv 22 21, gd 22 false (fa 23 Za 1 5), gd 22 false (ld 24 Zc 23), gd 22 false (bi 25 .gtr Zc (q 24) (ki 20000) Zc), i' 26 (.pick (q 22) (kb true) (q 25)), as' 15 26]) (.cond (q 15) (.seq (rg 1 0 [1, 3, 4, 15] [i' 2 (.assign (ki 6))]) .ret) (.seq (rg 13 0 [15, 28, 29, 30, 31, 32, 33, 34, 35, 36, 37, 38, 39] [fa 28 Za 1 4, ld 29 Zc 28, fa 30 Za 1 5, ld 31 Zc 30, bi 32 .mul Zc (ki 2) (q 31) Zc, bi 33 .add Zc (q 32) (ki 1) Zc, bi 34 .lss Zc (q 29) (q 33) Zc, mv 35 34, gd 35 false (fa 36 Za 1 4), gd 35 false (ld 37 Zc 36), gd 35 false (bi 38 .gtr Zc (q 37) (ki 1000000) Zc), i' 39 (.pick (q 35) (kb true) (q 38)), as' 27 39]) (.cond (q 27) (.seq (rg 1 0 [1, 3, 4, 27] [i' 2 (.assign (ki 7))]) .ret) (.seq (rg 11 0 [27, 41, 42, 43, 44, 45, 46, 47, 48, 49, 50] [fa 41 Za 1 3, ld 42 Zc 41, fa 43 Za 1 5, ld 44 Zc 43, bi 45 .lss Zc (q 42) (q 44) Zc, mv 46 45, gd 46 false (fa 47 Za 1 3), gd 46 false (ld 48 Zc 47), gd 46 false (bi 49 .gtr Zc (q 48) (ki 1000000) Zc), i' 50 (.pick (q 46) (kb true) (q 49)), as' 40 50]) (.cond (q 40) (.seq (rg 1 0 [1, 3, 4, 40] [i' 2 (.assign (ki 8))]) .ret) .skip))))))) (.seq (.seq (rg 1 0 [40] [i' 5 (.assign (ki 0))]) (.block 1 Zez)) (.seq (.block 3 (.seq (rg 10 0 [5, 53, 80, 81, 82, 83, 84, 85, 86, 87, 88] [fa 80 Za 1 7, ld 81 Zc 80, fa 82 Za 1 2, ld 83 Zc 82, bi 84 .mul Zp (q 81) (q 83) Zp, ld 85 Za 1, ca 86 Zoc #[q 85] #[Za], bi 87 .mul Zp (q 86) (ki 1000000) Zp, bi 88 .lss Zp (q 84) (q 87) Zp, as' 79 88]) (.cond (q 79) (.seq (rg 1 0 [1, 3, 4, 79] [i' 2 (.assign (ki 10))]) .ret) (.seq (rg 11 0 [79, 90, 91, 92, 93, 94, 95, 96, 97, 98, 99] [fa 90 Za 1 8, ld 91 Zc 90, mv 92 3, bi 93 .sub Zc (q 92) (ki 1) Zc, fa 94 Za 1 9, ld 95 Zc 94, bi 96 .add Zc (q 95) (ki 1) Zc, bi 97 .mul Zc (q 93) (q 96) Zc, bi 98 .add Zc (q 97) (ki 1) Zc, bi 99 .lss Zc (q 91) (q 98) Zc, as' 89 99]) (.cond (q 89) (.seq (rg 1 0 [1, 3, 4, 89] [i' 2 (.assign (ki 11))]) .ret) (.seq (rg 10 0 [89, 101, 102, 103, 104, 105, 106, 107, 108, 109] [fa 101 Za 1 10, ld 102 Zc 101, mv 103 4, bi 104 .lss Zc (q 102) (q 103) Zc, mv 105 104, gd 105 false (fa 106 Za 1 10), gd 105 false (ld 107 Zc 106), gd 105 false (bi 108 .gtr Zc (q 107) (ki 60000) Zc), i' 109 (.pick (q 105) (kb true) (q 108)), as' 100 109]) (.cond (q 100) (.seq (rg 1 0 [1, 3, 4, 100] [i' 2 (.assign (ki 12))]) .ret) (.seq (rg 10 0 [4, 100, 111, 112, 113, 114, 115, 116, 117, 118, 119] [fa 111 Za 1 11, ld 112 Zc 111, mv 113 4, bi 114 .lss Zc (q 112) (q 113) Zc, mv 115 114, gd 115 false (fa 116 Za 1 11), gd 115 false (ld 117 Zc 116), gd 115 false (bi 118 .gtr Zc (q 117) (ki 60000) Zc), i' 119 (.pick (q 115) (kb true) (q 118)), as' 110 119]) (.cond (q 110) (.seq (rg 1 0 [1, 3, 110] [i' 2 (.assign (ki 13))]) .ret) (.seq (rg 9 0 [110, 121, 122, 123, 124, 125, 126, 127, 128] [fa 121 Za 1 10, ld 122 Zc 121, mv 123 3, fa 124 Za 1 11, ld 125 Zc 124, bi 126 .mul Zc (q 123) (q 125) Zc, bi 127 .add Zc (q 122) (q 126) Zc, bi 128 .gtr Zc (q 127) (ki 60000) Zc, as' 120 128]) (.cond (q 120) (.seq (rg 1 0 [1, 3, 120] [i' 2 (.assign (ki 14))]) .ret) (.seq (rg 11 0 [1, 3, 120, 130, 131, 132, 133, 134, 135, 136, 137, 138, 139] [fa 130 Za 1 12, ld 131 Zc 130, mv 132 3, bi 133 .add Zc (q 132) (ki 2) Zc, bi 134 .lss Zc (q 131) (q 133) Zc, mv 135 134, gd 135 false (fa 136 Za 1 12), gd 135 false (ld 137 Zc 136), gd 135 false (bi 138 .gtr Zc (q 137) (ki 64) Zc), i' 139 (.pick (q 135) (kb true) (q 138)), as' 129 139]) (.cond (q 129) (.seq (rg 1 0 [129] [i' 2 (.assign (ki 15))]) .ret) .skip))))))))))))) (.seq (rg 1 0 [129] [i' 2 (.assign (ki 0))]) .ret)))))))
theorem Zah4 : Tryz.f57.body.map (comp ES Zkb) = some Zep := by kernel_rfl
theorem Zalz (t0 : SV) (M : Mem) : ICw ES Zkb [t0] M = Zx ES [.tmp 2] (evW ES Zkb Zep ⟨[t0, .Z, .Z, .Z, .Z, .Z, .Z, .Z, .Z, .Z, .Z, .Z, .Z, .Z, .Z, .Z, .Z, .Z, .Z, .Z, .Z, .Z, .Z, .Z, .Z, .Z, .Z, .Z, .Z, .Z, .Z, .Z, .Z, .Z, .Z, .Z, .Z, .Z, .Z, .Z, .Z, .Z, .Z, .Z, .Z, .Z, .Z, .Z, .Z, .Z, .Z, .Z, .Z, .Z, .Z, .Z, .Z, .Z, .Z, .Z, .Z, .Z, .Z, .Z, .Z, .Z, .Z, .Z, .Z, .Z, .Z, .Z, .Z, .Z, .Z, .Z, .Z, .Z, .Z, .Z, .Z, .Z, .Z, .Z, .Z, .Z, .Z, .Z, .Z, .Z, .Z, .Z, .Z, .Z, .Z, .Z, .Z, .Z, .Z, .Z, .Z, .Z, .Z, .Z, .Z, .Z, .Z, .Z, .Z, .Z, .Z, .Z, .Z, .Z, .Z, .Z, .Z, .Z, .Z, .Z, .Z, .Z, .Z, .Z, .Z, .Z, .Z, .Z, .Z, .Z, .Z, .Z, .Z, .Z, .Z, .Z, .Z, .Z, .Z, .Z], M⟩) :=
  Zab rfl Tryz.func57 Zah4 (by kernel_rfl) (by kernel_rfl) (by kernel_rfl) M
@[simp] theorem Zai2 : CX ES Zkb Zib := cx rfl
@[simp] theorem Zafs : CX ES Zkb Zmc := cx rfl
@[simp] theorem Zaia : CX ES Zkb Zoc := cx rfl

/-! drumline/drumlineref5.Good -/
def Zz0 : C :=
  (.seq (rg 2 2 [] [i' 2 (.box Za (q 0)), i' 4 (.assign (kb false))]) (.seq (rg 7 0 [] [ld 8 Za 2, ca 9 Zee #[q 8] #[Za], mv 7 9, xt 10 7 0, xt 11 7 1, as' 5 10, as' 6 11]) (.seq (rg 10 0 [] [mv 12 5, bi 13 .eql Zc (q 12) (ki 0) Zc, mv 14 13, gd 14 true (mv 15 1), gd 14 true (fa 16 Za 2 0), gd 14 true (ld 17 Zm 16), gd 14 true (le' 18 17 Zm), gd 14 true (ca 19 Znx #[q 15, q 18] #[Zc, Zc]), i' 20 (.pick (q 14) (q 19) (kb false)), as' 4 20]) .ret)))
theorem Zag5 : Tryz.f58.body.map (comp ES Zoe) = some Zz0 := by kernel_rfl
theorem Zalo (t0 t1 : SV) (M : Mem) : ICw ES Zoe [t0, t1] M = Zx ES [.tmp 4] (evW ES Zoe Zz0 ⟨[t0, t1, .Z, .Z, .Z, .Z, .Z, .Z, .Z, .Z, .Z, .Z, .Z, .Z, .Z, .Z, .Z, .Z, .Z, .Z, .Z], M⟩) :=
  Zab rfl Tryz.func58 Zag5 (by kernel_rfl) (by kernel_rfl) (by kernel_rfl) M
@[simp] theorem Zakw : CX ES Zoe Znx := cx rfl
@[simp] theorem Zagz : CX ES Zoe Zee := cx rfl

/-! drumline/drumlineref5.up -/
def Zadx : C :=
  (.seq (rg 1 0 [] [i' 2 (.assign (ki 0))]) (.seq (rg 7 0 [] [mv 6 0, ca 7 Zrk #[q 6, (ki 1000000)] #[Zp, Zp], mv 5 7, xt 8 5 0, xt 9 5 1, as' 3 8, as' 4 9]) (.seq (rg 2 0 [] [mv 10 3, as' 2 10]) .ret)))
theorem Zaox : Tryz.f59.body.map (comp ES Zsb) = some Zadx := by kernel_rfl
theorem Zas5 (t0 : SV) (M : Mem) : ICw ES Zsb [t0] M = Zx ES [.tmp 2] (evW ES Zsb Zadx ⟨[t0, .Z, .Z, .Z, .Z, .Z, .Z, .Z, .Z, .Z, .Z], M⟩) :=
  Zab rfl Tryz.func59 Zaox (by kernel_rfl) (by kernel_rfl) (by kernel_rfl) M
@[simp] theorem Zam1 : CX ES Zsb Zrk := cx rfl

/-! drumline/plan.Ends -/
def Zjc : C :=
  (.seq (rg 1 0 [] [bi 20 .lss Zc (q 19) (ki 2) Zc]) (.seq (.cond (q 20) .skip (.exit 2)) (.seq (.block 3 (.seq (rg 2 0 [20, 21] [mv 21 19, as' 8 21]) (.seq (rg 9 9 [22, 23, 24, 25, 26, 27] [ld 23 Zw 7, mv 24 8, ca 25 Zii #[q 23, q 24] #[Zw, Zc], mv 22 25, xt 26 22 0, xt 27 22 1, i' 10 (.alloc Zaq), as' 9 26, ⟨none, .store Zaq (q 10) (q 27), none, none⟩]) (.seq (rg 3 0 [9, 28, 29] [mv 28 9, mv 29 1, bi 30 .eql Zc (q 28) (q 29) Zc]) (.cond (q 30) (rg 14 14 [8, 10, 30, 31, 32, 33, 34, 35, 36, 37, 38, 39, 40, 41, 42, 43] [mv 31 5, i' 32 (.indexAddr Zaq (q 10) (ki 0)), ld 33 Zc 32, mv 34 6, mv 35 8, i' 36 (.build Zad #[(0, q 33), (1, q 34), (3, q 35)]), i' 37 (.indexAddr Zaq (q 10) (ki 1)), ld 38 Zc 37, mv 39 6, mv 40 8, i' 41 (.build Zad #[(0, q 38), (1, q 39), (2, (ki 1)), (3, q 40)]), i' 42 (.buildSlice Zaf 2 #[(0, q 36), (1, q 41)]), i' 43 (.call { callee := .builtin .append, args := #[q 31, q 42], argTypes := #[Zaf, Zaf] }), as' 5 43]) .skip))))) (rg 2 0 [8, 10, 30, 44] [bi 44 .add Zc (q 19) (ki 1) Zc, mv 19 44]))))
def Zq0 : C := .loop Zjc
/-- What is live at the loop's head: t1 part, t5 out, t6 i, t7 l, t12, t13, t14, t19 -/
abbrev Zfi (t1 t5 t6 t7 t12 t13 t14 t19 : SV) : List SV := [.Z, t1, .Z, .Z, .Z, t5, t6, t7, .Z, .Z, .Z, .Z, t12, t13, t14, .Z, .Z, .Z, .Z, t19, .Z, .Z, .Z, .Z, .Z, .Z, .Z, .Z, .Z, .Z, .Z, .Z, .Z, .Z, .Z, .Z, .Z, .Z, .Z, .Z, .Z, .Z, .Z, .Z, .Z, .Z, .Z, .Z, .Z]
def Zlj : C :=
  (.seq (rg 1 0 [] [bi 15 .lss Zc (q 14) (q 13) Zc]) (.seq (.cond (q 15) .skip (.exit 0)) (.seq (.block 1 (.seq (rg 6 6 [15, 16, 17, 18] [mv 16 14, i' 17 (.indexAddr Zr (q 12) (q 14)), ld 18 Zw 17, i' 7 (.alloc Zw), as' 6 16, ⟨none, .store Zw (q 7) (q 18), none, none⟩]) (.seq (rg 1 0 [] [i' 19 (.move (ki 0))]) (.block 2 Zq0)))) (rg 2 0 [6, 7, 19, 20, 45] [bi 45 .add Zc (q 14) (ki 1) Zc, mv 14 45]))))
def Zqw : C := .loop Zlj
/-- What is live at the loop's head: t1 part, t5 out, t12, t13, t14 -/
abbrev Ziv (t1 t5 t12 t13 t14 : SV) : List SV := [.Z, t1, .Z, .Z, .Z, t5, .Z, .Z, .Z, .Z, .Z, .Z, t12, t13, t14, .Z, .Z, .Z, .Z, .Z, .Z, .Z, .Z, .Z, .Z, .Z, .Z, .Z, .Z, .Z, .Z, .Z, .Z, .Z, .Z, .Z, .Z, .Z, .Z, .Z, .Z, .Z, .Z, .Z, .Z, .Z, .Z, .Z, .Z]
def Zr5 : C :=
  (.seq (rg 2 2 [0, 4] [i' 2 (.box Za (q 0)), i' 4 (.assign (.const (.slice none 0 0)))]) (.seq (rg 1 0 [] [i' 5 (.assign (.const (.slice none 0 0)))]) (.seq (.seq (rg 4 0 [2, 11] [fa 11 Za 2 1, ld 12 Zr 11, le' 13 12 Zr, i' 14 (.move (ki 0))]) (.block 0 Zqw)) (.seq (rg 2 2 [1, 12, 13, 14, 15, 46, 47] [mv 46 5, ca 47 Zaj #[q 46, .func Zbf] #[Zaf, Zah]]) (.seq (rg 2 0 [5, 48] [mv 48 5, as' 4 48]) .ret)))))
theorem Zab1 : Tryz.f60.body.map (comp ES Zch) = some Zr5 := by kernel_rfl
theorem Zaex (t0 t1 : SV) (M : Mem) : ICw ES Zch [t0, t1] M = Zx ES [.tmp 4] (evW ES Zch Zr5 ⟨[t0, t1, .Z, .Z, .Z, .Z, .Z, .Z, .Z, .Z, .Z, .Z, .Z, .Z, .Z, .Z, .Z, .Z, .Z, .Z, .Z, .Z, .Z, .Z, .Z, .Z, .Z, .Z, .Z, .Z, .Z, .Z, .Z, .Z, .Z, .Z, .Z, .Z, .Z, .Z, .Z, .Z, .Z, .Z, .Z, .Z, .Z, .Z, .Z], M⟩) :=
  Zab rfl Tryz.func60 Zab1 (by kernel_rfl) (by kernel_rfl) (by kernel_rfl) M
@[simp] theorem Zack : CX ES Zch Zii := cx rfl
@[simp] theorem Zqp : CI ES Zch Zaj := ci rfl
@[simp] theorem Z59 : CX ES Zch Zbf := cx rfl
end Go.Proofs.YtfphjfbknphhjaaGreatDoor

/-
  The seat's functions as short code, part 1 (printed by a program of the claim's own).
-/
set_option linter.unusedVariables false
set_option maxRecDepth 100000
namespace Go.Proofs.YtfphjfbknphhjaaGreatDoor
open Go.Proofs.YtfphjfbknphhjaaGreatDoor.Sh

/-! drumline/table.list -/
def Zkm : C :=
  (.seq (rg 1 0 [] [bi 18 .lss Zc (q 17) (q 16) Zc]) (.seq (.cond (q 18) .skip (.exit 0)) (.seq (.block 1 (.seq (rg 4 4 [18, 19, 20] [i' 19 (.indexAddr Zaf (q 15) (q 17)), ld 20 Zad 19, i' 10 (.alloc Zad), ⟨none, .store Zad (q 10) (q 20), none, none⟩]) (.seq (rg 4 4 [21, 22, 23, 24] [mv 21 8, fa 22 Zad 10 0, ld 23 Zc 22, i' 24 (.call { callee := .value (q 21), args := #[(ki 3), q 23], argTypes := #[Zc, Zc] })]) (rg 4 4 [10, 25, 26, 27, 28] [mv 25 8, fa 26 Zad 10 0, ld 27 Zc 26, i' 28 (.call { callee := .value (q 25), args := #[(ki 4), q 27], argTypes := #[Zc, Zc] })])))) (rg 2 0 [29] [bi 29 .add Zc (q 17) (ki 1) Zc, mv 17 29]))))
def Zs7 : C := .loop Zkm
/-- What is live at the loop's head: t1 part, t2 ports, t3 c, t7 out, t8 add, t15, t16, t17 -/
abbrev Zhx (t1 t2 t3 t7 t8 t15 t16 t17 : SV) : List SV := [.Z, t1, t2, t3, .Z, .Z, .Z, t7, t8, .Z, .Z, .Z, .Z, .Z, .Z, t15, t16, t17, .Z, .Z, .Z, .Z, .Z, .Z, .Z, .Z, .Z, .Z, .Z, .Z, .Z, .Z, .Z, .Z, .Z, .Z, .Z, .Z, .Z, .Z, .Z, .Z, .Z, .Z, .Z, .Z, .Z, .Z, .Z, .Z, .Z, .Z, .Z, .Z, .Z]
def Zj8 : C :=
  (.seq (rg 1 0 [] [bi 37 .lss Zc (q 36) (q 35) Zc]) (.seq (.cond (q 37) .skip (.exit 2)) (.seq (.block 3 (.seq (rg 2 0 [37, 38] [mv 38 36, as' 11 38]) (rg 3 3 [11, 39, 40, 41] [mv 39 8, mv 40 11, i' 41 (.call { callee := .value (q 39), args := #[(ki 2), q 40], argTypes := #[Zc, Zc] })]))) (rg 2 0 [42] [bi 42 .add Zc (q 36) (ki 1) Zc, mv 36 42]))))
def Zs8 : C := .loop Zj8
/-- What is live at the loop's head: t2 ports, t7 out, t8 add, t35, t36 -/
abbrev Zhs (t2 t7 t8 t35 t36 : SV) : List SV := [.Z, .Z, t2, .Z, .Z, .Z, .Z, t7, t8, .Z, .Z, .Z, .Z, .Z, .Z, .Z, .Z, .Z, .Z, .Z, .Z, .Z, .Z, .Z, .Z, .Z, .Z, .Z, .Z, .Z, .Z, .Z, .Z, .Z, .Z, t35, t36, .Z, .Z, .Z, .Z, .Z, .Z, .Z, .Z, .Z, .Z, .Z, .Z, .Z, .Z, .Z, .Z, .Z, .Z]
def Zj4 : C :=
  (.seq (rg 1 0 [] [bi 46 .lss Zc (q 45) (q 44) Zc]) (.seq (.cond (q 46) .skip (.exit 4)) (.seq (.block 5 (.seq (rg 4 4 [46, 47, 48] [i' 47 (.indexAddr Zaf (q 43) (q 45)), ld 48 Zad 47, i' 13 (.alloc Zad), ⟨none, .store Zad (q 13) (q 48), none, none⟩]) (rg 4 4 [13, 49, 50, 51, 52] [mv 49 8, fa 50 Zad 13 0, ld 51 Zc 50, i' 52 (.call { callee := .value (q 49), args := #[(ki 5), q 51], argTypes := #[Zc, Zc] })]))) (rg 2 0 [53] [bi 53 .add Zc (q 45) (ki 1) Zc, mv 45 53]))))
def Zsw : C := .loop Zj4
/-- What is live at the loop's head: t7 out, t8 add, t43, t44, t45 -/
abbrev Zh0 (t7 t8 t43 t44 t45 : SV) : List SV := [.Z, .Z, .Z, .Z, .Z, .Z, .Z, t7, t8, .Z, .Z, .Z, .Z, .Z, .Z, .Z, .Z, .Z, .Z, .Z, .Z, .Z, .Z, .Z, .Z, .Z, .Z, .Z, .Z, .Z, .Z, .Z, .Z, .Z, .Z, .Z, .Z, .Z, .Z, .Z, .Z, .Z, .Z, t43, t44, t45, .Z, .Z, .Z, .Z, .Z, .Z, .Z, .Z, .Z]
def Zsu : C :=
  (.seq (rg 2 2 [0, 6] [i' 3 (.box Za (q 0)), i' 6 (.assign (.const (.slice none 0 0)))]) (.seq (rg 1 1 [] [i' 7 (.alloc Zdk)]) (.seq (rg 2 0 [14] [i' 14 (.makeFunc (.func Zb1) #[] #[q 7, q 3]), as' 8 14]) (.seq (.seq (rg 3 0 [] [mv 15 2, le' 16 15 Zaf, i' 17 (.move (ki 0))]) (.block 0 Zs7)) (.seq (.seq (rg 7 0 [1, 3, 15, 16, 17, 18, 30, 31, 32, 33, 34] [fa 30 Za 3 0, ld 31 Zm 30, mv 32 1, i' 33 (.indexAddr Zm (q 31) (q 32)), fa 34 Zaz 33 0, ld 35 Zc 34, i' 36 (.move (ki 0))]) (.block 2 Zs8)) (.seq (.seq (rg 3 0 [2, 35, 36, 37] [mv 43 2, le' 44 43 Zaf, i' 45 (.move (ki 0))]) (.block 4 Zsw)) (.seq (rg 2 0 [7, 8, 43, 44, 45, 46, 54] [ld 54 Zdk 7, as' 6 54]) .ret)))))))
theorem Z75 : Tryz.f61.body.map (comp ES Zc1) = some Zsu := by kernel_rfl
theorem Zabj (t0 t1 t2 : SV) (M : Mem) : ICw ES Zc1 [t0, t1, t2] M = Zx ES [.tmp 6] (evW ES Zc1 Zsu ⟨[t0, t1, t2, .Z, .Z, .Z, .Z, .Z, .Z, .Z, .Z, .Z, .Z, .Z, .Z, .Z, .Z, .Z, .Z, .Z, .Z, .Z, .Z, .Z, .Z, .Z, .Z, .Z, .Z, .Z, .Z, .Z, .Z, .Z, .Z, .Z, .Z, .Z, .Z, .Z, .Z, .Z, .Z, .Z, .Z, .Z, .Z, .Z, .Z, .Z, .Z, .Z, .Z, .Z, .Z], M⟩) :=
  Zab rfl Tryz.func61 Z75 (by kernel_rfl) (by kernel_rfl) (by kernel_rfl) M
@[simp] theorem Z2e : CI ES Zc1 Zb1 := ci rfl

/-! drumline/bounds.Reckon -/
def Zpj : C :=
  (.seq (rg 2 2 [] [i' 1 (.box Za (q 0)), i' 2 (.alloc Zag)]) (.seq (rg 6 0 [] [fa 6 Za 1 2, ld 7 Zc 6, fa 8 Za 1 6, ld 9 Zc 8, as' 3 7, as' 4 9]) (.seq (rg 16 16 [] [li [] (mv 10 4), li [0] (bi 11 .mul Zp (ki 2) (q 10) Zp), li [] (mv 12 3), li [0, 1, 2] (bi 13 .mul Zp (q 11) (q 12) Zp), li [0, 1, 2, 3] (ca 14 Zgd #[q 13] #[Zp]), li [0, 1, 2, 3, 4] (bi 15 .add Zp (q 14) (ki 1) Zp), li [] (mv 16 4), li [] (mv 17 3), li [6, 7] (bi 18 .mul Zp (q 16) (q 17) Zp), li [0, 1, 2, 3, 4, 6, 7, 8] (ca 19 Zgd #[q 18] #[Zp]), li [] (fa 20 Za 1 8), li [10] (ld 21 Zc 20), li [10, 11] (bi 22 .add Zc (q 21) (ki 1) Zc), li [0, 1, 2, 3, 4, 5, 6, 7, 8, 9, 10, 11, 12] (i' 23 (.build Zag #[(0, q 15), (2, q 19), (6, q 22)])), li [] (i' 5 (.alloc Zag)), ⟨none, .store Zag (q 5) (q 23), none, some [0, 1, 2, 3, 4, 5, 6, 7, 8, 9, 10, 11, 12, 13, 14]⟩]) (.seq (rg 5 0 [] [fa 24 Zag 5 0, ld 25 Zp 24, bi 26 .mul Zp (ki 2) (q 25) Zp, fa 27 Zag 5 1, ⟨none, .store Zp (q 27) (q 26), none, none⟩]) (.seq (rg 10 0 [] [fa 28 Zag 5 1, ld 29 Zp 28, bi 30 .mul Zp (ki 2) (q 29) Zp, fa 31 Zag 5 2, ld 32 Zp 31, bi 33 .mul Zp (ki 2) (q 32) Zp, bi 34 .add Zp (q 30) (q 33) Zp, bi 35 .add Zp (q 34) (ki 2) Zp, fa 36 Zag 5 3, ⟨none, .store Zp (q 36) (q 35), none, none⟩]) (.seq (rg 12 0 [] [fa 37 Za 1 8, ld 38 Zc 37, bi 39 .mul Zp (ki 2) (q 38) Zp, fa 40 Zag 5 3, ld 41 Zp 40, bi 42 .mul Zp (q 39) (q 41) Zp, fa 43 Zag 5 1, ld 44 Zp 43, bi 45 .mul Zp (ki 2) (q 44) Zp, bi 46 .add Zp (q 42) (q 45) Zp, fa 47 Zag 5 4, ⟨none, .store Zp (q 47) (q 46), none, none⟩]) (.seq (rg 18 0 [] [fa 48 Zag 5 1, ld 49 Zp 48, fa 50 Zag 5 0, ld 51 Zp 50, bi 52 .add Zp (q 49) (q 51) Zp, fa 53 Zag 5 1, ld 54 Zp 53, fa 55 Za 1 7, ld 56 Zc 55, fa 57 Za 1 6, ld 58 Zc 57, bi 59 .add Zc (q 56) (q 58) Zc, bi 60 .mul Zp (q 54) (q 59) Zp, ca 61 Zgd #[q 60] #[Zp], bi 62 .add Zp (q 52) (q 61) Zp, bi 63 .add Zp (q 62) (ki 1) Zp, fa 64 Zag 5 5, ⟨none, .store Zp (q 64) (q 63), none, none⟩]) (.seq (rg 2 0 [] [ld 65 Zag 5, ⟨none, .store Zag (q 2) (q 65), none, none⟩]) .ret))))))))
theorem Zyb : Tryz.f62.body.map (comp ES Zen) = some Zpj := by kernel_rfl
theorem Z0t (t0 : SV) (M : Mem) : ICw ES Zen [t0] M = Zx ES [.cell 2 Zag] (evW ES Zen Zpj ⟨[t0, .Z, .Z, .Z, .Z, .Z, .Z, .Z, .Z, .Z, .Z, .Z, .Z, .Z, .Z, .Z, .Z, .Z, .Z, .Z, .Z, .Z, .Z, .Z, .Z, .Z, .Z, .Z, .Z, .Z, .Z, .Z, .Z, .Z, .Z, .Z, .Z, .Z, .Z, .Z, .Z, .Z, .Z, .Z, .Z, .Z, .Z, .Z, .Z, .Z, .Z, .Z, .Z, .Z, .Z, .Z, .Z, .Z, .Z, .Z, .Z, .Z, .Z, .Z, .Z, .Z], M⟩) :=
  Zab rfl Tryz.func62 Zyb (by kernel_rfl) (by kernel_rfl) (by kernel_rfl) M
@[simp] theorem Z0a : CX ES Zen Zgd := cx rfl

/-! slices.ContainsFunc[[]drumline/api.Node,drumline/api.Node] -/
def Zcv : C :=
  (.seq (rg 1 0 [] [i' 4 (.assign (kb false))]) (.seq (rg 5 0 [] [mv 5 0, mv 6 1, ca 7 Zat #[q 5, q 6] #[Zj, Zh7], bi 8 .geq Zc (q 7) (ki 0) Zc, as' 4 8]) .ret))
theorem Ziw : Tryz.f63.body.map (comp ES Zai) = some Zcv := by kernel_rfl
theorem Zi7 (t0 t1 : SV) (M : Mem) : ICw ES Zai [t0, t1] M = Zx ES [.tmp 4] (evW ES Zai Zcv ⟨[t0, t1, .Z, .Z, .Z, .Z, .Z, .Z, .Z], M⟩) :=
  Zab rfl Tryz.func63 Ziw (by kernel_rfl) (by kernel_rfl) (by kernel_rfl) M
@[simp] theorem Zjj : CX ES Zai Zat := cx rfl

/-! drumline/cell.Fine$1 -/
def Zry : C :=
  (.seq (rg 2 2 [] [i' 2 (.box Zh (q 0)), i' 3 (.assign (kb false))]) (.seq (rg 5 0 [] [ld 4 Za5 1, ld 5 Zh 2, ca 6 Ziz #[q 4, q 5] #[Za5, Zh], i' 7 (.unOp .not Zbm (q 6)), as' 3 7]) .ret))
theorem Z2g : Tryz.f64.body.map (comp ES Zet) = some Zry := by kernel_rfl
theorem Z6i (t0 t1 : SV) (M : Mem) : ICw ES Zet [t0, t1] M = Zx ES [.tmp 3] (evW ES Zet Zry ⟨[t0, t1, .Z, .Z, .Z, .Z, .Z, .Z], M⟩) :=
  Zab rfl Tryz.func64 Z2g (by kernel_rfl) (by kernel_rfl) (by kernel_rfl) M
@[simp] theorem Z73 : CX ES Zet Ziz := cx rfl

/-! drumline/cell.node -/
def Zgq : C :=
  (.seq (rg 3 3 [] [i' 2 (.box Za5 (q 0)), i' 3 (.box Zh (q 1)), i' 4 (.assign (kb false))]) (.seq (rg 55 0 [] [fa 5 Zh 3 0, ld 6 Zc 5, ca 7 Zff #[q 6, (ki 2)] #[Zp, Zp], mv 8 7, gd 8 true (fa 9 Zh 3 2), gd 8 true (ld 10 Zc 9), gd 8 true (fa 11 Za5 2 0), gd 8 true (fa 12 Za 11 6), gd 8 true (ld 13 Zc 12), gd 8 true (i' 14 (.unOp .neg Zc (q 13))), gd 8 true (bi 15 .geq Zc (q 10) (q 14) Zc), i' 16 (.pick (q 8) (q 15) (kb false)), mv 17 16, gd 17 true (fa 18 Zh 3 2), gd 17 true (ld 19 Zc 18), gd 17 true (fa 20 Za5 2 0), gd 17 true (fa 21 Za 20 6), gd 17 true (ld 22 Zc 21), gd 17 true (bi 23 .leq Zc (q 19) (q 22) Zc), i' 24 (.pick (q 17) (q 23) (kb false)), mv 25 24, gd 25 true (fa 26 Zh 3 3), gd 25 true (ld 27 Zp 26), gd 25 true (ca 28 Zhb #[q 27] #[Zp]), i' 29 (.pick (q 25) (q 28) (kb false)), mv 30 29, gd 30 true (fa 31 Zh 3 1), gd 30 true (ld 32 Zc 31), gd 30 true (ca 33 Zff #[q 32, (ki 60000)] #[Zp, Zp]), i' 34 (.pick (q 30) (q 33) (kb false)), mv 35 34, gd 35 true (fa 36 Zh 3 4), gd 35 true (ld 37 Zp 36), gd 35 true (ca 38 Zff #[q 37, (ki 1099511627776)] #[Zp, Zp]), i' 39 (.pick (q 35) (q 38) (kb false)), mv 40 39, gd 40 true (fa 41 Zh 3 6), gd 40 true (ld 42 Zc 41), gd 40 true (ca 43 Zff #[q 42, (ki 4095)] #[Zp, Zp]), i' 44 (.pick (q 40) (q 43) (kb false)), mv 45 44, gd 45 true (fa 46 Zh 3 7), gd 45 true (ld 47 Zc 46), gd 45 true (ca 48 Zff #[q 47, (ki 1099511627776)] #[Zp, Zp]), i' 49 (.pick (q 45) (q 48) (kb false)), mv 50 49, gd 50 true (ld 51 Za5 2), gd 50 true (fa 52 Zh 3 0), gd 50 true (ld 53 Zc 52), gd 50 true (bi 54 .eql Zc (q 53) (ki 2) Zc), gd 50 true (fa 55 Zh 3 5), gd 50 true (ld 56 Zv 55), gd 50 true (ca 57 Zhw #[q 51, q 54, q 56] #[Za5, Zbm, Zv]), i' 58 (.pick (q 50) (q 57) (kb false)), as' 4 58]) .ret))
theorem Z81 : Tryz.f65.body.map (comp ES Ziz) = some Zgq := by kernel_rfl
theorem Zadf (t0 t1 : SV) (M : Mem) : ICw ES Ziz [t0, t1] M = Zx ES [.tmp 4] (evW ES Ziz Zgq ⟨[t0, t1, .Z, .Z, .Z, .Z, .Z, .Z, .Z, .Z, .Z, .Z, .Z, .Z, .Z, .Z, .Z, .Z, .Z, .Z, .Z, .Z, .Z, .Z, .Z, .Z, .Z, .Z, .Z, .Z, .Z, .Z, .Z, .Z, .Z, .Z, .Z, .Z, .Z, .Z, .Z, .Z, .Z, .Z, .Z, .Z, .Z, .Z, .Z, .Z, .Z, .Z, .Z, .Z, .Z, .Z, .Z, .Z, .Z], M⟩) :=
  Zab rfl Tryz.func65 Z81 (by kernel_rfl) (by kernel_rfl) (by kernel_rfl) M
@[simp] theorem Z8b : CX ES Ziz Zhb := cx rfl
@[simp] theorem Z9l : CX ES Ziz Zhw := cx rfl
@[simp] theorem Z67 : CX ES Ziz Zff := cx rfl

/-! drumline/ticks.Time -/
def Zs1 : C :=
  (.seq (rg 1 0 [] [i' 2 (.assign (kb false))]) (.seq (rg 7 0 [] [mv 3 0, bi 4 .geq Zp (q 3) (ki (-1099511627776)) Zp, mv 5 4, gd 5 true (mv 6 0), gd 5 true (bi 7 .leq Zp (q 6) (ki 1099511627776) Zp), i' 8 (.pick (q 5) (q 7) (kb false)), as' 2 8]) .ret))
theorem Z5c : Tryz.f66.body.map (comp ES Zhb) = some Zs1 := by kernel_rfl
theorem Z9a (t0 : SV) (M : Mem) : ICw ES Zhb [t0] M = Zx ES [.tmp 2] (evW ES Zhb Zs1 ⟨[t0, .Z, .Z, .Z, .Z, .Z, .Z, .Z, .Z], M⟩) :=
  Zab rfl Tryz.func66 Z5c (by kernel_rfl) (by kernel_rfl) (by kernel_rfl) M

/-! drumline/cell.aged -/
def Zpx : C :=
  (.seq (rg 2 2 [] [i' 3 (.box Za5 (q 0)), i' 6 (.assign (kb false))]) (.seq (.seq (rg 2 0 [] [mv 7 1, i' 8 (.unOp .not Zbm (q 7))]) (.cond (q 8) (.seq (rg 4 0 [] [mv 9 2, le' 10 9 Zv, bi 11 .eql Zc (q 10) (ki 0) Zc, as' 6 11]) .ret) .skip)) (.seq (rg 14 0 [] [mv 12 2, le' 13 12 Zv, fa 14 Za5 3 0, fa 15 Za 14 0, ld 16 Zm 15, le' 17 16 Zm, bi 18 .eql Zc (q 13) (q 17) Zc, mv 19 18, gd 19 true (mv 20 2), gd 19 true (i' 21 (.makeFunc (.func Zfg) #[] #[q 3])), gd 19 true (ca 22 Za6 #[q 20, q 21] #[Zv, Zmv]), gd 19 true (i' 23 (.unOp .not Zbm (q 22))), i' 24 (.pick (q 19) (q 23) (kb false)), as' 6 24]) .ret)))
theorem Zaag : Tryz.f67.body.map (comp ES Zhw) = some Zpx := by kernel_rfl
theorem Zacx (t0 t1 t2 : SV) (M : Mem) : ICw ES Zhw [t0, t1, t2] M = Zx ES [.tmp 6] (evW ES Zhw Zpx ⟨[t0, t1, t2, .Z, .Z, .Z, .Z, .Z, .Z, .Z, .Z, .Z, .Z, .Z, .Z, .Z, .Z, .Z, .Z, .Z, .Z, .Z, .Z, .Z, .Z], M⟩) :=
  Zab rfl Tryz.func67 Zaag (by kernel_rfl) (by kernel_rfl) (by kernel_rfl) M
@[simp] theorem Zsi : CX ES Zhw Za6 := cx rfl
@[simp] theorem Z58 : CX ES Zhw Zfg := cx rfl

/-! drumline/drumlineref17.right -/
def Zdl : C :=
  (.seq (rg 3 3 [] [i' 2 (.box Za (q 0)), i' 3 (.box Zh (q 1)), i' 4 (.assign (kb false))]) (.seq (.seq (rg 39 0 [] [fa 5 Zh 3 0, ld 6 Zc 5, bi 7 .lss Zc (q 6) (ki 0) Zc, mv 8 7, gd 8 false (fa 9 Zh 3 0), gd 8 false (ld 10 Zc 9), gd 8 false (bi 11 .gtr Zc (q 10) (ki 2) Zc), i' 12 (.pick (q 8) (kb true) (q 11)), mv 13 12, gd 13 false (fa 14 Zh 3 2), gd 13 false (ld 15 Zc 14), gd 13 false (fa 16 Za 2 6), gd 13 false (ld 17 Zc 16), gd 13 false (i' 18 (.unOp .neg Zc (q 17))), gd 13 false (bi 19 .lss Zc (q 15) (q 18) Zc), i' 20 (.pick (q 13) (kb true) (q 19)), mv 21 20, gd 21 false (fa 22 Zh 3 2), gd 21 false (ld 23 Zc 22), gd 21 false (fa 24 Za 2 6), gd 21 false (ld 25 Zc 24), gd 21 false (bi 26 .gtr Zc (q 23) (q 25) Zc), i' 27 (.pick (q 21) (kb true) (q 26)), mv 28 27, gd 28 false (fa 29 Zh 3 3), gd 28 false (ld 30 Zp 29), gd 28 false (ca 31 Zmp #[q 30] #[Zp]), gd 28 false (i' 32 (.unOp .not Zbm (q 31))), i' 33 (.pick (q 28) (kb true) (q 32)), mv 34 33, gd 34 false (fa 35 Zh 3 1), gd 34 false (ld 36 Zc 35), gd 34 false (bi 37 .lss Zc (q 36) (ki 0) Zc), i' 38 (.pick (q 34) (kb true) (q 37)), mv 39 38, gd 39 false (fa 40 Zh 3 1), gd 39 false (ld 41 Zc 40), gd 39 false (bi 42 .gtr Zc (q 41) (ki 60000) Zc), i' 43 (.pick (q 39) (kb true) (q 42))]) (.cond (q 43) (.seq (rg 1 0 [] [i' 4 (.assign (kb false))]) .ret) .skip)) (.seq (rg 38 0 [] [fa 44 Zh 3 4, ld 45 Zp 44, bi 46 .geq Zp (q 45) (ki 0) Zp, mv 47 46, gd 47 true (fa 48 Zh 3 4), gd 47 true (ld 49 Zp 48), gd 47 true (bi 50 .leq Zp (q 49) (ki 1099511627776) Zp), i' 51 (.pick (q 47) (q 50) (kb false)), mv 52 51, gd 52 true (fa 53 Zh 3 6), gd 52 true (ld 54 Zc 53), gd 52 true (bi 55 .geq Zc (q 54) (ki 0) Zc), i' 56 (.pick (q 52) (q 55) (kb false)), mv 57 56, gd 57 true (fa 58 Zh 3 6), gd 57 true (ld 59 Zc 58), gd 57 true (bi 60 .lss Zc (q 59) (ki 4096) Zc), i' 61 (.pick (q 57) (q 60) (kb false)), mv 62 61, gd 62 true (fa 63 Zh 3 7), gd 62 true (ld 64 Zc 63), gd 62 true (bi 65 .geq Zc (q 64) (ki 0) Zc), i' 66 (.pick (q 62) (q 65) (kb false)), mv 67 66, gd 67 true (fa 68 Zh 3 7), gd 67 true (ld 69 Zc 68), gd 67 true (bi 70 .leq Zc (q 69) (ki 1099511627776) Zc), i' 71 (.pick (q 67) (q 70) (kb false)), mv 72 71, gd 72 true (ld 73 Za 2), gd 72 true (fa 74 Zh 3 5), gd 72 true (ld 75 Zv 74), gd 72 true (fa 76 Zh 3 0), gd 72 true (ld 77 Zc 76), gd 72 true (bi 78 .eql Zc (q 77) (ki 2) Zc), gd 72 true (ca 79 Zje #[q 73, q 75, q 78] #[Za, Zv, Zbm]), i' 80 (.pick (q 72) (q 79) (kb false)), as' 4 80]) .ret)))
theorem Zaaz : Tryz.f68.body.map (comp ES Zj7) = some Zdl := by kernel_rfl
theorem Zaew (t0 t1 : SV) (M : Mem) : ICw ES Zj7 [t0, t1] M = Zx ES [.tmp 4] (evW ES Zj7 Zdl ⟨[t0, t1, .Z, .Z, .Z, .Z, .Z, .Z, .Z, .Z, .Z, .Z, .Z, .Z, .Z, .Z, .Z, .Z, .Z, .Z, .Z, .Z, .Z, .Z, .Z, .Z, .Z, .Z, .Z, .Z, .Z, .Z, .Z, .Z, .Z, .Z, .Z, .Z, .Z, .Z, .Z, .Z, .Z, .Z, .Z, .Z, .Z, .Z, .Z, .Z, .Z, .Z, .Z, .Z, .Z, .Z, .Z, .Z, .Z, .Z, .Z, .Z, .Z, .Z, .Z, .Z, .Z, .Z, .Z, .Z, .Z, .Z, .Z, .Z, .Z, .Z, .Z, .Z, .Z, .Z, .Z], M⟩) :=
  Zab rfl Tryz.func68 Zaaz (by kernel_rfl) (by kernel_rfl) (by kernel_rfl) M
@[simp] theorem Zac8 : CX ES Zj7 Zmp := cx rfl
@[simp] theorem Zaci : CX ES Zj7 Zje := cx rfl

/-! drumline/drumlineref1.Time -/
def Z0z : C :=
  (.seq (rg 1 0 [] [i' 2 (.assign (kb false))]) (.seq (rg 7 0 [] [mv 3 0, bi 4 .geq Zp (q 3) (ki (-1099511627776)) Zp, mv 5 4, gd 5 true (mv 6 0), gd 5 true (bi 7 .leq Zp (q 6) (ki 1099511627776) Zp), i' 8 (.pick (q 5) (q 7) (kb false)), as' 2 8]) .ret))
theorem Zah2 : Tryz.f69.body.map (comp ES Zmp) = some Z0z := by kernel_rfl
theorem Zam9 (t0 : SV) (M : Mem) : ICw ES Zmp [t0] M = Zx ES [.tmp 2] (evW ES Zmp Z0z ⟨[t0, .Z, .Z, .Z, .Z, .Z, .Z, .Z, .Z], M⟩) :=
  Zab rfl Tryz.func69 Zah2 (by kernel_rfl) (by kernel_rfl) (by kernel_rfl) M

/-! drumline/drumlineref17.ages -/
def Zky : C :=
  (.seq (.seq (rg 4 0 [19, 20, 21] [mv 19 7, mv 20 1, le' 21 20 Zv, bi 22 .lss Zc (q 19) (q 21) Zc]) (.cond (q 22) .skip (.exit 0))) (.seq (.block 1 (.seq (rg 14 0 [22, 25, 26, 27, 28, 29, 30, 31, 32, 33, 34, 35, 36, 37] [mv 25 1, mv 26 7, i' 27 (.indexAddr Zv (q 25) (q 26)), ld 28 Zc 27, bi 29 .lss Zc (q 28) (ki 0) Zc, mv 30 29, gd 30 false (mv 31 1), gd 30 false (mv 32 7), gd 30 false (i' 33 (.indexAddr Zv (q 31) (q 32))), gd 30 false (ld 34 Zc 33), gd 30 false (ld 35 Za 3), gd 30 false (ca 36 Zld #[q 35] #[Za]), gd 30 false (bi 37 .gtr Zc (q 34) (q 36) Zc), i' 38 (.pick (q 30) (kb true) (q 37))]) (.cond (q 38) (.seq (rg 1 0 [1, 3, 7, 38] [i' 6 (.assign (kb false))]) .ret) .skip))) (rg 3 0 [23, 24, 38] [mv 23 7, bi 24 .add Zc (q 23) (ki 1) Zc, as' 7 24])))
def Zr4 : C := .loop Zky
/-- What is live at the loop's head: t1 l, t3 c, t7 i -/
abbrev Zhh (t1 t3 t7 : SV) : List SV := [.Z, t1, .Z, t3, .Z, .Z, .Z, t7, .Z, .Z, .Z, .Z, .Z, .Z, .Z, .Z, .Z, .Z, .Z, .Z, .Z, .Z, .Z, .Z, .Z, .Z, .Z, .Z, .Z, .Z, .Z, .Z, .Z, .Z, .Z, .Z, .Z, .Z, .Z]
def Zpf : C :=
  (.seq (rg 2 2 [0, 6] [i' 3 (.box Za (q 0)), i' 6 (.assign (kb false))]) (.seq (.seq (rg 2 0 [2, 8] [mv 8 2, i' 9 (.unOp .not Zbm (q 8))]) (.cond (q 9) (.seq (rg 4 0 [1, 3, 9, 10, 11, 12] [mv 10 1, le' 11 10 Zv, bi 12 .eql Zc (q 11) (ki 0) Zc, as' 6 12]) .ret) .skip)) (.seq (.seq (rg 6 0 [9, 13, 14, 15, 16, 17] [mv 13 1, le' 14 13 Zv, fa 15 Za 3 0, ld 16 Zm 15, le' 17 16 Zm, bi 18 .neq Zc (q 14) (q 17) Zc]) (.cond (q 18) (.seq (rg 1 0 [1, 3, 18] [i' 6 (.assign (kb false))]) .ret) .skip)) (.seq (.seq (rg 1 0 [18] [i' 7 (.assign (ki 0))]) (.block 0 Zr4)) (.seq (rg 1 0 [1, 3, 7, 22] [i' 6 (.assign (kb true))]) .ret)))))
theorem Zady : Tryz.f70.body.map (comp ES Zje) = some Zpf := by kernel_rfl
theorem Zaid (t0 t1 t2 : SV) (M : Mem) : ICw ES Zje [t0, t1, t2] M = Zx ES [.tmp 6] (evW ES Zje Zpf ⟨[t0, t1, t2, .Z, .Z, .Z, .Z, .Z, .Z, .Z, .Z, .Z, .Z, .Z, .Z, .Z, .Z, .Z, .Z, .Z, .Z, .Z, .Z, .Z, .Z, .Z, .Z, .Z, .Z, .Z, .Z, .Z, .Z, .Z, .Z, .Z, .Z, .Z, .Z], M⟩) :=
  Zab rfl Tryz.func70 Zady (by kernel_rfl) (by kernel_rfl) (by kernel_rfl) M
@[simp] theorem Zagj : CX ES Zje Zld := cx rfl

/-! drumline/drumlineref5.Gone -/
def Zvl : C :=
  (.seq (rg 2 2 [] [i' 1 (.box Za (q 0)), i' 2 (.assign (ki 0))]) (.seq (.seq (rg 3 0 [] [ld 3 Za 1, ca 4 Zhz #[q 3] #[Za], i' 5 (.unOp .not Zbm (q 4))]) (.cond (q 5) (.seq (rg 1 0 [] [i' 2 (.assign (ki 0))]) .ret) .skip)) (.seq (rg 4 0 [] [fa 6 Za 1 8, ld 7 Zc 6, bi 8 .add Zc (q 7) (ki 1) Zc, as' 2 8]) .ret)))
theorem Zajo : Tryz.f71.body.map (comp ES Zld) = some Zvl := by kernel_rfl
theorem Zak8 (t0 : SV) (M : Mem) : ICw ES Zld [t0] M = Zx ES [.tmp 2] (evW ES Zld Zvl ⟨[t0, .Z, .Z, .Z, .Z, .Z, .Z, .Z, .Z], M⟩) :=
  Zab rfl Tryz.func71 Zajo (by kernel_rfl) (by kernel_rfl) (by kernel_rfl) M
@[simp] theorem Zacu : CX ES Zld Zhz := cx rfl

/-! drumline/plan.Check -/
def Zkk : C :=
  (.seq (rg 1 0 [] [bi 17 .lss Zc (q 16) (q 15) Zc]) (.seq (.cond (q 17) .skip (.exit 0)) (.seq (.block 1 (.seq (rg 3 0 [17, 18, 19] [i' 18 (.indexAddr Zgj (q 14) (q 16)), ld 19 Zby 18, as' 7 19]) (.seq (rg 4 4 [20, 21, 22] [mv 20 4, mv 21 7, i' 22 (.makeInterface Zd6 (q 21)), ca 23 Zi0 #[q 20, q 22] #[Zj9, Zj9]]) (.cond (q 23) (.seq (rg 7 0 [4, 5, 7, 14, 15, 16, 23, 24, 25, 26, 27, 28] [mv 24 7, ld 25 Zcz 5, i' 26 (.nilCheck (q 25)), fa 27 Zl7 26 0, ld 28 Zc 27, as' 2 24, as' 3 28]) .ret) .skip)))) (rg 2 0 [7, 23, 29] [bi 29 .add Zc (q 16) (ki 1) Zc, mv 16 29]))))
def Zp0 : C := .loop Zkk
/-- What is live at the loop's head: t4 e, t5 f, t14, t15, t16 -/
abbrev Zfh (t4 t5 t14 t15 t16 : SV) : List SV := [.Z, .Z, .Z, .Z, t4, t5, .Z, .Z, .Z, .Z, .Z, .Z, .Z, .Z, t14, t15, t16, .Z, .Z, .Z, .Z, .Z, .Z, .Z, .Z, .Z, .Z, .Z, .Z, .Z, .Z, .Z, .Z, .Z]
def Zn9 : C :=
  (.seq (rg 3 3 [0, 2, 3] [i' 1 (.box Za (q 0)), i' 2 (.assign (ki 0)), i' 3 (.assign (ki 0))]) (.seq (rg 3 0 [1, 8, 9] [ld 8 Za 1, ca 9 Zey #[q 8] #[Za], as' 4 9]) (.seq (rg 1 1 [] [i' 5 (.alloc Zcz)]) (.seq (.seq (rg 4 4 [10, 11, 12] [mv 10 4, i' 11 (.makeInterface Zf2 (q 5)), ca 12 Zgt #[q 10, q 11] #[Zj9, Zr2], i' 13 (.unOp .not Zbm (q 12))]) (.cond (q 13) (.seq (rg 2 0 [4, 5, 13] [i' 2 (.assign (ki 0)), i' 3 (.assign (ki 0))]) .ret) .skip)) (.seq (.seq (rg 3 3 [13] [i' 14 (.buildSlice Zgj 6 #[(0, (ki 7)), (1, (ki 8)), (2, (ki 9)), (3, (ki 10)), (4, (ki 11)), (5, (ki 12))]), le' 15 14 Zgj, i' 16 (.move (ki 0))]) (.block 0 Zp0)) (.seq (rg 6 0 [4, 5, 14, 15, 16, 17, 30, 31, 32, 33] [ld 30 Zcz 5, i' 31 (.nilCheck (q 30)), fa 32 Zl7 31 0, ld 33 Zc 32, i' 2 (.assign (ki 13)), as' 3 33]) .ret))))))
theorem Z5x : Tryz.f72.body.map (comp ES Zfo) = some Zn9 := by kernel_rfl
theorem Z83 (t0 : SV) (M : Mem) : ICw ES Zfo [t0] M = Zx ES [.tmp 2, .tmp 3] (evW ES Zfo Zn9 ⟨[t0, .Z, .Z, .Z, .Z, .Z, .Z, .Z, .Z, .Z, .Z, .Z, .Z, .Z, .Z, .Z, .Z, .Z, .Z, .Z, .Z, .Z, .Z, .Z, .Z, .Z, .Z, .Z, .Z, .Z, .Z, .Z, .Z, .Z], M⟩) :=
  Zab rfl Tryz.func72 Z5x (by kernel_rfl) (by kernel_rfl) (by kernel_rfl) M
@[simp] theorem Z8h : CI ES Zfo Zgt := ci rfl
@[simp] theorem Z8q : CI ES Zfo Zi0 := ci rfl
@[simp] theorem Z6m : CX ES Zfo Zey := cx rfl

/-! drumline/bounds.fits -/
def Zev : C :=
  (.seq (rg 1 0 [] [bi 9 .lss Zc (q 8) (q 7) Zc]) (.seq (.cond (q 9) .skip (.exit 0)) (.seq (.block 1 (.seq (rg 3 0 [9, 10, 11] [i' 10 (.indexAddr Zcf (q 6) (q 8)), ld 11 Zg6 10, as' 4 11]) (.seq (rg 4 4 [4, 12, 13, 14] [mv 12 4, ld 13 Za 1, i' 14 (.call { callee := .value (q 12), args := #[q 13], argTypes := #[Za] }), as' 5 14]) (.seq (rg 2 0 [15] [mv 15 5, bi 16 .neq Zc (q 15) (ki 0) Zc]) (.cond (q 16) (.seq (rg 6 6 [1, 5, 6, 7, 8, 16, 17, 18, 19, 20, 21] [mv 17 5, i' 18 (.load Zj9 (.global 0)), i' 19 (.build Zjk #[(0, q 17), (1, q 18)]), i' 20 (.box Zjk (q 19)), i' 21 (.makeInterface Zbo (q 20)), as' 2 21]) .ret) .skip))))) (rg 2 0 [5, 16, 22] [bi 22 .add Zc (q 8) (ki 1) Zc, mv 8 22]))))
def Zi3 : C := .loop Zev
/-- What is live at the loop's head: t1 c, t6, t7, t8 -/
abbrev Zcx (t1 t6 t7 t8 : SV) : List SV := [.Z, t1, .Z, .Z, .Z, .Z, t6, t7, t8, .Z, .Z, .Z, .Z, .Z, .Z, .Z, .Z, .Z, .Z, .Z, .Z, .Z, .Z]
def Zkt : C :=
  (.seq (rg 2 2 [0, 2] [i' 1 (.box Za (q 0)), i' 2 (.assign (.const .nilIface))]) (.seq (.seq (rg 3 3 [] [i' 6 (.buildSlice Zcf 3 #[(0, .func Za8), (1, .func Zau), (2, .func Zbe)]), le' 7 6 Zcf, i' 8 (.move (ki 0))]) (.block 0 Zi3)) (.seq (rg 1 0 [1, 6, 7, 8, 9] [i' 2 (.assign (.const .nilIface))]) .ret)))
theorem Z3u : Tryz.f73.body.map (comp ES Zbn) = some Zkt := by kernel_rfl
theorem Z52 (t0 : SV) (M : Mem) : ICw ES Zbn [t0] M = Zx ES [.tmp 2] (evW ES Zbn Zkt ⟨[t0, .Z, .Z, .Z, .Z, .Z, .Z, .Z, .Z, .Z, .Z, .Z, .Z, .Z, .Z, .Z, .Z, .Z, .Z, .Z, .Z, .Z, .Z], M⟩) :=
  Zab rfl Tryz.func73 Z3u (by kernel_rfl) (by kernel_rfl) (by kernel_rfl) M
@[simp] theorem Zy8 : CX ES Zbn Za8 := cx rfl
@[simp] theorem Zyj : CX ES Zbn Zau := cx rfl
@[simp] theorem Z1u : CX ES Zbn Zbe := cx rfl

/-! drumline/drumlineref5.link -/
def Zl6 : C :=
  (.seq (.seq (rg 3 0 [35, 36] [mv 35 6, mv 36 1, bi 37 .lss Zc (q 35) (q 36) Zc]) (.cond (q 37) .skip (.exit 0))) (.seq (.block 1 (.seq (rg 20 0 [37, 40, 41, 42, 43, 44, 45, 46, 47, 48, 49, 50, 51, 52, 53, 54, 55, 56, 57, 58] [fa 40 Za 2 1, ld 41 Zr 40, mv 42 6, i' 43 (.indexAddr Zr (q 41) (q 42)), fa 44 Zw 43 0, ld 45 Zc 44, fa 46 Zw 5 0, ld 47 Zc 46, bi 48 .eql Zc (q 45) (q 47) Zc, mv 49 48, gd 49 true (fa 50 Za 2 1), gd 49 true (ld 51 Zr 50), gd 49 true (mv 52 6), gd 49 true (i' 53 (.indexAddr Zr (q 51) (q 52))), gd 49 true (fa 54 Zw 53 1), gd 49 true (ld 55 Zc 54), gd 49 true (fa 56 Zw 5 1), gd 49 true (ld 57 Zc 56), gd 49 true (bi 58 .eql Zc (q 55) (q 57) Zc), i' 59 (.pick (q 49) (q 58) (kb false))]) (.cond (q 59) (.seq (rg 1 0 [1, 2, 5, 6, 59] [i' 4 (.assign (ki 11))]) .ret) .skip))) (rg 3 0 [38, 39, 59] [mv 38 6, bi 39 .add Zc (q 38) (ki 1) Zc, as' 6 39])))
def Zoo : C := .loop Zl6
/-- What is live at the loop's head: t1 i, t2 c, t5 l, t6 k -/
abbrev Zio (t1 t2 t5 t6 : SV) : List SV := [.Z, t1, t2, .Z, .Z, t5, t6, .Z, .Z, .Z, .Z, .Z, .Z, .Z, .Z, .Z, .Z, .Z, .Z, .Z, .Z, .Z, .Z, .Z, .Z, .Z, .Z, .Z, .Z, .Z, .Z, .Z, .Z, .Z, .Z, .Z, .Z, .Z, .Z, .Z, .Z, .Z, .Z, .Z, .Z, .Z, .Z, .Z, .Z, .Z, .Z, .Z, .Z, .Z, .Z, .Z, .Z, .Z, .Z, .Z, .Z, .Z, .Z, .Z, .Z, .Z, .Z, .Z, .Z, .Z, .Z, .Z, .Z, .Z, .Z, .Z]
def Zmz : C :=
  (.seq (rg 2 2 [0, 4] [i' 2 (.box Za (q 0)), i' 4 (.assign (ki 0))]) (.seq (rg 7 7 [7, 8, 9, 10, 11] [fa 7 Za 2 1, ld 8 Zr 7, mv 9 1, i' 10 (.indexAddr Zr (q 8) (q 9)), ld 11 Zw 10, i' 5 (.alloc Zw), ⟨none, .store Zw (q 5) (q 11), none, none⟩]) (.seq (.seq (rg 23 0 [12, 13, 14, 15, 16, 17, 18, 19, 20, 21, 22, 23, 24, 25, 26, 27, 28, 29, 30, 31, 32, 33] [fa 12 Zw 5 0, ld 13 Zc 12, fa 14 Za 2 0, ld 15 Zm 14, le' 16 15 Zm, ca 17 Znx #[q 13, q 16] #[Zc, Zc], i' 18 (.unOp .not Zbm (q 17)), mv 19 18, gd 19 false (fa 20 Zw 5 1), gd 19 false (ld 21 Zc 20), gd 19 false (fa 22 Za 2 0), gd 19 false (ld 23 Zm 22), gd 19 false (le' 24 23 Zm), gd 19 false (ca 25 Znx #[q 21, q 24] #[Zc, Zc]), gd 19 false (i' 26 (.unOp .not Zbm (q 25))), i' 27 (.pick (q 19) (kb true) (q 26)), mv 28 27, gd 28 false (fa 29 Zw 5 0), gd 28 false (ld 30 Zc 29), gd 28 false (fa 31 Zw 5 1), gd 28 false (ld 32 Zc 31), gd 28 false (bi 33 .geq Zc (q 30) (q 32) Zc), i' 34 (.pick (q 28) (kb true) (q 33))]) (.cond (q 34) (.seq (rg 1 0 [1, 2, 5, 34] [i' 4 (.assign (ki 10))]) .ret) .skip)) (.seq (.seq (rg 1 0 [34] [i' 6 (.assign (ki 0))]) (.block 0 Zoo)) (.seq (.seq (rg 16 0 [1, 2, 5, 6, 37, 60, 61, 62, 63, 64, 65, 66, 67, 68, 69, 70, 71, 72, 73, 74] [ld 60 Za 2, mv 61 1, fa 62 Zw 5 0, ld 63 Zc 62, fa 64 Zw 5 2, ld 65 Zaq 64, ca 66 Zhm #[q 60, q 61, q 63, q 65] #[Za, Zc, Zc, Zaq], mv 67 66, gd 67 false (ld 68 Za 2), gd 67 false (mv 69 1), gd 67 false (fa 70 Zw 5 1), gd 67 false (ld 71 Zc 70), gd 67 false (fa 72 Zw 5 3), gd 67 false (ld 73 Zaq 72), gd 67 false (ca 74 Zhm #[q 68, q 69, q 71, q 73] #[Za, Zc, Zc, Zaq]), i' 75 (.pick (q 67) (kb true) (q 74))]) (.cond (q 75) (.seq (rg 1 0 [75] [i' 4 (.assign (ki 12))]) .ret) .skip)) (.seq (rg 1 0 [75] [i' 4 (.assign (ki 0))]) .ret))))))
theorem Zahd : Tryz.f76.body.map (comp ES Zmm) = some Zmz := by kernel_rfl
theorem Zalt (t0 t1 : SV) (M : Mem) : ICw ES Zmm [t0, t1] M = Zx ES [.tmp 4] (evW ES Zmm Zmz ⟨[t0, t1, .Z, .Z, .Z, .Z, .Z, .Z, .Z, .Z, .Z, .Z, .Z, .Z, .Z, .Z, .Z, .Z, .Z, .Z, .Z, .Z, .Z, .Z, .Z, .Z, .Z, .Z, .Z, .Z, .Z, .Z, .Z, .Z, .Z, .Z, .Z, .Z, .Z, .Z, .Z, .Z, .Z, .Z, .Z, .Z, .Z, .Z, .Z, .Z, .Z, .Z, .Z, .Z, .Z, .Z, .Z, .Z, .Z, .Z, .Z, .Z, .Z, .Z, .Z, .Z, .Z, .Z, .Z, .Z, .Z, .Z, .Z, .Z, .Z, .Z], M⟩) :=
  Zab rfl Tryz.func76 Zahd (by kernel_rfl) (by kernel_rfl) (by kernel_rfl) M
@[simp] theorem Zans : CX ES Zmm Znx := cx rfl
@[simp] theorem Zahu : CX ES Zmm Zhm := cx rfl

/-! drumline/drumlineref5.dists -/
def Zo8 : C :=
  (.seq (.seq (rg 4 0 [14, 15, 16] [mv 14 6, mv 15 5, le' 16 15 Zv, bi 17 .lss Zc (q 14) (q 16) Zc]) (.cond (q 17) .skip (.exit 0))) (.seq (.block 1 (rg 4 0 [17, 20, 21, 22] [mv 20 5, mv 21 6, i' 22 (.indexAddr Zv (q 20) (q 21)), ⟨none, .store Zc (q 22) (ki (-1)), none, none⟩])) (rg 3 0 [18, 19] [mv 18 6, bi 19 .add Zc (q 18) (ki 1) Zc, as' 6 19])))
def Zv0 : C := .loop Zo8
/-- What is live at the loop's head: t1 from, t2 c, t5 d, t6 i -/
abbrev Zom (t1 t2 t5 t6 : SV) : List SV := [.Z, t1, t2, .Z, .Z, t5, t6, .Z, .Z, .Z, .Z, .Z, .Z, .Z, .Z, .Z, .Z, .Z, .Z, .Z, .Z, .Z, .Z, .Z, .Z, .Z, .Z, .Z, .Z, .Z, .Z, .Z, .Z, .Z, .Z, .Z, .Z, .Z, .Z, .Z, .Z, .Z, .Z, .Z, .Z, .Z, .Z, .Z, .Z, .Z, .Z, .Z, .Z, .Z, .Z, .Z, .Z, .Z, .Z, .Z, .Z, .Z, .Z, .Z, .Z, .Z, .Z, .Z, .Z, .Z, .Z, .Z, .Z, .Z, .Z, .Z, .Z, .Z, .Z, .Z, .Z, .Z, .Z, .Z, .Z, .Z, .Z]
def Zd1 : C :=
  (.seq (.seq (rg 5 0 [32, 33, 34, 35] [mv 32 8, fa 33 Za 2 1, ld 34 Zr 33, le' 35 34 Zr, bi 36 .lss Zc (q 32) (q 35) Zc]) (.cond (q 36) .skip (.exit 4))) (.seq (.block 5 (.seq (rg 7 7 [36, 39, 40, 41, 42, 43] [fa 39 Za 2 1, ld 40 Zr 39, mv 41 8, i' 42 (.indexAddr Zr (q 40) (q 41)), ld 43 Zw 42, i' 9 (.alloc Zw), ⟨none, .store Zw (q 9) (q 43), none, none⟩]) (.seq (.seq (rg 15 0 [44, 45, 46, 47, 48, 49, 50, 51, 52, 53, 54, 55, 56, 57] [mv 44 5, fa 45 Zw 9 0, ld 46 Zc 45, i' 47 (.indexAddr Zv (q 44) (q 46)), ld 48 Zc 47, mv 49 7, bi 50 .eql Zc (q 48) (q 49) Zc, mv 51 50, gd 51 true (mv 52 5), gd 51 true (fa 53 Zw 9 1), gd 51 true (ld 54 Zc 53), gd 51 true (i' 55 (.indexAddr Zv (q 52) (q 54))), gd 51 true (ld 56 Zc 55), gd 51 true (bi 57 .lss Zc (q 56) (ki 0) Zc), i' 58 (.pick (q 51) (q 57) (kb false))]) (.cond (q 58) (rg 7 0 [58, 59, 60, 61, 62, 63, 64] [mv 59 5, fa 60 Zw 9 1, ld 61 Zc 60, mv 62 7, bi 63 .add Zc (q 62) (ki 1) Zc, i' 64 (.indexAddr Zv (q 59) (q 61)), ⟨none, .store Zc (q 64) (q 63), none, none⟩]) .skip)) (.seq (rg 15 0 [58, 65, 66, 67, 68, 69, 70, 71, 72, 73, 74, 75, 76, 77, 78] [mv 65 5, fa 66 Zw 9 1, ld 67 Zc 66, i' 68 (.indexAddr Zv (q 65) (q 67)), ld 69 Zc 68, mv 70 7, bi 71 .eql Zc (q 69) (q 70) Zc, mv 72 71, gd 72 true (mv 73 5), gd 72 true (fa 74 Zw 9 0), gd 72 true (ld 75 Zc 74), gd 72 true (i' 76 (.indexAddr Zv (q 73) (q 75))), gd 72 true (ld 77 Zc 76), gd 72 true (bi 78 .lss Zc (q 77) (ki 0) Zc), i' 79 (.pick (q 72) (q 78) (kb false))]) (.cond (q 79) (rg 7 0 [9, 79, 80, 81, 82, 83, 84, 85] [mv 80 5, fa 81 Zw 9 0, ld 82 Zc 81, mv 83 7, bi 84 .add Zc (q 83) (ki 1) Zc, i' 85 (.indexAddr Zv (q 80) (q 82)), ⟨none, .store Zc (q 85) (q 84), none, none⟩]) .skip))))) (rg 3 0 [9, 37, 38, 79] [mv 37 8, bi 38 .add Zc (q 37) (ki 1) Zc, as' 8 38])))
def Zu4 : C := .loop Zd1
/-- What is live at the loop's head: t2 c, t5 d, t7 n, t8 i -/
abbrev Zc0 (t2 t5 t7 t8 : SV) : List SV := [.Z, .Z, t2, .Z, .Z, t5, .Z, t7, t8, .Z, .Z, .Z, .Z, .Z, .Z, .Z, .Z, .Z, .Z, .Z, .Z, .Z, .Z, .Z, .Z, .Z, .Z, .Z, .Z, .Z, .Z, .Z, .Z, .Z, .Z, .Z, .Z, .Z, .Z, .Z, .Z, .Z, .Z, .Z, .Z, .Z, .Z, .Z, .Z, .Z, .Z, .Z, .Z, .Z, .Z, .Z, .Z, .Z, .Z, .Z, .Z, .Z, .Z, .Z, .Z, .Z, .Z, .Z, .Z, .Z, .Z, .Z, .Z, .Z, .Z, .Z, .Z, .Z, .Z, .Z, .Z, .Z, .Z, .Z, .Z, .Z, .Z]
def Zpa : C :=
  (.seq (.seq (rg 4 0 [26, 27, 28] [mv 26 7, mv 27 5, le' 28 27 Zv, bi 29 .lss Zc (q 26) (q 28) Zc]) (.cond (q 29) .skip (.exit 2))) (.seq (.block 3 (.seq (rg 1 0 [29] [i' 8 (.assign (ki 0))]) (.block 4 Zu4))) (rg 3 0 [8, 30, 31, 36] [mv 30 7, bi 31 .add Zc (q 30) (ki 1) Zc, as' 7 31])))
def Zuw : C := .loop Zpa
/-- What is live at the loop's head: t2 c, t5 d, t7 n -/
abbrev Zop (t2 t5 t7 : SV) : List SV := [.Z, .Z, t2, .Z, .Z, t5, .Z, t7, .Z, .Z, .Z, .Z, .Z, .Z, .Z, .Z, .Z, .Z, .Z, .Z, .Z, .Z, .Z, .Z, .Z, .Z, .Z, .Z, .Z, .Z, .Z, .Z, .Z, .Z, .Z, .Z, .Z, .Z, .Z, .Z, .Z, .Z, .Z, .Z, .Z, .Z, .Z, .Z, .Z, .Z, .Z, .Z, .Z, .Z, .Z, .Z, .Z, .Z, .Z, .Z, .Z, .Z, .Z, .Z, .Z, .Z, .Z, .Z, .Z, .Z, .Z, .Z, .Z, .Z, .Z, .Z, .Z, .Z, .Z, .Z, .Z, .Z, .Z, .Z, .Z, .Z, .Z]
def Zwm : C :=
  (.seq (rg 2 2 [0, 4] [i' 2 (.box Za (q 0)), i' 4 (.assign (.const (.slice none 0 0)))]) (.seq (rg 5 5 [10, 11, 12, 13] [fa 10 Za 2 0, ld 11 Zm 10, le' 12 11 Zm, i' 13 (.makeSlice Zv (q 12) (q 12)), as' 5 13]) (.seq (.seq (rg 1 0 [] [i' 6 (.assign (ki 0))]) (.block 0 Zv0)) (.seq (rg 4 0 [1, 6, 17, 23, 24, 25] [mv 23 5, mv 24 1, i' 25 (.indexAddr Zv (q 23) (q 24)), ⟨none, .store Zc (q 25) (ki 0), none, none⟩]) (.seq (.seq (rg 1 0 [] [i' 7 (.assign (ki 0))]) (.block 2 Zuw)) (.seq (rg 2 0 [2, 5, 7, 29, 86] [mv 86 5, as' 4 86]) .ret))))))
theorem Zacw : Tryz.f77.body.map (comp ES Zg2) = some Zwm := by kernel_rfl
theorem Zah5 (t0 t1 : SV) (M : Mem) : ICw ES Zg2 [t0, t1] M = Zx ES [.tmp 4] (evW ES Zg2 Zwm ⟨[t0, t1, .Z, .Z, .Z, .Z, .Z, .Z, .Z, .Z, .Z, .Z, .Z, .Z, .Z, .Z, .Z, .Z, .Z, .Z, .Z, .Z, .Z, .Z, .Z, .Z, .Z, .Z, .Z, .Z, .Z, .Z, .Z, .Z, .Z, .Z, .Z, .Z, .Z, .Z, .Z, .Z, .Z, .Z, .Z, .Z, .Z, .Z, .Z, .Z, .Z, .Z, .Z, .Z, .Z, .Z, .Z, .Z, .Z, .Z, .Z, .Z, .Z, .Z, .Z, .Z, .Z, .Z, .Z, .Z, .Z, .Z, .Z, .Z, .Z, .Z, .Z, .Z, .Z, .Z, .Z, .Z, .Z, .Z, .Z, .Z, .Z], M⟩) :=
  Zab rfl Tryz.func77 Zacw (by kernel_rfl) (by kernel_rfl) (by kernel_rfl) M

/-! drumline/drumlineref5.ports -/
def Zk0 : C :=
  (.seq (.seq (rg 5 0 [7, 8, 9, 10] [mv 7 6, fa 8 Za 2 1, ld 9 Zr 8, le' 10 9 Zr, bi 11 .lss Zc (q 7) (q 10) Zc]) (.cond (q 11) .skip (.exit 0))) (.seq (.block 1 (.seq (rg 18 0 [11, 14, 15, 16, 17, 18, 19, 20, 21, 22, 23, 24, 25, 26, 27, 28, 29, 30] [fa 14 Za 2 1, ld 15 Zr 14, mv 16 6, i' 17 (.indexAddr Zr (q 15) (q 16)), fa 18 Zw 17 0, ld 19 Zc 18, mv 20 1, bi 21 .eql Zc (q 19) (q 20) Zc, mv 22 21, gd 22 false (fa 23 Za 2 1), gd 22 false (ld 24 Zr 23), gd 22 false (mv 25 6), gd 22 false (i' 26 (.indexAddr Zr (q 24) (q 25))), gd 22 false (fa 27 Zw 26 1), gd 22 false (ld 28 Zc 27), gd 22 false (mv 29 1), gd 22 false (bi 30 .eql Zc (q 28) (q 29) Zc), i' 31 (.pick (q 22) (kb true) (q 30))]) (.cond (q 31) (rg 3 0 [31, 32, 33] [mv 32 5, bi 33 .add Zc (q 32) (ki 2) Zc, as' 5 33]) .skip))) (rg 3 0 [12, 13, 31] [mv 12 6, bi 13 .add Zc (q 12) (ki 1) Zc, as' 6 13])))
def Zu8 : C := .loop Zk0
/-- What is live at the loop's head: t1 part, t2 c, t5 n, t6 i -/
abbrev Zkh (t1 t2 t5 t6 : SV) : List SV := [.Z, t1, t2, .Z, .Z, t5, t6, .Z, .Z, .Z, .Z, .Z, .Z, .Z, .Z, .Z, .Z, .Z, .Z, .Z, .Z, .Z, .Z, .Z, .Z, .Z, .Z, .Z, .Z, .Z, .Z, .Z, .Z, .Z, .Z]
def Zwx : C :=
  (.seq (rg 2 2 [0, 4] [i' 2 (.box Za (q 0)), i' 4 (.assign (ki 0))]) (.seq (rg 1 0 [] [i' 5 (.assign (ki 0))]) (.seq (.seq (rg 1 0 [] [i' 6 (.assign (ki 0))]) (.block 0 Zu8)) (.seq (rg 2 0 [1, 2, 5, 6, 11, 34] [mv 34 5, as' 4 34]) .ret))))
theorem Zafb : Tryz.f78.body.map (comp ES Zmc) = some Zwx := by kernel_rfl
theorem Zahp (t0 t1 : SV) (M : Mem) : ICw ES Zmc [t0, t1] M = Zx ES [.tmp 4] (evW ES Zmc Zwx ⟨[t0, t1, .Z, .Z, .Z, .Z, .Z, .Z, .Z, .Z, .Z, .Z, .Z, .Z, .Z, .Z, .Z, .Z, .Z, .Z, .Z, .Z, .Z, .Z, .Z, .Z, .Z, .Z, .Z, .Z, .Z, .Z, .Z, .Z, .Z], M⟩) :=
  Zab rfl Tryz.func78 Zafb (by kernel_rfl) (by kernel_rfl) (by kernel_rfl) M

/-! drumline/drumlineref5.jump -/
def Z0u : C :=
  (.seq (rg 2 2 [] [i' 1 (.box Za (q 0)), i' 2 (.assign (ki 0))]) (.seq (rg 11 0 [] [fa 3 Za 1 8, ld 4 Zc 3, bi 5 .mul Zp (ki 2) (q 4) Zp, ld 6 Za 1, ca 7 Zof #[q 6] #[Za], bi 8 .mul Zp (q 5) (q 7) Zp, ld 9 Za 1, ca 10 Zib #[q 9] #[Za], bi 11 .mul Zp (ki 4) (q 10) Zp, bi 12 .add Zp (q 8) (q 11) Zp, as' 2 12]) .ret))
theorem Zaiu : Tryz.f79.body.map (comp ES Zoc) = some Z0u := by kernel_rfl
theorem Zan1 (t0 : SV) (M : Mem) : ICw ES Zoc [t0] M = Zx ES [.tmp 2] (evW ES Zoc Z0u ⟨[t0, .Z, .Z, .Z, .Z, .Z, .Z, .Z, .Z, .Z, .Z, .Z, .Z], M⟩) :=
  Zab rfl Tryz.func79 Zaiu (by kernel_rfl) (by kernel_rfl) (by kernel_rfl) M
@[simp] theorem Zai6 : CX ES Zoc Zib := cx rfl
@[simp] theorem Zair : CX ES Zoc Zof := cx rfl

/-! drumline/drumlineref1.Ceil -/
def Zvn : C :=
  (.seq (rg 2 0 [] [i' 4 (.assign (ki 0)), i' 5 (.assign (kb false))]) (.seq (.seq (rg 2 0 [] [mv 7 1, bi 8 .lss Zp (q 7) (ki 1) Zp]) (.cond (q 8) (.seq (rg 2 0 [] [i' 4 (.assign (ki 0)), i' 5 (.assign (kb false))]) .ret) .skip)) (.seq (rg 4 0 [] [mv 9 0, mv 10 1, bi 11 .quo Zp (q 9) (q 10) Zp, as' 6 11]) (.seq (.seq (rg 4 0 [] [mv 12 0, mv 13 1, bi 14 .rem Zp (q 12) (q 13) Zp, bi 15 .gtr Zp (q 14) (ki 0) Zp]) (.cond (q 15) (rg 3 0 [] [mv 16 6, bi 17 .add Zp (q 16) (ki 1) Zp, as' 6 17]) .skip)) (.seq (rg 3 0 [] [mv 18 6, as' 4 18, i' 5 (.assign (kb true))]) .ret)))))
theorem Zag1 : Tryz.f80.body.map (comp ES Zrk) = some Zvn := by kernel_rfl
theorem Zanc (t0 t1 : SV) (M : Mem) : ICw ES Zrk [t0, t1] M = Zx ES [.tmp 4, .tmp 5] (evW ES Zrk Zvn ⟨[t0, t1, .Z, .Z, .Z, .Z, .Z, .Z, .Z, .Z, .Z, .Z, .Z, .Z, .Z, .Z, .Z, .Z, .Z], M⟩) :=
  Zab rfl Tryz.func80 Zag1 (by kernel_rfl) (by kernel_rfl) (by kernel_rfl) M

/-! drumline/plan.end -/
def Zwj : C :=
  (.seq (rg 3 3 [] [i' 2 (.box Zw (q 0)), i' 4 (.assign (ki 0)), i' 5 (.alloc Zaq)]) (.seq (.seq (rg 2 0 [] [mv 6 1, bi 7 .eql Zc (q 6) (ki 0) Zc]) (.cond (q 7) (.seq (rg 6 0 [] [fa 8 Zw 2 0, ld 9 Zc 8, fa 10 Zw 2 2, ld 11 Zaq 10, as' 4 9, ⟨none, .store Zaq (q 5) (q 11), none, none⟩]) .ret) .skip)) (.seq (rg 6 0 [] [fa 12 Zw 2 1, ld 13 Zc 12, fa 14 Zw 2 3, ld 15 Zaq 14, as' 4 13, ⟨none, .store Zaq (q 5) (q 15), none, none⟩]) .ret)))
theorem Zadm : Tryz.f81.body.map (comp ES Zii) = some Zwj := by kernel_rfl
theorem Zah0 (t0 t1 : SV) (M : Mem) : ICw ES Zii [t0, t1] M = Zx ES [.tmp 4, .cell 5 Zaq] (evW ES Zii Zwj ⟨[t0, t1, .Z, .Z, .Z, .Z, .Z, .Z, .Z, .Z, .Z, .Z, .Z, .Z, .Z, .Z], M⟩) :=
  Zab rfl Tryz.func81 Zadm (by kernel_rfl) (by kernel_rfl) (by kernel_rfl) M

/-! slices.SortFunc[[]drumline/api.Port,drumline/api.Port] -/
def Zcb : C :=
  (.seq (rg 3 0 [] [mv 5 0, le' 6 5 Zaf, as' 4 6]) (rg 7 7 [] [mv 7 0, mv 8 4, mv 9 4, i' 10 (.convert Zc Zm6 (q 9)), ca 11 Zpm #[q 10] #[Zm6], mv 12 1, ca 13 Zy #[q 7, (ki 0), q 8, q 11, q 12] #[Zaf, Zc, Zc, Zc, Zah]]))
theorem Zj1 : Tryz.f82.body.map (comp ES Zaj) = some Zcb := by kernel_rfl
theorem Zfy (t0 t1 : SV) (M : Mem) : ICw ES Zaj [t0, t1] M = Zx ES [] (evW ES Zaj Zcb ⟨[t0, t1, .Z, .Z, .Z, .Z, .Z, .Z, .Z, .Z, .Z, .Z, .Z, .Z], M⟩) :=
  Zab rfl Tryz.func82 Zj1 (by kernel_rfl) (by kernel_rfl) (by kernel_rfl) M
@[simp] theorem Zlb : CI ES Zaj Zy := ci rfl
@[simp] theorem Zpc : CX ES Zaj Zpm := cx rfl

/-! drumline/plan.Ends$1 -/
def Zr1 : C :=
  (.seq (rg 3 3 [] [i' 2 (.box Zad (q 0)), i' 3 (.box Zad (q 1)), i' 4 (.assign (ki 0))]) (.seq (rg 6 0 [] [fa 5 Zad 2 0, ld 6 Zc 5, fa 7 Zad 3 0, ld 8 Zc 7, bi 9 .sub Zc (q 6) (q 8) Zc, as' 4 9]) .ret))
theorem Z2h : Tryz.f83.body.map (comp ES Zbf) = some Zr1 := by kernel_rfl
theorem Z78 (t0 t1 : SV) (M : Mem) : ICw ES Zbf [t0, t1] M = Zx ES [.tmp 4] (evW ES Zbf Zr1 ⟨[t0, t1, .Z, .Z, .Z, .Z, .Z, .Z, .Z, .Z], M⟩) :=
  Zab rfl Tryz.func83 Z2h (by kernel_rfl) (by kernel_rfl) (by kernel_rfl) M

/-! drumline/table.list$1 -/
def Zq6 : C :=
  (rg 15 15 [] [ld 6 Zdk 2, mv 7 0, mv 8 1, fa 9 Za 3 3, ld 10 Zc 9, ld 11 Zdk 2, le' 12 11 Zdk, fa 13 Za 3 4, ld 14 Zc 13, bi 15 .mul Zc (q 12) (q 14) Zc, bi 16 .add Zc (q 10) (q 15) Zc, i' 17 (.build Zrl #[(0, q 7), (1, q 8), (2, q 16)]), i' 18 (.buildSlice Zdk 1 #[(0, q 17)]), i' 19 (.call { callee := .builtin .append, args := #[q 6, q 18], argTypes := #[Zdk, Zdk] }), ⟨none, .store Zdk (q 2) (q 19), none, none⟩])
theorem Z02 : Tryz.f84.body.map (comp ES Zb1) = some Zq6 := by kernel_rfl
theorem Z29 (t0 t1 t2 t3 : SV) (M : Mem) : ICw ES Zb1 [t0, t1, t2, t3] M = Zx ES [] (evW ES Zb1 Zq6 ⟨[t0, t1, t2, t3, .Z, .Z, .Z, .Z, .Z, .Z, .Z, .Z, .Z, .Z, .Z, .Z, .Z, .Z, .Z, .Z], M⟩) :=
  Zab rfl Tryz.func84 Z02 (by kernel_rfl) (by kernel_rfl) (by kernel_rfl) M

/-! drumline/bounds.part -/
def Zr7 : C :=
  (.seq (rg 1 0 [] [i' 2 (.assign (ki 0))]) (.seq (rg 7 0 [] [mv 6 0, ca 7 Zl8 #[q 6, (ki 1000000)] #[Zp, Zp], mv 5 7, xt 8 5 0, xt 9 5 1, as' 3 8, as' 4 9]) (.seq (rg 2 0 [] [mv 10 3, as' 2 10]) .ret)))
theorem Z2t : Tryz.f85.body.map (comp ES Zgd) = some Zr7 := by kernel_rfl
theorem Z7m (t0 : SV) (M : Mem) : ICw ES Zgd [t0] M = Zx ES [.tmp 2] (evW ES Zgd Zr7 ⟨[t0, .Z, .Z, .Z, .Z, .Z, .Z, .Z, .Z, .Z, .Z], M⟩) :=
  Zab rfl Tryz.func85 Z2t (by kernel_rfl) (by kernel_rfl) (by kernel_rfl) M
@[simp] theorem Z4d : CX ES Zgd Zl8 := cx rfl

/-! slices.IndexFunc[[]drumline/api.Node,drumline/api.Node] -/
def Zbb : C :=
  (.seq (rg 1 0 [] [bi 9 .lss Zc (q 8) (q 7) Zc]) (.seq (.cond (q 9) .skip (.exit 0)) (.seq (.block 1 (.seq (rg 2 0 [9, 10] [mv 10 8, as' 5 10]) (.seq (rg 6 6 [11, 12, 13, 14, 15] [mv 11 1, mv 12 0, mv 13 5, i' 14 (.indexAddr Zj (q 12) (q 13)), ld 15 Zh 14, i' 16 (.call { callee := .value (q 11), args := #[q 15], argTypes := #[Zh] })]) (.cond (q 16) (.seq (rg 2 0 [0, 1, 5, 7, 8, 16, 17] [mv 17 5, as' 4 17]) .ret) .skip)))) (rg 2 0 [5, 16, 18] [bi 18 .add Zc (q 8) (ki 1) Zc, mv 8 18]))))
def Zcs : C := .loop Zbb
/-- What is live at the loop's head: t0 s, t1 f, t7, t8 -/
abbrev Zal (t0 t1 t7 t8 : SV) : List SV := [t0, t1, .Z, .Z, .Z, .Z, .Z, t7, t8, .Z, .Z, .Z, .Z, .Z, .Z, .Z, .Z, .Z, .Z]
def Zb5 : C :=
  (.seq (rg 1 0 [4] [i' 4 (.assign (ki 0))]) (.seq (.seq (rg 3 0 [6] [mv 6 0, le' 7 6 Zj, i' 8 (.move (ki 0))]) (.block 0 Zcs)) (.seq (rg 1 0 [0, 1, 7, 8, 9] [i' 4 (.assign (ki (-1)))]) .ret)))
theorem Zjs : Tryz.f86.body.map (comp ES Zat) = some Zb5 := by kernel_rfl
theorem Zj2 (t0 t1 : SV) (M : Mem) : ICw ES Zat [t0, t1] M = Zx ES [.tmp 4] (evW ES Zat Zb5 ⟨[t0, t1, .Z, .Z, .Z, .Z, .Z, .Z, .Z, .Z, .Z, .Z, .Z, .Z, .Z, .Z, .Z, .Z, .Z], M⟩) :=
  Zab rfl Tryz.func86 Zjs (by kernel_rfl) (by kernel_rfl) (by kernel_rfl) M

/-! drumline/cell.within -/
def Zrs : C :=
  (.seq (rg 1 0 [] [i' 4 (.assign (kb false))]) (.seq (rg 8 0 [] [mv 5 0, bi 6 .geq Zp (q 5) (ki 0) Zp, mv 7 6, gd 7 true (mv 8 0), gd 7 true (mv 9 1), gd 7 true (bi 10 .leq Zp (q 8) (q 9) Zp), i' 11 (.pick (q 7) (q 10) (kb false)), as' 4 11]) .ret))
theorem Z2d : Tryz.f87.body.map (comp ES Zff) = some Zrs := by kernel_rfl
theorem Z72 (t0 t1 : SV) (M : Mem) : ICw ES Zff [t0, t1] M = Zx ES [.tmp 4] (evW ES Zff Zrs ⟨[t0, t1, .Z, .Z, .Z, .Z, .Z, .Z, .Z, .Z, .Z, .Z], M⟩) :=
  Zab rfl Tryz.func87 Z2d (by kernel_rfl) (by kernel_rfl) (by kernel_rfl) M

/-! slices.ContainsFunc[[]int,int] -/
def Ze1 : C :=
  (.seq (rg 1 0 [] [i' 4 (.assign (kb false))]) (.seq (rg 5 0 [] [mv 5 0, mv 6 1, ca 7 Zbd #[q 5, q 6] #[Zv, Zmv], bi 8 .geq Zc (q 7) (ki 0) Zc, as' 4 8]) .ret))
theorem Zmh : Tryz.f88.body.map (comp ES Za6) = some Ze1 := by kernel_rfl
theorem Znc (t0 t1 : SV) (M : Mem) : ICw ES Za6 [t0, t1] M = Zx ES [.tmp 4] (evW ES Za6 Ze1 ⟨[t0, t1, .Z, .Z, .Z, .Z, .Z, .Z, .Z], M⟩) :=
  Zab rfl Tryz.func88 Zmh (by kernel_rfl) (by kernel_rfl) (by kernel_rfl) M
@[simp] theorem Zne : CX ES Za6 Zbd := cx rfl

/-! drumline/cell.aged$1 -/
def Zpb : C :=
  (.seq (rg 1 0 [] [i' 3 (.assign (kb false))]) (.seq (rg 10 0 [] [mv 4 0, bi 5 .lss Zc (q 4) (ki 0) Zc, mv 6 5, gd 6 false (mv 7 0), gd 6 false (fa 8 Za5 1 4), gd 6 false (fa 9 Zag 8 6), gd 6 false (ld 10 Zc 9), gd 6 false (bi 11 .gtr Zc (q 7) (q 10) Zc), i' 12 (.pick (q 6) (kb true) (q 11)), as' 3 12]) .ret))
theorem Z24 : Tryz.f89.body.map (comp ES Zfg) = some Zpb := by kernel_rfl
theorem Z5j (t0 t1 : SV) (M : Mem) : ICw ES Zfg [t0, t1] M = Zx ES [.tmp 3] (evW ES Zfg Zpb ⟨[t0, t1, .Z, .Z, .Z, .Z, .Z, .Z, .Z, .Z, .Z, .Z, .Z], M⟩) :=
  Zab rfl Tryz.func89 Z24 (by kernel_rfl) (by kernel_rfl) (by kernel_rfl) M

/-! drumline/plan.check -/
def Zmb : C :=
  (.seq (rg 2 2 [] [i' 1 (.box Za (q 0)), i' 2 (.assign (.const .nilIface))]) (.seq (.seq (rg 3 0 [] [ld 6 Za 1, ca 7 Zhi #[q 6] #[Za], as' 3 7]) (.seq (rg 2 0 [] [mv 8 3, bi 9 .neq Zj9 (q 8) (.const .nilIface) Zj9]) (.cond (q 9) (.seq (rg 2 0 [] [mv 10 3, as' 2 10]) .ret) .skip))) (.seq (.seq (rg 3 0 [] [ld 11 Za 1, ca 12 Zdp #[q 11] #[Za], as' 4 12]) (.seq (rg 2 0 [] [mv 13 4, bi 14 .neq Zj9 (q 13) (.const .nilIface) Zj9]) (.cond (q 14) (.seq (rg 2 0 [] [mv 15 4, as' 2 15]) .ret) .skip))) (.seq (.seq (rg 4 0 [] [ld 16 Za 1, ca 17 Zcd #[q 16, (ki 0)] #[Za, Zc], ca 18 Zbu #[q 17, (ki (-1))] #[Zv, Zc], as' 5 18]) (.seq (rg 2 0 [] [mv 19 5, bi 20 .geq Zc (q 19) (ki 0) Zc]) (.cond (q 20) (.seq (rg 3 0 [] [mv 21 5, ca 22 Zc2 #[(ki 13), q 21] #[Zby, Zc], as' 2 22]) .ret) .skip))) (.seq (rg 1 0 [] [i' 2 (.assign (.const .nilIface))]) .ret)))))
theorem Z62 : Tryz.f90.body.map (comp ES Zey) = some Zmb := by kernel_rfl
theorem Zabb (t0 : SV) (M : Mem) : ICw ES Zey [t0] M = Zx ES [.tmp 2] (evW ES Zey Zmb ⟨[t0, .Z, .Z, .Z, .Z, .Z, .Z, .Z, .Z, .Z, .Z, .Z, .Z, .Z, .Z, .Z, .Z, .Z, .Z, .Z, .Z, .Z, .Z], M⟩) :=
  Zab rfl Tryz.func90 Z62 (by kernel_rfl) (by kernel_rfl) (by kernel_rfl) M
@[simp] theorem Z5b : CX ES Zey Zhi := cx rfl
@[simp] theorem Z64 : CX ES Zey Zdp := cx rfl
@[simp] theorem Zt6 : CX ES Zey Zbu := cx rfl
@[simp] theorem Z61 : CX ES Zey Zcd := cx rfl
@[simp] theorem Z7i : CX ES Zey Zc2 := cx rfl

/-! drumline/bounds.ranged -/
def Zpo : C :=
  (.seq (rg 2 2 [] [i' 1 (.box Za (q 0)), i' 2 (.assign (ki 0))]) (.seq (rg 18 18 [] [li [] (fa 3 Za 1 2), li [0] (ld 4 Zc 3), li [0, 1] (ca 5 Zbg #[q 4, (ki 1000), (ki 1000000)] #[Zc, Zc, Zc]), li [] (fa 6 Za 1 6), li [3] (ld 7 Zc 6), li [0, 1, 2, 3, 4] (ca 8 Zbg #[q 7, (ki 0), (ki 500)] #[Zc, Zc, Zc]), li [] (fa 9 Za 1 7), li [6] (ld 10 Zc 9), li [0, 1, 2, 3, 4, 5, 6, 7] (ca 11 Zbg #[q 10, (ki 0), (ki 400000)] #[Zc, Zc, Zc]), li [] (fa 12 Za 1 8), li [9] (ld 13 Zc 12), li [0, 1, 2, 3, 4, 5, 6, 7, 8, 9, 10] (ca 14 Zbg #[q 13, (ki 1), (ki 200)] #[Zc, Zc, Zc]), li [] (fa 15 Za 1 9), li [12] (ld 16 Zc 15), li [0, 1, 2, 3, 4, 5, 6, 7, 8, 9, 10, 11, 12, 13] (ca 17 Zbg #[q 16, (ki 0), (ki 20)] #[Zc, Zc, Zc]), li [0, 1, 2, 3, 4, 5, 6, 7, 8, 9, 10, 11, 12, 13, 14] (i' 18 (.buildSlice Zfp 5 #[(0, q 5), (1, q 8), (2, q 11), (3, q 14), (4, q 17)])), li [0, 1, 2, 3, 4, 5, 6, 7, 8, 9, 10, 11, 12, 13, 14, 15] (ca 19 Zb2 #[(ki 1), q 18] #[Zc, Zfp]), li [0, 1, 2, 3, 4, 5, 6, 7, 8, 9, 10, 11, 12, 13, 14, 15, 16] (as' 2 19)]) .ret))
theorem Zye : Tryz.f91.body.map (comp ES Za8) = some Zpo := by kernel_rfl
theorem Z1g (t0 : SV) (M : Mem) : ICw ES Za8 [t0] M = Zx ES [.tmp 2] (evW ES Za8 Zpo ⟨[t0, .Z, .Z, .Z, .Z, .Z, .Z, .Z, .Z, .Z, .Z, .Z, .Z, .Z, .Z, .Z, .Z, .Z, .Z, .Z], M⟩) :=
  Zab rfl Tryz.func91 Zye (by kernel_rfl) (by kernel_rfl) (by kernel_rfl) M
@[simp] theorem Zys : CX ES Za8 Zb2 := cx rfl
@[simp] theorem Zxz : CX ES Za8 Zbg := cx rfl

/-! drumline/bounds.windows -/
def Zi9 : C :=
  (.seq (rg 2 2 [] [i' 1 (.box Za (q 0)), i' 2 (.assign (ki 0))]) (.seq (rg 4 4 [] [ld 6 Za 1, ca 7 Zen #[q 6] #[Za], i' 3 (.alloc Zag), ⟨none, .store Zag (q 3) (q 7), none, none⟩]) (.seq (.seq (rg 11 11 [] [fa 8 Za 1 5, ld 9 Zc 8, fa 10 Zag 3 1, ld 11 Zp 10, fa 12 Zag 3 0, ld 13 Zp 12, bi 14 .add Zp (q 11) (q 13) Zp, ca 15 Zbg #[q 9, q 14, (ki 20000)] #[Zc, Zc, Zc], i' 16 (.buildSlice Zfp 1 #[(0, q 15)]), ca 17 Zb2 #[(ki 6), q 16] #[Zc, Zfp], as' 4 17]) (.seq (rg 2 0 [] [mv 18 4, bi 19 .neq Zc (q 18) (ki 0) Zc]) (.cond (q 19) (.seq (rg 2 0 [] [mv 20 4, as' 2 20]) .ret) .skip))) (.seq (.seq (rg 15 15 [] [li [] (fa 21 Za 1 4), li [0] (ld 22 Zc 21), li [] (fa 23 Za 1 5), li [2] (ld 24 Zc 23), li [2, 3] (bi 25 .mul Zc (ki 2) (q 24) Zc), li [2, 3, 4] (bi 26 .add Zc (q 25) (ki 1) Zc), li [0, 1, 2, 3, 4, 5] (ca 27 Zbg #[q 22, q 26, (ki 1000000)] #[Zc, Zc, Zc]), li [] (fa 28 Za 1 3), li [7] (ld 29 Zc 28), li [] (fa 30 Za 1 5), li [9] (ld 31 Zc 30), li [0, 1, 2, 3, 4, 5, 6, 7, 8, 9, 10] (ca 32 Zbg #[q 29, q 31, (ki 1000000)] #[Zc, Zc, Zc]), li [0, 1, 2, 3, 4, 5, 6, 7, 8, 9, 10, 11] (i' 33 (.buildSlice Zfp 2 #[(0, q 27), (1, q 32)])), li [0, 1, 2, 3, 4, 5, 6, 7, 8, 9, 10, 11, 12] (ca 34 Zb2 #[(ki 7), q 33] #[Zc, Zfp]), li [0, 1, 2, 3, 4, 5, 6, 7, 8, 9, 10, 11, 12, 13] (as' 5 34)]) (.seq (rg 2 0 [] [mv 35 5, bi 36 .neq Zc (q 35) (ki 0) Zc]) (.cond (q 36) (.seq (rg 2 0 [] [mv 37 5, as' 2 37]) .ret) .skip))) (.seq (rg 14 14 [] [li [] (ld 38 Za 1), li [0] (ca 39 Zfd #[q 38] #[Za]), li [] (fa 40 Za 1 7), li [2] (ld 41 Zc 40), li [] (fa 42 Za 1 2), li [4] (ld 43 Zc 42), li [2, 3, 4, 5] (bi 44 .mul Zp (q 41) (q 43) Zp), li [] (fa 45 Zag 3 4), li [7] (ld 46 Zp 45), li [7, 8] (bi 47 .mul Zp (q 46) (ki 1000000) Zp), li [2, 3, 4, 5, 6, 7, 8, 9] (bi 48 .geq Zp (q 44) (q 47) Zp), li [0, 1, 2, 3, 4, 5, 6, 7, 8, 9, 10] (i' 49 (.buildSlice Zfp 2 #[(0, q 39), (1, q 48)])), li [0, 1, 2, 3, 4, 5, 6, 7, 8, 9, 10, 11] (ca 50 Zb2 #[(ki 9), q 49] #[Zc, Zfp]), li [0, 1, 2, 3, 4, 5, 6, 7, 8, 9, 10, 11, 12] (as' 2 50)]) .ret)))))
theorem Zw4 : Tryz.f92.body.map (comp ES Zau) = some Zi9 := by kernel_rfl
theorem Zx7 (t0 : SV) (M : Mem) : ICw ES Zau [t0] M = Zx ES [.tmp 2] (evW ES Zau Zi9 ⟨[t0, .Z, .Z, .Z, .Z, .Z, .Z, .Z, .Z, .Z, .Z, .Z, .Z, .Z, .Z, .Z, .Z, .Z, .Z, .Z, .Z, .Z, .Z, .Z, .Z, .Z, .Z, .Z, .Z, .Z, .Z, .Z, .Z, .Z, .Z, .Z, .Z, .Z, .Z, .Z, .Z, .Z, .Z, .Z, .Z, .Z, .Z, .Z, .Z, .Z, .Z], M⟩) :=
  Zab rfl Tryz.func92 Zw4 (by kernel_rfl) (by kernel_rfl) (by kernel_rfl) M
@[simp] theorem Zw7 : CX ES Zau Zen := cx rfl
@[simp] theorem Zyf : CX ES Zau Zb2 := cx rfl
@[simp] theorem Zxk : CX ES Zau Zbg := cx rfl
@[simp] theorem Zx9 : CX ES Zau Zfd := cx rfl

/-! drumline/bounds.waits -/
def Zn0 : C :=
  (.seq (rg 2 2 [] [i' 1 (.box Za (q 0)), i' 2 (.assign (ki 0))]) (.seq (rg 4 0 [] [fa 6 Za 1 0, ld 7 Zm 6, le' 8 7 Zm, as' 3 8]) (.seq (rg 7 0 [] [mv 9 3, fa 10 Za 1 9, ld 11 Zc 10, bi 12 .add Zc (q 11) (ki 1) Zc, bi 13 .mul Zc (q 9) (q 12) Zc, bi 14 .add Zc (q 13) (ki 2) Zc, as' 4 14]) (.seq (.seq (rg 21 21 [] [li [] (fa 15 Za 1 8), li [0] (ld 16 Zc 15), li [] (mv 17 3), li [2] (bi 18 .sub Zc (q 17) (ki 1) Zc), li [] (fa 19 Za 1 9), li [4] (ld 20 Zc 19), li [4, 5] (bi 21 .add Zc (q 20) (ki 1) Zc), li [2, 3, 4, 5, 6] (bi 22 .mul Zc (q 18) (q 21) Zc), li [2, 3, 4, 5, 6, 7] (bi 23 .add Zc (q 22) (ki 1) Zc), li [0, 1, 2, 3, 4, 5, 6, 7, 8] (bi 24 .geq Zc (q 16) (q 23) Zc), li [] (fa 25 Za 1 10), li [10] (ld 26 Zc 25), li [] (mv 27 4), li [10, 11, 12] (ca 28 Zbg #[q 26, q 27, (ki 60000)] #[Zc, Zc, Zc]), li [] (fa 29 Za 1 11), li [14] (ld 30 Zc 29), li [] (mv 31 4), li [10, 11, 12, 13, 14, 15, 16] (ca 32 Zbg #[q 30, q 31, (ki 60000)] #[Zc, Zc, Zc]), li [0, 1, 2, 3, 4, 5, 6, 7, 8, 9, 10, 11, 12, 13, 14, 15, 16, 17] (i' 33 (.buildSlice Zfp 3 #[(0, q 24), (1, q 28), (2, q 32)])), li [0, 1, 2, 3, 4, 5, 6, 7, 8, 9, 10, 11, 12, 13, 14, 15, 16, 17, 18] (ca 34 Zb2 #[(ki 11), q 33] #[Zc, Zfp]), li [0, 1, 2, 3, 4, 5, 6, 7, 8, 9, 10, 11, 12, 13, 14, 15, 16, 17, 18, 19] (as' 5 34)]) (.seq (rg 2 0 [] [mv 35 5, bi 36 .neq Zc (q 35) (ki 0) Zc]) (.cond (q 36) (.seq (rg 2 0 [] [mv 37 5, as' 2 37]) .ret) .skip))) (.seq (rg 16 16 [] [li [] (fa 38 Za 1 10), li [0] (ld 39 Zc 38), li [] (mv 40 3), li [] (fa 41 Za 1 11), li [3] (ld 42 Zc 41), li [2, 3, 4] (bi 43 .mul Zc (q 40) (q 42) Zc), li [0, 1, 2, 3, 4, 5] (bi 44 .add Zc (q 39) (q 43) Zc), li [0, 1, 2, 3, 4, 5, 6] (bi 45 .leq Zc (q 44) (ki 60000) Zc), li [] (fa 46 Za 1 12), li [8] (ld 47 Zc 46), li [] (mv 48 3), li [10] (bi 49 .add Zc (q 48) (ki 2) Zc), li [8, 9, 10, 11] (ca 50 Zbg #[q 47, q 49, (ki 64)] #[Zc, Zc, Zc]), li [0, 1, 2, 3, 4, 5, 6, 7, 8, 9, 10, 11, 12] (i' 51 (.buildSlice Zfp 2 #[(0, q 45), (1, q 50)])), li [0, 1, 2, 3, 4, 5, 6, 7, 8, 9, 10, 11, 12, 13] (ca 52 Zb2 #[(ki 14), q 51] #[Zc, Zfp]), li [0, 1, 2, 3, 4, 5, 6, 7, 8, 9, 10, 11, 12, 13, 14] (as' 2 52)]) .ret)))))
theorem Z1d : Tryz.f93.body.map (comp ES Zbe) = some Zn0 := by kernel_rfl
theorem Z20 (t0 : SV) (M : Mem) : ICw ES Zbe [t0] M = Zx ES [.tmp 2] (evW ES Zbe Zn0 ⟨[t0, .Z, .Z, .Z, .Z, .Z, .Z, .Z, .Z, .Z, .Z, .Z, .Z, .Z, .Z, .Z, .Z, .Z, .Z, .Z, .Z, .Z, .Z, .Z, .Z, .Z, .Z, .Z, .Z, .Z, .Z, .Z, .Z, .Z, .Z, .Z, .Z, .Z, .Z, .Z, .Z, .Z, .Z, .Z, .Z, .Z, .Z, .Z, .Z, .Z, .Z, .Z, .Z], M⟩) :=
  Zab rfl Tryz.func93 Z1d (by kernel_rfl) (by kernel_rfl) (by kernel_rfl) M
@[simp] theorem Zy2 : CX ES Zbe Zb2 := cx rfl
@[simp] theorem Zyv : CX ES Zbe Zbg := cx rfl

/-! drumline/drumlineref5.ends -/
def Zka : C :=
  (.seq (.seq (rg 2 0 [17] [mv 17 9, bi 18 .lss Zc (q 17) (ki 2) Zc]) (.cond (q 18) .skip (.exit 0))) (.seq (.block 1 (.seq (rg 13 13 [10, 18, 21, 22, 23, 24, 25, 26, 27, 28, 29, 30] [li [] (ld 22 Za 4), li [] (mv 23 1), li [] (mv 24 2), li [] (mv 25 9), li [3] (i' 26 (.indexAddr Zaq (q 7) (q 25))), li [3, 4] (ld 27 Zc 26), li [0, 1, 2, 3, 4, 5] (ca 28 Zhn #[q 22, q 23, q 24, q 27] #[Za, Zc, Zc, Zc]), li [0, 1, 2, 3, 4, 5, 6] (mv 21 28), li [0, 1, 2, 3, 4, 5, 6, 7] (xt 29 21 0), li [0, 1, 2, 3, 4, 5, 6, 7] (xt 30 21 1), li [] (i' 10 (.alloc Zad)), ⟨none, .store Zad (q 10) (q 29), none, some [0, 1, 2, 3, 4, 5, 6, 7, 8, 10]⟩, li [0, 1, 2, 3, 4, 5, 6, 7, 8, 9, 10, 11] (as' 11 30)]) (.seq (rg 14 0 [11, 31, 32, 33, 34, 35, 36, 37, 38, 39, 40, 41, 42, 43] [mv 31 9, i' 32 (.indexAddr Zaq (q 7) (q 31)), ld 33 Zc 32, fa 34 Za 4 0, ld 35 Zm 34, mv 36 2, i' 37 (.indexAddr Zm (q 35) (q 36)), fa 38 Zaz 37 0, ld 39 Zc 38, ca 40 Znx #[q 33, q 39] #[Zc, Zc], i' 41 (.unOp .not Zbm (q 40)), mv 42 41, gd 42 false (mv 43 11), i' 44 (.pick (q 42) (kb true) (q 43))]) (.cond (q 44) (.seq (rg 1 0 [1, 2, 4, 7, 9, 44] [i' 8 (.assign (kb true))]) .ret) .skip)))) (rg 3 0 [19, 20, 44] [mv 19 9, bi 20 .add Zc (q 19) (ki 1) Zc, as' 9 20])))
def Zkp : C := .loop Zka
/-- What is live at the loop's head: t1 i, t2 part, t4 c, t7 p, t9 g -/
abbrev Zc3 (t1 t2 t4 t7 t9 : SV) : List SV := [.Z, t1, t2, .Z, t4, .Z, .Z, t7, .Z, t9, .Z, .Z, .Z, .Z, .Z, .Z, .Z, .Z, .Z, .Z, .Z, .Z, .Z, .Z, .Z, .Z, .Z, .Z, .Z, .Z, .Z, .Z, .Z, .Z, .Z, .Z, .Z, .Z, .Z, .Z, .Z, .Z, .Z, .Z, .Z]
def Zrf : C :=
  (.seq (rg 3 3 [0, 3, 8] [i' 4 (.box Za (q 0)), i' 7 (.box Zaq (q 3)), i' 8 (.assign (kb false))]) (.seq (.seq (rg 5 0 [12, 13, 14, 15] [i' 12 (.indexAddr Zaq (q 7) (ki 0)), ld 13 Zc 12, i' 14 (.indexAddr Zaq (q 7) (ki 1)), ld 15 Zc 14, bi 16 .eql Zc (q 13) (q 15) Zc]) (.cond (q 16) (.seq (rg 1 0 [1, 2, 4, 7, 16] [i' 8 (.assign (kb true))]) .ret) .skip)) (.seq (.seq (rg 1 0 [16] [i' 9 (.assign (ki 0))]) (.block 0 Zkp)) (.seq (rg 1 0 [1, 2, 4, 7, 9, 18] [i' 8 (.assign (kb false))]) .ret))))
theorem Zahw : Tryz.f100.body.map (comp ES Zhm) = some Zrf := by kernel_rfl
theorem Zako (t0 t1 t2 t3 : SV) (M : Mem) : ICw ES Zhm [t0, t1, t2, t3] M = Zx ES [.tmp 8] (evW ES Zhm Zrf ⟨[t0, t1, t2, t3, .Z, .Z, .Z, .Z, .Z, .Z, .Z, .Z, .Z, .Z, .Z, .Z, .Z, .Z, .Z, .Z, .Z, .Z, .Z, .Z, .Z, .Z, .Z, .Z, .Z, .Z, .Z, .Z, .Z, .Z, .Z, .Z, .Z, .Z, .Z, .Z, .Z, .Z, .Z, .Z, .Z], M⟩) :=
  Zab rfl Tryz.func100 Zahw (by kernel_rfl) (by kernel_rfl) (by kernel_rfl) M
@[simp] theorem Zaob : CX ES Zhm Znx := cx rfl
@[simp] theorem Zahh : CX ES Zhm Zhn := cx rfl

/-! drumline/drumlineref5.step -/
def Z0k : C :=
  (.seq (rg 2 2 [] [i' 1 (.box Za (q 0)), i' 2 (.assign (ki 0))]) (.seq (rg 9 0 [] [ld 3 Za 1, ca 4 Zib #[q 3] #[Za], bi 5 .mul Zp (ki 4) (q 4) Zp, ld 6 Za 1, ca 7 Zpw #[q 6] #[Za], bi 8 .mul Zp (ki 2) (q 7) Zp, bi 9 .add Zp (q 5) (q 8) Zp, bi 10 .add Zp (q 9) (ki 2) Zp, as' 2 10]) .ret))
theorem Zajz : Tryz.f101.body.map (comp ES Zof) = some Z0k := by kernel_rfl
theorem Zanu (t0 : SV) (M : Mem) : ICw ES Zof [t0] M = Zx ES [.tmp 2] (evW ES Zof Z0k ⟨[t0, .Z, .Z, .Z, .Z, .Z, .Z, .Z, .Z, .Z, .Z], M⟩) :=
  Zab rfl Tryz.func101 Zajz (by kernel_rfl) (by kernel_rfl) (by kernel_rfl) M
@[simp] theorem Zaiw : CX ES Zof Zib := cx rfl
@[simp] theorem Zag7 : CX ES Zof Zpw := cx rfl

/-! slices.pdqsortCmpFunc[drumline/api.Port] -/
def Zd7 : C :=
  (.block 1 (.seq (rg 4 0 [21, 22, 23] [mv 21 2, mv 22 1, bi 23 .sub Zc (q 21) (q 22) Zc, as' 12 23]) (.seq (.seq (rg 2 0 [24] [mv 24 12, bi 25 .leq Zc (q 24) (ki 12) Zc]) (.cond (q 25) (.seq (rg 5 5 [0, 1, 2, 3, 4, 10, 11, 12, 25, 26, 27, 28, 29, 30] [mv 26 0, mv 27 1, mv 28 2, mv 29 4, ca 30 Zaa #[q 26, q 27, q 28, q 29] #[Zaf, Zc, Zc, Zah]]) .ret) .skip)) (.seq (.seq (rg 2 0 [25, 31] [mv 31 3, bi 32 .eql Zc (q 31) (ki 0) Zc]) (.cond (q 32) (.seq (rg 5 0 [0, 1, 2, 3, 4, 10, 11, 12, 32, 33, 34, 35, 36, 37] [mv 33 0, mv 34 1, mv 35 2, mv 36 4, ca 37 Zg8 #[q 33, q 34, q 35, q 36] #[Zaf, Zc, Zc, Zah]]) .ret) .skip)) (.seq (.seq (rg 2 0 [32, 38] [mv 38 10, i' 39 (.unOp .not Zbm (q 38))]) (.cond (q 39) (.seq (rg 5 0 [39, 40, 41, 42, 43, 44] [mv 40 0, mv 41 1, mv 42 2, mv 43 4, ca 44 Zfw #[q 40, q 41, q 42, q 43] #[Zaf, Zc, Zc, Zah]]) (rg 3 0 [45, 46] [mv 45 3, bi 46 .sub Zc (q 45) (ki 1) Zc, as' 3 46])) .skip)) (.seq (rg 10 0 [39, 47, 48, 49, 50, 51, 52, 53, 54] [mv 48 0, mv 49 1, mv 50 2, mv 51 4, ca 52 Zgk #[q 48, q 49, q 50, q 51] #[Zaf, Zc, Zc, Zah], mv 47 52, xt 53 47 0, xt 54 47 1, as' 13 53, as' 14 54]) (.seq (.seq (rg 2 0 [55] [mv 55 14, bi 56 .eql Ze3 (q 55) (ki 2) Ze3]) (.cond (q 56) (.seq (rg 5 0 [14, 56, 57, 58, 59, 60, 61] [mv 57 0, mv 58 1, mv 59 2, mv 60 4, ca 61 Zga #[q 57, q 58, q 59, q 60] #[Zaf, Zc, Zc, Zah]]) (.seq (rg 7 0 [62, 63, 64, 65, 66, 67] [mv 62 2, bi 63 .sub Zc (q 62) (ki 1) Zc, mv 64 13, mv 65 1, bi 66 .sub Zc (q 64) (q 65) Zc, bi 67 .sub Zc (q 63) (q 66) Zc, as' 13 67]) (rg 1 0 [] [i' 14 (.assign (ki 1))]))) .skip)) (.seq (.seq (rg 8 0 [14, 56, 68, 69, 70, 71, 72, 73, 74] [mv 68 10, mv 69 68, gd 69 true (mv 70 11), i' 71 (.pick (q 69) (q 70) (kb false)), mv 72 71, gd 72 true (mv 73 14), gd 72 true (bi 74 .eql Ze3 (q 73) (ki 1) Ze3), i' 75 (.pick (q 72) (q 74) (kb false))]) (.cond (q 75) (.seq (rg 5 0 [75, 76, 77, 78, 79] [mv 76 0, mv 77 1, mv 78 2, mv 79 4, ca 80 Zed #[q 76, q 77, q 78, q 79] #[Zaf, Zc, Zc, Zah]]) (.cond (q 80) .ret .skip)) .skip)) (.seq (.seq (rg 17 17 [75, 80, 81, 82, 83, 84, 85, 86, 87, 88, 89, 90, 91, 92, 93, 94, 95, 96] [li [] (mv 81 1), li [0] (bi 82 .gtr Zc (q 81) (ki 0) Zc), li [0, 1] (mv 83 82), li [0, 1, 2] (gd 83 true (mv 84 4)), li [0, 1, 2] (gd 83 true (mv 85 0)), li [0, 1, 2] (gd 83 true (mv 86 1)), li [0, 1, 2, 5] (gd 83 true (bi 87 .sub Zc (q 86) (ki 1) Zc)), li [0, 1, 2, 4, 5, 6] (gd 83 true (i' 88 (.indexAddr Zaf (q 85) (q 87)))), li [0, 1, 2, 4, 5, 6, 7] (gd 83 true (ld 89 Zad 88)), li [0, 1, 2] (gd 83 true (mv 90 0)), li [0, 1, 2] (gd 83 true (mv 91 13)), li [0, 1, 2, 9, 10] (gd 83 true (i' 92 (.indexAddr Zaf (q 90) (q 91)))), li [0, 1, 2, 9, 10, 11] (gd 83 true (ld 93 Zad 92)), li [0, 1, 2, 3, 4, 5, 6, 7, 8, 9, 10, 11, 12] (gd 83 true (i' 94 (.call { callee := .value (q 84), args := #[q 89, q 93], argTypes := #[Zad, Zad] }))), li [0, 1, 2, 3, 4, 5, 6, 7, 8, 9, 10, 11, 12, 13] (gd 83 true (bi 95 .lss Zc (q 94) (ki 0) Zc)), li [0, 1, 2, 3, 4, 5, 6, 7, 8, 9, 10, 11, 12, 13, 14] (gd 83 true (i' 96 (.unOp .not Zbm (q 95)))), li [0, 1, 2, 3, 4, 5, 6, 7, 8, 9, 10, 11, 12, 13, 14, 15] (i' 97 (.pick (q 83) (q 96) (kb false)))]) (.cond (q 97) (.seq (rg 7 0 [1, 12, 13, 97, 98, 99, 100, 101, 102, 103] [mv 98 0, mv 99 1, mv 100 2, mv 101 13, mv 102 4, ca 103 Zfn #[q 98, q 99, q 100, q 101, q 102] #[Zaf, Zc, Zc, Zc, Zah], as' 15 103]) (.seq (rg 2 0 [15, 104] [mv 104 15, as' 1 104]) (.exit 1))) .skip)) (.seq (rg 11 0 [10, 11, 13, 97, 105, 106, 107, 108, 109, 110, 111, 112, 113] [mv 106 0, mv 107 1, mv 108 2, mv 109 13, mv 110 4, ca 111 Zgx #[q 106, q 107, q 108, q 109, q 110] #[Zaf, Zc, Zc, Zc, Zah], mv 105 111, xt 112 105 0, xt 113 105 1, as' 16 112, as' 17 113]) (.seq (rg 2 0 [17, 114] [mv 114 17, as' 11 114]) (.seq (rg 8 0 [115, 116, 117, 118, 119, 120] [mv 115 16, mv 116 1, bi 117 .sub Zc (q 115) (q 116) Zc, mv 118 2, mv 119 16, bi 120 .sub Zc (q 118) (q 119) Zc, as' 18 117, as' 19 120]) (.seq (rg 3 0 [12, 121, 122] [mv 121 12, bi 122 .quo Zc (q 121) (ki 8) Zc, as' 20 122]) (.seq (rg 3 0 [123, 124] [mv 123 18, mv 124 19, bi 125 .lss Zc (q 123) (q 124) Zc]) (.cond (q 125) (.seq (rg 4 0 [18, 19, 20, 125, 126, 127, 128] [mv 126 18, mv 127 20, bi 128 .geq Zc (q 126) (q 127) Zc, as' 10 128]) (.seq (rg 6 0 [1, 129, 130, 131, 132, 133, 134] [mv 129 0, mv 130 1, mv 131 16, mv 132 3, mv 133 4, ca 134 Zy #[q 129, q 130, q 131, q 132, q 133] #[Zaf, Zc, Zc, Zc, Zah]]) (rg 3 0 [16, 135, 136] [mv 135 16, bi 136 .add Zc (q 135) (ki 1) Zc, as' 1 136]))) (.seq (rg 4 0 [18, 19, 20, 125, 137, 138, 139] [mv 137 19, mv 138 20, bi 139 .geq Zc (q 137) (q 138) Zc, as' 10 139]) (.seq (rg 7 0 [2, 140, 141, 142, 143, 144, 145, 146] [mv 140 0, mv 141 16, bi 142 .add Zc (q 141) (ki 1) Zc, mv 143 2, mv 144 3, mv 145 4, ca 146 Zy #[q 140, q 142, q 143, q 144, q 145] #[Zaf, Zc, Zc, Zc, Zah]]) (rg 2 0 [16, 147] [mv 147 16, as' 2 147]))))))))))))))))))
def Zd4 : C := .loop Zd7
/-- What is live at the loop's head: t0 data, t1 a, t2 b, t3 limit, t4 cmp, t10 wasBalanced, t11 wasPartitioned -/
abbrev Zus (t0 t1 t2 t3 t4 t10 t11 : SV) : List SV := [t0, t1, t2, t3, t4, .Z, .Z, .Z, .Z, .Z, t10, t11, .Z, .Z, .Z, .Z, .Z, .Z, .Z, .Z, .Z, .Z, .Z, .Z, .Z, .Z, .Z, .Z, .Z, .Z, .Z, .Z, .Z, .Z, .Z, .Z, .Z, .Z, .Z, .Z, .Z, .Z, .Z, .Z, .Z, .Z, .Z, .Z, .Z, .Z, .Z, .Z, .Z, .Z, .Z, .Z, .Z, .Z, .Z, .Z, .Z, .Z, .Z, .Z, .Z, .Z, .Z, .Z, .Z, .Z, .Z, .Z, .Z, .Z, .Z, .Z, .Z, .Z, .Z, .Z, .Z, .Z, .Z, .Z, .Z, .Z, .Z, .Z, .Z, .Z, .Z, .Z, .Z, .Z, .Z, .Z, .Z, .Z, .Z, .Z, .Z, .Z, .Z, .Z, .Z, .Z, .Z, .Z, .Z, .Z, .Z, .Z, .Z, .Z, .Z, .Z, .Z, .Z, .Z, .Z, .Z, .Z, .Z, .Z, .Z, .Z, .Z, .Z, .Z, .Z, .Z, .Z, .Z, .Z, .Z, .Z, .Z, .Z, .Z, .Z, .Z, .Z, .Z, .Z, .Z, .Z, .Z, .Z]
def Zda : C :=
  (.seq (rg 1 0 [] [i' 10 (.assign (kb true))]) (.seq (rg 1 0 [] [i' 11 (.assign (kb true))]) (.block 0 Zd4)))
theorem Zm4 : Tryz.f102.body.map (comp ES Zy) = some Zda := by kernel_rfl
theorem Zh4 (t0 t1 t2 t3 t4 : SV) (M : Mem) : ICw ES Zy [t0, t1, t2, t3, t4] M = Zx ES [] (evW ES Zy Zda ⟨[t0, t1, t2, t3, t4, .Z, .Z, .Z, .Z, .Z, .Z, .Z, .Z, .Z, .Z, .Z, .Z, .Z, .Z, .Z, .Z, .Z, .Z, .Z, .Z, .Z, .Z, .Z, .Z, .Z, .Z, .Z, .Z, .Z, .Z, .Z, .Z, .Z, .Z, .Z, .Z, .Z, .Z, .Z, .Z, .Z, .Z, .Z, .Z, .Z, .Z, .Z, .Z, .Z, .Z, .Z, .Z, .Z, .Z, .Z, .Z, .Z, .Z, .Z, .Z, .Z, .Z, .Z, .Z, .Z, .Z, .Z, .Z, .Z, .Z, .Z, .Z, .Z, .Z, .Z, .Z, .Z, .Z, .Z, .Z, .Z, .Z, .Z, .Z, .Z, .Z, .Z, .Z, .Z, .Z, .Z, .Z, .Z, .Z, .Z, .Z, .Z, .Z, .Z, .Z, .Z, .Z, .Z, .Z, .Z, .Z, .Z, .Z, .Z, .Z, .Z, .Z, .Z, .Z, .Z, .Z, .Z, .Z, .Z, .Z, .Z, .Z, .Z, .Z, .Z, .Z, .Z, .Z, .Z, .Z, .Z, .Z, .Z, .Z, .Z, .Z, .Z, .Z, .Z, .Z, .Z, .Z, .Z], M⟩) :=
  Zab rfl Tryz.func102 Zm4 (by kernel_rfl) (by kernel_rfl) (by kernel_rfl) M
@[simp] theorem Zmu : CX ES Zy Zy := cx rfl
@[simp] theorem Zlp : CI ES Zy Zaa := ci rfl
@[simp] theorem Zmg : CX ES Zy Zg8 := cx rfl
@[simp] theorem Zlh : CX ES Zy Zfw := cx rfl
@[simp] theorem Zlz : CX ES Zy Zgk := cx rfl
@[simp] theorem Zlu : CX ES Zy Zga := cx rfl
@[simp] theorem Zjx : CX ES Zy Zed := cx rfl
@[simp] theorem Zla : CX ES Zy Zfn := cx rfl
@[simp] theorem Zmf : CX ES Zy Zgx := cx rfl

/-! drumline/ticks.Ceil -/
def Zqu : C :=
  (.seq (rg 2 0 [] [i' 4 (.assign (ki 0)), i' 5 (.assign (kb false))]) (.seq (.seq (rg 2 0 [] [mv 7 1, bi 8 .lss Zp (q 7) (ki 1) Zp]) (.cond (q 8) (.seq (rg 2 0 [] [i' 4 (.assign (ki 0)), i' 5 (.assign (kb false))]) .ret) .skip)) (.seq (rg 4 0 [] [mv 9 0, mv 10 1, bi 11 .quo Zp (q 9) (q 10) Zp, as' 6 11]) (.seq (.seq (rg 4 0 [] [mv 12 0, mv 13 1, bi 14 .rem Zp (q 12) (q 13) Zp, bi 15 .gtr Zp (q 14) (ki 0) Zp]) (.cond (q 15) (rg 3 0 [] [mv 16 6, bi 17 .add Zp (q 16) (ki 1) Zp, as' 6 17]) .skip)) (.seq (rg 3 0 [] [mv 18 6, as' 4 18, i' 5 (.assign (kb true))]) .ret)))))
theorem Z7f : Tryz.f104.body.map (comp ES Zl8) = some Zqu := by kernel_rfl
theorem Z96 (t0 t1 : SV) (M : Mem) : ICw ES Zl8 [t0, t1] M = Zx ES [.tmp 4, .tmp 5] (evW ES Zl8 Zqu ⟨[t0, t1, .Z, .Z, .Z, .Z, .Z, .Z, .Z, .Z, .Z, .Z, .Z, .Z, .Z, .Z, .Z, .Z, .Z], M⟩) :=
  Zab rfl Tryz.func104 Z7f (by kernel_rfl) (by kernel_rfl) (by kernel_rfl) M

/-! slices.IndexFunc[[]int,int] -/
def Zcc : C :=
  (.seq (rg 1 0 [] [bi 9 .lss Zc (q 8) (q 7) Zc]) (.seq (.cond (q 9) .skip (.exit 0)) (.seq (.block 1 (.seq (rg 2 0 [9, 10] [mv 10 8, as' 5 10]) (.seq (rg 6 6 [11, 12, 13, 14, 15] [mv 11 1, mv 12 0, mv 13 5, i' 14 (.indexAddr Zv (q 12) (q 13)), ld 15 Zc 14, i' 16 (.call { callee := .value (q 11), args := #[q 15], argTypes := #[Zc] })]) (.cond (q 16) (.seq (rg 2 0 [0, 1, 5, 7, 8, 16, 17] [mv 17 5, as' 4 17]) .ret) .skip)))) (rg 2 0 [5, 16, 18] [bi 18 .add Zc (q 8) (ki 1) Zc, mv 8 18]))))
def Ze0 : C := .loop Zcc
/-- What is live at the loop's head: t0 s, t1 f, t7, t8 -/
abbrev Za9 (t0 t1 t7 t8 : SV) : List SV := [t0, t1, .Z, .Z, .Z, .Z, .Z, t7, t8, .Z, .Z, .Z, .Z, .Z, .Z, .Z, .Z, .Z, .Z]
def Zd0 : C :=
  (.seq (rg 1 0 [4] [i' 4 (.assign (ki 0))]) (.seq (.seq (rg 3 0 [6] [mv 6 0, le' 7 6 Zv, i' 8 (.move (ki 0))]) (.block 0 Ze0)) (.seq (rg 1 0 [0, 1, 7, 8, 9] [i' 4 (.assign (ki (-1)))]) .ret)))
theorem Zod : Tryz.f105.body.map (comp ES Zbd) = some Zd0 := by kernel_rfl
theorem Zou (t0 t1 : SV) (M : Mem) : ICw ES Zbd [t0, t1] M = Zx ES [.tmp 4] (evW ES Zbd Zd0 ⟨[t0, t1, .Z, .Z, .Z, .Z, .Z, .Z, .Z, .Z, .Z, .Z, .Z, .Z, .Z, .Z, .Z, .Z, .Z], M⟩) :=
  Zab rfl Tryz.func105 Zod (by kernel_rfl) (by kernel_rfl) (by kernel_rfl) M

/-! drumline/plan.parts -/
def Zel : C :=
  (.seq (rg 1 0 [] [bi 20 .lss Zc (q 19) (q 18) Zc]) (.seq (.cond (q 20) .skip (.exit 0)) (.seq (.block 1 (.seq (rg 6 6 [20, 21, 22, 23] [mv 21 19, i' 22 (.indexAddr Zm (q 17) (q 19)), ld 23 Zaz 22, i' 4 (.alloc Zaz), as' 3 21, ⟨none, .store Zaz (q 4) (q 23), none, none⟩]) (.seq (rg 27 0 [4, 24, 25, 26, 27, 28, 29, 30, 31, 32, 33, 34, 35, 36, 37, 38, 39, 40, 41, 42, 43, 44, 45, 46, 47, 48, 49] [fa 24 Zaz 4 0, ld 25 Zc 24, bi 26 .lss Zc (q 25) (ki 1) Zc, mv 27 26, gd 27 false (fa 28 Zaz 4 0), gd 27 false (ld 29 Zc 28), gd 27 false (bi 30 .gtr Zc (q 29) (ki 12) Zc), i' 31 (.pick (q 27) (kb true) (q 30)), mv 32 31, gd 32 false (fa 33 Zaz 4 1), gd 32 false (ld 34 Zc 33), gd 32 false (bi 35 .lss Zc (q 34) (ki 0) Zc), i' 36 (.pick (q 32) (kb true) (q 35)), mv 37 36, gd 37 false (fa 38 Zaz 4 1), gd 37 false (ld 39 Zc 38), gd 37 false (bi 40 .gtr Zc (q 39) (ki 3) Zc), i' 41 (.pick (q 37) (kb true) (q 40)), mv 42 41, gd 42 false (fa 43 Zaz 4 0), gd 42 false (ld 44 Zc 43), gd 42 false (fa 45 Zaz 4 1), gd 42 false (ld 46 Zc 45), gd 42 false (bi 47 .mul Zc (ki 3) (q 46) Zc), gd 42 false (bi 48 .add Zc (q 47) (ki 1) Zc), gd 42 false (bi 49 .lss Zc (q 44) (q 48) Zc), i' 50 (.pick (q 42) (kb true) (q 49))]) (.cond (q 50) (.seq (rg 3 0 [3, 17, 18, 19, 50, 51, 52] [mv 51 3, ca 52 Zc2 #[(ki 8), q 51] #[Zby, Zc], as' 2 52]) .ret) .skip)))) (rg 2 0 [3, 50, 53] [bi 53 .add Zc (q 19) (ki 1) Zc, mv 19 53]))))
def Zp1 : C := .loop Zel
/-- What is live at the loop's head: t17, t18, t19 -/
abbrev Zdh (t17 t18 t19 : SV) : List SV := [.Z, .Z, .Z, .Z, .Z, .Z, .Z, .Z, .Z, .Z, .Z, .Z, .Z, .Z, .Z, .Z, .Z, t17, t18, t19, .Z, .Z, .Z, .Z, .Z, .Z, .Z, .Z, .Z, .Z, .Z, .Z, .Z, .Z, .Z, .Z, .Z, .Z, .Z, .Z, .Z, .Z, .Z, .Z, .Z, .Z, .Z, .Z, .Z, .Z, .Z, .Z, .Z, .Z]
def Zme : C :=
  (.seq (rg 2 2 [0, 2] [i' 1 (.box Za (q 0)), i' 2 (.assign (.const .nilIface))]) (.seq (.seq (rg 10 0 [5, 6, 7, 8, 9, 10, 11, 12, 13] [fa 5 Za 1 0, ld 6 Zm 5, le' 7 6 Zm, bi 8 .lss Zc (q 7) (ki 1) Zc, mv 9 8, gd 9 false (fa 10 Za 1 0), gd 9 false (ld 11 Zm 10), gd 9 false (le' 12 11 Zm), gd 9 false (bi 13 .gtr Zc (q 12) (ki 6) Zc), i' 14 (.pick (q 9) (kb true) (q 13))]) (.cond (q 14) (.seq (rg 2 0 [1, 14, 15] [ca 15 Zc2 #[(ki 7), (ki 0)] #[Zby, Zc], as' 2 15]) .ret) .skip)) (.seq (.seq (rg 4 0 [1, 14, 16] [fa 16 Za 1 0, ld 17 Zm 16, le' 18 17 Zm, i' 19 (.move (ki 0))]) (.block 0 Zp1)) (.seq (rg 1 0 [17, 18, 19, 20] [i' 2 (.assign (.const .nilIface))]) .ret))))
theorem Z7w : Tryz.f106.body.map (comp ES Zhi) = some Zme := by kernel_rfl
theorem Zabe (t0 : SV) (M : Mem) : ICw ES Zhi [t0] M = Zx ES [.tmp 2] (evW ES Zhi Zme ⟨[t0, .Z, .Z, .Z, .Z, .Z, .Z, .Z, .Z, .Z, .Z, .Z, .Z, .Z, .Z, .Z, .Z, .Z, .Z, .Z, .Z, .Z, .Z, .Z, .Z, .Z, .Z, .Z, .Z, .Z, .Z, .Z, .Z, .Z, .Z, .Z, .Z, .Z, .Z, .Z, .Z, .Z, .Z, .Z, .Z, .Z, .Z, .Z, .Z, .Z, .Z, .Z, .Z, .Z], M⟩) :=
  Zab rfl Tryz.func106 Z7w (by kernel_rfl) (by kernel_rfl) (by kernel_rfl) M
@[simp] theorem Z7p : CX ES Zhi Zc2 := cx rfl

/-! drumline/plan.links -/
def Zdr : C :=
  (.seq (rg 1 0 [] [bi 14 .lss Zc (q 13) (q 12) Zc]) (.seq (.cond (q 14) .skip (.exit 0)) (.seq (.block 1 (.seq (rg 6 6 [14, 15, 16, 17] [mv 15 13, i' 16 (.indexAddr Zr (q 11) (q 13)), ld 17 Zw 16, i' 4 (.alloc Zw), as' 3 15, ⟨none, .store Zw (q 4) (q 17), none, none⟩]) (.block 2 (.seq (rg 24 0 [19, 20, 21, 22, 23, 24, 25, 26, 27, 28, 29, 30, 31, 32, 33, 34, 35, 36, 37, 38, 39, 40, 41] [fa 19 Zw 4 0, ld 20 Zc 19, fa 21 Za 1 0, ld 22 Zm 21, le' 23 22 Zm, ca 24 Zhc #[q 20, q 23] #[Zc, Zc], i' 25 (.unOp .not Zbm (q 24)), mv 26 25, gd 26 false (fa 27 Zw 4 1), gd 26 false (ld 28 Zc 27), gd 26 false (fa 29 Za 1 0), gd 26 false (ld 30 Zm 29), gd 26 false (le' 31 30 Zm), gd 26 false (ca 32 Zhc #[q 28, q 31] #[Zc, Zc]), gd 26 false (i' 33 (.unOp .not Zbm (q 32))), i' 34 (.pick (q 26) (kb true) (q 33)), mv 35 34, gd 35 false (fa 36 Zw 4 0), gd 35 false (ld 37 Zc 36), gd 35 false (fa 38 Zw 4 1), gd 35 false (ld 39 Zc 38), gd 35 false (bi 40 .geq Zc (q 37) (q 39) Zc), i' 41 (.pick (q 35) (kb true) (q 40)), as' 18 41]) (.cond (q 18) (.seq (rg 3 0 [1, 3, 4, 11, 12, 13, 18, 42, 43] [mv 42 3, ca 43 Zc2 #[(ki 10), q 42] #[Zby, Zc], as' 2 43]) .ret) (.seq (rg 7 0 [4, 18, 45, 46, 47, 48, 49, 50] [fa 45 Za 1 1, ld 46 Zr 45, mv 47 3, i' 48 (.slice Zr (q 46) none (some (q 47)) none), i' 49 (.makeFunc (.func Zeg) #[] #[q 4]), ca 50 Z8 #[q 48, q 49] #[Zr, Zf8], as' 44 50]) (.cond (q 44) (.seq (rg 3 0 [1, 3, 11, 12, 13, 44, 51, 52] [mv 51 3, ca 52 Zc2 #[(ki 11), q 51] #[Zby, Zc], as' 2 52]) .ret) (.seq (rg 5 0 [44, 54, 55, 56, 57] [ld 54 Za 1, mv 55 3, ca 56 Zdo #[q 54, q 55] #[Za, Zc], i' 57 (.unOp .not Zbm (q 56)), as' 53 57]) (.cond (q 53) (.seq (rg 3 0 [1, 3, 11, 12, 13, 53, 58, 59] [mv 58 3, ca 59 Zc2 #[(ki 12), q 58] #[Zby, Zc], as' 2 59]) .ret) .skip))))))))) (rg 2 0 [3, 53, 60] [bi 60 .add Zc (q 13) (ki 1) Zc, mv 13 60]))))
def Zpz : C := .loop Zdr
/-- What is live at the loop's head: t1 c, t11, t12, t13 -/
abbrev Zb7 (t1 t11 t12 t13 : SV) : List SV := [.Z, t1, .Z, .Z, .Z, .Z, .Z, .Z, .Z, .Z, .Z, t11, t12, t13, .Z, .Z, .Z, .Z, .Z, .Z, .Z, .Z, .Z, .Z, .Z, .Z, .Z, .Z, .Z, .Z, .Z, .Z, .Z, .Z, .Z, .Z, .Z, .Z, .Z, .Z, .Z, .Z, .Z, .Z, .Z, .Z, .Z, .Z, .Z, .Z, .Z, .Z, .Z, .Z, .Z, .Z, .Z, .Z, .Z, .Z, .Z]
def Zol : C :=
  (.seq (rg 2 2 [0, 2] [i' 1 (.box Za (q 0)), i' 2 (.assign (.const .nilIface))]) (.seq (.seq (rg 4 0 [5, 6, 7] [fa 5 Za 1 1, ld 6 Zr 5, le' 7 6 Zr, bi 8 .gtr Zc (q 7) (ki 10) Zc]) (.cond (q 8) (.seq (rg 2 0 [1, 8, 9] [ca 9 Zc2 #[(ki 9), (ki 0)] #[Zby, Zc], as' 2 9]) .ret) .skip)) (.seq (.seq (rg 4 0 [8, 10] [fa 10 Za 1 1, ld 11 Zr 10, le' 12 11 Zr, i' 13 (.move (ki 0))]) (.block 0 Zpz)) (.seq (rg 1 0 [1, 11, 12, 13, 14] [i' 2 (.assign (.const .nilIface))]) .ret))))
theorem Z5r : Tryz.f107.body.map (comp ES Zdp) = some Zol := by kernel_rfl
theorem Z90 (t0 : SV) (M : Mem) : ICw ES Zdp [t0] M = Zx ES [.tmp 2] (evW ES Zdp Zol ⟨[t0, .Z, .Z, .Z, .Z, .Z, .Z, .Z, .Z, .Z, .Z, .Z, .Z, .Z, .Z, .Z, .Z, .Z, .Z, .Z, .Z, .Z, .Z, .Z, .Z, .Z, .Z, .Z, .Z, .Z, .Z, .Z, .Z, .Z, .Z, .Z, .Z, .Z, .Z, .Z, .Z, .Z, .Z, .Z, .Z, .Z, .Z, .Z, .Z, .Z, .Z, .Z, .Z, .Z, .Z, .Z, .Z, .Z, .Z, .Z, .Z], M⟩) :=
  Zab rfl Tryz.func107 Z5r (by kernel_rfl) (by kernel_rfl) (by kernel_rfl) M
@[simp] theorem Z5k : CX ES Zdp Zc2 := cx rfl
@[simp] theorem Z6j : CX ES Zdp Zhc := cx rfl
@[simp] theorem Zo1 : CX ES Zdp Z8 := cx rfl
@[simp] theorem Z3k : CX ES Zdp Zeg := cx rfl
@[simp] theorem Z7z : CX ES Zdp Zdo := cx rfl

/-! slices.Index[[]int,int] -/
def Zc6 : C :=
  (.seq (rg 1 0 [] [bi 9 .lss Zc (q 8) (q 7) Zc]) (.seq (.cond (q 9) .skip (.exit 0)) (.seq (.block 1 (.seq (rg 2 0 [9, 10] [mv 10 8, as' 5 10]) (.seq (rg 6 0 [11, 12, 13, 14, 15] [mv 11 1, mv 12 0, mv 13 5, i' 14 (.indexAddr Zv (q 12) (q 13)), ld 15 Zc 14, bi 16 .eql Zc (q 11) (q 15) Zc]) (.cond (q 16) (.seq (rg 2 0 [0, 1, 5, 7, 8, 16, 17] [mv 17 5, as' 4 17]) .ret) .skip)))) (rg 2 0 [5, 16, 18] [bi 18 .add Zc (q 8) (ki 1) Zc, mv 8 18]))))
def Zgb : C := .loop Zc6
/-- What is live at the loop's head: t0 s, t1 v, t7, t8 -/
abbrev Zbk (t0 t1 t7 t8 : SV) : List SV := [t0, t1, .Z, .Z, .Z, .Z, .Z, t7, t8, .Z, .Z, .Z, .Z, .Z, .Z, .Z, .Z, .Z, .Z]
def Zfa : C :=
  (.seq (rg 1 0 [4] [i' 4 (.assign (ki 0))]) (.seq (.seq (rg 3 0 [6] [mv 6 0, le' 7 6 Zv, i' 8 (.move (ki 0))]) (.block 0 Zgb)) (.seq (rg 1 0 [0, 1, 7, 8, 9] [i' 4 (.assign (ki (-1)))]) .ret)))
theorem Zql : Tryz.f108.body.map (comp ES Zbu) = some Zfa := by kernel_rfl
theorem Zq1 (t0 t1 : SV) (M : Mem) : ICw ES Zbu [t0, t1] M = Zx ES [.tmp 4] (evW ES Zbu Zfa ⟨[t0, t1, .Z, .Z, .Z, .Z, .Z, .Z, .Z, .Z, .Z, .Z, .Z, .Z, .Z, .Z, .Z, .Z, .Z], M⟩) :=
  Zab rfl Tryz.func108 Zql (by kernel_rfl) (by kernel_rfl) (by kernel_rfl) M

/-! drumline/plan.Dists -/
def Zih : C :=
  (.seq (rg 1 0 [] [bi 43 .lss Zc (q 42) (q 41) Zc]) (.seq (.cond (q 43) .skip (.exit 4)) (.seq (.block 5 (.seq (rg 4 4 [43, 44, 45] [i' 44 (.indexAddr Zl0 (q 40) (q 42)), ld 45 Zaq 44, i' 11 (.alloc Zaq), ⟨none, .store Zaq (q 11) (q 45), none, none⟩]) (.seq (rg 15 0 [46, 47, 48, 49, 50, 51, 52, 53, 54, 55, 56, 57, 58, 59] [mv 46 5, i' 47 (.indexAddr Zaq (q 11) (ki 0)), ld 48 Zc 47, i' 49 (.indexAddr Zv (q 46) (q 48)), ld 50 Zc 49, mv 51 6, bi 52 .eql Zc (q 50) (q 51) Zc, mv 53 52, gd 53 true (mv 54 5), gd 53 true (i' 55 (.indexAddr Zaq (q 11) (ki 1))), gd 53 true (ld 56 Zc 55), gd 53 true (i' 57 (.indexAddr Zv (q 54) (q 56))), gd 53 true (ld 58 Zc 57), gd 53 true (bi 59 .lss Zc (q 58) (ki 0) Zc), i' 60 (.pick (q 53) (q 59) (kb false))]) (.cond (q 60) (rg 8 0 [11, 60, 61, 62, 63, 64, 65, 66] [mv 61 5, i' 62 (.indexAddr Zaq (q 11) (ki 1)), ld 63 Zc 62, mv 64 6, bi 65 .add Zc (q 64) (ki 1) Zc, i' 66 (.indexAddr Zv (q 61) (q 63)), ⟨none, .store Zc (q 66) (q 65), none, none⟩, i' 7 (.assign (kb true))]) .skip)))) (rg 2 0 [11, 60, 67] [bi 67 .add Zc (q 42) (ki 1) Zc, mv 42 67]))))
def Zmi : C := .loop Zih
/-- What is live at the loop's head: t2 c, t5 out, t6 d, t7 more, t24, t25, t26, t40, t41, t42 -/
abbrev Zds (t2 t5 t6 t7 t24 t25 t26 t40 t41 t42 : SV) : List SV := [.Z, .Z, t2, .Z, .Z, t5, t6, t7, .Z, .Z, .Z, .Z, .Z, .Z, .Z, .Z, .Z, .Z, .Z, .Z, .Z, .Z, .Z, .Z, t24, t25, t26, .Z, .Z, .Z, .Z, .Z, .Z, .Z, .Z, .Z, .Z, .Z, .Z, .Z, t40, t41, t42, .Z, .Z, .Z, .Z, .Z, .Z, .Z, .Z, .Z, .Z, .Z, .Z, .Z, .Z, .Z, .Z, .Z, .Z, .Z, .Z, .Z, .Z, .Z, .Z, .Z, .Z, .Z]
def Zid : C :=
  (.seq (rg 1 0 [] [bi 27 .lss Zc (q 26) (q 25) Zc]) (.seq (.cond (q 27) .skip (.exit 2)) (.seq (.block 3 (.seq (rg 4 4 [27, 28, 29] [i' 28 (.indexAddr Zr (q 24) (q 26)), ld 29 Zw 28, i' 9 (.alloc Zw), ⟨none, .store Zw (q 9) (q 29), none, none⟩]) (.seq (rg 13 13 [9, 30, 31, 32, 33, 34, 35, 36, 37, 38, 39] [fa 30 Zw 9 0, ld 31 Zc 30, fa 32 Zw 9 1, ld 33 Zc 32, i' 34 (.build Zaq #[(0, q 31), (1, q 33)]), fa 35 Zw 9 1, ld 36 Zc 35, fa 37 Zw 9 0, ld 38 Zc 37, i' 39 (.build Zaq #[(0, q 36), (1, q 38)]), i' 40 (.buildSlice Zl0 2 #[(0, q 34), (1, q 39)]), le' 41 40 Zl0, i' 42 (.move (ki 0))]) (.block 4 Zmi)))) (rg 2 0 [40, 41, 42, 43, 68] [bi 68 .add Zc (q 26) (ki 1) Zc, mv 26 68]))))
def Zss : C := .loop Zid
/-- What is live at the loop's head: t2 c, t5 out, t6 d, t7 more, t24, t25, t26 -/
abbrev Zdq (t2 t5 t6 t7 t24 t25 t26 : SV) : List SV := [.Z, .Z, t2, .Z, .Z, t5, t6, t7, .Z, .Z, .Z, .Z, .Z, .Z, .Z, .Z, .Z, .Z, .Z, .Z, .Z, .Z, .Z, .Z, t24, t25, t26, .Z, .Z, .Z, .Z, .Z, .Z, .Z, .Z, .Z, .Z, .Z, .Z, .Z, .Z, .Z, .Z, .Z, .Z, .Z, .Z, .Z, .Z, .Z, .Z, .Z, .Z, .Z, .Z, .Z, .Z, .Z, .Z, .Z, .Z, .Z, .Z, .Z, .Z, .Z, .Z, .Z, .Z, .Z]
def Zpv : C :=
  (.seq (.seq (rg 1 0 [7] [mv 20 7]) (.cond (q 20) .skip (.exit 0))) (.seq (.block 1 (.seq (rg 1 0 [20] [i' 7 (.assign (kb false))]) (.seq (rg 4 0 [23] [fa 23 Za 2 1, ld 24 Zr 23, le' 25 24 Zr, i' 26 (.move (ki 0))]) (.block 2 Zss)))) (rg 3 0 [21, 22, 24, 25, 26, 27] [mv 21 6, bi 22 .add Zc (q 21) (ki 1) Zc, as' 6 22])))
def Zh9 : C := .loop Zpv
/-- What is live at the loop's head: t2 c, t5 out, t6 d, t7 more -/
abbrev Zht (t2 t5 t6 t7 : SV) : List SV := [.Z, .Z, t2, .Z, .Z, t5, t6, t7, .Z, .Z, .Z, .Z, .Z, .Z, .Z, .Z, .Z, .Z, .Z, .Z, .Z, .Z, .Z, .Z, .Z, .Z, .Z, .Z, .Z, .Z, .Z, .Z, .Z, .Z, .Z, .Z, .Z, .Z, .Z, .Z, .Z, .Z, .Z, .Z, .Z, .Z, .Z, .Z, .Z, .Z, .Z, .Z, .Z, .Z, .Z, .Z, .Z, .Z, .Z, .Z, .Z, .Z, .Z, .Z, .Z, .Z, .Z, .Z, .Z, .Z]
def Ztd : C :=
  (.seq (rg 2 2 [0, 4] [i' 2 (.box Za (q 0)), i' 4 (.assign (.const (.slice none 0 0)))]) (.seq (rg 6 6 [12, 13, 14, 15, 16] [i' 12 (.buildSlice Zv 1 #[(0, (ki (-1)))]), fa 13 Za 2 0, ld 14 Zm 13, le' 15 14 Zm, ca 16 Zbq #[q 12, q 15] #[Zv, Zc], as' 5 16]) (.seq (rg 4 0 [1, 17, 18, 19] [mv 17 5, mv 18 1, i' 19 (.indexAddr Zv (q 17) (q 18)), ⟨none, .store Zc (q 19) (ki 0), none, none⟩]) (.seq (.seq (rg 2 0 [] [i' 6 (.assign (ki 0)), i' 7 (.assign (kb true))]) (.block 0 Zh9)) (.seq (rg 2 0 [2, 5, 6, 20, 69] [mv 69 5, as' 4 69]) .ret)))))
theorem Z6a : Tryz.f109.body.map (comp ES Zcd) = some Ztd := by kernel_rfl
theorem Z9k (t0 t1 : SV) (M : Mem) : ICw ES Zcd [t0, t1] M = Zx ES [.tmp 4] (evW ES Zcd Ztd ⟨[t0, t1, .Z, .Z, .Z, .Z, .Z, .Z, .Z, .Z, .Z, .Z, .Z, .Z, .Z, .Z, .Z, .Z, .Z, .Z, .Z, .Z, .Z, .Z, .Z, .Z, .Z, .Z, .Z, .Z, .Z, .Z, .Z, .Z, .Z, .Z, .Z, .Z, .Z, .Z, .Z, .Z, .Z, .Z, .Z, .Z, .Z, .Z, .Z, .Z, .Z, .Z, .Z, .Z, .Z, .Z, .Z, .Z, .Z, .Z, .Z, .Z, .Z, .Z, .Z, .Z, .Z, .Z, .Z, .Z], M⟩) :=
  Zab rfl Tryz.func109 Z6a (by kernel_rfl) (by kernel_rfl) (by kernel_rfl) M
@[simp] theorem Ztx : CI ES Zcd Zbq := ci rfl

/-! drumline/plan.wrong -/
def Zs9 : C :=
  (.seq (rg 1 0 [] [i' 4 (.assign (.const .nilIface))]) (.seq (rg 7 7 [] [mv 5 1, mv 6 0, i' 7 (.makeInterface Zd6 (q 6)), i' 8 (.build Zl7 #[(0, q 5), (1, q 7)]), i' 9 (.box Zl7 (q 8)), i' 10 (.makeInterface Zcz (q 9)), as' 4 10]) .ret))
theorem Z47 : Tryz.f110.body.map (comp ES Zc2) = some Zs9 := by kernel_rfl
theorem Z9m (t0 t1 : SV) (M : Mem) : ICw ES Zc2 [t0, t1] M = Zx ES [.tmp 4] (evW ES Zc2 Zs9 ⟨[t0, t1, .Z, .Z, .Z, .Z, .Z, .Z, .Z, .Z, .Z], M⟩) :=
  Zab rfl Tryz.func110 Z47 (by kernel_rfl) (by kernel_rfl) (by kernel_rfl) M

/-! drumline/bounds.first -/
def Zgm : C :=
  (.seq (rg 1 0 [] [bi 10 .lss Zc (q 9) (q 8) Zc]) (.seq (.cond (q 10) .skip (.exit 0)) (.seq (.block 1 (.seq (rg 5 0 [10, 11, 12, 13] [mv 11 9, i' 12 (.indexAddr Zfp (q 7) (q 9)), ld 13 Zbm 12, as' 5 11, as' 6 13]) (.seq (rg 2 0 [6, 14] [mv 14 6, i' 15 (.unOp .not Zbm (q 14))]) (.cond (q 15) (.seq (rg 4 0 [0, 5, 7, 8, 9, 15, 16, 17, 18] [mv 16 0, mv 17 5, bi 18 .add Zc (q 16) (q 17) Zc, as' 4 18]) .ret) .skip)))) (rg 2 0 [5, 15, 19] [bi 19 .add Zc (q 9) (ki 1) Zc, mv 9 19]))))
def Znv : C := .loop Zgm
/-- What is live at the loop's head: t0 from, t7, t8, t9 -/
abbrev Zdi (t0 t7 t8 t9 : SV) : List SV := [t0, .Z, .Z, .Z, .Z, .Z, .Z, t7, t8, t9, .Z, .Z, .Z, .Z, .Z, .Z, .Z, .Z, .Z, .Z]
def Zn1 : C :=
  (.seq (rg 1 0 [4] [i' 4 (.assign (ki 0))]) (.seq (.seq (rg 3 0 [1] [mv 7 1, le' 8 7 Zfp, i' 9 (.move (ki 0))]) (.block 0 Znv)) (.seq (rg 1 0 [0, 7, 8, 9, 10] [i' 4 (.assign (ki 0))]) .ret)))
theorem Zz7 : Tryz.f111.body.map (comp ES Zb2) = some Zn1 := by kernel_rfl
theorem Z2a (t0 t1 : SV) (M : Mem) : ICw ES Zb2 [t0, t1] M = Zx ES [.tmp 4] (evW ES Zb2 Zn1 ⟨[t0, t1, .Z, .Z, .Z, .Z, .Z, .Z, .Z, .Z, .Z, .Z, .Z, .Z, .Z, .Z, .Z, .Z, .Z, .Z], M⟩) :=
  Zab rfl Tryz.func111 Zz7 (by kernel_rfl) (by kernel_rfl) (by kernel_rfl) M

/-! drumline/bounds.within -/
def Zps : C :=
  (.seq (rg 1 0 [] [i' 6 (.assign (kb false))]) (.seq (rg 9 0 [] [mv 7 0, mv 8 1, bi 9 .geq Zc (q 7) (q 8) Zc, mv 10 9, gd 10 true (mv 11 0), gd 10 true (mv 12 2), gd 10 true (bi 13 .leq Zc (q 11) (q 12) Zc), i' 14 (.pick (q 10) (q 13) (kb false)), as' 6 14]) .ret))
theorem Zx1 : Tryz.f112.body.map (comp ES Zbg) = some Zps := by kernel_rfl
theorem Zzx (t0 t1 t2 : SV) (M : Mem) : ICw ES Zbg [t0, t1, t2] M = Zx ES [.tmp 6] (evW ES Zbg Zps ⟨[t0, t1, t2, .Z, .Z, .Z, .Z, .Z, .Z, .Z, .Z, .Z, .Z, .Z, .Z], M⟩) :=
  Zab rfl Tryz.func112 Zx1 (by kernel_rfl) (by kernel_rfl) (by kernel_rfl) M

/-! drumline/bounds.slots -/
def Zgn : C :=
  (.seq (rg 1 0 [] [bi 9 .lss Zc (q 8) (q 7) Zc]) (.seq (.cond (q 9) .skip (.exit 0)) (.seq (.block 1 (.seq (rg 6 6 [9, 10, 11, 12] [mv 10 8, i' 11 (.indexAddr Zm (q 6) (q 8)), ld 12 Zaz 11, i' 4 (.alloc Zaz), as' 3 10, ⟨none, .store Zaz (q 4) (q 12), none, none⟩]) (.seq (rg 20 0 [3, 4, 13, 14, 15, 16, 17, 18, 19, 20, 21, 22, 23, 24, 25, 26, 27, 28, 29, 30, 31] [fa 13 Za 1 3, ld 14 Zc 13, ld 15 Za 1, mv 16 3, ca 17 Zch #[q 15, q 16] #[Za, Zc], le' 18 17 Zaf, bi 19 .mul Zc (ki 3) (q 18) Zc, fa 20 Zaz 4 0, ld 21 Zc 20, bi 22 .add Zc (q 19) (q 21) Zc, fa 23 Za 1 4, ld 24 Zc 23, bi 25 .mul Zc (q 22) (q 24) Zc, bi 26 .add Zc (q 14) (q 25) Zc, fa 27 Za 1 5, ld 28 Zc 27, bi 29 .add Zc (q 26) (q 28) Zc, fa 30 Za 1 2, ld 31 Zc 30, bi 32 .gtr Zc (q 29) (q 31) Zc]) (.cond (q 32) (.seq (rg 1 0 [1, 6, 7, 8, 32] [i' 2 (.assign (kb false))]) .ret) .skip)))) (rg 2 0 [32, 33] [bi 33 .add Zc (q 8) (ki 1) Zc, mv 8 33]))))
def Znw : C := .loop Zgn
/-- What is live at the loop's head: t1 c, t6, t7, t8 -/
abbrev Zcy (t1 t6 t7 t8 : SV) : List SV := [.Z, t1, .Z, .Z, .Z, .Z, t6, t7, t8, .Z, .Z, .Z, .Z, .Z, .Z, .Z, .Z, .Z, .Z, .Z, .Z, .Z, .Z, .Z, .Z, .Z, .Z, .Z, .Z, .Z, .Z, .Z, .Z, .Z]
def Zn3 : C :=
  (.seq (rg 2 2 [0, 2] [i' 1 (.box Za (q 0)), i' 2 (.assign (kb false))]) (.seq (.seq (rg 4 0 [5] [fa 5 Za 1 0, ld 6 Zm 5, le' 7 6 Zm, i' 8 (.move (ki 0))]) (.block 0 Znw)) (.seq (rg 1 0 [1, 6, 7, 8, 9] [i' 2 (.assign (kb true))]) .ret)))
theorem Zzo : Tryz.f113.body.map (comp ES Zfd) = some Zn3 := by kernel_rfl
theorem Z2k (t0 : SV) (M : Mem) : ICw ES Zfd [t0] M = Zx ES [.tmp 2] (evW ES Zfd Zn3 ⟨[t0, .Z, .Z, .Z, .Z, .Z, .Z, .Z, .Z, .Z, .Z, .Z, .Z, .Z, .Z, .Z, .Z, .Z, .Z, .Z, .Z, .Z, .Z, .Z, .Z, .Z, .Z, .Z, .Z, .Z, .Z, .Z, .Z, .Z], M⟩) :=
  Zab rfl Tryz.func113 Zzo (by kernel_rfl) (by kernel_rfl) (by kernel_rfl) M
@[simp] theorem Z4p : CX ES Zfd Zch := cx rfl

/-! drumline/drumlineref5.port -/
def Zd9 : C :=
  (.seq (.seq (rg 2 0 [23] [mv 23 12, bi 24 .lss Zc (q 23) (ki 2) Zc]) (.cond (q 24) .skip (.exit 2))) (.seq (.block 3 (.seq (.seq (rg 12 0 [24, 27, 28, 29, 30, 31, 32, 33, 34, 35, 36, 37] [fa 27 Zw 11 0, ld 28 Zc 27, mv 29 2, bi 30 .eql Zc (q 28) (q 29) Zc, mv 31 30, gd 31 true (mv 32 12), gd 31 true (fa 33 Zw 11 2), gd 31 true (i' 34 (.indexAddr Zaq (q 33) (q 32))), gd 31 true (ld 35 Zc 34), gd 31 true (mv 36 3), gd 31 true (bi 37 .eql Zc (q 35) (q 36) Zc), i' 38 (.pick (q 31) (q 37) (kb false))]) (.cond (q 38) (.seq (rg 6 0 [1, 2, 3, 4, 10, 11, 12, 38, 39, 40, 41, 42] [mv 39 3, mv 40 10, mv 41 12, i' 42 (.build Zad #[(0, q 39), (1, q 40), (2, q 41)]), ⟨none, .store Zad (q 8) (q 42), none, none⟩, i' 9 (.assign (kb true))]) .ret) .skip)) (.seq (rg 12 0 [38, 43, 44, 45, 46, 47, 48, 49, 50, 51, 52, 53] [fa 43 Zw 11 1, ld 44 Zc 43, mv 45 2, bi 46 .eql Zc (q 44) (q 45) Zc, mv 47 46, gd 47 true (mv 48 12), gd 47 true (fa 49 Zw 11 3), gd 47 true (i' 50 (.indexAddr Zaq (q 49) (q 48))), gd 47 true (ld 51 Zc 50), gd 47 true (mv 52 3), gd 47 true (bi 53 .eql Zc (q 51) (q 52) Zc), i' 54 (.pick (q 47) (q 53) (kb false))]) (.cond (q 54) (.seq (rg 6 0 [1, 2, 3, 4, 10, 11, 12, 54, 55, 56, 57, 58] [mv 55 3, mv 56 10, mv 57 12, i' 58 (.build Zad #[(0, q 55), (1, q 56), (2, q 57), (3, (ki 1))]), ⟨none, .store Zad (q 8) (q 58), none, none⟩, i' 9 (.assign (kb true))]) .ret) .skip)))) (rg 3 0 [25, 26, 54] [mv 25 12, bi 26 .add Zc (q 25) (ki 1) Zc, as' 12 26])))
def Zqo : C := .loop Zd9
/-- What is live at the loop's head: t1 links, t2 part, t3 node, t4 c, t8, t10 i, t11 l, t12 g -/
abbrev Zbp (t1 t2 t3 t4 t8 t10 t11 t12 : SV) : List SV := [.Z, t1, t2, t3, t4, .Z, .Z, .Z, t8, .Z, t10, t11, t12, .Z, .Z, .Z, .Z, .Z, .Z, .Z, .Z, .Z, .Z, .Z, .Z, .Z, .Z, .Z, .Z, .Z, .Z, .Z, .Z, .Z, .Z, .Z, .Z, .Z, .Z, .Z, .Z, .Z, .Z, .Z, .Z, .Z, .Z, .Z, .Z, .Z, .Z, .Z, .Z, .Z, .Z, .Z, .Z, .Z, .Z, .Z]
def Zkq : C :=
  (.seq (.seq (rg 3 0 [13, 14] [mv 13 10, mv 14 1, bi 15 .lss Zc (q 13) (q 14) Zc]) (.cond (q 15) .skip (.exit 0))) (.seq (.block 1 (.seq (rg 7 7 [15, 18, 19, 20, 21, 22] [fa 18 Za 4 1, ld 19 Zr 18, mv 20 10, i' 21 (.indexAddr Zr (q 19) (q 20)), ld 22 Zw 21, i' 11 (.alloc Zw), ⟨none, .store Zw (q 11) (q 22), none, none⟩]) (.seq (rg 1 0 [] [i' 12 (.assign (ki 0))]) (.block 2 Zqo)))) (rg 3 0 [11, 12, 16, 17, 24] [mv 16 10, bi 17 .add Zc (q 16) (ki 1) Zc, as' 10 17])))
def Zs2 : C := .loop Zkq
/-- What is live at the loop's head: t1 links, t2 part, t3 node, t4 c, t8, t10 i -/
abbrev Zf6 (t1 t2 t3 t4 t8 t10 : SV) : List SV := [.Z, t1, t2, t3, t4, .Z, .Z, .Z, t8, .Z, t10, .Z, .Z, .Z, .Z, .Z, .Z, .Z, .Z, .Z, .Z, .Z, .Z, .Z, .Z, .Z, .Z, .Z, .Z, .Z, .Z, .Z, .Z, .Z, .Z, .Z, .Z, .Z, .Z, .Z, .Z, .Z, .Z, .Z, .Z, .Z, .Z, .Z, .Z, .Z, .Z, .Z, .Z, .Z, .Z, .Z, .Z, .Z, .Z, .Z]
def Zvv : C :=
  (.seq (rg 3 3 [0, 9] [i' 4 (.box Za (q 0)), i' 8 (.alloc Zad), i' 9 (.assign (kb false))]) (.seq (.seq (rg 1 0 [] [i' 10 (.assign (ki 0))]) (.block 0 Zs2)) (.seq (rg 3 0 [1, 2, 3, 4, 10, 15, 59] [i' 59 (.build Zad #[]), ⟨none, .store Zad (q 8) (q 59), none, none⟩, i' 9 (.assign (kb false))]) .ret)))
theorem Zaj4 : Tryz.f116.body.map (comp ES Zhn) = some Zvv := by kernel_rfl
theorem Zakr (t0 t1 t2 t3 : SV) (M : Mem) : ICw ES Zhn [t0, t1, t2, t3] M = Zx ES [.cell 8 Zad, .tmp 9] (evW ES Zhn Zvv ⟨[t0, t1, t2, t3, .Z, .Z, .Z, .Z, .Z, .Z, .Z, .Z, .Z, .Z, .Z, .Z, .Z, .Z, .Z, .Z, .Z, .Z, .Z, .Z, .Z, .Z, .Z, .Z, .Z, .Z, .Z, .Z, .Z, .Z, .Z, .Z, .Z, .Z, .Z, .Z, .Z, .Z, .Z, .Z, .Z, .Z, .Z, .Z, .Z, .Z, .Z, .Z, .Z, .Z, .Z, .Z, .Z, .Z, .Z, .Z], M⟩) :=
  Zab rfl Tryz.func116 Zaj4 (by kernel_rfl) (by kernel_rfl) (by kernel_rfl) M

/-! drumline/drumlineref5.slew -/
def Zy1 : C :=
  (.seq (rg 2 2 [] [i' 1 (.box Za (q 0)), i' 2 (.assign (ki 0))]) (.seq (rg 7 0 [] [fa 3 Za 1 6, ld 4 Zc 3, fa 5 Za 1 2, ld 6 Zc 5, bi 7 .mul Zp (q 4) (q 6) Zp, ca 8 Zsb #[q 7] #[Zp], as' 2 8]) .ret))
theorem Zajd : Tryz.f117.body.map (comp ES Zpw) = some Zy1 := by kernel_rfl
theorem Zamg (t0 : SV) (M : Mem) : ICw ES Zpw [t0] M = Zx ES [.tmp 2] (evW ES Zpw Zy1 ⟨[t0, .Z, .Z, .Z, .Z, .Z, .Z, .Z, .Z], M⟩) :=
  Zab rfl Tryz.func117 Zajd (by kernel_rfl) (by kernel_rfl) (by kernel_rfl) M
@[simp] theorem Zamb : CX ES Zpw Zsb := cx rfl

/-! slices.insertionSortCmpFunc[drumline/api.Port] -/
def Zbh : C :=
  (.seq (.seq (rg 17 17 [18, 19, 20, 21, 22, 23, 24, 25, 26, 27, 28, 29, 30, 31, 32, 33] [li [] (mv 18 9), li [] (mv 19 1), li [0, 1] (bi 20 .gtr Zc (q 18) (q 19) Zc), li [0, 1, 2] (mv 21 20), li [0, 1, 2, 3] (gd 21 true (mv 22 3)), li [0, 1, 2, 3] (gd 21 true (mv 23 0)), li [0, 1, 2, 3] (gd 21 true (mv 24 9)), li [0, 1, 2, 3, 5, 6] (gd 21 true (i' 25 (.indexAddr Zaf (q 23) (q 24)))), li [0, 1, 2, 3, 5, 6, 7] (gd 21 true (ld 26 Zad 25)), li [0, 1, 2, 3] (gd 21 true (mv 27 0)), li [0, 1, 2, 3] (gd 21 true (mv 28 9)), li [0, 1, 2, 3, 10] (gd 21 true (bi 29 .sub Zc (q 28) (ki 1) Zc)), li [0, 1, 2, 3, 9, 10, 11] (gd 21 true (i' 30 (.indexAddr Zaf (q 27) (q 29)))), li [0, 1, 2, 3, 9, 10, 11, 12] (gd 21 true (ld 31 Zad 30)), li [0, 1, 2, 3, 4, 5, 6, 7, 8, 9, 10, 11, 12, 13] (gd 21 true (i' 32 (.call { callee := .value (q 22), args := #[q 26, q 31], argTypes := #[Zad, Zad] }))), li [0, 1, 2, 3, 4, 5, 6, 7, 8, 9, 10, 11, 12, 13, 14] (gd 21 true (bi 33 .lss Zc (q 32) (ki 0) Zc)), li [0, 1, 2, 3, 4, 5, 6, 7, 8, 9, 10, 11, 12, 13, 14, 15] (i' 34 (.pick (q 21) (q 33) (kb false)))]) (.cond (q 34) .skip (.exit 2))) (.seq (.block 3 (rg 18 0 [34, 37, 38, 39, 40, 41, 42, 43, 44, 45, 46, 47, 48, 49, 50, 51, 52] [mv 37 0, mv 38 9, mv 39 0, mv 40 9, bi 41 .sub Zc (q 40) (ki 1) Zc, mv 42 0, mv 43 9, bi 44 .sub Zc (q 43) (ki 1) Zc, i' 45 (.indexAddr Zaf (q 42) (q 44)), ld 46 Zad 45, mv 47 0, mv 48 9, i' 49 (.indexAddr Zaf (q 47) (q 48)), ld 50 Zad 49, i' 51 (.indexAddr Zaf (q 37) (q 38)), ⟨none, .store Zad (q 51) (q 46), none, none⟩, i' 52 (.indexAddr Zaf (q 39) (q 41)), ⟨none, .store Zad (q 52) (q 50), none, none⟩])) (rg 3 0 [35, 36] [mv 35 9, bi 36 .sub Zc (q 35) (ki 1) Zc, as' 9 36])))
def Zc5 : C := .loop Zbh
/-- What is live at the loop's head: t0 data, t1 a, t2 b, t3 cmp, t8 i, t9 j -/
abbrev Zao (t0 t1 t2 t3 t8 t9 : SV) : List SV := [t0, t1, t2, t3, .Z, .Z, .Z, .Z, t8, t9, .Z, .Z, .Z, .Z, .Z, .Z, .Z, .Z, .Z, .Z, .Z, .Z, .Z, .Z, .Z, .Z, .Z, .Z, .Z, .Z, .Z, .Z, .Z, .Z, .Z, .Z, .Z, .Z, .Z, .Z, .Z, .Z, .Z, .Z, .Z, .Z, .Z, .Z, .Z, .Z, .Z, .Z, .Z]
def Za3 : C :=
  (.seq (.seq (rg 3 0 [12, 13] [mv 12 8, mv 13 2, bi 14 .lss Zc (q 12) (q 13) Zc]) (.cond (q 14) .skip (.exit 0))) (.seq (.block 1 (.seq (rg 2 0 [14, 17] [mv 17 8, as' 9 17]) (.block 2 Zc5))) (rg 3 0 [9, 15, 16, 34] [mv 15 8, bi 16 .add Zc (q 15) (ki 1) Zc, as' 8 16])))
def Zc4 : C := .loop Za3
/-- What is live at the loop's head: t0 data, t1 a, t2 b, t3 cmp, t8 i -/
abbrev Zay (t0 t1 t2 t3 t8 : SV) : List SV := [t0, t1, t2, t3, .Z, .Z, .Z, .Z, t8, .Z, .Z, .Z, .Z, .Z, .Z, .Z, .Z, .Z, .Z, .Z, .Z, .Z, .Z, .Z, .Z, .Z, .Z, .Z, .Z, .Z, .Z, .Z, .Z, .Z, .Z, .Z, .Z, .Z, .Z, .Z, .Z, .Z, .Z, .Z, .Z, .Z, .Z, .Z, .Z, .Z, .Z, .Z, .Z]
def Zca : C :=
  (.seq (rg 3 0 [10, 11] [mv 10 1, bi 11 .add Zc (q 10) (ki 1) Zc, as' 8 11]) (.block 0 Zc4))
theorem Zjy : Tryz.f118.body.map (comp ES Zaa) = some Zca := by kernel_rfl
theorem Zfv (t0 t1 t2 t3 : SV) (M : Mem) : ICw ES Zaa [t0, t1, t2, t3] M = Zx ES [] (evW ES Zaa Zca ⟨[t0, t1, t2, t3, .Z, .Z, .Z, .Z, .Z, .Z, .Z, .Z, .Z, .Z, .Z, .Z, .Z, .Z, .Z, .Z, .Z, .Z, .Z, .Z, .Z, .Z, .Z, .Z, .Z, .Z, .Z, .Z, .Z, .Z, .Z, .Z, .Z, .Z, .Z, .Z, .Z, .Z, .Z, .Z, .Z, .Z, .Z, .Z, .Z, .Z, .Z, .Z, .Z], M⟩) :=
  Zab rfl Tryz.func118 Zjy (by kernel_rfl) (by kernel_rfl) (by kernel_rfl) M

/-! drumline/plan.index -/
def Ztb : C :=
  (.seq (rg 1 0 [] [i' 4 (.assign (kb false))]) (.seq (rg 8 0 [] [mv 5 0, bi 6 .geq Zc (q 5) (ki 0) Zc, mv 7 6, gd 7 true (mv 8 0), gd 7 true (mv 9 1), gd 7 true (bi 10 .lss Zc (q 8) (q 9) Zc), i' 11 (.pick (q 7) (q 10) (kb false)), as' 4 11]) .ret))
theorem Z48 : Tryz.f128.body.map (comp ES Zhc) = some Ztb := by kernel_rfl
theorem Zaa9 (t0 t1 : SV) (M : Mem) : ICw ES Zhc [t0, t1] M = Zx ES [.tmp 4] (evW ES Zhc Ztb ⟨[t0, t1, .Z, .Z, .Z, .Z, .Z, .Z, .Z, .Z, .Z, .Z], M⟩) :=
  Zab rfl Tryz.func128 Z48 (by kernel_rfl) (by kernel_rfl) (by kernel_rfl) M

/-! slices.ContainsFunc[[]drumline/api.Link,drumline/api.Link] -/
def Zct : C :=
  (.seq (rg 1 0 [] [i' 4 (.assign (kb false))]) (.seq (rg 5 0 [] [mv 5 0, mv 6 1, ca 7 Zas #[q 5, q 6] #[Zr, Zf8], bi 8 .geq Zc (q 7) (ki 0) Zc, as' 4 8]) .ret))
theorem Ziu : Tryz.f129.body.map (comp ES Z8) = some Zct := by kernel_rfl
theorem Zi8 (t0 t1 : SV) (M : Mem) : ICw ES Z8 [t0, t1] M = Zx ES [.tmp 4] (evW ES Z8 Zct ⟨[t0, t1, .Z, .Z, .Z, .Z, .Z, .Z, .Z], M⟩) :=
  Zab rfl Tryz.func129 Ziu (by kernel_rfl) (by kernel_rfl) (by kernel_rfl) M
@[simp] theorem Zji : CX ES Z8 Zas := cx rfl
end Go.Proofs.YtfphjfbknphhjaaGreatDoor
