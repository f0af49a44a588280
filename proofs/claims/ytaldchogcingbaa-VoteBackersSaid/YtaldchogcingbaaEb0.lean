/-
  The seat's functions as short code, part 0 (printed by a program of the claim's own).
-/
import Derived.Test.YtaldchogcingbaaEa
set_option linter.unusedVariables false
set_option maxRecDepth 100000
namespace Go.Proofs.Ytaldchogcingbaa
open Go.Proofs.Ytaldchogcingbaa.Sh

/-! drumline/drumlinelaw14.VoteFaults -/
def c_l14_VoteFaults_B0 : C :=
  (.seq (.seq (rg 3 0 [49, 50] [mv 49 14, mv 50 12, bi 51 .lss T_int (q 49) (q 50) T_int]) (.cond (q 51) .skip (.exit 0))) (.seq (.block 1 (rg 11 11 [51, 54, 55, 56, 57, 58, 59, 60, 61, 62, 63] [mv 54 13, mv 55 14, mv 56 14, bi 57 .rem T_int (q 56) (ki 12) T_int, mv 58 0, mv 59 1, i' 60 (.build T_api_Frame #[(0, (ki 2)), (2, q 57), (7, q 58), (9, q 59)]), i' 61 (.build T_api_Heard #[(0, q 55), (1, q 60)]), i' 62 (.buildSlice T_sl_api_Heard 1 #[(0, q 61)]), i' 63 (.call { callee := .builtin .append, args := #[q 54, q 62], argTypes := #[T_sl_api_Heard, T_sl_api_Heard] }), as' 13 63])) (rg 3 0 [52, 53] [mv 52 14, bi 53 .add T_int (q 52) (ki 1) T_int, as' 14 53])))
def c_l14_VoteFaults_L0 : C := .loop c_l14_VoteFaults_B0
/-- What is live at the loop's head: t0 cycle, t1 ages, t11 f, t12 k, t13 l, t14 i -/
abbrev h_l14_VoteFaults_0 (t0 t1 t11 t12 t13 t14 : SV) : List SV := [t0, t1, .bad, .bad, .bad, .bad, .bad, .bad, .bad, .bad, .bad, t11, t12, t13, t14, .bad, .bad, .bad, .bad, .bad, .bad, .bad, .bad, .bad, .bad, .bad, .bad, .bad, .bad, .bad, .bad, .bad, .bad, .bad, .bad, .bad, .bad, .bad, .bad, .bad, .bad, .bad, .bad, .bad, .bad, .bad, .bad, .bad, .bad, .bad, .bad, .bad, .bad, .bad, .bad, .bad, .bad, .bad, .bad, .bad, .bad, .bad, .bad, .bad, .bad, .bad, .bad, .bad, .bad, .bad, .bad, .bad, .bad, .bad, .bad, .bad, .bad, .bad, .bad, .bad, .bad, .bad, .bad, .bad, .bad, .bad, .bad, .bad, .bad, .bad, .bad, .bad, .bad, .bad, .bad, .bad, .bad, .bad, .bad, .bad, .bad, .bad]
def c_l14_VoteFaults_B1 : C :=
  (.seq (.seq (rg 4 0 [77, 78, 79] [mv 77 16, mv 78 15, le' 79 78 T_sl_api_Heard, bi 80 .lss T_int (q 77) (q 79) T_int]) (.cond (q 80) .skip (.exit 2))) (.seq (.block 3 (.seq (rg 19 0 [80, 83, 84, 85, 86, 87, 88, 89, 90, 91, 92, 93, 94, 95, 96, 97, 98, 99, 100] [mv 83 15, mv 84 16, i' 85 (.indexAddr T_sl_api_Heard (q 83) (q 84)), fa 86 T_api_Heard 85 1, fa 87 T_api_Frame 86 7, ld 88 T_int64 87, mv 89 0, bi 90 .neq T_int64 (q 88) (q 89) T_int64, mv 91 90, gd 91 false (mv 92 15), gd 91 false (mv 93 16), gd 91 false (i' 94 (.indexAddr T_sl_api_Heard (q 92) (q 93))), gd 91 false (fa 95 T_api_Heard 94 1), gd 91 false (fa 96 T_api_Frame 95 9), gd 91 false (ld 97 T_sl_int 96), gd 91 false (mv 98 1), gd 91 false (ca 99 n_r1_SameInts #[q 97, q 98] #[T_sl_int, T_sl_int]), gd 91 false (i' 100 (.unOp .not T_bool (q 99))), i' 101 (.pick (q 91) (kb true) (q 100))]) (.cond (q 101) (.seq (rg 1 0 [0, 1, 15, 16, 101] [i' 10 (.assign (kb false))]) .ret) .skip))) (rg 3 0 [81, 82, 101] [mv 81 16, bi 82 .add T_int (q 81) (ki 1) T_int, as' 16 82])))
def c_l14_VoteFaults_L1 : C := .loop c_l14_VoteFaults_B1
/-- What is live at the loop's head: t0 cycle, t1 ages, t15 m, t16 i -/
abbrev h_l14_VoteFaults_1 (t0 t1 t15 t16 : SV) : List SV := [t0, t1, .bad, .bad, .bad, .bad, .bad, .bad, .bad, .bad, .bad, .bad, .bad, .bad, .bad, t15, t16, .bad, .bad, .bad, .bad, .bad, .bad, .bad, .bad, .bad, .bad, .bad, .bad, .bad, .bad, .bad, .bad, .bad, .bad, .bad, .bad, .bad, .bad, .bad, .bad, .bad, .bad, .bad, .bad, .bad, .bad, .bad, .bad, .bad, .bad, .bad, .bad, .bad, .bad, .bad, .bad, .bad, .bad, .bad, .bad, .bad, .bad, .bad, .bad, .bad, .bad, .bad, .bad, .bad, .bad, .bad, .bad, .bad, .bad, .bad, .bad, .bad, .bad, .bad, .bad, .bad, .bad, .bad, .bad, .bad, .bad, .bad, .bad, .bad, .bad, .bad, .bad, .bad, .bad, .bad, .bad, .bad, .bad, .bad, .bad, .bad]
def c_l14_VoteFaults : C :=
  (.seq (rg 1 0 [10] [i' 10 (.assign (kb false))]) (.seq (rg 4 0 [4, 17, 18, 19] [mv 17 4, i' 18 (.convert T_uint8 T_int (q 17)), bi 19 .rem T_int (q 18) (ki 4) T_int, as' 11 19]) (.seq (.seq (rg 18 0 [20, 21, 22, 23, 24, 25, 26, 27, 28, 29, 30, 31, 32, 33, 34, 35, 36] [ca 20 n_l14_alive #[] #[], i' 21 (.unOp .not T_bool (q 20)), mv 22 21, gd 22 false (mv 23 3), gd 22 false (ca 24 n_l14_few #[q 23] #[T_sl_api_Heard]), gd 22 false (i' 25 (.unOp .not T_bool (q 24))), i' 26 (.pick (q 22) (kb true) (q 25)), mv 27 26, gd 27 false (mv 28 3), gd 27 false (le' 29 28 T_sl_api_Heard), gd 27 false (mv 30 11), gd 27 false (bi 31 .gtr T_int (q 29) (q 30) T_int), i' 32 (.pick (q 27) (kb true) (q 31)), mv 33 32, gd 33 false (mv 34 1), gd 33 false (le' 35 34 T_sl_int), gd 33 false (bi 36 .gtr T_int (q 35) (ki 20) T_int), i' 37 (.pick (q 33) (kb true) (q 36))]) (.cond (q 37) (.seq (rg 2 0 [0, 1, 2, 3, 11, 37, 38] [ca 38 n_l14_alive #[] #[], as' 10 38]) .ret) .skip)) (.seq (rg 8 0 [2, 37, 39, 40, 41, 42, 43, 44, 45] [mv 39 11, bi 40 .mul T_int (ki 2) (q 39) T_int, bi 41 .add T_int (q 40) (ki 1) T_int, mv 42 2, i' 43 (.convert T_uint8 T_int (q 42)), bi 44 .rem T_int (q 43) (ki 8) T_int, bi 45 .add T_int (q 41) (q 44) T_int, as' 12 45]) (.seq (rg 1 0 [] [i' 13 (.assign (.const (.slice none 0 0)))]) (.seq (rg 4 4 [3, 46, 47, 48] [mv 46 13, mv 47 3, i' 48 (.call { callee := .builtin .append, args := #[q 46, q 47], argTypes := #[T_sl_api_Heard, T_sl_api_Heard] }), as' 13 48]) (.seq (.seq (rg 1 0 [] [i' 14 (.assign (ki 0))]) (.block 0 c_l14_VoteFaults_L0)) (.seq (rg 3 0 [13, 14, 51, 64, 65] [mv 64 13, ca 65 n_vote_Backers #[q 64] #[T_sl_api_Heard], as' 15 65]) (.seq (.seq (rg 11 0 [11, 12, 66, 67, 68, 69, 70, 71, 72, 73, 74, 75] [mv 66 15, le' 67 66 T_sl_api_Heard, mv 68 12, bi 69 .lss T_int (q 67) (q 68) T_int, mv 70 69, gd 70 false (mv 71 15), gd 70 false (le' 72 71 T_sl_api_Heard), gd 70 false (mv 73 11), gd 70 false (ca 74 n_vote_Enough #[q 72, q 73] #[T_int, T_int]), gd 70 false (i' 75 (.unOp .not T_bool (q 74))), i' 76 (.pick (q 70) (kb true) (q 75))]) (.cond (q 76) (.seq (rg 1 0 [0, 1, 15, 76] [i' 10 (.assign (kb false))]) .ret) .skip)) (.seq (.seq (rg 1 0 [76] [i' 16 (.assign (ki 0))]) (.block 2 c_l14_VoteFaults_L1)) (.seq (rg 1 0 [0, 1, 15, 16, 80] [i' 10 (.assign (kb true))]) .ret)))))))))))
theorem ok_l14_VoteFaults : Try.f3.body.map (comp ES n_l14_VoteFaults) = some c_l14_VoteFaults := by kernel_rfl
theorem b_l14_VoteFaults (t0 t1 t2 t3 t4 : SV) (M : Mem) : ICw ES n_l14_VoteFaults [t0, t1, t2, t3, t4] M = endS ES [.tmp 10] (evW ES n_l14_VoteFaults c_l14_VoteFaults ⟨[t0, t1, t2, t3, t4, .bad, .bad, .bad, .bad, .bad, .bad, .bad, .bad, .bad, .bad, .bad, .bad, .bad, .bad, .bad, .bad, .bad, .bad, .bad, .bad, .bad, .bad, .bad, .bad, .bad, .bad, .bad, .bad, .bad, .bad, .bad, .bad, .bad, .bad, .bad, .bad, .bad, .bad, .bad, .bad, .bad, .bad, .bad, .bad, .bad, .bad, .bad, .bad, .bad, .bad, .bad, .bad, .bad, .bad, .bad, .bad, .bad, .bad, .bad, .bad, .bad, .bad, .bad, .bad, .bad, .bad, .bad, .bad, .bad, .bad, .bad, .bad, .bad, .bad, .bad, .bad, .bad, .bad, .bad, .bad, .bad, .bad, .bad, .bad, .bad, .bad, .bad, .bad, .bad, .bad, .bad, .bad, .bad, .bad, .bad, .bad, .bad], M⟩) :=
  ICw_run rfl Try.func3 ok_l14_VoteFaults (by kernel_rfl) (by kernel_rfl) (by kernel_rfl) M
@[simp] theorem x_l14_VoteFaults_l14_alive : CX ES n_l14_VoteFaults n_l14_alive := cx rfl
@[simp] theorem x_l14_VoteFaults_l14_few : CX ES n_l14_VoteFaults n_l14_few := cx rfl
@[simp] theorem x_l14_VoteFaults_vote_Backers : CX ES n_l14_VoteFaults n_vote_Backers := cx rfl
@[simp] theorem x_l14_VoteFaults_vote_Enough : CX ES n_l14_VoteFaults n_vote_Enough := cx rfl
@[simp] theorem x_l14_VoteFaults_r1_SameInts : CX ES n_l14_VoteFaults n_r1_SameInts := cx rfl

/-! drumline/drumlinelaw14.VoteBackers -/
def c_l14_VoteBackers : C :=
  (.seq (rg 1 0 [] [i' 2 (.assign (kb false))]) (.seq (.seq (rg 7 0 [] [ca 3 n_l14_alive #[] #[], i' 4 (.unOp .not T_bool (q 3)), mv 5 4, gd 5 false (mv 6 0), gd 5 false (ca 7 n_l14_few #[q 6] #[T_sl_api_Heard]), gd 5 false (i' 8 (.unOp .not T_bool (q 7))), i' 9 (.pick (q 5) (kb true) (q 8))]) (.cond (q 9) (.seq (rg 2 0 [] [ca 10 n_l14_alive #[] #[], as' 2 10]) .ret) .skip)) (.seq (rg 13 0 [] [mv 11 0, ca 12 n_vote_Backers #[q 11] #[T_sl_api_Heard], mv 13 0, ca 14 n_r10_Backers #[q 13] #[T_sl_api_Heard], ca 15 n_r10_SameHeard #[q 12, q 14] #[T_sl_api_Heard, T_sl_api_Heard], mv 16 15, gd 16 true (mv 17 0), gd 16 true (ca 18 n_vote_Mask #[q 17] #[T_sl_api_Heard]), gd 16 true (mv 19 0), gd 16 true (ca 20 n_r10_Mask #[q 19] #[T_sl_api_Heard]), gd 16 true (bi 21 .eql T_int (q 18) (q 20) T_int), i' 22 (.pick (q 16) (q 21) (kb false)), as' 2 22]) .ret)))
theorem ok_l14_VoteBackers : Try.f4.body.map (comp ES n_l14_VoteBackers) = some c_l14_VoteBackers := by kernel_rfl
theorem b_l14_VoteBackers (t0 : SV) (M : Mem) : ICw ES n_l14_VoteBackers [t0] M = endS ES [.tmp 2] (evW ES n_l14_VoteBackers c_l14_VoteBackers ⟨[t0, .bad, .bad, .bad, .bad, .bad, .bad, .bad, .bad, .bad, .bad, .bad, .bad, .bad, .bad, .bad, .bad, .bad, .bad, .bad, .bad, .bad, .bad], M⟩) :=
  ICw_run rfl Try.func4 ok_l14_VoteBackers (by kernel_rfl) (by kernel_rfl) (by kernel_rfl) M
@[simp] theorem x_l14_VoteBackers_l14_alive : CX ES n_l14_VoteBackers n_l14_alive := cx rfl
@[simp] theorem x_l14_VoteBackers_l14_few : CX ES n_l14_VoteBackers n_l14_few := cx rfl
@[simp] theorem x_l14_VoteBackers_vote_Backers : CX ES n_l14_VoteBackers n_vote_Backers := cx rfl
@[simp] theorem x_l14_VoteBackers_r10_SameHeard : CX ES n_l14_VoteBackers n_r10_SameHeard := cx rfl
@[simp] theorem x_l14_VoteBackers_r10_Backers : CX ES n_l14_VoteBackers n_r10_Backers := cx rfl
@[simp] theorem x_l14_VoteBackers_vote_Mask : CX ES n_l14_VoteBackers n_vote_Mask := cx rfl
@[simp] theorem x_l14_VoteBackers_r10_Mask : CX ES n_l14_VoteBackers n_r10_Mask := cx rfl

/-! drumline/drumlinelaw14.few -/
def c_l14_few_B0 : C :=
  (.seq (.seq (rg 4 0 [7, 8, 9] [mv 7 3, mv 8 0, le' 9 8 T_sl_api_Heard, bi 10 .lss T_int (q 7) (q 9) T_int]) (.cond (q 10) .skip (.exit 0))) (.seq (.block 1 (.seq (rg 18 0 [10, 13, 14, 15, 16, 17, 18, 19, 20, 21, 22, 23, 24, 25, 26, 27, 28, 29] [mv 13 0, mv 14 3, i' 15 (.indexAddr T_sl_api_Heard (q 13) (q 14)), fa 16 T_api_Heard 15 1, fa 17 T_api_Frame 16 9, ld 18 T_sl_int 17, le' 19 18 T_sl_int, bi 20 .gtr T_int (q 19) (ki 30) T_int, mv 21 20, gd 21 false (mv 22 0), gd 21 false (mv 23 3), gd 21 false (i' 24 (.indexAddr T_sl_api_Heard (q 22) (q 23))), gd 21 false (fa 25 T_api_Heard 24 1), gd 21 false (fa 26 T_api_Frame 25 13), gd 21 false (ld 27 T_sl_uint8 26), gd 21 false (le' 28 27 T_sl_uint8), gd 21 false (bi 29 .gtr T_int (q 28) (ki 100) T_int), i' 30 (.pick (q 21) (kb true) (q 29))]) (.cond (q 30) (.seq (rg 1 0 [0, 3, 30] [i' 2 (.assign (kb false))]) .ret) .skip))) (rg 3 0 [11, 12, 30] [mv 11 3, bi 12 .add T_int (q 11) (ki 1) T_int, as' 3 12])))
def c_l14_few_L0 : C := .loop c_l14_few_B0
/-- What is live at the loop's head: t0 l, t3 i -/
abbrev h_l14_few_0 (t0 t3 : SV) : List SV := [t0, .bad, .bad, t3, .bad, .bad, .bad, .bad, .bad, .bad, .bad, .bad, .bad, .bad, .bad, .bad, .bad, .bad, .bad, .bad, .bad, .bad, .bad, .bad, .bad, .bad, .bad, .bad, .bad, .bad, .bad]
def c_l14_few : C :=
  (.seq (rg 1 0 [2] [i' 2 (.assign (kb false))]) (.seq (.seq (rg 3 0 [4, 5] [mv 4 0, le' 5 4 T_sl_api_Heard, bi 6 .gtr T_int (q 5) (ki 60) T_int]) (.cond (q 6) (.seq (rg 1 0 [0, 6] [i' 2 (.assign (kb false))]) .ret) .skip)) (.seq (.seq (rg 1 0 [6] [i' 3 (.assign (ki 0))]) (.block 0 c_l14_few_L0)) (.seq (rg 1 0 [0, 3, 10] [i' 2 (.assign (kb true))]) .ret))))
theorem ok_l14_few : Try.f6.body.map (comp ES n_l14_few) = some c_l14_few := by kernel_rfl
theorem b_l14_few (t0 : SV) (M : Mem) : ICw ES n_l14_few [t0] M = endS ES [.tmp 2] (evW ES n_l14_few c_l14_few ⟨[t0, .bad, .bad, .bad, .bad, .bad, .bad, .bad, .bad, .bad, .bad, .bad, .bad, .bad, .bad, .bad, .bad, .bad, .bad, .bad, .bad, .bad, .bad, .bad, .bad, .bad, .bad, .bad, .bad, .bad, .bad], M⟩) :=
  ICw_run rfl Try.func6 ok_l14_few (by kernel_rfl) (by kernel_rfl) (by kernel_rfl) M

/-! drumline/vote.Backers -/
def c_vote_Backers_B0 : C :=
  (.seq (rg 1 0 [] [bi 16 .lss T_int (q 15) (q 14) T_int]) (.seq (.cond (q 16) .skip (.exit 0)) (.seq (.block 1 (.seq (rg 4 4 [16, 17, 18] [i' 17 (.indexAddr T_sl_api_Heard (q 13) (q 15)), ld 18 T_api_Heard 17, i' 5 (.alloc T_api_Heard), ⟨none, .store T_api_Heard (q 5) (q 18), none, none⟩]) (rg 7 7 [5, 19, 20, 21, 22, 23, 24] [mv 19 3, fa 20 T_api_Heard 5 1, ld 21 T_api_Frame 20, ca 22 n_vote_Of #[q 21] #[T_api_Frame], i' 23 (.buildSlice T_sl_api_Content 1 #[(0, q 22)]), i' 24 (.call { callee := .builtin .append, args := #[q 19, q 23], argTypes := #[T_sl_api_Content, T_sl_api_Content] }), as' 3 24]))) (rg 2 0 [25] [bi 25 .add T_int (q 15) (ki 1) T_int, mv 15 25]))))
def c_vote_Backers_L0 : C := .loop c_vote_Backers_B0
/-- What is live at the loop's head: t0 l, t3 all, t13, t14, t15 -/
abbrev h_vote_Backers_0 (t0 t3 t13 t14 t15 : SV) : List SV := [t0, .bad, .bad, t3, .bad, .bad, .bad, .bad, .bad, .bad, .bad, .bad, .bad, t13, t14, t15, .bad, .bad, .bad, .bad, .bad, .bad, .bad, .bad, .bad, .bad, .bad, .bad, .bad, .bad, .bad, .bad, .bad, .bad, .bad, .bad, .bad, .bad, .bad, .bad, .bad, .bad, .bad, .bad, .bad, .bad, .bad, .bad, .bad, .bad, .bad, .bad, .bad]
def c_vote_Backers_B1 : C :=
  (.seq (rg 1 0 [] [bi 34 .lss T_int (q 33) (q 32) T_int]) (.seq (.cond (q 34) .skip (.exit 2)) (.seq (.block 3 (.seq (rg 6 6 [34, 35, 36, 37] [mv 35 33, i' 36 (.indexAddr T_sl_api_Heard (q 31) (q 33)), ld 37 T_api_Heard 36, i' 10 (.alloc T_api_Heard), as' 9 35, ⟨none, .store T_api_Heard (q 10) (q 37), none, none⟩]) (.seq (rg 9 0 [9, 38, 39, 40, 41, 42, 43, 44, 45] [mv 38 3, mv 39 9, i' 40 (.indexAddr T_sl_api_Content (q 38) (q 39)), ld 41 T_api_Content 40, mv 42 3, mv 43 6, i' 44 (.indexAddr T_sl_api_Content (q 42) (q 43)), ld 45 T_api_Content 44, ca 46 n_vote_Same #[q 41, q 45] #[T_api_Content, T_api_Content]]) (.cond (q 46) (rg 5 5 [10, 46, 47, 48, 49, 50] [mv 47 8, ld 48 T_api_Heard 10, i' 49 (.buildSlice T_sl_api_Heard 1 #[(0, q 48)]), i' 50 (.call { callee := .builtin .append, args := #[q 47, q 49], argTypes := #[T_sl_api_Heard, T_sl_api_Heard] }), as' 8 50]) .skip)))) (rg 2 0 [10, 46, 51] [bi 51 .add T_int (q 33) (ki 1) T_int, mv 33 51]))))
def c_vote_Backers_L1 : C := .loop c_vote_Backers_B1
/-- What is live at the loop's head: t3 all, t6 at, t8 out, t31, t32, t33 -/
abbrev h_vote_Backers_1 (t3 t6 t8 t31 t32 t33 : SV) : List SV := [.bad, .bad, .bad, t3, .bad, .bad, t6, .bad, t8, .bad, .bad, .bad, .bad, .bad, .bad, .bad, .bad, .bad, .bad, .bad, .bad, .bad, .bad, .bad, .bad, .bad, .bad, .bad, .bad, .bad, .bad, t31, t32, t33, .bad, .bad, .bad, .bad, .bad, .bad, .bad, .bad, .bad, .bad, .bad, .bad, .bad, .bad, .bad, .bad, .bad, .bad, .bad]
def c_vote_Backers : C :=
  (.seq (rg 1 0 [2] [i' 2 (.assign (.const (.slice none 0 0)))]) (.seq (rg 3 0 [11, 12] [mv 11 0, ca 12 n_vote_Kind #[q 11, (ki 2)] #[T_sl_api_Heard, T_int], as' 0 12]) (.seq (rg 1 0 [] [i' 3 (.assign (.const (.slice none 0 0)))]) (.seq (.seq (rg 3 0 [] [mv 13 0, le' 14 13 T_sl_api_Heard, i' 15 (.move (ki 0))]) (.block 0 c_vote_Backers_L0)) (.seq (rg 7 0 [7, 13, 14, 15, 16, 26, 27, 28, 29, 30] [mv 27 3, ca 28 n_vote_Win #[q 27] #[T_sl_api_Content], mv 26 28, xt 29 26 0, xt 30 26 1, as' 6 29, as' 7 30]) (.seq (rg 1 0 [] [i' 8 (.assign (.const (.slice none 0 0)))]) (.seq (.seq (rg 3 0 [0] [mv 31 0, le' 32 31 T_sl_api_Heard, i' 33 (.move (ki 0))]) (.block 2 c_vote_Backers_L1)) (.seq (rg 2 0 [3, 6, 8, 31, 32, 33, 34, 52] [mv 52 8, as' 2 52]) .ret))))))))
theorem ok_vote_Backers : Try.f7.body.map (comp ES n_vote_Backers) = some c_vote_Backers := by kernel_rfl
theorem b_vote_Backers (t0 : SV) (M : Mem) : ICw ES n_vote_Backers [t0] M = endS ES [.tmp 2] (evW ES n_vote_Backers c_vote_Backers ⟨[t0, .bad, .bad, .bad, .bad, .bad, .bad, .bad, .bad, .bad, .bad, .bad, .bad, .bad, .bad, .bad, .bad, .bad, .bad, .bad, .bad, .bad, .bad, .bad, .bad, .bad, .bad, .bad, .bad, .bad, .bad, .bad, .bad, .bad, .bad, .bad, .bad, .bad, .bad, .bad, .bad, .bad, .bad, .bad, .bad, .bad, .bad, .bad, .bad, .bad, .bad, .bad, .bad], M⟩) :=
  ICw_run rfl Try.func7 ok_vote_Backers (by kernel_rfl) (by kernel_rfl) (by kernel_rfl) M
@[simp] theorem x_vote_Backers_vote_Win : CX ES n_vote_Backers n_vote_Win := cx rfl
@[simp] theorem x_vote_Backers_vote_Same : CX ES n_vote_Backers n_vote_Same := cx rfl
@[simp] theorem x_vote_Backers_vote_Kind : CX ES n_vote_Backers n_vote_Kind := cx rfl
@[simp] theorem x_vote_Backers_vote_Of : CX ES n_vote_Backers n_vote_Of := cx rfl

/-! drumline/vote.Enough -/
def c_vote_Enough : C :=
  (.seq (rg 1 0 [] [i' 4 (.assign (kb false))]) (.seq (rg 14 0 [] [mv 5 1, bi 6 .geq T_int (q 5) (ki 0) T_int, mv 7 6, gd 7 true (mv 8 1), gd 7 true (bi 9 .leq T_int (q 8) (ki 3) T_int), i' 10 (.pick (q 7) (q 9) (kb false)), mv 11 10, gd 11 true (mv 12 0), gd 11 true (mv 13 1), gd 11 true (bi 14 .mul T_int (ki 2) (q 13) T_int), gd 11 true (bi 15 .add T_int (q 14) (ki 1) T_int), gd 11 true (bi 16 .geq T_int (q 12) (q 15) T_int), i' 17 (.pick (q 11) (q 16) (kb false)), as' 4 17]) .ret))
theorem ok_vote_Enough : Try.f8.body.map (comp ES n_vote_Enough) = some c_vote_Enough := by kernel_rfl
theorem b_vote_Enough (t0 t1 : SV) (M : Mem) : ICw ES n_vote_Enough [t0, t1] M = endS ES [.tmp 4] (evW ES n_vote_Enough c_vote_Enough ⟨[t0, t1, .bad, .bad, .bad, .bad, .bad, .bad, .bad, .bad, .bad, .bad, .bad, .bad, .bad, .bad, .bad, .bad], M⟩) :=
  ICw_run rfl Try.func8 ok_vote_Enough (by kernel_rfl) (by kernel_rfl) (by kernel_rfl) M

/-! drumline/drumlineref1.SameInts -/
def c_r1_SameInts_B0 : C :=
  (.seq (.seq (rg 4 0 [11, 12, 13] [mv 11 5, mv 12 0, le' 13 12 T_sl_int, bi 14 .lss T_int (q 11) (q 13) T_int]) (.cond (q 14) .skip (.exit 0))) (.seq (.block 1 (.seq (rg 9 0 [14, 17, 18, 19, 20, 21, 22, 23, 24] [mv 17 0, mv 18 5, i' 19 (.indexAddr T_sl_int (q 17) (q 18)), ld 20 T_int 19, mv 21 1, mv 22 5, i' 23 (.indexAddr T_sl_int (q 21) (q 22)), ld 24 T_int 23, bi 25 .neq T_int (q 20) (q 24) T_int]) (.cond (q 25) (.seq (rg 1 0 [0, 1, 5, 25] [i' 4 (.assign (kb false))]) .ret) .skip))) (rg 3 0 [15, 16, 25] [mv 15 5, bi 16 .add T_int (q 15) (ki 1) T_int, as' 5 16])))
def c_r1_SameInts_L0 : C := .loop c_r1_SameInts_B0
/-- What is live at the loop's head: t0 a, t1 b, t5 i -/
abbrev h_r1_SameInts_0 (t0 t1 t5 : SV) : List SV := [t0, t1, .bad, .bad, .bad, t5, .bad, .bad, .bad, .bad, .bad, .bad, .bad, .bad, .bad, .bad, .bad, .bad, .bad, .bad, .bad, .bad, .bad, .bad, .bad, .bad]
def c_r1_SameInts : C :=
  (.seq (rg 1 0 [4] [i' 4 (.assign (kb false))]) (.seq (.seq (rg 5 0 [6, 7, 8, 9] [mv 6 0, le' 7 6 T_sl_int, mv 8 1, le' 9 8 T_sl_int, bi 10 .neq T_int (q 7) (q 9) T_int]) (.cond (q 10) (.seq (rg 1 0 [0, 1, 10] [i' 4 (.assign (kb false))]) .ret) .skip)) (.seq (.seq (rg 1 0 [10] [i' 5 (.assign (ki 0))]) (.block 0 c_r1_SameInts_L0)) (.seq (rg 1 0 [0, 1, 5, 14] [i' 4 (.assign (kb true))]) .ret))))
theorem ok_r1_SameInts : Try.f9.body.map (comp ES n_r1_SameInts) = some c_r1_SameInts := by kernel_rfl
theorem b_r1_SameInts (t0 t1 : SV) (M : Mem) : ICw ES n_r1_SameInts [t0, t1] M = endS ES [.tmp 4] (evW ES n_r1_SameInts c_r1_SameInts ⟨[t0, t1, .bad, .bad, .bad, .bad, .bad, .bad, .bad, .bad, .bad, .bad, .bad, .bad, .bad, .bad, .bad, .bad, .bad, .bad, .bad, .bad, .bad, .bad, .bad, .bad], M⟩) :=
  ICw_run rfl Try.func9 ok_r1_SameInts (by kernel_rfl) (by kernel_rfl) (by kernel_rfl) M

/-! drumline/drumlineref10.SameHeard -/
def c_r10_SameHeard_B0 : C :=
  (.seq (.seq (rg 4 0 [11, 12, 13] [mv 11 5, mv 12 0, le' 13 12 T_sl_api_Heard, bi 14 .lss T_int (q 11) (q 13) T_int]) (.cond (q 14) .skip (.exit 0))) (.seq (.block 1 (.seq (rg 38 0 [14, 17, 18, 19, 20, 21, 22, 23, 24, 25, 26, 27, 28, 29, 30, 31, 32, 33, 34, 35, 36, 37, 38, 39, 40, 41, 42, 43, 44, 45, 46, 47, 48, 49, 50, 51, 52, 53] [mv 17 0, mv 18 5, i' 19 (.indexAddr T_sl_api_Heard (q 17) (q 18)), fa 20 T_api_Heard 19 0, ld 21 T_int 20, mv 22 1, mv 23 5, i' 24 (.indexAddr T_sl_api_Heard (q 22) (q 23)), fa 25 T_api_Heard 24 0, ld 26 T_int 25, bi 27 .neq T_int (q 21) (q 26) T_int, mv 28 27, gd 28 false (mv 29 0), gd 28 false (mv 30 5), gd 28 false (i' 31 (.indexAddr T_sl_api_Heard (q 29) (q 30))), gd 28 false (fa 32 T_api_Heard 31 2), gd 28 false (ld 33 T_int64 32), gd 28 false (mv 34 1), gd 28 false (mv 35 5), gd 28 false (i' 36 (.indexAddr T_sl_api_Heard (q 34) (q 35))), gd 28 false (fa 37 T_api_Heard 36 2), gd 28 false (ld 38 T_int64 37), gd 28 false (bi 39 .neq T_int64 (q 33) (q 38) T_int64), i' 40 (.pick (q 28) (kb true) (q 39)), mv 41 40, gd 41 false (mv 42 0), gd 41 false (mv 43 5), gd 41 false (i' 44 (.indexAddr T_sl_api_Heard (q 42) (q 43))), gd 41 false (fa 45 T_api_Heard 44 1), gd 41 false (ld 46 T_api_Frame 45), gd 41 false (mv 47 1), gd 41 false (mv 48 5), gd 41 false (i' 49 (.indexAddr T_sl_api_Heard (q 47) (q 48))), gd 41 false (fa 50 T_api_Heard 49 1), gd 41 false (ld 51 T_api_Frame 50), gd 41 false (ca 52 n_r1_Same #[q 46, q 51] #[T_api_Frame, T_api_Frame]), gd 41 false (i' 53 (.unOp .not T_bool (q 52))), i' 54 (.pick (q 41) (kb true) (q 53))]) (.cond (q 54) (.seq (rg 1 0 [0, 1, 5, 54] [i' 4 (.assign (kb false))]) .ret) .skip))) (rg 3 0 [15, 16, 54] [mv 15 5, bi 16 .add T_int (q 15) (ki 1) T_int, as' 5 16])))
def c_r10_SameHeard_L0 : C := .loop c_r10_SameHeard_B0
/-- What is live at the loop's head: t0 a, t1 b, t5 i -/
abbrev h_r10_SameHeard_0 (t0 t1 t5 : SV) : List SV := [t0, t1, .bad, .bad, .bad, t5, .bad, .bad, .bad, .bad, .bad, .bad, .bad, .bad, .bad, .bad, .bad, .bad, .bad, .bad, .bad, .bad, .bad, .bad, .bad, .bad, .bad, .bad, .bad, .bad, .bad, .bad, .bad, .bad, .bad, .bad, .bad, .bad, .bad, .bad, .bad, .bad, .bad, .bad, .bad, .bad, .bad, .bad, .bad, .bad, .bad, .bad, .bad, .bad, .bad]
def c_r10_SameHeard : C :=
  (.seq (rg 1 0 [4] [i' 4 (.assign (kb false))]) (.seq (.seq (rg 5 0 [6, 7, 8, 9] [mv 6 0, le' 7 6 T_sl_api_Heard, mv 8 1, le' 9 8 T_sl_api_Heard, bi 10 .neq T_int (q 7) (q 9) T_int]) (.cond (q 10) (.seq (rg 1 0 [0, 1, 10] [i' 4 (.assign (kb false))]) .ret) .skip)) (.seq (.seq (rg 1 0 [10] [i' 5 (.assign (ki 0))]) (.block 0 c_r10_SameHeard_L0)) (.seq (rg 1 0 [0, 1, 5, 14] [i' 4 (.assign (kb true))]) .ret))))
theorem ok_r10_SameHeard : Try.f10.body.map (comp ES n_r10_SameHeard) = some c_r10_SameHeard := by kernel_rfl
theorem b_r10_SameHeard (t0 t1 : SV) (M : Mem) : ICw ES n_r10_SameHeard [t0, t1] M = endS ES [.tmp 4] (evW ES n_r10_SameHeard c_r10_SameHeard ⟨[t0, t1, .bad, .bad, .bad, .bad, .bad, .bad, .bad, .bad, .bad, .bad, .bad, .bad, .bad, .bad, .bad, .bad, .bad, .bad, .bad, .bad, .bad, .bad, .bad, .bad, .bad, .bad, .bad, .bad, .bad, .bad, .bad, .bad, .bad, .bad, .bad, .bad, .bad, .bad, .bad, .bad, .bad, .bad, .bad, .bad, .bad, .bad, .bad, .bad, .bad, .bad, .bad, .bad, .bad], M⟩) :=
  ICw_run rfl Try.func10 ok_r10_SameHeard (by kernel_rfl) (by kernel_rfl) (by kernel_rfl) M
@[simp] theorem x_r10_SameHeard_r1_Same : CX ES n_r10_SameHeard n_r1_Same := cx rfl

/-! drumline/drumlineref10.Backers -/
def c_r10_Backers_B0 : C :=
  (.seq (.seq (rg 4 0 [10, 11, 12] [mv 10 5, mv 11 0, le' 12 11 T_sl_api_Heard, bi 13 .lss T_int (q 10) (q 12) T_int]) (.cond (q 13) .skip (.exit 0))) (.seq (.block 1 (.seq (rg 7 0 [13, 16, 17, 18, 19, 20, 21] [mv 16 0, mv 17 5, i' 18 (.indexAddr T_sl_api_Heard (q 16) (q 17)), fa 19 T_api_Heard 18 1, fa 20 T_api_Frame 19 0, ld 21 T_int 20, bi 22 .eql T_int (q 21) (ki 2) T_int]) (.cond (q 22) (.seq (rg 8 8 [22, 23, 24, 25, 26, 27, 28, 29] [mv 23 3, mv 24 0, mv 25 5, i' 26 (.indexAddr T_sl_api_Heard (q 24) (q 25)), ld 27 T_api_Heard 26, i' 28 (.buildSlice T_sl_api_Heard 1 #[(0, q 27)]), i' 29 (.call { callee := .builtin .append, args := #[q 23, q 28], argTypes := #[T_sl_api_Heard, T_sl_api_Heard] }), as' 3 29]) (rg 17 17 [30, 31, 32, 33, 34, 35, 36, 37, 38, 39, 40, 41, 42, 43, 44, 45] [li [] (mv 30 4), li [] (mv 31 0), li [] (mv 32 5), li [1, 2] (i' 33 (.indexAddr T_sl_api_Heard (q 31) (q 32))), li [1, 2, 3] (fa 34 T_api_Heard 33 1), li [1, 2, 3, 4] (fa 35 T_api_Frame 34 7), li [1, 2, 3, 4, 5] (ld 36 T_int64 35), li [] (mv 37 0), li [] (mv 38 5), li [7, 8] (i' 39 (.indexAddr T_sl_api_Heard (q 37) (q 38))), li [7, 8, 9] (fa 40 T_api_Heard 39 1), li [7, 8, 9, 10] (fa 41 T_api_Frame 40 9), li [7, 8, 9, 10, 11] (ld 42 T_sl_int 41), li [1, 2, 3, 4, 5, 6, 7, 8, 9, 10, 11, 12] (i' 43 (.build T_api_Content #[(0, q 36), (1, q 42)])), li [1, 2, 3, 4, 5, 6, 7, 8, 9, 10, 11, 12, 13] (i' 44 (.buildSlice T_sl_api_Content 1 #[(0, q 43)])), li [0, 1, 2, 3, 4, 5, 6, 7, 8, 9, 10, 11, 12, 13, 14] (i' 45 (.call { callee := .builtin .append, args := #[q 30, q 44], argTypes := #[T_sl_api_Content, T_sl_api_Content] })), li [0, 1, 2, 3, 4, 5, 6, 7, 8, 9, 10, 11, 12, 13, 14, 15] (as' 4 45)])) .skip))) (rg 3 0 [14, 15, 22] [mv 14 5, bi 15 .add T_int (q 14) (ki 1) T_int, as' 5 15])))
def c_r10_Backers_L0 : C := .loop c_r10_Backers_B0
/-- What is live at the loop's head: t0 l, t3 of, t4 what, t5 i -/
abbrev h_r10_Backers_0 (t0 t3 t4 t5 : SV) : List SV := [t0, .bad, .bad, t3, t4, t5, .bad, .bad, .bad, .bad, .bad, .bad, .bad, .bad, .bad, .bad, .bad, .bad, .bad, .bad, .bad, .bad, .bad, .bad, .bad, .bad, .bad, .bad, .bad, .bad, .bad, .bad, .bad, .bad, .bad, .bad, .bad, .bad, .bad, .bad, .bad, .bad, .bad, .bad, .bad, .bad, .bad, .bad, .bad, .bad, .bad, .bad, .bad, .bad, .bad, .bad, .bad, .bad, .bad, .bad, .bad, .bad, .bad, .bad, .bad, .bad, .bad, .bad, .bad, .bad, .bad, .bad, .bad, .bad, .bad]
def c_r10_Backers_B1 : C :=
  (.seq (.seq (rg 4 0 [51, 52, 53] [mv 51 9, mv 52 3, le' 53 52 T_sl_api_Heard, bi 54 .lss T_int (q 51) (q 53) T_int]) (.cond (q 54) .skip (.exit 2))) (.seq (.block 3 (.seq (rg 9 0 [54, 57, 58, 59, 60, 61, 62, 63, 64] [mv 57 4, mv 58 9, i' 59 (.indexAddr T_sl_api_Content (q 57) (q 58)), ld 60 T_api_Content 59, mv 61 4, mv 62 6, i' 63 (.indexAddr T_sl_api_Content (q 61) (q 62)), ld 64 T_api_Content 63, ca 65 n_r10_SameContent #[q 60, q 64] #[T_api_Content, T_api_Content]]) (.cond (q 65) (rg 9 9 [65, 66, 67, 68, 69, 70, 71, 72, 73] [mv 66 8, mv 67 3, mv 68 9, i' 69 (.indexAddr T_sl_api_Heard (q 67) (q 68)), ld 70 T_api_Heard 69, ca 71 n_r10_CopyHeard #[q 70] #[T_api_Heard], i' 72 (.buildSlice T_sl_api_Heard 1 #[(0, q 71)]), i' 73 (.call { callee := .builtin .append, args := #[q 66, q 72], argTypes := #[T_sl_api_Heard, T_sl_api_Heard] }), as' 8 73]) .skip))) (rg 3 0 [55, 56, 65] [mv 55 9, bi 56 .add T_int (q 55) (ki 1) T_int, as' 9 56])))
def c_r10_Backers_L1 : C := .loop c_r10_Backers_B1
/-- What is live at the loop's head: t3 of, t4 what, t6 at, t8 out, t9 i -/
abbrev h_r10_Backers_1 (t3 t4 t6 t8 t9 : SV) : List SV := [.bad, .bad, .bad, t3, t4, .bad, t6, .bad, t8, t9, .bad, .bad, .bad, .bad, .bad, .bad, .bad, .bad, .bad, .bad, .bad, .bad, .bad, .bad, .bad, .bad, .bad, .bad, .bad, .bad, .bad, .bad, .bad, .bad, .bad, .bad, .bad, .bad, .bad, .bad, .bad, .bad, .bad, .bad, .bad, .bad, .bad, .bad, .bad, .bad, .bad, .bad, .bad, .bad, .bad, .bad, .bad, .bad, .bad, .bad, .bad, .bad, .bad, .bad, .bad, .bad, .bad, .bad, .bad, .bad, .bad, .bad, .bad, .bad, .bad]
def c_r10_Backers : C :=
  (.seq (rg 1 0 [2] [i' 2 (.assign (.const (.slice none 0 0)))]) (.seq (rg 1 0 [] [i' 3 (.assign (.const (.slice none 0 0)))]) (.seq (rg 1 0 [] [i' 4 (.assign (.const (.slice none 0 0)))]) (.seq (.seq (rg 1 0 [] [i' 5 (.assign (ki 0))]) (.block 0 c_r10_Backers_L0)) (.seq (rg 7 0 [0, 5, 7, 13, 46, 47, 48, 49, 50] [mv 47 4, ca 48 n_r10_Win #[q 47] #[T_sl_api_Content], mv 46 48, xt 49 46 0, xt 50 46 1, as' 6 49, as' 7 50]) (.seq (rg 1 0 [] [i' 8 (.assign (.const (.slice none 0 0)))]) (.seq (.seq (rg 1 0 [] [i' 9 (.assign (ki 0))]) (.block 2 c_r10_Backers_L1)) (.seq (rg 2 0 [3, 4, 6, 8, 9, 54, 74] [mv 74 8, as' 2 74]) .ret))))))))
theorem ok_r10_Backers : Try.f11.body.map (comp ES n_r10_Backers) = some c_r10_Backers := by kernel_rfl
theorem b_r10_Backers (t0 : SV) (M : Mem) : ICw ES n_r10_Backers [t0] M = endS ES [.tmp 2] (evW ES n_r10_Backers c_r10_Backers ⟨[t0, .bad, .bad, .bad, .bad, .bad, .bad, .bad, .bad, .bad, .bad, .bad, .bad, .bad, .bad, .bad, .bad, .bad, .bad, .bad, .bad, .bad, .bad, .bad, .bad, .bad, .bad, .bad, .bad, .bad, .bad, .bad, .bad, .bad, .bad, .bad, .bad, .bad, .bad, .bad, .bad, .bad, .bad, .bad, .bad, .bad, .bad, .bad, .bad, .bad, .bad, .bad, .bad, .bad, .bad, .bad, .bad, .bad, .bad, .bad, .bad, .bad, .bad, .bad, .bad, .bad, .bad, .bad, .bad, .bad, .bad, .bad, .bad, .bad, .bad], M⟩) :=
  ICw_run rfl Try.func11 ok_r10_Backers (by kernel_rfl) (by kernel_rfl) (by kernel_rfl) M
@[simp] theorem x_r10_Backers_r10_Win : CX ES n_r10_Backers n_r10_Win := cx rfl
@[simp] theorem x_r10_Backers_r10_SameContent : CX ES n_r10_Backers n_r10_SameContent := cx rfl
@[simp] theorem x_r10_Backers_r10_CopyHeard : CX ES n_r10_Backers n_r10_CopyHeard := cx rfl

/-! drumline/vote.Mask -/
def c_vote_Mask_B0 : C :=
  (.seq (rg 1 0 [] [bi 10 .lss T_int (q 9) (q 8) T_int]) (.seq (.cond (q 10) .skip (.exit 0)) (.seq (.block 1 (.seq (rg 4 4 [10, 11, 12] [i' 11 (.indexAddr T_sl_api_Heard (q 7) (q 9)), ld 12 T_api_Heard 11, i' 5 (.alloc T_api_Heard), ⟨none, .store T_api_Heard (q 5) (q 12), none, none⟩]) (.seq (rg 4 0 [5, 13, 14, 15] [fa 13 T_api_Heard 5 1, fa 14 T_api_Frame 13 2, ld 15 T_int 14, as' 6 15]) (.seq (rg 6 0 [16, 17, 18, 19, 20] [mv 16 6, bi 17 .geq T_int (q 16) (ki 0) T_int, mv 18 17, gd 18 true (mv 19 6), gd 18 true (bi 20 .lss T_int (q 19) (ki 12) T_int), i' 21 (.pick (q 18) (q 20) (kb false))]) (.cond (q 21) (rg 5 0 [6, 21, 22, 23, 24, 25] [mv 22 3, mv 23 6, bi 24 .shl T_int (ki 1) (q 23) T_int, bi 25 .or T_int (q 22) (q 24) T_int, as' 3 25]) .skip))))) (rg 2 0 [6, 21, 26] [bi 26 .add T_int (q 9) (ki 1) T_int, mv 9 26]))))
def c_vote_Mask_L0 : C := .loop c_vote_Mask_B0
/-- What is live at the loop's head: t3 m, t7, t8, t9 -/
abbrev h_vote_Mask_0 (t3 t7 t8 t9 : SV) : List SV := [.bad, .bad, .bad, t3, .bad, .bad, .bad, t7, t8, t9, .bad, .bad, .bad, .bad, .bad, .bad, .bad, .bad, .bad, .bad, .bad, .bad, .bad, .bad, .bad, .bad, .bad, .bad]
def c_vote_Mask : C :=
  (.seq (rg 1 0 [2] [i' 2 (.assign (ki 0))]) (.seq (rg 1 0 [] [i' 3 (.assign (ki 0))]) (.seq (.seq (rg 3 0 [0] [mv 7 0, le' 8 7 T_sl_api_Heard, i' 9 (.move (ki 0))]) (.block 0 c_vote_Mask_L0)) (.seq (rg 2 0 [3, 7, 8, 9, 10, 27] [mv 27 3, as' 2 27]) .ret))))
theorem ok_vote_Mask : Try.f12.body.map (comp ES n_vote_Mask) = some c_vote_Mask := by kernel_rfl
theorem b_vote_Mask (t0 : SV) (M : Mem) : ICw ES n_vote_Mask [t0] M = endS ES [.tmp 2] (evW ES n_vote_Mask c_vote_Mask ⟨[t0, .bad, .bad, .bad, .bad, .bad, .bad, .bad, .bad, .bad, .bad, .bad, .bad, .bad, .bad, .bad, .bad, .bad, .bad, .bad, .bad, .bad, .bad, .bad, .bad, .bad, .bad, .bad], M⟩) :=
  ICw_run rfl Try.func12 ok_vote_Mask (by kernel_rfl) (by kernel_rfl) (by kernel_rfl) M

/-! drumline/drumlineref10.Mask -/
def c_r10_Mask_B0 : C :=
  (.seq (.seq (rg 4 0 [6, 7, 8] [mv 6 4, mv 7 0, le' 8 7 T_sl_api_Heard, bi 9 .lss T_int (q 6) (q 8) T_int]) (.cond (q 9) .skip (.exit 0))) (.seq (.block 1 (.seq (rg 7 0 [9, 12, 13, 14, 15, 16, 17] [mv 12 0, mv 13 4, i' 14 (.indexAddr T_sl_api_Heard (q 12) (q 13)), fa 15 T_api_Heard 14 1, fa 16 T_api_Frame 15 2, ld 17 T_int 16, as' 5 17]) (.seq (rg 6 0 [18, 19, 20, 21, 22] [mv 18 5, bi 19 .geq T_int (q 18) (ki 0) T_int, mv 20 19, gd 20 true (mv 21 5), gd 20 true (bi 22 .lss T_int (q 21) (ki 12) T_int), i' 23 (.pick (q 20) (q 22) (kb false))]) (.cond (q 23) (rg 6 0 [5, 23, 24, 25, 26, 27, 28] [mv 24 3, mv 25 5, i' 26 (.convert T_int T_uint (q 25)), bi 27 .shl T_int (ki 1) (q 26) T_uint, bi 28 .or T_int (q 24) (q 27) T_int, as' 3 28]) .skip)))) (rg 3 0 [5, 10, 11, 23] [mv 10 4, bi 11 .add T_int (q 10) (ki 1) T_int, as' 4 11])))
def c_r10_Mask_L0 : C := .loop c_r10_Mask_B0
/-- What is live at the loop's head: t0 l, t3 m, t4 i -/
abbrev h_r10_Mask_0 (t0 t3 t4 : SV) : List SV := [t0, .bad, .bad, t3, t4, .bad, .bad, .bad, .bad, .bad, .bad, .bad, .bad, .bad, .bad, .bad, .bad, .bad, .bad, .bad, .bad, .bad, .bad, .bad, .bad, .bad, .bad, .bad, .bad, .bad]
def c_r10_Mask : C :=
  (.seq (rg 1 0 [2] [i' 2 (.assign (ki 0))]) (.seq (rg 1 0 [] [i' 3 (.assign (ki 0))]) (.seq (.seq (rg 1 0 [] [i' 4 (.assign (ki 0))]) (.block 0 c_r10_Mask_L0)) (.seq (rg 2 0 [0, 3, 4, 9, 29] [mv 29 3, as' 2 29]) .ret))))
theorem ok_r10_Mask : Try.f13.body.map (comp ES n_r10_Mask) = some c_r10_Mask := by kernel_rfl
theorem b_r10_Mask (t0 : SV) (M : Mem) : ICw ES n_r10_Mask [t0] M = endS ES [.tmp 2] (evW ES n_r10_Mask c_r10_Mask ⟨[t0, .bad, .bad, .bad, .bad, .bad, .bad, .bad, .bad, .bad, .bad, .bad, .bad, .bad, .bad, .bad, .bad, .bad, .bad, .bad, .bad, .bad, .bad, .bad, .bad, .bad, .bad, .bad, .bad, .bad], M⟩) :=
  ICw_run rfl Try.func13 ok_r10_Mask (by kernel_rfl) (by kernel_rfl) (by kernel_rfl) M

/-! drumline/vote.Win -/
def c_vote_Win_B0 : C :=
  (.seq (rg 1 0 [] [bi 12 .lss T_int (q 11) (q 10) T_int]) (.seq (.cond (q 12) .skip (.exit 0)) (.seq (.block 1 (.seq (rg 6 6 [12, 13, 14, 15] [mv 13 11, i' 14 (.indexAddr T_sl_api_Content (q 9) (q 11)), ld 15 T_api_Content 14, i' 7 (.alloc T_api_Content), as' 6 13, ⟨none, .store T_api_Content (q 7) (q 15), none, none⟩]) (.seq (rg 4 0 [7, 16, 17, 18] [mv 16 0, ld 17 T_api_Content 7, ca 18 n_vote_count #[q 16, q 17] #[T_sl_api_Content, T_api_Content], as' 8 18]) (.seq (rg 3 0 [19, 20] [mv 19 8, mv 20 5, bi 21 .gtr T_int (q 19) (q 20) T_int]) (.cond (q 21) (rg 4 0 [6, 8, 21, 22, 23] [mv 22 6, mv 23 8, as' 4 22, as' 5 23]) .skip))))) (rg 2 0 [6, 8, 21, 24] [bi 24 .add T_int (q 11) (ki 1) T_int, mv 11 24]))))
def c_vote_Win_L0 : C := .loop c_vote_Win_B0
/-- What is live at the loop's head: t0 l, t4 at, t5 most, t9, t10, t11 -/
abbrev h_vote_Win_0 (t0 t4 t5 t9 t10 t11 : SV) : List SV := [t0, .bad, .bad, .bad, t4, t5, .bad, .bad, .bad, t9, t10, t11, .bad, .bad, .bad, .bad, .bad, .bad, .bad, .bad, .bad, .bad, .bad, .bad, .bad, .bad, .bad]
def c_vote_Win : C :=
  (.seq (rg 2 0 [2, 3] [i' 2 (.assign (ki 0)), i' 3 (.assign (ki 0))]) (.seq (rg 2 0 [] [i' 4 (.assign (ki (-1))), i' 5 (.assign (ki 0))]) (.seq (.seq (rg 3 0 [] [mv 9 0, le' 10 9 T_sl_api_Content, i' 11 (.move (ki 0))]) (.block 0 c_vote_Win_L0)) (.seq (rg 4 0 [0, 4, 5, 9, 10, 11, 12, 25, 26] [mv 25 4, mv 26 5, as' 2 25, as' 3 26]) .ret))))
theorem ok_vote_Win : Try.f14.body.map (comp ES n_vote_Win) = some c_vote_Win := by kernel_rfl
theorem b_vote_Win (t0 : SV) (M : Mem) : ICw ES n_vote_Win [t0] M = endS ES [.tmp 2, .tmp 3] (evW ES n_vote_Win c_vote_Win ⟨[t0, .bad, .bad, .bad, .bad, .bad, .bad, .bad, .bad, .bad, .bad, .bad, .bad, .bad, .bad, .bad, .bad, .bad, .bad, .bad, .bad, .bad, .bad, .bad, .bad, .bad, .bad], M⟩) :=
  ICw_run rfl Try.func14 ok_vote_Win (by kernel_rfl) (by kernel_rfl) (by kernel_rfl) M
@[simp] theorem x_vote_Win_vote_count : CX ES n_vote_Win n_vote_count := cx rfl

/-! drumline/vote.Same -/
def c_vote_Same : C :=
  (.seq (rg 3 3 [] [i' 2 (.box T_api_Content (q 0)), i' 3 (.box T_api_Content (q 1)), i' 4 (.assign (kb false))]) (.seq (rg 13 0 [] [fa 5 T_api_Content 2 0, ld 6 T_int64 5, fa 7 T_api_Content 3 0, ld 8 T_int64 7, bi 9 .eql T_int64 (q 6) (q 8) T_int64, mv 10 9, gd 10 true (fa 11 T_api_Content 2 1), gd 10 true (ld 12 T_sl_int 11), gd 10 true (fa 13 T_api_Content 3 1), gd 10 true (ld 14 T_sl_int 13), gd 10 true (ca 15 n_slices_Equal_sl_int_int #[q 12, q 14] #[T_sl_int, T_sl_int]), i' 16 (.pick (q 10) (q 15) (kb false)), as' 4 16]) .ret))
theorem ok_vote_Same : Try.f15.body.map (comp ES n_vote_Same) = some c_vote_Same := by kernel_rfl
theorem b_vote_Same (t0 t1 : SV) (M : Mem) : ICw ES n_vote_Same [t0, t1] M = endS ES [.tmp 4] (evW ES n_vote_Same c_vote_Same ⟨[t0, t1, .bad, .bad, .bad, .bad, .bad, .bad, .bad, .bad, .bad, .bad, .bad, .bad, .bad, .bad, .bad], M⟩) :=
  ICw_run rfl Try.func15 ok_vote_Same (by kernel_rfl) (by kernel_rfl) (by kernel_rfl) M
@[simp] theorem x_vote_Same_slices_Equal_sl_int_int : CX ES n_vote_Same n_slices_Equal_sl_int_int := cx rfl

/-! drumline/vote.Kind -/
def c_vote_Kind_B0 : C :=
  (.seq (rg 1 0 [] [bi 11 .lss T_int (q 10) (q 9) T_int]) (.seq (.cond (q 11) .skip (.exit 0)) (.seq (.block 1 (.seq (rg 4 4 [11, 12, 13] [i' 12 (.indexAddr T_sl_api_Heard (q 8) (q 10)), ld 13 T_api_Heard 12, i' 7 (.alloc T_api_Heard), ⟨none, .store T_api_Heard (q 7) (q 13), none, none⟩]) (.seq (rg 5 0 [14, 15, 16, 17] [fa 14 T_api_Heard 7 1, fa 15 T_api_Frame 14 0, ld 16 T_int 15, mv 17 1, bi 18 .eql T_int (q 16) (q 17) T_int]) (.cond (q 18) (rg 6 6 [7, 18, 19, 20, 21, 22, 23] [mv 19 5, ld 20 T_api_Heard 7, ca 21 n_vote_clone #[q 20] #[T_api_Heard], i' 22 (.buildSlice T_sl_api_Heard 1 #[(0, q 21)]), i' 23 (.call { callee := .builtin .append, args := #[q 19, q 22], argTypes := #[T_sl_api_Heard, T_sl_api_Heard] }), as' 5 23]) .skip)))) (rg 2 0 [7, 18, 24] [bi 24 .add T_int (q 10) (ki 1) T_int, mv 10 24]))))
def c_vote_Kind_L0 : C := .loop c_vote_Kind_B0
/-- What is live at the loop's head: t1 kind, t5 out, t8, t9, t10 -/
abbrev h_vote_Kind_0 (t1 t5 t8 t9 t10 : SV) : List SV := [.bad, t1, .bad, .bad, .bad, t5, .bad, .bad, t8, t9, t10, .bad, .bad, .bad, .bad, .bad, .bad, .bad, .bad, .bad, .bad, .bad, .bad, .bad, .bad, .bad]
def c_vote_Kind : C :=
  (.seq (rg 1 0 [4] [i' 4 (.assign (.const (.slice none 0 0)))]) (.seq (rg 1 0 [] [i' 5 (.assign (.const (.slice none 0 0)))]) (.seq (.seq (rg 3 0 [0] [mv 8 0, le' 9 8 T_sl_api_Heard, i' 10 (.move (ki 0))]) (.block 0 c_vote_Kind_L0)) (.seq (rg 2 0 [1, 5, 8, 9, 10, 11, 25] [mv 25 5, as' 4 25]) .ret))))
theorem ok_vote_Kind : Try.f16.body.map (comp ES n_vote_Kind) = some c_vote_Kind := by kernel_rfl
theorem b_vote_Kind (t0 t1 : SV) (M : Mem) : ICw ES n_vote_Kind [t0, t1] M = endS ES [.tmp 4] (evW ES n_vote_Kind c_vote_Kind ⟨[t0, t1, .bad, .bad, .bad, .bad, .bad, .bad, .bad, .bad, .bad, .bad, .bad, .bad, .bad, .bad, .bad, .bad, .bad, .bad, .bad, .bad, .bad, .bad, .bad, .bad], M⟩) :=
  ICw_run rfl Try.func16 ok_vote_Kind (by kernel_rfl) (by kernel_rfl) (by kernel_rfl) M
@[simp] theorem x_vote_Kind_vote_clone : CX ES n_vote_Kind n_vote_clone := cx rfl

/-! drumline/vote.Of -/
def c_vote_Of : C :=
  (.seq (rg 2 2 [] [i' 1 (.box T_api_Frame (q 0)), i' 2 (.alloc T_api_Content)]) (.seq (rg 7 0 [] [fa 3 T_api_Frame 1 7, ld 4 T_int64 3, fa 5 T_api_Frame 1 9, ld 6 T_sl_int 5, ca 7 n_slices_Clone_sl_int_int #[q 6] #[T_sl_int], i' 8 (.build T_api_Content #[(0, q 4), (1, q 7)]), ⟨none, .store T_api_Content (q 2) (q 8), none, none⟩]) .ret))
theorem ok_vote_Of : Try.f17.body.map (comp ES n_vote_Of) = some c_vote_Of := by kernel_rfl
theorem b_vote_Of (t0 : SV) (M : Mem) : ICw ES n_vote_Of [t0] M = endS ES [.cell 2 T_api_Content] (evW ES n_vote_Of c_vote_Of ⟨[t0, .bad, .bad, .bad, .bad, .bad, .bad, .bad, .bad], M⟩) :=
  ICw_run rfl Try.func17 ok_vote_Of (by kernel_rfl) (by kernel_rfl) (by kernel_rfl) M
@[simp] theorem x_vote_Of_slices_Clone_sl_int_int : CX ES n_vote_Of n_slices_Clone_sl_int_int := cx rfl

/-! drumline/drumlineref1.Same -/
def c_r1_Same : C :=
  (.seq (rg 3 3 [] [i' 2 (.box T_api_Frame (q 0)), i' 3 (.box T_api_Frame (q 1)), i' 4 (.assign (kb false))]) (.seq (.seq (rg 47 0 [] [fa 5 T_api_Frame 2 0, ld 6 T_int 5, fa 7 T_api_Frame 3 0, ld 8 T_int 7, bi 9 .neq T_int (q 6) (q 8) T_int, mv 10 9, gd 10 false (fa 11 T_api_Frame 2 1), gd 10 false (ld 12 T_int 11), gd 10 false (fa 13 T_api_Frame 3 1), gd 10 false (ld 14 T_int 13), gd 10 false (bi 15 .neq T_int (q 12) (q 14) T_int), i' 16 (.pick (q 10) (kb true) (q 15)), mv 17 16, gd 17 false (fa 18 T_api_Frame 2 2), gd 17 false (ld 19 T_int 18), gd 17 false (fa 20 T_api_Frame 3 2), gd 17 false (ld 21 T_int 20), gd 17 false (bi 22 .neq T_int (q 19) (q 21) T_int), i' 23 (.pick (q 17) (kb true) (q 22)), mv 24 23, gd 24 false (fa 25 T_api_Frame 2 3), gd 24 false (ld 26 T_int 25), gd 24 false (fa 27 T_api_Frame 3 3), gd 24 false (ld 28 T_int 27), gd 24 false (bi 29 .neq T_int (q 26) (q 28) T_int), i' 30 (.pick (q 24) (kb true) (q 29)), mv 31 30, gd 31 false (fa 32 T_api_Frame 2 4), gd 31 false (ld 33 T_int 32), gd 31 false (fa 34 T_api_Frame 3 4), gd 31 false (ld 35 T_int 34), gd 31 false (bi 36 .neq T_int (q 33) (q 35) T_int), i' 37 (.pick (q 31) (kb true) (q 36)), mv 38 37, gd 38 false (fa 39 T_api_Frame 2 5), gd 38 false (ld 40 T_int 39), gd 38 false (fa 41 T_api_Frame 3 5), gd 38 false (ld 42 T_int 41), gd 38 false (bi 43 .neq T_int (q 40) (q 42) T_int), i' 44 (.pick (q 38) (kb true) (q 43)), mv 45 44, gd 45 false (fa 46 T_api_Frame 2 6), gd 45 false (ld 47 T_bool 46), gd 45 false (fa 48 T_api_Frame 3 6), gd 45 false (ld 49 T_bool 48), gd 45 false (bi 50 .neq T_bool (q 47) (q 49) T_bool), i' 51 (.pick (q 45) (kb true) (q 50))]) (.cond (q 51) (.seq (rg 1 0 [] [i' 4 (.assign (kb false))]) .ret) .skip)) (.seq (rg 50 0 [] [fa 52 T_api_Frame 2 7, ld 53 T_int64 52, fa 54 T_api_Frame 3 7, ld 55 T_int64 54, bi 56 .eql T_int64 (q 53) (q 55) T_int64, mv 57 56, gd 57 true (fa 58 T_api_Frame 2 8), gd 57 true (ld 59 T_int64 58), gd 57 true (fa 60 T_api_Frame 3 8), gd 57 true (ld 61 T_int64 60), gd 57 true (bi 62 .eql T_int64 (q 59) (q 61) T_int64), i' 63 (.pick (q 57) (q 62) (kb false)), mv 64 63, gd 64 true (fa 65 T_api_Frame 2 9), gd 64 true (ld 66 T_sl_int 65), gd 64 true (fa 67 T_api_Frame 3 9), gd 64 true (ld 68 T_sl_int 67), gd 64 true (ca 69 n_r1_SameInts #[q 66, q 68] #[T_sl_int, T_sl_int]), i' 70 (.pick (q 64) (q 69) (kb false)), mv 71 70, gd 71 true (fa 72 T_api_Frame 2 10), gd 71 true (ld 73 T_int 72), gd 71 true (fa 74 T_api_Frame 3 10), gd 71 true (ld 75 T_int 74), gd 71 true (bi 76 .eql T_int (q 73) (q 75) T_int), i' 77 (.pick (q 71) (q 76) (kb false)), mv 78 77, gd 78 true (fa 79 T_api_Frame 2 11), gd 78 true (ld 80 T_int 79), gd 78 true (fa 81 T_api_Frame 3 11), gd 78 true (ld 82 T_int 81), gd 78 true (bi 83 .eql T_int (q 80) (q 82) T_int), i' 84 (.pick (q 78) (q 83) (kb false)), mv 85 84, gd 85 true (fa 86 T_api_Frame 2 12), gd 85 true (ld 87 T_int64 86), gd 85 true (fa 88 T_api_Frame 3 12), gd 85 true (ld 89 T_int64 88), gd 85 true (bi 90 .eql T_int64 (q 87) (q 89) T_int64), i' 91 (.pick (q 85) (q 90) (kb false)), mv 92 91, gd 92 true (fa 93 T_api_Frame 2 13), gd 92 true (ld 94 T_sl_uint8 93), gd 92 true (i' 95 (.convert T_sl_uint8 T_string (q 94))), gd 92 true (fa 96 T_api_Frame 3 13), gd 92 true (ld 97 T_sl_uint8 96), gd 92 true (i' 98 (.convert T_sl_uint8 T_string (q 97))), gd 92 true (bi 99 .eql T_string (q 95) (q 98) T_string), i' 100 (.pick (q 92) (q 99) (kb false)), as' 4 100]) .ret)))
theorem ok_r1_Same : Try.f18.body.map (comp ES n_r1_Same) = some c_r1_Same := by kernel_rfl
theorem b_r1_Same (t0 t1 : SV) (M : Mem) : ICw ES n_r1_Same [t0, t1] M = endS ES [.tmp 4] (evW ES n_r1_Same c_r1_Same ⟨[t0, t1, .bad, .bad, .bad, .bad, .bad, .bad, .bad, .bad, .bad, .bad, .bad, .bad, .bad, .bad, .bad, .bad, .bad, .bad, .bad, .bad, .bad, .bad, .bad, .bad, .bad, .bad, .bad, .bad, .bad, .bad, .bad, .bad, .bad, .bad, .bad, .bad, .bad, .bad, .bad, .bad, .bad, .bad, .bad, .bad, .bad, .bad, .bad, .bad, .bad, .bad, .bad, .bad, .bad, .bad, .bad, .bad, .bad, .bad, .bad, .bad, .bad, .bad, .bad, .bad, .bad, .bad, .bad, .bad, .bad, .bad, .bad, .bad, .bad, .bad, .bad, .bad, .bad, .bad, .bad, .bad, .bad, .bad, .bad, .bad, .bad, .bad, .bad, .bad, .bad, .bad, .bad, .bad, .bad, .bad, .bad, .bad, .bad, .bad, .bad], M⟩) :=
  ICw_run rfl Try.func18 ok_r1_Same (by kernel_rfl) (by kernel_rfl) (by kernel_rfl) M
@[simp] theorem x_r1_Same_r1_SameInts : CX ES n_r1_Same n_r1_SameInts := cx rfl

/-! drumline/drumlineref10.Win -/
def c_r10_Win_B0 : C :=
  (.seq (.seq (rg 4 0 [15, 16, 17] [mv 15 8, mv 16 0, le' 17 16 T_sl_api_Content, bi 18 .lss T_int (q 15) (q 17) T_int]) (.cond (q 18) .skip (.exit 2))) (.seq (.block 3 (.seq (rg 9 0 [18, 21, 22, 23, 24, 25, 26, 27, 28] [mv 21 0, mv 22 6, i' 23 (.indexAddr T_sl_api_Content (q 21) (q 22)), ld 24 T_api_Content 23, mv 25 0, mv 26 8, i' 27 (.indexAddr T_sl_api_Content (q 25) (q 26)), ld 28 T_api_Content 27, ca 29 n_r10_SameContent #[q 24, q 28] #[T_api_Content, T_api_Content]]) (.cond (q 29) (rg 3 0 [29, 30, 31] [mv 30 7, bi 31 .add T_int (q 30) (ki 1) T_int, as' 7 31]) .skip))) (rg 3 0 [19, 20, 29] [mv 19 8, bi 20 .add T_int (q 19) (ki 1) T_int, as' 8 20])))
def c_r10_Win_L0 : C := .loop c_r10_Win_B0
/-- What is live at the loop's head: t0 l, t4 at, t5 most, t6 i, t7 n, t8 k -/
abbrev h_r10_Win_0 (t0 t4 t5 t6 t7 t8 : SV) : List SV := [t0, .bad, .bad, .bad, t4, t5, t6, t7, t8, .bad, .bad, .bad, .bad, .bad, .bad, .bad, .bad, .bad, .bad, .bad, .bad, .bad, .bad, .bad, .bad, .bad, .bad, .bad, .bad, .bad, .bad, .bad, .bad, .bad, .bad, .bad, .bad, .bad, .bad]
def c_r10_Win_B1 : C :=
  (.seq (.seq (rg 4 0 [9, 10, 11] [mv 9 6, mv 10 0, le' 11 10 T_sl_api_Content, bi 12 .lss T_int (q 9) (q 11) T_int]) (.cond (q 12) .skip (.exit 0))) (.seq (.block 1 (.seq (rg 1 0 [12] [i' 7 (.assign (ki 0))]) (.seq (.seq (rg 1 0 [] [i' 8 (.assign (ki 0))]) (.block 2 c_r10_Win_L0)) (.seq (rg 3 0 [8, 18, 32, 33] [mv 32 7, mv 33 5, bi 34 .gtr T_int (q 32) (q 33) T_int]) (.cond (q 34) (rg 4 0 [7, 34, 35, 36] [mv 35 6, mv 36 7, as' 4 35, as' 5 36]) .skip))))) (rg 3 0 [7, 13, 14, 34] [mv 13 6, bi 14 .add T_int (q 13) (ki 1) T_int, as' 6 14])))
def c_r10_Win_L1 : C := .loop c_r10_Win_B1
/-- What is live at the loop's head: t0 l, t4 at, t5 most, t6 i -/
abbrev h_r10_Win_1 (t0 t4 t5 t6 : SV) : List SV := [t0, .bad, .bad, .bad, t4, t5, t6, .bad, .bad, .bad, .bad, .bad, .bad, .bad, .bad, .bad, .bad, .bad, .bad, .bad, .bad, .bad, .bad, .bad, .bad, .bad, .bad, .bad, .bad, .bad, .bad, .bad, .bad, .bad, .bad, .bad, .bad, .bad, .bad]
def c_r10_Win : C :=
  (.seq (rg 2 0 [2, 3] [i' 2 (.assign (ki 0)), i' 3 (.assign (ki 0))]) (.seq (rg 2 0 [] [i' 4 (.assign (ki (-1))), i' 5 (.assign (ki 0))]) (.seq (.seq (rg 1 0 [] [i' 6 (.assign (ki 0))]) (.block 0 c_r10_Win_L1)) (.seq (rg 4 0 [0, 4, 5, 6, 12, 37, 38] [mv 37 4, mv 38 5, as' 2 37, as' 3 38]) .ret))))
theorem ok_r10_Win : Try.f19.body.map (comp ES n_r10_Win) = some c_r10_Win := by kernel_rfl
theorem b_r10_Win (t0 : SV) (M : Mem) : ICw ES n_r10_Win [t0] M = endS ES [.tmp 2, .tmp 3] (evW ES n_r10_Win c_r10_Win ⟨[t0, .bad, .bad, .bad, .bad, .bad, .bad, .bad, .bad, .bad, .bad, .bad, .bad, .bad, .bad, .bad, .bad, .bad, .bad, .bad, .bad, .bad, .bad, .bad, .bad, .bad, .bad, .bad, .bad, .bad, .bad, .bad, .bad, .bad, .bad, .bad, .bad, .bad, .bad], M⟩) :=
  ICw_run rfl Try.func19 ok_r10_Win (by kernel_rfl) (by kernel_rfl) (by kernel_rfl) M
@[simp] theorem x_r10_Win_r10_SameContent : CX ES n_r10_Win n_r10_SameContent := cx rfl

/-! drumline/drumlineref10.SameContent -/
def c_r10_SameContent : C :=
  (.seq (rg 3 3 [] [i' 2 (.box T_api_Content (q 0)), i' 3 (.box T_api_Content (q 1)), i' 4 (.assign (kb false))]) (.seq (rg 13 0 [] [fa 5 T_api_Content 2 0, ld 6 T_int64 5, fa 7 T_api_Content 3 0, ld 8 T_int64 7, bi 9 .eql T_int64 (q 6) (q 8) T_int64, mv 10 9, gd 10 true (fa 11 T_api_Content 2 1), gd 10 true (ld 12 T_sl_int 11), gd 10 true (fa 13 T_api_Content 3 1), gd 10 true (ld 14 T_sl_int 13), gd 10 true (ca 15 n_r1_SameInts #[q 12, q 14] #[T_sl_int, T_sl_int]), i' 16 (.pick (q 10) (q 15) (kb false)), as' 4 16]) .ret))
theorem ok_r10_SameContent : Try.f20.body.map (comp ES n_r10_SameContent) = some c_r10_SameContent := by kernel_rfl
theorem b_r10_SameContent (t0 t1 : SV) (M : Mem) : ICw ES n_r10_SameContent [t0, t1] M = endS ES [.tmp 4] (evW ES n_r10_SameContent c_r10_SameContent ⟨[t0, t1, .bad, .bad, .bad, .bad, .bad, .bad, .bad, .bad, .bad, .bad, .bad, .bad, .bad, .bad, .bad], M⟩) :=
  ICw_run rfl Try.func20 ok_r10_SameContent (by kernel_rfl) (by kernel_rfl) (by kernel_rfl) M
@[simp] theorem x_r10_SameContent_r1_SameInts : CX ES n_r10_SameContent n_r1_SameInts := cx rfl

/-! drumline/drumlineref10.CopyHeard -/
def c_r10_CopyHeard : C :=
  (.seq (rg 2 2 [] [i' 1 (.box T_api_Heard (q 0)), i' 2 (.alloc T_api_Heard)]) (.seq (rg 7 0 [] [fa 3 T_api_Heard 1 1, fa 4 T_api_Frame 3 9, ld 5 T_sl_int 4, ca 6 n_r1_Ints #[q 5] #[T_sl_int], fa 7 T_api_Heard 1 1, fa 8 T_api_Frame 7 9, ⟨none, .store T_sl_int (q 8) (q 6), none, none⟩]) (.seq (rg 7 0 [] [fa 9 T_api_Heard 1 1, fa 10 T_api_Frame 9 13, ld 11 T_sl_uint8 10, ca 12 n_r1_Copy #[q 11] #[T_sl_uint8], fa 13 T_api_Heard 1 1, fa 14 T_api_Frame 13 13, ⟨none, .store T_sl_uint8 (q 14) (q 12), none, none⟩]) (.seq (rg 2 0 [] [ld 15 T_api_Heard 1, ⟨none, .store T_api_Heard (q 2) (q 15), none, none⟩]) .ret))))
theorem ok_r10_CopyHeard : Try.f21.body.map (comp ES n_r10_CopyHeard) = some c_r10_CopyHeard := by kernel_rfl
theorem b_r10_CopyHeard (t0 : SV) (M : Mem) : ICw ES n_r10_CopyHeard [t0] M = endS ES [.cell 2 T_api_Heard] (evW ES n_r10_CopyHeard c_r10_CopyHeard ⟨[t0, .bad, .bad, .bad, .bad, .bad, .bad, .bad, .bad, .bad, .bad, .bad, .bad, .bad, .bad, .bad], M⟩) :=
  ICw_run rfl Try.func21 ok_r10_CopyHeard (by kernel_rfl) (by kernel_rfl) (by kernel_rfl) M
@[simp] theorem x_r10_CopyHeard_r1_Ints : CX ES n_r10_CopyHeard n_r1_Ints := cx rfl
@[simp] theorem x_r10_CopyHeard_r1_Copy : CX ES n_r10_CopyHeard n_r1_Copy := cx rfl

/-! drumline/vote.count -/
def c_vote_count_B0 : C :=
  (.seq (rg 1 0 [] [bi 11 .lss T_int (q 10) (q 9) T_int]) (.seq (.cond (q 11) .skip (.exit 0)) (.seq (.block 1 (.seq (rg 4 4 [11, 12, 13] [i' 12 (.indexAddr T_sl_api_Content (q 8) (q 10)), ld 13 T_api_Content 12, i' 7 (.alloc T_api_Content), ⟨none, .store T_api_Content (q 7) (q 13), none, none⟩]) (.seq (rg 3 0 [7, 14, 15] [ld 14 T_api_Content 3, ld 15 T_api_Content 7, ca 16 n_vote_Same #[q 14, q 15] #[T_api_Content, T_api_Content]]) (.cond (q 16) (rg 3 0 [16, 17, 18] [mv 17 5, bi 18 .add T_int (q 17) (ki 1) T_int, as' 5 18]) .skip)))) (rg 2 0 [16, 19] [bi 19 .add T_int (q 10) (ki 1) T_int, mv 10 19]))))
def c_vote_count_L0 : C := .loop c_vote_count_B0
/-- What is live at the loop's head: t3 x, t5 n, t8, t9, t10 -/
abbrev h_vote_count_0 (t3 t5 t8 t9 t10 : SV) : List SV := [.bad, .bad, .bad, t3, .bad, t5, .bad, .bad, t8, t9, t10, .bad, .bad, .bad, .bad, .bad, .bad, .bad, .bad, .bad, .bad]
def c_vote_count : C :=
  (.seq (rg 2 2 [1, 4] [i' 3 (.box T_api_Content (q 1)), i' 4 (.assign (ki 0))]) (.seq (rg 1 0 [] [i' 5 (.assign (ki 0))]) (.seq (.seq (rg 3 0 [0] [mv 8 0, le' 9 8 T_sl_api_Content, i' 10 (.move (ki 0))]) (.block 0 c_vote_count_L0)) (.seq (rg 2 0 [3, 5, 8, 9, 10, 11, 20] [mv 20 5, as' 4 20]) .ret))))
theorem ok_vote_count : Try.f22.body.map (comp ES n_vote_count) = some c_vote_count := by kernel_rfl
theorem b_vote_count (t0 t1 : SV) (M : Mem) : ICw ES n_vote_count [t0, t1] M = endS ES [.tmp 4] (evW ES n_vote_count c_vote_count ⟨[t0, t1, .bad, .bad, .bad, .bad, .bad, .bad, .bad, .bad, .bad, .bad, .bad, .bad, .bad, .bad, .bad, .bad, .bad, .bad, .bad], M⟩) :=
  ICw_run rfl Try.func22 ok_vote_count (by kernel_rfl) (by kernel_rfl) (by kernel_rfl) M
@[simp] theorem x_vote_count_vote_Same : CX ES n_vote_count n_vote_Same := cx rfl

/-! slices.Equal[[]int,int] -/
def c_slices_Equal_sl_int_int_B0 : C :=
  (.seq (rg 1 0 [] [bi 14 .lss T_int (q 13) (q 12) T_int]) (.seq (.cond (q 14) .skip (.exit 0)) (.seq (.block 1 (.seq (rg 2 0 [14, 15] [mv 15 13, as' 5 15]) (.seq (rg 9 0 [5, 16, 17, 18, 19, 20, 21, 22, 23] [mv 16 0, mv 17 5, i' 18 (.indexAddr T_sl_int (q 16) (q 17)), ld 19 T_int 18, mv 20 1, mv 21 5, i' 22 (.indexAddr T_sl_int (q 20) (q 21)), ld 23 T_int 22, bi 24 .neq T_int (q 19) (q 23) T_int]) (.cond (q 24) (.seq (rg 1 0 [0, 1, 12, 13, 24] [i' 4 (.assign (kb false))]) .ret) .skip)))) (rg 2 0 [24, 25] [bi 25 .add T_int (q 13) (ki 1) T_int, mv 13 25]))))
def c_slices_Equal_sl_int_int_L0 : C := .loop c_slices_Equal_sl_int_int_B0
/-- What is live at the loop's head: t0 s1, t1 s2, t12, t13 -/
abbrev h_slices_Equal_sl_int_int_0 (t0 t1 t12 t13 : SV) : List SV := [t0, t1, .bad, .bad, .bad, .bad, .bad, .bad, .bad, .bad, .bad, .bad, t12, t13, .bad, .bad, .bad, .bad, .bad, .bad, .bad, .bad, .bad, .bad, .bad, .bad]
def c_slices_Equal_sl_int_int : C :=
  (.seq (rg 1 0 [4] [i' 4 (.assign (kb false))]) (.seq (.seq (rg 5 0 [6, 7, 8, 9] [mv 6 0, le' 7 6 T_sl_int, mv 8 1, le' 9 8 T_sl_int, bi 10 .neq T_int (q 7) (q 9) T_int]) (.cond (q 10) (.seq (rg 1 0 [0, 1, 10] [i' 4 (.assign (kb false))]) .ret) .skip)) (.seq (.seq (rg 3 0 [10, 11] [mv 11 0, le' 12 11 T_sl_int, i' 13 (.move (ki 0))]) (.block 0 c_slices_Equal_sl_int_int_L0)) (.seq (rg 1 0 [0, 1, 12, 13, 14] [i' 4 (.assign (kb true))]) .ret))))
theorem ok_slices_Equal_sl_int_int : Try.f23.body.map (comp ES n_slices_Equal_sl_int_int) = some c_slices_Equal_sl_int_int := by kernel_rfl
theorem b_slices_Equal_sl_int_int (t0 t1 : SV) (M : Mem) : ICw ES n_slices_Equal_sl_int_int [t0, t1] M = endS ES [.tmp 4] (evW ES n_slices_Equal_sl_int_int c_slices_Equal_sl_int_int ⟨[t0, t1, .bad, .bad, .bad, .bad, .bad, .bad, .bad, .bad, .bad, .bad, .bad, .bad, .bad, .bad, .bad, .bad, .bad, .bad, .bad, .bad, .bad, .bad, .bad, .bad], M⟩) :=
  ICw_run rfl Try.func23 ok_slices_Equal_sl_int_int (by kernel_rfl) (by kernel_rfl) (by kernel_rfl) M

/-! drumline/vote.clone -/
def c_vote_clone : C :=
  (.seq (rg 2 2 [] [i' 1 (.box T_api_Heard (q 0)), i' 2 (.alloc T_api_Heard)]) (.seq (rg 14 0 [] [fa 3 T_api_Heard 1 1, fa 4 T_api_Frame 3 9, ld 5 T_sl_int 4, ca 6 n_slices_Clone_sl_int_int #[q 5] #[T_sl_int], fa 7 T_api_Heard 1 1, fa 8 T_api_Frame 7 13, ld 9 T_sl_uint8 8, ca 10 n_slices_Clone_sl_byte_byte #[q 9] #[T_sl_uint8], fa 11 T_api_Heard 1 1, fa 12 T_api_Frame 11 9, ⟨none, .store T_sl_int (q 12) (q 6), none, none⟩, fa 13 T_api_Heard 1 1, fa 14 T_api_Frame 13 13, ⟨none, .store T_sl_uint8 (q 14) (q 10), none, none⟩]) (.seq (rg 2 0 [] [ld 15 T_api_Heard 1, ⟨none, .store T_api_Heard (q 2) (q 15), none, none⟩]) .ret)))
theorem ok_vote_clone : Try.f24.body.map (comp ES n_vote_clone) = some c_vote_clone := by kernel_rfl
theorem b_vote_clone (t0 : SV) (M : Mem) : ICw ES n_vote_clone [t0] M = endS ES [.cell 2 T_api_Heard] (evW ES n_vote_clone c_vote_clone ⟨[t0, .bad, .bad, .bad, .bad, .bad, .bad, .bad, .bad, .bad, .bad, .bad, .bad, .bad, .bad, .bad], M⟩) :=
  ICw_run rfl Try.func24 ok_vote_clone (by kernel_rfl) (by kernel_rfl) (by kernel_rfl) M
@[simp] theorem x_vote_clone_slices_Clone_sl_int_int : CX ES n_vote_clone n_slices_Clone_sl_int_int := cx rfl
@[simp] theorem x_vote_clone_slices_Clone_sl_byte_byte : CX ES n_vote_clone n_slices_Clone_sl_byte_byte := cx rfl

/-! slices.Clone[[]int,int] -/
def c_slices_Clone_sl_int_int : C :=
  (.seq (rg 1 0 [] [i' 2 (.assign (.const (.slice none 0 0)))]) (.seq (.seq (rg 2 0 [] [mv 3 0, bi 4 .eql T_sl_int (q 3) (.const (.slice none 0 0)) T_sl_int]) (.cond (q 4) (.seq (rg 1 0 [] [i' 2 (.assign (.const (.slice none 0 0)))]) .ret) .skip)) (.seq (rg 4 4 [] [i' 5 (.buildSlice T_sl_int 0 #[]), mv 6 0, i' 7 (.call { callee := .builtin .append, args := #[q 5, q 6], argTypes := #[T_sl_int, T_sl_int] }), as' 2 7]) .ret)))
theorem ok_slices_Clone_sl_int_int : Try.f25.body.map (comp ES n_slices_Clone_sl_int_int) = some c_slices_Clone_sl_int_int := by kernel_rfl
theorem b_slices_Clone_sl_int_int (t0 : SV) (M : Mem) : ICw ES n_slices_Clone_sl_int_int [t0] M = endS ES [.tmp 2] (evW ES n_slices_Clone_sl_int_int c_slices_Clone_sl_int_int ⟨[t0, .bad, .bad, .bad, .bad, .bad, .bad, .bad], M⟩) :=
  ICw_run rfl Try.func25 ok_slices_Clone_sl_int_int (by kernel_rfl) (by kernel_rfl) (by kernel_rfl) M

/-! drumline/drumlineref1.Ints -/
def c_r1_Ints : C :=
  (.seq (rg 1 0 [] [i' 2 (.assign (.const (.slice none 0 0)))]) (.seq (rg 3 3 [] [mv 3 0, i' 4 (.call { callee := .builtin .append, args := #[.const (.slice none 0 0), q 3], argTypes := #[T_sl_int, T_sl_int] }), as' 2 4]) .ret))
theorem ok_r1_Ints : Try.f26.body.map (comp ES n_r1_Ints) = some c_r1_Ints := by kernel_rfl
theorem b_r1_Ints (t0 : SV) (M : Mem) : ICw ES n_r1_Ints [t0] M = endS ES [.tmp 2] (evW ES n_r1_Ints c_r1_Ints ⟨[t0, .bad, .bad, .bad, .bad], M⟩) :=
  ICw_run rfl Try.func26 ok_r1_Ints (by kernel_rfl) (by kernel_rfl) (by kernel_rfl) M

/-! drumline/drumlineref1.Copy -/
def c_r1_Copy : C :=
  (.seq (rg 1 0 [] [i' 2 (.assign (.const (.slice none 0 0)))]) (.seq (rg 3 3 [] [mv 3 0, i' 4 (.call { callee := .builtin .append, args := #[.const (.slice none 0 0), q 3], argTypes := #[T_sl_uint8, T_sl_uint8] }), as' 2 4]) .ret))
theorem ok_r1_Copy : Try.f27.body.map (comp ES n_r1_Copy) = some c_r1_Copy := by kernel_rfl
theorem b_r1_Copy (t0 : SV) (M : Mem) : ICw ES n_r1_Copy [t0] M = endS ES [.tmp 2] (evW ES n_r1_Copy c_r1_Copy ⟨[t0, .bad, .bad, .bad, .bad], M⟩) :=
  ICw_run rfl Try.func27 ok_r1_Copy (by kernel_rfl) (by kernel_rfl) (by kernel_rfl) M

/-! slices.Clone[[]byte,byte] -/
def c_slices_Clone_sl_byte_byte : C :=
  (.seq (rg 1 0 [] [i' 2 (.assign (.const (.slice none 0 0)))]) (.seq (.seq (rg 2 0 [] [mv 3 0, bi 4 .eql T_sl_uint8 (q 3) (.const (.slice none 0 0)) T_sl_uint8]) (.cond (q 4) (.seq (rg 1 0 [] [i' 2 (.assign (.const (.slice none 0 0)))]) .ret) .skip)) (.seq (rg 4 4 [] [i' 5 (.buildSlice T_sl_uint8 0 #[]), mv 6 0, i' 7 (.call { callee := .builtin .append, args := #[q 5, q 6], argTypes := #[T_sl_uint8, T_sl_uint8] }), as' 2 7]) .ret)))
theorem ok_slices_Clone_sl_byte_byte : Try.f28.body.map (comp ES n_slices_Clone_sl_byte_byte) = some c_slices_Clone_sl_byte_byte := by kernel_rfl
theorem b_slices_Clone_sl_byte_byte (t0 : SV) (M : Mem) : ICw ES n_slices_Clone_sl_byte_byte [t0] M = endS ES [.tmp 2] (evW ES n_slices_Clone_sl_byte_byte c_slices_Clone_sl_byte_byte ⟨[t0, .bad, .bad, .bad, .bad, .bad, .bad, .bad], M⟩) :=
  ICw_run rfl Try.func28 ok_slices_Clone_sl_byte_byte (by kernel_rfl) (by kernel_rfl) (by kernel_rfl) M
end Go.Proofs.Ytaldchogcingbaa
