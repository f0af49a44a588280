/-
  The seat's types and environment (printed by a program of the claim's own).
-/
import Derived.Test.YtaldchogcingbaaRows
import Derived.Test.YtaldchogcingbaaShMb
set_option linter.unusedVariables false
set_option maxRecDepth 100000
namespace Go.Proofs.Ytaldchogcingbaa
open Go.Proofs.Ytaldchogcingbaa.Sh
def n_l14_VoteFaults : Nat := 3
def n_l14_VoteBackers : Nat := 4
def n_l14_alive : Nat := 5
def n_l14_few : Nat := 6
def n_vote_Backers : Nat := 7
def n_vote_Enough : Nat := 8
def n_r1_SameInts : Nat := 9
def n_r10_SameHeard : Nat := 10
def n_r10_Backers : Nat := 11
def n_vote_Mask : Nat := 12
def n_r10_Mask : Nat := 13
def n_vote_Win : Nat := 14
def n_vote_Same : Nat := 15
def n_vote_Kind : Nat := 16
def n_vote_Of : Nat := 17
def n_r1_Same : Nat := 18
def n_r10_Win : Nat := 19
def n_r10_SameContent : Nat := 20
def n_r10_CopyHeard : Nat := 21
def n_vote_count : Nat := 22
def n_slices_Equal_sl_int_int : Nat := 23
def n_vote_clone : Nat := 24
def n_slices_Clone_sl_int_int : Nat := 25
def n_r1_Ints : Nat := 26
def n_r1_Copy : Nat := 27
def n_slices_Clone_sl_byte_byte : Nat := 28
def T_ : Nat := 0
def T_func : Nat := 1
def T_int64 : Nat := 2
def T_int : Nat := 3
def T_bool : Nat := 4
def T_uint8 : Nat := 5
def T_internal_abi_BoundsErrorCode : Nat := 6
def T_struct_x_int64_y_int_signed_bool_code_abi_BoundsErrorCode : Nat := 7
def T_runtime_boundsError : Nat := 8
def T_string : Nat := 9
def T_runtime_errorString : Nat := 10
def T_runtime_plainError : Nat := 11
def T_uintptr : Nat := 12
def T_struct_msg_string_addr_uintptr : Nat := 13
def T_p_runtime_TypeAssertionError : Nat := 15
def T_sl_int : Nat := 22
def T_sl_api_Heard : Nat := 23
def T_sl_uint8 : Nat := 26
def T_api_Frame : Nat := 28
def T_api_Heard : Nat := 30
def T_api_Content : Nat := 38
def T_sl_api_Content : Nat := 41
def T_uint : Nat := 47
def deadTab : List (Nat × List (Nat × List Nat)) :=
  [(3, [(0, [10]), (1, [4, 17, 18, 19]), (2, [20, 21, 22, 23, 24, 25, 26, 27, 28, 29, 30, 31, 32, 33, 34, 35, 36]), (3, [0, 1, 2, 3, 11, 37, 38]), (4, [2, 37, 39, 40, 41, 42, 43, 44, 45]), (6, [3, 46, 47, 48]), (8, [49, 50]), (10, [51, 54, 55, 56, 57, 58, 59, 60, 61, 62, 63]), (9, [52, 53]), (11, [13, 14, 51, 64, 65]), (12, [11, 12, 66, 67, 68, 69, 70, 71, 72, 73, 74, 75]), (13, [0, 1, 15, 76]), (14, [76]), (15, [77, 78, 79]), (17, [80, 83, 84, 85, 86, 87, 88, 89, 90, 91, 92, 93, 94, 95, 96, 97, 98, 99, 100]), (18, [0, 1, 15, 16, 101]), (16, [81, 82, 101]), (19, [0, 1, 15, 16, 80])]),
   (4, []),
   (5, []),
   (6, [(0, [2]), (1, [4, 5]), (2, [0, 6]), (3, [6]), (4, [7, 8, 9]), (6, [10, 13, 14, 15, 16, 17, 18, 19, 20, 21, 22, 23, 24, 25, 26, 27, 28, 29]), (7, [0, 3, 30]), (5, [11, 12, 30]), (8, [0, 3, 10])]),
   (7, [(0, [2]), (1, [11, 12]), (5, [16, 17, 18]), (6, [5, 19, 20, 21, 22, 23, 24]), (7, [25]), (8, [7, 13, 14, 15, 16, 26, 27, 28, 29, 30]), (10, [0]), (12, [34, 35, 36, 37]), (13, [9, 38, 39, 40, 41, 42, 43, 44, 45]), (14, [10, 46, 47, 48, 49, 50]), (15, [10, 46, 51]), (16, [3, 6, 8, 31, 32, 33, 34, 52])]),
   (8, []),
   (9, [(0, [4]), (1, [6, 7, 8, 9]), (2, [0, 1, 10]), (3, [10]), (4, [11, 12, 13]), (6, [14, 17, 18, 19, 20, 21, 22, 23, 24]), (7, [0, 1, 5, 25]), (5, [15, 16, 25]), (8, [0, 1, 5, 14])]),
   (10, [(0, [4]), (1, [6, 7, 8, 9]), (2, [0, 1, 10]), (3, [10]), (4, [11, 12, 13]), (6, [14, 17, 18, 19, 20, 21, 22, 23, 24, 25, 26, 27, 28, 29, 30, 31, 32, 33, 34, 35, 36, 37, 38, 39, 40, 41, 42, 43, 44, 45, 46, 47, 48, 49, 50, 51, 52, 53]), (7, [0, 1, 5, 54]), (5, [15, 16, 54]), (8, [0, 1, 5, 14])]),
   (11, [(0, [2]), (4, [10, 11, 12]), (6, [13, 16, 17, 18, 19, 20, 21]), (7, [22, 23, 24, 25, 26, 27, 28, 29]), (8, [30, 31, 32, 33, 34, 35, 36, 37, 38, 39, 40, 41, 42, 43, 44, 45]), (5, [14, 15, 22]), (9, [0, 5, 7, 13, 46, 47, 48, 49, 50]), (12, [51, 52, 53]), (14, [54, 57, 58, 59, 60, 61, 62, 63, 64]), (15, [65, 66, 67, 68, 69, 70, 71, 72, 73]), (13, [55, 56, 65]), (16, [3, 4, 6, 8, 9, 54, 74])]),
   (12, [(0, [2]), (2, [0]), (4, [10, 11, 12]), (5, [5, 13, 14, 15]), (6, [16, 17, 18, 19, 20]), (7, [6, 21, 22, 23, 24, 25]), (8, [6, 21, 26]), (9, [3, 7, 8, 9, 10, 27])]),
   (13, [(0, [2]), (3, [6, 7, 8]), (5, [9, 12, 13, 14, 15, 16, 17]), (6, [18, 19, 20, 21, 22]), (7, [5, 23, 24, 25, 26, 27, 28]), (4, [5, 10, 11, 23]), (8, [0, 3, 4, 9, 29])]),
   (14, [(0, [2, 3]), (4, [12, 13, 14, 15]), (5, [7, 16, 17, 18]), (6, [19, 20]), (7, [6, 8, 21, 22, 23]), (8, [6, 8, 21, 24]), (9, [0, 4, 5, 9, 10, 11, 12, 25, 26])]),
   (15, []),
   (16, [(0, [4]), (2, [0]), (4, [11, 12, 13]), (5, [14, 15, 16, 17]), (6, [7, 18, 19, 20, 21, 22, 23]), (7, [7, 18, 24]), (8, [1, 5, 8, 9, 10, 11, 25])]),
   (17, []),
   (18, []),
   (19, [(0, [2, 3]), (3, [9, 10, 11]), (5, [12]), (7, [15, 16, 17]), (9, [18, 21, 22, 23, 24, 25, 26, 27, 28]), (10, [29, 30, 31]), (8, [19, 20, 29]), (11, [8, 18, 32, 33]), (12, [7, 34, 35, 36]), (4, [7, 13, 14, 34]), (13, [0, 4, 5, 6, 12, 37, 38])]),
   (20, []),
   (21, []),
   (22, [(0, [1, 4]), (2, [0]), (4, [11, 12, 13]), (5, [7, 14, 15]), (6, [16, 17, 18]), (7, [16, 19]), (8, [3, 5, 8, 9, 10, 11, 20])]),
   (23, [(0, [4]), (1, [6, 7, 8, 9]), (2, [0, 1, 10]), (3, [10, 11]), (5, [14, 15]), (6, [5, 16, 17, 18, 19, 20, 21, 22, 23]), (7, [0, 1, 12, 13, 24]), (8, [24, 25]), (9, [0, 1, 12, 13, 14])]),
   (24, []),
   (25, []),
   (26, []),
   (27, []),
   (28, [])]
def impTab : List (Nat × Nat) := []
def primOf : Nat → Option (List SV → Mem → Option (SV × Mem)) := fun f => none
noncomputable def ES : Env := { P := Try.prog, G := fun _ => none, prim := primOf, imp := fun a b => impTab.contains (a, b), dead := fun me id => (((deadTab.lookup me).getD []).lookup id).getD [], raw := fun _ => none, sent := fun _ => false }
theorem npF {f : Nat} (h : ((primOf f).isNone && impTab.all fun p => p.2 != f) = true) : ∀ me, ((ES.prim f).isSome || ES.imp me f) = false := by
  intro me
  have h1 : ES.prim f = primOf f := rfl
  have h2 : ES.imp me f = impTab.contains (me, f) := rfl
  rw [h1, h2]
  simp only [Bool.and_eq_true, List.all_eq_true] at h
  obtain ⟨h3, h4⟩ := h
  have h5 : impTab.contains (me, f) = false := by
    cases hc : impTab.contains (me, f) with
    | false => rfl
    | true =>
      have := h4 _ (List.contains_iff_mem.1 hc)
      simp at this
  rw [h5]
  cases hp : primOf f with
  | none => rfl
  | some p => rw [hp] at h3; cases h3
@[simp] theorem sn_ : ES.sent T_ = false := by rfl
@[simp] theorem sn_func : ES.sent T_func = false := by rfl
@[simp] theorem sn_int64 : ES.sent T_int64 = false := by rfl
@[simp] theorem sn_int : ES.sent T_int = false := by rfl
@[simp] theorem sn_bool : ES.sent T_bool = false := by rfl
@[simp] theorem sn_uint8 : ES.sent T_uint8 = false := by rfl
@[simp] theorem sn_internal_abi_BoundsErrorCode : ES.sent T_internal_abi_BoundsErrorCode = false := by rfl
@[simp] theorem sn_struct_x_int64_y_int_signed_bool_code_abi_BoundsErrorCode : ES.sent T_struct_x_int64_y_int_signed_bool_code_abi_BoundsErrorCode = false := by rfl
@[simp] theorem sn_runtime_boundsError : ES.sent T_runtime_boundsError = false := by rfl
@[simp] theorem sn_string : ES.sent T_string = false := by rfl
@[simp] theorem sn_runtime_errorString : ES.sent T_runtime_errorString = false := by rfl
@[simp] theorem sn_runtime_plainError : ES.sent T_runtime_plainError = false := by rfl
@[simp] theorem sn_uintptr : ES.sent T_uintptr = false := by rfl
@[simp] theorem sn_struct_msg_string_addr_uintptr : ES.sent T_struct_msg_string_addr_uintptr = false := by rfl
@[simp] theorem sn_p_runtime_TypeAssertionError : ES.sent T_p_runtime_TypeAssertionError = false := by rfl
@[simp] theorem sn_sl_int : ES.sent T_sl_int = false := by rfl
@[simp] theorem sn_sl_api_Heard : ES.sent T_sl_api_Heard = false := by rfl
@[simp] theorem sn_sl_uint8 : ES.sent T_sl_uint8 = false := by rfl
@[simp] theorem sn_api_Frame : ES.sent T_api_Frame = false := by rfl
@[simp] theorem sn_api_Heard : ES.sent T_api_Heard = false := by rfl
@[simp] theorem sn_api_Content : ES.sent T_api_Content = false := by rfl
@[simp] theorem sn_sl_api_Content : ES.sent T_sl_api_Content = false := by rfl
@[simp] theorem sn_uint : ES.sent T_uint = false := by rfl
@[simp] theorem ti_ : tiOf ES.P T_ = some ⟨.other, 1, 0, (some (.tup []))⟩ := by kernel_rfl
@[simp] theorem ti_func : tiOf ES.P T_func = some ⟨.func, 1, 8, (some .nilf)⟩ := by kernel_rfl
@[simp] theorem ti_int64 : tiOf ES.P T_int64 = some ⟨(.int .i64), 1, 8, (some (.int .i64 0))⟩ := by kernel_rfl
@[simp] theorem ti_int : tiOf ES.P T_int = some ⟨(.int .i64), 1, 8, (some (.int .i64 0))⟩ := by kernel_rfl
@[simp] theorem ti_bool : tiOf ES.P T_bool = some ⟨.bool, 1, 1, (some (.bool false))⟩ := by kernel_rfl
@[simp] theorem ti_uint8 : tiOf ES.P T_uint8 = some ⟨(.int .u8), 1, 1, (some (.int .u8 0))⟩ := by kernel_rfl
@[simp] theorem ti_internal_abi_BoundsErrorCode : tiOf ES.P T_internal_abi_BoundsErrorCode = some ⟨(.int .u8), 1, 1, (some (.int .u8 0))⟩ := by kernel_rfl
@[simp] theorem ti_struct_x_int64_y_int_signed_bool_code_abi_BoundsErrorCode : tiOf ES.P T_struct_x_int64_y_int_signed_bool_code_abi_BoundsErrorCode = some ⟨(.struct [(T_int64, 0), (T_int, 1), (T_bool, 2), (T_internal_abi_BoundsErrorCode, 3)]), 4, 24, (some (.agg [(.int .i64 0), (.int .i64 0), (.bool false), (.int .u8 0)]))⟩ := by kernel_rfl
@[simp] theorem ti_runtime_boundsError : tiOf ES.P T_runtime_boundsError = some ⟨(.struct [(T_int64, 0), (T_int, 1), (T_bool, 2), (T_internal_abi_BoundsErrorCode, 3)]), 4, 24, (some (.agg [(.int .i64 0), (.int .i64 0), (.bool false), (.int .u8 0)]))⟩ := by kernel_rfl
@[simp] theorem ti_string : tiOf ES.P T_string = some ⟨.str, 1, 16, (some (.str ByteArray.empty))⟩ := by kernel_rfl
@[simp] theorem ti_runtime_errorString : tiOf ES.P T_runtime_errorString = some ⟨.str, 1, 16, (some (.str ByteArray.empty))⟩ := by kernel_rfl
@[simp] theorem ti_runtime_plainError : tiOf ES.P T_runtime_plainError = some ⟨.str, 1, 16, (some (.str ByteArray.empty))⟩ := by kernel_rfl
@[simp] theorem ti_uintptr : tiOf ES.P T_uintptr = some ⟨(.int .u64), 1, 8, (some (.int .u64 0))⟩ := by kernel_rfl
@[simp] theorem ti_struct_msg_string_addr_uintptr : tiOf ES.P T_struct_msg_string_addr_uintptr = some ⟨(.struct [(T_string, 0), (T_uintptr, 1)]), 2, 24, (some (.agg [(.str ByteArray.empty), (.int .u64 0)]))⟩ := by kernel_rfl
@[simp] theorem ti_p_runtime_TypeAssertionError : tiOf ES.P T_p_runtime_TypeAssertionError = some ⟨.ptr, 1, 8, (some .nilp)⟩ := by kernel_rfl
@[simp] theorem ti_sl_int : tiOf ES.P T_sl_int = some ⟨(.slice T_int), 1, 24, (some .nilsl)⟩ := by kernel_rfl
@[simp] theorem ti_sl_api_Heard : tiOf ES.P T_sl_api_Heard = some ⟨(.slice T_api_Heard), 1, 24, (some .nilsl)⟩ := by kernel_rfl
@[simp] theorem ti_sl_uint8 : tiOf ES.P T_sl_uint8 = some ⟨(.slice T_uint8), 1, 24, (some .nilsl)⟩ := by kernel_rfl
@[simp] theorem ti_api_Frame : tiOf ES.P T_api_Frame = some ⟨(.struct [(T_int, 0), (T_int, 1), (T_int, 2), (T_int, 3), (T_int, 4), (T_int, 5), (T_bool, 6), (T_int64, 7), (T_int64, 8), (T_sl_int, 9), (T_int, 10), (T_int, 11), (T_int64, 12), (T_sl_uint8, 13)]), 14, 144, (some (.agg [(.int .i64 0), (.int .i64 0), (.int .i64 0), (.int .i64 0), (.int .i64 0), (.int .i64 0), (.bool false), (.int .i64 0), (.int .i64 0), .nilsl, (.int .i64 0), (.int .i64 0), (.int .i64 0), .nilsl]))⟩ := by kernel_rfl
@[simp] theorem ti_api_Heard : tiOf ES.P T_api_Heard = some ⟨(.struct [(T_int, 0), (T_api_Frame, 1), (T_int64, 15)]), 16, 160, (some (.agg [(.int .i64 0), (.int .i64 0), (.int .i64 0), (.int .i64 0), (.int .i64 0), (.int .i64 0), (.int .i64 0), (.bool false), (.int .i64 0), (.int .i64 0), .nilsl, (.int .i64 0), (.int .i64 0), (.int .i64 0), .nilsl, (.int .i64 0)]))⟩ := by kernel_rfl
@[simp] theorem ti_api_Content : tiOf ES.P T_api_Content = some ⟨(.struct [(T_int64, 0), (T_sl_int, 1)]), 2, 32, (some (.agg [(.int .i64 0), .nilsl]))⟩ := by kernel_rfl
@[simp] theorem ti_sl_api_Content : tiOf ES.P T_sl_api_Content = some ⟨(.slice T_api_Content), 1, 24, (some .nilsl)⟩ := by kernel_rfl
@[simp] theorem ti_uint : tiOf ES.P T_uint = some ⟨(.int .u64), 1, 8, (some (.int .u64 0))⟩ := by kernel_rfl
end Go.Proofs.Ytaldchogcingbaa
