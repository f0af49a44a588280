/-
  The seat's types and environment (printed by a program of the claim's own).
-/
import Derived.Test.YtomlbmbgocmiiaaDoorRows
import Derived.Test.YtomlbmbgocmiiaaDoorShMb
set_option linter.unusedVariables false
set_option maxRecDepth 100000
namespace Go.Proofs.YtomlbmbgocmiiaaDoor
open Go.Proofs.YtomlbmbgocmiiaaDoor.Sh
def n_l12_GaugeTrue : Nat := 3
def n_l12_alive : Nat := 4
def n_r26_Made : Nat := 5
def n_gauge_Begin : Nat := 6
def n_clock_Real : Nat := 7
def n_bounds_Edge : Nat := 8
def n_gauge_Late : Nat := 9
def n_gauge_Spread : Nat := 10
def n_r26_joined : Nat := 11
def n_r5_Edge : Nat := 12
def n_ticks_Time : Nat := 13
def n_ticks_Scale : Nat := 14
def n_bounds_in : Nat := 15
def n_slices_ContainsFunc_sl_int64_int64 : Nat := 16
def n_gauge_Spread_1 : Nat := 17
def n_slices_Max_sl_int64_int64 : Nat := 18
def n_slices_Min_sl_int64_int64 : Nat := 19
def n_r26_ports : Nat := 20
def n_r5_ranged : Nat := 21
def n_r5_edge : Nat := 22
def n_ticks_Floor : Nat := 23
def n_plan_Right : Nat := 24
def n_bounds_ranged : Nat := 25
def n_bounds_Reckon : Nat := 26
def n_slices_IndexFunc_sl_int64_int64 : Nat := 27
def n_r5_Good : Nat := 28
def n_r5_out : Nat := 29
def n_r5_up : Nat := 30
def n_plan_Check : Nat := 31
def n_bounds_first : Nat := 32
def n_bounds_within : Nat := 33
def n_bounds_part : Nat := 34
def n_r5_Check : Nat := 35
def n_r5_is : Nat := 36
def n_r1_Ceil : Nat := 37
def n_plan_check : Nat := 38
def n_ticks_Ceil : Nat := 41
def n_r5_link : Nat := 42
def n_r5_dists : Nat := 43
def n_plan_parts : Nat := 44
def n_plan_links : Nat := 45
def n_slices_Index_sl_int_int : Nat := 46
def n_plan_Dists : Nat := 47
def n_plan_wrong : Nat := 48
def n_r5_ends : Nat := 55
def n_plan_index : Nat := 56
def n_slices_ContainsFunc_sl_api_Link_api_Link : Nat := 57
def n_plan_links_1 : Nat := 58
def n_plan_ports : Nat := 59
def n_slices_Repeat_sl_int_int : Nat := 60
def n_r5_port : Nat := 63
def n_slices_IndexFunc_sl_api_Link_api_Link : Nat := 64
def n_plan_end : Nat := 65
def n_plan_taken : Nat := 66
def n_math_bits_Mul : Nat := 67
def n_plan_taken_1 : Nat := 68
def n_math_bits_Mul32 : Nat := 69
def n_math_bits_Mul64 : Nat := 70
def n_p_plan_fault_Unwrap : Nat := 89
def n_errors_As : Nat := 39
def n_errors_Is : Nat := 40
def T_ : Nat := 0
def T_func : Nat := 1
def T_int64 : Nat := 2
def T_int : Nat := 3
def T_bool : Nat := 4
def T_uint8 : Nat := 5
def T_internal_abi_BoundsErrorCode : Nat := 6
def T_struct_x_int64_y_int_signed_bool_code_abi_BoundsErrorCode : Nat := 7
def T_runtime_boundsError : Nat := 8
def T_string : Nat := 9
def T_runtime_errorString : Nat := 10
def T_runtime_plainError : Nat := 11
def T_uintptr : Nat := 12
def T_interface : Nat := 20
def T_a2_int : Nat := 22
def T_uint16 : Nat := 23
def T_sl_api_Part : Nat := 25
def T_sl_api_Link : Nat := 26
def T_api_Config : Nat := 28
def T_sl_int64 : Nat := 37
def T_uint : Nat := 38
def T_api_Part : Nat := 40
def T_api_Link : Nat := 42
def T_p_api_Config : Nat := 44
def T_func_int64_bool : Nat := 45
def T_bounds_Numbers : Nat := 48
def T_api_Errno : Nat := 59
def T_error : Nat := 68
def T_p_plan_fault : Nat := 70
def T_p_p_plan_fault : Nat := 72
def T_sl_api_Errno : Nat := 73
def T_plan_code : Nat := 75
def T_plan_fault : Nat := 77
def T_sl_bool : Nat := 78
def T_sl_int : Nat := 80
def T_func_api_Link_bool : Nat := 100
def T_sl_a2_int : Nat := 102
def T_api_Port : Nat := 120
def T_uint32 : Nat := 129
def T_uint64 : Nat := 132
def g_errors_errorType : Nat := 0
def deadTab : List (Nat × List (Nat × List Nat)) :=
  [(3, []),
   (4, []),
   (5, [(1, [10, 11]), (2, [12, 13, 14]), (3, [15, 16, 17]), (4, [18, 19, 20, 21, 22, 23, 24, 25, 26, 27, 28, 29, 30]), (6, [31, 32]), (8, [33, 36, 37, 38, 39, 40, 41]), (7, [34, 35]), (9, [6, 33]), (10, [42, 43]), (12, [44, 47, 48]), (13, [49]), (14, [50]), (15, [8, 50, 51, 52, 53, 54, 55, 56, 57, 58]), (11, [45, 46]), (16, [4, 7, 44, 59, 60, 61, 62, 63]), (17, [64, 65, 66, 67, 68, 69, 70, 71, 72]), (18, [64, 73, 74, 75, 76, 77, 78]), (19, [3, 79, 80, 81, 82, 83, 84, 85, 86, 87, 88, 89, 90]), (20, [0, 91, 92, 93, 94, 95, 96]), (21, [9, 97, 98]), (22, [99, 100, 101, 102]), (23, [5, 103])]),
   (6, []),
   (7, []),
   (8, []),
   (9, []),
   (10, []),
   (11, []),
   (12, []),
   (13, []),
   (14, []),
   (15, []),
   (16, []),
   (17, []),
   (18, [(0, [2]), (1, [5, 6]), (2, [7, 8]), (3, [7, 9, 10, 11]), (5, [12, 13, 14]), (7, [15, 18, 19, 20, 21, 22, 23]), (6, [16, 17]), (8, [0, 3, 4, 15, 24])]),
   (19, [(0, [2]), (1, [5, 6]), (2, [7, 8]), (3, [7, 9, 10, 11]), (5, [12, 13, 14]), (7, [15, 18, 19, 20, 21, 22, 23]), (6, [16, 17]), (8, [0, 3, 4, 15, 24])]),
   (20, [(0, [0, 4]), (3, [7, 8, 9, 10]), (5, [11, 14, 15, 16, 17, 18, 19, 20, 21, 22, 23, 24, 25, 26, 27, 28, 29, 30]), (6, [31, 32, 33]), (4, [12, 13, 31]), (7, [1, 2, 5, 6, 11, 34])]),
   (21, []),
   (22, []),
   (23, []),
   (24, []),
   (25, []),
   (26, []),
   (27, [(0, [4]), (1, [6]), (3, [9, 10]), (4, [11, 12, 13, 14, 15]), (5, [0, 1, 5, 7, 8, 16, 17]), (6, [5, 16, 18]), (7, [0, 1, 7, 8, 9])]),
   (28, []),
   (29, []),
   (30, []),
   (31, [(0, [0, 2, 3]), (1, [1, 8, 9]), (3, [10, 11, 12]), (4, [4, 5, 13]), (5, [13]), (7, [17, 18, 19]), (8, [20, 21, 22]), (9, [4, 5, 7, 14, 15, 16, 23, 24, 25, 26, 27, 28]), (10, [7, 23, 29]), (11, [4, 5, 14, 15, 16, 17, 30, 31, 32, 33])]),
   (32, [(0, [4]), (1, [1]), (3, [10, 11, 12, 13]), (4, [6, 14]), (5, [0, 5, 7, 8, 9, 15, 16, 17, 18]), (6, [5, 15, 19]), (7, [0, 7, 8, 9, 10])]),
   (33, []),
   (34, []),
   (35, [(0, [0, 2, 3]), (1, [10, 11, 12, 13, 14, 15, 16, 17, 18]), (2, [1, 19]), (3, [19]), (4, [20, 21, 22, 23]), (6, [24, 27, 28, 29, 30, 31]), (7, [5, 32, 33, 34, 35, 36, 37, 38, 39, 40, 41, 42, 43, 44, 45, 46, 47, 48, 49, 50, 51, 52, 53, 54, 55, 56, 57]), (8, [1, 4, 58, 59]), (5, [25, 26, 58]), (9, [4, 24, 60, 61, 62]), (10, [1, 63]), (11, [63]), (12, [64, 65, 66, 67]), (14, [68, 71, 72, 73]), (15, [74]), (16, [1, 6, 7, 75, 76, 77]), (13, [7, 69, 70, 75]), (17, [1, 6, 68, 78, 79]), (19, [80, 81, 82]), (21, [83, 86, 87, 88, 89]), (22, [8, 9, 90, 91]), (20, [84, 85, 90]), (23, [8, 9, 83])]),
   (36, []),
   (37, []),
   (38, []),
   (41, []),
   (42, [(0, [0, 4]), (1, [7, 8, 9, 10, 11]), (2, [12, 13, 14, 15, 16, 17, 18, 19, 20, 21, 22, 23, 24, 25, 26, 27, 28, 29, 30, 31, 32, 33]), (3, [1, 2, 5, 34]), (4, [34]), (5, [35, 36]), (7, [37, 40, 41, 42, 43, 44, 45, 46, 47, 48, 49, 50, 51, 52, 53, 54, 55, 56, 57, 58]), (8, [1, 2, 5, 6, 59]), (6, [38, 39, 59]), (9, [1, 2, 5, 6, 37, 60, 61, 62, 63, 64, 65, 66, 67, 68, 69, 70, 71, 72, 73, 74]), (10, [75]), (11, [75])]),
   (43, [(0, [0, 4]), (1, [10, 11, 12, 13]), (3, [14, 15, 16]), (5, [17, 20, 21, 22]), (4, [18, 19]), (6, [1, 6, 17, 23, 24, 25]), (8, [26, 27, 28]), (10, [29]), (11, [32, 33, 34, 35]), (13, [36, 39, 40, 41, 42, 43]), (14, [44, 45, 46, 47, 48, 49, 50, 51, 52, 53, 54, 55, 56, 57]), (15, [58, 59, 60, 61, 62, 63, 64]), (16, [58, 65, 66, 67, 68, 69, 70, 71, 72, 73, 74, 75, 76, 77, 78]), (17, [9, 79, 80, 81, 82, 83, 84, 85]), (12, [9, 37, 38, 79]), (9, [8, 30, 31, 36]), (18, [2, 5, 7, 29, 86])]),
   (44, [(0, [0, 2]), (1, [5, 6, 7, 8, 9, 10, 11, 12, 13]), (2, [1, 14, 15]), (3, [1, 14, 16]), (5, [20, 21, 22, 23]), (6, [4, 24, 25, 26, 27, 28, 29, 30, 31, 32, 33, 34, 35, 36, 37, 38, 39, 40, 41, 42, 43, 44, 45, 46, 47, 48, 49]), (7, [3, 17, 18, 19, 50, 51, 52]), (8, [3, 50, 53]), (9, [17, 18, 19, 20])]),
   (45, [(0, [0, 2]), (1, [5, 6, 7]), (2, [1, 8, 9]), (3, [8, 10]), (5, [14, 15, 16, 17]), (6, [19, 20, 21, 22, 23, 24, 25, 26, 27, 28, 29, 30, 31, 32, 33, 34, 35, 36, 37, 38, 39, 40, 41]), (7, [1, 3, 4, 11, 12, 13, 18, 42, 43]), (8, [4, 18, 45, 46, 47, 48, 49, 50]), (9, [1, 3, 11, 12, 13, 44, 51, 52]), (10, [44, 54, 55, 56, 57]), (11, [1, 3, 11, 12, 13, 53, 58, 59]), (12, [3, 53, 60]), (13, [1, 11, 12, 13, 14])]),
   (46, [(0, [4]), (1, [6]), (3, [9, 10]), (4, [11, 12, 13, 14, 15]), (5, [0, 1, 5, 7, 8, 16, 17]), (6, [5, 16, 18]), (7, [0, 1, 7, 8, 9])]),
   (47, [(0, [0, 4]), (1, [12, 13, 14, 15, 16]), (2, [1, 17, 18, 19]), (4, [7]), (6, [20]), (7, [23]), (9, [27, 28, 29]), (10, [9, 30, 31, 32, 33, 34, 35, 36, 37, 38, 39]), (12, [43, 44, 45]), (13, [46, 47, 48, 49, 50, 51, 52, 53, 54, 55, 56, 57, 58, 59]), (14, [11, 60, 61, 62, 63, 64, 65, 66]), (15, [11, 60, 67]), (16, [40, 41, 42, 43, 68]), (5, [21, 22, 24, 25, 26, 27]), (17, [2, 5, 6, 20, 69])]),
   (48, []),
   (55, [(0, [0, 3, 8]), (1, [12, 13, 14, 15]), (2, [1, 2, 4, 7, 16]), (3, [16]), (4, [17]), (6, [10, 18, 21, 22, 23, 24, 25, 26, 27, 28, 29, 30]), (7, [11, 31, 32, 33, 34, 35, 36, 37, 38, 39, 40, 41, 42, 43]), (8, [1, 2, 4, 7, 9, 44]), (5, [19, 20, 44]), (9, [1, 2, 4, 7, 9, 18])]),
   (56, []),
   (57, []),
   (58, []),
   (59, [(0, [0, 4]), (3, [11, 12]), (4, [5, 13, 14, 15, 16, 17, 18, 19, 20, 21, 22]), (5, [23, 24, 25, 26]), (6, [1, 2, 6, 7, 10, 27]), (7, [7, 27]), (9, [30, 31]), (10, [9, 32, 33, 34, 35, 36, 37, 38, 39, 40, 41, 42, 43, 44, 45, 46, 47, 48]), (11, [1, 2, 6, 10, 28, 29, 49]), (12, [49, 50]), (13, [6, 28, 29, 30, 51]), (14, [1, 2, 10, 11])]),
   (60, [(0, [4]), (1, [9]), (2, [10, 11]), (3, [1, 10, 12, 13, 14, 15, 16, 17, 18, 19, 20]), (4, [5, 21, 22, 23, 24, 25]), (5, [26, 27]), (6, [6, 26, 28, 29, 30]), (7, [0, 31, 32, 33]), (8, [34, 35, 36]), (9, [37, 38, 39, 40, 41, 42, 43, 44, 45, 46]), (10, [7, 8, 37, 47])]),
   (63, [(0, [0, 9]), (2, [13, 14]), (4, [15, 18, 19, 20, 21, 22]), (6, [23]), (8, [24, 27, 28, 29, 30, 31, 32, 33, 34, 35, 36, 37]), (9, [1, 2, 3, 4, 10, 11, 12, 38, 39, 40, 41, 42]), (10, [38, 43, 44, 45, 46, 47, 48, 49, 50, 51, 52, 53]), (11, [1, 2, 3, 4, 10, 11, 12, 54, 55, 56, 57, 58]), (7, [25, 26, 54]), (3, [11, 12, 16, 17, 24]), (12, [1, 2, 3, 4, 10, 15, 59])]),
   (64, [(0, [4]), (1, [6]), (3, [9, 10]), (4, [11, 12, 13, 14, 15]), (5, [0, 1, 5, 7, 8, 16, 17]), (6, [5, 16, 18]), (7, [0, 1, 7, 8, 9])]),
   (65, []),
   (66, []),
   (67, []),
   (68, [(0, [0, 4]), (3, [9, 10]), (4, [5, 11, 12, 13, 14, 15, 16]), (5, [6, 7, 17, 18, 19, 20, 21, 22, 23, 24, 25, 26, 27, 28, 29, 30]), (6, [1, 2, 3, 8, 31]), (7, [31, 32]), (8, [1, 2, 3, 8, 9])]),
   (69, []),
   (70, []),
   (89, [])]
def impTab : List (Nat × Nat) := [(47, 60), (5, 11)]
def asPairs : List (Nat × Nat) := [(70, 72)]
def bfT : Nat := 1000000
def sentT : Nat := 1000000
def handleV : Value := .iface 104 (.agg #[.pointer (some ⟨1, 68, none⟩)])
/-- errors.As, at what this program hands it. -/
def prim_errors_As : List SV → Mem → Option (SV × Mem)
  | [.nili, .iface _ _], M => some (.bool false, M)
  | [.iface t (.rptr items i o st), .iface u (.ptr id 0 0)], M =>
    if asPairs.contains (t, u) then (match M.blk id with
      | some [y] => if y.cells.length = 1 then some (.bool true, M.set id (some [.rptr items i o st])) else none
      | _ => none) else none
  | _, _ => none
/-- errors.Is, at what this program hands it. -/
def prim_errors_Is : List SV → Mem → Option (SV × Mem)
  | [.iface t (.rptr [.agg [.int .i64 _, .iface c x]] 0 0 _), .iface c' y], M =>
    if t = T_p_plan_fault ∧ c = T_plan_code ∧ c' = T_plan_code then (match x, y with
      | .int .i64 m, .int .i64 n => some (.bool (m == n), M)
      | _, _ => none)
    else none
  | _, _ => none

def primOf : Nat → Option (List SV → Mem → Option (SV × Mem)) := fun f => if f = n_errors_As then some prim_errors_As else if f = n_errors_Is then some prim_errors_Is else none
noncomputable def ES : Env := { P := Tryd.prog, G := fun _ => none, prim := primOf, imp := fun a b => impTab.contains (a, b), dead := fun me id => (((deadTab.lookup me).getD []).lookup id).getD [], raw := fun n => if n = 0 then some handleV else none, sent := fun _ => false }
theorem npF {f : Nat} (h : ((primOf f).isNone && impTab.all fun p => p.2 != f) = true) : ∀ me, ((ES.prim f).isSome || ES.imp me f) = false := by
  intro me
  have h1 : ES.prim f = primOf f := rfl
  have h2 : ES.imp me f = impTab.contains (me, f) := rfl
  rw [h1, h2]
  simp only [Bool.and_eq_true, List.all_eq_true] at h
  obtain ⟨h3, h4⟩ := h
  have h5 : impTab.contains (me, f) = false := by
    cases hc : impTab.contains (me, f) with
    | false => rfl
    | true =>
      have := h4 _ (List.contains_iff_mem.1 hc)
      simp at this
  rw [h5]
  cases hp : primOf f with
  | none => rfl
  | some p => rw [hp] at h3; cases h3
@[simp] theorem sn_ : ES.sent T_ = false := by rfl
@[simp] theorem sn_func : ES.sent T_func = false := by rfl
@[simp] theorem sn_int64 : ES.sent T_int64 = false := by rfl
@[simp] theorem sn_int : ES.sent T_int = false := by rfl
@[simp] theorem sn_bool : ES.sent T_bool = false := by rfl
@[simp] theorem sn_uint8 : ES.sent T_uint8 = false := by rfl
@[simp] theorem sn_internal_abi_BoundsErrorCode : ES.sent T_internal_abi_BoundsErrorCode = false := by rfl
@[simp] theorem sn_struct_x_int64_y_int_signed_bool_code_abi_BoundsErrorCode : ES.sent T_struct_x_int64_y_int_signed_bool_code_abi_BoundsErrorCode = false := by rfl
@[simp] theorem sn_runtime_boundsError : ES.sent T_runtime_boundsError = false := by rfl
@[simp] theorem sn_string : ES.sent T_string = false := by rfl
@[simp] theorem sn_runtime_errorString : ES.sent T_runtime_errorString = false := by rfl
@[simp] theorem sn_runtime_plainError : ES.sent T_runtime_plainError = false := by rfl
@[simp] theorem sn_uintptr : ES.sent T_uintptr = false := by rfl
@[simp] theorem sn_interface : ES.sent T_interface = false := by rfl
@[simp] theorem sn_a2_int : ES.sent T_a2_int = false := by rfl
@[simp] theorem sn_uint16 : ES.sent T_uint16 = false := by rfl
@[simp] theorem sn_sl_api_Part : ES.sent T_sl_api_Part = false := by rfl
@[simp] theorem sn_sl_api_Link : ES.sent T_sl_api_Link = false := by rfl
@[simp] theorem sn_api_Config : ES.sent T_api_Config = false := by rfl
@[simp] theorem sn_sl_int64 : ES.sent T_sl_int64 = false := by rfl
@[simp] theorem sn_uint : ES.sent T_uint = false := by rfl
@[simp] theorem sn_api_Part : ES.sent T_api_Part = false := by rfl
@[simp] theorem sn_api_Link : ES.sent T_api_Link = false := by rfl
@[simp] theorem sn_p_api_Config : ES.sent T_p_api_Config = false := by rfl
@[simp] theorem sn_func_int64_bool : ES.sent T_func_int64_bool = false := by rfl
@[simp] theorem sn_bounds_Numbers : ES.sent T_bounds_Numbers = false := by rfl
@[simp] theorem sn_api_Errno : ES.sent T_api_Errno = false := by rfl
@[simp] theorem sn_error : ES.sent T_error = false := by rfl
@[simp] theorem sn_p_plan_fault : ES.sent T_p_plan_fault = false := by rfl
@[simp] theorem sn_p_p_plan_fault : ES.sent T_p_p_plan_fault = false := by rfl
@[simp] theorem sn_sl_api_Errno : ES.sent T_sl_api_Errno = false := by rfl
@[simp] theorem sn_plan_code : ES.sent T_plan_code = false := by rfl
@[simp] theorem sn_plan_fault : ES.sent T_plan_fault = false := by rfl
@[simp] theorem sn_sl_bool : ES.sent T_sl_bool = false := by rfl
@[simp] theorem sn_sl_int : ES.sent T_sl_int = false := by rfl
@[simp] theorem sn_func_api_Link_bool : ES.sent T_func_api_Link_bool = false := by rfl
@[simp] theorem sn_sl_a2_int : ES.sent T_sl_a2_int = false := by rfl
@[simp] theorem sn_api_Port : ES.sent T_api_Port = false := by rfl
@[simp] theorem sn_uint32 : ES.sent T_uint32 = false := by rfl
@[simp] theorem sn_uint64 : ES.sent T_uint64 = false := by rfl
@[simp] theorem ti_ : tiOf ES.P T_ = some ⟨.other, 1, 0, (some (.tup []))⟩ := by kernel_rfl
@[simp] theorem ti_func : tiOf ES.P T_func = some ⟨.func, 1, 8, (some .nilf)⟩ := by kernel_rfl
@[simp] theorem ti_int64 : tiOf ES.P T_int64 = some ⟨(.int .i64), 1, 8, (some (.int .i64 0))⟩ := by kernel_rfl
@[simp] theorem ti_int : tiOf ES.P T_int = some ⟨(.int .i64), 1, 8, (some (.int .i64 0))⟩ := by kernel_rfl
@[simp] theorem ti_bool : tiOf ES.P T_bool = some ⟨.bool, 1, 1, (some (.bool false))⟩ := by kernel_rfl
@[simp] theorem ti_uint8 : tiOf ES.P T_uint8 = some ⟨(.int .u8), 1, 1, (some (.int .u8 0))⟩ := by kernel_rfl
@[simp] theorem ti_internal_abi_BoundsErrorCode : tiOf ES.P T_internal_abi_BoundsErrorCode = some ⟨(.int .u8), 1, 1, (some (.int .u8 0))⟩ := by kernel_rfl
@[simp] theorem ti_struct_x_int64_y_int_signed_bool_code_abi_BoundsErrorCode : tiOf ES.P T_struct_x_int64_y_int_signed_bool_code_abi_BoundsErrorCode = some ⟨(.struct [(T_int64, 0), (T_int, 1), (T_bool, 2), (T_internal_abi_BoundsErrorCode, 3)]), 4, 24, (some (.agg [(.int .i64 0), (.int .i64 0), (.bool false), (.int .u8 0)]))⟩ := by kernel_rfl
@[simp] theorem ti_runtime_boundsError : tiOf ES.P T_runtime_boundsError = some ⟨(.struct [(T_int64, 0), (T_int, 1), (T_bool, 2), (T_internal_abi_BoundsErrorCode, 3)]), 4, 24, (some (.agg [(.int .i64 0), (.int .i64 0), (.bool false), (.int .u8 0)]))⟩ := by kernel_rfl
@[simp] theorem ti_string : tiOf ES.P T_string = some ⟨.str, 1, 16, (some (.str ByteArray.empty))⟩ := by kernel_rfl
@[simp] theorem ti_runtime_errorString : tiOf ES.P T_runtime_errorString = some ⟨.str, 1, 16, (some (.str ByteArray.empty))⟩ := by kernel_rfl
@[simp] theorem ti_runtime_plainError : tiOf ES.P T_runtime_plainError = some ⟨.str, 1, 16, (some (.str ByteArray.empty))⟩ := by kernel_rfl
@[simp] theorem ti_uintptr : tiOf ES.P T_uintptr = some ⟨(.int .u64), 1, 8, (some (.int .u64 0))⟩ := by kernel_rfl
@[simp] theorem ti_interface : tiOf ES.P T_interface = some ⟨.iface, 1, 16, (some .nili)⟩ := by kernel_rfl
@[simp] theorem ti_a2_int : tiOf ES.P T_a2_int = some ⟨(.arr 2 T_int), 2, 16, (some (.agg [(.int .i64 0), (.int .i64 0)]))⟩ := by kernel_rfl
@[simp] theorem ti_uint16 : tiOf ES.P T_uint16 = some ⟨(.int .u16), 1, 2, (some (.int .u16 0))⟩ := by kernel_rfl
@[simp] theorem ti_sl_api_Part : tiOf ES.P T_sl_api_Part = some ⟨(.slice T_api_Part), 1, 24, (some .nilsl)⟩ := by kernel_rfl
@[simp] theorem ti_sl_api_Link : tiOf ES.P T_sl_api_Link = some ⟨(.slice T_api_Link), 1, 24, (some .nilsl)⟩ := by kernel_rfl
@[simp] theorem ti_api_Config : tiOf ES.P T_api_Config = some ⟨(.struct [(T_sl_api_Part, 0), (T_sl_api_Link, 1), (T_int, 2), (T_int, 3), (T_int, 4), (T_int, 5), (T_int, 6), (T_int, 7), (T_int, 8), (T_int, 9), (T_int, 10), (T_int, 11), (T_int, 12)]), 13, 136, (some (.agg [.nilsl, .nilsl, (.int .i64 0), (.int .i64 0), (.int .i64 0), (.int .i64 0), (.int .i64 0), (.int .i64 0), (.int .i64 0), (.int .i64 0), (.int .i64 0), (.int .i64 0), (.int .i64 0)]))⟩ := by kernel_rfl
@[simp] theorem ti_sl_int64 : tiOf ES.P T_sl_int64 = some ⟨(.slice T_int64), 1, 24, (some .nilsl)⟩ := by kernel_rfl
@[simp] theorem ti_uint : tiOf ES.P T_uint = some ⟨(.int .u64), 1, 8, (some (.int .u64 0))⟩ := by kernel_rfl
@[simp] theorem ti_api_Part : tiOf ES.P T_api_Part = some ⟨(.struct [(T_int, 0), (T_int, 1)]), 2, 16, (some (.agg [(.int .i64 0), (.int .i64 0)]))⟩ := by kernel_rfl
@[simp] theorem ti_api_Link : tiOf ES.P T_api_Link = some ⟨(.struct [(T_int, 0), (T_int, 1), (T_a2_int, 2), (T_a2_int, 4)]), 6, 48, (some (.agg [(.int .i64 0), (.int .i64 0), (.int .i64 0), (.int .i64 0), (.int .i64 0), (.int .i64 0)]))⟩ := by kernel_rfl
@[simp] theorem ti_p_api_Config : tiOf ES.P T_p_api_Config = some ⟨.ptr, 1, 8, (some .nilp)⟩ := by kernel_rfl
@[simp] theorem ti_func_int64_bool : tiOf ES.P T_func_int64_bool = some ⟨.func, 1, 8, (some .nilf)⟩ := by kernel_rfl
@[simp] theorem ti_bounds_Numbers : tiOf ES.P T_bounds_Numbers = some ⟨(.struct [(T_int64, 0), (T_int64, 1), (T_int64, 2), (T_int64, 3), (T_int64, 4), (T_int64, 5), (T_int, 6)]), 7, 56, (some (.agg [(.int .i64 0), (.int .i64 0), (.int .i64 0), (.int .i64 0), (.int .i64 0), (.int .i64 0), (.int .i64 0)]))⟩ := by kernel_rfl
@[simp] theorem ti_api_Errno : tiOf ES.P T_api_Errno = some ⟨(.int .i64), 1, 8, (some (.int .i64 0))⟩ := by kernel_rfl
@[simp] theorem ti_error : tiOf ES.P T_error = some ⟨.iface, 1, 16, (some .nili)⟩ := by kernel_rfl
@[simp] theorem ti_p_plan_fault : tiOf ES.P T_p_plan_fault = some ⟨.ptr, 1, 8, (some .nilp)⟩ := by kernel_rfl
@[simp] theorem ti_p_p_plan_fault : tiOf ES.P T_p_p_plan_fault = some ⟨.ptr, 1, 8, (some .nilp)⟩ := by kernel_rfl
@[simp] theorem ti_sl_api_Errno : tiOf ES.P T_sl_api_Errno = some ⟨(.slice T_api_Errno), 1, 24, (some .nilsl)⟩ := by kernel_rfl
@[simp] theorem ti_plan_code : tiOf ES.P T_plan_code = some ⟨(.int .i64), 1, 8, (some (.int .i64 0))⟩ := by kernel_rfl
@[simp] theorem ti_plan_fault : tiOf ES.P T_plan_fault = some ⟨(.struct [(T_int, 0), (T_error, 1)]), 2, 24, (some (.agg [(.int .i64 0), .nili]))⟩ := by kernel_rfl
@[simp] theorem ti_sl_bool : tiOf ES.P T_sl_bool = some ⟨(.slice T_bool), 1, 24, (some .nilsl)⟩ := by kernel_rfl
@[simp] theorem ti_sl_int : tiOf ES.P T_sl_int = some ⟨(.slice T_int), 1, 24, (some .nilsl)⟩ := by kernel_rfl
@[simp] theorem ti_func_api_Link_bool : tiOf ES.P T_func_api_Link_bool = some ⟨.func, 1, 8, (some .nilf)⟩ := by kernel_rfl
@[simp] theorem ti_sl_a2_int : tiOf ES.P T_sl_a2_int = some ⟨(.slice T_a2_int), 1, 24, (some .nilsl)⟩ := by kernel_rfl
@[simp] theorem ti_api_Port : tiOf ES.P T_api_Port = some ⟨(.struct [(T_int, 0), (T_int, 1), (T_int, 2), (T_int, 3)]), 4, 32, (some (.agg [(.int .i64 0), (.int .i64 0), (.int .i64 0), (.int .i64 0)]))⟩ := by kernel_rfl
@[simp] theorem ti_uint32 : tiOf ES.P T_uint32 = some ⟨(.int .u32), 1, 4, (some (.int .u32 0))⟩ := by kernel_rfl
@[simp] theorem ti_uint64 : tiOf ES.P T_uint64 = some ⟨(.int .u64), 1, 8, (some (.int .u64 0))⟩ := by kernel_rfl
end Go.Proofs.YtomlbmbgocmiiaaDoor
