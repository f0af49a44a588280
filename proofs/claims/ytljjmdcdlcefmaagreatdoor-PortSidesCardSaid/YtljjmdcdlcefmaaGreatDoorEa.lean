/-
  The seat's types and environment (printed by a program of the claim's own).
-/
import Derived.Test.YtljjmdcdlcefmaaGreatDoorRows
import Derived.Test.YtljjmdcdlcefmaaGreatDoorShMb
set_option linter.unusedVariables false
set_option maxRecDepth 100000
namespace Go.Proofs.YtljjmdcdlcefmaaGreatDoor
open Go.Proofs.YtljjmdcdlcefmaaGreatDoor.Sh
def n_l20_PortRaw : Nat := 3
def n_l20_PortTells : Nat := 4
def n_l20_PortSides : Nat := 5
def n_l20_alive : Nat := 6
def n_l20_small : Nat := 7
def n_r17_SameFars : Nat := 8
def n_port_Fars : Nat := 9
def n_r17_Fars : Nat := 10
def n_port_Up : Nat := 11
def n_r17_Up : Nat := 12
def n_port_Pair : Nat := 13
def n_r17_Pair : Nat := 14
def n_r26_Made : Nat := 15
def n_l20_cells : Nat := 16
def n_r5_Ports : Nat := 17
def n_r5_Far : Nat := 18
def n_r1_SameInts : Nat := 19
def n_port_right : Nat := 20
def n_port_See : Nat := 21
def n_plan_Ports : Nat := 22
def n_r17_shaped : Nat := 23
def n_r5_Good : Nat := 24
def n_r1_Ints : Nat := 25
def n_port_Lit : Nat := 26
def n_r26_joined : Nat := 27
def n_r5_Edge : Nat := 28
def n_l19_Made : Nat := 29
def n_r5_port : Nat := 30
def n_r5_Port : Nat := 31
def n_plan_Right : Nat := 32
def n_plan_Other : Nat := 33
def n_slices_Clone_sl_int_int : Nat := 34
def n_plan_index : Nat := 35
def n_plan_Ends : Nat := 36
def n_r5_Check : Nat := 37
def n_r5_is : Nat := 38
def n_r26_ports : Nat := 39
def n_r5_ranged : Nat := 40
def n_r5_edge : Nat := 41
def n_r17_New : Nat := 42
def n_l19_held : Nat := 43
def n_l19_whole : Nat := 44
def n_plan_Check : Nat := 45
def n_plan_end : Nat := 46
def n_slices_SortFunc_sl_api_Port_api_Port : Nat := 47
def n_plan_Ends_1 : Nat := 48
def n_r5_link : Nat := 49
def n_r5_dists : Nat := 50
def n_r5_out : Nat := 51
def n_r5_up : Nat := 52
def n_r5_Fit : Nat := 53
def n_r5_Gone : Nat := 54
def n_plan_check : Nat := 55
def n_slices_pdqsortCmpFunc_api_Port : Nat := 58
def n_math_bits_Len : Nat := 59
def n_r5_ends : Nat := 60
def n_r1_Ceil : Nat := 61
def n_r5_Fits : Nat := 62
def n_plan_parts : Nat := 63
def n_plan_links : Nat := 64
def n_slices_Index_sl_int_int : Nat := 65
def n_plan_Dists : Nat := 66
def n_plan_wrong : Nat := 67
def n_slices_insertionSortCmpFunc_api_Port : Nat := 74
def n_slices_heapSortCmpFunc_api_Port : Nat := 75
def n_slices_breakPatternsCmpFunc_api_Port : Nat := 76
def n_slices_choosePivotCmpFunc_api_Port : Nat := 77
def n_slices_reverseRangeCmpFunc_api_Port : Nat := 78
def n_slices_partialInsertionSortCmpFunc_api_Port : Nat := 79
def n_slices_partitionEqualCmpFunc_api_Port : Nat := 80
def n_slices_partitionCmpFunc_api_Port : Nat := 81
def n_math_bits_Len32 : Nat := 82
def n_math_bits_Len64 : Nat := 83
def n_r5_fits : Nat := 84
def n_slices_ContainsFunc_sl_api_Link_api_Link : Nat := 85
def n_plan_links_1 : Nat := 86
def n_plan_ports : Nat := 87
def n_slices_Repeat_sl_int_int : Nat := 88
def n_slices_siftDownCmpFunc_api_Port : Nat := 91
def n_slices_nextPowerOfTwo : Nat := 92
def n_p_slices_xorshift_Next : Nat := 93
def n_slices_medianAdjacentCmpFunc_api_Port : Nat := 94
def n_slices_medianCmpFunc_api_Port : Nat := 95
def n_r5_ports : Nat := 96
def n_r5_jump : Nat := 97
def n_slices_IndexFunc_sl_api_Link_api_Link : Nat := 98
def n_plan_taken : Nat := 99
def n_math_bits_Mul : Nat := 100
def n_slices_order2CmpFunc_api_Port : Nat := 101
def n_r5_step : Nat := 102
def n_plan_taken_1 : Nat := 103
def n_math_bits_Mul32 : Nat := 104
def n_math_bits_Mul64 : Nat := 105
def n_r5_slew : Nat := 106
def n_p_plan_fault_Unwrap : Nat := 125
def n_errors_As : Nat := 56
def n_errors_Is : Nat := 57
def T_ : Nat := 0
def T_func : Nat := 1
def T_int64 : Nat := 2
def T_int : Nat := 3
def T_bool : Nat := 4
def T_uint8 : Nat := 5
def T_internal_abi_BoundsErrorCode : Nat := 6
def T_struct_x_int64_y_int_signed_bool_code_abi_BoundsErrorCode : Nat := 7
def T_runtime_boundsError : Nat := 8
def T_string : Nat := 9
def T_runtime_errorString : Nat := 10
def T_runtime_plainError : Nat := 11
def T_uintptr : Nat := 12
def T_interface : Nat := 20
def T_sl_api_Part : Nat := 22
def T_sl_api_Link : Nat := 23
def T_api_Config : Nat := 25
def T_sl_api_Cell : Nat := 26
def T_sl_api_Far : Nat := 30
def T_sl_api_Port : Nat := 38
def T_api_Port : Nat := 43
def T_sl_int : Nat := 44
def T_api_Node : Nat := 46
def T_sl_api_Node : Nat := 47
def T_api_Guard : Nat := 49
def T_api_Cell : Nat := 51
def T_api_Far : Nat := 53
def T_a2_int : Nat := 60
def T_api_Link : Nat := 62
def T_uint : Nat := 63
def T_api_Part : Nat := 65
def T_p_api_Config : Nat := 67
def T_api_Errno : Nat := 82
def T_func_api_Port_api_Port_int : Nat := 88
def T_error : Nat := 94
def T_p_plan_fault : Nat := 96
def T_p_p_plan_fault : Nat := 98
def T_sl_api_Errno : Nat := 99
def T_plan_code : Nat := 101
def T_plan_fault : Nat := 103
def T_slices_sortedHint : Nat := 126
def T_uint32 : Nat := 134
def T_uint64 : Nat := 136
def T_func_api_Link_bool : Nat := 138
def T_sl_a2_int : Nat := 140
def T_slices_xorshift : Nat := 157
def T_p_int : Nat := 161
def T_p_slices_xorshift : Nat := 167
def g_errors_errorType : Nat := 0
def deadTab : List (Nat × List (Nat × List Nat)) :=
  [(3, []),
   (4, []),
   (5, [(0, [4]), (1, [16, 17, 18, 19, 20, 21]), (2, [0, 1, 22, 23]), (3, [0, 22, 24, 25]), (4, [1, 26, 27, 28]), (6, [29, 30, 31, 32]), (8, [33, 36, 37, 38, 39]), (9, [40, 41, 42]), (10, [43, 44, 45, 46]), (11, [5, 6, 7, 8, 9, 47]), (12, [47]), (13, [48, 49, 50]), (15, [13, 51, 54, 55, 56, 57, 58, 59, 60, 61, 62, 63, 64, 65]), (16, [11, 12, 66, 67, 68, 69, 70, 71, 72, 73]), (17, [74, 75, 76, 77, 78, 79, 80, 81, 82, 83, 84, 85, 86, 87, 88, 89, 90, 91, 92, 93, 94, 95, 96, 97, 98, 99, 100, 101, 102, 103, 104, 105, 106, 107, 108]), (18, [5, 6, 7, 8, 9, 10, 14, 109]), (19, [14, 109, 110, 111, 112, 113, 114, 115, 116, 117, 118, 119, 120, 121, 122, 123, 124, 125, 126, 127, 128]), (20, [15, 129, 130, 131, 132, 133, 134, 135, 136, 137, 138, 139, 140, 141, 142, 143, 144, 145, 146, 147, 148, 149, 150, 151, 152, 153, 154, 155, 156]), (21, [5, 6, 7, 8, 9, 10, 157]), (14, [52, 53, 157]), (7, [8, 9, 10, 34, 35, 51]), (22, [5, 6, 7, 33])]),
   (6, []),
   (7, [(0, [2]), (1, [5, 6]), (2, [0, 7]), (3, [7]), (4, [8, 9, 10]), (6, [11, 14, 15, 16, 17, 18, 19, 20, 21, 22, 23, 24, 25, 26, 27, 28, 29]), (7, [0, 3, 30]), (8, [30]), (9, [31, 32, 33, 34, 35, 36, 37]), (11, [38, 41, 42, 43, 44, 45, 46, 47, 48, 49, 50]), (12, [0, 3, 4, 51]), (10, [39, 40, 51]), (5, [4, 12, 13, 38]), (13, [0, 3, 11])]),
   (8, [(0, [4]), (1, [6, 7, 8, 9]), (2, [0, 1, 10]), (3, [10]), (4, [11, 12, 13]), (6, [14, 17, 18, 19, 20, 21, 22, 23, 24, 25, 26, 27, 28, 29, 30, 31, 32, 33, 34, 35, 36, 37, 38, 39, 40, 41, 42, 43, 44, 45, 46, 47, 48, 49, 50, 51, 52, 53, 54, 55, 56, 57, 58, 59, 60, 61, 62, 63, 64, 65, 66]), (7, [0, 1, 5, 67]), (5, [15, 16, 67]), (8, [0, 1, 5, 14])]),
   (9, []),
   (10, [(0, [0, 6]), (2, [15, 16, 17, 18, 19, 20, 21, 22, 23]), (3, [1, 2, 3, 7, 24]), (4, [24, 25, 26, 27]), (6, [28, 29, 30]), (8, [12, 31, 34, 35, 36, 37, 38, 39, 40, 41, 42, 43, 44, 45]), (9, [10, 11, 46, 47, 48, 49, 50, 51, 52, 53]), (10, [54]), (11, [55, 56]), (12, [13, 57, 58, 59, 60, 61, 62, 63, 64, 65]), (13, [13, 14, 57, 66, 67, 68, 69]), (7, [32, 33]), (14, [1, 2, 3, 7, 8, 9, 31, 70])]),
   (11, []),
   (12, []),
   (13, []),
   (14, []),
   (15, [(1, [10, 11]), (2, [12, 13, 14]), (3, [15, 16, 17]), (4, [18, 19, 20, 21, 22, 23, 24, 25, 26, 27, 28, 29, 30]), (6, [31, 32]), (8, [33, 36, 37, 38, 39, 40, 41]), (7, [34, 35]), (9, [6, 33]), (10, [42, 43]), (12, [44, 47, 48]), (13, [49]), (14, [50]), (15, [8, 50, 51, 52, 53, 54, 55, 56, 57, 58]), (11, [45, 46]), (16, [4, 7, 44, 59, 60, 61, 62, 63]), (17, [64, 65, 66, 67, 68, 69, 70, 71, 72]), (18, [64, 73, 74, 75, 76, 77, 78]), (19, [3, 79, 80, 81, 82, 83, 84, 85, 86, 87, 88, 89, 90]), (20, [0, 91, 92, 93, 94, 95, 96]), (21, [9, 97, 98]), (22, [99, 100, 101, 102]), (23, [5, 103])]),
   (16, [(0, [0, 6]), (3, [12, 13, 14, 15]), (5, [16, 19]), (6, [20, 21, 22]), (7, [23, 24, 25, 26, 27]), (8, [9, 23, 28, 29, 30, 31]), (10, [32, 33, 34, 35, 36, 37, 38, 39]), (12, [40, 43, 44, 45, 46, 47, 48]), (11, [41, 42]), (13, [10, 11, 40, 49, 50, 51, 52]), (4, [17, 18]), (14, [1, 2, 3, 7, 8, 16, 53])]),
   (17, [(0, [0, 4]), (2, [9, 10, 11]), (3, [1, 2, 5, 12]), (4, [12]), (5, [13, 14, 15, 16, 17, 18, 19]), (7, [20, 23, 24, 25, 26, 27, 28, 29, 30, 31, 32]), (8, [8]), (9, [7, 33, 34, 35, 36, 37]), (6, [7, 21, 22, 33]), (10, [1, 2, 5, 6, 20, 38])]),
   (18, []),
   (19, [(0, [4]), (1, [6, 7, 8, 9]), (2, [0, 1, 10]), (3, [10]), (4, [11, 12, 13]), (6, [14, 17, 18, 19, 20, 21, 22, 23, 24]), (7, [0, 1, 5, 25]), (5, [15, 16, 25]), (8, [0, 1, 5, 14])]),
   (20, [(0, [0, 4]), (1, [7, 8, 9, 10, 11, 12, 13, 14, 15, 16]), (2, [1, 2, 17]), (3, [1, 17]), (5, [21, 22, 23, 24]), (6, [5, 6, 25, 26, 27, 28, 29, 30, 31, 32, 33]), (7, [2, 18, 19, 20, 34]), (8, [34, 35]), (9, [2, 18, 19, 20, 21])]),
   (21, [(0, [0, 6]), (2, [1]), (4, [17, 18, 19]), (5, [9, 20, 21, 22, 23, 24, 25]), (7, [10, 11, 26, 27, 28, 29, 30, 31, 32, 33]), (8, [34, 35]), (9, [13, 36, 37, 38, 39, 40, 41, 42, 43, 44]), (10, [12, 13, 36, 45, 46, 47, 48]), (11, [49]), (12, [2, 3, 7, 14, 15, 16, 17, 50])]),
   (22, []),
   (23, [(0, [0, 4]), (1, [6, 7, 8, 9, 10, 11, 12, 13, 14, 15]), (2, [1, 2, 16]), (3, [16]), (4, [17, 18, 19]), (6, [20, 23, 24, 25, 26, 27, 28, 29, 30, 31, 32, 33, 34]), (7, [1, 2, 5, 35]), (5, [21, 22, 35]), (8, [1, 2, 5, 20])]),
   (24, []),
   (25, []),
   (26, []),
   (27, []),
   (28, []),
   (29, [(0, [0, 2]), (1, [1, 12, 13, 14]), (3, [15, 16, 17, 18]), (5, [19, 22]), (6, [23, 24, 25, 26]), (7, [27, 28, 29, 30, 31, 32]), (8, [27, 33, 34, 35, 36, 37, 38]), (9, [39, 40, 41, 42, 43, 44, 45, 46, 47, 48, 49, 50, 51, 52, 53, 54, 55, 56, 57]), (10, [58, 59, 60, 61, 62, 63, 64, 65, 66, 67, 68]), (11, [11, 39, 69, 70, 71, 72, 73, 74, 75]), (4, [20, 21]), (12, [10, 19, 76, 77, 78, 79, 80, 81]), (13, [82, 83, 84, 85, 86]), (14, [87, 88]), (15, [89, 90, 91, 92, 93, 94, 95, 96]), (16, [3, 97, 98, 99, 100, 101, 102]), (17, [103, 104, 105, 106, 107, 108, 109, 110, 111]), (18, [4, 6, 112, 113, 114, 115, 116, 117, 118, 119, 120]), (19, [3, 4, 6, 9, 89, 103, 121])]),
   (30, [(0, [0, 9]), (2, [13, 14]), (4, [15, 18, 19, 20, 21, 22]), (6, [23]), (8, [24, 27, 28, 29, 30, 31, 32, 33, 34, 35, 36, 37]), (9, [1, 2, 3, 4, 10, 11, 12, 38, 39, 40, 41, 42]), (10, [38, 43, 44, 45, 46, 47, 48, 49, 50, 51, 52, 53]), (11, [1, 2, 3, 4, 10, 11, 12, 54, 55, 56, 57, 58]), (7, [25, 26, 54]), (3, [11, 12, 16, 17, 24]), (12, [1, 2, 3, 4, 10, 15, 59])]),
   (31, []),
   (32, []),
   (33, []),
   (34, []),
   (35, []),
   (36, [(0, [0, 4]), (2, [2, 11]), (4, [15, 16, 17, 18]), (7, [20, 21]), (8, [22, 23, 24, 25, 26, 27]), (9, [9, 28, 29]), (10, [8, 10, 30, 31, 32, 33, 34, 35, 36, 37, 38, 39, 40, 41, 42, 43]), (11, [8, 10, 30, 44]), (12, [6, 7, 19, 20, 45]), (13, [1, 12, 13, 14, 15, 46, 47]), (14, [5, 48])]),
   (37, [(0, [0, 2, 3]), (1, [10, 11, 12, 13, 14, 15, 16, 17, 18]), (2, [1, 19]), (3, [19]), (4, [20, 21, 22, 23]), (6, [24, 27, 28, 29, 30, 31]), (7, [5, 32, 33, 34, 35, 36, 37, 38, 39, 40, 41, 42, 43, 44, 45, 46, 47, 48, 49, 50, 51, 52, 53, 54, 55, 56, 57]), (8, [1, 4, 58, 59]), (5, [25, 26, 58]), (9, [4, 24, 60, 61, 62]), (10, [1, 63]), (11, [63]), (12, [64, 65, 66, 67]), (14, [68, 71, 72, 73]), (15, [74]), (16, [1, 6, 7, 75, 76, 77]), (13, [7, 69, 70, 75]), (17, [1, 6, 68, 78, 79]), (19, [80, 81, 82]), (21, [83, 86, 87, 88, 89]), (22, [8, 9, 90, 91]), (20, [84, 85, 90]), (23, [8, 9, 83])]),
   (38, []),
   (39, [(0, [0, 4]), (3, [7, 8, 9, 10]), (5, [11, 14, 15, 16, 17, 18, 19, 20, 21, 22, 23, 24, 25, 26, 27, 28, 29, 30]), (6, [31, 32, 33]), (4, [12, 13, 31]), (7, [1, 2, 5, 6, 11, 34])]),
   (40, []),
   (41, []),
   (42, []),
   (43, []),
   (44, [(0, [0, 4]), (3, [8, 9, 10, 11]), (5, [12]), (6, [15, 16, 17]), (7, [18, 19, 20, 21, 22, 23, 24, 25, 26]), (8, [7, 18, 27, 28, 29, 30]), (4, [13, 14]), (9, [1, 2, 5, 6, 12, 31])]),
   (45, [(0, [0, 2, 3]), (1, [1, 8, 9]), (3, [10, 11, 12]), (4, [4, 5, 13]), (5, [13]), (7, [17, 18, 19]), (8, [20, 21, 22]), (9, [4, 5, 7, 14, 15, 16, 23, 24, 25, 26, 27, 28]), (10, [7, 23, 29]), (11, [4, 5, 14, 15, 16, 17, 30, 31, 32, 33])]),
   (46, []),
   (47, []),
   (48, []),
   (49, [(0, [0, 4]), (1, [7, 8, 9, 10, 11]), (2, [12, 13, 14, 15, 16, 17, 18, 19, 20, 21, 22, 23, 24, 25, 26, 27, 28, 29, 30, 31, 32, 33]), (3, [1, 2, 5, 34]), (4, [34]), (5, [35, 36]), (7, [37, 40, 41, 42, 43, 44, 45, 46, 47, 48, 49, 50, 51, 52, 53, 54, 55, 56, 57, 58]), (8, [1, 2, 5, 6, 59]), (6, [38, 39, 59]), (9, [1, 2, 5, 6, 37, 60, 61, 62, 63, 64, 65, 66, 67, 68, 69, 70, 71, 72, 73, 74]), (10, [75]), (11, [75])]),
   (50, [(0, [0, 4]), (1, [10, 11, 12, 13]), (3, [14, 15, 16]), (5, [17, 20, 21, 22]), (4, [18, 19]), (6, [1, 6, 17, 23, 24, 25]), (8, [26, 27, 28]), (10, [29]), (11, [32, 33, 34, 35]), (13, [36, 39, 40, 41, 42, 43]), (14, [44, 45, 46, 47, 48, 49, 50, 51, 52, 53, 54, 55, 56, 57]), (15, [58, 59, 60, 61, 62, 63, 64]), (16, [58, 65, 66, 67, 68, 69, 70, 71, 72, 73, 74, 75, 76, 77, 78]), (17, [9, 79, 80, 81, 82, 83, 84, 85]), (12, [9, 37, 38, 79]), (9, [8, 30, 31, 36]), (18, [2, 5, 7, 29, 86])]),
   (51, []),
   (52, []),
   (53, []),
   (54, []),
   (55, []),
   (58, [(2, [21, 22, 23]), (3, [24]), (4, [0, 1, 2, 3, 4, 10, 11, 12, 25, 26, 27, 28, 29, 30]), (5, [25, 31]), (6, [0, 1, 2, 3, 4, 10, 11, 12, 32, 33, 34, 35, 36, 37]), (7, [32, 38]), (8, [39, 40, 41, 42, 43, 44]), (9, [45, 46]), (10, [39, 47, 48, 49, 50, 51, 52, 53, 54]), (11, [55]), (12, [14, 56, 57, 58, 59, 60, 61]), (13, [62, 63, 64, 65, 66, 67]), (15, [14, 56, 68, 69, 70, 71, 72, 73, 74]), (16, [75, 76, 77, 78, 79]), (17, [75, 80, 81, 82, 83, 84, 85, 86, 87, 88, 89, 90, 91, 92, 93, 94, 95, 96]), (18, [1, 12, 13, 97, 98, 99, 100, 101, 102, 103]), (19, [15, 104]), (20, [10, 11, 13, 97, 105, 106, 107, 108, 109, 110, 111, 112, 113]), (21, [17, 114]), (22, [115, 116, 117, 118, 119, 120]), (23, [12, 121, 122]), (24, [123, 124]), (25, [18, 19, 20, 125, 126, 127, 128]), (26, [1, 129, 130, 131, 132, 133, 134]), (27, [16, 135, 136]), (28, [18, 19, 20, 125, 137, 138, 139]), (29, [2, 140, 141, 142, 143, 144, 145, 146]), (30, [16, 147])]),
   (59, []),
   (60, [(0, [0, 3, 8]), (1, [12, 13, 14, 15]), (2, [1, 2, 4, 7, 16]), (3, [16]), (4, [17]), (6, [10, 18, 21, 22, 23, 24, 25, 26, 27, 28, 29, 30]), (7, [11, 31, 32, 33, 34, 35, 36, 37, 38, 39, 40, 41, 42, 43]), (8, [1, 2, 4, 7, 9, 44]), (5, [19, 20, 44]), (9, [1, 2, 4, 7, 9, 18])]),
   (61, []),
   (62, []),
   (63, [(0, [0, 2]), (1, [5, 6, 7, 8, 9, 10, 11, 12, 13]), (2, [1, 14, 15]), (3, [1, 14, 16]), (5, [20, 21, 22, 23]), (6, [4, 24, 25, 26, 27, 28, 29, 30, 31, 32, 33, 34, 35, 36, 37, 38, 39, 40, 41, 42, 43, 44, 45, 46, 47, 48, 49]), (7, [3, 17, 18, 19, 50, 51, 52]), (8, [3, 50, 53]), (9, [17, 18, 19, 20])]),
   (64, [(0, [0, 2]), (1, [5, 6, 7]), (2, [1, 8, 9]), (3, [8, 10]), (5, [14, 15, 16, 17]), (6, [19, 20, 21, 22, 23, 24, 25, 26, 27, 28, 29, 30, 31, 32, 33, 34, 35, 36, 37, 38, 39, 40, 41]), (7, [1, 3, 4, 11, 12, 13, 18, 42, 43]), (8, [4, 18, 45, 46, 47, 48, 49, 50]), (9, [1, 3, 11, 12, 13, 44, 51, 52]), (10, [44, 54, 55, 56, 57]), (11, [1, 3, 11, 12, 13, 53, 58, 59]), (12, [3, 53, 60]), (13, [1, 11, 12, 13, 14])]),
   (65, [(0, [4]), (1, [6]), (3, [9, 10]), (4, [11, 12, 13, 14, 15]), (5, [0, 1, 5, 7, 8, 16, 17]), (6, [5, 16, 18]), (7, [0, 1, 7, 8, 9])]),
   (66, [(0, [0, 4]), (1, [12, 13, 14, 15, 16]), (2, [1, 17, 18, 19]), (4, [7]), (6, [20]), (7, [23]), (9, [27, 28, 29]), (10, [9, 30, 31, 32, 33, 34, 35, 36, 37, 38, 39]), (12, [43, 44, 45]), (13, [46, 47, 48, 49, 50, 51, 52, 53, 54, 55, 56, 57, 58, 59]), (14, [11, 60, 61, 62, 63, 64, 65, 66]), (15, [11, 60, 67]), (16, [40, 41, 42, 43, 68]), (5, [21, 22, 24, 25, 26, 27]), (17, [2, 5, 6, 20, 69])]),
   (67, []),
   (74, [(0, [10, 11]), (1, [12, 13]), (3, [14, 17]), (4, [18, 19, 20, 21, 22, 23, 24, 25, 26, 27, 28, 29, 30, 31, 32, 33]), (6, [34, 37, 38, 39, 40, 41, 42, 43, 44, 45, 46, 47, 48, 49, 50, 51, 52]), (5, [35, 36]), (2, [9, 15, 16, 34])]),
   (75, [(0, [13]), (2, [1, 2, 14, 15, 16]), (3, [17, 18, 19]), (4, [20]), (6, [21, 24, 25, 26, 27, 28, 29]), (5, [22, 23]), (7, [10, 11, 21, 30, 31]), (8, [32]), (10, [33, 36, 37, 38, 39, 40, 41, 42, 43, 44, 45, 46, 47, 48, 49, 50, 51, 52, 53]), (11, [54, 55, 56, 57, 58, 59]), (9, [34, 35])]),
   (76, [(0, [2, 3, 13, 14, 15]), (1, [16]), (2, [17, 18, 19]), (3, [20, 21]), (4, [22, 23, 24, 25, 26, 27]), (5, [28, 29, 30, 31, 32, 33, 34]), (7, [35, 38, 39, 40, 41, 42]), (8, [43, 44]), (9, [45, 46, 47, 48]), (10, [12, 45, 49, 50, 51, 52, 53, 54, 55, 56, 57, 58, 59, 60, 61, 62, 63, 64, 65, 66]), (6, [36, 37])]),
   (77, []),
   (78, [(0, [1, 3, 10]), (1, [2, 11, 12]), (2, [13, 14]), (3, [15, 16, 17, 18, 19, 20, 21, 22, 23, 24, 25, 26, 27, 28, 29]), (4, [30, 31]), (5, [32, 33])]),
   (79, [(0, [8]), (1, [13, 14]), (3, [15]), (5, [16, 19, 20, 21, 22, 23, 24, 25, 26, 27, 28, 29, 30, 31, 32, 33, 34, 35]), (6, [36, 37, 38]), (7, [36, 39, 40]), (8, [0, 1, 2, 3, 9, 10, 41]), (9, [41, 42, 43, 44]), (10, [0, 1, 2, 3, 9, 10, 45]), (11, [45, 46, 47, 48, 49, 50, 51, 52, 53, 54, 55, 56, 57, 58, 59, 60, 61]), (12, [62, 63, 64]), (13, [65, 66, 67]), (14, [68]), (16, [69, 72, 73, 74, 75, 76, 77, 78, 79, 80, 81, 82, 83]), (17, [84, 85, 86, 87, 88, 89, 90, 91, 92, 93, 94, 95, 96, 97, 98, 99, 100]), (15, [70, 71]), (18, [11, 65, 69, 84, 101, 102, 103]), (19, [104, 105, 106]), (20, [107, 108]), (22, [109, 112, 113, 114, 115, 116, 117, 118, 119, 120, 121, 122, 123]), (23, [124, 125, 126, 127, 128, 129, 130, 131, 132, 133, 134, 135, 136, 137, 138, 139, 140]), (21, [110, 111]), (4, [12, 17, 18, 104, 109, 124]), (24, [0, 1, 2, 3, 9, 10, 16])]),
   (80, [(0, [10]), (1, [3, 13, 14, 15, 16, 17, 18, 19, 20, 21, 22, 23, 24, 25, 26]), (2, [2, 27, 28, 29, 30]), (3, [31, 32, 33, 34, 35, 36, 37, 38, 39, 40, 41, 42, 43, 44, 45, 46]), (4, [47, 48, 49]), (5, [47, 50, 51, 52, 53, 54, 55, 56, 57, 58, 59, 60, 61, 62, 63, 64]), (6, [65, 66, 67]), (7, [65, 68, 69]), (8, [70, 71, 72, 73, 74, 75, 76, 77, 78, 79, 80, 81, 82, 83, 84]), (9, [85, 86]), (10, [87, 88]), (11, [0, 1, 4, 11, 12, 70, 89])]),
   (81, [(0, [10, 11]), (1, [3, 14, 15, 16, 17, 18, 19, 20, 21, 22, 23, 24, 25, 26, 27]), (2, [2, 28, 29, 30, 31]), (3, [32, 33, 34, 35, 36, 37, 38, 39, 40, 41, 42, 43, 44, 45, 46]), (4, [47, 48, 49]), (5, [47, 50, 51, 52, 53, 54, 55, 56, 57, 58, 59, 60, 61, 62, 63, 64, 65]), (6, [66, 67, 68]), (7, [66, 69, 70]), (8, [0, 1, 4, 12, 71, 72, 73, 74, 75, 76, 77, 78, 79, 80, 81, 82, 83, 84, 85]), (9, [13, 86]), (10, [71, 87, 88, 89, 90, 91, 92, 93, 94, 95, 96, 97, 98, 99, 100]), (11, [101, 102]), (12, [103, 104]), (13, [105, 106, 107, 108, 109, 110, 111, 112, 113, 114, 115, 116, 117, 118, 119]), (14, [120, 121, 122]), (15, [120, 123, 124, 125, 126, 127, 128, 129, 130, 131, 132, 133, 134, 135, 136, 137, 138]), (16, [139, 140, 141]), (17, [139, 142, 143]), (18, [144, 145, 146, 147, 148, 149, 150, 151, 152, 153, 154, 155, 156, 157, 158]), (19, [159, 160]), (20, [161, 162]), (21, [0, 1, 4, 12, 144, 163, 164, 165, 166, 167, 168, 169, 170, 171, 172, 173, 174, 175, 176]), (22, [13, 177])]),
   (82, []),
   (83, []),
   (84, [(0, [0, 2]), (1, [6, 7, 8]), (2, [9, 10, 11, 12, 13, 14]), (3, [16, 17, 18, 19, 20, 21, 22, 23, 24, 25, 26]), (4, [1, 3, 4, 15]), (5, [15, 28, 29, 30, 31, 32, 33, 34, 35, 36, 37, 38, 39]), (6, [1, 3, 4, 27]), (7, [27, 41, 42, 43, 44, 45, 46, 47, 48, 49, 50]), (8, [1, 3, 4, 40]), (9, [40]), (10, [51, 52]), (12, [53, 56, 57, 58, 59, 60, 61, 62, 63, 64, 65, 66, 67, 68, 69, 70, 71, 72, 73, 74, 75, 76, 77]), (13, [1, 3, 4, 5, 78]), (11, [54, 55, 78]), (14, [5, 53, 80, 81, 82, 83, 84, 85, 86, 87, 88]), (15, [1, 3, 4, 79]), (16, [79, 90, 91, 92, 93, 94, 95, 96, 97, 98, 99]), (17, [1, 3, 4, 89]), (18, [89, 101, 102, 103, 104, 105, 106, 107, 108, 109]), (19, [1, 3, 4, 100]), (20, [4, 100, 111, 112, 113, 114, 115, 116, 117, 118, 119]), (21, [1, 3, 110]), (22, [110, 121, 122, 123, 124, 125, 126, 127, 128]), (23, [1, 3, 120]), (24, [1, 3, 120, 130, 131, 132, 133, 134, 135, 136, 137, 138, 139]), (25, [129]), (26, [129])]),
   (85, []),
   (86, []),
   (87, [(0, [0, 4]), (3, [11, 12]), (4, [5, 13, 14, 15, 16, 17, 18, 19, 20, 21, 22]), (5, [23, 24, 25, 26]), (6, [1, 2, 6, 7, 10, 27]), (7, [7, 27]), (9, [30, 31]), (10, [9, 32, 33, 34, 35, 36, 37, 38, 39, 40, 41, 42, 43, 44, 45, 46, 47, 48]), (11, [1, 2, 6, 10, 28, 29, 49]), (12, [49, 50]), (13, [6, 28, 29, 30, 51]), (14, [1, 2, 10, 11])]),
   (88, [(0, [4]), (1, [9]), (2, [10, 11]), (3, [1, 10, 12, 13, 14, 15, 16, 17, 18, 19, 20]), (4, [5, 21, 22, 23, 24, 25]), (5, [26, 27]), (6, [6, 26, 28, 29, 30]), (7, [0, 31, 32, 33]), (8, [34, 35, 36]), (9, [37, 38, 39, 40, 41, 42, 43, 44, 45, 46]), (10, [7, 8, 37, 47])]),
   (91, [(0, [1, 12]), (1, [13, 14, 15]), (2, [16, 17]), (3, [18, 19, 20, 21, 22, 23, 24, 25, 26, 27, 28, 29, 30, 31, 32, 33, 34, 35, 36, 37, 38, 39]), (4, [40, 41, 42]), (5, [40, 43, 44, 45, 46, 47, 48, 49, 50, 51, 52, 53, 54, 55, 56, 57]), (6, [10, 58, 59, 60, 61, 62, 63, 64, 65, 66, 67, 68, 69, 70, 71, 72, 73, 74, 75, 76, 77, 78, 79, 80]), (7, [11, 81])]),
   (92, []),
   (93, []),
   (94, []),
   (95, []),
   (96, [(0, [0, 4]), (3, [7, 8, 9, 10]), (5, [11, 14, 15, 16, 17, 18, 19, 20, 21, 22, 23, 24, 25, 26, 27, 28, 29, 30]), (6, [31, 32, 33]), (4, [12, 13, 31]), (7, [1, 2, 5, 6, 11, 34])]),
   (97, []),
   (98, [(0, [4]), (1, [6]), (3, [9, 10]), (4, [11, 12, 13, 14, 15]), (5, [0, 1, 5, 7, 8, 16, 17]), (6, [5, 16, 18]), (7, [0, 1, 7, 8, 9])]),
   (99, []),
   (100, []),
   (101, []),
   (102, []),
   (103, [(0, [0, 4]), (3, [9, 10]), (4, [5, 11, 12, 13, 14, 15, 16]), (5, [6, 7, 17, 18, 19, 20, 21, 22, 23, 24, 25, 26, 27, 28, 29, 30]), (6, [1, 2, 3, 8, 31]), (7, [31, 32]), (8, [1, 2, 3, 8, 9])]),
   (104, []),
   (105, []),
   (106, []),
   (125, [])]
def impTab : List (Nat × Nat) := [(66, 88), (36, 47), (47, 58), (58, 74), (15, 27), (16, 29), (29, 42)]
def asPairs : List (Nat × Nat) := [(96, 98)]
def bfT : Nat := 1000000
def sentT : Nat := 1000000
def handleV : Value := .iface 142 (.agg #[.pointer (some ⟨1, 94, none⟩)])
/-- errors.As, at what this program hands it. -/
def prim_errors_As : List SV → Mem → Option (SV × Mem)
  | [.nili, .iface _ _], M => some (.bool false, M)
  | [.iface t (.rptr items i o st), .iface u (.ptr id 0 0)], M =>
    if asPairs.contains (t, u) then (match M.blk id with
      | some [y] => if y.cells.length = 1 then some (.bool true, M.set id (some [.rptr items i o st])) else none
      | _ => none) else none
  | _, _ => none
/-- errors.Is, at what this program hands it. -/
def prim_errors_Is : List SV → Mem → Option (SV × Mem)
  | [.iface t (.rptr [.agg [.int .i64 _, .iface c x]] 0 0 _), .iface c' y], M =>
    if t = T_p_plan_fault ∧ c = T_plan_code ∧ c' = T_plan_code then (match x, y with
      | .int .i64 m, .int .i64 n => some (.bool (m == n), M)
      | _, _ => none)
    else none
  | _, _ => none

def primOf : Nat → Option (List SV → Mem → Option (SV × Mem)) := fun f => if f = n_errors_As then some prim_errors_As else if f = n_errors_Is then some prim_errors_Is else none
noncomputable def ES : Env := { P := Tryz.prog, G := fun _ => none, prim := primOf, imp := fun a b => impTab.contains (a, b), dead := fun me id => (((deadTab.lookup me).getD []).lookup id).getD [], raw := fun n => if n = 0 then some handleV else none, sent := fun _ => false }
theorem npF {f : Nat} (h : ((primOf f).isNone && impTab.all fun p => p.2 != f) = true) : ∀ me, ((ES.prim f).isSome || ES.imp me f) = false := by
  intro me
  have h1 : ES.prim f = primOf f := rfl
  have h2 : ES.imp me f = impTab.contains (me, f) := rfl
  rw [h1, h2]
  simp only [Bool.and_eq_true, List.all_eq_true] at h
  obtain ⟨h3, h4⟩ := h
  have h5 : impTab.contains (me, f) = false := by
    cases hc : impTab.contains (me, f) with
    | false => rfl
    | true =>
      have := h4 _ (List.contains_iff_mem.1 hc)
      simp at this
  rw [h5]
  cases hp : primOf f with
  | none => rfl
  | some p => rw [hp] at h3; cases h3
@[simp] theorem sn_ : ES.sent T_ = false := by rfl
@[simp] theorem sn_func : ES.sent T_func = false := by rfl
@[simp] theorem sn_int64 : ES.sent T_int64 = false := by rfl
@[simp] theorem sn_int : ES.sent T_int = false := by rfl
@[simp] theorem sn_bool : ES.sent T_bool = false := by rfl
@[simp] theorem sn_uint8 : ES.sent T_uint8 = false := by rfl
@[simp] theorem sn_internal_abi_BoundsErrorCode : ES.sent T_internal_abi_BoundsErrorCode = false := by rfl
@[simp] theorem sn_struct_x_int64_y_int_signed_bool_code_abi_BoundsErrorCode : ES.sent T_struct_x_int64_y_int_signed_bool_code_abi_BoundsErrorCode = false := by rfl
@[simp] theorem sn_runtime_boundsError : ES.sent T_runtime_boundsError = false := by rfl
@[simp] theorem sn_string : ES.sent T_string = false := by rfl
@[simp] theorem sn_runtime_errorString : ES.sent T_runtime_errorString = false := by rfl
@[simp] theorem sn_runtime_plainError : ES.sent T_runtime_plainError = false := by rfl
@[simp] theorem sn_uintptr : ES.sent T_uintptr = false := by rfl
@[simp] theorem sn_interface : ES.sent T_interface = false := by rfl
@[simp] theorem sn_sl_api_Part : ES.sent T_sl_api_Part = false := by rfl
@[simp] theorem sn_sl_api_Link : ES.sent T_sl_api_Link = false := by rfl
@[simp] theorem sn_api_Config : ES.sent T_api_Config = false := by rfl
@[simp] theorem sn_sl_api_Cell : ES.sent T_sl_api_Cell = false := by rfl
@[simp] theorem sn_sl_api_Far : ES.sent T_sl_api_Far = false := by rfl
@[simp] theorem sn_sl_api_Port : ES.sent T_sl_api_Port = false := by rfl
@[simp] theorem sn_api_Port : ES.sent T_api_Port = false := by rfl
@[simp] theorem sn_sl_int : ES.sent T_sl_int = false := by rfl
@[simp] theorem sn_api_Node : ES.sent T_api_Node = false := by rfl
@[simp] theorem sn_sl_api_Node : ES.sent T_sl_api_Node = false := by rfl
@[simp] theorem sn_api_Guard : ES.sent T_api_Guard = false := by rfl
@[simp] theorem sn_api_Cell : ES.sent T_api_Cell = false := by rfl
@[simp] theorem sn_api_Far : ES.sent T_api_Far = false := by rfl
@[simp] theorem sn_a2_int : ES.sent T_a2_int = false := by rfl
@[simp] theorem sn_api_Link : ES.sent T_api_Link = false := by rfl
@[simp] theorem sn_uint : ES.sent T_uint = false := by rfl
@[simp] theorem sn_api_Part : ES.sent T_api_Part = false := by rfl
@[simp] theorem sn_p_api_Config : ES.sent T_p_api_Config = false := by rfl
@[simp] theorem sn_api_Errno : ES.sent T_api_Errno = false := by rfl
@[simp] theorem sn_func_api_Port_api_Port_int : ES.sent T_func_api_Port_api_Port_int = false := by rfl
@[simp] theorem sn_error : ES.sent T_error = false := by rfl
@[simp] theorem sn_p_plan_fault : ES.sent T_p_plan_fault = false := by rfl
@[simp] theorem sn_p_p_plan_fault : ES.sent T_p_p_plan_fault = false := by rfl
@[simp] theorem sn_sl_api_Errno : ES.sent T_sl_api_Errno = false := by rfl
@[simp] theorem sn_plan_code : ES.sent T_plan_code = false := by rfl
@[simp] theorem sn_plan_fault : ES.sent T_plan_fault = false := by rfl
@[simp] theorem sn_slices_sortedHint : ES.sent T_slices_sortedHint = false := by rfl
@[simp] theorem sn_uint32 : ES.sent T_uint32 = false := by rfl
@[simp] theorem sn_uint64 : ES.sent T_uint64 = false := by rfl
@[simp] theorem sn_func_api_Link_bool : ES.sent T_func_api_Link_bool = false := by rfl
@[simp] theorem sn_sl_a2_int : ES.sent T_sl_a2_int = false := by rfl
@[simp] theorem sn_slices_xorshift : ES.sent T_slices_xorshift = false := by rfl
@[simp] theorem sn_p_int : ES.sent T_p_int = false := by rfl
@[simp] theorem sn_p_slices_xorshift : ES.sent T_p_slices_xorshift = false := by rfl
@[simp] theorem ti_ : tiOf ES.P T_ = some ⟨.other, 1, 0, (some (.tup []))⟩ := by kernel_rfl
@[simp] theorem ti_func : tiOf ES.P T_func = some ⟨.func, 1, 8, (some .nilf)⟩ := by kernel_rfl
@[simp] theorem ti_int64 : tiOf ES.P T_int64 = some ⟨(.int .i64), 1, 8, (some (.int .i64 0))⟩ := by kernel_rfl
@[simp] theorem ti_int : tiOf ES.P T_int = some ⟨(.int .i64), 1, 8, (some (.int .i64 0))⟩ := by kernel_rfl
@[simp] theorem ti_bool : tiOf ES.P T_bool = some ⟨.bool, 1, 1, (some (.bool false))⟩ := by kernel_rfl
@[simp] theorem ti_uint8 : tiOf ES.P T_uint8 = some ⟨(.int .u8), 1, 1, (some (.int .u8 0))⟩ := by kernel_rfl
@[simp] theorem ti_internal_abi_BoundsErrorCode : tiOf ES.P T_internal_abi_BoundsErrorCode = some ⟨(.int .u8), 1, 1, (some (.int .u8 0))⟩ := by kernel_rfl
@[simp] theorem ti_struct_x_int64_y_int_signed_bool_code_abi_BoundsErrorCode : tiOf ES.P T_struct_x_int64_y_int_signed_bool_code_abi_BoundsErrorCode = some ⟨(.struct [(T_int64, 0), (T_int, 1), (T_bool, 2), (T_internal_abi_BoundsErrorCode, 3)]), 4, 24, (some (.agg [(.int .i64 0), (.int .i64 0), (.bool false), (.int .u8 0)]))⟩ := by kernel_rfl
@[simp] theorem ti_runtime_boundsError : tiOf ES.P T_runtime_boundsError = some ⟨(.struct [(T_int64, 0), (T_int, 1), (T_bool, 2), (T_internal_abi_BoundsErrorCode, 3)]), 4, 24, (some (.agg [(.int .i64 0), (.int .i64 0), (.bool false), (.int .u8 0)]))⟩ := by kernel_rfl
@[simp] theorem ti_string : tiOf ES.P T_string = some ⟨.str, 1, 16, (some (.str ByteArray.empty))⟩ := by kernel_rfl
@[simp] theorem ti_runtime_errorString : tiOf ES.P T_runtime_errorString = some ⟨.str, 1, 16, (some (.str ByteArray.empty))⟩ := by kernel_rfl
@[simp] theorem ti_runtime_plainError : tiOf ES.P T_runtime_plainError = some ⟨.str, 1, 16, (some (.str ByteArray.empty))⟩ := by kernel_rfl
@[simp] theorem ti_uintptr : tiOf ES.P T_uintptr = some ⟨(.int .u64), 1, 8, (some (.int .u64 0))⟩ := by kernel_rfl
@[simp] theorem ti_interface : tiOf ES.P T_interface = some ⟨.iface, 1, 16, (some .nili)⟩ := by kernel_rfl
@[simp] theorem ti_sl_api_Part : tiOf ES.P T_sl_api_Part = some ⟨(.slice T_api_Part), 1, 24, (some .nilsl)⟩ := by kernel_rfl
@[simp] theorem ti_sl_api_Link : tiOf ES.P T_sl_api_Link = some ⟨(.slice T_api_Link), 1, 24, (some .nilsl)⟩ := by kernel_rfl
@[simp] theorem ti_api_Config : tiOf ES.P T_api_Config = some ⟨(.struct [(T_sl_api_Part, 0), (T_sl_api_Link, 1), (T_int, 2), (T_int, 3), (T_int, 4), (T_int, 5), (T_int, 6), (T_int, 7), (T_int, 8), (T_int, 9), (T_int, 10), (T_int, 11), (T_int, 12)]), 13, 136, (some (.agg [.nilsl, .nilsl, (.int .i64 0), (.int .i64 0), (.int .i64 0), (.int .i64 0), (.int .i64 0), (.int .i64 0), (.int .i64 0), (.int .i64 0), (.int .i64 0), (.int .i64 0), (.int .i64 0)]))⟩ := by kernel_rfl
@[simp] theorem ti_sl_api_Cell : tiOf ES.P T_sl_api_Cell = some ⟨(.slice T_api_Cell), 1, 24, (some .nilsl)⟩ := by kernel_rfl
@[simp] theorem ti_sl_api_Far : tiOf ES.P T_sl_api_Far = some ⟨(.slice T_api_Far), 1, 24, (some .nilsl)⟩ := by kernel_rfl
@[simp] theorem ti_sl_api_Port : tiOf ES.P T_sl_api_Port = some ⟨(.slice T_api_Port), 1, 24, (some .nilsl)⟩ := by kernel_rfl
@[simp] theorem ti_api_Port : tiOf ES.P T_api_Port = some ⟨(.struct [(T_int, 0), (T_int, 1), (T_int, 2), (T_int, 3)]), 4, 32, (some (.agg [(.int .i64 0), (.int .i64 0), (.int .i64 0), (.int .i64 0)]))⟩ := by kernel_rfl
@[simp] theorem ti_sl_int : tiOf ES.P T_sl_int = some ⟨(.slice T_int), 1, 24, (some .nilsl)⟩ := by kernel_rfl
@[simp] theorem ti_api_Node : tiOf ES.P T_api_Node = some ⟨(.struct [(T_int, 0), (T_int, 1), (T_int, 2), (T_int64, 3), (T_int64, 4), (T_sl_int, 5), (T_int, 6), (T_int, 7)]), 8, 80, (some (.agg [(.int .i64 0), (.int .i64 0), (.int .i64 0), (.int .i64 0), (.int .i64 0), .nilsl, (.int .i64 0), (.int .i64 0)]))⟩ := by kernel_rfl
@[simp] theorem ti_sl_api_Node : tiOf ES.P T_sl_api_Node = some ⟨(.slice T_api_Node), 1, 24, (some .nilsl)⟩ := by kernel_rfl
@[simp] theorem ti_api_Guard : tiOf ES.P T_api_Guard = some ⟨(.struct [(T_bool, 0), (T_int64, 1), (T_sl_int, 2)]), 3, 40, (some (.agg [(.bool false), (.int .i64 0), .nilsl]))⟩ := by kernel_rfl
@[simp] theorem ti_api_Cell : tiOf ES.P T_api_Cell = some ⟨(.struct [(T_sl_api_Node, 0), (T_api_Guard, 1)]), 4, 64, (some (.agg [.nilsl, (.bool false), (.int .i64 0), .nilsl]))⟩ := by kernel_rfl
@[simp] theorem ti_api_Far : tiOf ES.P T_api_Far = some ⟨(.struct [(T_bool, 0), (T_int64, 1), (T_int64, 2), (T_sl_int, 3)]), 4, 48, (some (.agg [(.bool false), (.int .i64 0), (.int .i64 0), .nilsl]))⟩ := by kernel_rfl
@[simp] theorem ti_a2_int : tiOf ES.P T_a2_int = some ⟨(.arr 2 T_int), 2, 16, (some (.agg [(.int .i64 0), (.int .i64 0)]))⟩ := by kernel_rfl
@[simp] theorem ti_api_Link : tiOf ES.P T_api_Link = some ⟨(.struct [(T_int, 0), (T_int, 1), (T_a2_int, 2), (T_a2_int, 4)]), 6, 48, (some (.agg [(.int .i64 0), (.int .i64 0), (.int .i64 0), (.int .i64 0), (.int .i64 0), (.int .i64 0)]))⟩ := by kernel_rfl
@[simp] theorem ti_uint : tiOf ES.P T_uint = some ⟨(.int .u64), 1, 8, (some (.int .u64 0))⟩ := by kernel_rfl
@[simp] theorem ti_api_Part : tiOf ES.P T_api_Part = some ⟨(.struct [(T_int, 0), (T_int, 1)]), 2, 16, (some (.agg [(.int .i64 0), (.int .i64 0)]))⟩ := by kernel_rfl
@[simp] theorem ti_p_api_Config : tiOf ES.P T_p_api_Config = some ⟨.ptr, 1, 8, (some .nilp)⟩ := by kernel_rfl
@[simp] theorem ti_api_Errno : tiOf ES.P T_api_Errno = some ⟨(.int .i64), 1, 8, (some (.int .i64 0))⟩ := by kernel_rfl
@[simp] theorem ti_func_api_Port_api_Port_int : tiOf ES.P T_func_api_Port_api_Port_int = some ⟨.func, 1, 8, (some .nilf)⟩ := by kernel_rfl
@[simp] theorem ti_error : tiOf ES.P T_error = some ⟨.iface, 1, 16, (some .nili)⟩ := by kernel_rfl
@[simp] theorem ti_p_plan_fault : tiOf ES.P T_p_plan_fault = some ⟨.ptr, 1, 8, (some .nilp)⟩ := by kernel_rfl
@[simp] theorem ti_p_p_plan_fault : tiOf ES.P T_p_p_plan_fault = some ⟨.ptr, 1, 8, (some .nilp)⟩ := by kernel_rfl
@[simp] theorem ti_sl_api_Errno : tiOf ES.P T_sl_api_Errno = some ⟨(.slice T_api_Errno), 1, 24, (some .nilsl)⟩ := by kernel_rfl
@[simp] theorem ti_plan_code : tiOf ES.P T_plan_code = some ⟨(.int .i64), 1, 8, (some (.int .i64 0))⟩ := by kernel_rfl
@[simp] theorem ti_plan_fault : tiOf ES.P T_plan_fault = some ⟨(.struct [(T_int, 0), (T_error, 1)]), 2, 24, (some (.agg [(.int .i64 0), .nili]))⟩ := by kernel_rfl
@[simp] theorem ti_slices_sortedHint : tiOf ES.P T_slices_sortedHint = some ⟨(.int .i64), 1, 8, (some (.int .i64 0))⟩ := by kernel_rfl
@[simp] theorem ti_uint32 : tiOf ES.P T_uint32 = some ⟨(.int .u32), 1, 4, (some (.int .u32 0))⟩ := by kernel_rfl
@[simp] theorem ti_uint64 : tiOf ES.P T_uint64 = some ⟨(.int .u64), 1, 8, (some (.int .u64 0))⟩ := by kernel_rfl
@[simp] theorem ti_func_api_Link_bool : tiOf ES.P T_func_api_Link_bool = some ⟨.func, 1, 8, (some .nilf)⟩ := by kernel_rfl
@[simp] theorem ti_sl_a2_int : tiOf ES.P T_sl_a2_int = some ⟨(.slice T_a2_int), 1, 24, (some .nilsl)⟩ := by kernel_rfl
@[simp] theorem ti_slices_xorshift : tiOf ES.P T_slices_xorshift = some ⟨(.int .u64), 1, 8, (some (.int .u64 0))⟩ := by kernel_rfl
@[simp] theorem ti_p_int : tiOf ES.P T_p_int = some ⟨.ptr, 1, 8, (some .nilp)⟩ := by kernel_rfl
@[simp] theorem ti_p_slices_xorshift : tiOf ES.P T_p_slices_xorshift = some ⟨.ptr, 1, 8, (some .nilp)⟩ := by kernel_rfl
end Go.Proofs.YtljjmdcdlcefmaaGreatDoor
