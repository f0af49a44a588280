/-
  The seat's types and environment (printed by a program of the claim's own).
-/
import Derived.Test.YtedmidpnfnhnlaaRows
import Derived.Test.YtedmidpnfnhnlaaShMb
set_option linter.unusedVariables false
set_option maxRecDepth 100000
namespace Go.Proofs.Ytedmidpnfnhnlaa
open Go.Proofs.Ytedmidpnfnhnlaa.Sh
def n_l13_MiddleTells : Nat := 3
def n_l13_MiddleTurned : Nat := 4
def n_l13_MiddleWithin : Nat := 5
def n_l13_MiddleNear : Nat := 6
def n_l13_MiddleHalves : Nat := 7
def n_l13_alive : Nat := 8
def n_middle_Cut : Nat := 9
def n_r10_Cut : Nat := 10
def n_middle_Mid : Nat := 11
def n_r10_Mid : Nat := 12
def n_r1_SameLongs : Nat := 13
def n_slices_Clone_sl_int64_int64 : Nat := 14
def n_slices_Sort_sl_int64_int64 : Nat := 15
def n_r10_sorted : Nat := 16
def n_slices_ContainsFunc_sl_int64_int64 : Nat := 17
def n_middle_Mid_1 : Nat := 18
def n_ticks_Time : Nat := 19
def n_ticks_Floor : Nat := 20
def n_r10_times : Nat := 21
def n_r1_Floor : Nat := 22
def n_slices_pdqsortOrdered_int64 : Nat := 23
def n_math_bits_Len : Nat := 24
def n_slices_IndexFunc_sl_int64_int64 : Nat := 25
def n_r1_Time : Nat := 26
def n_slices_insertionSortOrdered_int64 : Nat := 27
def n_slices_heapSortOrdered_int64 : Nat := 28
def n_slices_breakPatternsOrdered_int64 : Nat := 29
def n_slices_choosePivotOrdered_int64 : Nat := 30
def n_slices_reverseRangeOrdered_int64 : Nat := 31
def n_slices_partialInsertionSortOrdered_int64 : Nat := 32
def n_cmp_Less_int64 : Nat := 33
def n_slices_partitionEqualOrdered_int64 : Nat := 34
def n_slices_partitionOrdered_int64 : Nat := 35
def n_math_bits_Len32 : Nat := 36
def n_math_bits_Len64 : Nat := 37
def n_slices_siftDownOrdered_int64 : Nat := 38
def n_slices_nextPowerOfTwo : Nat := 39
def n_p_slices_xorshift_Next : Nat := 40
def n_slices_medianAdjacentOrdered_int64 : Nat := 41
def n_slices_medianOrdered_int64 : Nat := 42
def n_cmp_isNaN_int64 : Nat := 43
def n_slices_order2Ordered_int64 : Nat := 44
def T_ : Nat := 0
def T_func : Nat := 1
def T_int64 : Nat := 2
def T_int : Nat := 3
def T_bool : Nat := 4
def T_uint8 : Nat := 5
def T_string : Nat := 9
def T_int32 : Nat := 21
def T_sl_int64 : Nat := 22
def T_sl_int32 : Nat := 30
def T_sl_int16 : Nat := 33
def T_int16 : Nat := 34
def T_sl_uint16 : Nat := 36
def T_a2_sl_int32 : Nat := 37
def T_uint16 : Nat := 38
def T_func_int64_bool : Nat := 43
def T_uint : Nat := 48
def T_slices_sortedHint : Nat := 51
def T_uint32 : Nat := 60
def T_uint64 : Nat := 62
def T_slices_xorshift : Nat := 63
def T_p_int : Nat := 67
def T_p_slices_xorshift : Nat := 69
def deadTab : List (Nat × List (Nat × List Nat)) :=
  [(3, []),
   (4, [(0, [6]), (1, [1, 18, 19, 20]), (2, [21, 22, 23, 24, 25, 26]), (3, [0, 2, 7, 27, 28]), (4, [27]), (6, [29, 30, 31]), (8, [32, 35, 36, 37, 38, 39, 40, 41, 42]), (9, [43, 44, 45, 46, 47, 48, 49, 50, 51, 52, 53, 54]), (10, [55, 56, 57, 58, 59, 60, 61, 62, 63, 64, 65]), (7, [33, 34]), (11, [8, 11, 32, 66, 67, 68, 69, 70, 71]), (12, [9, 72, 73, 74, 75, 76, 77]), (13, [10, 78, 79, 80, 81, 82, 83]), (14, [0, 7, 84, 85, 86, 87, 88]), (15, [2, 12, 13, 14, 15, 16, 17, 89, 90, 91, 92, 93, 94, 95, 96, 97, 98, 99]), (16, [2, 12, 13, 14, 15, 16, 17, 89, 100, 101, 102, 103, 104, 105, 106, 107, 108, 109, 110, 111, 112, 113, 114, 115, 116, 117, 118, 119])]),
   (5, [(0, [6]), (1, [2, 16, 17, 18]), (2, [19, 20, 21, 22, 23, 24, 25, 26, 27, 28, 29, 30, 31, 32, 33, 34, 35, 36, 37]), (3, [0, 1, 7, 38, 39]), (4, [38, 40, 41, 42, 43, 44, 45, 46, 47]), (7, [48, 49, 50]), (9, [51, 54, 55, 56, 57, 58]), (10, [59, 60, 61, 62, 63, 64]), (11, [12, 65, 66, 67, 68]), (8, [52, 53]), (12, [0, 11, 51]), (13, [69, 70, 71]), (15, [72, 75, 76, 77, 78, 79, 80, 81, 82, 83, 84, 85]), (16, [1, 7, 8, 9, 10, 13, 86]), (17, [86, 87, 88, 89, 90, 91, 92, 93, 94]), (14, [73, 74]), (18, [1, 13, 72, 95, 96, 97, 98, 99, 100]), (19, [7, 10, 101, 102, 103, 104, 105]), (20, [8, 9, 14, 15, 106, 107, 108]), (21, [8, 9, 14, 15, 106, 109, 110, 111, 112, 113, 114, 115, 116, 117, 118, 119])]),
   (6, [(0, [8]), (1, [2, 3, 18, 19, 20, 21, 22]), (2, [23, 24, 25, 26, 27, 28, 29, 30, 31, 32, 33, 34, 35, 36, 37, 38, 39, 40, 41, 42, 43]), (3, [0, 1, 9, 10, 44, 45]), (4, [44]), (6, [46, 47, 48]), (8, [49, 52, 53, 54, 55, 56, 57, 58, 59]), (9, [60, 61, 62, 63, 64, 65, 66, 67, 68, 69, 70, 71, 72, 73, 74, 75, 76]), (7, [50, 51]), (10, [0, 1, 11, 13, 49, 77, 78, 79, 80, 81, 82]), (11, [9, 12, 83, 84, 85, 86, 87, 88]), (12, [10, 14, 15, 16, 17, 89, 90, 91, 92, 93, 94, 95, 96, 97, 98, 99, 100, 101, 102, 103, 104, 105, 106])]),
   (7, [(0, [2, 10]), (1, [3, 4, 25, 26, 27, 28, 29]), (2, [30, 31, 32, 33, 34, 35, 36, 37, 38, 39, 40, 41, 42, 43, 44, 45, 46, 47, 48, 49, 50, 51, 52, 53, 54, 55, 56, 57, 58, 59, 60, 61, 62, 63, 64]), (3, [0, 1, 7, 11, 12, 65, 66]), (4, [65]), (7, [67, 68, 69]), (9, [70, 73, 74, 75, 76, 77, 78, 79, 80, 81, 82, 83, 84, 85, 86, 87, 88, 89, 90, 91]), (10, [92, 93]), (11, [94, 95, 96, 97, 98, 99, 100, 101, 102, 103, 104, 105, 106]), (12, [94, 107, 108]), (13, [109, 110, 111, 112, 113, 114, 115]), (14, [109, 116, 117, 118, 119, 120, 121, 122, 123]), (15, [18, 124, 125, 126, 127]), (16, [19, 128, 129, 130, 131]), (8, [71, 72]), (17, [0, 1, 7, 13, 17, 70, 132, 133, 134, 135, 136, 137]), (18, [11, 14, 138, 139, 140, 141, 142, 143]), (19, [12, 15, 16, 144, 145, 146, 147, 148, 149, 150]), (20, [20, 21, 22, 23, 24, 151, 152, 153, 154, 155, 156, 157, 158, 159, 160, 161, 162, 163, 164, 165, 166, 167, 168])]),
   (8, []),
   (9, []),
   (10, []),
   (11, []),
   (12, []),
   (13, [(0, [4]), (1, [6, 7, 8, 9]), (2, [0, 1, 10]), (3, [10]), (4, [11, 12, 13]), (6, [14, 17, 18, 19, 20, 21, 22, 23, 24]), (7, [0, 1, 5, 25]), (5, [15, 16, 25]), (8, [0, 1, 5, 14])]),
   (14, []),
   (15, []),
   (16, [(0, [2]), (3, [6, 7, 8]), (5, [9]), (6, [12, 13, 14, 15, 16, 17, 18, 19, 20, 21, 22, 23, 24, 25]), (7, [26, 27, 28]), (8, [5, 26, 29, 30, 31, 32, 33, 34, 35, 36, 37, 38, 39, 40, 41, 42]), (4, [10, 11]), (9, [0, 3, 4, 9, 43])]),
   (17, []),
   (18, []),
   (19, []),
   (20, []),
   (21, [(0, [2]), (2, [4, 5, 6]), (4, [7, 10, 11, 12, 13, 14]), (5, [0, 3, 15]), (3, [8, 9, 15]), (6, [0, 3, 7])]),
   (22, []),
   (23, [(2, [19, 20, 21]), (3, [22]), (4, [0, 1, 2, 3, 8, 9, 10, 23, 24, 25, 26, 27]), (5, [23, 28]), (6, [0, 1, 2, 3, 8, 9, 10, 29, 30, 31, 32, 33]), (7, [29, 34]), (8, [35, 36, 37, 38, 39]), (9, [40, 41]), (10, [35, 42, 43, 44, 45, 46, 47, 48]), (11, [49]), (12, [12, 50, 51, 52, 53, 54]), (13, [55, 56, 57, 58, 59, 60]), (15, [12, 50, 61, 62, 63, 64, 65, 66, 67]), (16, [68, 69, 70, 71]), (17, [68, 72, 73, 74, 75, 76, 77, 78, 79, 80, 81, 82, 83, 84, 85, 86]), (18, [1, 10, 11, 87, 88, 89, 90, 91, 92]), (19, [13, 93]), (20, [8, 9, 11, 87, 94, 95, 96, 97, 98, 99, 100, 101]), (21, [15, 102]), (22, [103, 104, 105, 106, 107, 108]), (23, [10, 109, 110]), (24, [111, 112]), (25, [16, 17, 18, 113, 114, 115, 116]), (26, [1, 117, 118, 119, 120, 121]), (27, [14, 122, 123]), (28, [16, 17, 18, 113, 124, 125, 126]), (29, [2, 127, 128, 129, 130, 131, 132]), (30, [14, 133])]),
   (24, []),
   (25, [(0, [4]), (1, [6]), (3, [9, 10]), (4, [11, 12, 13, 14, 15]), (5, [0, 1, 5, 7, 8, 16, 17]), (6, [5, 16, 18]), (7, [0, 1, 7, 8, 9])]),
   (26, []),
   (27, [(0, [8, 9]), (1, [10, 11]), (3, [12, 15]), (4, [16, 17, 18, 19, 20, 21, 22, 23, 24, 25, 26, 27, 28, 29]), (6, [30, 33, 34, 35, 36, 37, 38, 39, 40, 41, 42, 43, 44, 45, 46, 47, 48]), (5, [31, 32]), (2, [7, 13, 14, 30])]),
   (28, [(0, [11]), (2, [1, 2, 12, 13, 14]), (3, [15, 16, 17]), (4, [18]), (6, [19, 22, 23, 24, 25, 26]), (5, [20, 21]), (7, [8, 9, 19, 27, 28]), (8, [29]), (10, [30, 33, 34, 35, 36, 37, 38, 39, 40, 41, 42, 43, 44, 45, 46, 47, 48, 49, 50]), (11, [51, 52, 53, 54, 55]), (9, [31, 32])]),
   (29, [(0, [2, 11, 12, 13]), (1, [14]), (2, [15, 16, 17]), (3, [18, 19]), (4, [20, 21, 22, 23, 24, 25]), (5, [26, 27, 28, 29, 30, 31, 32]), (7, [33, 36, 37, 38, 39, 40]), (8, [41, 42]), (9, [43, 44, 45, 46]), (10, [10, 43, 47, 48, 49, 50, 51, 52, 53, 54, 55, 56, 57, 58, 59, 60, 61, 62, 63, 64]), (6, [34, 35])]),
   (30, []),
   (31, [(0, [1, 8]), (1, [2, 9, 10]), (2, [11, 12]), (3, [13, 14, 15, 16, 17, 18, 19, 20, 21, 22, 23, 24, 25, 26, 27]), (4, [28, 29]), (5, [30, 31])]),
   (32, [(0, [6]), (1, [11, 12]), (3, [13]), (5, [14, 17, 18, 19, 20, 21, 22, 23, 24, 25, 26, 27, 28, 29, 30, 31]), (6, [32, 33, 34]), (7, [32, 35, 36]), (8, [0, 1, 2, 7, 8, 37]), (9, [37, 38, 39, 40]), (10, [0, 1, 2, 7, 8, 41]), (11, [41, 42, 43, 44, 45, 46, 47, 48, 49, 50, 51, 52, 53, 54, 55, 56, 57]), (12, [58, 59, 60]), (13, [61, 62, 63]), (14, [64]), (16, [65, 68, 69, 70, 71, 72, 73, 74, 75, 76, 77]), (17, [78, 79, 80, 81, 82, 83, 84, 85, 86, 87, 88, 89, 90, 91, 92, 93, 94]), (15, [66, 67]), (18, [9, 61, 65, 78, 95, 96, 97]), (19, [98, 99, 100]), (20, [101, 102]), (22, [103, 106, 107, 108, 109, 110, 111, 112, 113, 114, 115]), (23, [116, 117, 118, 119, 120, 121, 122, 123, 124, 125, 126, 127, 128, 129, 130, 131, 132]), (21, [104, 105]), (4, [10, 15, 16, 98, 103, 116]), (24, [0, 1, 2, 7, 8, 14])]),
   (33, []),
   (34, [(0, [8]), (1, [3, 11, 12, 13, 14, 15, 16, 17, 18, 19, 20, 21, 22, 23, 24]), (2, [2, 25, 26, 27, 28]), (3, [29, 30, 31, 32, 33, 34, 35, 36, 37, 38, 39, 40, 41, 42]), (4, [43, 44, 45]), (5, [43, 46, 47, 48, 49, 50, 51, 52, 53, 54, 55, 56, 57, 58]), (6, [59, 60, 61]), (7, [59, 62, 63]), (8, [64, 65, 66, 67, 68, 69, 70, 71, 72, 73, 74, 75, 76, 77, 78]), (9, [79, 80]), (10, [81, 82]), (11, [0, 1, 9, 10, 64, 83])]),
   (35, [(0, [8, 9]), (1, [3, 12, 13, 14, 15, 16, 17, 18, 19, 20, 21, 22, 23, 24, 25]), (2, [2, 26, 27, 28, 29]), (3, [30, 31, 32, 33, 34, 35, 36, 37, 38, 39, 40, 41, 42]), (4, [43, 44, 45]), (5, [43, 46, 47, 48, 49, 50, 51, 52, 53, 54, 55, 56, 57, 58, 59]), (6, [60, 61, 62]), (7, [60, 63, 64]), (8, [0, 1, 10, 65, 66, 67, 68, 69, 70, 71, 72, 73, 74, 75, 76, 77, 78, 79]), (9, [11, 80]), (10, [65, 81, 82, 83, 84, 85, 86, 87, 88, 89, 90, 91, 92, 93, 94]), (11, [95, 96]), (12, [97, 98]), (13, [99, 100, 101, 102, 103, 104, 105, 106, 107, 108, 109, 110, 111]), (14, [112, 113, 114]), (15, [112, 115, 116, 117, 118, 119, 120, 121, 122, 123, 124, 125, 126, 127, 128]), (16, [129, 130, 131]), (17, [129, 132, 133]), (18, [134, 135, 136, 137, 138, 139, 140, 141, 142, 143, 144, 145, 146, 147, 148]), (19, [149, 150]), (20, [151, 152]), (21, [0, 1, 10, 134, 153, 154, 155, 156, 157, 158, 159, 160, 161, 162, 163, 164, 165, 166]), (22, [11, 167])]),
   (36, []),
   (37, []),
   (38, [(0, [1, 10]), (1, [11, 12, 13]), (2, [14, 15]), (3, [16, 17, 18, 19, 20, 21, 22, 23, 24, 25, 26, 27, 28, 29, 30, 31, 32, 33, 34, 35]), (4, [36, 37, 38]), (5, [36, 39, 40, 41, 42, 43, 44, 45, 46, 47, 48, 49, 50, 51]), (6, [8, 52, 53, 54, 55, 56, 57, 58, 59, 60, 61, 62, 63, 64, 65, 66, 67, 68, 69, 70, 71, 72, 73, 74]), (7, [9, 75])]),
   (39, []),
   (40, []),
   (41, []),
   (42, []),
   (43, []),
   (44, [])]
def impTab : List (Nat × Nat) := [(9, 14)]
def insI (x : Int) : List Int → List Int
  | [] => [x]
  | y :: r => if x ≤ y then x :: y :: r else y :: insI x r
def isortI : List Int → List Int
  | [] => []
  | x :: r => insI x (isortI r)
def numsOf : List SV → Option (List Int)
  | [] => some []
  | .int .i64 n :: r => match numsOf r with
    | some l => some (n :: l)
    | none => none
  | _ => none
/-- slices.Sort, at numbers of the call's own. -/
def prim_slices_Sort : List SV → Mem → Option (SV × Mem)
  | [.own id 1 0 len], M => match M.blk id with
    | some items => match numsOf items with
      | some l => if len = l.length ∧ l.length < 1000000 then some (.tup [], M.set id (some ((isortI l).map (SV.int .i64)))) else none
      | none => none
    | none => none
  | _, _ => none
abbrev prim_slices_Sort_sl_int64_int64 := prim_slices_Sort

def primOf : Nat → Option (List SV → Mem → Option (SV × Mem)) := fun f => if f = n_slices_Sort_sl_int64_int64 then some prim_slices_Sort_sl_int64_int64 else none
noncomputable def ES : Env := { P := Try.prog, G := fun _ => none, prim := primOf, imp := fun a b => impTab.contains (a, b), dead := fun me id => (((deadTab.lookup me).getD []).lookup id).getD [], raw := fun _ => none, sent := fun _ => false }
theorem npF {f : Nat} (h : ((primOf f).isNone && impTab.all fun p => p.2 != f) = true) : ∀ me, ((ES.prim f).isSome || ES.imp me f) = false := by
  intro me
  have h1 : ES.prim f = primOf f := rfl
  have h2 : ES.imp me f = impTab.contains (me, f) := rfl
  rw [h1, h2]
  simp only [Bool.and_eq_true, List.all_eq_true] at h
  obtain ⟨h3, h4⟩ := h
  have h5 : impTab.contains (me, f) = false := by
    cases hc : impTab.contains (me, f) with
    | false => rfl
    | true =>
      have := h4 _ (List.contains_iff_mem.1 hc)
      simp at this
  rw [h5]
  cases hp : primOf f with
  | none => rfl
  | some p => rw [hp] at h3; cases h3
@[simp] theorem sn_ : ES.sent T_ = false := by rfl
@[simp] theorem sn_func : ES.sent T_func = false := by rfl
@[simp] theorem sn_int64 : ES.sent T_int64 = false := by rfl
@[simp] theorem sn_int : ES.sent T_int = false := by rfl
@[simp] theorem sn_bool : ES.sent T_bool = false := by rfl
@[simp] theorem sn_uint8 : ES.sent T_uint8 = false := by rfl
@[simp] theorem sn_string : ES.sent T_string = false := by rfl
@[simp] theorem sn_int32 : ES.sent T_int32 = false := by rfl
@[simp] theorem sn_sl_int64 : ES.sent T_sl_int64 = false := by rfl
@[simp] theorem sn_sl_int32 : ES.sent T_sl_int32 = false := by rfl
@[simp] theorem sn_sl_int16 : ES.sent T_sl_int16 = false := by rfl
@[simp] theorem sn_int16 : ES.sent T_int16 = false := by rfl
@[simp] theorem sn_sl_uint16 : ES.sent T_sl_uint16 = false := by rfl
@[simp] theorem sn_a2_sl_int32 : ES.sent T_a2_sl_int32 = false := by rfl
@[simp] theorem sn_uint16 : ES.sent T_uint16 = false := by rfl
@[simp] theorem sn_func_int64_bool : ES.sent T_func_int64_bool = false := by rfl
@[simp] theorem sn_uint : ES.sent T_uint = false := by rfl
@[simp] theorem sn_slices_sortedHint : ES.sent T_slices_sortedHint = false := by rfl
@[simp] theorem sn_uint32 : ES.sent T_uint32 = false := by rfl
@[simp] theorem sn_uint64 : ES.sent T_uint64 = false := by rfl
@[simp] theorem sn_slices_xorshift : ES.sent T_slices_xorshift = false := by rfl
@[simp] theorem sn_p_int : ES.sent T_p_int = false := by rfl
@[simp] theorem sn_p_slices_xorshift : ES.sent T_p_slices_xorshift = false := by rfl
@[simp] theorem ti_ : tiOf ES.P T_ = some ⟨.other, 1, 0, (some (.tup []))⟩ := by kernel_rfl
@[simp] theorem ti_func : tiOf ES.P T_func = some ⟨.func, 1, 8, (some .nilf)⟩ := by kernel_rfl
@[simp] theorem ti_int64 : tiOf ES.P T_int64 = some ⟨(.int .i64), 1, 8, (some (.int .i64 0))⟩ := by kernel_rfl
@[simp] theorem ti_int : tiOf ES.P T_int = some ⟨(.int .i64), 1, 8, (some (.int .i64 0))⟩ := by kernel_rfl
@[simp] theorem ti_bool : tiOf ES.P T_bool = some ⟨.bool, 1, 1, (some (.bool false))⟩ := by kernel_rfl
@[simp] theorem ti_uint8 : tiOf ES.P T_uint8 = some ⟨(.int .u8), 1, 1, (some (.int .u8 0))⟩ := by kernel_rfl
@[simp] theorem ti_string : tiOf ES.P T_string = some ⟨.str, 1, 16, (some (.str ByteArray.empty))⟩ := by kernel_rfl
@[simp] theorem ti_int32 : tiOf ES.P T_int32 = some ⟨(.int .i32), 1, 4, (some (.int .i32 0))⟩ := by kernel_rfl
@[simp] theorem ti_sl_int64 : tiOf ES.P T_sl_int64 = some ⟨(.slice T_int64), 1, 24, (some .nilsl)⟩ := by kernel_rfl
@[simp] theorem ti_sl_int32 : tiOf ES.P T_sl_int32 = some ⟨(.slice T_int32), 1, 24, (some .nilsl)⟩ := by kernel_rfl
@[simp] theorem ti_sl_int16 : tiOf ES.P T_sl_int16 = some ⟨(.slice T_int16), 1, 24, (some .nilsl)⟩ := by kernel_rfl
@[simp] theorem ti_int16 : tiOf ES.P T_int16 = some ⟨(.int .i16), 1, 2, (some (.int .i16 0))⟩ := by kernel_rfl
@[simp] theorem ti_sl_uint16 : tiOf ES.P T_sl_uint16 = some ⟨(.slice T_uint16), 1, 24, (some .nilsl)⟩ := by kernel_rfl
@[simp] theorem ti_a2_sl_int32 : tiOf ES.P T_a2_sl_int32 = some ⟨(.arr 2 T_sl_int32), 2, 48, (some (.agg [.nilsl, .nilsl]))⟩ := by kernel_rfl
@[simp] theorem ti_uint16 : tiOf ES.P T_uint16 = some ⟨(.int .u16), 1, 2, (some (.int .u16 0))⟩ := by kernel_rfl
@[simp] theorem ti_func_int64_bool : tiOf ES.P T_func_int64_bool = some ⟨.func, 1, 8, (some .nilf)⟩ := by kernel_rfl
@[simp] theorem ti_uint : tiOf ES.P T_uint = some ⟨(.int .u64), 1, 8, (some (.int .u64 0))⟩ := by kernel_rfl
@[simp] theorem ti_slices_sortedHint : tiOf ES.P T_slices_sortedHint = some ⟨(.int .i64), 1, 8, (some (.int .i64 0))⟩ := by kernel_rfl
@[simp] theorem ti_uint32 : tiOf ES.P T_uint32 = some ⟨(.int .u32), 1, 4, (some (.int .u32 0))⟩ := by kernel_rfl
@[simp] theorem ti_uint64 : tiOf ES.P T_uint64 = some ⟨(.int .u64), 1, 8, (some (.int .u64 0))⟩ := by kernel_rfl
@[simp] theorem ti_slices_xorshift : tiOf ES.P T_slices_xorshift = some ⟨(.int .u64), 1, 8, (some (.int .u64 0))⟩ := by kernel_rfl
@[simp] theorem ti_p_int : tiOf ES.P T_p_int = some ⟨.ptr, 1, 8, (some .nilp)⟩ := by kernel_rfl
@[simp] theorem ti_p_slices_xorshift : tiOf ES.P T_p_slices_xorshift = some ⟨.ptr, 1, 8, (some .nilp)⟩ := by kernel_rfl
end Go.Proofs.Ytedmidpnfnhnlaa
