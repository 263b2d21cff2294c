/- Functions, as the abstract machine reads them: printed by wip/tools/gen.py. -/
import Derived.Test.YtdmijlkknpolbaaA29
import Derived.Test.YtdmijlkknpolbaaProg
import Derived.KernelRfl
namespace Go.Proofs.Ytdmijlkknpolbaa.A
set_option linter.unusedVariables false
set_option linter.unusedSimpArgs false
open Go.Proofs Go.Proofs.Ytdmijlkknpolbaa

abbrev n_mainMain : Nat := 0
abbrev n_gosemCut : Nat := 1
abbrev n_gosemCutInit : Nat := 2
def lv_gosemCutInit : List (Nat × List Nat) := []
abbrev n_law27QuorumTurns : Nat := 3
def lv_law27QuorumTurns : List (Nat × List Nat) := [(13, [0, 1]), (29, [0, 1]), (125, []), (250, [0, 1, 5, 27, 28]), (2002, [0, 1, 5, 27, 28]), (4006, [0, 1, 5, 27, 28]), (128205, [0, 1, 5, 7, 27, 28])]
abbrev n_law27QuorumMarks : Nat := 4
def lv_law27QuorumMarks : List (Nat × List Nat) := [(13, [0, 1]), (125, [1, 5, 6]), (509, []), (1018, [5, 6, 7, 32, 33, 34]), (8146, [5, 6, 7, 32, 33, 34]), (16294, [5, 6, 7, 32, 33, 34]), (260709, [5, 6, 7, 32, 33, 34]), (521421, [5, 6, 7, 32, 33, 34]), (521423, [5, 6, 7, 32, 33, 34]), (1042842, [5, 6, 7, 32, 33, 34, 80]), (4171357, [5, 6, 7, 9, 10, 32, 33, 34]), (4171359, [5, 6, 7, 32, 33, 34]), (8342738, [5, 6, 7, 32, 33, 34, 80]), (16685478, [5, 6, 7, 32, 33, 34, 80]), (533935309, [5, 6, 7, 11, 12, 32, 33, 34, 80]), (533935311, [5, 6, 7, 32, 33, 34, 80])]
abbrev n_law27QuorumSets : Nat := 5
def lv_law27QuorumSets : List (Nat × List Nat) := [(13, [0, 1]), (125, [0, 1, 5, 6]), (253, [0, 1, 5, 6]), (1021, []), (2042, [0, 5, 6, 7, 42, 43, 44]), (16338, [0, 5, 6, 7, 42, 43, 44]), (32678, [0, 5, 6, 7, 42, 43, 44]), (522853, [0, 5, 6, 7, 42, 43, 44]), (1045709, [0, 5, 6, 7, 42, 43, 44]), (1045711, [0, 5, 6, 7, 42, 43, 44]), (2091418, [0, 5, 6, 7, 42, 43, 44, 84]), (8365661, [0, 5, 6, 7, 9, 10, 42, 43, 44]), (8365663, [0, 5, 6, 7, 42, 43, 44]), (16731346, [0, 5, 6, 7, 42, 43, 44, 84]), (33462694, [0, 5, 6, 7, 42, 43, 44, 84]), (267701555, [0, 5, 6, 7, 42, 43, 44, 84])]
abbrev n_law27QuorumMeets : Nat := 6
def lv_law27QuorumMeets : List (Nat × List Nat) := [(13, [0, 1, 2, 3]), (125, [1, 2, 3, 9, 10, 11, 12]), (253, [2, 3, 9, 10, 11, 12]), (506, [2, 3, 9, 10, 11, 12, 63, 64, 65]), (509, [3, 9, 10, 11, 12]), (1018, [3, 9, 10, 11, 12, 73, 74, 75]), (2045, [3, 9, 10, 11, 12, 17]), (4050, [2, 3, 9, 10, 11, 12, 63, 64, 65]), (4090, [3, 9, 10, 11, 12, 17, 83]), (4093, [3, 9, 12]), (8102, [2, 3, 9, 10, 11, 12, 63, 64, 65]), (8146, [3, 9, 10, 11, 12, 73, 74, 75]), (16294, [3, 9, 10, 11, 12, 73, 74, 75]), (16381, []), (32722, [3, 9, 10, 11, 12, 17, 83]), (32762, [9, 12, 19, 108, 109, 110]), (65446, [3, 9, 10, 11, 12, 17, 83]), (262098, [9, 12, 19, 108, 109, 110]), (524198, [9, 12, 19, 108, 109, 110]), (16774349, [9, 12, 108, 109, 110]), (134194813, [9, 12, 19, 22, 108, 109, 110]), (134194815, [9, 12, 19, 108, 109, 110]), (268389626, [9, 12, 19, 22, 108, 109, 110, 126]), (2147117010, [9, 12, 19, 22, 108, 109, 110, 126]), (4294234022, [9, 12, 19, 22, 108, 109, 110, 126]), (34353872179, [9, 12, 19, 22, 108, 109, 110, 126])]
abbrev n_law27Lives : Nat := 7
def lv_law27Lives : List (Nat × List Nat) := []
abbrev n_quorumPrimary : Nat := 8
def lv_quorumPrimary : List (Nat × List Nat) := [(13, [0, 1])]
abbrev n_ref27Primary : Nat := 9
def lv_ref27Primary : List (Nat × List Nat) := [(13, [0, 1])]
abbrev n_ref27Enough : Nat := 10
def lv_ref27Enough : List (Nat × List Nat) := [(13, [0]), (29, [0]), (61, [])]
abbrev n_quorumNewMarks : Nat := 11
def lv_quorumNewMarks : List (Nat × List Nat) := [(13, [0])]
abbrev n_quorumMarksClear : Nat := 12
def lv_quorumMarksClear : List (Nat × List Nat) := []
abbrev n_quorumMarksNote : Nat := 13
def lv_quorumMarksNote : List (Nat × List Nat) := [(13, [0, 1, 2])]
abbrev n_quorumMarksOf : Nat := 14
def lv_quorumMarksOf : List (Nat × List Nat) := [(13, [0, 1])]
abbrev n_quorumMarksReached : Nat := 15
def lv_quorumMarksReached : List (Nat × List Nat) := []
abbrev n_ref27Reached : Nat := 16
def lv_ref27Reached : List (Nat × List Nat) := [(29, [3]), (58, [0, 3, 9, 10, 11]), (466, [0, 3, 9, 10, 11]), (934, [0, 3, 9, 10, 11]), (29901, [0, 3, 5, 6, 9, 10, 11]), (29903, [0, 3, 9, 10, 11]), (59802, [0, 3, 5, 6, 9, 10, 11, 15, 16, 17]), (478418, [0, 3, 5, 6, 9, 10, 11, 15, 16, 17]), (956838, [0, 3, 5, 6, 9, 10, 11, 15, 16, 17]), (7654707, [0, 3, 5, 6, 9, 10, 11, 15, 16, 17])]
abbrev n_quorumNew : Nat := 17
def lv_quorumNew : List (Nat × List Nat) := [(13, [0])]
abbrev n_quorumEnough : Nat := 18
def lv_quorumEnough : List (Nat × List Nat) := [(13, []), (53, []), (105, [0, 4]), (423, [0, 4])]
abbrev n_quorumSetClear : Nat := 19
def lv_quorumSetClear : List (Nat × List Nat) := []
abbrev n_quorumSetAdd : Nat := 20
def lv_quorumSetAdd : List (Nat × List Nat) := [(13, [0, 1])]
abbrev n_quorumSetHas : Nat := 21
def lv_quorumSetHas : List (Nat × List Nat) := []
abbrev n_quorumSetCount : Nat := 22
def lv_quorumSetCount : List (Nat × List Nat) := []
abbrev n_ref27Count : Nat := 23
def lv_ref27Count : List (Nat × List Nat) := [(29, [3]), (58, [3, 6, 7, 8]), (466, [3, 6, 7, 8]), (934, [3, 6, 7, 8]), (7475, [3, 6, 7, 8])]
abbrev n_quorumSetWon : Nat := 24
def lv_quorumSetWon : List (Nat × List Nat) := []
abbrev n_slicesSortedUint64 : Nat := 25
def lv_slicesSortedUint64 : List (Nat × List Nat) := []
abbrev n_slicesValuesuint64Uint64 : Nat := 26
def lv_slicesValuesuint64Uint64 : List (Nat × List Nat) := []
abbrev n_mathBitsOnesCount8 : Nat := 27
def lv_mathBitsOnesCount8 : List (Nat × List Nat) := []
abbrev n_slicesCollectUint64 : Nat := 28
def lv_slicesCollectUint64 : List (Nat × List Nat) := []
abbrev n_slicesSortuint64Uint64 : Nat := 29
def lv_slicesSortuint64Uint64 : List (Nat × List Nat) := []
abbrev n_slicesValuesuint64Uint641 : Nat := 30
def lv_slicesValuesuint64Uint641 : List (Nat × List Nat) := [(3, []), (6, [0, 5, 6, 7]), (50, [0, 5, 6, 7]), (102, [0, 5, 6, 7]), (819, [0, 5, 6, 7])]
abbrev n_slicesAppendSequint64Uint64 : Nat := 31
def lv_slicesAppendSequint64Uint64 : List (Nat × List Nat) := [(13, [2]), (26, [2]), (53, [])]
abbrev n_slicesPdqsortOrderedUint64 : Nat := 32
def lv_slicesPdqsortOrderedUint64 : List (Nat × List Nat) := [(7, []), (14, [0, 1, 2, 3, 8, 9]), (28, [0, 1, 2, 3, 8, 9]), (453, [0, 1, 2, 3, 8, 9, 10]), (909, [0, 1, 2, 3, 8, 9, 10]), (1821, [0, 1, 2, 3, 8, 9, 10]), (7293, [0, 1, 2, 3, 8, 9, 10, 11, 12]), (14589, [0, 1, 2, 3, 8, 9, 10, 11]), (29181, [0, 1, 2, 3, 10, 11]), (58357, [0, 1, 2, 3, 8, 9, 10, 11]), (466943, [0, 1, 2, 3, 8, 9])]
abbrev n_mathBitsLen : Nat := 33
def lv_mathBitsLen : List (Nat × List Nat) := [(6, [0])]
abbrev n_slicesInsertionSortOrderedUint64 : Nat := 34
def lv_slicesInsertionSortOrderedUint64 : List (Nat × List Nat) := [(3, []), (6, [0, 1, 2, 6]), (49, [0, 1, 2, 6]), (50, [0, 1, 2, 6]), (201, [0, 1, 2, 6]), (402, [0, 1, 2, 6, 7]), (3217, [0, 1, 2, 6, 7]), (3218, [0, 1, 2, 6, 7])]
abbrev n_slicesHeapSortOrderedUint64 : Nat := 35
def lv_slicesHeapSortOrderedUint64 : List (Nat × List Nat) := [(61, [0, 6, 7, 8]), (63, []), (122, [0, 6, 7, 8, 9]), (126, [0, 6, 7, 10]), (977, [0, 6, 7, 8, 9]), (978, [0, 6, 7, 8, 9]), (1009, [0, 6, 7, 10]), (1010, [0, 6, 7, 10])]
abbrev n_slicesBreakPatternsOrderedUint64 : Nat := 36
def lv_slicesBreakPatternsOrderedUint64 : List (Nat × List Nat) := [(7, []), (119, []), (238, [0, 1, 6, 7, 8, 9]), (1905, [0, 1, 6, 7, 8, 9]), (1906, [0, 1, 6, 7, 8, 9]), (30501, [0, 1, 6, 7, 8, 9, 10])]
abbrev n_slicesChoosePivotOrderedUint64 : Nat := 37
def lv_slicesChoosePivotOrderedUint64 : List (Nat × List Nat) := [(509, [9, 11]), (511, []), (2045, []), (4073, [0, 9, 10, 11, 12]), (8183, [])]
abbrev n_slicesReverseRangeOrderedUint64 : Nat := 38
def lv_slicesReverseRangeOrderedUint64 : List (Nat × List Nat) := [(7, []), (14, [0, 6, 7]), (57, [0, 6, 7]), (113, [0, 6, 7])]
abbrev n_slicesPartialInsertionSortOrderedUint64 : Nat := 39
def lv_slicesPartialInsertionSortOrderedUint64 : List (Nat × List Nat) := [(29, []), (58, [0, 1, 2, 7, 8]), (465, [0, 1, 2, 7, 8]), (466, [0, 1, 2, 7, 8]), (1864, [0, 1, 2, 7, 8]), (3728, [0, 1, 2, 7, 8]), (7461, [0, 1, 2, 7, 8]), (14913, [0, 1, 2, 7, 8]), (14925, [0, 1, 2, 7, 8]), (29825, [0, 1, 2, 7, 8]), (59709, [0, 1, 2, 7, 8]), (59711, [0, 1, 2, 7, 8]), (238837, [0, 1, 2, 7, 8]), (238845, [0, 1, 2, 7, 8]), (477674, [0, 1, 2, 7, 8, 9]), (477690, [0, 1, 2, 7, 8, 10]), (3821393, [0, 1, 2, 7, 8, 9]), (3821394, [0, 1, 2, 7, 8, 9]), (3821521, [0, 1, 2, 7, 8, 10]), (3821522, [0, 1, 2, 7, 8, 10]), (30571153, [0, 1, 2, 7, 8, 9]), (30572177, [0, 1, 2, 7, 8, 10])]
abbrev n_cmpLessUint64 : Nat := 40
def lv_cmpLessUint64 : List (Nat × List Nat) := []
abbrev n_slicesPartitionEqualOrderedUint64 : Nat := 41
def lv_slicesPartitionEqualOrderedUint64 : List (Nat × List Nat) := [(30, [9]), (60, [0, 1, 9, 10]), (120, [0, 1, 9, 10]), (480, [0, 1, 9, 10]), (960, [0, 1, 9, 10]), (962, [0, 1, 9, 10]), (1924, [0, 1, 9, 10]), (3841, [0, 1, 9, 10]), (3853, [0, 1, 9, 10]), (7681, [0, 1, 9, 10]), (7697, [0, 1, 9, 10]), (15393, [0, 1, 9, 10])]
abbrev n_slicesPartitionOrderedUint64 : Nat := 42
def lv_slicesPartitionOrderedUint64 : List (Nat × List Nat) := [(30, [0, 1, 10, 11]), (60, [0, 1, 10, 11]), (62, [0, 1, 10, 11]), (124, [0, 1, 10, 11]), (241, [0, 1, 10, 11]), (253, [0, 1, 10, 11]), (481, [0, 1, 10, 11]), (497, [0, 1, 10, 11]), (993, [0, 1, 10, 11]), (2046, [0, 1, 11]), (4092, [0, 1, 10, 11]), (8184, [0, 1, 10, 11]), (32736, [0, 1, 10, 11]), (65472, [0, 1, 10, 11]), (65474, [0, 1, 10, 11]), (130948, [0, 1, 10, 11]), (261889, [0, 1, 10, 11]), (261901, [0, 1, 10, 11]), (523777, [0, 1, 10, 11]), (523793, [0, 1, 10, 11]), (1047585, [0, 1, 10, 11])]
abbrev n_mathBitsLen32 : Nat := 43
def lv_mathBitsLen32 : List (Nat × List Nat) := [(13, [0, 2]), (29, [0, 2])]
abbrev n_mathBitsLen64 : Nat := 44
def lv_mathBitsLen64 : List (Nat × List Nat) := [(13, [0, 2]), (29, [0, 2]), (61, [0, 2])]
abbrev n_slicesSiftDownOrderedUint64 : Nat := 45
def lv_slicesSiftDownOrderedUint64 : List (Nat × List Nat) := [(3, []), (6, [0, 2, 3, 8]), (12, [0, 2, 3, 8]), (197, [0, 2, 3, 8, 9]), (397, [0, 2, 3, 8, 9]), (797, [0, 2, 3, 8, 9])]
abbrev n_slicesNextPowerOfTwo : Nat := 46
def lv_slicesNextPowerOfTwo : List (Nat × List Nat) := []
abbrev n_slicesXorshiftNext : Nat := 47
def lv_slicesXorshiftNext : List (Nat × List Nat) := []
abbrev n_slicesMedianAdjacentOrderedUint64 : Nat := 48
def lv_slicesMedianAdjacentOrderedUint64 : List (Nat × List Nat) := []
abbrev n_slicesMedianOrderedUint64 : Nat := 49
def lv_slicesMedianOrderedUint64 : List (Nat × List Nat) := []
abbrev n_cmpIsNaNUint64 : Nat := 50
def lv_cmpIsNaNUint64 : List (Nat × List Nat) := []
abbrev n_slicesOrder2OrderedUint64 : Nat := 51
def lv_slicesOrder2OrderedUint64 : List (Nat × List Nat) := [(13, [1, 2])]
abbrev n_runtimeBoundsErrorError : Nat := 52
abbrev n_runtimeBoundsErrorRuntimeError : Nat := 53
abbrev n_runtimeErrorStringError : Nat := 54
abbrev n_runtimeErrorStringRuntimeError : Nat := 55
abbrev n_runtimePlainErrorError : Nat := 56
abbrev n_runtimePlainErrorRuntimeError : Nat := 57
abbrev n_runtimeErrorAddressStringError : Nat := 58
abbrev n_runtimeErrorAddressStringRuntimeError : Nat := 59

/-- What is live, function by function. -/
def lvAt : List (Nat × List (Nat × List Nat)) → Nat → List (Nat × List Nat)
  | [], _ => []
  | (i, l) :: t, g => bif Nat.beq i g then l else lvAt t g

def lvs : Nat → List (Nat × List Nat) := lvAt [(2, lv_gosemCutInit), (3, lv_law27QuorumTurns), (4, lv_law27QuorumMarks), (5, lv_law27QuorumSets), (6, lv_law27QuorumMeets), (7, lv_law27Lives), (8, lv_quorumPrimary), (9, lv_ref27Primary), (10, lv_ref27Enough), (11, lv_quorumNewMarks), (12, lv_quorumMarksClear), (13, lv_quorumMarksNote), (14, lv_quorumMarksOf), (15, lv_quorumMarksReached), (16, lv_ref27Reached), (17, lv_quorumNew), (18, lv_quorumEnough), (19, lv_quorumSetClear), (20, lv_quorumSetAdd), (21, lv_quorumSetHas), (22, lv_quorumSetCount), (23, lv_ref27Count), (24, lv_quorumSetWon), (25, lv_slicesSortedUint64), (26, lv_slicesValuesuint64Uint64), (27, lv_mathBitsOnesCount8), (28, lv_slicesCollectUint64), (29, lv_slicesSortuint64Uint64), (30, lv_slicesValuesuint64Uint641), (31, lv_slicesAppendSequint64Uint64), (32, lv_slicesPdqsortOrderedUint64), (33, lv_mathBitsLen), (34, lv_slicesInsertionSortOrderedUint64), (35, lv_slicesHeapSortOrderedUint64), (36, lv_slicesBreakPatternsOrderedUint64), (37, lv_slicesChoosePivotOrderedUint64), (38, lv_slicesReverseRangeOrderedUint64), (39, lv_slicesPartialInsertionSortOrderedUint64), (40, lv_cmpLessUint64), (41, lv_slicesPartitionEqualOrderedUint64), (42, lv_slicesPartitionOrderedUint64), (43, lv_mathBitsLen32), (44, lv_mathBitsLen64), (45, lv_slicesSiftDownOrderedUint64), (46, lv_slicesNextPowerOfTwo), (47, lv_slicesXorshiftNext), (48, lv_slicesMedianAdjacentOrderedUint64), (49, lv_slicesMedianOrderedUint64), (50, lv_cmpIsNaNUint64), (51, lv_slicesOrder2OrderedUint64)]

abbrev np : FuncId → Option (List Value → M Value) := fun _ => none
theorem np_sound (w0 : Base) : ∀ g m, np g = some m → SoundP Try.prog Try.prog.globals.size w0 g m := fun g m h => by cases h

noncomputable abbrev R (n : Nat) : Funs := run Try.prog np lvs n

end Go.Proofs.Ytdmijlkknpolbaa.A
