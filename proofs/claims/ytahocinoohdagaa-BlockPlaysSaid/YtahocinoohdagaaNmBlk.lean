/- Functions, as the abstract machine reads them: printed by wip/tools/gen.py. -/
import Derived.Test.YtahocinoohdagaaA23
import Derived.Test.YtahocinoohdagaaProg
import Derived.KernelRfl
namespace Go.Proofs.Ytahocinoohdagaa.A
set_option linter.unusedVariables false
set_option linter.unusedSimpArgs false
open Go.Proofs Go.Proofs.Ytahocinoohdagaa

abbrev n_mainMain : Nat := 0
abbrev n_gosemCut : Nat := 1
abbrev n_gosemCutInit : Nat := 2
def lv_gosemCutInit : List (Nat × List Nat) := []
abbrev n_law21BlockFuses : Nat := 3
def lv_law21BlockFuses : List (Nat × List Nat) := [(13, [0, 1, 2]), (125, [7]), (250, [0, 7, 25, 26, 27]), (2002, [0, 7, 25, 26, 27]), (4006, [0, 7, 25, 26, 27]), (128205, [0, 7, 8, 10, 25, 26, 27]), (128207, [0, 7, 25, 26, 27])]
abbrev n_law21BlockKeeps : Nat := 4
def lv_law21BlockKeeps : List (Nat × List Nat) := [(13, [0, 1]), (125, [0, 1, 5, 6]), (250, [0, 1, 5, 6, 27]), (253, [1, 5, 6]), (506, [1, 5, 6, 36, 37, 38]), (2002, [0, 1, 5, 6, 27]), (2045, [5, 6, 11]), (4006, [0, 1, 5, 6, 27]), (4050, [1, 5, 6, 36, 37, 38]), (8102, [1, 5, 6, 36, 37, 38]), (8189, []), (16378, [5, 6, 11, 140]), (129637, [1, 5, 6, 9, 36, 37, 38]), (131026, [5, 6, 11, 140]), (259277, [1, 5, 6, 9, 36, 37, 38]), (259279, [1, 5, 6, 36, 37, 38]), (262054, [5, 6, 11, 140]), (1037109, [1, 5, 6, 9, 36, 37, 38]), (2074218, [1, 5, 6, 9, 36, 37, 38, 83]), (16593746, [1, 5, 6, 9, 36, 37, 38, 83]), (16771485, [5, 6, 11, 12, 13, 14, 15, 140]), (16771487, [5, 6, 11, 140]), (33187494, [1, 5, 6, 9, 36, 37, 38, 83]), (33542970, [5, 6, 11, 12, 13, 14, 15, 140, 151, 152, 153]), (268343762, [5, 6, 11, 12, 13, 14, 15, 140, 151, 152, 153]), (536687526, [5, 6, 11, 12, 13, 14, 15, 140, 151, 152, 153])]
abbrev n_law21BlockPlays : Nat := 5
def lv_law21BlockPlays : List (Nat × List Nat) := [(13, [0, 1]), (61, [1, 5, 6]), (125, []), (250, [5, 6, 46, 47, 48]), (2002, [5, 6, 46, 47, 48]), (4006, [5, 6, 46, 47, 48]), (256413, [5, 6, 46, 47, 48]), (256415, [5, 6, 46, 47, 48]), (512830, [5, 6, 10, 46, 47, 48]), (4102641, [5, 6, 10, 46, 47, 48]), (4102642, [5, 6, 10, 46, 47, 48]), (131284557, [5, 6, 10, 11, 46, 47, 48]), (131284559, [5, 6, 10, 46, 47, 48]), (262569118, [5, 6, 10, 11, 46, 47, 48, 103, 104]), (2100552946, [5, 6, 10, 11, 46, 47, 48, 103, 104]), (4201105894, [5, 6, 10, 11, 46, 47, 48, 103, 104])]
abbrev n_law27QuorumTurns : Nat := 6
def lv_law27QuorumTurns : List (Nat × List Nat) := [(13, [0, 1]), (29, [0, 1]), (125, []), (250, [0, 1, 5, 27, 28]), (2002, [0, 1, 5, 27, 28]), (4006, [0, 1, 5, 27, 28]), (128205, [0, 1, 5, 7, 27, 28])]
abbrev n_law21Lives : Nat := 7
def lv_law21Lives : List (Nat × List Nat) := [(29, [1])]
abbrev n_blockNew : Nat := 8
def lv_blockNew : List (Nat × List Nat) := [(29, [3]), (58, [3, 6, 7]), (466, [3, 6, 7]), (934, [3, 6, 7])]
abbrev n_blockDeviceArm : Nat := 9
def lv_blockDeviceArm : List (Nat × List Nat) := [(3, [])]
abbrev n_blockDeviceFlush : Nat := 10
def lv_blockDeviceFlush : List (Nat × List Nat) := [(13, [0]), (59, [0])]
abbrev n_blockDeviceWrite : Nat := 11
def lv_blockDeviceWrite : List (Nat × List Nat) := [(27, [0, 1, 2]), (29, [0, 1, 2]), (123, [0, 1, 2])]
abbrev n_blockDeviceDown : Nat := 12
def lv_blockDeviceDown : List (Nat × List Nat) := []
abbrev n_blockDeviceStart : Nat := 13
def lv_blockDeviceStart : List (Nat × List Nat) := []
abbrev n_law21Few : Nat := 14
def lv_law21Few : List (Nat × List Nat) := [(13, [0]), (26, [0, 5, 6, 7]), (210, [0, 5, 6, 7]), (422, [0, 5, 6, 7]), (3379, [0, 5, 6, 7])]
abbrev n_blockDeviceWaiting : Nat := 15
def lv_blockDeviceWaiting : List (Nat × List Nat) := []
abbrev n_blockDeviceCut : Nat := 16
def lv_blockDeviceCut : List (Nat × List Nat) := [(13, [0, 3])]
abbrev n_blockDeviceRead : Nat := 17
def lv_blockDeviceRead : List (Nat × List Nat) := [(27, [0, 3, 4, 5]), (29, [0, 3, 4, 5]), (58, [3, 4, 5]), (117, []), (469, [])]
abbrev n_ref21New : Nat := 18
def lv_ref21New : List (Nat × List Nat) := []
abbrev n_blockDeviceLen : Nat := 19
def lv_blockDeviceLen : List (Nat × List Nat) := []
abbrev n_law21Do : Nat := 20
def lv_law21Do : List (Nat × List Nat) := [(13, [0, 4, 6]), (53, [0, 4, 6]), (105, [0, 4, 5, 6, 18, 19]), (215, [0, 4, 6]), (863, [0, 4, 6]), (3421, [6, 9, 10, 11]), (3455, [0, 4, 6]), (6842, [6, 8, 9, 10, 11, 42, 43]), (13823, [0, 4, 6]), (54738, [6, 8, 9, 10, 11, 42, 43]), (55285, [4, 6]), (109478, [6, 8, 9, 10, 11, 42, 43])]
abbrev n_ref21Waiting : Nat := 21
def lv_ref21Waiting : List (Nat × List Nat) := [(29, [3]), (58, [3, 7, 8, 9]), (466, [3, 7, 8, 9]), (934, [3, 7, 8, 9]), (7475, [3, 7, 8, 9])]
abbrev n_ref21Get : Nat := 22
def lv_ref21Get : List (Nat × List Nat) := [(13, [1, 2]), (29, [1, 2])]
abbrev n_law27Lives : Nat := 23
def lv_law27Lives : List (Nat × List Nat) := []
abbrev n_quorumPrimary : Nat := 24
def lv_quorumPrimary : List (Nat × List Nat) := [(13, [0, 1])]
abbrev n_ref27Primary : Nat := 25
def lv_ref27Primary : List (Nat × List Nat) := [(13, [0, 1])]
abbrev n_ref27Enough : Nat := 26
def lv_ref27Enough : List (Nat × List Nat) := [(13, [0]), (29, [0]), (61, [])]
abbrev n_blockDeviceBurn : Nat := 27
def lv_blockDeviceBurn : List (Nat × List Nat) := [(13, [0]), (29, [0])]
abbrev n_blockDeviceKeep : Nat := 28
def lv_blockDeviceKeep : List (Nat × List Nat) := [(5, [0]), (10, [0, 1, 9, 10, 11]), (82, [0, 1, 9, 10, 11]), (166, [0, 1, 9, 10, 11]), (1331, [0, 1, 9, 10, 11])]
abbrev n_blockDeviceFlush1 : Nat := 29
def lv_blockDeviceFlush1 : List (Nat × List Nat) := []
abbrev n_blockDeviceThere : Nat := 30
def lv_blockDeviceThere : List (Nat × List Nat) := [(6, []), (25, []), (103, [])]
abbrev n_blockDeviceCut1 : Nat := 31
def lv_blockDeviceCut1 : List (Nat × List Nat) := []
abbrev n_slicesBackwardblockWriteBlockWrite : Nat := 32
def lv_slicesBackwardblockWriteBlockWrite : List (Nat × List Nat) := []
abbrev n_bytesClone : Nat := 33
def lv_bytesClone : List (Nat × List Nat) := [(13, [0])]
abbrev n_ref21Put : Nat := 34
def lv_ref21Put : List (Nat × List Nat) := [(13, [1, 2, 3, 6]), (29, [1, 2, 3, 6]), (61, [1, 2, 3, 6]), (253, [1, 2, 3, 6, 8])]
abbrev n_ref21Flush : Nat := 35
def lv_ref21Flush : List (Nat × List Nat) := [(13, [1, 2]), (61, [1, 2, 4]), (253, [2, 4, 6]), (506, [2, 4, 6, 22, 23, 24]), (4050, [2, 4, 6, 22, 23, 24]), (8102, [2, 4, 6, 22, 23, 24])]
abbrev n_ref21Cut : Nat := 36
def lv_ref21Cut : List (Nat × List Nat) := [(13, [1, 2, 4]), (125, [2, 4, 5]), (250, [1, 2, 4, 5, 6, 13, 14, 15]), (2002, [1, 2, 4, 5, 6, 13, 14, 15]), (4006, [1, 2, 4, 5, 6, 13, 14, 15]), (64101, [1, 2, 4, 5, 6, 8, 13, 14, 15]), (128205, [1, 2, 4, 5, 6, 13, 14, 15])]
abbrev n_blockDeviceCopy : Nat := 37
def lv_blockDeviceCopy : List (Nat × List Nat) := []
abbrev n_ref21Block : Nat := 38
def lv_ref21Block : List (Nat × List Nat) := [(29, [5]), (58, [1, 5, 11, 12, 13]), (466, [1, 5, 11, 12, 13]), (934, [1, 5, 11, 12, 13]), (7475, [1, 5, 11, 12, 13])]
abbrev n_quorumNewMarks : Nat := 39
def lv_quorumNewMarks : List (Nat × List Nat) := [(13, [0])]
abbrev n_quorumMarksNote : Nat := 40
def lv_quorumMarksNote : List (Nat × List Nat) := [(13, [0, 1, 2])]
abbrev n_quorumMarksReached : Nat := 41
def lv_quorumMarksReached : List (Nat × List Nat) := []
abbrev n_quorumEnough : Nat := 42
def lv_quorumEnough : List (Nat × List Nat) := [(13, []), (53, []), (105, [0, 4]), (423, [0, 4])]
abbrev n_slicesBackwardblockWriteBlockWrite1 : Nat := 43
def lv_slicesBackwardblockWriteBlockWrite1 : List (Nat × List Nat) := [(3, []), (6, [0, 1, 3]), (49, [0, 1, 3]), (50, [0, 1, 3]), (201, [0, 1, 3])]
abbrev n_ref21Burn : Nat := 44
def lv_ref21Burn : List (Nat × List Nat) := [(13, [1, 2]), (29, [1, 2])]
abbrev n_ref21Bit : Nat := 45
def lv_ref21Bit : List (Nat × List Nat) := [(13, [0]), (26, [0, 6, 7]), (210, [0, 6, 7]), (422, [0, 6, 7])]
abbrev n_slicesClonebyteByte : Nat := 46
def lv_slicesClonebyteByte : List (Nat × List Nat) := [(13, [0])]
abbrev n_slicesCloneblockWriteBlockWrite : Nat := 47
def lv_slicesCloneblockWriteBlockWrite : List (Nat × List Nat) := [(13, [0])]
abbrev n_slicesSortedUint64 : Nat := 48
def lv_slicesSortedUint64 : List (Nat × List Nat) := []
abbrev n_slicesValuesuint64Uint64 : Nat := 49
def lv_slicesValuesuint64Uint64 : List (Nat × List Nat) := []
abbrev n_slicesCollectUint64 : Nat := 50
def lv_slicesCollectUint64 : List (Nat × List Nat) := []
abbrev n_slicesSortuint64Uint64 : Nat := 51
def lv_slicesSortuint64Uint64 : List (Nat × List Nat) := []
abbrev n_slicesValuesuint64Uint641 : Nat := 52
def lv_slicesValuesuint64Uint641 : List (Nat × List Nat) := [(3, []), (6, [0, 5, 6, 7]), (50, [0, 5, 6, 7]), (102, [0, 5, 6, 7]), (819, [0, 5, 6, 7])]
abbrev n_slicesAppendSequint64Uint64 : Nat := 53
def lv_slicesAppendSequint64Uint64 : List (Nat × List Nat) := [(13, [2]), (26, [2]), (53, [])]
abbrev n_slicesPdqsortOrderedUint64 : Nat := 54
def lv_slicesPdqsortOrderedUint64 : List (Nat × List Nat) := [(7, []), (14, [0, 1, 2, 3, 8, 9]), (28, [0, 1, 2, 3, 8, 9]), (453, [0, 1, 2, 3, 8, 9, 10]), (909, [0, 1, 2, 3, 8, 9, 10]), (1821, [0, 1, 2, 3, 8, 9, 10]), (7293, [0, 1, 2, 3, 8, 9, 10, 11, 12]), (14589, [0, 1, 2, 3, 8, 9, 10, 11]), (29181, [0, 1, 2, 3, 10, 11]), (58357, [0, 1, 2, 3, 8, 9, 10, 11]), (466943, [0, 1, 2, 3, 8, 9])]
abbrev n_mathBitsLen : Nat := 55
def lv_mathBitsLen : List (Nat × List Nat) := [(6, [0])]
abbrev n_slicesInsertionSortOrderedUint64 : Nat := 56
def lv_slicesInsertionSortOrderedUint64 : List (Nat × List Nat) := [(3, []), (6, [0, 1, 2, 6]), (49, [0, 1, 2, 6]), (50, [0, 1, 2, 6]), (201, [0, 1, 2, 6]), (402, [0, 1, 2, 6, 7]), (3217, [0, 1, 2, 6, 7]), (3218, [0, 1, 2, 6, 7])]
abbrev n_slicesHeapSortOrderedUint64 : Nat := 57
def lv_slicesHeapSortOrderedUint64 : List (Nat × List Nat) := [(61, [0, 6, 7, 8]), (63, []), (122, [0, 6, 7, 8, 9]), (126, [0, 6, 7, 10]), (977, [0, 6, 7, 8, 9]), (978, [0, 6, 7, 8, 9]), (1009, [0, 6, 7, 10]), (1010, [0, 6, 7, 10])]
abbrev n_slicesBreakPatternsOrderedUint64 : Nat := 58
def lv_slicesBreakPatternsOrderedUint64 : List (Nat × List Nat) := [(7, []), (119, []), (238, [0, 1, 6, 7, 8, 9]), (1905, [0, 1, 6, 7, 8, 9]), (1906, [0, 1, 6, 7, 8, 9]), (30501, [0, 1, 6, 7, 8, 9, 10])]
abbrev n_slicesChoosePivotOrderedUint64 : Nat := 59
def lv_slicesChoosePivotOrderedUint64 : List (Nat × List Nat) := [(509, [9, 11]), (511, []), (2045, []), (4073, [0, 9, 10, 11, 12]), (8183, [])]
abbrev n_slicesReverseRangeOrderedUint64 : Nat := 60
def lv_slicesReverseRangeOrderedUint64 : List (Nat × List Nat) := [(7, []), (14, [0, 6, 7]), (57, [0, 6, 7]), (113, [0, 6, 7])]
abbrev n_slicesPartialInsertionSortOrderedUint64 : Nat := 61
def lv_slicesPartialInsertionSortOrderedUint64 : List (Nat × List Nat) := [(29, []), (58, [0, 1, 2, 7, 8]), (465, [0, 1, 2, 7, 8]), (466, [0, 1, 2, 7, 8]), (1864, [0, 1, 2, 7, 8]), (3728, [0, 1, 2, 7, 8]), (7461, [0, 1, 2, 7, 8]), (14913, [0, 1, 2, 7, 8]), (14925, [0, 1, 2, 7, 8]), (29825, [0, 1, 2, 7, 8]), (59709, [0, 1, 2, 7, 8]), (59711, [0, 1, 2, 7, 8]), (238837, [0, 1, 2, 7, 8]), (238845, [0, 1, 2, 7, 8]), (477674, [0, 1, 2, 7, 8, 9]), (477690, [0, 1, 2, 7, 8, 10]), (3821393, [0, 1, 2, 7, 8, 9]), (3821394, [0, 1, 2, 7, 8, 9]), (3821521, [0, 1, 2, 7, 8, 10]), (3821522, [0, 1, 2, 7, 8, 10]), (30571153, [0, 1, 2, 7, 8, 9]), (30572177, [0, 1, 2, 7, 8, 10])]
abbrev n_cmpLessUint64 : Nat := 62
def lv_cmpLessUint64 : List (Nat × List Nat) := []
abbrev n_slicesPartitionEqualOrderedUint64 : Nat := 63
def lv_slicesPartitionEqualOrderedUint64 : List (Nat × List Nat) := [(30, [9]), (60, [0, 1, 9, 10]), (120, [0, 1, 9, 10]), (480, [0, 1, 9, 10]), (960, [0, 1, 9, 10]), (962, [0, 1, 9, 10]), (1924, [0, 1, 9, 10]), (3841, [0, 1, 9, 10]), (3853, [0, 1, 9, 10]), (7681, [0, 1, 9, 10]), (7697, [0, 1, 9, 10]), (15393, [0, 1, 9, 10])]
abbrev n_slicesPartitionOrderedUint64 : Nat := 64
def lv_slicesPartitionOrderedUint64 : List (Nat × List Nat) := [(30, [0, 1, 10, 11]), (60, [0, 1, 10, 11]), (62, [0, 1, 10, 11]), (124, [0, 1, 10, 11]), (241, [0, 1, 10, 11]), (253, [0, 1, 10, 11]), (481, [0, 1, 10, 11]), (497, [0, 1, 10, 11]), (993, [0, 1, 10, 11]), (2046, [0, 1, 11]), (4092, [0, 1, 10, 11]), (8184, [0, 1, 10, 11]), (32736, [0, 1, 10, 11]), (65472, [0, 1, 10, 11]), (65474, [0, 1, 10, 11]), (130948, [0, 1, 10, 11]), (261889, [0, 1, 10, 11]), (261901, [0, 1, 10, 11]), (523777, [0, 1, 10, 11]), (523793, [0, 1, 10, 11]), (1047585, [0, 1, 10, 11])]
abbrev n_mathBitsLen32 : Nat := 65
def lv_mathBitsLen32 : List (Nat × List Nat) := [(13, [0, 2]), (29, [0, 2])]
abbrev n_mathBitsLen64 : Nat := 66
def lv_mathBitsLen64 : List (Nat × List Nat) := [(13, [0, 2]), (29, [0, 2]), (61, [0, 2])]
abbrev n_slicesSiftDownOrderedUint64 : Nat := 67
def lv_slicesSiftDownOrderedUint64 : List (Nat × List Nat) := [(3, []), (6, [0, 2, 3, 8]), (12, [0, 2, 3, 8]), (197, [0, 2, 3, 8, 9]), (397, [0, 2, 3, 8, 9]), (797, [0, 2, 3, 8, 9])]
abbrev n_slicesNextPowerOfTwo : Nat := 68
def lv_slicesNextPowerOfTwo : List (Nat × List Nat) := []
abbrev n_slicesXorshiftNext : Nat := 69
def lv_slicesXorshiftNext : List (Nat × List Nat) := []
abbrev n_slicesMedianAdjacentOrderedUint64 : Nat := 70
def lv_slicesMedianAdjacentOrderedUint64 : List (Nat × List Nat) := []
abbrev n_slicesMedianOrderedUint64 : Nat := 71
def lv_slicesMedianOrderedUint64 : List (Nat × List Nat) := []
abbrev n_cmpIsNaNUint64 : Nat := 72
def lv_cmpIsNaNUint64 : List (Nat × List Nat) := []
abbrev n_slicesOrder2OrderedUint64 : Nat := 73
def lv_slicesOrder2OrderedUint64 : List (Nat × List Nat) := [(13, [1, 2])]
abbrev n_runtimeBoundsErrorError : Nat := 74
abbrev n_runtimeBoundsErrorRuntimeError : Nat := 75
abbrev n_runtimeErrorStringError : Nat := 76
abbrev n_runtimeErrorStringRuntimeError : Nat := 77
abbrev n_runtimePlainErrorError : Nat := 78
abbrev n_runtimePlainErrorRuntimeError : Nat := 79
abbrev n_runtimeErrorAddressStringError : Nat := 80
abbrev n_runtimeErrorAddressStringRuntimeError : Nat := 81
abbrev n_runtimeTypeAssertionErrorError : Nat := 82
abbrev n_runtimeTypeAssertionErrorRuntimeError : Nat := 83
abbrev n_runtimePanicNilErrorError : Nat := 84
abbrev n_runtimePanicNilErrorRuntimeError : Nat := 85
abbrev n_internalAbiTypeAlign : Nat := 86
abbrev n_internalRuntimeMapsUnhashableTypeErrorError : Nat := 87
abbrev n_internalRuntimeMapsUnhashableTypeErrorRuntimeError : Nat := 88
abbrev n_quorumMarksClear : Nat := 89

/-- What is live, function by function. -/
def lvAt : List (Nat × List (Nat × List Nat)) → Nat → List (Nat × List Nat)
  | [], _ => []
  | (i, l) :: t, g => bif Nat.beq i g then l else lvAt t g

def lvs : Nat → List (Nat × List Nat) := lvAt [(2, lv_gosemCutInit), (3, lv_law21BlockFuses), (4, lv_law21BlockKeeps), (5, lv_law21BlockPlays), (6, lv_law27QuorumTurns), (7, lv_law21Lives), (8, lv_blockNew), (9, lv_blockDeviceArm), (10, lv_blockDeviceFlush), (11, lv_blockDeviceWrite), (12, lv_blockDeviceDown), (13, lv_blockDeviceStart), (14, lv_law21Few), (15, lv_blockDeviceWaiting), (16, lv_blockDeviceCut), (17, lv_blockDeviceRead), (18, lv_ref21New), (19, lv_blockDeviceLen), (20, lv_law21Do), (21, lv_ref21Waiting), (22, lv_ref21Get), (23, lv_law27Lives), (24, lv_quorumPrimary), (25, lv_ref27Primary), (26, lv_ref27Enough), (27, lv_blockDeviceBurn), (28, lv_blockDeviceKeep), (29, lv_blockDeviceFlush1), (30, lv_blockDeviceThere), (31, lv_blockDeviceCut1), (32, lv_slicesBackwardblockWriteBlockWrite), (33, lv_bytesClone), (34, lv_ref21Put), (35, lv_ref21Flush), (36, lv_ref21Cut), (37, lv_blockDeviceCopy), (38, lv_ref21Block), (39, lv_quorumNewMarks), (40, lv_quorumMarksNote), (41, lv_quorumMarksReached), (42, lv_quorumEnough), (43, lv_slicesBackwardblockWriteBlockWrite1), (44, lv_ref21Burn), (45, lv_ref21Bit), (46, lv_slicesClonebyteByte), (47, lv_slicesCloneblockWriteBlockWrite), (48, lv_slicesSortedUint64), (49, lv_slicesValuesuint64Uint64), (50, lv_slicesCollectUint64), (51, lv_slicesSortuint64Uint64), (52, lv_slicesValuesuint64Uint641), (53, lv_slicesAppendSequint64Uint64), (54, lv_slicesPdqsortOrderedUint64), (55, lv_mathBitsLen), (56, lv_slicesInsertionSortOrderedUint64), (57, lv_slicesHeapSortOrderedUint64), (58, lv_slicesBreakPatternsOrderedUint64), (59, lv_slicesChoosePivotOrderedUint64), (60, lv_slicesReverseRangeOrderedUint64), (61, lv_slicesPartialInsertionSortOrderedUint64), (62, lv_cmpLessUint64), (63, lv_slicesPartitionEqualOrderedUint64), (64, lv_slicesPartitionOrderedUint64), (65, lv_mathBitsLen32), (66, lv_mathBitsLen64), (67, lv_slicesSiftDownOrderedUint64), (68, lv_slicesNextPowerOfTwo), (69, lv_slicesXorshiftNext), (70, lv_slicesMedianAdjacentOrderedUint64), (71, lv_slicesMedianOrderedUint64), (72, lv_cmpIsNaNUint64), (73, lv_slicesOrder2OrderedUint64)]

abbrev np : FuncId → Option (List Value → M Value) := fun _ => none
theorem np_sound (w0 : Base) : ∀ g m, np g = some m → SoundP Try.prog Try.prog.globals.size w0 g m := fun g m h => by cases h

noncomputable abbrev R (n : Nat) : Funs := run Try.prog np lvs n

end Go.Proofs.Ytahocinoohdagaa.A
