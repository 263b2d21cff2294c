/- Functions, as the abstract machine reads them: printed by wip/tools/gen.py. -/
import Derived.Test.YtkjoaediojdodaaA23
import Derived.Test.YtkjoaediojdodaaProg
import Derived.KernelRfl
namespace Go.Proofs.Ytkjoaediojdodaa.A
set_option linter.unusedVariables false
set_option linter.unusedSimpArgs false
open Go.Proofs Go.Proofs.Ytkjoaediojdodaa

abbrev n_mainMain : Nat := 0
abbrev n_gosemCut : Nat := 1
abbrev n_gosemCutInit : Nat := 2
def lv_gosemCutInit : List (Nat × List Nat) := []
abbrev n_law30NetOrder : Nat := 3
def lv_law30NetOrder : List (Nat × List Nat) := [(13, [0]), (61, [0, 3]), (122, [0, 3, 21, 22, 23]), (125, [3]), (250, [3, 35, 36, 37]), (978, [0, 3, 21, 22, 23]), (1958, [0, 3, 21, 22, 23]), (2002, [3, 35, 36, 37]), (4006, [3, 35, 36, 37]), (31333, [0, 3, 5, 21, 22, 23]), (31335, [0, 3, 21, 22, 23]), (64103, [3, 35, 36, 37])]
abbrev n_law30NetSpoils : Nat := 4
def lv_law30NetSpoils : List (Nat × List Nat) := [(13, [0, 1, 2]), (509, [0, 1, 2, 7, 8, 9]), (2045, [0, 1, 2, 7, 8, 11, 12]), (4090, [0, 1, 2, 7, 8, 9, 11, 12, 46, 47]), (4093, [0, 1, 2, 7, 8, 11, 12]), (8186, [0, 1, 2, 7, 8, 11, 12, 70]), (32722, [0, 1, 2, 7, 8, 9, 11, 12, 46, 47]), (65446, [0, 1, 2, 7, 8, 9, 11, 12, 46, 47]), (65490, [0, 1, 2, 7, 8, 11, 12, 70]), (130982, [0, 1, 2, 7, 8, 11, 12, 70]), (523571, [0, 1, 2, 7, 8, 9, 11, 12, 46, 47]), (1047142, [0, 1, 2, 7, 8, 9, 11, 12, 13, 46, 47, 50]), (1047859, [0, 1, 2, 7, 8, 11, 12, 70]), (8377138, [0, 1, 2, 7, 8, 9, 11, 12, 13, 46, 47, 50]), (16754278, [0, 1, 2, 7, 8, 9, 11, 12, 13, 46, 47, 50]), (134034227, [0, 1, 2, 7, 8, 9, 11, 12, 13, 46, 47, 50])]
abbrev n_law30NetHonest : Nat := 5
def lv_law30NetHonest : List (Nat × List Nat) := [(13, [0]), (253, [3]), (506, [3, 4, 5, 25, 26, 27]), (4050, [3, 4, 5, 25, 26, 27]), (8102, [3, 4, 5, 25, 26, 27]), (129637, [3, 4, 5, 7, 25, 26, 27]), (518555, [3, 4, 5, 7, 25, 26, 27]), (1037115, [3, 4, 5, 7, 25, 26, 27]), (2074239, [3, 4, 5, 25, 26, 27]), (4148463, [3, 4, 5, 7, 25, 26, 27]), (4148478, [3, 4, 5, 11, 25, 26, 27, 84, 85]), (33187826, [3, 4, 5, 11, 25, 26, 27, 84, 85]), (66375654, [3, 4, 5, 11, 25, 26, 27, 84, 85]), (2124020943, [3, 4, 5, 11, 25, 26, 27, 84, 85])]
abbrev n_law30NetPlays : Nat := 6
def lv_law30NetPlays : List (Nat × List Nat) := [(13, [0]), (125, []), (250, [3, 4, 23, 24, 25]), (2002, [3, 4, 23, 24, 25]), (4006, [3, 4, 23, 24, 25]), (256413, [3, 4, 23, 24, 25]), (256415, [3, 4, 23, 24, 25]), (512830, [3, 4, 23, 24, 25, 55, 56]), (4102642, [3, 4, 23, 24, 25, 55, 56]), (8205286, [3, 4, 23, 24, 25, 55, 56]), (262569165, [3, 4, 9, 23, 24, 25, 55, 56]), (262569167, [3, 4, 23, 24, 25, 55, 56]), (525138334, [3, 4, 9, 23, 24, 25, 55, 56, 78, 79]), (4201106674, [3, 4, 9, 23, 24, 25, 55, 56, 78, 79]), (8402213350, [3, 4, 9, 23, 24, 25, 55, 56, 78, 79])]
abbrev n_law30Lives : Nat := 7
def lv_law30Lives : List (Nat × List Nat) := [(29, [1])]
abbrev n_netNew : Nat := 8
def lv_netNew : List (Nat × List Nat) := []
abbrev n_netNetPut : Nat := 9
def lv_netNetPut : List (Nat × List Nat) := [(13, [0, 1])]
abbrev n_netNetTake : Nat := 10
def lv_netNetTake : List (Nat × List Nat) := [(29, [6, 7])]
abbrev n_netNetLen : Nat := 11
def lv_netNetLen : List (Nat × List Nat) := []
abbrev n_netNetLost : Nat := 12
def lv_netNetLost : List (Nat × List Nat) := []
abbrev n_netNetSpoil : Nat := 13
def lv_netNetSpoil : List (Nat × List Nat) := [(29, [0, 2, 3, 9]), (509, [12]), (1018, [3, 10, 11, 12, 44]), (8146, [3, 10, 11, 12, 44]), (16294, [3, 10, 11, 12, 44]), (260711, [3, 10, 11, 12, 44])]
abbrev n_netNetLook : Nat := 14
def lv_netNetLook : List (Nat × List Nat) := [(29, [0, 6])]
abbrev n_law30Few : Nat := 15
def lv_law30Few : List (Nat × List Nat) := [(13, [0]), (26, [0, 5, 6, 7]), (210, [0, 5, 6, 7]), (422, [0, 5, 6, 7]), (3379, [0, 5, 6, 7])]
abbrev n_law30Do : Nat := 16
def lv_law30Do : List (Nat × List Nat) := [(13, [0, 4, 5, 6]), (53, [0, 4, 5, 6]), (61, [0, 4, 5, 6, 18]), (125, [4, 6]), (215, [0, 4, 5, 6]), (250, [0, 4, 5, 6, 125, 126]), (863, [0, 4, 5, 6]), (2002, [0, 4, 5, 6, 125, 126]), (3455, [0, 4, 5, 6]), (4006, [0, 4, 5, 6, 125, 126]), (13823, [0, 4, 5, 6]), (256413, [0, 4, 5, 6, 21, 125, 126]), (256415, [0, 4, 5, 6, 125, 126]), (512830, [0, 4, 5, 6, 21, 125, 126, 148, 149]), (4102642, [0, 4, 5, 6, 21, 125, 126, 148, 149]), (8205286, [0, 4, 5, 6, 21, 125, 126, 148, 149])]
abbrev n_bytesClone : Nat := 17
def lv_bytesClone : List (Nat × List Nat) := [(13, [0])]
abbrev n_netNetPlace : Nat := 18
def lv_netNetPlace : List (Nat × List Nat) := [(13, [0, 1])]
abbrev n_slicesDeletebyteByte : Nat := 19
def lv_slicesDeletebyteByte : List (Nat × List Nat) := [(29, [0, 1, 2])]
abbrev n_ref30Take : Nat := 20
def lv_ref30Take : List (Nat × List Nat) := [(29, [2, 4, 7])]
abbrev n_ref30Double : Nat := 21
def lv_ref30Double : List (Nat × List Nat) := [(29, [2, 4, 6])]
abbrev n_netNetDouble : Nat := 22
def lv_netNetDouble : List (Nat × List Nat) := []
abbrev n_ref30Spoil : Nat := 23
def lv_ref30Spoil : List (Nat × List Nat) := [(29, [2, 3, 4, 8, 10]), (509, [4, 8, 10, 11, 13]), (1018, [3, 4, 8, 10, 11, 12, 13, 41]), (8146, [3, 4, 8, 10, 11, 12, 13, 41]), (16294, [3, 4, 8, 10, 11, 12, 13, 41]), (130353, [3, 4, 8, 10, 11, 12, 13, 41]), (2085653, [3, 4, 8, 10, 11, 12, 14, 41]), (4171306, [3, 4, 8, 10, 11, 12, 14, 41, 55, 56]), (4171309, [3, 4, 8, 10, 11, 12, 41]), (33370450, [3, 4, 8, 10, 11, 12, 14, 41, 55, 56]), (66740902, [3, 4, 8, 10, 11, 12, 14, 41, 55, 56])]
abbrev n_netNetClear : Nat := 24
def lv_netNetClear : List (Nat × List Nat) := []
abbrev n_netNetCopy : Nat := 25
def lv_netNetCopy : List (Nat × List Nat) := [(29, [3]), (58, [3, 15, 16, 17]), (466, [3, 15, 16, 17]), (934, [3, 15, 16, 17])]
abbrev n_ref30Put : Nat := 26
def lv_ref30Put : List (Nat × List Nat) := [(13, [1, 2, 4])]
abbrev n_ref30At : Nat := 27
def lv_ref30At : List (Nat × List Nat) := [(13, [1, 2])]
abbrev n_runtimeBoundsErrorError : Nat := 28
abbrev n_runtimeBoundsErrorRuntimeError : Nat := 29
abbrev n_runtimeErrorStringError : Nat := 30
abbrev n_runtimeErrorStringRuntimeError : Nat := 31
abbrev n_runtimePlainErrorError : Nat := 32
abbrev n_runtimePlainErrorRuntimeError : Nat := 33
abbrev n_runtimeErrorAddressStringError : Nat := 34
abbrev n_runtimeErrorAddressStringRuntimeError : Nat := 35
abbrev n_runtimeTypeAssertionErrorError : Nat := 36
abbrev n_runtimeTypeAssertionErrorRuntimeError : Nat := 37
abbrev n_runtimePanicNilErrorError : Nat := 38
abbrev n_runtimePanicNilErrorRuntimeError : Nat := 39
abbrev n_internalAbiTypeAlign : Nat := 40
abbrev n_internalRuntimeMapsUnhashableTypeErrorError : Nat := 41
abbrev n_internalRuntimeMapsUnhashableTypeErrorRuntimeError : Nat := 42

/-- What is live, function by function. -/
def lvAt : List (Nat × List (Nat × List Nat)) → Nat → List (Nat × List Nat)
  | [], _ => []
  | (i, l) :: t, g => bif Nat.beq i g then l else lvAt t g

def lvs : Nat → List (Nat × List Nat) := lvAt [(2, lv_gosemCutInit), (3, lv_law30NetOrder), (4, lv_law30NetSpoils), (5, lv_law30NetHonest), (6, lv_law30NetPlays), (7, lv_law30Lives), (8, lv_netNew), (9, lv_netNetPut), (10, lv_netNetTake), (11, lv_netNetLen), (12, lv_netNetLost), (13, lv_netNetSpoil), (14, lv_netNetLook), (15, lv_law30Few), (16, lv_law30Do), (17, lv_bytesClone), (18, lv_netNetPlace), (19, lv_slicesDeletebyteByte), (20, lv_ref30Take), (21, lv_ref30Double), (22, lv_netNetDouble), (23, lv_ref30Spoil), (24, lv_netNetClear), (25, lv_netNetCopy), (26, lv_ref30Put), (27, lv_ref30At)]

abbrev np : FuncId → Option (List Value → M Value) := fun _ => none
theorem np_sound (w0 : World) : ∀ g m, np g = some m → SoundF Try.prog Try.prog.globals.size w0 g m := fun g m h => by cases h

noncomputable abbrev R (n : Nat) : Funs := run Try.prog np lvs n

end Go.Proofs.Ytkjoaediojdodaa.A
