/- Functions, as the abstract machine reads them: printed by wip/tools/gen.py. -/
import Derived.Test.YtkjoaediojdodabA23
import Derived.Test.YtkjoaediojdodabProg
import Derived.KernelRfl
namespace Go.Proofs.Ytkjoaediojdodab.A
set_option linter.unusedVariables false
set_option linter.unusedSimpArgs false
open Go.Proofs Go.Proofs.Ytkjoaediojdodab

abbrev n_mainMain : Nat := 0
abbrev n_gosemCut : Nat := 1
abbrev n_gosemCutInit : Nat := 2
def lv_gosemCutInit : List (Nat × List Nat) := []
abbrev n_law04TallyRaises : Nat := 3
def lv_law04TallyRaises : List (Nat × List Nat) := [(13, [0, 1]), (253, []), (506, [5, 6, 7, 22, 23, 24]), (4050, [5, 6, 7, 22, 23, 24]), (8102, [5, 6, 7, 22, 23, 24]), (129637, [5, 6, 7, 9, 22, 23, 24]), (259279, [5, 6, 7, 22, 23, 24])]
abbrev n_law04TallySwaps : Nat := 4
def lv_law04TallySwaps : List (Nat × List Nat) := [(13, [0, 1]), (253, [5, 6, 7]), (506, [5, 6, 7, 23, 24, 25]), (4050, [5, 6, 7, 23, 24, 25]), (8102, [5, 6, 7, 23, 24, 25]), (259277, [5, 6, 7, 9, 23, 24, 25])]
abbrev n_law04TallyPlays : Nat := 5
def lv_law04TallyPlays : List (Nat × List Nat) := [(13, [0, 1]), (125, []), (250, [1, 5, 6, 27, 28, 29]), (2002, [1, 5, 6, 27, 28, 29]), (4006, [1, 5, 6, 27, 28, 29]), (64101, [1, 5, 6, 27, 28, 29]), (256405, [1, 5, 6, 27, 28, 29]), (256413, [1, 5, 6, 16, 27, 28, 29]), (256415, [1, 5, 6, 27, 28, 29]), (512826, [1, 5, 6, 16, 27, 28, 29, 134, 135]), (1025623, [1, 5, 6, 27, 28, 29]), (4102487, [1, 5, 6, 27, 28, 29]), (4102495, [1, 5, 6, 27, 28, 29]), (4102610, [1, 5, 6, 16, 27, 28, 29, 134, 135]), (8205222, [1, 5, 6, 16, 27, 28, 29, 134, 135]), (16409975, [1, 5, 6, 27, 28, 29]), (65639927, [1, 5, 6, 27, 28, 29]), (65639935, [1, 5, 6, 27, 28, 29])]
abbrev n_law04Lives : Nat := 6
def lv_law04Lives : List (Nat × List Nat) := []
abbrev n_tallyNew : Nat := 7
def lv_tallyNew : List (Nat × List Nat) := []
abbrev n_tallyTallyRaise : Nat := 8
def lv_tallyTallyRaise : List (Nat × List Nat) := [(14, []), (28, [2, 7]), (113, [2, 7]), (225, [2, 7]), (1813, [2, 7, 8]), (1815, [2, 7])]
abbrev n_tallyTallyGet : Nat := 9
def lv_tallyTallyGet : List (Nat × List Nat) := [(27, [])]
abbrev n_tallyTallySwap : Nat := 10
def lv_tallyTallySwap : List (Nat × List Nat) := []
abbrev n_tallyTallySum : Nat := 11
def lv_tallyTallySum : List (Nat × List Nat) := [(29, [3]), (58, [3, 7, 8]), (466, [3, 7, 8]), (934, [3, 7, 8])]
abbrev n_ref04Add : Nat := 12
def lv_ref04Add : List (Nat × List Nat) := [(13, [1, 2, 3, 6])]
abbrev n_tallyTallyAdd : Nat := 13
def lv_tallyTallyAdd : List (Nat × List Nat) := [(27, [])]
abbrev n_ref04Set : Nat := 14
def lv_ref04Set : List (Nat × List Nat) := [(13, [1, 2, 4, 8])]
abbrev n_ref04Get : Nat := 15
def lv_ref04Get : List (Nat × List Nat) := [(13, [1, 2])]
abbrev n_tallyTallyCopy : Nat := 16
def lv_tallyTallyCopy : List (Nat × List Nat) := [(29, [3]), (58, [3, 8, 9]), (466, [3, 8, 9]), (934, [3, 8, 9])]
abbrev n_tallyTallyAll : Nat := 17
def lv_tallyTallyAll : List (Nat × List Nat) := [(29, [2, 3]), (58, [0, 2, 3, 5]), (466, [0, 2, 3, 5]), (934, [0, 2, 3, 5])]
abbrev n_tallyTallyAt : Nat := 18
def lv_tallyTallyAt : List (Nat × List Nat) := [(13, [0, 1])]
abbrev n_syncAtomicInt64Load : Nat := 19
def lv_syncAtomicInt64Load : List (Nat × List Nat) := []
abbrev n_syncAtomicInt64CompareAndSwap : Nat := 20
def lv_syncAtomicInt64CompareAndSwap : List (Nat × List Nat) := []
abbrev n_syncAtomicInt64Add : Nat := 21
def lv_syncAtomicInt64Add : List (Nat × List Nat) := []
abbrev n_syncAtomicInt64Store : Nat := 22
def lv_syncAtomicInt64Store : List (Nat × List Nat) := []
abbrev n_syncAtomicLoadInt64 : Nat := 23
abbrev n_syncAtomicCompareAndSwapInt64 : Nat := 24
abbrev n_syncAtomicAddInt64 : Nat := 25
abbrev n_syncAtomicStoreInt64 : Nat := 26
abbrev n_runtimeBoundsErrorError : Nat := 27
abbrev n_runtimeBoundsErrorRuntimeError : Nat := 28
abbrev n_runtimeErrorStringError : Nat := 29
abbrev n_runtimeErrorStringRuntimeError : Nat := 30
abbrev n_runtimePlainErrorError : Nat := 31
abbrev n_runtimePlainErrorRuntimeError : Nat := 32
abbrev n_runtimeErrorAddressStringError : Nat := 33
abbrev n_runtimeErrorAddressStringRuntimeError : Nat := 34
abbrev n_runtimeTypeAssertionErrorError : Nat := 35
abbrev n_runtimeTypeAssertionErrorRuntimeError : Nat := 36
abbrev n_runtimePanicNilErrorError : Nat := 37
abbrev n_runtimePanicNilErrorRuntimeError : Nat := 38
abbrev n_internalAbiTypeAlign : Nat := 39
abbrev n_internalRuntimeMapsUnhashableTypeErrorError : Nat := 40
abbrev n_internalRuntimeMapsUnhashableTypeErrorRuntimeError : Nat := 41

/-- What is live, function by function. -/
def lvAt : List (Nat × List (Nat × List Nat)) → Nat → List (Nat × List Nat)
  | [], _ => []
  | (i, l) :: t, g => bif Nat.beq i g then l else lvAt t g

def lvs : Nat → List (Nat × List Nat) := lvAt [(2, lv_gosemCutInit), (3, lv_law04TallyRaises), (4, lv_law04TallySwaps), (5, lv_law04TallyPlays), (6, lv_law04Lives), (7, lv_tallyNew), (8, lv_tallyTallyRaise), (9, lv_tallyTallyGet), (10, lv_tallyTallySwap), (11, lv_tallyTallySum), (12, lv_ref04Add), (13, lv_tallyTallyAdd), (14, lv_ref04Set), (15, lv_ref04Get), (16, lv_tallyTallyCopy), (17, lv_tallyTallyAll), (18, lv_tallyTallyAt), (19, lv_syncAtomicInt64Load), (20, lv_syncAtomicInt64CompareAndSwap), (21, lv_syncAtomicInt64Add), (22, lv_syncAtomicInt64Store)]

/-- Functions without a body. -/
def np (g : FuncId) : Option (List Value → M Value) :=
  match g with
  | 23 => some (atLoad .i64)
  | 24 => some (atCas .i64)
  | 25 => some (atAdd .i64)
  | 26 => some (atStore)
  | _ => none

set_option maxRecDepth 100000 in
theorem np_sound (w0 : World) : ∀ g m, np g = some m → SoundF Try.prog Try.prog.globals.size w0 g m := by
  intro g m h
  unfold np at h
  split at h
  · cases h; exact atLoad_sound ⟨Try.f23, Try.func23, by kernel_rfl, by kernel_rfl, by kernel_rfl, by kernel_rfl⟩
  · cases h; exact atCas_sound ⟨Try.f24, Try.func24, by kernel_rfl, by kernel_rfl, by kernel_rfl, by kernel_rfl⟩
  · cases h; exact atAdd_sound ⟨Try.f25, Try.func25, by kernel_rfl, by kernel_rfl, by kernel_rfl, by kernel_rfl⟩
  · cases h; exact atStore_sound ⟨Try.f26, Try.func26, by kernel_rfl, by kernel_rfl, by kernel_rfl, by kernel_rfl⟩
  · cases h

theorem run_syncAtomicLoadInt64 (n : Nat) (args : List Value) : run Try.prog np lvs (n + 1) n_syncAtomicLoadInt64 args = atLoad .i64 args := rfl

theorem run_syncAtomicCompareAndSwapInt64 (n : Nat) (args : List Value) : run Try.prog np lvs (n + 1) n_syncAtomicCompareAndSwapInt64 args = atCas .i64 args := rfl

theorem run_syncAtomicAddInt64 (n : Nat) (args : List Value) : run Try.prog np lvs (n + 1) n_syncAtomicAddInt64 args = atAdd .i64 args := rfl

theorem run_syncAtomicStoreInt64 (n : Nat) (args : List Value) : run Try.prog np lvs (n + 1) n_syncAtomicStoreInt64 args = atStore args := rfl

noncomputable abbrev R (n : Nat) : Funs := run Try.prog np lvs n

end Go.Proofs.Ytkjoaediojdodab.A
