/- The chapter's example of directories. -/
import Derived.Test.YtlpibiaokpbhbaaGreatDoorEldAll
namespace Go.Proofs.YtlpibiaokpbhbaaGreatDoor.A
set_option linter.unusedVariables false
set_option linter.unusedSimpArgs false
open Go.Proofs Go.Proofs.YtlpibiaokpbhbaaGreatDoor

theorem strv_of (s : ByteArray) : Value.string s = strv s.data.toList := by simp [strv]

section
variable {H : Heap} {n : Nat}

/-! the example -/

theorem ksort_ab : ksort [[98, 111, 98], [97, 110, 110]] = [[97, 110, 110], [98, 111, 98]] := by
  have h : ksort [[98, 111, 98], [97, 110, 110]] = ksort [[97, 110, 110], [98, 111, 98]] := ksort_perm (List.Perm.swap _ _ _)
  rw [h]
  exact List.mergeSort_of_pairwise (by decide)

end

end Go.Proofs.YtlpibiaokpbhbaaGreatDoor.A
