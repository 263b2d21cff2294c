/- Sorting by insertion, with no program in sight. -/
import Derived.Test.YtdmijlkknpolbaaA29
namespace Go.Proofs.Ytdmijlkknpolbaa.A
set_option linter.unusedVariables false
set_option linter.unusedSimpArgs false

section
variable {α : Type} (lt : α → α → Bool)

/-- Into a row whose greatest comes first. -/
def insR (x : α) : List α → List α
  | [] => [x]
  | y :: B => if lt x y then y :: insR x B else x :: y :: B

def isortR (l : List α) : List α := l.foldl (fun acc x => insR lt x acc) []
def isort (l : List α) : List α := (isortR lt l).reverse

variable {lt} {x : α} {B l : List α}

theorem insR_perm : ∀ B : List α, (insR lt x B).Perm (x :: B)
  | [] => .refl _
  | y :: B => by
    unfold insR
    split
    · exact ((insR_perm B).cons y).trans (List.Perm.swap x y B)
    · exact .refl _

theorem insR_len : (insR lt x B).length = B.length + 1 := by rw [(insR_perm B).length_eq]; rfl

def Desc (lt : α → α → Bool) (l : List α) : Prop := l.Pairwise fun a b => lt a b = false

structure LtOk (lt : α → α → Bool) : Prop where
  asym : ∀ a b, lt a b = true → lt b a = false
  trans : ∀ a b c, lt a b = false → lt b c = false → lt a c = false

theorem insR_desc (ho : LtOk lt) : ∀ {B : List α}, Desc lt B → Desc lt (insR lt x B)
  | [], _ => by simp [insR, Desc]
  | y :: B, h => by
    have h1 : (∀ z ∈ B, lt y z = false) ∧ Desc lt B := by simpa [Desc] using h
    unfold insR
    split
    · rename_i hx
      refine List.pairwise_cons.2 ⟨fun z hz => ?_, insR_desc ho h1.2⟩
      rcases List.mem_cons.1 ((insR_perm B).mem_iff.1 hz) with rfl | hz
      · exact ho.asym _ _ hx
      · exact h1.1 z hz
    · rename_i hx
      have hx : lt x y = false := by simpa using hx
      refine List.pairwise_cons.2 ⟨fun z hz => ?_, h⟩
      rcases List.mem_cons.1 hz with rfl | hz
      · exact hx
      · exact ho.trans _ _ _ hx (h1.1 z hz)

theorem foldl_ins (ho : LtOk lt) : ∀ (l acc : List α), Desc lt acc → Desc lt (l.foldl (fun acc x => insR lt x acc) acc) ∧ (l.foldl (fun acc x => insR lt x acc) acc).Perm (acc ++ l)
  | [], acc, h => ⟨h, by simp⟩
  | x :: l, acc, h => by
    obtain ⟨h1, h2⟩ := foldl_ins ho l (insR lt x acc) (insR_desc ho h)
    refine ⟨h1, h2.trans ?_⟩
    exact (((insR_perm acc).append_right l).trans (List.perm_middle.symm))

theorem isort_perm (ho : LtOk lt) (l : List α) : (isort lt l).Perm l := by
  have := (foldl_ins ho l [] (by simp [Desc])).2
  rw [List.nil_append] at this
  exact (List.reverse_perm _).trans this

/-- Nothing is less than what stands ahead of it. -/
theorem isort_sorted (ho : LtOk lt) (l : List α) : (isort lt l).Pairwise fun a b => lt b a = false := by
  have := (foldl_ins ho l [] (by simp [Desc])).1
  unfold isort
  rw [List.pairwise_reverse]
  exact this

theorem isort_len (ho : LtOk lt) (l : List α) : (isort lt l).length = l.length := (isort_perm ho l).length_eq

end

def ltN (a b : Nat) : Bool := decide (a < b)
theorem ltN_ok : LtOk ltN := ⟨fun a b h => by simp [ltN] at *; omega, fun a b c h1 h2 => by simp [ltN] at *; omega⟩

end Go.Proofs.Ytdmijlkknpolbaa.A
