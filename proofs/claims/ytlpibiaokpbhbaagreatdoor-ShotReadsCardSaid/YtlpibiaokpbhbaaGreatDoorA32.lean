/- Functions of internal/bytealg, for which the model stands in. -/
import Derived.Test.YtlpibiaokpbhbaaGreatDoorA31
import Derived.Lib.Bytealg
namespace Go.Proofs.YtlpibiaokpbhbaaGreatDoor.A
set_option linter.unusedVariables false
set_option linter.unusedSimpArgs false

def idxBM (args : List Value) : M Value := fun H =>
  match args with
  | [.string s, .int .u8 c] => some (iv (Go.Lib.indexByte s.data.toList c.toNat.toUInt8), H)
  | _ => none

def cntBM (args : List Value) : M Value := fun H =>
  match args with
  | [.string s, .int .u8 c] => some (iv (Go.Lib.countByte s.data.toList c.toNat.toUInt8), H)
  | _ => none

section
variable {P : Program} {G : Nat} {w0 : Base}

theorem idxB_sound {g : FuncId} (he : externF P g Extern.BytealgIndexByte.indexByte) : SoundP P G w0 g idxBM := by
  intro args H v H1 h
  refine .inr ⟨_, he, fun ι w args' hS hr => ?_⟩
  unfold idxBM at h
  split at h
  · rename_i s c
    cases h
    obtain ⟨p', r', rfl, hp', hr'⟩ := hr.cons_inv
    obtain ⟨y', r2, rfl, hy', hr2⟩ := hr'.cons_inv
    have := hr2.nil_inv; subst this
    have := hy'.int_inv; subst this
    have := hp'.scalar_inv rfl; subst this
    exact ⟨ι, _, w, .refl ι, hS, .sc rfl, Go.Lib.run_indexByteString s c w⟩
  · cases h

theorem cntB_sound {g : FuncId} (he : externF P g Extern.BytealgCount.count) : SoundP P G w0 g cntBM := by
  intro args H v H1 h
  refine .inr ⟨_, he, fun ι w args' hS hr => ?_⟩
  unfold cntBM at h
  split at h
  · rename_i s c
    cases h
    obtain ⟨p', r', rfl, hp', hr'⟩ := hr.cons_inv
    obtain ⟨y', r2, rfl, hy', hr2⟩ := hr'.cons_inv
    have := hr2.nil_inv; subst this
    have := hy'.int_inv; subst this
    have := hp'.scalar_inv rfl; subst this
    exact ⟨ι, _, w, .refl ι, hS, .sc rfl, Go.Lib.run_countString s c w⟩
  · cases h

end

theorem u8_back (b : UInt8) : (b.toNat : Int).toNat.toUInt8 = b := by
  rw [Int.toNat_natCast]
  simp

theorem idxB_v {s : List UInt8} {b : UInt8} {H : Heap} : idxBM [strv s, .int .u8 b.toNat] H = some (iv (Go.Lib.indexByte s b), H) := by
  unfold idxBM strv
  simp only [u8_back]

theorem cntB_v {s : List UInt8} {b : UInt8} {H : Heap} : cntBM [strv s, .int .u8 b.toNat] H = some (iv (s.count b), H) := by
  unfold cntBM strv Go.Lib.countByte
  simp only [u8_back]

/-- Where it stands. -/
theorem indexByte_take {b : UInt8} : ∀ {s : List UInt8}, Go.Lib.indexByte s b = if b ∈ s then (((s.takeWhile (· != b)).length : Nat) : Int) else -1
  | [] => rfl
  | c :: s => by
    have ih := indexByte_take (b := b) (s := s)
    unfold Go.Lib.indexByte
    by_cases hc : c = b
    · subst hc; simp
    · have h1 : (c == b) = false := beq_eq_false_iff_ne.2 hc
      have h2 : (c != b) = true := by simp [hc]
      rw [h1, List.takeWhile_cons, h2, ih]
      by_cases hm : b ∈ s
      · have : ¬ ((((s.takeWhile (· != b)).length : Nat) : Int) == -1) = true := by simp
        simp [hm, this]
      · have hm2 : ¬ b ∈ c :: s := by simp [hm, Ne.symm hc]
        simp [hm, Ne.symm hc]

end Go.Proofs.YtlpibiaokpbhbaaGreatDoor.A
