/- Rows of pairs: the plain law. -/
import Derived.Test.YtlpibiaokpbhbaaGreatDoorA31
namespace Go.Proofs.YtlpibiaokpbhbaaGreatDoor.A
set_option linter.unusedVariables false
set_option linter.unusedSimpArgs false

section
variable {α : Type} {k k' : List UInt8} {v : α} {m : List (List UInt8 × α)}

theorem aget_append : ∀ {m m' : List (List UInt8 × α)}, aget k (m ++ m') = (aget k m).or (aget k m')
  | [], m' => rfl
  | p :: m, m' => by
    simp only [List.cons_append, aget]
    split
    · rfl
    · exact aget_append

theorem aget_aput_ne (h : k' ≠ k) : aget k' (aput k v m) = aget k' m := by
  unfold aput
  split
  · have : ∀ m : List (List UInt8 × α), aget k' (m.map fun p => if p.1 = k then (k, v) else p) = aget k' m := by
      intro m
      induction m with
      | nil => rfl
      | cons p m ih =>
        simp only [List.map_cons, aget]
        by_cases hp : p.1 = k
        · rw [if_pos hp, if_neg (Ne.symm h), if_neg (fun e => h (e.symm.trans hp)), ih]
        · rw [if_neg hp, ih]
    exact this m
  · rw [aget_append]
    have : aget k' [(k, v)] = none := by simp [aget, Ne.symm h]
    rw [this]; cases aget k' m <;> rfl

theorem aget_aput : aget k (aput k v m) = some v := by
  unfold aput
  split
  · rename_i hs
    have : ∀ m : List (List UInt8 × α), (aget k m).isSome = true → aget k (m.map fun p => if p.1 = k then (k, v) else p) = some v := by
      intro m
      induction m with
      | nil => intro h; cases h
      | cons p m ih =>
        intro h
        simp only [List.map_cons, aget] at h ⊢
        by_cases hp : p.1 = k
        · simp [hp]
        · rw [if_neg hp] at h
          rw [if_neg hp, if_neg hp]; exact ih h
    exact this m hs
  · rename_i hs
    rw [aget_append]
    have : aget k m = none := by cases e : aget k m <;> simp_all
    rw [this]; simp [aget]

theorem aget_adel : aget k (adel k m) = none := by
  rw [aget_none]
  intro p hp
  simpa [adel] using (List.mem_filter.1 hp).2

theorem aget_adel_ne (h : k' ≠ k) : aget k' (adel k m) = aget k' m := by
  unfold adel
  induction m with
  | nil => rfl
  | cons p m ih =>
    rw [List.filter_cons]
    by_cases hp : p.1 = k
    · rw [if_neg (by simp [hp]), ih]
      simp only [aget]
      rw [if_neg (fun e => h (e.symm.trans hp))]
    · rw [if_pos (by simpa using hp)]
      simp only [aget]
      rw [ih]

theorem adel_len (hn : (m.map (·.1)).Nodup) (h : (aget k m).isSome = true) : (adel k m).length = m.length - 1 := by
  obtain ⟨v, hv⟩ := Option.isSome_iff_exists.1 h
  obtain ⟨j, hj⟩ := aget_idx hv
  rw [← erase_eq_del hn hj, List.length_eraseIdx, if_pos (List.getElem?_eq_some_iff.1 hj).1]

end

end Go.Proofs.YtlpibiaokpbhbaaGreatDoor.A
