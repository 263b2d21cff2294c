/- A row of users that rise: the plain law. -/
import Derived.Test.YtlpibiaokpbhbaaGreatDoorEldLives
namespace Go.Proofs.YtlpibiaokpbhbaaGreatDoor.A
set_option linter.unusedVariables false
set_option linter.unusedSimpArgs false
open Go.Proofs Go.Proofs.YtlpibiaokpbhbaaGreatDoor

/-! the plain law -/

abbrev Ent := List UInt8 × List UInt8

def Rise (l : SMap) : Prop := l.Pairwise fun a b => a.1 < b.1

theorem rise_ext : ∀ {l l' : SMap}, Rise l → Rise l' → (∀ x, x ∈ l ↔ x ∈ l') → l = l' := by
  intro l l' h h' hm
  have nd : ∀ {l : SMap}, Rise l → l.Nodup := fun h => by
    rw [List.nodup_iff_pairwise_ne]
    refine List.Pairwise.imp ?_ h
    rintro a b hab rfl
    exact List.lt_irrefl _ hab
  have hp : l.Perm l' := (List.perm_ext_iff_of_nodup (nd h) (nd h')).2 hm
  refine List.Perm.eq_of_pairwise (le := fun a b => a.1 < b.1) (fun a b _ _ h1 h2 => absurd h2 (List.lt_asymm h1)) (show l.Pairwise (fun a b : Ent => a.1 < b.1) from h) (show l'.Pairwise (fun a b : Ent => a.1 < b.1) from h') hp

section
variable {m : SMap} {k s : List UInt8} {x : Ent}

theorem mem_sortM (hn : (m.map (·.1)).Nodup) : x ∈ sortM m ↔ aget x.1 m = some x.2 := by
  unfold sortM
  rw [List.mem_map]
  constructor
  · rintro ⟨k, hk, rfl⟩
    have hk := keys_mem hk
    obtain ⟨p, hp, rfl⟩ := List.mem_map.1 hk
    have : aget p.1 m = some p.2 := aget_of_mem hn hp
    simp [this]
  · intro h
    refine ⟨x.1, List.mem_mergeSort.2 (List.mem_map.2 ⟨_, aget_mem h, rfl⟩), ?_⟩
    rw [h]; rfl

theorem rise_sortM (hn : (m.map (·.1)).Nodup) : Rise (sortM m) := by
  have hk : (ksort (m.map (·.1))).Pairwise (· < ·) := by
    have tr : ∀ a b c : List UInt8, leB a b = true → leB b c = true → leB a c = true := fun a b c h1 h2 => by simp only [leB, decide_eq_true_eq] at *; exact List.le_trans h1 h2
    have to : ∀ a b : List UInt8, (leB a b || leB b a) = true := fun a b => by simp only [leB, Bool.or_eq_true, decide_eq_true_eq]; exact List.le_total a b
    have h1 := List.pairwise_mergeSort tr to (m.map (·.1))
    have h2 : (ksort (m.map (·.1))).Pairwise (· ≠ ·) := List.nodup_iff_pairwise_ne.1 ((List.mergeSort_perm _ _).nodup_iff.2 hn)
    refine (h1.and h2).imp fun {a b} h => ?_
    have h3 : a ≤ b := by have := h.1; simpa [leB] using this
    rcases lt_tri a b with h4 | h4 | h4
    · exact h4
    · exact absurd h4 h.2
    · exact absurd h4 h3
  unfold Rise sortM
  rw [List.pairwise_map]
  exact hk

theorem sortM_len : (sortM m).length = m.length := by
  unfold sortM
  rw [List.length_map, ksort_len, List.length_map]

/-- A row with a user, in its place. -/
def putMid (u : Ent) : SMap → Bool → SMap
  | [], _ => []
  | v :: l, done => (if !done && decide (u.1 ≤ v.1) then [u] else []) ++ ((if v.1 ≠ u.1 then [v] else []) ++ putMid u l (done || decide (u.1 ≤ v.1)))
def putDone (u : Ent) : SMap → Bool → Bool
  | [], done => done
  | v :: l, done => putDone u l (done || decide (u.1 ≤ v.1))
def putL (u : Ent) (l : SMap) : SMap := putMid u l false ++ if putDone u l false then [] else [u]

theorem putMid_true {u : Ent} : ∀ {l : SMap}, putMid u l true = l.filter fun v => decide (v.1 ≠ u.1)
  | [] => rfl
  | v :: l => by
    unfold putMid
    rw [Bool.true_or, putMid_true, List.filter_cons]
    by_cases h : v.1 = u.1 <;> simp [h]

theorem putDone_true {u : Ent} : ∀ {l : SMap}, putDone u l true = true
  | [] => rfl
  | v :: l => by unfold putDone; rw [Bool.true_or, putDone_true]

theorem putL_cons {u v : Ent} {l : SMap} : putL u (v :: l) = if u.1 ≤ v.1 then u :: (v :: l).filter (fun v => decide (v.1 ≠ u.1)) else v :: putL u l := by
  have e1 : putMid u (v :: l) false = (if !false && decide (u.1 ≤ v.1) then [u] else []) ++ ((if v.1 ≠ u.1 then [v] else []) ++ putMid u l (false || decide (u.1 ≤ v.1))) := rfl
  have e2 : putDone u (v :: l) false = putDone u l (false || decide (u.1 ≤ v.1)) := rfl
  unfold putL
  rw [e1, e2]
  by_cases h : u.1 ≤ v.1
  · rw [if_pos h]
    simp only [h, decide_true, Bool.or_true, putMid_true, putDone_true, Bool.not_false, Bool.and_self, if_true, List.filter_cons]
    by_cases h2 : v.1 = u.1 <;> simp [h2]
  · rw [if_neg h]
    have h2 : v.1 ≠ u.1 := fun e => h (by rw [e]; exact List.le_refl _)
    simp [h, h2]

theorem mem_putL {u : Ent} : ∀ {l : SMap}, x ∈ putL u l ↔ x = u ∨ (x ∈ l ∧ x.1 ≠ u.1)
  | [] => by simp [putL, putMid, putDone]
  | v :: l => by
    rw [putL_cons]
    by_cases h : u.1 ≤ v.1
    · rw [if_pos h, List.mem_cons, List.mem_filter]; simp
    · have h2 : v.1 ≠ u.1 := fun e => h (by rw [e]; exact List.le_refl _)
      rw [if_neg h, List.mem_cons, mem_putL, List.mem_cons]
      constructor
      · rintro (rfl | h | h)
        · exact .inr ⟨.inl rfl, h2⟩
        · exact .inl h
        · exact .inr ⟨.inr h.1, h.2⟩
      · rintro (h | ⟨h | h, h3⟩)
        · exact .inr (.inl h)
        · exact .inl h
        · exact .inr (.inr ⟨h, h3⟩)

theorem rise_putL {u : Ent} : ∀ {l : SMap}, Rise l → Rise (putL u l)
  | [], _ => by simp [putL, putMid, putDone, Rise]
  | v :: l, hr => by
    have hr2 : (∀ a ∈ l, v.1 < a.1) ∧ Rise l := by simpa [Rise] using hr
    rw [putL_cons]
    by_cases h : u.1 ≤ v.1
    · rw [if_pos h]
      refine List.pairwise_cons.2 ⟨fun a ha => ?_, List.Pairwise.filter _ hr⟩
      obtain ⟨h1, h2⟩ := List.mem_filter.1 ha
      have h2 : a.1 ≠ u.1 := by simpa using h2
      have h3 : u.1 ≤ a.1 := by
        rcases List.mem_cons.1 h1 with rfl | h1
        · exact h
        · exact List.le_trans h (List.le_of_lt (hr2.1 a h1))
      rcases lt_tri u.1 a.1 with h4 | h4 | h4
      · exact h4
      · exact absurd h4.symm h2
      · exact absurd h4 h3
    · rw [if_neg h]
      refine List.pairwise_cons.2 ⟨fun a ha => ?_, rise_putL hr2.2⟩
      rcases mem_putL.1 ha with rfl | ⟨h1, _⟩
      · rcases lt_tri v.1 a.1 with h4 | h4 | h4
        · exact h4
        · exact absurd (by rw [h4]; exact List.le_refl _) h
        · exact absurd (List.le_of_lt h4) h
      · exact hr2.1 a h1

theorem put_is (hn : (m.map (·.1)).Nodup) : putL (k, s) (sortM m) = sortM (aput k s m) := by
  refine rise_ext (rise_putL (rise_sortM hn)) (rise_sortM (nodup_aput hn)) fun x => ?_
  rw [mem_putL, mem_sortM hn, mem_sortM (nodup_aput hn)]
  by_cases h : x.1 = k
  · rw [h, aget_aput]
    constructor
    · rintro (rfl | ⟨_, h2⟩)
      · rfl
      · exact absurd rfl h2
    · intro h2
      cases h2
      exact .inl (by rw [← h])
  · rw [aget_aput_ne h]
    constructor
    · rintro (rfl | ⟨h2, _⟩)
      · exact absurd rfl h
      · exact h2
    · exact fun h2 => .inr ⟨h2, h⟩

theorem drop_is (hn : (m.map (·.1)).Nodup) : (sortM m).filter (fun v => decide (v.1 ≠ k)) = sortM (adel k m) := by
  refine rise_ext (List.Pairwise.filter _ (rise_sortM hn)) (rise_sortM (nodup_adel hn)) fun x => ?_
  rw [List.mem_filter, mem_sortM hn, mem_sortM (nodup_adel hn)]
  by_cases h : x.1 = k
  · rw [h, aget_adel]; simp
  · rw [aget_adel_ne h]; simp [h]

def findI (k : List UInt8) (l : SMap) : Option Nat := l.findIdx? fun u => u.1 == k

theorem find_none (hn : (m.map (·.1)).Nodup) : findI k (sortM m) = none ↔ aget k m = none := by
  unfold findI
  rw [List.findIdx?_eq_none_iff]
  constructor
  · intro h
    cases hg : aget k m with
    | none => rfl
    | some v =>
      have := h (k, v) ((mem_sortM hn).2 hg)
      simp at this
  · intro h x hx
    have := (mem_sortM hn).1 hx
    rw [beq_eq_false_iff_ne]
    rintro rfl
    rw [h] at this; cases this

theorem find_some (hn : (m.map (·.1)).Nodup) {i : Nat} (h : findI k (sortM m) = some i) : ∃ v, aget k m = some v ∧ (sortM m)[i]? = some (k, v) := by
  obtain ⟨hi, h1, _⟩ := List.findIdx?_eq_some_iff_getElem.1 h
  have hg := List.getElem?_eq_getElem hi
  have hm := List.getElem_mem hi
  generalize (sortM m)[i] = x at h1 hg hm
  have h1 : x.1 = k := by simpa using h1
  have h2 := (mem_sortM hn).1 hm
  obtain ⟨x1, x2⟩ := x
  simp only at h1 h2
  subst h1
  exact ⟨x2, h2, hg⟩

end

end Go.Proofs.YtlpibiaokpbhbaaGreatDoor.A
