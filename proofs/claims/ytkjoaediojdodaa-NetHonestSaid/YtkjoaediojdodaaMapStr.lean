/- Maps from strings to numbers. -/
import Derived.Test.YtkjoaediojdodaaA26
namespace Go.Proofs.Ytkjoaediojdodaa.A
set_option linter.unusedVariables false
set_option linter.unusedSimpArgs false

abbrev strK (p : List UInt8) : Value := .string ⟨p.toArray⟩

theorem sameK_str {p q : List UInt8} : sameK .str (strK p) (strK q) = some (decide (p = q)) := by
  show some (p.toArray == q.toArray) = _
  congr 1
  by_cases h : p = q
  · subst h; simp
  · rw [decide_eq_false h]
    rw [beq_eq_false_iff_ne]
    exact fun e => h (by simpa using e)

/-- The map's entries read as g; where there is none: 0. -/
def MapR (es : List (Value × Value × Nat)) (g : List UInt8 → Int) : Prop :=
  ∀ p, (∃ i, findA .str (strK p) es 0 = some (some (i, iv (g p)))) ∨ (findA .str (strK p) es 0 = some none ∧ g p = 0)

def gadd (g : List UInt8 → Int) (p : List UInt8) (c : Int) : List UInt8 → Int := fun q => if q = p then g p + c else g q

theorem findA_set {p : List UInt8} {v : Value} : ∀ {es : List (Value × Value × Nat)} {off i : Nat} {u : Value}, findA .str (strK p) es off = some (some (off + i, u)) → ∀ q, findA .str (strK q) (setV es i v) off = if q = p then some (some (off + i, v)) else findA .str (strK q) es off
  | [], _, _, _, h, _ => by cases h
  | e :: es, off, i, u, h, q => by
    simp only [findA] at h
    cases hs : sameK .str (strK p) e.1 with
    | none => rw [hs] at h; cases h
    | some t =>
      rw [hs] at h
      obtain ⟨r, hr⟩ : ∃ r, e.1 = strK r := by
        obtain ⟨k, w⟩ := e
        cases k <;> simp [sameK] at hs
        rename_i s
        exact ⟨s.data.toList, by cases s; simp⟩
      rw [hr, sameK_str] at hs
      cases t with
      | true =>
        have hi : i = 0 := by simp at h; omega
        subst hi
        have hpr : p = r := by simpa using hs
        subst hpr
        simp only [setV, List.modify_zero_cons, findA, hr, sameK_str]
        by_cases hq : q = p
        · rw [decide_eq_true hq, if_pos hq]; rfl
        · rw [decide_eq_false hq, if_neg hq]
      | false =>
        have hpr : ¬ p = r := by simpa using hs
        have hi : ∃ i', i = i' + 1 := by
          cases i with
          | zero =>
            exfalso
            have hge : ∀ (es : List (Value × Value × Nat)) (o j : Nat) (w : Value), findA .str (strK p) es o = some (some (j, w)) → o ≤ j := by
              intro es
              induction es with
              | nil => intro o j w h; cases h
              | cons e es ih =>
                intro o j w h
                simp only [findA] at h
                split at h
                · simp at h; omega
                · have := ih _ _ _ h; omega
                · cases h
            have := hge _ _ _ _ h
            omega
          | succ i' => exact ⟨i', rfl⟩
        obtain ⟨i', rfl⟩ := hi
        have ih := findA_set (v := v) (es := es) (off := off + 1) (i := i') (u := u) (by rw [show off + 1 + i' = off + (i' + 1) by omega]; exact h) q
        rw [show off + 1 + i' = off + (i' + 1) by omega] at ih
        simp only [setV, List.modify_succ_cons, findA, hr, sameK_str]
        by_cases hqr : q = r
        · rw [decide_eq_true hqr]
          have : ¬ q = p := fun e => hpr (e ▸ hqr)
          rw [if_neg this]
        · rw [decide_eq_false hqr]
          exact ih

theorem findA_app {p : List UInt8} {v : Value} {c : Nat} : ∀ {es : List (Value × Value × Nat)} {off : Nat}, findA .str (strK p) es off = some none → ∀ q, findA .str (strK q) (es ++ [(strK p, v, c)]) off = if q = p then some (some (off + es.length, v)) else findA .str (strK q) es off
  | [], off, h, q => by
    simp only [List.nil_append, findA, sameK_str]
    by_cases hq : q = p
    · rw [decide_eq_true hq, if_pos hq]; rfl
    · rw [decide_eq_false hq, if_neg hq]
  | e :: es, off, h, q => by
    simp only [findA] at h
    cases hs : sameK .str (strK p) e.1 with
    | none => rw [hs] at h; cases h
    | some t =>
      rw [hs] at h
      obtain ⟨r, hr⟩ : ∃ r, e.1 = strK r := by
        obtain ⟨k, w⟩ := e
        cases k <;> simp [sameK] at hs
        rename_i s
        exact ⟨s.data.toList, by cases s; simp⟩
      rw [hr, sameK_str] at hs
      cases t with
      | true => simp at h
      | false =>
        have hpr : ¬ p = r := by simpa using hs
        have ih := findA_app (v := v) (c := c) (es := es) (off := off + 1) h q
        simp only [List.cons_append, findA, hr, sameK_str]
        by_cases hqr : q = r
        · rw [decide_eq_true hqr]
          have : ¬ q = p := fun e => hpr (e ▸ hqr)
          rw [if_neg this]
        · rw [decide_eq_false hqr]
          simp only
          rw [ih, List.length_cons, show off + 1 + es.length = off + (es.length + 1) by omega]

theorem MapR.nil : MapR [] (fun _ => 0) := fun p => .inr ⟨rfl, rfl⟩

theorem MapR.look {es : List (Value × Value × Nat)} {g : List UInt8 → Int} {H : Heap} {im clk : Nat} (h : MapR es g) (hm : H[im]? = some (.map es clk)) (p : List UInt8) :
    lkp .str (.int .i64 0) false (.map (some im)) (strK p) H = some (iv (g p), H) := by
  simp only [lkp, hm, okK, cond_true]
  rcases h p with ⟨i, e⟩ | ⟨e, e0⟩
  · rw [e]; rfl
  · rw [e, e0]; rfl

theorem MapR.inc {es : List (Value × Value × Nat)} {g : List UInt8 → Int} {H : Heap} {im clk : Nat} (h : MapR es g) (hm : H[im]? = some (.map es clk)) (p : List UInt8) (c : Int) :
    ∃ H' es' clk', mup .str (.map (some im)) (strK p) (iv (g p + c)) H = some (undef, H') ∧ H'[im]? = some (.map es' clk') ∧ MapR es' (gadd g p c) ∧ (∀ x, x ≠ im → H'[x]? = H[x]?) ∧ H'.length = H.length := by
  rcases h p with ⟨i, e⟩ | ⟨e, e0⟩
  · refine ⟨H.set im (.map (setV es i (iv (g p + c))) clk), _, _, ?_, set_get hm, fun q => ?_, fun x hx => set_get_ne (Ne.symm hx), by simp⟩
    · simp only [mup, hm, okK, cond_true, e]
    · have hf := findA_set (v := iv (g p + c)) (es := es) (off := 0) (i := i) (by rw [Nat.zero_add]; exact e) q
      rw [hf]
      unfold gadd
      by_cases hq : q = p
      · rw [if_pos hq, if_pos hq]; exact .inl ⟨_, rfl⟩
      · rw [if_neg hq, if_neg hq]; exact h q
  · refine ⟨H.set im (.map (es ++ [(strK p, iv (g p + c), clk)]) (clk + 1)), _, _, ?_, set_get hm, fun q => ?_, fun x hx => set_get_ne (Ne.symm hx), by simp⟩
    · simp only [mup, hm, okK, cond_true, e]
    · have hf := findA_app (v := iv (g p + c)) (c := clk) e q
      rw [hf]
      unfold gadd
      by_cases hq : q = p
      · rw [if_pos hq, if_pos hq]; exact .inl ⟨_, rfl⟩
      · rw [if_neg hq, if_neg hq]; exact h q

end Go.Proofs.Ytkjoaediojdodaa.A
