/- Rows of texts, in an array: what a block may be. -/
import Derived.Test.YtahocinoohdagaaBlkActs
namespace Go.Proofs.Ytahocinoohdagaa.A
set_option linter.unusedVariables false
set_option linter.unusedSimpArgs false
open Go.Proofs Go.Proofs.Ytahocinoohdagaa

/-- A row that need not begin where its object begins. -/
def RowO (H : Heap) (sl : Value) (vs : List Value) (own : List Nat) : Prop :=
  ∃ sid pre rest g, sl = .slice (some ⟨sid, pre.length, none⟩) vs.length (vs.length + rest.length) ∧ own = [sid] ∧ H[sid]? = some (.cells (pre ++ (vs ++ rest)) 1 g false)

section
variable {H H' : Heap} {sl v : Value} {vs : List Value} {own : List Nat}

theorem RowO.rd (h : RowO H sl vs own) : Sl H sl vs := by
  obtain ⟨sid, pre, rest, g, rfl, rfl, hid⟩ := h
  refine ⟨_, _, rfl, (fun e => by cases e), ?_⟩
  unfold fcells
  simp [hid]

theorem RowO.lt (h : RowO H sl vs own) : ∀ j ∈ own, j < H.length := by
  obtain ⟨sid, pre, rest, g, rfl, rfl, hid⟩ := h
  intro j hj
  simp at hj
  subst hj
  exact get_lt hid

theorem RowO.keep (h : RowO H sl vs own) (hk : ∀ j ∈ own, H'[j]? = H[j]?) : RowO H' sl vs own := by
  obtain ⟨sid, pre, rest, g, rfl, rfl, hid⟩ := h
  exact ⟨sid, pre, rest, g, rfl, rfl, by rw [hk sid (by simp)]; exact hid⟩

theorem RowO.single (h : RowO H sl vs own) : own.Nodup := by
  obtain ⟨sid, pre, rest, g, rfl, rfl, hid⟩ := h; simp

theorem RowO.one (h : RowO H sl vs own) : oneCell sl = true ∧ sl.cells = #[sl] := h.rd.oneC

/-- One element more. -/
theorem RowO.push {b : Nat} (h : RowO H sl vs own) {x : Value} (hx : Sl H x [v]) (hb : (vs.length + 1) * b ≤ 140737488355328) (hb0 : vs.length + 1 ≤ 140737488355328) :
    ∃ sl' H' own', app 1 b sl x H = some (sl', H') ∧ RowO H' sl' (vs ++ [v]) own' ∧ Step own H own' H' := by
  have hf := hx.fc
  have hn := hx.flen
  obtain ⟨sid, pre, rest, g, rfl, rfl, hid⟩ := h
  cases rest with
  | cons r rest =>
    refine ⟨_, H.set sid (.cells (pre ++ (vs ++ [v] ++ rest)) 1 g false), [sid], ?_, ⟨sid, pre, rest, g, rfl, rfl, set_get hid⟩, ⟨by simp, fun j hj hn => List.getElem?_set_ne (fun e => hn (by simp [e])), by simp⟩⟩
    unfold app
    rw [hf]
    simp only [hn, List.length_singleton, hid, if_true]
    rw [if_pos (by simp), if_neg (by omega), if_pos (by simp)]
    simp only [Nat.mul_one]
    rw [show splice (pre ++ (vs ++ r :: rest)) [v] (pre.length + vs.length) = pre ++ (vs ++ [v] ++ rest) from by
      unfold splice
      rw [← List.append_assoc, List.take_append_of_le_length (by simp), List.take_of_length_le (by simp)]
      rw [show pre.length + vs.length + [v].length = (pre ++ vs).length + 1 by simp, List.drop_append]
      simp]
    simp only [List.length_append, List.length_cons, List.length_nil]
    congr 3
    omega
  | nil =>
    have happ : app 1 b (.slice (some ⟨sid, pre.length, none⟩) vs.length (vs.length + ([] : List Value).length)) x H = some (.slice (some ⟨H.length, 0, none⟩) (vs.length + 1) (vs.length + 1), (bif g then H.set sid .dead else H) ++ [.cells (vs ++ [v]) 1 true false]) := by
      unfold app
      rw [hf]
      simp only [hn, List.length_singleton, hid, if_true, List.length_nil, Nat.add_zero]
      rw [if_neg (by omega), if_pos (by simp; omega)]
      simp
    refine ⟨_, _, [H.length], happ, ⟨H.length, [], [], true, by simp, rfl, ?_⟩, ⟨?_, fun j hj hn => ?_, by simp⟩⟩
    · rw [List.getElem?_append_right (by cases g <;> simp)]
      cases g <;> simp
    · cases g <;> simp
    · rw [List.getElem?_append_left (by cases g <;> simpa using hj)]
      cases g
      · rfl
      · exact List.getElem?_set_ne (fun e => hn (by simp [e]))

/-- The last element alone. -/
theorem RowO.trim (h : RowO H sl vs own) (hv : vs ≠ []) : ∃ sl', slv 1 sl (some (iv ((vs.length - 1 : Nat) : Int))) none none H = some (sl', H) ∧ RowO H sl' (vs.drop (vs.length - 1)) own := by
  obtain ⟨sid, pre, rest, g, rfl, rfl, hid⟩ := h
  have hl : 0 < vs.length := List.length_pos_iff.2 hv
  refine ⟨.slice (some ⟨sid, pre.length + (vs.length - 1) * 1, none⟩) (vs.length - (vs.length - 1)) (vs.length + rest.length - (vs.length - 1)), ?_, ⟨sid, pre ++ vs.take (vs.length - 1), rest, g, ?_, rfl, ?_⟩⟩
  · simp only [slv, hid]
    have b1 : bnd (some (iv ((vs.length - 1 : Nat) : Int))) 0 = some (vs.length - 1) := by simp [bnd]
    have b2 : bnd none vs.length = some vs.length := rfl
    have b3 : bnd none (vs.length + rest.length) = some (vs.length + rest.length) := rfl
    simp only [b1, b2, b3]
    rw [if_pos ⟨trivial, by omega, by omega, by omega⟩, if_neg (by omega)]
  · rw [List.length_append, List.length_take, List.length_drop, Nat.mul_one, Nat.min_eq_left (by omega)]
    congr 1
    omega
  · rw [hid, List.append_assoc, ← List.append_assoc (vs.take _), List.take_append_drop]

end

/-- An array of such rows. -/
def May (H : Heap) (mid : Nat) (L : List (List (List UInt8))) (own : List Nat) : Prop :=
  ∃ ps : List (Value × List Nat), H[mid]? = some (.cells (ps.map (·.1)) 1 false false) ∧ All2 (fun p l => RowO H p.1 (l.map strv) p.2 ∧ l ≠ []) ps L ∧ own = mid :: (ps.map (·.2)).flatten ∧ own.Nodup

section
variable {H H' : Heap} {mid : Nat} {L : List (List (List UInt8))} {own : List Nat}

theorem All2.impM {α β : Type} {R S : α → β → Prop} {l : List α} {m : List β} (h : All2 R l m) (hi : ∀ a b, a ∈ l → R a b → S a b) : All2 S l m := by
  induction h with
  | nil => exact .nil
  | cons h _ ih => exact .cons (hi _ _ (by simp) h) (ih fun a b ha hr => hi a b (by simp [ha]) hr)

theorem May.lt (h : May H mid L own) : ∀ j ∈ own, j < H.length := by
  obtain ⟨ps, h1, h2, rfl, h4⟩ := h
  intro j hj
  rcases List.mem_cons.1 hj with rfl | hj
  · exact get_lt h1
  · obtain ⟨q, hq, hjq⟩ := List.mem_flatten.1 hj
    obtain ⟨p, hp, rfl⟩ := List.mem_map.1 hq
    obtain ⟨l, hl, hr, _⟩ := h2.mem hp
    exact hr.lt j hjq

theorem May.keep (h : May H mid L own) (hk : ∀ j ∈ own, H'[j]? = H[j]?) : May H' mid L own := by
  obtain ⟨ps, h1, h2, rfl, h4⟩ := h
  refine ⟨ps, by rw [hk mid (by simp)]; exact h1, h2.impM fun p l hp hr => ⟨hr.1.keep fun j hj => hk j ?_, hr.2⟩, rfl, h4⟩
  exact List.mem_cons_of_mem _ (List.mem_flatten.2 ⟨p.2, List.mem_map.2 ⟨p, hp, rfl⟩, hj⟩)

theorem May.step {o1 o2 : List Nat} (h : May H mid L own) (hs : Step o1 H o2 H') (hn : ∀ j ∈ own, j ∉ o1) : May H' mid L own :=
  h.keep fun j hj => hs.keep j (h.lt j hj) (hn j hj)

theorem May.len (h : May H mid L own) : ∃ ps : List (Value × List Nat), ps.length = L.length := by
  obtain ⟨ps, h1, h2, _⟩ := h; exact ⟨ps, h2.len⟩

/-- A row is looked up. -/
theorem May.get (h : May H mid L own) {i : Nat} {l : List (List UInt8)} (hi : L[i]? = some l) : ∃ sl, ld1 (pa mid i) H = some (sl, H) ∧ Sl H sl (l.map strv) ∧ l ≠ [] := by
  obtain ⟨ps, h1, h2, rfl, h4⟩ := h
  obtain ⟨p, hp, hr, hl⟩ := h2.at hi
  exact ⟨p.1, ld1_at h1 (by rw [List.getElem?_map, hp]; rfl), hr.rd, hl⟩

theorem flatten_set_mem {q' : List Nat} : ∀ {qs : List (List Nat)} {i : Nat} {j : Nat}, j ∈ (qs.set i q').flatten → j ∈ q' ∨ j ∈ qs.flatten
  | [], _, j, h => by simp at h
  | q :: qs, 0, j, h => by
    simp only [List.set_cons_zero, List.flatten_cons, List.mem_append] at h ⊢
    rcases h with h | h
    · exact .inl h
    · exact .inr (.inr h)
  | q :: qs, i + 1, j, h => by
    simp only [List.set_cons_succ, List.flatten_cons, List.mem_append] at h ⊢
    rcases h with h | h
    · exact .inr (.inl h)
    · rcases flatten_set_mem h with h | h
      · exact .inl h
      · exact .inr (.inr h)

theorem nodup_set {q q' : List Nat} : ∀ {qs : List (List Nat)} {i : Nat}, qs.flatten.Nodup → qs[i]? = some q → q'.Nodup → (∀ j ∈ q', j ∈ q ∨ j ∉ qs.flatten) → (qs.set i q').flatten.Nodup
  | [], _, h, _, _, _ => by simp
  | x :: qs, 0, h, hi, hq, hn => by
    have : x = q := by simpa using hi
    subst this
    rw [List.flatten_cons, List.nodup_append] at h
    rw [List.set_cons_zero, List.flatten_cons, List.nodup_append]
    refine ⟨hq, h.2.1, fun a ha b hb e => ?_⟩
    subst e
    rcases hn a ha with h1 | h1
    · exact h.2.2 a h1 a hb rfl
    · exact h1 (by simp only [List.flatten_cons, List.mem_append]; exact .inr hb)
  | x :: qs, i + 1, h, hi, hq, hn => by
    rw [List.flatten_cons, List.nodup_append] at h
    have hi' : qs[i]? = some q := by simpa using hi
    rw [List.set_cons_succ, List.flatten_cons, List.nodup_append]
    refine ⟨h.1, nodup_set h.2.1 hi' hq fun j hj => (hn j hj).imp (fun h => h) fun h h2 => h (by simp only [List.flatten_cons, List.mem_append]; exact .inr h2), fun a ha b hb e => ?_⟩
    subst e
    rcases flatten_set_mem hb with h1 | h1
    · rcases hn a h1 with h2 | h2
      · exact h.2.2 a ha a (List.mem_flatten.2 ⟨q, List.mem_of_getElem? hi', h2⟩) rfl
      · exact h2 (by simp only [List.flatten_cons, List.mem_append]; exact .inl ha)
    · exact h.2.2 a ha a h1 rfl

/-- A row is put in the place of another. -/
theorem May.put (h : May H mid L own) {i : Nat} {l l' : List (List UInt8)} (hi : L[i]? = some l) : 
    ∃ sl q, ld1 (pa mid i) H = some (sl, H) ∧ RowO H sl (l.map strv) q ∧ l ≠ [] ∧ mid ∉ q ∧ (∀ j ∈ q, j ∈ own) ∧
      ∀ (sl' : Value) (H' : Heap) (q' : List Nat), RowO H' sl' (l'.map strv) q' → l' ≠ [] → Step q H q' H' → ∃ H2 own', st1 (pa mid i) sl' H' = some (undef, H2) ∧ May H2 mid (L.set i l') own' ∧ Step own H own' H2 := by
  have hlt := h.lt
  obtain ⟨ps, h1, h2, rfl, h4⟩ := h
  obtain ⟨p, hp, hr, hl⟩ := h2.at hi
  have hq : (ps.map (·.2))[i]? = some p.2 := by rw [List.getElem?_map, hp]; rfl
  rw [List.nodup_cons] at h4
  have hqf : ∀ j ∈ p.2, j ∈ (ps.map (·.2)).flatten := fun j hj => List.mem_flatten.2 ⟨p.2, List.mem_of_getElem? hq, hj⟩
  have hmq : mid ∉ p.2 := fun hm => h4.1 (hqf mid hm)
  refine ⟨p.1, p.2, ld1_at h1 (by rw [List.getElem?_map, hp]; rfl), hr, hl, hmq, fun j hj => List.mem_cons_of_mem _ (hqf j hj), fun sl' H' q' hr' hl' hs => ?_⟩
  have hm1 : H'[mid]? = some (.cells (ps.map (·.1)) 1 false false) := hs.get h1 hmq
  have hil : i < ps.length := (List.getElem?_eq_some_iff.1 hp).1
  have hnew : ∀ j ∈ q', j ∈ p.2 ∨ j ∉ (ps.map (·.2)).flatten := fun j hj => (hs.own j hj).imp (fun h => h) fun h h2 => by have := hlt j (List.mem_cons_of_mem _ h2); omega
  have hmq' : mid ∉ q' := fun hm => by
    rcases hs.own mid hm with h | h
    · exact hmq h
    · have := hlt mid (by simp); omega
  have hset1 : (ps.map (·.1)).set i sl' = (ps.set i (sl', q')).map (·.1) := by rw [List.map_set]
  have hset2 : (ps.map (·.2)).set i q' = (ps.set i (sl', q')).map (·.2) := by rw [List.map_set]
  have hne : ∀ (o : AObj) j, j ≠ mid → (H'.set mid o)[j]? = H'[j]? := fun o j hj => List.getElem?_set_ne (Ne.symm hj)
  refine ⟨H'.set mid (.cells ((ps.map (·.1)).set i sl') 1 false false), mid :: ((ps.map (·.2)).set i q').flatten, st1_at hm1 (by simpa using hil) hr'.one.1, ⟨ps.set i (sl', q'), by rw [← hset1]; exact set_get hm1, ?_, by rw [hset2], ?_⟩, ⟨by have := hs.len; simp; omega, fun j hj hn => ?_, fun j hj => ?_⟩⟩
  · -- rows
    have key : ∀ {cs : List Value} {ps : List (Value × List Nat)} {L : List (List (List UInt8))} {i : Nat}, All2 (fun p l => RowO H p.1 (l.map strv) p.2 ∧ l ≠ []) ps L → ps[i]? = some p → (∀ x ∈ (ps.map (·.2)).flatten, x ≠ mid ∧ x < H.length) → (ps.map (·.2)).flatten.Nodup →
        All2 (fun p l => RowO (H'.set mid (.cells cs 1 false false)) p.1 (l.map strv) p.2 ∧ l ≠ []) (ps.set i (sl', q')) (L.set i l') := by
      intro cs ps L i hA
      induction hA generalizing i with
      | nil => intro hp; simp at hp
      | @cons a b ps L hab hA ih =>
        intro hp hx hnd
        rw [List.map_cons, List.flatten_cons, List.nodup_append] at hnd
        cases i with
        | zero =>
          have : a = p := by simpa using hp
          subst this
          refine .cons ⟨hr'.keep fun j hj => hne _ j fun e => hmq' (e ▸ hj), hl'⟩ (hA.impM fun p2 l2 hp2 h2 => ⟨h2.1.keep fun j hj => ?_, h2.2⟩)
          have hjf : j ∈ (ps.map (·.2)).flatten := List.mem_flatten.2 ⟨p2.2, List.mem_map.2 ⟨p2, hp2, rfl⟩, hj⟩
          have hj1 := hx j (by simp only [List.map_cons, List.flatten_cons, List.mem_append]; exact .inr hjf)
          rw [hne _ j hj1.1, hs.keep j hj1.2 fun hm => hnd.2.2 j hm j hjf rfl]
        | succ i =>
          have hp' : ps[i]? = some p := by simpa using hp
          refine .cons ⟨hab.1.keep fun j hj => ?_, hab.2⟩ (ih hp' (fun x hx2 => hx x (by simp only [List.map_cons, List.flatten_cons, List.mem_append]; exact .inr hx2)) hnd.2.1)
          have hj1 := hx j (by simp only [List.map_cons, List.flatten_cons, List.mem_append]; exact .inl hj)
          rw [hne _ j hj1.1, hs.keep j hj1.2 fun hm => hnd.2.2 j hj j (List.mem_flatten.2 ⟨p.2, List.mem_map.2 ⟨p, List.mem_of_getElem? hp', rfl⟩, hm⟩) rfl]
    exact key h2 hp (fun x hx => ⟨fun e => h4.1 (e ▸ hx), hlt x (List.mem_cons_of_mem _ hx)⟩) h4.2
  · rw [List.nodup_cons]
    refine ⟨fun hm => ?_, nodup_set h4.2 hq hr'.single hnew⟩
    rcases flatten_set_mem hm with h | h
    · exact hmq' h
    · exact h4.1 h
  · simp only [List.mem_cons, not_or] at hn
    rw [hne _ j hn.1, hs.keep j hj fun hm => hn.2 (hqf j hm)]
  · rcases List.mem_cons.1 hj with rfl | hj
    · exact .inl (by simp)
    · rcases flatten_set_mem hj with h | h
      · exact (hs.own j h).imp (fun h => List.mem_cons_of_mem _ (hqf j h)) fun h => h
      · exact .inl (List.mem_cons_of_mem _ h)

end

end Go.Proofs.Ytahocinoohdagaa.A
