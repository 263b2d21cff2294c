/- Rows of elements of several cells; lists that stand to each other. -/
import Derived.Test.YtlpibiaokpbhbaaGreatDoorA26
namespace Go.Proofs.YtlpibiaokpbhbaaGreatDoor.A
set_option linter.unusedVariables false
set_option linter.unusedSimpArgs false

inductive All2 {α β : Type} (R : α → β → Prop) : List α → List β → Prop
  | nil : All2 R [] []
  | cons {a : α} {b : β} {l : List α} {m : List β} : R a b → All2 R l m → All2 R (a :: l) (b :: m)

section
variable {α β : Type} {R S : α → β → Prop} {l l' : List α} {m m' : List β} {a : α} {b : β}

theorem All2.len (h : All2 R l m) : l.length = m.length := by
  induction h with
  | nil => rfl
  | cons _ _ ih => simp [ih]

theorem All2.imp (h : All2 R l m) (hi : ∀ a b, R a b → S a b) : All2 S l m := by
  induction h with
  | nil => exact .nil
  | cons h _ ih => exact .cons (hi _ _ h) ih

theorem All2.at (h : All2 R l m) {i : Nat} (hb : m[i]? = some b) : ∃ a, l[i]? = some a ∧ R a b := by
  induction h generalizing i with
  | nil => simp at hb
  | cons h _ ih =>
    cases i with
    | zero =>
      simp only [List.getElem?_cons_zero, Option.some.injEq] at hb
      subst hb
      exact ⟨_, rfl, h⟩
    | succ i => exact ih (by simpa using hb)

theorem All2.atL (h : All2 R l m) {i : Nat} (ha : l[i]? = some a) : ∃ b, m[i]? = some b ∧ R a b := by
  induction h generalizing i with
  | nil => simp at ha
  | cons h _ ih =>
    cases i with
    | zero =>
      simp only [List.getElem?_cons_zero, Option.some.injEq] at ha
      subst ha
      exact ⟨_, rfl, h⟩
    | succ i => exact ih (by simpa using ha)

theorem All2.set (h : All2 R l m) {i : Nat} (hr : R a b) : All2 R (l.set i a) (m.set i b) := by
  induction h generalizing i with
  | nil => exact .nil
  | cons h h2 ih =>
    cases i with
    | zero => exact .cons hr h2
    | succ i => exact .cons h ih

theorem All2.app (h : All2 R l m) (h' : All2 R l' m') : All2 R (l ++ l') (m ++ m') := by
  induction h with
  | nil => exact h'
  | cons h _ ih => exact .cons h ih

theorem All2.one (h : R a b) : All2 R [a] [b] := .cons h .nil

theorem All2.mem (h : All2 R l m) (ha : a ∈ l) : ∃ b ∈ m, R a b := by
  obtain ⟨i, hi, rfl⟩ := List.getElem_of_mem ha
  obtain ⟨b, hb, hr⟩ := h.atL (List.getElem?_eq_getElem hi)
  exact ⟨b, List.mem_of_getElem? hb, hr⟩
end

/-! rows of elements -/

theorem flat_len {es : Nat} : ∀ {rows : List (List Value)}, (∀ r ∈ rows, r.length = es) → rows.flatten.length = rows.length * es
  | [], _ => by simp
  | r :: rows, h => by
    rw [List.flatten_cons, List.length_append, h r (by simp), flat_len fun x hx => h x (by simp [hx]), List.length_cons, Nat.add_mul]
    omega

theorem flat_at {es : Nat} : ∀ {rows : List (List Value)} {i : Nat} {r : List Value} {rest : List Value}, (∀ r ∈ rows, r.length = es) → rows[i]? = some r → ((rows.flatten ++ rest).drop (i * es)).take es = r
  | [], _, _, _, _, h => by simp at h
  | q :: rows, 0, r, rest, h, hi => by
    have : q = r := by simpa using hi
    subst this
    have := h q (by simp)
    simp [← this]
  | q :: rows, i + 1, r, rest, h, hi => by
    have hq := h q (by simp)
    rw [List.flatten_cons, List.append_assoc, show (i + 1) * es = q.length + i * es by rw [hq, Nat.add_mul]; omega, List.drop_append]
    simp only [List.drop_eq_nil_of_le (Nat.le_add_right _ _), List.nil_append, Nat.add_sub_cancel_left]
    exact flat_at (fun x hx => h x (by simp [hx])) (by simpa using hi)

/-- A slice of elements of es cells each holds rows. -/
def SlN (es : Nat) (H : Heap) (sl : Value) (rows : List (List Value)) : Prop :=
  ∃ a c, sl = .slice a rows.length c ∧ (a = none → c = 0) ∧ fcells es H sl = some rows.flatten ∧ ∀ r ∈ rows, r.length = es

section
variable {H H' : Heap} {sl v : Value} {rows : List (List Value)} {es : Nat}

theorem SlN.len (h : SlN es H sl rows) : lenS sl H' = some (iv rows.length, H') := by
  obtain ⟨a, c, rfl, _⟩ := h; rfl

theorem SlN.flen (h : SlN es H sl rows) : flen sl = rows.length := by
  obtain ⟨a, c, rfl, _⟩ := h; rfl

theorem SlN.fc (h : SlN es H sl rows) : fcells es H sl = some rows.flatten := by
  obtain ⟨a, c, rfl, _, h, _⟩ := h; exact h

theorem SlN.ok (h : SlN es H sl rows) : ∀ r ∈ rows, r.length = es := by
  obtain ⟨a, c, rfl, _, _, h⟩ := h; exact h

theorem SlN.one (h : SlN es H sl rows) : oneCell sl = true ∧ sl.cells = #[sl] := by
  obtain ⟨a, c, rfl, _⟩ := h; exact ⟨rfl, rfl⟩

theorem SlN.keep (h : SlN es H sl rows) (hk : ∀ id, own1 sl = some id → H'[id]? = H[id]?) : SlN es H' sl rows := by
  obtain ⟨a, c, rfl, h0, h, hr⟩ := h
  refine ⟨a, c, rfl, h0, ?_, hr⟩
  unfold fcells at h ⊢
  split at h
  · exact h
  · rename_i id o n x e
    cases e
    rw [hk id rfl]; exact h
  · exact h
  · rename_i e; cases e
  · cases h

theorem SlN.mono (h : SlN es H sl rows) (hl : HLe H H') : SlN es H' sl rows := by
  refine h.keep fun id hid => ?_
  obtain ⟨a, c, rfl, h0, h, hr⟩ := h
  unfold own1 at hid
  split at hid
  · rename_i id' o n c' e
    cases e
    cases hid
    unfold fcells at h
    simp only at h
    split at h
    · rename_i hg
      rw [hg]; exact hl _ _ hg
    · cases h
  · cases hid

theorem SlN.at (h : SlN es H sl rows) {i : Nat} {r : List Value} (hi : rows[i]? = some r) (he : 0 < es) (q : IntKind) :
    ∃ id o cs e g ro, (∀ H', ixa es sl (.int q i) H' = some (pa id o, H')) ∧ H[id]? = some (.cells cs e g ro) ∧ (cs.drop o).take es = r ∧ o + es ≤ cs.length ∧ own1 sl = some id := by
  have hlt : i < rows.length := (List.getElem?_eq_some_iff.1 hi).1
  obtain ⟨a, c, rfl, _, h, hr⟩ := h
  have hfl := flat_len hr
  unfold fcells at h
  split at h
  · have h := Option.some.inj h
    have h0 : rows.flatten.length = 0 := by rw [← h]; rfl
    rw [hfl] at h0
    have := Nat.mul_pos (show 0 < rows.length by omega) he
    omega
  · rename_i id o n x e
    cases e
    split at h
    · rename_i cs es' g ro hid
      split at h
      · rename_i hle
        have hvs := Option.some.inj h
        have hie : i * es + es ≤ rows.length * es := by
          have := Nat.mul_le_mul_right es (show i + 1 ≤ rows.length by omega)
          rw [Nat.add_mul] at this; omega
        refine ⟨id, o + i * es, cs, es', g, ro, fun H' => ?_, hid, ?_, by omega, rfl⟩
        · rw [ixa_r, if_pos (by omega)]; simp
        · have := flat_at (rest := []) hr hi
          rw [List.append_nil, ← hvs, List.drop_take, List.drop_drop, List.take_take, Nat.min_eq_left (Nat.le_sub_of_add_le (by omega))] at this
          exact this
      · cases h
    · cases h
  · rename_i id o j n x e
    cases e
    split at h
    · rename_i h0
      omega
    · cases h
  · rename_i e; cases e
  · cases h

/-- An element is fetched. -/
theorem SlN.fetch {β : Type} {k : Value → M β} (h : SlN es H sl rows) {i : Nat} {r : List Value} (hi : rows[i]? = some r) (he : 0 < es) (q : IntKind) :
    bind (ixa es sl (.int q i)) (fun p => bind (ldA es p) k) H = k (.agg r.toArray) H := by
  obtain ⟨id, o, cs, e, g, ro, e1, e2, e3, e4, _⟩ := h.at hi he q
  rw [bind_eq (e1 H)]
  refine bind_eq ?_
  rw [ldA_r, e2, rdkA_r, if_pos e4, e3]

theorem SlN.fun (h : SlN es H sl rows) {rows' : List (List Value)} (h' : SlN es H sl rows') (he : 0 < es) : rows' = rows := by
  have e1 := h.fc.symm.trans h'.fc
  have e2 : rows.length = rows'.length := by
    have := h.flen; rw [h'.flen] at this; exact this.symm
  have e3 := Option.some.inj e1
  apply List.ext_getElem e2.symm
  intro i h1 h2
  have a1 := flat_at (rest := []) h.ok (List.getElem?_eq_getElem h2)
  have a2 := flat_at (rest := []) h'.ok (List.getElem?_eq_getElem h1)
  rw [List.append_nil] at a1 a2
  rw [← a1, ← a2, e3]

theorem SlN.nil : SlN es H (.slice none 0 0) [] := ⟨none, 0, rfl, fun _ => rfl, rfl, by simp⟩

theorem SlN.whole {id e : Nat} {g ro : Bool} {c : Nat} (h : H[id]? = some (.cells rows.flatten e g ro)) (hr : ∀ r ∈ rows, r.length = es) : SlN es H (.slice (some ⟨id, 0, none⟩) rows.length c) rows := by
  refine ⟨_, _, rfl, (fun e => by cases e), ?_, hr⟩
  unfold fcells
  simp only [h]
  rw [flat_len hr, if_pos (by omega)]
  simp [List.take_of_length_le (Nat.le_of_eq (flat_len hr))]

end

/-- A value of several cells is put into a box of its own. -/
theorem box_a {β : Type} {k : Value → M β} {zs r : List Value} {n : Nat} {H : Heap} (hz : zs.length = n) (hr : r.length = n) (hz1 : zs.all oneCell = true) (h1 : r.all oneCell = true) :
    bind (alc 1 (.agg zs.toArray)) (fun q => bind (stA n q (.agg r.toArray)) fun _ => k q) H = k (pt H.length) (H ++ [.cells r 1 false false]) := by
  have e3 : alc 1 (.agg zs.toArray) H = some (pt H.length, H ++ [.cells zs 1 false false]) := by
    rw [alc_r]; simp only [Value.cells, List.all_eq_true] at *; rw [if_pos (by simpa using hz1)]
  have e4 : stA n (pt H.length) (.agg r.toArray) (H ++ [.cells zs 1 false false]) = some (undef, H ++ [.cells r 1 false false]) := by
    rw [stA_r, app_new, wrkA_r, if_pos ⟨by omega, by simpa using hr, by simpa using h1⟩]
    have : splice zs r.toArray.toList 0 = r := by unfold splice; simp [List.drop_eq_nil_of_le (show zs.length ≤ r.length by omega)]
    rw [this]
    simp
  rw [bind_eq e3, bind_eq e4]

/-- A row of elements of es cells each, that may be written and grow. -/
def RowN (es : Nat) (H : Heap) (sl : Value) (rows : List (List Value)) (own : List Nat) : Prop :=
  (rows = [] ∧ own = [] ∧ sl = .slice none 0 0) ∨
  ∃ sid rest r g, sl = .slice (some ⟨sid, 0, none⟩) rows.length (rows.length + r) ∧ own = [sid] ∧ H[sid]? = some (.cells (rows.flatten ++ rest) es g false) ∧ rest.length = r * es ∧ ∀ x ∈ rows, x.length = es

section
variable {H H' : Heap} {sl v : Value} {rows : List (List Value)} {es : Nat} {own : List Nat}

theorem RowN.nil : RowN es H (.slice none 0 0) [] [] := .inl ⟨rfl, rfl, rfl⟩

theorem RowN.rd (h : RowN es H sl rows own) : SlN es H sl rows := by
  rcases h with ⟨rfl, rfl, rfl⟩ | ⟨sid, rest, r, g, rfl, rfl, hid, hr, hx⟩
  · exact SlN.nil
  · refine ⟨_, _, rfl, (fun e => by cases e), ?_, hx⟩
    unfold fcells
    simp only [hid]
    rw [if_pos (by rw [List.length_append, flat_len hx]; omega), ← flat_len hx]
    simp

theorem RowN.lt (h : RowN es H sl rows own) : ∀ j ∈ own, j < H.length := by
  rcases h with ⟨rfl, rfl, rfl⟩ | ⟨sid, rest, r, g, rfl, rfl, hid, _⟩
  · simp
  · intro j hj
    simp at hj
    subst hj
    exact get_lt hid

theorem RowN.keep (h : RowN es H sl rows own) (hk : ∀ j ∈ own, H'[j]? = H[j]?) : RowN es H' sl rows own := by
  rcases h with ⟨rfl, rfl, rfl⟩ | ⟨sid, rest, r, g, rfl, rfl, hid, hr⟩
  · exact .inl ⟨rfl, rfl, rfl⟩
  · exact .inr ⟨sid, rest, r, g, rfl, rfl, by rw [hk sid (by simp)]; exact hid, hr⟩

theorem RowN.step {o1 o2 : List Nat} (h : RowN es H sl rows own) (hs : Step o1 H o2 H') (hn : ∀ j ∈ own, j ∉ o1) : RowN es H' sl rows own :=
  h.keep fun j hj => hs.keep j (h.lt j hj) (hn j hj)

theorem RowN.own1 (h : RowN es H sl rows own) {id : Nat} (hi : A.own1 sl = some id) : own = [id] := by
  rcases h with ⟨rfl, rfl, rfl⟩ | ⟨sid, rest, r, g, rfl, rfl, hid, _⟩
  · cases hi
  · cases hi; rfl

theorem RowN.single (h : RowN es H sl rows own) : own.Nodup := by
  rcases h with ⟨rfl, rfl, rfl⟩ | ⟨sid, rest, r, g, rfl, rfl, hid, _⟩ <;> simp

theorem RowN.one (h : RowN es H sl rows own) : oneCell sl = true ∧ sl.cells = #[sl] := h.rd.one

/-- One element more. -/
theorem RowN.push {b : Nat} (h : RowN es H sl rows own) {x : Value} {r : List Value} (hx : SlN es H x [r]) (hr : r.length = es) (hb : (rows.length + 1) * b ≤ 140737488355328) (hb0 : rows.length + 1 ≤ 140737488355328) :
    ∃ sl' H' own', app es b sl x H = some (sl', H') ∧ RowN es H' sl' (rows ++ [r]) own' ∧ Step own H own' H' := by
  have hf := hx.fc
  rw [List.flatten_cons, List.flatten_nil, List.append_nil] at hf
  have hn := hx.flen
  have hmem : ∀ y ∈ rows ++ [r], (∀ z ∈ rows, z.length = es) → y.length = es := fun y hy hz => by
    rcases List.mem_append.1 hy with hy | hy
    · exact hz y hy
    · simp at hy; rw [hy]; exact hr
  rcases h with ⟨rfl, rfl, rfl⟩ | ⟨sid, rest, k, g, rfl, rfl, hid, hrl, hrow⟩
  · refine ⟨_, H ++ [.cells r es true false], [H.length], ?_, .inr ⟨H.length, [], 0, true, rfl, rfl, by simp, by simp, fun y hy => hmem y hy (by simp)⟩, ⟨by simp, fun j hj _ => List.getElem?_append_left hj, by simp⟩⟩
    unfold app
    rw [hf]
    simp only [hn, List.length_singleton]
    rw [if_neg (by omega), if_pos ⟨by simp, by simpa using hb⟩]
    simp
  · have hfl := flat_len hrow
    by_cases hc : rows.length + 1 ≤ rows.length + k
    · obtain ⟨k, rfl⟩ : ∃ m, k = m + 1 := ⟨k - 1, by omega⟩
      have hks : (k + 1) * es = k * es + es := by rw [Nat.add_mul]; omega
      have hsp : splice (rows.flatten ++ rest) r (rows.length * es) = rows.flatten ++ (r ++ rest.drop es) := by
        unfold splice
        rw [← hfl, List.take_left]
        rw [List.drop_append]
        rw [List.drop_eq_nil_of_le (show rows.flatten.length ≤ rows.flatten.length + r.length by omega), List.nil_append, Nat.add_sub_cancel_left, hr, List.append_assoc]
      refine ⟨_, H.set sid (.cells (rows.flatten ++ (r ++ rest.drop es)) es g false), [sid], ?_, .inr ⟨sid, rest.drop es, k, g, rfl, rfl, ?_, by rw [List.length_drop]; omega, fun y hy => hmem y hy hrow⟩, ⟨by simp, fun j hj hn => List.getElem?_set_ne (fun e => hn (by simp [e])), by simp⟩⟩
      · unfold app
        rw [hf]
        simp only [hn, List.length_singleton, hid, if_true]
        rw [if_pos hc, if_neg (by omega), if_pos ⟨trivial, by rw [List.length_append, hfl, Nat.zero_add, Nat.add_mul, hrl]; omega⟩]
        rw [Nat.zero_add, hsp]
        simp only [List.length_append, List.length_singleton]
        congr 3; omega
      · rw [set_get hid]; simp
    · obtain rfl : k = 0 := by omega
      have hr0 : rest = [] := List.eq_nil_of_length_eq_zero (by omega)
      subst hr0
      have happ : app es b (.slice (some ⟨sid, 0, none⟩) rows.length (rows.length + 0)) x H = some (.slice (some ⟨H.length, 0, none⟩) (rows.length + 1) (rows.length + 1), (bif g then H.set sid (.view rows.flatten es H.length) else H) ++ [.cells (rows.flatten ++ r) es true false]) := by
        unfold app
        rw [hf]
        simp only [hn, List.length_singleton, hid, if_true, Nat.add_zero]
        rw [if_neg (by omega), if_pos ⟨by simp, by simp [hfl], by omega, by omega⟩]
        rw [List.drop_zero, List.append_nil, List.take_of_length_le (Nat.le_of_eq hfl)]
        rfl
      refine ⟨_, _, [H.length], happ, .inr ⟨H.length, [], 0, true, by simp, rfl, ?_, by simp, fun y hy => hmem y hy hrow⟩, ⟨?_, fun j hj hn => ?_, by simp⟩⟩
      · rw [List.getElem?_append_right (by cases g <;> simp)]
        cases g <;> simp
      · cases g <;> simp
      · rw [List.getElem?_append_left (by cases g <;> simpa using hj)]
        cases g
        · rfl
        · exact List.getElem?_set_ne (fun e => hn (by simp [e]))

end

/-- A row of one element is made. -/
theorem bsl_a {es : Nat} {z : Value} {r : List Value} {H : Heap} (hz : z.cells.size = es) (hr : r.length = es) (h1 : r.all oneCell = true) :
    bsl es 1 z [(0, es, .agg r.toArray)] H = some (.slice (some ⟨H.length, 0, none⟩) 1 1, H ++ [.cells r es false false]) := by
  have hz' : z.cells.toList.length = es := by simpa using hz
  have hsp : splice (reps 1 z.cells.toList) r 0 = r := by
    unfold splice
    rw [List.take_zero, List.nil_append, Nat.zero_add, List.drop_eq_nil_of_le (by simp [reps, hz', hr]), List.append_nil]
  have hl : (reps 1 z.cells.toList).length = es := by simp [reps, hz']
  have hc : (Value.agg r.toArray).cells.toList = r := by simp [Value.cells]
  have hs : (Value.agg r.toArray).cells.size = es := by simp [Value.cells, hr]
  unfold bsl bldC
  simp [isTup, bldC, hc, hs, hl, hsp, h1, news, hr]

end Go.Proofs.YtlpibiaokpbhbaaGreatDoor.A
