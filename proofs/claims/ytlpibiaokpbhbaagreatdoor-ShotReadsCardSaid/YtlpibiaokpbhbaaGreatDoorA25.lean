/- Slices, as rows: what they hold, who owns them, how they grow. -/
import Derived.Test.YtlpibiaokpbhbaaGreatDoorA24
namespace Go.Proofs.YtlpibiaokpbhbaaGreatDoor.A
set_option linter.unusedVariables false
set_option linter.unusedSimpArgs false

/-! what a slice holds -/

/-- A slice of elements of one cell each holds vs. -/
def Sl (H : Heap) (sl : Value) (vs : List Value) : Prop := ∃ a c, sl = .slice a vs.length c ∧ (a = none → c = 0) ∧ fcells 1 H sl = some vs

section
variable {H H' : Heap} {sl v : Value} {vs : List Value}

theorem Sl.len (h : Sl H sl vs) : lenS sl H' = some (iv vs.length, H') := by
  obtain ⟨a, c, rfl, _⟩ := h; rfl

theorem Sl.flen (h : Sl H sl vs) : flen sl = vs.length := by
  obtain ⟨a, c, rfl, _⟩ := h; rfl

theorem Sl.fc (h : Sl H sl vs) : fcells 1 H sl = some vs := by
  obtain ⟨a, c, rfl, _, h⟩ := h; exact h

theorem Sl.mono (h : Sl H sl vs) (hl : HLe H H') : Sl H' sl vs := by
  obtain ⟨a, c, rfl, h0, h⟩ := h
  refine ⟨a, c, rfl, h0, ?_⟩
  unfold fcells at h ⊢
  split at h
  · exact h
  · rename_i id o n x _
    split at h
    · rename_i cs es g ro hid
      simp only [hl _ _ hid]; exact h
    · cases h
  · exact h
  · rename_i e; cases e
  · cases h

/-- The object that a slice is of. -/
def own1 (sl : Value) : Option Nat :=
  match sl with
  | .slice (some ⟨id, _, none⟩) _ _ => some id
  | _ => none

theorem Sl.keep (h : Sl H sl vs) (hk : ∀ id, own1 sl = some id → H'[id]? = H[id]?) : Sl H' sl vs := by
  obtain ⟨a, c, rfl, h0, h⟩ := h
  refine ⟨a, c, rfl, h0, ?_⟩
  unfold fcells at h ⊢
  split at h
  · exact h
  · rename_i id o n x e
    cases e
    rw [hk id rfl]; exact h
  · exact h
  · rename_i e; cases e
  · cases h

theorem Sl.at (h : Sl H sl vs) {i : Nat} (hi : vs[i]? = some v) (q : IntKind) :
    ∃ id o cs es g ro, (∀ H', ixa 1 sl (.int q i) H' = some (pa id o, H')) ∧ H[id]? = some (.cells cs es g ro) ∧ cs[o]? = some v ∧ own1 sl = some id := by
  have hlt : i < vs.length := (List.getElem?_eq_some_iff.1 hi).1
  obtain ⟨a, c, rfl, _, h⟩ := h
  unfold fcells at h
  split at h
  · cases h; simp at hi
  · rename_i id o n x e
    cases e
    split at h
    · rename_i cs es g ro hid
      split at h
      · rename_i hle
        have hvs := Option.some.inj h
        refine ⟨id, o + i, cs, es, g, ro, fun H' => ?_, hid, ?_, rfl⟩
        · rw [ixa_r, if_pos (by omega)]; simp
        · rw [← hvs] at hi
          simp [List.getElem?_take, List.getElem?_drop] at hi
          exact hi.2
      · cases h
    · cases h
  · rename_i id o j n x e
    split at h
    · cases h; simp at hi
    · cases h
  · rename_i e; cases e
  · cases h

theorem Sl.fetch {β : Type} {k : Value → M β} (h : Sl H sl vs) {i : Nat} (hi : vs[i]? = some v) (q : IntKind) :
    bind (ixa 1 sl (.int q i)) (fun p => bind (ld1 p) k) H = k v H := by
  obtain ⟨id, o, cs, es, g, ro, e1, e2, e3, _⟩ := h.at hi q
  rw [bind_eq (e1 H)]
  refine bind_eq ?_
  rw [ldOne_r, e2, rdk_r, e3]; rfl

theorem Sl.fun (h : Sl H sl vs) {ws : List Value} (h' : Sl H sl ws) : ws = vs := by
  have := h.fc.symm.trans h'.fc
  simpa using this.symm

theorem Sl.nil : Sl H (.slice none 0 0) [] := ⟨none, 0, rfl, fun _ => rfl, rfl⟩

theorem Sl.one {id : Nat} {es : Nat} {g ro : Bool} {c : Nat} (h : H[id]? = some (.cells vs es g ro)) : Sl H (.slice (some ⟨id, 0, none⟩) vs.length c) vs := by
  refine ⟨_, _, rfl, (fun e => by cases e), ?_⟩
  unfold fcells
  simp [h]

end

/-! ownership -/

/-- What is done turns nothing but what is owned, and what is new; what is owned behind it was owned, or is new. -/
structure Step (own : List Nat) (H : Heap) (own' : List Nat) (H' : Heap) : Prop where
  len : H.length ≤ H'.length
  keep : ∀ j, j < H.length → j ∉ own → H'[j]? = H[j]?
  own : ∀ j ∈ own', j ∈ own ∨ H.length ≤ j

theorem Step.refl (own : List Nat) (H : Heap) : Step own H own H := ⟨Nat.le_refl _, fun _ _ _ => rfl, fun _ h => .inl h⟩

theorem Step.trans {o1 o2 o3 : List Nat} {H1 H2 H3 : Heap} (h : Step o1 H1 o2 H2) (h' : Step o2 H2 o3 H3) : Step o1 H1 o3 H3 := by
  refine ⟨Nat.le_trans h.len h'.len, fun j hj hn => ?_, fun j hj => ?_⟩
  · rw [h'.keep j (by have := h.len; omega) (fun h2 => ?_), h.keep j hj hn]
    rcases h.own j h2 with h3 | h3
    · exact hn h3
    · omega
  · rcases h'.own j hj with h2 | h2
    · rcases h.own j h2 with h3 | h3
      · exact .inl h3
      · exact .inr h3
    · exact .inr (by have := h.len; omega)

theorem Step.get {own own' : List Nat} {H H' : Heap} (h : Step own H own' H') {j : Nat} {o : AObj} (hj : H[j]? = some o) (hn : j ∉ own) : H'[j]? = some o := by
  rw [h.keep j (get_lt hj) hn]; exact hj

/-- Nothing but new objects. -/
theorem HLe.step {H H' : Heap} (h : HLe H H') : Step [] H [] H' :=
  ⟨h.len, fun j hj _ => by
    rw [List.getElem?_eq_getElem hj]; exact h _ _ (List.getElem?_eq_getElem hj), fun _ h => by cases h⟩

theorem Step.hle {own' : List Nat} {H H' : Heap} (h : Step [] H own' H') : HLe H H' := fun i o hi => h.get hi (by simp)

theorem Step.more {own own' : List Nat} {H H' : Heap} (h : Step own H own' H') {o2 o2' : List Nat} (h1 : ∀ j ∈ own, j ∈ o2) (h2 : ∀ j ∈ o2', j ∈ o2 ∨ j ∈ own' ∨ H.length ≤ j) : Step o2 H o2' H' :=
  ⟨h.len, fun j hj hn => h.keep j hj fun h3 => hn (h1 j h3), fun j hj => by
    rcases h2 j hj with h3 | h3 | h3
    · exact .inl h3
    · rcases h.own j h3 with h4 | h4
      · exact .inl (h1 j h4)
      · exact .inr h4
    · exact .inr h3⟩

/-! rows -/

/-- A row that may be written and grow: its slice, what it holds, its object. -/
def RowS (H : Heap) (sl : Value) (vs : List Value) (own : List Nat) : Prop :=
  (vs = [] ∧ own = [] ∧ sl = .slice none 0 0) ∨
  ∃ sid rest g, sl = .slice (some ⟨sid, 0, none⟩) vs.length (vs.length + rest.length) ∧ own = [sid] ∧ H[sid]? = some (.cells (vs ++ rest) 1 g false)

section
variable {H H' : Heap} {sl v : Value} {vs : List Value} {own : List Nat}

theorem RowS.nil : RowS H (.slice none 0 0) [] [] := .inl ⟨rfl, rfl, rfl⟩

theorem RowS.rd (h : RowS H sl vs own) : Sl H sl vs := by
  rcases h with ⟨rfl, rfl, rfl⟩ | ⟨sid, rest, g, rfl, rfl, hid⟩
  · exact Sl.nil
  · refine ⟨_, _, rfl, (fun e => by cases e), ?_⟩
    unfold fcells
    simp [hid]

theorem RowS.lt (h : RowS H sl vs own) : ∀ j ∈ own, j < H.length := by
  rcases h with ⟨rfl, rfl, rfl⟩ | ⟨sid, rest, g, rfl, rfl, hid⟩
  · simp
  · intro j hj
    simp at hj
    subst hj
    exact get_lt hid

theorem RowS.keep (h : RowS H sl vs own) (hk : ∀ j ∈ own, H'[j]? = H[j]?) : RowS H' sl vs own := by
  rcases h with ⟨rfl, rfl, rfl⟩ | ⟨sid, rest, g, rfl, rfl, hid⟩
  · exact .inl ⟨rfl, rfl, rfl⟩
  · exact .inr ⟨sid, rest, g, rfl, rfl, by rw [hk sid (by simp)]; exact hid⟩

theorem RowS.step {o1 o2 : List Nat} (h : RowS H sl vs own) (hs : Step o1 H o2 H') (hn : ∀ j ∈ own, j ∉ o1) : RowS H' sl vs own :=
  h.keep fun j hj => hs.keep j (h.lt j hj) (hn j hj)

theorem RowS.own1 (h : RowS H sl vs own) {id : Nat} (hi : A.own1 sl = some id) : own = [id] := by
  rcases h with ⟨rfl, rfl, rfl⟩ | ⟨sid, rest, g, rfl, rfl, hid⟩
  · cases hi
  · cases hi; rfl

theorem RowS.single (h : RowS H sl vs own) : own.Nodup := by
  rcases h with ⟨rfl, rfl, rfl⟩ | ⟨sid, rest, g, rfl, rfl, hid⟩ <;> simp

/-- A cell of a row is written. -/
theorem RowS.put (h : RowS H sl vs own) {i : Nat} {u : Value} (hi : vs[i]? = some v) (hu : oneCell u = true) (q : IntKind) :
    ∃ id o H', (∀ H', ixa 1 sl (.int q i) H' = some (pa id o, H')) ∧ st1 (pa id o) u H = some (undef, H') ∧ RowS H' sl (vs.set i u) own ∧ Step own H own H' ∧ own = [id] ∧ H'.length = H.length := by
  have hlt : i < vs.length := (List.getElem?_eq_some_iff.1 hi).1
  rcases h with ⟨rfl, rfl, rfl⟩ | ⟨sid, rest, g, rfl, rfl, hid⟩
  · simp at hi
  · refine ⟨sid, i, H.set sid (.cells ((vs ++ rest).set i u) 1 g false), fun H' => ?_, ?_, ?_, ⟨by simp, fun j hj hn => ?_, fun j hj => .inl hj⟩, rfl, by simp⟩
    · rw [ixa_r, if_pos (by omega)]; simp
    · rw [stOne_r, hid, wrk_r, if_pos ⟨by simp; omega, hu⟩]
    · refine .inr ⟨sid, rest, g, by simp, rfl, ?_⟩
      rw [set_get hid, List.set_append_left _ _ hlt]
    · rw [List.getElem?_set_ne (fun e => hn (by simp [e]))]

/-- One element more. -/
theorem RowS.push {b : Nat} (h : RowS H sl vs own) {x : Value} (hx : Sl H x [v]) (hb : (vs.length + 1) * b ≤ 140737488355328) (hb0 : vs.length + 1 ≤ 140737488355328) :
    ∃ sl' H' own', app 1 b sl x H = some (sl', H') ∧ RowS H' sl' (vs ++ [v]) own' ∧ Step own H own' H' ∧ (∀ j, j < H.length → (∀ i ∈ own, j ≠ i) → H'[j]? = H[j]?) := by
  have hf := hx.fc
  have hn := hx.flen
  rcases h with ⟨rfl, rfl, rfl⟩ | ⟨sid, rest, g, rfl, rfl, hid⟩
  · refine ⟨_, H ++ [.cells [v] 1 true false], [H.length], ?_, .inr ⟨H.length, [], true, rfl, rfl, by simp⟩, ⟨by simp, fun j hj _ => List.getElem?_append_left hj, by simp⟩, fun j hj _ => List.getElem?_append_left hj⟩
    unfold app
    rw [hf]
    simp only [hn, List.length_singleton]
    rw [if_neg (by omega), if_pos ⟨by simp, by simpa using hb⟩]
    simp
  · have hlt := get_lt hid
    by_cases hc : vs.length + 1 ≤ vs.length + rest.length
    · cases rest with
      | nil => simp only [List.length_nil] at hc; omega
      | cons r rest =>
        refine ⟨_, H.set sid (.cells (vs ++ [v] ++ rest) 1 g false), [sid], ?_, .inr ⟨sid, rest, g, rfl, rfl, set_get hid⟩, ⟨by simp, fun j hj hn => List.getElem?_set_ne (fun e => hn (by simp [e])), by simp⟩, fun j hj hn => List.getElem?_set_ne (Ne.symm (hn sid (by simp)))⟩
        unfold app
        rw [hf]
        simp only [hn, List.length_singleton, hid, if_true]
        rw [if_pos (by simp), if_neg (by omega), if_pos (by simp)]
        simp only [Nat.mul_one, Nat.zero_add]
        rw [show splice (vs ++ r :: rest) [v] vs.length = vs ++ [v] ++ rest from by unfold splice; simp [List.drop_append]]
        congr 2
        simp; omega
    · have hr : rest = [] := by
        cases rest with
        | nil => rfl
        | cons r rest => simp at hc
      subst hr
      have happ : app 1 b (.slice (some ⟨sid, 0, none⟩) vs.length (vs.length + ([] : List Value).length)) x H = some (.slice (some ⟨H.length, 0, none⟩) (vs.length + 1) (vs.length + 1), (bif g then H.set sid (.view vs 1 H.length) else H) ++ [.cells (vs ++ [v]) 1 true false]) := by
        unfold app
        rw [hf]
        simp only [hn, List.length_singleton, hid, if_true, List.length_nil, Nat.add_zero]
        rw [if_neg (by omega), if_pos (by simp; omega)]
        simp
      refine ⟨_, _, [H.length], happ, .inr ⟨H.length, [], true, by simp, rfl, ?_⟩, ⟨?_, fun j hj hn => ?_, by simp⟩, fun j hj hn => ?_⟩
      · rw [List.getElem?_append_right (by cases g <;> simp)]
        cases g <;> simp
      · cases g <;> simp
      · rw [List.getElem?_append_left (by cases g <;> simpa using hj)]
        cases g
        · rfl
        · exact List.getElem?_set_ne (fun e => hn (by simp [e]))
      · rw [List.getElem?_append_left (by cases g <;> simpa using hj)]
        cases g
        · rfl
        · exact List.getElem?_set_ne (Ne.symm (hn sid (by simp)))

/-- A row of what a slice holds is made of nothing: append([]T{}, x...). -/
theorem row_of {b : Nat} {x : Value} (hx : Sl H x vs) (hb : vs.length * b ≤ 140737488355328) (hb0 : vs.length ≤ 140737488355328) {s : Value} (hs : s = .slice none 0 0 ∨ ∃ id g, s = .slice (some ⟨id, 0, none⟩) 0 0 ∧ H[id]? = some (.cells [] 1 g false) ∧ g = false) :
    ∃ sl' H' own', app 1 b s x H = some (sl', H') ∧ RowS H' sl' vs own' ∧ HLe H H' ∧ (∀ j ∈ own', H.length ≤ j ∨ (vs = [] ∧ A.own1 s = some j)) := by
  have hf := hx.fc
  have hn := hx.flen
  rcases hs with rfl | ⟨id, g, rfl, hid, rfl⟩
  · cases vs with
    | nil =>
      refine ⟨.slice none 0 0, H, [], ?_, RowS.nil, .refl _, by simp⟩
      unfold app
      rw [hf]; simp [hn]
    | cons v vs =>
      refine ⟨_, H ++ [.cells (v :: vs) 1 true false], [H.length], ?_, .inr ⟨H.length, [], true, rfl, rfl, by simp⟩, .app _ _, by simp⟩
      unfold app
      rw [hf]
      simp only [hn]
      rw [if_neg (by simp), if_pos ⟨hb0, hb⟩]
      simp
  · cases vs with
    | nil =>
      refine ⟨.slice (some ⟨id, 0, none⟩) 0 0, H, [id], ?_, .inr ⟨id, [], false, rfl, rfl, by simpa using hid⟩, .refl _, by simp [own1]⟩
      unfold app
      rw [hf]; simp [hn, hid]
    | cons v vs =>
      refine ⟨_, H ++ [.cells (v :: vs) 1 true false], [H.length], ?_, .inr ⟨H.length, [], true, rfl, rfl, by simp⟩, .app _ _, by simp⟩
      unfold app
      rw [hf]
      simp only [hn, hid, if_true]
      rw [if_neg (by simp), if_pos (by simp at hb hb0 ⊢; omega)]
      simp

end

theorem bsl0 {es : Nat} {z : Value} {H : Heap} : bsl es 0 z [] H = some (.slice (some ⟨H.length, 0, none⟩) 0 0, H ++ [.cells [] es false false]) := by
  simp [bsl, bldC, reps, news]

theorem bsl1 {es : Nat} {z v : Value} {H : Heap} (hz : z.cells = #[z]) (hv : v.cells = #[v]) (h1 : oneCell v = true) : bsl es 1 z [(0, 1, v)] H = some (.slice (some ⟨H.length, 0, none⟩) 1 1, H ++ [.cells [v] es false false]) := by
  have ht : isTup v = false := by cases v <;> simp_all [isTup, oneCell]
  simp [bsl, bldC, reps, news, hz, hv, ht, splice, h1]

/-! bytes -/

theorem bytesOf_u8s : ∀ (bs : List UInt8), bytesOf (u8s bs) = some bs
  | [] => rfl
  | b :: bs => by
    have := bytesOf_u8s bs
    unfold u8s at this ⊢
    simp [bytesOf, this]

theorem u8s_length (bs : List UInt8) : (u8s bs).length = bs.length := by simp [u8s]

theorem b2s_sl {H : Heap} {v : Value} {bs : List UInt8} (h : Sl H v (u8s bs)) : b2s v H = some (.string ⟨bs.toArray⟩, H) := by
  have hf := h.fc
  obtain ⟨a, c, rfl, _⟩ := h
  simp only [b2s, hf, bytesOf_u8s, Option.map_some]

/-- Is it the same slice? Nothing but nil is compared. -/
theorem Sl.isnil {H H' : Heap} {v : Value} {vs : List Value} (h : Sl H v vs) : (v = .slice none 0 0 ∧ vs = [] ∧ bop .slc .eql v (.slice none 0 0) H' = some (.bool true, H')) ∨ bop .slc .eql v (.slice none 0 0) H' = some (.bool false, H') := by
  obtain ⟨a, c, rfl, h0, hf⟩ := h
  cases a with
  | none =>
    have : vs = [] := by simpa [fcells] using hf.symm
    subst this
    rw [h0 rfl]
    exact .inl ⟨rfl, rfl, rfl⟩
  | some a => exact .inr rfl

end Go.Proofs.YtlpibiaokpbhbaaGreatDoor.A
