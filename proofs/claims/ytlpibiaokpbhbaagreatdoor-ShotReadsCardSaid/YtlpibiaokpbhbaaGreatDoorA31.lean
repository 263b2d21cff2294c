/- Maps with texts as keys, as rows of pairs. -/
import Derived.Test.YtlpibiaokpbhbaaGreatDoorA30
namespace Go.Proofs.YtlpibiaokpbhbaaGreatDoor.A
set_option linter.unusedVariables false
set_option linter.unusedSimpArgs false

section
variable {α : Type}

def aget (k : List UInt8) : List (List UInt8 × α) → Option α
  | [] => none
  | p :: m => if p.1 = k then some p.2 else aget k m

def adel (k : List UInt8) (m : List (List UInt8 × α)) : List (List UInt8 × α) := m.filter fun p => decide (p.1 ≠ k)
def aput (k : List UInt8) (v : α) (m : List (List UInt8 × α)) : List (List UInt8 × α) :=
  if (aget k m).isSome then m.map fun p => if p.1 = k then (k, v) else p else m ++ [(k, v)]

variable {k : List UInt8} {v : α} {m : List (List UInt8 × α)}

theorem aget_none : ∀ {m : List (List UInt8 × α)}, aget k m = none ↔ ∀ p ∈ m, p.1 ≠ k
  | [] => by simp [aget]
  | p :: m => by
    simp only [aget]
    split
    · rename_i h; simp [h]
    · rename_i h
      rw [aget_none]
      simp [h]

theorem aget_mem : ∀ {m : List (List UInt8 × α)} {v : α}, aget k m = some v → (k, v) ∈ m
  | [], v, h => by cases h
  | p :: m, v, h => by
    simp only [aget] at h
    split at h
    · rename_i hp
      cases h
      subst hp
      simp
    · exact List.mem_cons_of_mem _ (aget_mem h)

theorem aget_of_mem : ∀ {m : List (List UInt8 × α)} {v : α}, (m.map (·.1)).Nodup → (k, v) ∈ m → aget k m = some v
  | [], v, _, h => by cases h
  | p :: m, v, hn, h => by
    simp only [List.map_cons, List.nodup_cons, List.mem_map, not_exists, not_and] at hn
    simp only [aget]
    rcases List.mem_cons.1 h with h | h
    · subst h; rw [if_pos rfl]
    · rw [if_neg fun e => hn.1 _ h e.symm]
      exact aget_of_mem hn.2 h

theorem aget_idx : ∀ {m : List (List UInt8 × α)} {v : α}, aget k m = some v → ∃ j : Nat, m[j]? = some (k, v)
  | m, v, h => List.getElem?_of_mem (aget_mem h)

theorem set_eq_map : ∀ {m : List (List UInt8 × α)} {j : Nat} {v0 : α}, (m.map (·.1)).Nodup → m[j]? = some (k, v0) → m.set j (k, v) = m.map fun p => if p.1 = k then (k, v) else p
  | [], j, v0, _, h => by simp at h
  | p :: m, 0, v0, hn, h => by
    have : p = (k, v0) := by simpa using h
    subst this
    simp only [List.map_cons, List.nodup_cons, List.mem_map, not_exists, not_and] at hn
    simp only [List.set_cons_zero, List.map_cons, if_true]
    congr 1
    conv => lhs; rw [← List.map_id m]
    refine List.map_congr_left fun q hq => ?_
    rw [if_neg (hn.1 q hq)]; rfl
  | p :: m, j + 1, v0, hn, h => by
    have h' : m[j]? = some (k, v0) := by simpa using h
    simp only [List.map_cons, List.nodup_cons, List.mem_map, not_exists, not_and] at hn
    have hp : ¬ p.1 = k := fun e => hn.1 (k, v0) (List.mem_of_getElem? h') e.symm
    simp only [List.set_cons_succ, List.map_cons, if_neg hp]
    rw [set_eq_map hn.2 h']

theorem erase_eq_del : ∀ {m : List (List UInt8 × α)} {j : Nat} {v0 : α}, (m.map (·.1)).Nodup → m[j]? = some (k, v0) → m.eraseIdx j = adel k m
  | [], j, v0, _, h => by simp at h
  | p :: m, 0, v0, hn, h => by
    have : p = (k, v0) := by simpa using h
    subst this
    simp only [List.map_cons, List.nodup_cons, List.mem_map, not_exists, not_and] at hn
    unfold adel
    rw [List.eraseIdx_cons_zero, List.filter_cons, if_neg (by simp)]
    symm
    rw [List.filter_eq_self]
    exact fun q hq => decide_eq_true (hn.1 q hq)
  | p :: m, j + 1, v0, hn, h => by
    have h' : m[j]? = some (k, v0) := by simpa using h
    simp only [List.map_cons, List.nodup_cons, List.mem_map, not_exists, not_and] at hn
    have hp : ¬ p.1 = k := fun e => hn.1 (k, v0) (List.mem_of_getElem? h') e.symm
    have ih := erase_eq_del hn.2 h'
    unfold adel at ih ⊢
    rw [List.eraseIdx_cons_succ, List.filter_cons, if_pos (by simpa using hp), ih]

theorem adel_none (h : aget k m = none) : adel k m = m := by
  unfold adel
  rw [List.filter_eq_self]
  exact fun p hp => decide_eq_true (aget_none.1 h p hp)

theorem nodup_aput (h : (m.map (·.1)).Nodup) : ((aput k v m).map (·.1)).Nodup := by
  unfold aput
  split
  · rw [List.map_map]
    have : ((fun p : List UInt8 × α => p.1) ∘ fun p => if p.1 = k then (k, v) else p) = fun p => p.1 := by
      funext p
      simp only [Function.comp]
      split
      · rename_i h; exact h.symm
      · rfl
    rw [this]; exact h
  · rename_i hs
    have hn : aget k m = none := by cases e : aget k m <;> simp_all
    rw [List.map_append, List.nodup_append]
    refine ⟨h, by simp, fun a ha b hb => ?_⟩
    have hb : b = k := by simpa using hb
    obtain ⟨p, hp, rfl⟩ := List.mem_map.1 ha
    rw [hb]; exact aget_none.1 hn p hp

theorem nodup_adel (h : (m.map (·.1)).Nodup) : ((adel k m).map (·.1)).Nodup := (List.filter_sublist.map _).nodup h

end

/-! as they lie -/

theorem ba_beq {a b : List UInt8} : ((⟨a.toArray⟩ : ByteArray) == ⟨b.toArray⟩) = (a == b) := by
  rw [ba_data]
  simp

theorem findA_m {α : Type} {enc : α → Value} {k : List UInt8} : ∀ {es : List (Value × Value × Nat)} {m : List (List UInt8 × α)} (i : Nat), es.map kv = m.map (fun p => (strv p.1, enc p.2)) →
    (aget k m = none ∧ findA .str (strv k) es i = some none) ∨ ∃ j v, m[j]? = some (k, v) ∧ aget k m = some v ∧ findA .str (strv k) es i = some (some (i + j, enc v))
  | [], [], i, _ => .inl ⟨rfl, rfl⟩
  | e :: es, p :: m, i, h => by
    simp only [List.map_cons, List.cons.injEq, kv, Prod.mk.injEq] at h
    obtain ⟨⟨h1, h2⟩, h3⟩ := h
    have hs : sameK .str (strv k) e.1 = some (k == p.1) := by rw [h1]; simp only [sameK, strv, ba_beq]
    simp only [findA, hs, aget]
    by_cases hk : p.1 = k
    · rw [show (k == p.1) = true by rw [hk]; simp, if_pos hk]
      exact .inr ⟨0, p.2, by rw [← hk]; rfl, rfl, by rw [h2]; rfl⟩
    · rw [show (k == p.1) = false by rw [beq_eq_false_iff_ne]; exact Ne.symm hk, if_neg hk]
      rcases findA_m (i + 1) h3 with ⟨h4, h5⟩ | ⟨j, v, h4, h5, h6⟩
      · exact .inl ⟨h4, h5⟩
      · exact .inr ⟨j + 1, v, by simpa using h4, h5, by simp only; rw [h6]; congr 3; omega⟩
  | [], _ :: _, _, h => by cases h
  | _ :: _, [], _, h => by cases h

theorem setV_get {u : Value} : ∀ {es : List (Value × Value × Nat)} {j : Nat} {p : Value × Value}, (es.map kv)[j]? = some p → (setV es j u).map kv = (es.map kv).set j (p.1, u)
  | [], j, p, h => by simp at h
  | e :: es, 0, p, h => by
    have : kv e = p := by simpa using h
    subst this
    simp [setV, kv]
  | e :: es, j + 1, p, h => by
    have := setV_get (u := u) (es := es) (j := j) (p := p) (by simpa using h)
    simp only [setV] at this
    simp only [setV, List.modify_succ_cons, List.map_cons, List.set_cons_succ, this]

section
variable {α : Type} {enc : α → Value} {H H' : Heap} {id : Nat} {m : List (List UInt8 × α)} {k : List UInt8} {v : α}

/-- A map that holds these pairs. -/
structure MapG (enc : α → Value) (H : Heap) (id : Nat) (m : List (List UInt8 × α)) : Prop where
  ex : ∃ es, es.map kv = m.map (fun p => (strv p.1, enc p.2)) ∧ ((∃ clk, H[id]? = some (.map es clk) ∧ StampL es clk) ∨ H[id]? = some (.mapU es))
  nod : (m.map (·.1)).Nodup

theorem MapG.lt (h : MapG enc H id m) : id < H.length := by
  obtain ⟨es, _, h1 | h1⟩ := h.ex
  · obtain ⟨clk, h1, _⟩ := h1; exact get_lt h1
  · exact get_lt h1

theorem MapG.keep (h : MapG enc H id m) (hk : H'[id]? = H[id]?) : MapG enc H' id m := by
  obtain ⟨es, h1, h2⟩ := h.ex
  exact ⟨⟨es, h1, by rw [hk]; exact h2⟩, h.nod⟩

theorem MapG.hle (h : MapG enc H id m) (hl : HLe H H') : MapG enc H' id m := h.keep (hl.step.keep id h.lt (by simp))
theorem MapG.step {o1 o2 : List Nat} (h : MapG enc H id m) (hs : Step o1 H o2 H') (hn : id ∉ o1) : MapG enc H' id m := h.keep (hs.keep id h.lt hn)

theorem okK_str : okK .str (strv k) = true := rfl

theorem MapG.len (h : MapG enc H id m) : lenM (.map (some id)) H = some (iv m.length, H) := by
  obtain ⟨es, h1, h2⟩ := h.ex
  have hl : es.length = m.length := by have := congrArg List.length h1; simpa using this
  unfold lenM
  rcases h2 with ⟨clk, h2, _⟩ | h2 <;> simp only [h2, hl]

theorem MapG.lkp (h : MapG enc H id m) {z : Value} {ok : Bool} : A.lkp .str z ok (.map (some id)) (strv k) H =
    some (match aget k m with
      | some v => bif ok then .tuple #[enc v, .bool true] else enc v
      | none => bif ok then .tuple #[z, .bool false] else z, H) := by
  obtain ⟨es, h1, h2⟩ := h.ex
  unfold A.lkp
  rcases findA_m (k := k) 0 h1 with ⟨h3, h4⟩ | ⟨j, v, h3, h4, h5⟩
  · rcases h2 with ⟨clk, h2, _⟩ | h2 <;> simp only [h2, okK_str, cond_true, h3, h4]
  · rcases h2 with ⟨clk, h2, _⟩ | h2 <;> simp only [h2, okK_str, cond_true, h4, h5]

theorem MapG.mup (h : MapG enc H id m) : ∃ H', A.mup .str (.map (some id)) (strv k) (enc v) H = some (undef, H') ∧ MapG enc H' id (aput k v m) ∧ Step [id] H [id] H' ∧ H'.length = H.length := by
  obtain ⟨es, h1, h2⟩ := h.ex
  have hst : ∀ o, Step [id] H [id] (H.set id o) := fun o => ⟨by simp, fun j hj hn => List.getElem?_set_ne (fun e => hn (by simp [e])), fun j hj => .inl hj⟩
  have hnod := nodup_aput (k := k) (v := v) h.nod
  have hget : ∀ {j : Nat} {v0 : α}, m[j]? = some (k, v0) → (es.map kv)[j]? = some (strv k, enc v0) := fun hj => by rw [h1, List.getElem?_map, hj]; rfl
  rcases findA_m (k := k) 0 h1 with ⟨h3, h4⟩ | ⟨j, v0, h3, h4, h5⟩
  · have ha : aput k v m = m ++ [(k, v)] := by unfold aput; rw [h3]; rfl
    rw [ha] at hnod ⊢
    have hm : ∀ b, (es ++ [(strv k, enc v, b)]).map kv = (m ++ [(k, v)]).map fun p => (strv p.1, enc p.2) := fun b => by rw [List.map_append, List.map_append, h1]; rfl
    rcases h2 with ⟨clk, h2, hs⟩ | h2
    · refine ⟨H.set id (.map (es ++ [(strv k, enc v, clk)]) (clk + 1)), ?_, ⟨⟨_, hm clk, .inl ⟨clk + 1, set_get h2, ⟨fun e he => ?_, ?_⟩⟩⟩, hnod⟩, hst _, by simp⟩
      · unfold A.mup; simp only [h2, okK_str, cond_true, h4]
      · rcases List.mem_append.1 he with he | he
        · have := hs.lt e he; omega
        · have : e = (strv k, enc v, clk) := by simpa using he
          rw [this]; exact Nat.lt_succ_self _
      · rw [List.map_append, List.nodup_append]
        refine ⟨hs.nod, by simp, fun a ha b hb => ?_⟩
        have hb : b = clk := by simpa using hb
        obtain ⟨e, he, rfl⟩ := List.mem_map.1 ha
        have := hs.lt e he; omega
    · refine ⟨H.set id (.mapU (es ++ [(strv k, enc v, 0)])), ?_, ⟨⟨_, hm 0, .inr (set_get h2)⟩, hnod⟩, hst _, by simp⟩
      unfold A.mup; simp only [h2, okK_str, cond_true, h4]; rfl
  · have ha : aput k v m = m.set j (k, v) := by unfold aput; rw [h4]; exact (set_eq_map h.nod h3).symm
    rw [ha] at hnod ⊢
    rw [Nat.zero_add] at h5
    have hm : (setV es j (enc v)).map kv = (m.set j (k, v)).map fun p => (strv p.1, enc p.2) := by
      rw [setV_get (hget h3), h1, List.map_set]
    rcases h2 with ⟨clk, h2, hs⟩ | h2
    · refine ⟨H.set id (.map (setV es j (enc v)) clk), ?_, ⟨⟨_, hm, .inl ⟨clk, set_get h2, setV_st hs⟩⟩, hnod⟩, hst _, by simp⟩
      unfold A.mup; simp only [h2, okK_str, cond_true, h5]
    · refine ⟨H.set id (.mapU (setV es j (enc v))), ?_, ⟨⟨_, hm, .inr (set_get h2)⟩, hnod⟩, hst _, by simp⟩
      unfold A.mup; simp only [h2, okK_str, cond_true, h5]

theorem MapG.mde (h : MapG enc H id m) : ∃ H', A.mde .str (.map (some id)) (strv k) H = some (.tuple #[], H') ∧ MapG enc H' id (adel k m) ∧ Step [id] H [id] H' ∧ H'.length = H.length := by
  obtain ⟨es, h1, h2⟩ := h.ex
  have hst : ∀ o, Step [id] H [id] (H.set id o) := fun o => ⟨by simp, fun j hj hn => List.getElem?_set_ne (fun e => hn (by simp [e])), fun j hj => .inl hj⟩
  have hnod := nodup_adel (k := k) h.nod
  rcases findA_m (k := k) 0 h1 with ⟨h3, h4⟩ | ⟨j, v0, h3, h4, h5⟩
  · refine ⟨H, ?_, by rw [adel_none h3]; exact h, .refl _ _, rfl⟩
    unfold A.mde
    rcases h2 with ⟨clk, h2, hs⟩ | h2 <;> simp only [h2, okK_str, cond_true, h4]
  · have ha : adel k m = m.eraseIdx j := (erase_eq_del h.nod h3).symm
    rw [ha] at hnod ⊢
    rw [Nat.zero_add] at h5
    have hm : (es.eraseIdx j).map kv = (m.eraseIdx j).map fun p => (strv p.1, enc p.2) := by
      have hg : ∀ {β γ : Type} (f : β → γ) (l : List β) (j : Nat), (l.eraseIdx j).map f = (l.map f).eraseIdx j := fun f l j => by
        rw [List.eraseIdx_eq_take_drop_succ, List.eraseIdx_eq_take_drop_succ, List.map_append, List.map_take, List.map_drop]
      rw [hg, hg, h1]
    rcases h2 with ⟨clk, h2, hs⟩ | h2
    · refine ⟨H.set id (.map (es.eraseIdx j) clk), ?_, ⟨⟨_, hm, .inl ⟨clk, set_get h2, ⟨fun e he => hs.lt e ((List.eraseIdx_sublist es j).subset he), ((List.eraseIdx_sublist es j).map _).nodup hs.nod⟩⟩⟩, hnod⟩, hst _, by simp⟩
      unfold A.mde; simp only [h2, okK_str, cond_true, h5]
    · refine ⟨H.set id (.mapU (es.eraseIdx j)), ?_, ⟨⟨_, hm, .inr (set_get h2)⟩, hnod⟩, hst _, by simp⟩
      unfold A.mde; simp only [h2, okK_str, cond_true, h5]

theorem MapG.clone (h : MapG enc H id m) : ∃ H', cloneM [.map (some id)] H = some (.map (some H.length), H') ∧ MapG enc H' H.length m ∧ HLe H H' := by
  obtain ⟨es, h1, h2⟩ := h.ex
  rcases h2 with ⟨clk, h2, hs⟩ | h2
  · exact ⟨_, by unfold cloneM; simp only [h2], ⟨⟨es, h1, .inl ⟨clk, app_new, hs⟩⟩, h.nod⟩, .app _ _⟩
  · exact ⟨_, by unfold cloneM; simp only [h2], ⟨⟨es, h1, .inr app_new⟩, h.nod⟩, .app _ _⟩

theorem mkm_g (H : Heap) : ∃ H', mkm H = some (.map (some H.length), H') ∧ MapG enc H' H.length [] ∧ HLe H H' :=
  ⟨_, rfl, ⟨⟨[], rfl, .inl ⟨0, app_new, ⟨by simp, by simp⟩⟩⟩, by simp⟩, .app _ _⟩

/-- The keys, sorted. -/
theorem MapG.keys (h : MapG enc H id m) {gks : List FuncId} {gc gk : FuncId} {c e : Nat} (hg : gk ∈ gks) (hc : H[c]? = some (.cells [.map (some id)] e false false)) (hf : m.length ≤ 1000000) (hl : ∀ p ∈ m, p.1.length ≤ 1000000) :
    ∃ v q H', skeysM gks gc [.func (.func gk) #[] #[pt c], .func (.func gc) #[] #[]] H = some (v, H') ∧ RowS H' v ((ksort (m.map (·.1))).map strv) q ∧ HLe H H' ∧ ∀ j ∈ q, H.length ≤ j := by
  obtain ⟨es, h1, h2⟩ := h.ex
  have hk : KeysOk es (m.map (·.1)) := ⟨by
    have := congrArg (List.map (·.1)) h1
    rw [kv_key] at this
    rw [this]; simp [Function.comp_def], h.nod, by simpa using hf, fun k hk => by
    obtain ⟨p, hp, rfl⟩ := List.mem_map.1 hk
    exact hl p hp⟩
  rw [skeys_eq hg hc hk h2]
  unfold keysOut
  by_cases h0 : m.map (·.1) = []
  · rw [if_pos h0, h0]
    have hz : ksort ([] : List (List UInt8)) = [] := List.mergeSort_nil
    rw [hz]
    exact ⟨_, [], _, rfl, RowS.nil, .refl _, by simp⟩
  · rw [if_neg h0]
    refine ⟨_, [H.length], _, rfl, .inr ⟨H.length, [], true, ?_, rfl, by simp⟩, .app _ _, by simp⟩
    simp [ksort_len]

end

end Go.Proofs.YtlpibiaokpbhbaaGreatDoor.A
