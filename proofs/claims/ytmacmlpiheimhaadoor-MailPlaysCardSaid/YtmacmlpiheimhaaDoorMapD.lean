/- Maps with texts as keys whose entries lie in a known order. -/
import Derived.Test.YtmacmlpiheimhaaDoorAMap
import Derived.Test.YtmacmlpiheimhaaDoorEldLives
namespace Go.Proofs.YtmacmlpiheimhaaDoor.A
set_option linter.unusedVariables false
set_option linter.unusedSimpArgs false

structure MapD {α : Type} (enc : α → Value) (H : Heap) (id : Nat) (m : List (List UInt8 × α)) : Prop where
  ex : ∃ es clk, es.map kv = m.map (fun p => (strv p.1, enc p.2)) ∧ H[id]? = some (.map es clk) ∧ StampL es clk
  nod : (m.map (·.1)).Nodup

section
variable {α : Type} {enc : α → Value} {H H' : Heap} {id : Nat} {m : List (List UInt8 × α)} {k : List UInt8} {v : α} {z : Value}

theorem MapD.g (h : MapD enc H id m) : MapG enc H id m := by
  obtain ⟨es, clk, h1, h2, h3⟩ := h.ex
  exact ⟨⟨es, h1, .inl ⟨clk, h2, h3⟩⟩, h.nod⟩
theorem MapD.lt (h : MapD enc H id m) : id < H.length := h.g.lt
theorem MapD.keep (h : MapD enc H id m) (hk : H'[id]? = H[id]?) : MapD enc H' id m := by
  obtain ⟨es, clk, h1, h2, h3⟩ := h.ex
  exact ⟨⟨es, clk, h1, by rw [hk]; exact h2, h3⟩, h.nod⟩
theorem MapD.hle (h : MapD enc H id m) (hl : HLe H H') : MapD enc H' id m := h.keep (hl.step.keep id h.lt (by simp))
theorem MapD.step {o1 o2 : List Nat} (h : MapD enc H id m) (hs : Step o1 H o2 H') (hn : id ∉ o1) : MapD enc H' id m := h.keep (hs.keep id h.lt hn)

theorem mkm_d (H : Heap) : ∃ H', mkm H = some (.map (some H.length), H') ∧ MapD enc H' H.length ([] : List (List UInt8 × α)) ∧ HLe H H' ∧ H'.length = H.length + 1 :=
  ⟨_, rfl, ⟨⟨[], 0, rfl, app_new, ⟨by simp, by simp⟩⟩, by simp⟩, .app _ _, by simp⟩

theorem MapD.clone (h : MapD enc H id m) : ∃ H', cloneM [.map (some id)] H = some (.map (some H.length), H') ∧ MapD enc H' H.length m ∧ HLe H H' ∧ H'.length = H.length + 1 := by
  obtain ⟨es, clk, h1, h2, h3⟩ := h.ex
  exact ⟨_, by unfold cloneM; simp only [h2], ⟨⟨es, clk, h1, app_new, h3⟩, h.nod⟩, .app _ _, by simp⟩

theorem MapD.mde (h : MapD enc H id m) : ∃ H', A.mde .str (.map (some id)) (strv k) H = some (.tuple #[], H') ∧ MapD enc H' id (adel k m) ∧ Step [id] H [id] H' ∧ H'.length = H.length := by
  obtain ⟨es, clk, h1, h2, hs⟩ := h.ex
  have hst : ∀ o, Step [id] H [id] (H.set id o) := fun o => ⟨by simp, fun j hj hn => List.getElem?_set_ne (fun e => hn (by simp [e])), fun j hj => .inl hj⟩
  have hnod := nodup_adel (k := k) h.nod
  rcases findA_m (k := k) 0 h1 with ⟨h3, h4⟩ | ⟨j, v0, h3, h4, h5⟩
  · refine ⟨H, ?_, by rw [adel_none h3]; exact h, .refl _ _, rfl⟩
    unfold A.mde
    simp only [h2, okK_str, cond_true, h4]
  · have ha : adel k m = m.eraseIdx j := (erase_eq_del h.nod h3).symm
    rw [ha] at hnod ⊢
    rw [Nat.zero_add] at h5
    have hm : (es.eraseIdx j).map kv = (m.eraseIdx j).map fun p => (strv p.1, enc p.2) := by
      have hg : ∀ {β γ : Type} (f : β → γ) (l : List β) (j : Nat), (l.eraseIdx j).map f = (l.map f).eraseIdx j := fun f l j => by
        rw [List.eraseIdx_eq_take_drop_succ, List.eraseIdx_eq_take_drop_succ, List.map_append, List.map_take, List.map_drop]
      rw [hg, hg, h1]
    refine ⟨H.set id (.map (es.eraseIdx j) clk), ?_, ⟨⟨_, clk, hm, set_get h2, ⟨fun e he => hs.lt e ((List.eraseIdx_sublist es j).subset he), ((List.eraseIdx_sublist es j).map _).nodup hs.nod⟩⟩, hnod⟩, hst _, by simp⟩
    unfold A.mde; simp only [h2, okK_str, cond_true, h5]

theorem findIdx_stamp {es : List (Value × Value × Nat)} {j : Nat} {e : Value × Value × Nat} (hn : (es.map (·.2.2)).Nodup) (hj : es[j]? = some e) : es.findIdx? (fun x => (x.2.2 : Int) == (e.2.2 : Nat)) = some j := by
  rw [List.findIdx?_eq_some_iff_getElem]
  have hlt := (List.getElem?_eq_some_iff.1 hj).1
  have he := (List.getElem?_eq_some_iff.1 hj).2
  refine ⟨hlt, by rw [he]; simp, fun i hi => ?_⟩
  have hil : i < es.length := by omega
  simp only [Bool.not_eq_true, beq_eq_false_iff_ne, ne_eq]
  intro h
  have h2 : es[i].2.2 = e.2.2 := by omega
  have hp := List.pairwise_iff_getElem.1 (List.nodup_iff_pairwise_ne.1 hn) i j (by simpa using hil) (by simpa using hlt) hi
  rw [List.getElem_map, List.getElem_map, he] at hp
  exact hp h2

/-- An entry is laid in: a place for it first, then its value. -/
theorem MapD.put (h : MapD enc H id m) : ∃ t st H1 H2, men .str z (.map (some id)) (strv k) H = some (t, H1) ∧ extr t 1 H1 = some (st, H1) ∧ ens (.map (some id)) st (enc v) H1 = some (undef, H2) ∧ MapD enc H2 id (aput k v m) ∧ Step [id] H [id] H1 ∧ Step [id] H [id] H2 ∧ H2.length = H.length := by
  obtain ⟨es, clk, h1, h2, hs⟩ := h.ex
  have hst : ∀ o, Step [id] H [id] (H.set id o) := fun o => ⟨by simp, fun j hj hn => List.getElem?_set_ne (fun e => hn (by simp [e])), fun j hj => .inl hj⟩
  have hst2 : ∀ o o', Step [id] H [id] ((H.set id o).set id o') := fun o o' => ⟨by simp, fun j hj hn => by rw [List.getElem?_set_ne (fun e => hn (by simp [e])), List.getElem?_set_ne (fun e => hn (by simp [e]))], fun j hj => .inl hj⟩
  have hnod := nodup_aput (k := k) (v := v) h.nod
  rcases findA_m (k := k) 0 h1 with ⟨h3, h4⟩ | ⟨j, v0, h3, h4, h5⟩
  · have ha : aput k v m = m ++ [(k, v)] := by unfold aput; rw [h3]; rfl
    rw [ha] at hnod ⊢
    have hS : StampL (es ++ [(strv k, z, clk)]) (clk + 1) := ⟨fun e he => by
      rcases List.mem_append.1 he with he | he
      · have := hs.lt e he; omega
      · have : e = (strv k, z, clk) := by simpa using he
        rw [this]; exact Nat.lt_succ_self _, by
      rw [List.map_append, List.nodup_append]
      refine ⟨hs.nod, by simp, fun a ha b hb => ?_⟩
      have hb : b = clk := by simpa using hb
      obtain ⟨e, he, rfl⟩ := List.mem_map.1 ha
      have := hs.lt e he; omega⟩
    have hlen : es.length = m.length := by have := congrArg List.length h1; simpa using this
    have hget : (es ++ [(strv k, z, clk)])[es.length]? = some (strv k, z, clk) := by simp
    have hfi := findIdx_stamp hS.nod hget
    have hgk : ((es ++ [(strv k, z, clk)]).map kv)[es.length]? = some (strv k, z) := by rw [List.getElem?_map, hget]; rfl
    refine ⟨.tuple #[z, .int .i64 (clk : Nat)], .int .i64 (clk : Nat), H.set id (.map (es ++ [(strv k, z, clk)]) (clk + 1)), (H.set id (.map (es ++ [(strv k, z, clk)]) (clk + 1))).set id (.map (setV (es ++ [(strv k, z, clk)]) es.length (enc v)) (clk + 1)), ?_, rfl, ?_, ⟨⟨_, clk + 1, ?_, set_get (set_get h2), setV_st hS⟩, hnod⟩, hst _, hst2 _ _, by simp⟩
    · unfold men; simp only [h2, okK_str, cond_true, h4]
    · unfold ens
      simp only [set_get h2, hfi]
    · rw [setV_get hgk, List.map_append, h1, List.map_append]
      have : es.length = (m.map fun p => (strv p.1, enc p.2)).length := by rw [List.length_map, hlen]
      rw [this]
      simp [kv]
  · have ha : aput k v m = m.set j (k, v) := by unfold aput; rw [h4]; exact (set_eq_map h.nod h3).symm
    rw [ha] at hnod ⊢
    rw [Nat.zero_add] at h5
    have hget : (es.map kv)[j]? = some (strv k, enc v0) := by rw [h1, List.getElem?_map, h3]; rfl
    obtain ⟨e, he, hek⟩ : ∃ e, es[j]? = some e ∧ kv e = (strv k, enc v0) := by
      rw [List.getElem?_map] at hget
      cases hh : es[j]? with
      | none => rw [hh] at hget; cases hget
      | some e => rw [hh] at hget; exact ⟨e, rfl, by simpa using hget⟩
    have hfi := findIdx_stamp hs.nod he
    have hgd : (es.getD j (undef, undef, 0)).2.2 = e.2.2 := by rw [List.getD_eq_getElem?_getD, he]; rfl
    refine ⟨.tuple #[enc v0, .int .i64 (e.2.2 : Nat)], .int .i64 (e.2.2 : Nat), H, H.set id (.map (setV es j (enc v)) clk), ?_, rfl, ?_, ⟨⟨_, clk, ?_, set_get h2, setV_st hs⟩, hnod⟩, .refl _ _, hst _, by simp⟩
    · unfold men; simp only [h2, okK_str, cond_true, h5, hgd]
    · unfold ens
      simp only [h2, hfi]
    · rw [setV_get hget, h1, List.map_set]

end

end Go.Proofs.YtmacmlpiheimhaaDoor.A
