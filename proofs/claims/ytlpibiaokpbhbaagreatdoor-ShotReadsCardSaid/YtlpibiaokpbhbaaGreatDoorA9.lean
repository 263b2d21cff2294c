/- Maps, clearing, lengths, interfaces: what the abstract machine does, the model does. -/
import Derived.Test.YtlpibiaokpbhbaaGreatDoorA8
namespace Go.Proofs.YtlpibiaokpbhbaaGreatDoor.A
set_option linter.unusedVariables false
set_option linter.unusedSimpArgs false
section
variable {P : Program} {G : Nat} {w0 : Base} {ι : Nat → Option Loc} {H H1 : Heap} {w : World} {v : Value}

theorem Sim.mapR (h : Sim G w0 ι H w) {id : Nat} {es : List (Value × Value × Nat)} {clk : Nat} {l : Loc} (hid : H[id]? = some (.map es clk)) (hl : ι id = some l) :
    ∃ en, w.heap[l.blk]? = some (.map en clk) ∧ w0.heap.size ≤ l.blk ∧ EntR ι es en := by
  obtain ⟨l', en, h1, h2, h3, h4⟩ := h.obj id _ hid
  rw [hl] at h1; cases h1
  exact ⟨en, h2, h3, h4⟩

theorem Sim.mapUR (h : Sim G w0 ι H w) {id : Nat} {es : List (Value × Value × Nat)} {l : Loc} (hid : H[id]? = some (.mapU es)) (hl : ι id = some l) :
    ∃ en clk es2, w.heap[l.blk]? = some (.map en clk) ∧ w0.heap.size ≤ l.blk ∧ EntR ι es2 en ∧ PermU es2 clk es := by
  obtain ⟨l', en, clk, es2, h1, h2, h3, h4⟩ := h.obj id _ hid
  rw [hl] at h1; cases h1
  exact ⟨en, clk, es2, h2, h3, h4⟩

theorem lenM_sim (hS : Sim G w0 ι H w) {t k e ty : TypeId} {x x' : Value} (ht : P.underlying t = some (.map k e)) (hx : RV ι x x') (h : lenM x H = some (v, H1)) :
    Res G w0 ι v H1 ((Builtin.len_ #[t] ty #[x']).run P w) := by
  unfold lenM at h
  split at h
  · cases h
    rw [hx.scalar_inv rfl]
    exact .sc hS rfl (by simp [Builtin.len_, run_underlying ht, goInt])
  · split at h
    · rename_i hid
      cases h
      obtain ⟨l, hl, rfl⟩ := hx.map_inv
      obtain ⟨en, hb, _, hr⟩ := hS.mapR hid hl
      refine .sc hS rfl ?_
      have := hr.length
      simp only [Array.length_toList] at this
      simp [Builtin.len_, run_underlying ht, goInt, getObj, Sem.run, hb, this]
    · rename_i hid
      cases h
      obtain ⟨l, hl, rfl⟩ := hx.map_inv
      obtain ⟨en, clk, es2, hb, _, hr, hp⟩ := hS.mapUR hid hl
      refine .sc hS rfl ?_
      have := hr.length
      simp only [Array.length_toList] at this
      have h2 := hp.perm.length_eq
      simp only [List.length_map] at h2
      simp [Builtin.len_, run_underlying ht, goInt, getObj, Sem.run, hb, ← h2, this]
    · cases h
  · cases h

theorem sameK_now {kt : TypeId} {d : TypeDesc} (hu : P.underlying kt = some d) {k u : Value} {b : Bool} (h : sameK (tkT P kt) k u = some b) : Instr.sameNow d k u = some b := by
  generalize htk : tkT P kt = tk at h
  unfold sameK at h
  split at h
  · obtain ⟨q, hq⟩ := tk_int htk
    rw [hu] at hq
    cases hq
    split at h
    · simp_all [Instr.sameNow]
    · cases h
  · have hq := tk_str htk
    rw [hu] at hq
    cases hq
    simp_all [Instr.sameNow]
  · have hq := tk_bool htk
    rw [hu] at hq
    cases hq
    simp_all [Instr.sameNow]
  · cases h

theorem find_run {kt : TypeId} {d : TypeDesc} (hu : P.underlying kt = some d) {k : Value} : ∀ {es : List (Value × Value × Nat)} {en : List MapEntry} (i : Nat) {r : Option (Nat × Value)}, EntL ι es en →
    findA (tkT P kt) k es i = some r → ∃ r', Instr.findNow d k en i = some r' ∧ (match r, r' with
      | none, none => True
      | some (j, u), some (j', u') => j = j' ∧ RV ι u u' ∧ i ≤ j ∧ ∃ e, es[j - i]? = some e ∧ e.2.1 = u ∧ sameK (tkT P kt) k e.1 = some true
      | _, _ => False)
  | [], [], i, r, _, h => by cases h; exact ⟨none, rfl, trivial⟩
  | e :: es, n :: ns, i, r, hr, h => by
    simp only [findA] at h
    split at h
    · rename_i hk
      cases h
      refine ⟨some (i, n.val), ?_, rfl, hr.1.2.2.1, Nat.le_refl _, e, by simp, rfl, hk⟩
      simp [Instr.findNow, hr.1.2.1, sameK_now hu hk]
    · rename_i hk
      obtain ⟨r', h1, h2⟩ := find_run hu (i + 1) hr.2 h
      refine ⟨r', ?_, ?_⟩
      · simp [Instr.findNow, hr.1.2.1, sameK_now hu hk, h1]
      · cases r with
        | none =>
          cases r' with
          | none => trivial
          | some _ => exact h2.elim
        | some p =>
          cases r' with
          | none => exact h2.elim
          | some p' =>
            obtain ⟨h3, h4, h5, e', h6, h7⟩ := h2
            refine ⟨h3, h4, by omega, e', ?_, h7⟩
            have : p.1 - i = (p.1 - (i + 1)) + 1 := by omega
            rw [this]; simpa using h6
    · cases h
  | [], _ :: _, _, _, hr, _ => hr.elim
  | _ :: _, [], _, _, hr, _ => hr.elim

theorem run_findKey {kt : TypeId} {d : TypeDesc} (hu : P.underlying kt = some d) {k : Value} {es : List MapEntry} {r : Option (Nat × Value)} (h : Instr.findNow d k es 0 = some r) :
    (Instr.findKey kt k es).run P w = .ok r w := by
  simp [Instr.findKey, run_underlying hu, h]

theorem ok_under {kt : TypeId} {k : Value} (h : okK (tkT P kt) k = true) : ∃ d, P.underlying kt = some d ∧ Scalar k = true ∧ ∀ b w, (Instr.checkKey b 10000 kt k).run P w = .ok () w := by
  have key : ∀ d, P.underlying kt = some d → okK (tkT P kt) k = true → Scalar k = true ∧ ∀ n b w, (Instr.checkKey b (n + 1) kt k).run P w = .ok () w := by
    intro d hd h
    generalize htk : tkT P kt = tk at h
    unfold okK at h
    split at h
    · obtain ⟨q, hq⟩ := tk_int htk
      rw [hd] at hq
      cases hq
      exact ⟨rfl, fun n b w => by simp [Instr.checkKey, run_underlying hd]⟩
    · have hq := tk_str htk
      rw [hd] at hq
      cases hq
      exact ⟨rfl, fun n b w => by simp [Instr.checkKey, run_underlying hd]⟩
    · have hq := tk_bool htk
      rw [hd] at hq
      cases hq
      exact ⟨rfl, fun n b w => by simp [Instr.checkKey, run_underlying hd]⟩
    · cases h
  cases hd : P.underlying kt with
  | none => unfold tkT at h; rw [hd] at h; simp [okK] at h
  | some d =>
    obtain ⟨h1, h2⟩ := key d hd h
    exact ⟨d, rfl, h1, fun b w => h2 9999 b w⟩

theorem run_getMap {b : Nat} {en : Array MapEntry} {clk : Nat} (h : w.heap[b]? = some (.map en clk)) : (getObj b).run P w = .ok (.map en clk) w := by
  simp [getObj, Sem.run, h]

theorem run_setMap {b : Nat} {en : Array MapEntry} {clk : Nat} {o : Obj} (h : w.heap[b]? = some (.map en clk)) : (setObj b o).run P w = .ok () (setB w b o) := by
  simp [setObj, Sem.run, h, setB]

/-! entries in any order -/

theorem ba_data (a b : ByteArray) : (a == b) = (a.data == b.data) := rfl
theorem ba_eq {a b : ByteArray} (h : (a == b) = true) : a = b := by
  rw [ba_data] at h; cases a; cases b; simpa using h
theorem ba_self (a : ByteArray) : (a == a) = true := by rw [ba_data]; simp

theorem sameK_eq {tk : TK} {k u : Value} (h : sameK tk k u = some true) : k = u := by
  unfold sameK at h
  split at h
  · split at h
    · rename_i hk; subst hk; simp at h; subst h; rfl
    · cases h
  · simp only [Option.some.injEq] at h; rw [ba_eq h]
  · simp at h; subst h; rfl
  · cases h

theorem sameK_ne {tk : TK} {k u : Value} (h : sameK tk k u = some false) : k ≠ u := by
  rintro rfl
  cases tk <;> cases k <;> simp [sameK, ba_self] at h

theorem findA_none {tk : TK} {k : Value} : ∀ {es : List (Value × Value × Nat)} {i : Nat}, findA tk k es i = some none → ∀ e ∈ es, e.1 ≠ k
  | [], _, _, e, he => by cases he
  | a :: es, i, h, e, he => by
    simp only [findA] at h
    split at h
    · cases h
    · rename_i hk
      rcases List.mem_cons.1 he with rfl | he
      · exact fun e => sameK_ne hk e.symm
      · exact findA_none h e he
    · cases h

theorem findA_some {tk : TK} {k : Value} : ∀ {es : List (Value × Value × Nat)} {i j : Nat} {u : Value}, findA tk k es i = some (some (j, u)) → ∃ e, i ≤ j ∧ es[j - i]? = some e ∧ e.1 = k ∧ e.2.1 = u
  | [], _, _, _, h => by cases h
  | a :: es, i, j, u, h => by
    simp only [findA] at h
    split at h
    · rename_i hk
      cases h
      exact ⟨a, Nat.le_refl _, by simp, (sameK_eq hk).symm, rfl⟩
    · obtain ⟨e, h1, h2, h3⟩ := findA_some h
      refine ⟨e, by omega, ?_, h3⟩
      have : j - i = (j - (i + 1)) + 1 := by omega
      rw [this]; simpa using h2
    · cases h

theorem findA_str {s : ByteArray} : ∀ {es : List (Value × Value × Nat)} {i : Nat}, (∀ e ∈ es, ∃ s, e.1 = .string s) → ∃ r, findA .str (.string s) es i = some r
  | [], _, _ => ⟨_, rfl⟩
  | a :: es, i, h => by
    obtain ⟨t, ht⟩ := h a (by simp)
    simp only [findA, ht, sameK]
    cases s == t
    · exact findA_str fun e he => h e (by simp [he])
    · exact ⟨_, rfl⟩

theorem kv_key {es : List (Value × Value × Nat)} : (es.map kv).map (·.1) = es.map (·.1) := by simp [kv, Function.comp_def]

theorem PermU.strs {es2 es : List (Value × Value × Nat)} {clk : Nat} (h : PermU es2 clk es) : ∀ e ∈ es2, ∃ s, e.1 = .string s := by
  intro e he
  have : kv e ∈ es.map kv := h.perm.mem_iff.1 (List.mem_map.2 ⟨e, he, rfl⟩)
  obtain ⟨e', h1, h2⟩ := List.mem_map.1 this
  obtain ⟨s, hs⟩ := h.k.str e' h1
  exact ⟨s, by rw [← hs]; exact (congrArg Prod.fst h2).symm⟩

theorem PermU.nod2 {es2 es : List (Value × Value × Nat)} {clk : Nat} (h : PermU es2 clk es) : (es2.map (·.1)).Nodup := by
  rw [← kv_key]
  refine ((h.perm.map (·.1)).nodup_iff).2 ?_
  rw [kv_key]
  exact h.k.nod

theorem kv_unique {l : List (Value × Value)} (h : (l.map (·.1)).Nodup) {p q : Value × Value} (hp : p ∈ l) (hq : q ∈ l) (e : p.1 = q.1) : p = q := by
  induction l with
  | nil => cases hp
  | cons a l ih =>
    simp only [List.map_cons, List.nodup_cons, List.mem_map, not_exists, not_and] at h
    rcases List.mem_cons.1 hp with hp' | hp'
    · rcases List.mem_cons.1 hq with hq' | hq'
      · rw [hp', hq']
      · exact absurd (by rw [← hp']; exact e.symm) (h.1 q hq')
    · rcases List.mem_cons.1 hq with hq' | hq'
      · exact absurd (by rw [← hq']; exact e) (h.1 p hp')
      · exact ih h.2 hp' hq'

/-- The same is found in either order. -/
theorem PermU.find {es2 es : List (Value × Value × Nat)} {clk : Nat} (h : PermU es2 clk es) {tk : TK} {k : Value} (hk : okK tk k = true) {r : Option (Nat × Value)} (hf : findA tk k es 0 = some r) :
    (r = none ∧ ∃ s, tk = .str ∧ k = .string s ∧ findA tk k es2 0 = some none) ∨ (es = [] ∧ es2 = [] ∧ r = none) ∨ ∃ i j u, r = some (i, u) ∧ findA tk k es2 0 = some (some (j, u)) := by
  cases es with
  | nil =>
    have h2 := h.perm.length_eq
    have : es2 = [] := by simpa using h2
    cases hf
    exact .inr (.inl ⟨rfl, this, rfl⟩)
  | cons a es =>
    obtain ⟨t, ht⟩ := h.k.str a (by simp)
    obtain ⟨s, rfl, rfl⟩ : ∃ s, tk = .str ∧ k = .string s := by
      simp only [findA, ht] at hf
      unfold sameK at hf
      split at hf
      · rename_i hh
        split at hh
        · cases ‹Value.string t = _›
        · exact ⟨_, rfl, rfl⟩
        · cases ‹Value.string t = _›
        · cases hh
      · rename_i hh
        split at hh
        · cases ‹Value.string t = _›
        · exact ⟨_, rfl, rfl⟩
        · cases ‹Value.string t = _›
        · cases hh
      · cases hf
    obtain ⟨r2, h2⟩ := findA_str (s := s) (i := 0) h.strs
    cases r with
    | none =>
      refine .inl ⟨rfl, s, rfl, rfl, ?_⟩
      cases r2 with
      | none => exact h2
      | some p =>
        obtain ⟨e, _, h3, h4, _⟩ := findA_some h2
        have : kv e ∈ (a :: es).map kv := h.perm.mem_iff.1 (List.mem_map.2 ⟨e, List.mem_of_getElem? h3, rfl⟩)
        obtain ⟨e', h5, h6⟩ := List.mem_map.1 this
        exact absurd ((congrArg Prod.fst h6).trans h4) (findA_none hf e' h5)
    | some p =>
      obtain ⟨e, _, h3, h4, h5⟩ := findA_some hf
      have he : kv e ∈ es2.map kv := h.perm.mem_iff.2 (List.mem_map.2 ⟨e, List.mem_of_getElem? h3, rfl⟩)
      cases r2 with
      | none =>
        obtain ⟨e', h6, h7⟩ := List.mem_map.1 he
        exact absurd ((congrArg Prod.fst h7).trans h4) (findA_none h2 e' h6)
      | some q =>
        obtain ⟨e', _, h6, h7, h8⟩ := findA_some h2
        have he' : kv e' ∈ es2.map kv := List.mem_map.2 ⟨e', List.mem_of_getElem? h6, rfl⟩
        have := kv_unique (by rw [kv_key]; exact h.nod2) he he' (h4.trans h7.symm)
        have hu : q.2 = p.2 := by rw [← h8, ← h5]; exact (congrArg Prod.snd this).symm
        exact .inr (.inr ⟨p.1, q.1, p.2, rfl, by rw [h2, ← hu]⟩)

open Classical in
theorem setV_kv {k v : Value} : ∀ {es : List (Value × Value × Nat)} {i : Nat} {e : Value × Value × Nat}, (es.map (·.1)).Nodup → es[i]? = some e → e.1 = k →
    (setV es i v).map kv = (es.map kv).map fun p => if p.1 = k then (p.1, v) else p
  | [], _, _, _, h, _ => by simp at h
  | a :: es, 0, e, hn, h, hk => by
    have : a = e := by simpa using h
    subst this
    simp only [List.map_cons, List.nodup_cons, List.mem_map, not_exists, not_and] at hn
    simp only [setV, List.modify_zero_cons, List.map_cons, kv, hk, if_true]
    congr 1
    rw [List.map_map]
    refine List.map_congr_left fun b hb => ?_
    have : ¬ b.1 = k := fun e => hn.1 b hb (e.trans hk.symm)
    simp [kv, this]
  | a :: es, i + 1, e, hn, h, hk => by
    have h' : es[i]? = some e := by simpa using h
    simp only [List.map_cons, List.nodup_cons, List.mem_map, not_exists, not_and] at hn
    have : ¬ a.1 = k := fun e' => hn.1 e (List.mem_of_getElem? h') (hk.trans e'.symm)
    have ih := setV_kv (v := v) hn.2 h' hk
    simp only [setV] at ih
    simp only [setV, List.modify_succ_cons, List.map_cons, ih]
    simp [kv, this]

theorem setV_keys {v : Value} : ∀ {es : List (Value × Value × Nat)} {i : Nat}, (setV es i v).map (·.1) = es.map (·.1)
  | [], i => by simp [setV]
  | a :: es, 0 => by simp [setV]
  | a :: es, i + 1 => by
    have := setV_keys (v := v) (es := es) (i := i)
    simp only [setV] at this
    simp only [setV, List.modify_succ_cons, List.map_cons, this]

theorem setV_born {v : Value} : ∀ {es : List (Value × Value × Nat)} {i : Nat}, (setV es i v).map (·.2.2) = es.map (·.2.2)
  | [], i => by simp [setV]
  | a :: es, 0 => by simp [setV]
  | a :: es, i + 1 => by
    have := setV_born (v := v) (es := es) (i := i)
    simp only [setV] at this
    simp only [setV, List.modify_succ_cons, List.map_cons, this]

theorem setV_st {v : Value} {es : List (Value × Value × Nat)} {i clk : Nat} (h : StampL es clk) : StampL (setV es i v) clk := by
  refine ⟨fun e he => ?_, by rw [setV_born]; exact h.nod⟩
  have : e.2.2 ∈ es.map (·.2.2) := by rw [← setV_born (i := i) (v := v)]; exact List.mem_map.2 ⟨e, he, rfl⟩
  obtain ⟨e', h1, h2⟩ := List.mem_map.1 this
  have := h.lt e' h1
  omega

theorem strK_keys {es es' : List (Value × Value × Nat)} (h : StrK es) (he : es'.map (·.1) = es.map (·.1)) : StrK es' := by
  refine ⟨fun e hm => ?_, by rw [he]; exact h.nod⟩
  have : e.1 ∈ es.map (·.1) := by rw [← he]; exact List.mem_map.2 ⟨e, hm, rfl⟩
  obtain ⟨e', h1, h2⟩ := List.mem_map.1 this
  obtain ⟨s, hs⟩ := h.str e' h1
  exact ⟨s, by rw [← h2]; exact hs⟩

theorem PermU.set {es2 es : List (Value × Value × Nat)} {clk : Nat} (h : PermU es2 clk es) {tk : TK} {k v u u2 : Value} {i j : Nat} (h1 : findA tk k es 0 = some (some (i, u))) (h2 : findA tk k es2 0 = some (some (j, u2))) : PermU (setV es2 j v) clk (setV es i v) := by
  classical
  obtain ⟨e, _, h3, h4, _⟩ := findA_some h1
  obtain ⟨e', _, h6, h7, _⟩ := findA_some h2
  rw [Nat.sub_zero] at h3 h6
  refine ⟨?_, strK_keys h.k setV_keys, setV_st h.st⟩
  rw [setV_kv h.nod2 h6 h7, setV_kv h.k.nod h3 h4]
  exact h.perm.map _

open Classical in
theorem erase_kv {k : Value} : ∀ {es : List (Value × Value × Nat)} {i : Nat} {e : Value × Value × Nat}, (es.map (·.1)).Nodup → es[i]? = some e → e.1 = k →
    (es.eraseIdx i).map kv = (es.map kv).filter fun p => decide (p.1 ≠ k)
  | [], _, _, _, h, _ => by simp at h
  | a :: es, 0, e, hn, h, hk => by
    have : a = e := by simpa using h
    subst this
    simp only [List.map_cons, List.nodup_cons, List.mem_map, not_exists, not_and] at hn
    rw [List.eraseIdx_cons_zero, List.map_cons, List.filter_cons, if_neg (by simp [kv, hk])]
    symm
    rw [List.filter_eq_self]
    intro p hp
    obtain ⟨b, hb, rfl⟩ := List.mem_map.1 hp
    exact decide_eq_true fun e => hn.1 b hb (e.trans hk.symm)
  | a :: es, i + 1, e, hn, h, hk => by
    have h' : es[i]? = some e := by simpa using h
    simp only [List.map_cons, List.nodup_cons, List.mem_map, not_exists, not_and] at hn
    have : ¬ a.1 = k := fun e' => hn.1 e (List.mem_of_getElem? h') (hk.trans e'.symm)
    rw [List.eraseIdx_cons_succ, List.map_cons, erase_kv hn.2 h' hk, List.map_cons, List.filter_cons, if_pos (by simp [kv, this])]

theorem PermU.erase {es2 es : List (Value × Value × Nat)} {clk : Nat} (h : PermU es2 clk es) {tk : TK} {k u u2 : Value} {i j : Nat} (h1 : findA tk k es 0 = some (some (i, u))) (h2 : findA tk k es2 0 = some (some (j, u2))) : PermU (es2.eraseIdx j) clk (es.eraseIdx i) := by
  classical
  obtain ⟨e, _, h3, h4, _⟩ := findA_some h1
  obtain ⟨e', _, h6, h7, _⟩ := findA_some h2
  rw [Nat.sub_zero] at h3 h6
  refine ⟨?_, ⟨fun e hm => h.k.str e ((List.eraseIdx_sublist es i).subset hm), ?_⟩, ⟨fun e hm => h.st.lt e ((List.eraseIdx_sublist es2 j).subset hm), ((List.eraseIdx_sublist es2 j).map _).nodup h.st.nod⟩⟩
  · rw [erase_kv h.nod2 h6 h7, erase_kv h.k.nod h3 h4]
    exact h.perm.filter _
  · exact ((List.eraseIdx_sublist es i).map _).nodup h.k.nod

theorem PermU.snoc {es2 es : List (Value × Value × Nat)} {clk : Nat} (h : PermU es2 clk es) {s : ByteArray} {v : Value} {c : Nat} (hn : findA .str (.string s) es 0 = some none) : PermU (es2 ++ [(.string s, v, clk)]) (clk + 1) (es ++ [(.string s, v, c)]) := by
  refine ⟨?_, ⟨fun e he => ?_, ?_⟩, ⟨fun e he => ?_, ?_⟩⟩
  · rw [List.map_append, List.map_append]
    exact h.perm.append_right _
  · rcases List.mem_append.1 he with he | he
    · exact h.k.str e he
    · have : e = (.string s, v, c) := by simpa using he
      exact ⟨s, by rw [this]⟩
  · rw [List.map_append, List.nodup_append]
    refine ⟨h.k.nod, by simp, fun a ha b hb => ?_⟩
    have hb : b = .string s := by simpa using hb
    obtain ⟨e, he, rfl⟩ := List.mem_map.1 ha
    rw [hb]
    exact findA_none hn e he
  · rcases List.mem_append.1 he with he | he
    · have := h.st.lt e he; omega
    · have : e = (.string s, v, clk) := by simpa using he
      rw [this]; exact Nat.lt_succ_self _
  · rw [List.map_append, List.nodup_append]
    refine ⟨h.st.nod, by simp, fun a ha b hb => ?_⟩
    have hb : b = clk := by simpa using hb
    obtain ⟨e, he, rfl⟩ := List.mem_map.1 ha
    have := h.st.lt e he; omega

theorem lkp_sim (hS : Sim G w0 ι H w) {t kt e : TypeId} {ok : Bool} {m m' k k' : Value} (ht : P.underlying t = some (.map kt e)) (he : hasT P e = true)
    (hm : RV ι m m') (hk : RV ι k k') (h : lkp (tkT P kt) (zeT P e) ok m k H = some (v, H1)) : Res G w0 ι v H1 ((Instr.lookup t m' k' ok).run P w) := by
  obtain ⟨ie, hie, hz, hc, hzr⟩ := hasT_zero he
  have hback : ∀ {u u' : Value} {is : Bool}, RV ι u u' → (some (bif ok then .tuple #[u, .bool is] else u, H) : Option (Value × Heap)) = some (v, H1) →
      Res G w0 ι v H1 (.ok (if ok then .tuple #[u', .bool is] else u') w) := by
    intro u u' is hu h
    cases ok with
    | true => cases h; exact .same hS (.tupL (a := [u, .bool is]) (a' := [u', .bool is]) (.cons hu (.cons (.sc rfl) .nil))) rfl
    | false => cases h; exact .same hS hu rfl
  unfold lkp at h
  simp only at h
  split at h
  · cases hok : okK (tkT P kt) k with
    | false => simp [hok] at h
    | true =>
      obtain ⟨d, hd, hsk, hchk⟩ := ok_under hok
      simp only [hok, cond_true] at h
      have := hback (.const hc) h
      have hk2 := hk.scalar_inv hsk
      subst hk2
      rw [hm.scalar_inv rfl]
      simpa [Instr.lookup, run_underlying ht, hchk, run_findKey hd (es := []) rfl, hzr] using this
  · split at h
    · rename_i hid
      cases hok : okK (tkT P kt) k with
      | false => simp [hok] at h
      | true =>
        obtain ⟨d, hd, hsk, hchk⟩ := ok_under hok
        simp only [hok, cond_true] at h
        have hk2 := hk.scalar_inv hsk
        subst hk2
        obtain ⟨l, hl, rfl⟩ := hm.map_inv
        obtain ⟨en, hb, _, hr⟩ := hS.mapR hid hl
        split at h
        · rename_i j u hf
          obtain ⟨r', h1, h2⟩ := find_run hd 0 hr hf
          cases r' with
          | none => exact h2.elim
          | some p =>
            have := hback h2.2.1 h
            simpa [Instr.lookup, run_underlying ht, run_getMap hb, hchk, run_findKey hd h1] using this
        · rename_i hf
          obtain ⟨r', h1, h2⟩ := find_run hd 0 hr hf
          cases r' with
          | some p => exact h2.elim
          | none =>
            have := hback (.const hc) h
            simpa [Instr.lookup, run_underlying ht, run_getMap hb, hchk, run_findKey hd h1, hzr] using this
        · cases h
    · rename_i hid
      cases hok : okK (tkT P kt) k with
      | false => simp [hok] at h
      | true =>
        obtain ⟨d, hd, hsk, hchk⟩ := ok_under hok
        simp only [hok, cond_true] at h
        have hk2 := hk.scalar_inv hsk
        subst hk2
        obtain ⟨l, hl, rfl⟩ := hm.map_inv
        obtain ⟨en, clk, es2, hb, _, hr, hp⟩ := hS.mapUR hid hl
        split at h
        · rename_i j u hf
          rcases hp.find hok hf with ⟨h0, _⟩ | ⟨_, _, h0⟩ | ⟨i, j2, u2, h0, hf2⟩
          · cases h0
          · cases h0
          · cases h0
            obtain ⟨r', h1, h2⟩ := find_run hd 0 hr hf2
            cases r' with
            | none => exact h2.elim
            | some p =>
              have := hback h2.2.1 h
              simpa [Instr.lookup, run_underlying ht, run_getMap hb, hchk, run_findKey hd h1] using this
        · rename_i hf
          have hf2 : findA (tkT P kt) k' es2 0 = some none := by
            rcases hp.find hok hf with ⟨_, s, _, _, h0⟩ | ⟨_, h0, _⟩ | ⟨i, j2, u2, h0, _⟩
            · exact h0
            · rw [h0]; rfl
            · cases h0
          obtain ⟨r', h1, h2⟩ := find_run hd 0 hr hf2
          cases r' with
          | some p => exact h2.elim
          | none =>
            have := hback (.const hc) h
            simpa [Instr.lookup, run_underlying ht, run_getMap hb, hchk, run_findKey hd h1, hzr] using this
        · cases h
    · cases h
  · cases h

theorem EntL.get {ι : Nat → Option Loc} : ∀ {es : List (Value × Value × Nat)} {en : List MapEntry} {i : Nat} {e : Value × Value × Nat}, EntL ι es en → es[i]? = some e →
    ∃ n, en[i]? = some n ∧ Scalar e.1 = true ∧ n.key = e.1 ∧ RV ι e.2.1 n.val ∧ n.born = e.2.2
  | [], [], i, e, _, h => by simp at h
  | a :: es, n :: ns, 0, e, hr, h => by simp at h; subst h; exact ⟨n, by simp, hr.1⟩
  | a :: es, n :: ns, i + 1, e, hr, h => by simpa using EntL.get hr.2 (by simpa using h)
  | [], _ :: _, _, _, hr, _ => hr.elim
  | _ :: _, [], _, _, hr, _ => hr.elim

theorem EntL.modify {ι : Nat → Option Loc} {u u' : Value} (hu : RV ι u u') (f : MapEntry → MapEntry) (hf : ∀ n, (f n).val = u' ∧ (f n).born = n.born) : ∀ {es : List (Value × Value × Nat)} {en : List MapEntry} {i : Nat}, EntL ι es en →
    (∀ n, en[i]? = some n → (f n).key = n.key) → EntL ι (setV es i u) (en.modify i f)
  | [], [], i, _, _ => by simp [setV]; trivial
  | a :: es, n :: ns, 0, hr, hk => by
    simp only [setV, List.modify_zero_cons]
    exact ⟨⟨hr.1.1, by rw [hk n (by simp)]; exact hr.1.2.1, by rw [(hf n).1]; exact hu, by rw [(hf n).2]; exact hr.1.2.2.2⟩, hr.2⟩
  | a :: es, n :: ns, i + 1, hr, hk => by
    simp only [setV, List.modify_succ_cons]
    exact ⟨hr.1, EntL.modify hu f hf hr.2 fun n hn => hk n (by simpa using hn)⟩
  | [], _ :: _, _, hr, _ => hr.elim
  | _ :: _, [], _, hr, _ => hr.elim

theorem EntL.snoc {ι : Nat → Option Loc} {k u : Value} {u' : Value} {b : Nat} (hk : Scalar k = true) (hu : RV ι u u') : ∀ {es : List (Value × Value × Nat)} {en : List MapEntry}, EntL ι es en →
    EntL ι (es ++ [(k, u, b)]) (en ++ [{ key := k, val := u', born := b }])
  | [], [], _ => ⟨⟨hk, rfl, hu, rfl⟩, trivial⟩
  | _ :: _, _ :: _, h => ⟨h.1, EntL.snoc hk hu h.2⟩
  | [], _ :: _, h => h.elim
  | _ :: _, [], h => h.elim

theorem EntL.erase {ι : Nat → Option Loc} : ∀ {es : List (Value × Value × Nat)} {en : List MapEntry} (i : Nat), EntL ι es en → EntL ι (es.eraseIdx i) (en.eraseIdx i)
  | [], [], _, _ => trivial
  | _ :: _, _ :: _, 0, h => h.2
  | _ :: _, _ :: _, i + 1, h => ⟨h.1, EntL.erase i h.2⟩
  | [], _ :: _, _, h => h.elim
  | _ :: _, [], _, h => h.elim

theorem same_bits {tk : TK} {k : Value} (h : okK tk k = true) : Instr.sameBits 10000 k k = true := by
  have : ∀ n, Instr.sameBits n k k = true := by
    intro n
    unfold okK at h
    split at h <;> first | (cases n <;> simp [Instr.sameBits, ba_self]; done) | cases h
  exact this 10000

/-- A map object is turned. -/
theorem Sim.setMap (hS : Sim G w0 ι H w) {id : Nat} {es es' : List (Value × Value × Nat)} {clk clk' : Nat} {l : Loc} {en' : Array MapEntry} (hid : H[id]? = some (.map es clk)) (hl : ι id = some l)
    (hr : EntR ι es' en') : Sim G w0 ι (H.set id (.map es' clk')) (setB w l.blk (.map en' clk')) := by
  obtain ⟨en, hb, hge, _⟩ := hS.mapR hid hl
  exact hS.set hid rfl hl rfl fun w' hw' => ⟨l, en', hl, hw', hge, hr⟩

theorem Sim.setMapU (hS : Sim G w0 ι H w) {id : Nat} {es es' es2 : List (Value × Value × Nat)} {clk' : Nat} {l : Loc} {en' : Array MapEntry} (hid : H[id]? = some (.mapU es)) (hl : ι id = some l)
    (hr : EntR ι es2 en') (hp : PermU es2 clk' es') : Sim G w0 ι (H.set id (.mapU es')) (setB w l.blk (.map en' clk')) := by
  obtain ⟨en, clk, e2, hb, hge, _⟩ := hS.mapUR hid hl
  exact hS.set hid rfl hl rfl fun w' hw' => ⟨l, en', clk', es2, hl, hw', hge, hr, hp⟩

theorem mup_sim (hS : Sim G w0 ι H w) {t kt e : TypeId} {m m' k k' u u' : Value} (ht : P.underlying t = some (.map kt e))
    (hm : RV ι m m') (hk : RV ι k k') (hu : RV ι u u') (h : mup (tkT P kt) m k u H = some (v, H1)) : v = undef ∧ ResU G w0 ι H1 ((Instr.mapUpdate t m' k' u').run P w) := by
  unfold mup at h
  split at h
  · split at h
    · rename_i id _ es clk hid
      cases hok : okK (tkT P kt) k with
      | false => simp [hok] at h
      | true =>
        obtain ⟨d, hd, hsk, hchk⟩ := ok_under hok
        simp only [hok, cond_true] at h
        have hk2 := hk.scalar_inv hsk
        subst hk2
        obtain ⟨l, hl, rfl⟩ := hm.map_inv
        obtain ⟨en, hb, _, hr⟩ := hS.mapR hid hl
        split at h
        · rename_i j u0 hf
          cases h
          obtain ⟨r', h1, h2⟩ := find_run hd 0 hr hf
          cases r' with
          | none => exact h2.elim
          | some p =>
            obtain ⟨h3, _, _, e0, h6, _, h8⟩ := h2
            subst h3
            rw [Nat.sub_zero] at h6
            obtain ⟨n, hn, _, hnk, _⟩ := EntL.get hr h6
            have hke : n.key = k' := by rw [hnk]; exact (sameK_eq h8).symm
            have hn2 : en[p.1]? = some n := by simpa using hn
            refine ⟨rfl, ι, _, .refl ι, hS.setMap (es' := setV es p.1 u) (clk' := clk) (en' := en.modify p.1 fun e => { e with key := k', val := u' }) hid hl ?_, ?_⟩
            · unfold EntR
              rw [Array.toList_modify]
              exact EntL.modify hu (fun e => { e with key := k', val := u' }) (fun n => ⟨rfl, rfl⟩) hr (fun n' hn' => by rw [hn] at hn'; cases hn'; exact hke.symm)
            · have hkts : (Instr.keyThatStays (((en[p.1]?).map (·.key)).getD k') k').run P w = .ok k' w := by
                rw [hn2]
                simp only [Option.map_some, Option.getD_some, hke, Instr.keyThatStays, same_bits hok, if_true]
                rfl
              simp only [Instr.mapUpdate, Sem.run_bind, run_underlying ht, Result.andThen_ok, run_getMap hb, hchk, run_findKey hd h1, hkts, run_setMap hb]
        · rename_i hf
          cases h
          obtain ⟨r', h1, h2⟩ := find_run hd 0 hr hf
          cases r' with
          | some p => exact h2.elim
          | none =>
            refine ⟨rfl, ι, _, .refl ι, hS.setMap (es' := es ++ [(k', u, clk)]) (clk' := clk + 1) (en' := en.push { key := k', val := u', born := clk }) hid hl ?_, ?_⟩
            · unfold EntR
              rw [Array.toList_push]
              exact EntL.snoc hsk hu hr
            · simp only [Instr.mapUpdate, Sem.run_bind, run_underlying ht, Result.andThen_ok, run_getMap hb, hchk, run_findKey hd h1, run_setMap hb]
        · cases h
    · rename_i id _ es hid
      cases hok : okK (tkT P kt) k with
      | false => simp [hok] at h
      | true =>
        obtain ⟨d, hd, hsk, hchk⟩ := ok_under hok
        simp only [hok, cond_true] at h
        have hk2 := hk.scalar_inv hsk
        subst hk2
        obtain ⟨l, hl, rfl⟩ := hm.map_inv
        obtain ⟨en, clk, es2, hb, _, hr, hp⟩ := hS.mapUR hid hl
        split at h
        · rename_i j u0 hf
          cases h
          rcases hp.find hok hf with ⟨h0, _⟩ | ⟨_, _, h0⟩ | ⟨i, j2, u2, h0, hf2⟩
          · cases h0
          · cases h0
          cases h0
          obtain ⟨r', h1, h2⟩ := find_run hd 0 hr hf2
          cases r' with
          | none => exact h2.elim
          | some p =>
            obtain ⟨h3, _, _, e0, h6, _, h8⟩ := h2
            subst h3
            rw [Nat.sub_zero] at h6
            obtain ⟨n, hn, _, hnk, _⟩ := EntL.get hr h6
            have hke : n.key = k' := by rw [hnk]; exact (sameK_eq h8).symm
            have hn2 : en[p.1]? = some n := by simpa using hn
            refine ⟨rfl, ι, _, .refl ι, hS.setMapU (es2 := setV es2 p.1 u) (clk' := clk) (en' := en.modify p.1 fun e => { e with key := k', val := u' }) hid hl ?_ (hp.set hf hf2), ?_⟩
            · unfold EntR
              rw [Array.toList_modify]
              exact EntL.modify hu (fun e => { e with key := k', val := u' }) (fun n => ⟨rfl, rfl⟩) hr (fun n' hn' => by rw [hn] at hn'; cases hn'; exact hke.symm)
            · have hkts : (Instr.keyThatStays (((en[p.1]?).map (·.key)).getD k') k').run P w = .ok k' w := by
                rw [hn2]
                simp only [Option.map_some, Option.getD_some, hke, Instr.keyThatStays, same_bits hok, if_true]
                rfl
              simp only [Instr.mapUpdate, Sem.run_bind, run_underlying ht, Result.andThen_ok, run_getMap hb, hchk, run_findKey hd h1, hkts, run_setMap hb]
        · rename_i hf
          split at h
          case h_2 => cases h
          rename_i s
          cases h
          have hf2 : findA (tkT P kt) (.string s) es2 0 = some none := by
            rcases hp.find hok hf with ⟨_, s, _, _, h0⟩ | ⟨_, h0, _⟩ | ⟨i, j2, u2, h0, _⟩
            · exact h0
            · rw [h0]; rfl
            · cases h0
          obtain ⟨r', h1, h2⟩ := find_run hd 0 hr hf2
          cases r' with
          | some p => exact h2.elim
          | none =>
            have htk : tkT P kt = .str := by
              unfold okK at hok
              split at hok <;> simp_all
            rw [htk] at hf
            refine ⟨rfl, ι, _, .refl ι, hS.setMapU (es2 := es2 ++ [(.string s, u, clk)]) (clk' := clk + 1) (en' := en.push { key := .string s, val := u', born := clk }) hid hl ?_ (hp.snoc hf), ?_⟩
            · unfold EntR
              rw [Array.toList_push]
              exact EntL.snoc hsk hu hr
            · simp only [Instr.mapUpdate, Sem.run_bind, run_underlying ht, Result.andThen_ok, run_getMap hb, hchk, run_findKey hd h1, run_setMap hb]
        · cases h
    · cases h
  · cases h

theorem setB_twice {b : Nat} {o : Obj} (h : w.heap[b]? = some o) : setB w b o = w := setB_self h

theorem modify_key {en : Array MapEntry} {i : Nat} {k : Value} (h : ∀ n, en[i]? = some n → n.key = k) : (en.modify i fun e => { e with key := k }) = en := by
  apply Array.ext
  · simp
  · intro j h1 h2
    rw [Array.getElem_modify]
    split
    · rename_i e; subst e
      have := h en[i] (by simp [h2])
      cases hx : en[i]
      rw [hx] at this
      simp at this ⊢
      exact this.symm
    · rfl

theorem men_sim (hS : Sim G w0 ι H w) {t kt e : TypeId} {m m' k k' : Value} (ht : P.underlying t = some (.map kt e)) (he : hasT P e = true)
    (hm : RV ι m m') (hk : RV ι k k') (h : men (tkT P kt) (zeT P e) m k H = some (v, H1)) : Res G w0 ι v H1 ((Instr.mapEntry t m' k').run P w) := by
  obtain ⟨ie, hie, hz, hc, hzr⟩ := hasT_zero he
  unfold men at h
  split at h
  · split at h
    · rename_i id _ es clk hid
      cases hok : okK (tkT P kt) k with
      | false => simp [hok] at h
      | true =>
        obtain ⟨d, hd, hsk, hchk⟩ := ok_under hok
        simp only [hok, cond_true] at h
        have hk2 := hk.scalar_inv hsk
        subst hk2
        obtain ⟨l, hl, rfl⟩ := hm.map_inv
        obtain ⟨en, hb, _, hr⟩ := hS.mapR hid hl
        split at h
        · rename_i j u0 hf
          cases h
          obtain ⟨r', h1, h2⟩ := find_run hd 0 hr hf
          cases r' with
          | none => exact h2.elim
          | some p =>
            obtain ⟨h3, h4, _, e0, h6, h7, h8⟩ := h2
            subst h3
            rw [Nat.sub_zero] at h6
            obtain ⟨n, hn, _, hnk, _, hnb⟩ := EntL.get hr h6
            have hke : n.key = k' := by rw [hnk]; exact (sameK_eq h8).symm
            have hn2 : en[p.1]? = some n := by simpa using hn
            have hkts : (Instr.keyThatStays (((en[p.1]?).map (·.key)).getD k') k').run P w = .ok k' w := by
              rw [hn2]
              simp only [Option.map_some, Option.getD_some, hke, Instr.keyThatStays, same_bits hok, if_true]
              rfl
            have hmod : (en.modify p.1 fun e => { e with key := k' }) = en := modify_key fun n' hn' => by rw [hn2] at hn'; cases hn'; exact hke
            refine ⟨ι, .tuple #[p.2, .int .i64 ((es.getD p.1 (undef, undef, 0)).2.2 : Nat)], w, .refl ι, hS, .tupL (a := [u0, _]) (a' := [p.2, _]) (.cons h4 (.cons (.sc rfl) .nil)), ?_⟩
            simp only [Instr.mapEntry, Sem.run_bind, run_underlying ht, Result.andThen_ok, run_getMap hb, hchk, run_findKey hd h1, hkts, run_setMap hb, hmod, setB_twice hb, Sem.run_pure, goInt]
            rw [List.getD_eq_getElem?_getD, h6, hn2]
            simp [hnb]
        · rename_i hf
          cases h
          obtain ⟨r', h1, h2⟩ := find_run hd 0 hr hf
          cases r' with
          | some p => exact h2.elim
          | none =>
            refine ⟨ι, .tuple #[zeT P e, .int .i64 (clk : Nat)], _, .refl ι, hS.setMap (es' := es ++ [(k', zeT P e, clk)]) (clk' := clk + 1) (en' := en.push { key := k', val := zeT P e, born := clk }) hid hl ?_,
              .tupL (a := [zeT P e, _]) (a' := [zeT P e, _]) (.cons (.const hc) (.cons (.sc rfl) .nil)), ?_⟩
            · unfold EntR
              rw [Array.toList_push]
              exact EntL.snoc hsk (.const hc) hr
            · simp only [Instr.mapEntry, Sem.run_bind, run_underlying ht, Result.andThen_ok, run_getMap hb, hchk, run_findKey hd h1, hzr, run_setMap hb, Sem.run_pure, goInt]
        · cases h
    · cases h
  · cases h

theorem findIdx_born {n : Int} : ∀ {es : List (Value × Value × Nat)} {en : List MapEntry}, EntL ι es en →
    en.findIdx? (fun e => (e.born : Int) == n) = es.findIdx? (fun e => (e.2.2 : Int) == n)
  | [], [], _ => rfl
  | e :: es, a :: en, h => by simp only [List.findIdx?_cons, h.1.2.2.2, findIdx_born h.2]
  | [], _ :: _, h => h.elim
  | _ :: _, [], h => h.elim

theorem ens_sim (hS : Sim G w0 ι H w) {t : TypeId} {m m' s s' u u' : Value}
    (hm : RV ι m m') (hs : RV ι s s') (hu : RV ι u u') (h : ens m s u H = some (v, H1)) : v = undef ∧ ResU G w0 ι H1 ((Instr.entryStore t m' s' u').run P w) := by
  unfold ens at h
  split at h
  · split at h
    · rename_i id _ n _ es clk hid
      obtain ⟨l, hl, rfl⟩ := hm.map_inv
      obtain ⟨en, hb, _, hr⟩ := hS.mapR hid hl
      rw [hs.int_inv]
      split at h
      · rename_i i hi
        cases h
        have hi2 : en.findIdx? (fun e => (e.born : Int) == n) = some i := by
          rw [← Array.toArray_toList (xs := en), List.findIdx?_toArray, findIdx_born hr]; exact hi
        refine ⟨rfl, ι, _, .refl ι, hS.setMap (es' := setV es i u) (clk' := clk) (en' := en.modify i fun e => { e with val := u' }) hid hl ?_, ?_⟩
        · unfold EntR
          rw [Array.toList_modify]
          exact EntL.modify hu (fun e => { e with val := u' }) (fun n => ⟨rfl, rfl⟩) hr (fun n' _ => rfl)
        · simp only [Instr.entryStore, Sem.run_bind, run_getMap hb, Result.andThen_ok, asInt, asIntOf, Sem.run_pure, hi2, run_setMap hb]
      · cases h
    · cases h
  · cases h

theorem mde_sim (hS : Sim G w0 ι H w) {t u kt e ty : TypeId} {m m' k k' : Value} (ht : P.underlying t = some (.map kt e))
    (hm : RV ι m m') (hk : RV ι k k') (h : mde (tkT P kt) m k H = some (v, H1)) : Res G w0 ι v H1 ((Builtin.delete_ #[t, u] ty #[m', k']).run P w) := by
  unfold mde at h
  split at h
  · cases hok : okK (tkT P kt) k with
    | false => simp [hok] at h
    | true =>
      obtain ⟨d, hd, hsk, hchk⟩ := ok_under hok
      simp only [hok, cond_true] at h
      cases h
      have hk2 := hk.scalar_inv hsk
      subst hk2
      rw [hm.scalar_inv rfl]
      exact .same hS (v' := .tuple #[]) .un (by simp [Builtin.delete_, run_underlying ht, hchk])
  · split at h
    · rename_i id _ es clk hid
      cases hok : okK (tkT P kt) k with
      | false => simp [hok] at h
      | true =>
        obtain ⟨d, hd, hsk, hchk⟩ := ok_under hok
        simp only [hok, cond_true] at h
        have hk2 := hk.scalar_inv hsk
        subst hk2
        obtain ⟨l, hl, rfl⟩ := hm.map_inv
        obtain ⟨en, hb, _, hr⟩ := hS.mapR hid hl
        split at h
        · rename_i j u0 hf
          cases h
          obtain ⟨r', h1, h2⟩ := find_run hd 0 hr hf
          cases r' with
          | none => exact h2.elim
          | some p =>
            obtain ⟨h3, _, _, e0, h6, _, _⟩ := h2
            subst h3
            rw [Nat.sub_zero] at h6
            obtain ⟨n, hn, _⟩ := EntL.get hr h6
            have hlt : p.1 < en.size := by
              rcases Nat.lt_or_ge p.1 en.size with h | h
              · exact h
              · rw [List.getElem?_eq_none (by simpa using h)] at hn; cases hn
            refine ⟨ι, .tuple #[], _, .refl ι, hS.setMap (es' := es.eraseIdx p.1) (clk' := clk) (en' := en.eraseIdxIfInBounds p.1) hid hl ?_, .un, ?_⟩
            · unfold EntR
              have : (en.eraseIdxIfInBounds p.1).toList = en.toList.eraseIdx p.1 := by
                unfold Array.eraseIdxIfInBounds
                rw [dif_pos hlt, Array.toList_eraseIdx]
              rw [this]; exact EntL.erase _ hr
            · simp only [Builtin.delete_, List.getElem?_toArray, List.getElem?_cons_zero, List.getElem?_cons_succ, Sem.run_bind, run_underlying ht, Result.andThen_ok, run_getMap hb, hchk, run_findKey hd h1, run_setMap hb, Sem.run_pure]
        · rename_i hf
          cases h
          obtain ⟨r', h1, h2⟩ := find_run hd 0 hr hf
          cases r' with
          | some p => exact h2.elim
          | none =>
            refine .same hS (v' := .tuple #[]) .un ?_
            simp only [Builtin.delete_, List.getElem?_toArray, List.getElem?_cons_zero, List.getElem?_cons_succ, Sem.run_bind, run_underlying ht, Result.andThen_ok, run_getMap hb, hchk, run_findKey hd h1, run_setMap hb, Sem.run_pure, setB_twice hb]
        · cases h
    · rename_i id _ es hid
      cases hok : okK (tkT P kt) k with
      | false => simp [hok] at h
      | true =>
        obtain ⟨d, hd, hsk, hchk⟩ := ok_under hok
        simp only [hok, cond_true] at h
        have hk2 := hk.scalar_inv hsk
        subst hk2
        obtain ⟨l, hl, rfl⟩ := hm.map_inv
        obtain ⟨en, clk, es2, hb, _, hr, hp⟩ := hS.mapUR hid hl
        split at h
        · rename_i j u0 hf
          cases h
          rcases hp.find hok hf with ⟨h0, _⟩ | ⟨_, _, h0⟩ | ⟨i, j2, u2, h0, hf2⟩
          · cases h0
          · cases h0
          cases h0
          obtain ⟨r', h1, h2⟩ := find_run hd 0 hr hf2
          cases r' with
          | none => exact h2.elim
          | some p =>
            obtain ⟨h3, _, _, e0, h6, _, _⟩ := h2
            subst h3
            rw [Nat.sub_zero] at h6
            obtain ⟨n, hn, _⟩ := EntL.get hr h6
            have hlt : p.1 < en.size := by
              rcases Nat.lt_or_ge p.1 en.size with h | h
              · exact h
              · rw [List.getElem?_eq_none (by simpa using h)] at hn; cases hn
            refine ⟨ι, .tuple #[], _, .refl ι, hS.setMapU (es2 := es2.eraseIdx p.1) (clk' := clk) (en' := en.eraseIdxIfInBounds p.1) hid hl ?_ (hp.erase hf hf2), .un, ?_⟩
            · unfold EntR
              have : (en.eraseIdxIfInBounds p.1).toList = en.toList.eraseIdx p.1 := by
                unfold Array.eraseIdxIfInBounds
                rw [dif_pos hlt, Array.toList_eraseIdx]
              rw [this]; exact EntL.erase _ hr
            · simp only [Builtin.delete_, List.getElem?_toArray, List.getElem?_cons_zero, List.getElem?_cons_succ, Sem.run_bind, run_underlying ht, Result.andThen_ok, run_getMap hb, hchk, run_findKey hd h1, run_setMap hb, Sem.run_pure]
        · rename_i hf
          cases h
          have hf2 : findA (tkT P kt) k' es2 0 = some none := by
            rcases hp.find hok hf with ⟨_, s, _, _, h0⟩ | ⟨_, h0, _⟩ | ⟨i, j2, u2, h0, _⟩
            · exact h0
            · rw [h0]; rfl
            · cases h0
          obtain ⟨r', h1, h2⟩ := find_run hd 0 hr hf2
          cases r' with
          | some p => exact h2.elim
          | none =>
            refine .same hS (v' := .tuple #[]) .un ?_
            simp only [Builtin.delete_, List.getElem?_toArray, List.getElem?_cons_zero, List.getElem?_cons_succ, Sem.run_bind, run_underlying ht, Result.andThen_ok, run_getMap hb, hchk, run_findKey hd h1, run_setMap hb, Sem.run_pure, setB_twice hb]
        · cases h
    · cases h
  · cases h

theorem mkm_sim (hS : Sim G w0 ι H w) {t : TypeId} (h : mkm H = some (v, H1)) : Res G w0 ι v H1 ((Instr.makeMap t none).run P w) := by
  unfold mkm at h
  cases h
  have hnew := hS.new (x := .map [] 0) (l := ⟨w.heap.size, 0, 0, 0, false⟩) (.map #[] 0) rfl ⟨_, #[], ext_self _ _ _, pushO_new w _, hS.size, trivial⟩
  exact ⟨_, _, _, le_ext hS _, hnew, .mp (ext_self _ _ _), by simp [Instr.makeMap, pushO]⟩

theorem clr_sim_map (hS : Sim G w0 ι H w) {t kt e ty : TypeId} {x x' : Value} (ht : P.underlying t = some (.map kt e)) (hx : RV ι x x')
    (h : clrM x H = some (v, H1)) : Res G w0 ι v H1 ((Builtin.clear_ #[t] ty #[x']).run P w) := by
  unfold clrM at h
  split at h
  · cases h
    rw [hx.scalar_inv rfl]
    exact .same hS (v' := .tuple #[]) .un (by simp [Builtin.clear_, run_underlying ht])
  · split at h
    · rename_i hid
      cases h
      obtain ⟨l, hl, rfl⟩ := hx.map_inv
      obtain ⟨en, hb, _, hr⟩ := hS.mapR hid hl
      refine ⟨ι, .tuple #[], _, .refl ι, hS.setMap (es' := []) (clk' := _) (en' := #[]) hid hl trivial, .un, ?_⟩
      simp only [Builtin.clear_, List.getElem?_toArray, List.getElem?_cons_zero, Sem.run_bind, run_underlying ht, Result.andThen_ok, run_getMap hb, run_setMap hb, Sem.run_pure]
    · rename_i hid
      cases h
      obtain ⟨l, hl, rfl⟩ := hx.map_inv
      obtain ⟨en, clk, es2, hb, _, hr, hp⟩ := hS.mapUR hid hl
      refine ⟨ι, .tuple #[], _, .refl ι, hS.setMapU (es' := []) (es2 := []) (clk' := clk) (en' := #[]) hid hl trivial ⟨.refl _, ⟨by simp, by simp⟩, ⟨by simp, by simp⟩⟩, .un, ?_⟩
      simp only [Builtin.clear_, List.getElem?_toArray, List.getElem?_cons_zero, Sem.run_bind, run_underlying ht, Result.andThen_ok, run_getMap hb, run_setMap hb, Sem.run_pure]
    · cases h
  · cases h

theorem clr_sim_slice (hS : Sim G w0 ι H w) {t e ty : TypeId} {x x' : Value} (ht : P.underlying t = some (.slice e)) (he : okE P e = true) (hx : RV ι x x')
    (h : clr (zeT P e) (szT P e) x H = some (v, H1)) : Res G w0 ι v H1 ((Builtin.clear_ #[t] ty #[x']).run P w) := by
  obtain ⟨i, hi, hz, hzr⟩ := okE_info he
  obtain ⟨hh, htup⟩ := okE_hasT he
  obtain ⟨_, _, _, hcst, _⟩ := hasT_zero hh
  obtain ⟨hsc, hzc⟩ := const_cells (ι := ι) hcst htup
  unfold clr at h
  split at h
  · cases h
    obtain ⟨_, _, rfl⟩ := hx.nils_inv
    exact .same hS (v' := .tuple #[]) .un (by simp [Builtin.clear_, run_underlying ht])
  · cases h
    obtain ⟨_, _, a', c', _, rfl⟩ := hx.slcE_inv
    exact .same hS (v' := .tuple #[]) .un (by simp [Builtin.clear_, run_underlying ht])
  · rename_i id o n c
    obtain ⟨l, c', hl, hlc, hcc, hex, hroom, rfl⟩ := hx.slc_inv
    split at h
    · rename_i hn
      cases h
      subst hn
      exact .same hS (v' := .tuple #[]) .un (by simp [Builtin.clear_, run_underlying ht])
    · rename_i hn
      split at h
      · rename_i cs es' g hid
        split at h
        · rename_i hc
          obtain ⟨rfl, hc2⟩ := hc
          cases h
          have hlen : (reps n (zeT P e).cells.toList).length = n * szT P e := by rw [reps_length]; simp [hz]
          obtain ⟨w1, hw1, hS1⟩ := hS.store (P := P) hid hl (o := o) (by rw [hlen]; exact hc2) (hzc.reps n) (fun u hu => scalar_one (hsc u (mem_reps hu)))
          refine ⟨ι, .tuple #[], w1, .refl ι, hS1, .un, ?_⟩
          have hzc2 : (Builtin.zeroCells (zeT P e).cells n).toList = reps n (zeT P e).cells.toList := by unfold Builtin.zeroCells; exact range_reps
          cases n with
          | zero => exact absurd rfl hn
          | succ n =>
            simp only [Builtin.clear_, List.getElem?_toArray, List.getElem?_cons_zero, Sem.run_bind, run_underlying ht, Result.andThen_ok, hzr, hzc2, hw1, Sem.run_pure]
        · cases h
      · cases h
  · cases h

theorem mkif_sim (hS : Sim G w0 ι H w) {t : TypeId} {d : TypeDesc} {x x' : Value} (ht : P.underlying t = some d) (hd : ∀ ms, d ≠ .interface ms) (hx : RV ι x x') (h : mkif t x H = some (v, H1)) :
    Res G w0 ι v H1 ((Instr.makeInterface t x').run P w) := by
  unfold mkif at h
  cases h
  refine .same hS (.ifc hx) ?_
  simp only [Instr.makeInterface, Sem.run_bind, run_underlying ht, Result.andThen_ok]
  cases d <;> first | rfl | exact absurd rfl (hd _)

theorem mxi_sim (hS : Sim G w0 ι H w) {mx : Bool} {x x' y y' : Value} {tys : Array TypeId} {ty : TypeId} (hx : RV ι x x') (hy : RV ι y y') (h : mxi mx x y H = some (v, H1)) :
    Res G w0 ι v H1 ((bif mx then Builtin.max_ tys ty #[x', y'] else Builtin.min_ tys ty #[x', y']).run P w) := by
  unfold mxi at h
  split at h
  · cases h
    rw [hx.int_inv, hy.int_inv]
    cases mx
    · refine .sc hS rfl ?_
      simp [Builtin.min_, Builtin.min2]
    · refine .sc hS rfl ?_
      simp [Builtin.max_, Builtin.max2]
  · cases h

end
end Go.Proofs.YtlpibiaokpbhbaaGreatDoor.A
