/- What a block may be: both go on alike, the device and the row of what it may be. -/
import Derived.Test.YtahocinoohdagaaBlkMay
import Derived.Test.YtahocinoohdagaaKeepInv
namespace Go.Proofs.Ytahocinoohdagaa.A
set_option linter.unusedVariables false
set_option linter.unusedSimpArgs false
open Go.Proofs Go.Proofs.Ytahocinoohdagaa

/-- The device, the rows, and cells that nobody writes. -/
def KSt (H0 : Heap) (fr : List Nat) (H : Heap) (id mid : Nat) (d : DevS) (L : List (List (List UInt8))) : Prop :=
  ∃ own bs om, Dev H id d own bs ∧ May H mid L om ∧ (∀ j ∈ om, j ∉ own ∧ j ∉ bs) ∧ (∀ j ∈ own, H0.length ≤ j) ∧ (∀ j ∈ om, H0.length ≤ j) ∧ HLe H0 H ∧ ∀ j ∈ fr, j < H.length ∧ j ∉ own ∧ j ∉ om

section
variable {H0 H H' : Heap} {fr : List Nat} {id mid n : Nat} {d d' : DevS} {L L' : List (List (List UInt8))}

theorem KSt.dv (h : KSt H0 fr H id mid d L) : ∃ own bs, Dev H id d own bs := by
  obtain ⟨own, bs, om, h1, _⟩ := h; exact ⟨own, bs, h1⟩
theorem KSt.le (h : KSt H0 fr H id mid d L) : HLe H0 H := by
  obtain ⟨own, bs, om, h1, h2, h3, h4, h5, h6, h7⟩ := h; exact h6

theorem KSt.hle (h : KSt H0 fr H id mid d L) (hl : HLe H H') : KSt H0 fr H' id mid d L := by
  obtain ⟨own, bs, om, h1, h2, h3, h4, h5, h6, h7⟩ := h
  exact ⟨own, bs, om, h1.hle hl, h2.step hl.step (by simp), h3, h4, h5, h6.trans hl, fun j hj => ⟨by have := hl.len; have := (h7 j hj).1; omega, (h7 j hj).2⟩⟩

theorem KSt.less {fr' : List Nat} (h : KSt H0 fr H id mid d L) (hs : ∀ j ∈ fr', j ∈ fr) : KSt H0 fr' H id mid d L := by
  obtain ⟨own, bs, om, h1, h2, h3, h4, h5, h6, h7⟩ := h
  exact ⟨own, bs, om, h1, h2, h3, h4, h5, h6, fun j hj => h7 j (hs j hj)⟩

/-- A new cell. -/
theorem KSt.box (h : KSt H0 fr H id mid d L) (o : AObj) : KSt H0 (H.length :: fr) (H ++ [o]) id mid d L := by
  have hl : HLe H (H ++ [o]) := .app _ _
  have h' := h.hle hl
  obtain ⟨own, bs, om, h1, h2, h3, h4, h5, h6, h7⟩ := h
  refine ⟨own, bs, om, h1.hle hl, h2.step hl.step (by simp), h3, h4, h5, h6.trans hl, fun j hj => ?_⟩
  rcases List.mem_cons.1 hj with rfl | hj
  · exact ⟨by simp, fun hm => by have := h1.lt _ hm; omega, fun hm => by have := h2.lt _ hm; omega⟩
  · exact ⟨by simp; have := (h7 j hj).1; omega, (h7 j hj).2⟩

theorem KSt.dev {P : Heap → Prop} (h : KSt H0 fr H id mid d L) (hop : ∀ own bs, Dev H id d own bs → (∀ j ∈ own, H0.length ≤ j) → ∃ H' own' bs', P H' ∧ Dev H' id d' own' bs' ∧ Step own H own' H' ∧ ∀ j ∈ bs', j ∈ bs ∨ H.length ≤ j) :
    ∃ H', P H' ∧ KSt H0 fr H' id mid d' L ∧ ∀ j ∈ fr, H'[j]? = H[j]? := by
  obtain ⟨own, bs, om, h1, h2, h3, h4, h5, h6, h7⟩ := h
  obtain ⟨H', own', bs', p, g1, g2, g3⟩ := hop own bs h1 h4
  have hle := h6.more g2 h4
  refine ⟨H', p, ⟨own', bs', om, g1, h2.step g2 fun j hj => (h3 j hj).1, fun j hj => ⟨fun hm => ?_, fun hm => ?_⟩, hle.2, h5, hle.1, fun j hj => ⟨by have := g2.len; have := (h7 j hj).1; omega, fun hm => ?_, (h7 j hj).2.2⟩⟩, fun j hj => g2.keep j (h7 j hj).1 (h7 j hj).2.1⟩
  · rcases g2.own j hm with h | h
    · exact (h3 j hj).1 h
    · have := h2.lt j hj; omega
  · rcases g3 j hm with h | h
    · exact (h3 j hj).2 h
    · have := h2.lt j hj; omega
  · rcases g2.own j hm with h | h
    · exact (h7 j hj).2.1 h
    · have := (h7 j hj).1; omega

theorem KSt.may {P : Heap → Prop} (h : KSt H0 fr H id mid d L) (hop : ∀ om, May H mid L om → (∀ j ∈ fr, j ∉ om) → ∃ H' om', P H' ∧ May H' mid L' om' ∧ Step om H om' H') :
    ∃ H', P H' ∧ KSt H0 fr H' id mid d L' ∧ ∀ j ∈ fr, H'[j]? = H[j]? := by
  obtain ⟨own, bs, om, h1, h2, h3, h4, h5, h6, h7⟩ := h
  obtain ⟨H', om', p, g1, g2⟩ := hop om h2 fun j hj => (h7 j hj).2.2
  have hle := h6.more g2 h5
  have hlt := h1.lt
  have hbl := h1.bl
  refine ⟨H', p, ⟨own, bs, om', h1.step g2 fun j hj hm => ?_, g1, fun j hj => ⟨fun hm => ?_, fun hm => ?_⟩, h4, hle.2, hle.1, fun j hj => ⟨by have := g2.len; have := (h7 j hj).1; omega, (h7 j hj).2.1, fun hm => ?_⟩⟩, fun j hj => g2.keep j (h7 j hj).1 (h7 j hj).2.2⟩
  · exact hj.elim (h3 j hm).1 (h3 j hm).2
  · rcases g2.own j hj with h | h
    · exact (h3 j h).1 hm
    · have := hlt j hm; omega
  · rcases g2.own j hj with h | h
    · exact (h3 j h).2 hm
    · have := (hbl j hm).2; omega
  · rcases g2.own j hm with h | h
    · exact (h7 j hj).2.2 h
    · have := (h7 j hj).1; omega

theorem KSt.get (h : KSt H0 fr H id mid d L) {i : Nat} {l : List (List UInt8)} (hi : L[i]? = some l) : ∃ sl, ld1 (pa mid i) H = some (sl, H) ∧ Sl H sl (l.map strv) ∧ l ≠ [] := by
  obtain ⟨own, bs, om, h1, h2, _⟩ := h
  exact h2.get hi

end

theorem ixaA_at {n es : Nat} {id o : Nat} {H : Heap} {i : Nat} (h : i < n) : ixaA n es (pa id o) (iv i) H = some (pa id (o + i * es), H) := by
  rw [ixaA_r, if_pos (by omega)]; simp

theorem mayA {id i : Nat} {H : Heap} (h : i < 8) : ixaA 8 1 (pt id) (iv i) H = some (pa id i, H) := by
  have := ixaA_at (es := 1) (id := id) (o := 0) (H := H) h
  simpa using this

/-- The rows as they are at first. -/
theorem init_do {m id mid : Nat} {s0 s1 : Value} : ∀ (k i : Nat) {H : Heap} {ps : List (Value × List Nat)}, 8 - i = k → i ≤ 8 → H[mid]? = some (.cells (ps.map (·.1) ++ List.replicate (8 - i) (.slice none 0 0)) 1 false false) → All2 (fun p l => RowO H p.1 (l.map strv) p.2 ∧ l ≠ []) ps (List.replicate i [zeroB]) →
    (mid :: (ps.map (·.2)).flatten).Nodup →
    ∃ H' om, loopM (fun vs => F_law21BlockKeeps.l1 (R m) (vs.headD undef) (vs.tail.headD undef) (vs.tail.tail.headD undef) (vs.tail.tail.tail.headD undef) (vs.tail.tail.tail.tail.headD undef)) [s0, s1, pt id, pt mid, iv i] H = some (.ext 0 [s0, s1, pt id, pt mid], H') ∧
      May H' mid (List.replicate 8 [zeroB]) om ∧ Step (mid :: (ps.map (·.2)).flatten) H om H'
  | 0, i, H, ps, hk, hi, hc, hA, hnd => by
    have : i = 8 := by omega
    subst this
    refine ⟨H, mid :: (ps.map (·.2)).flatten, loop_ext ?_, ⟨ps, by simpa using hc, hA, rfl, hnd⟩, .refl _ _⟩
    simp only [F_law21BlockKeeps.l1, List.headD_cons, List.tail_cons]
    rw [bind_eq lss_r, cnd_b, if_neg (by simp)]
    rfl
  | k + 1, i, H, ps, hk, hi, hc, hA, hnd => by
    have hlt : (i : Int) < 8 := by omega
    have w1 : IntKind.i64.wrap ((i : Int) + 1) = ((i + 1 : Nat) : Int) := by rw [w64 (by omega) (by omega)]; simp
    have hpl : ps.length = i := by rw [hA.len]; simp
    have e1 : mks 1 1 (.int .u8 0) (iv 128) (iv 128) H = some (.slice (some ⟨H.length, 0, none⟩) 128 128, H ++ [.cells (u8s zeroB) 1 false false]) := mks_z (l := 128) (by omega)
    generalize hH1 : H ++ [AObj.cells (u8s zeroB) 1 false false] = H1 at e1
    have hle1 : HLe H H1 := by rw [← hH1]; exact .app _ _
    have hz : Sl H1 (.slice (some ⟨H.length, 0, none⟩) 128 128) (u8s zeroB) := by
      have := Sl.one (vs := u8s zeroB) (c := 128) (H := H1) (id := H.length) (by rw [← hH1]; exact app_new)
      rw [u8s_length, show zeroB.length = 128 from List.length_replicate] at this
      exact this
    have e2 := b2s_v hz
    generalize hH2 : H1 ++ [AObj.cells [strv zeroB] 1 false false] = H2
    have hle2 : HLe H1 H2 := by rw [← hH2]; exact .app _ _
    have e3 : bsl 1 1 (.string ⟨#[]⟩) [(0, 1, strv zeroB)] H1 = some (.slice (some ⟨H1.length, 0, none⟩) 1 1, H2) := by rw [← hH2]; exact bsl1 rfl rfl rfl
    have hl1 : H1.length = H.length + 1 := by rw [← hH1]; simp
    have hl2 : H2.length = H.length + 2 := by rw [← hH2]; simp [hl1]
    have hle := hle1.trans hle2
    have hc2 := hle _ _ hc
    have hmid := get_lt hc
    have hcl : (ps.map (·.1) ++ List.replicate (8 - i) (Value.slice none 0 0)).length = 8 := by simp [hpl]; omega
    generalize hH3 : H2.set mid (.cells ((ps.map (·.1) ++ List.replicate (8 - i) (Value.slice none 0 0)).set i (.slice (some ⟨H1.length, 0, none⟩) 1 1)) 1 false false) = H3
    have e4 : st1 (pa mid i) (.slice (some ⟨H1.length, 0, none⟩) 1 1) H2 = some (undef, H3) := by
      rw [← hH3]; exact st1_at hc2 (by omega) rfl
    have hne : ∀ j, j ≠ mid → H3[j]? = H2[j]? := fun j hj => by rw [← hH3]; exact List.getElem?_set_ne (Ne.symm hj)
    have hrow : RowO H3 (.slice (some ⟨H1.length, 0, none⟩) 1 1) [strv zeroB] [H1.length] :=
      ⟨H1.length, [], [], false, rfl, rfl, by rw [hne _ (by omega), ← hH2]; exact app_new⟩
    rw [List.nodup_cons] at hnd
    have hlo : ∀ j ∈ (ps.map (·.2)).flatten, j < H.length := fun j hj => by
      obtain ⟨q, hq, hjq⟩ := List.mem_flatten.1 hj
      obtain ⟨p, hp, rfl⟩ := List.mem_map.1 hq
      obtain ⟨l, hl, hr, _⟩ := hA.mem hp
      exact hr.lt j hjq
    have hA3 : All2 (fun p l => RowO H3 p.1 (l.map strv) p.2 ∧ l ≠ []) (ps ++ [(.slice (some ⟨H1.length, 0, none⟩) 1 1, [H1.length])]) (List.replicate (i + 1) [zeroB]) := by
      rw [List.replicate_succ']
      refine (hA.impM fun p l hp hr => ⟨hr.1.keep fun j hj => ?_, hr.2⟩).app (.one ⟨hrow, by simp⟩)
      have hjf : j ∈ (ps.map (·.2)).flatten := List.mem_flatten.2 ⟨p.2, List.mem_map.2 ⟨p, hp, rfl⟩, hj⟩
      rw [hne j (fun e => hnd.1 (e ▸ hjf)), hle.step.keep j (hlo j hjf) (by simp)]
    have hc3 : H3[mid]? = some (.cells ((ps ++ [((.slice (some ⟨H1.length, 0, none⟩) 1 1 : Value), [H1.length])]).map (·.1) ++ List.replicate (8 - (i + 1)) (.slice none 0 0)) 1 false false) := by
      rw [← hH3, set_get hc2]
      congr 2
      rw [List.map_append, List.set_append_right _ _ (by simp [hpl]), List.length_map, hpl, Nat.sub_self, show 8 - i = (8 - (i + 1)) + 1 by omega, List.replicate_succ]
      simp
    have hnd3 : (mid :: ((ps ++ [((.slice (some ⟨H1.length, 0, none⟩) 1 1 : Value), [H1.length])]).map (·.2)).flatten).Nodup := by
      rw [List.map_append, List.flatten_append, List.nodup_cons, List.nodup_append]
      refine ⟨fun hm => ?_, hnd.2, by simp, fun a ha b hb e => ?_⟩
      · rcases List.mem_append.1 hm with hm | hm
        · exact hnd.1 hm
        · simp at hm; omega
      · have := hlo a ha
        simp at hb
        omega
    obtain ⟨H4, om, e5, h5, s5⟩ := init_do (m := m) (id := id) (s0 := s0) (s1 := s1) k (i + 1) (by omega) (by omega) hc3 hA3 hnd3
    have hb : F_law21BlockKeeps.l1 (R m) s0 s1 (pt id) (pt mid) (iv i) H = some (.nrm [s0, s1, pt id, pt mid, iv ((i + 1 : Nat) : Int)], H3) := by
      unfold F_law21BlockKeeps.l1
      rw [bind_eq lss_r, cnd_b, if_pos (by simpa using hlt), bind_eq e1, bind_eq e2, bind_eq e3, bind_eq (mayA (by omega)), bind_eq e4, bind_eq add_r, w1]
      rfl
    refine ⟨H4, om, (loop_next (by simp only [List.headD_cons, List.tail_cons]; exact hb)).trans e5, h5, ?_⟩
    refine Step.trans (o2 := mid :: ((ps ++ [((.slice (some ⟨H1.length, 0, none⟩) 1 1 : Value), [H1.length])]).map (·.2)).flatten) ⟨by rw [← hH3]; simp; omega, fun j hj hn => ?_, fun j hj => ?_⟩ s5
    · simp only [List.mem_cons, not_or] at hn
      rw [hne j hn.1, hle.step.keep j hj (by simp)]
    · rw [List.map_append, List.flatten_append] at hj
      simp only [List.mem_cons, List.mem_append] at hj ⊢
      rcases hj with hj | hj | hj
      · exact .inl (.inl hj)
      · exact .inl (.inr hj)
      · simp at hj; exact .inr (by omega)

def trm (l : List (List UInt8)) : List (List UInt8) := l.drop (l.length - 1)

/-- Only what stands last may be. -/
theorem trim_do {m id mid : Nat} {H0 : Heap} {fr : List Nat} {d : DevS} {s1 s9 s36 s37 s38 : Value} : ∀ (k i : Nat) {H : Heap} {L : List (List (List UInt8))}, 8 - i = k → i ≤ 8 → L.length = 8 → (∀ l ∈ L, l.length ≤ 1000) → KSt H0 fr H id mid d L →
    ∃ H', loopM (fun vs => F_law21BlockKeeps.l3 (R m) (vs.headD undef) (vs.tail.headD undef) (vs.tail.tail.headD undef) (vs.tail.tail.tail.headD undef) (vs.tail.tail.tail.tail.headD undef) (vs.tail.tail.tail.tail.tail.headD undef) (vs.tail.tail.tail.tail.tail.tail.headD undef) (vs.tail.tail.tail.tail.tail.tail.tail.headD undef)) [s1, pt id, pt mid, s9, s36, s37, s38, iv i] H = some (.ext 4 [s1, pt id, pt mid, s9, s36, s37, s38], H') ∧
      KSt H0 fr H' id mid d (L.take i ++ (L.drop i).map trm) ∧ ∀ j ∈ fr, H'[j]? = H[j]?
  | 0, i, H, L, hk, hi, hL, hlen, h => by
    have : i = 8 := by omega
    subst this
    refine ⟨H, loop_ext ?_, ?_, fun _ _ => rfl⟩
    · simp only [F_law21BlockKeeps.l3, List.headD_cons, List.tail_cons]
      rw [bind_eq lss_r, cnd_b, if_neg (by simp)]
      rfl
    · rw [List.drop_eq_nil_of_le (by omega), List.take_of_length_le (by omega)]
      simpa using h
  | k + 1, i, H, L, hk, hi, hL, hlen, h => by
    have hlt : (i : Int) < 8 := by omega
    have w1 : IntKind.i64.wrap ((i : Int) + 1) = ((i + 1 : Nat) : Int) := by rw [w64 (by omega) (by omega)]; simp
    have hil : L[i]? = some (L[i]'(by omega)) := List.getElem?_eq_getElem (by omega)
    have hmem : L[i]'(by omega) ∈ L := List.getElem_mem _
    generalize hg : L[i]'(by omega) = l at hil hmem
    have hll := hlen l hmem
    obtain ⟨H1, e1, h1, f1⟩ := h.may (L' := L.set i (trm l)) (P := fun H' => F_law21BlockKeeps.l3 (R m) s1 (pt id) (pt mid) s9 s36 s37 s38 (iv i) H = some (.nrm [s1, pt id, pt mid, s9, s36, s37, s38, iv ((i + 1 : Nat) : Int)], H')) fun om hM hfr => by
      obtain ⟨sl, q, g1, g2, g3, g4, g5, g6⟩ := hM.put (l' := trm l) hil
      have hpos : 0 < l.length := List.length_pos_iff.2 g3
      obtain ⟨sl', g7, g8⟩ := g2.trim (by simpa using g3)
      rw [List.length_map] at g7 g8
      have hdr : (l.map strv).drop (l.length - 1) = (trm l).map strv := by rw [trm, List.map_drop]
      rw [hdr] at g8
      have htn : trm l ≠ [] := by
        unfold trm
        intro e
        have := congrArg List.length e
        simp at this
        omega
      obtain ⟨H2, om', g9, g10, g11⟩ := g6 sl' H q g8 htn (.refl _ _)
      refine ⟨H2, om', ?_, g10, g11⟩
      have w2 : IntKind.i64.wrap (((l.map strv).length : Int) - 1) = ((l.length - 1 : Nat) : Int) := by
        rw [List.length_map, w64 (by omega) (by omega)]; omega
      unfold F_law21BlockKeeps.l3
      rw [bind_eq lss_r, cnd_b, if_pos (by simpa using hlt), bind_eq (mayA (by omega)), bind_eq g1, bind_eq (mayA (by omega)), bind_eq g1, bind_eq g2.rd.len, bind_eq sub_r, w2, bind_eq g7, bind_eq (mayA (by omega)), bind_eq g9, bind_eq add_r, w1]
      rfl
    obtain ⟨H2, e2, h2, f2⟩ := trim_do (m := m) (s1 := s1) (s9 := s9) (s36 := s36) (s37 := s37) (s38 := s38) k (i + 1) (by omega) (by omega) (by simpa using hL) (fun l' hl' => by
      rcases List.mem_or_eq_of_mem_set hl' with h | rfl
      · exact hlen l' h
      · unfold trm; rw [List.length_drop]; omega) h1
    refine ⟨H2, (loop_next (by simp only [List.headD_cons, List.tail_cons]; exact e1)).trans e2, ?_, fun j hj => by rw [f2 j hj, f1 j hj]⟩
    have : (L.set i (trm l)).take (i + 1) ++ ((L.set i (trm l)).drop (i + 1)).map trm = L.take i ++ (L.drop i).map trm := by
      rw [List.drop_set_of_lt (by omega), List.drop_eq_getElem_cons (show i < L.length by omega), hg, List.map_cons, List.take_add_one, List.take_set_of_le (Nat.le_refl _), List.getElem?_set_self (by omega)]
      simp
    rw [this] at h2
    exact h2

end Go.Proofs.Ytahocinoohdagaa.A
