/- The net: what its functions do. -/
import Derived.Test.YtkjoaediojdodaaA26
import Derived.Test.YtkjoaediojdodaaFnet
namespace Go.Proofs.Ytkjoaediojdodaa.A
set_option linter.unusedVariables false
set_option linter.unusedSimpArgs false
open Go.Proofs Go.Proofs.Ytkjoaediojdodaa

/-! copies of bytes, and rows without one element -/

theorem RowS.oneCell {H : Heap} {sl : Value} {vs : List Value} {own : List Nat} (h : RowS H sl vs own) : oneCell sl = true ∧ sl.cells = #[sl] := by
  rcases h with ⟨_, _, rfl⟩ | ⟨_, _, _, rfl, _, _⟩ <;> exact ⟨rfl, rfl⟩

theorem r_clone {n : Nat} {H : Heap} {b : Value} {p : List UInt8} (hb : Sl H b (u8s p)) (hp : p.length ≤ 140737488355328) :
    ∃ v q H', R (n + 1) n_bytesClone [b] H = some (v, H') ∧ RowS H' v (u8s p) q ∧ HLe H H' ∧ ∀ j ∈ q, H.length ≤ j := by
  rw [R, run_bytesClone rfl]
  rcases hb.isnil (H' := H) with ⟨rfl, hp0, e⟩ | e
  · refine ⟨.slice none 0 0, [], H, ?_, by rw [hp0]; exact RowS.nil, .refl _, by simp⟩
    unfold F_bytesClone
    rw [bind_eq e]
    rfl
  · have hb2 : Sl (H ++ [.cells [] 1 false false]) b (u8s p) := hb.mono (.app _ _)
    obtain ⟨sl', H', own', e2, hr, hle, ho⟩ := row_of (b := 1) hb2 (by rw [u8s_length]; omega) (by rw [u8s_length]; omega) (s := .slice (some ⟨H.length, 0, none⟩) 0 0) (.inr ⟨H.length, false, rfl, app_new, rfl⟩)
    refine ⟨sl', own', H', ?_, hr, (HLe.app _ _).trans hle, fun j hj => ?_⟩
    · unfold F_bytesClone
      rw [bind_eq e]
      simp only [cnd, cond_false]
      rw [bind_eq bsl0, bind_eq e2]
      rfl
    · rcases ho j hj with h | ⟨_, h⟩
      · simp at h; omega
      · cases h; exact Nat.le_refl _

theorem slv_row {H : Heap} {sid o n c es : Nat} {cs : List Value} {g ro : Bool} {lo hi mx : Option Value} (hid : H[sid]? = some (.cells cs es g ro)) {l h m : Nat} (hl : bnd lo 0 = some l) (hh : bnd hi n = some h) (hm : bnd mx c = some m) (h1 : l ≤ h) (h2 : h ≤ m) (h3 : m ≤ c) (h4 : l < m) :
    slv es (.slice (some ⟨sid, o, none⟩) n c) lo hi mx H = some (.slice (some ⟨sid, o + l * es, none⟩) (h - l) (m - l), H) := by
  simp only [slv, hid, hl, hh, hm]
  rw [if_pos ⟨trivial, h1, h2, h3⟩, if_neg (by omega)]

theorem slv_end {H : Heap} {sid o n c es : Nat} {cs : List Value} {g ro : Bool} {lo hi : Option Value} (hid : H[sid]? = some (.cells cs es g ro)) {l h : Nat} (hl : bnd lo 0 = some l) (hh : bnd hi n = some h) (h1 : l ≤ h) (h2 : h ≤ c) (h4 : l = c) :
    ∃ j, slv es (.slice (some ⟨sid, o, none⟩) n c) lo hi none H = some (.slice (some ⟨sid, o, some j⟩) 0 0, H) := by
  refine ⟨bif g then 1 else 0, ?_⟩
  have hb : bnd none c = some c := rfl
  simp only [slv, hid, hl, hh, hb]
  rw [if_pos ⟨trivial, h1, h2, Nat.le_refl _⟩, if_pos h4.symm]

theorem bnd_nat {i d : Nat} : bnd (some (iv i)) d = some i := by simp [bnd]

theorem eraseIdx_split {α : Type} {l : List α} {k : Nat} : l.eraseIdx k = l.take k ++ l.drop (k + 1) := List.eraseIdx_eq_take_drop_succ l k

theorem r_delete {m : Nat} {H : Heap} {sl : Value} {vs : List Value} {own : List Nat} (h : RowS H sl vs own) {k : Nat} (hk : k < vs.length) :
    ∃ sl' H', R (m + 1) n_slicesDeletebyteByte [sl, iv k, iv ((k + 1 : Nat) : Int)] H = some (sl', H') ∧ RowS H' sl' (vs.eraseIdx k) own ∧ Step own H own H' ∧ H'.length = H.length := by
  rcases h with ⟨rfl, rfl, rfl⟩ | ⟨sid, rest, g, rfl, rfl, hid⟩
  · simp at hk
  · have hlt := get_lt hid
    generalize hn : vs.length = n at hk
    generalize hc : n + rest.length = c
    have a1 := slv_row (o := 0) (n := n) (c := c) (lo := some (iv k)) (hi := some (iv ((k + 1 : Nat) : Int))) (mx := some (iv n)) hid bnd_nat bnd_nat bnd_nat (by omega) (by omega) (by omega) (by omega)
    have a2 := slv_row (o := 0) (n := n) (c := c) (lo := none) (hi := some (iv k)) (mx := none) hid rfl bnd_nat rfl (by omega) (by omega) (by omega) (by omega)
    -- what stands behind it
    obtain ⟨x, a3, a4, a4'⟩ : ∃ x, slv 1 (.slice (some ⟨sid, 0, none⟩) n c) (some (iv ((k + 1 : Nat) : Int))) none none H = some (x, H) ∧ fcells 1 H x = some (vs.drop (k + 1)) ∧ flen x = n - (k + 1) := by
      by_cases hkc : k + 1 = c
      · obtain ⟨j, e⟩ := slv_end (o := 0) (n := n) (c := c) (lo := some (iv ((k + 1 : Nat) : Int))) (hi := none) hid bnd_nat rfl (by omega) (by omega) hkc
        refine ⟨_, e, ?_, by simp [flen]; omega⟩
        rw [List.drop_eq_nil_of_le (by omega)]; rfl
      · have e := slv_row (o := 0) (n := n) (c := c) (lo := some (iv ((k + 1 : Nat) : Int))) (hi := none) (mx := none) hid bnd_nat rfl rfl (by omega) (by omega) (by omega) (by omega)
        refine ⟨_, e, ?_, rfl⟩
        simp only [fcells, hid]
        rw [if_pos (by simp; omega)]
        simp only [Nat.mul_one, Nat.zero_add]
        rw [List.drop_append_of_le_length (by omega), List.take_append_of_le_length (by simp; omega), List.take_of_length_le (by simp; omega)]
    -- it is moved ahead
    obtain ⟨H1, a5, a6, a7⟩ : ∃ H1, app 1 24 (.slice (some ⟨sid, 0, none⟩) k c) x H = some (.slice (some ⟨sid, 0, none⟩) (n - 1) c, H1) ∧ H1[sid]? = some (.cells (splice (vs ++ rest) (vs.drop (k + 1)) k) 1 g false) ∧ (H1 = H ∨ ∃ o, H1 = H.set sid o) := by
      by_cases h0 : n = k + 1
      · refine ⟨H, ?_, ?_, .inl rfl⟩
        · unfold app
          rw [a4]
          simp only [a4', hid, if_true]
          rw [if_pos (by omega), if_pos (by omega)]
          congr 3; omega
        · rw [hid, List.drop_eq_nil_of_le (by omega), splice_nil]
      · refine ⟨_, ?_, set_get hid, .inr ⟨_, rfl⟩⟩
        unfold app
        rw [a4]
        simp only [a4', hid, if_true]
        rw [if_pos (by omega), if_neg (by omega), if_pos ⟨trivial, by simp; omega⟩]
        simp only [Nat.mul_one, Nat.zero_add]
        congr 3; omega
    have a8 := slv_row (o := 0) (n := n - 1) (c := c) (lo := some (iv ((n - 1 : Nat) : Int))) (hi := some (iv n)) (mx := none) a6 bnd_nat bnd_nat rfl (by omega) (by omega) (by omega) (by omega)
    have hsl : (splice (vs ++ rest) (vs.drop (k + 1)) k).length = n + rest.length := by
      rw [splice_length (by simp; omega)]; simp; omega
    have a9 : clr (.slice none 0 0) 1 (.slice (some ⟨sid, 0 + (n - 1) * 1, none⟩) (n - (n - 1)) (c - (n - 1))) H1 = some (.tuple #[], H1.set sid (.cells (vs.eraseIdx k ++ (.slice none 0 0 :: rest)) 1 g false)) := by
      unfold clr
      simp only [a6]
      rw [if_neg (by omega), if_pos ⟨trivial, by rw [hsl]; omega⟩]
      congr 3
      have hr : reps (n - (n - 1)) (Value.slice none 0 0).cells.toList = [.slice none 0 0] := by
        rw [show n - (n - 1) = 1 by omega]; rfl
      rw [hr, eraseIdx_split]
      unfold splice
      have ht : vs.take k ++ vs.drop (k + 1) = vs.eraseIdx k := eraseIdx_split.symm
      have hl1 : (vs.take k ++ vs.drop (k + 1)).length = n - 1 := by simp; omega
      rw [List.take_append_of_le_length (show k ≤ vs.length by omega)]
      simp only [Nat.zero_add, Nat.mul_one]
      rw [List.take_left' hl1]
      have hd : List.drop (n - 1 + [Value.slice none 0 0].length) (vs.take k ++ vs.drop (k + 1) ++ List.drop (k + (vs.drop (k + 1)).length) (vs ++ rest)) = rest := by
        rw [List.drop_append, hl1, List.drop_eq_nil_of_le (by rw [hl1]; simp), List.nil_append, List.drop_drop]
        rw [show k + (vs.drop (k + 1)).length + (n - 1 + [Value.slice none 0 0].length - (n - 1)) = vs.length by simp; omega]
        simp
      rw [hd]; simp
    have hlen1 : H1.length = H.length := by rcases a7 with rfl | ⟨o, rfl⟩ <;> simp
    refine ⟨.slice (some ⟨sid, 0, none⟩) (n - 1) c, H1.set sid (.cells (vs.eraseIdx k ++ (.slice none 0 0 :: rest)) 1 g false), ?_, .inr ⟨sid, .slice none 0 0 :: rest, g, ?_, rfl, set_get a6⟩, ⟨by simp [hlen1], fun j hj hn => ?_, fun j hj => .inl hj⟩, by simp [hlen1]⟩
    · rw [R, run_slicesDeletebyteByte rfl]
      have hne : ¬ ((k : Int) = ((k + 1 : Nat) : Int)) := by omega
      have a2' : slv 1 (.slice (some ⟨sid, 0, none⟩) n c) none (some (iv k)) none H = some (.slice (some ⟨sid, 0, none⟩) k c, H) := by rw [a2]; simp
      unfold F_slicesDeletebyteByte
      rw [bind_eq lenS_r, bind_eq a1, bind_eq eql_r]
      simp only [beq_eq_false_iff_ne.2 hne, cnd, cond_false]
      rw [bind_eq lenS_r, bind_eq a2', bind_eq a3, bind_eq a5, bind_eq lenS_r, bind_eq a8, bind_eq a9]
      rfl
    · have : (vs.eraseIdx k).length = n - 1 := by rw [List.length_eraseIdx_of_lt (by omega)]; omega
      rw [this]
      congr 1
      simp; omega
    · have hjs : sid ≠ j := fun e => hn (by simp [e])
      rw [List.getElem?_set_ne hjs]
      rcases a7 with rfl | ⟨o, rfl⟩
      · rfl
      · exact List.getElem?_set_ne hjs

end Go.Proofs.Ytkjoaediojdodaa.A
