/- An act, of the device and of the document's. -/
import Derived.Test.YtahocinoohdagaaBlkCopy
namespace Go.Proofs.Ytahocinoohdagaa.A
set_option linter.unusedVariables false
set_option linter.unusedSimpArgs false
open Go.Proofs Go.Proofs.Ytahocinoohdagaa

theorem Step.newset {own own' : List Nat} {H X : Heap} {c : Nat} {o : AObj} (h : Step own H own' X) (hc : H.length ≤ c) : Step own H own' (X.set c o) :=
  ⟨by simpa using h.len, fun j hj hn => by rw [List.getElem?_set_ne (by omega)]; exact h.keep j hj hn, h.own⟩
theorem Step.hle_r {own own' : List Nat} {H X X' : Heap} (h : Step own H own' X) (hl : HLe X X') : Step own H own' X' :=
  ⟨Nat.le_trans h.len hl.len, fun j hj hn => by rw [hl.step.keep j (Nat.lt_of_lt_of_le hj h.len) (by simp)]; exact h.keep j hj hn, h.own⟩

section
variable {H X : Heap} {id n : Nat} {d : DevS} {w : RS} {sl : Value} {own bs : List Nat}

structure Both (X : Heap) (id : Nat) (d : DevS) (own bs : List Nat) (sl : Value) (w : RS) : Prop where
  dev : Dev X id d own bs
  ref : Ref X sl w
  sep : ∀ j, own1 sl = some j → j ∉ own
  rel : BRel d w

theorem Both.hle {X' : Heap} (h : Both X id d own bs sl w) (hl : HLe X X') : Both X' id d own bs sl w := ⟨h.dev.hle hl, h.ref.mono hl, h.sep, h.rel⟩
theorem Both.bset {c : Nat} {o : AObj} (h : Both X id d own bs sl w) (hc : c ∉ own) (hb : c ∉ bs) (hs : own1 sl ≠ some c) : Both (X.set c o) id d own bs sl w := by
  have hk : ∀ j, j ≠ c → (X.set c o)[j]? = X[j]? := fun j hj => List.getElem?_set_ne (Ne.symm hj)
  refine ⟨h.dev.keep (by simp) fun j hj => hk j ?_, ⟨h.ref.row.keep fun j hj => hk j fun e => hs (e ▸ hj), h.ref.few, h.ref.sz, h.ref.f⟩, h.sep, h.rel⟩
  rintro rfl
  exact hj.elim hc hb

/-- The document's goes on, then the device. -/
theorem Both.both {X1 X2 : Heap} {d' : DevS} {w' : RS} {sl' : Value} {own' bs' : List Nat} (h : Both X id d own bs sl w) (hr : Ref X1 sl' w') (hl : HLe X X1) (ho : ∀ j, own1 sl' = some j → own1 sl = some j ∨ X.length ≤ j) (hd : Dev X2 id d' own' bs') (hs : Step own X1 own' X2) (hrel : BRel d' w') : Both X2 id d' own' bs' sl' w' := by
  have hlt := h.dev.lt
  have hn : ∀ j, own1 sl' = some j → j ∉ own := fun j hj hm => by
    rcases ho j hj with h1 | h1
    · exact h.sep j h1 hm
    · have := hlt j hm; omega
  refine ⟨hd, ⟨hr.row.keep fun j hj => hs.keep j (hr.row.own_lt hj) (hn j hj), hr.few, hr.sz, hr.f⟩, fun j hj hm => ?_, hrel⟩
  rcases hs.own j hm with h1 | h1
  · exact hn j hj h1
  · have := hr.row.own_lt hj; omega

/-- The answer. -/
theorem do_fin {c : Nat} {cs : List Value} {ok : Bool} (h : Both X id d own bs sl w) (hc : X[c]? = some (.cells cs 1 false false)) (hl : cs.length = 5) (hco : c ∉ own) (hcb : c ∉ bs) (hs : own1 sl ≠ some c) :
    (bind (stA 5 (pt c) (w.val sl)) (fun _ => bind (ldA 5 (pt c)) fun v => ret (Value.tuple #[v, .bool ok])) : M Value) X = some (.tuple #[w.val sl, .bool ok], X.set c (.cells (w.cells sl) 1 false false)) ∧ Both (X.set c (.cells (w.cells sl) 1 false false)) id d own bs sl w :=
  ⟨out5 (K := fun v => ret (Value.tuple #[v, .bool ok])) hc hl rfl h.ref.all, h.bset hco hcb hs⟩

/-- Each byte one more. -/
theorem inc_do {s6 s9 s10 s11 v : Value} : ∀ (t k : Nat) {X : Heap} {vs : List Value} {q : List Nat}, vs.length - k = t → k ≤ vs.length → vs.length ≤ 1000 → RowS X v vs q → (∀ x ∈ vs, ∃ b : Int, x = .int .u8 b) →
    ∃ X', loopM (fun vs => F_law21Do.l1 (R n) (vs.headD undef) (vs.tail.headD undef) (vs.tail.tail.headD undef) (vs.tail.tail.tail.headD undef) (vs.tail.tail.tail.tail.headD undef) (vs.tail.tail.tail.tail.tail.headD undef) (vs.tail.tail.tail.tail.tail.tail.headD undef)) [s6, v, s9, s10, s11, iv vs.length, iv k] X = some (.ext 1 [s6, s9, s10, s11], X') ∧ Step q X q X'
  | 0, k, X, vs, q, ht, hk, hv, hr, hx => by
    have : k = vs.length := by omega
    subst this
    refine ⟨X, loop_ext ?_, .refl _ _⟩
    simp only [F_law21Do.l1, List.headD_cons, List.tail_cons]
    rw [bind_eq lss_r, cnd_b, if_neg (by simp)]
    rfl
  | t + 1, k, X, vs, q, ht, hk, hv, hr, hx => by
    have hlt : (k : Int) < vs.length := by omega
    have w1 : IntKind.i64.wrap ((k : Int) + 1) = ((k + 1 : Nat) : Int) := by rw [w64 (by omega) (by omega)]; simp
    have hg := List.getElem?_eq_getElem (show k < vs.length by omega)
    obtain ⟨b, hb⟩ := hx _ (List.getElem_mem (show k < vs.length by omega))
    rw [hb] at hg
    obtain ⟨p, p1, p2⟩ := hr.rd.ld hg
    obtain ⟨i, o, X1, a1, a2, a3, a4, _⟩ := hr.put (u := .int .u8 (IntKind.u8.wrap (b + 1))) hg rfl .i64
    have hp : p = pa i o := by
      have := (p1 X).symm.trans (a1 X)
      simpa using this
    subst hp
    obtain ⟨X', e, r⟩ := inc_do (s6 := s6) (s9 := s9) (s10 := s10) (s11 := s11) t (k + 1) (X := X1) (vs := vs.set k (.int .u8 (IntKind.u8.wrap (b + 1)))) (by simp; omega) (by simp; omega) (by simpa using hv) a3 (fun x hx' => by
      rcases List.mem_or_eq_of_mem_set hx' with h | h
      · exact hx x h
      · exact ⟨_, h⟩)
    rw [List.length_set] at e
    refine ⟨X', (loop_next ?_).trans e, a4.trans r⟩
    simp only [List.headD_cons, List.tail_cons]
    unfold F_law21Do.l1
    rw [bind_eq lss_r, cnd_b, if_pos (by simpa using hlt), bind_eq (p1 X), bind_eq p2, bind_eq add_r, bind_eq (a1 X), bind_eq a2, bind_eq add_r, w1]
    rfl

theorem put_len (w : RS) (i : Int) (b : List UInt8) : (w.put i b).1.l.length ≤ w.l.length + 1 := by
  have hc : ∀ m, (w.cut m).l.length ≤ w.l.length := fun m => by
    unfold RS.cut
    split
    · exact Nat.le_refl _
    · exact rcutL_len m _ 0
  have hb : w.burn.1.l.length ≤ w.l.length := by
    unfold RS.burn
    split
    · exact Nat.le_refl _
    · split
      · exact hc _
      · exact Nat.le_refl _
  unfold RS.put
  split
  · exact Nat.le_succ _
  · split
    · exact Nat.le_succ _
    · split
      · exact Nat.le_succ _
      · split
        · simp
        · omega

theorem flush_len (w : RS) : w.flush.1.l.length ≤ w.l.length := by
  have hb : w.burn.1.l.length ≤ w.l.length := by
    unfold RS.burn
    split
    · exact Nat.le_refl _
    · split
      · unfold RS.cut
        split
        · exact Nat.le_refl _
        · exact rcutL_len _ _ 0
      · exact Nat.le_refl _
  unfold RS.flush
  split
  · exact Nat.le_refl _
  · split
    · simp
    · exact hb

theorem BRel.wl (h : BRel d w) : d.wait.length ≤ w.l.length := by
  rw [← h.waits]
  exact List.length_filter_le _ _

end

end Go.Proofs.Ytahocinoohdagaa.A
