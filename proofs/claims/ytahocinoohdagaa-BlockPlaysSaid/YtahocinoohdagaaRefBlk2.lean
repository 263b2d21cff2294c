/- The document's device: cut, fuse, put, flush. -/
import Derived.Test.YtahocinoohdagaaRefBlk
namespace Go.Proofs.Ytahocinoohdagaa.A
set_option linter.unusedVariables false
set_option linter.unusedSimpArgs false
open Go.Proofs Go.Proofs.Ytahocinoohdagaa

theorem SlN.own_lt {H : Heap} {es : Nat} {sl : Value} {rows : List (List Value)} (h : SlN es H sl rows) {j : Nat} (hj : own1 sl = some j) : j < H.length := by
  obtain ⟨a, c, rfl, _, hfc, _⟩ := h
  unfold own1 at hj
  split at hj
  · rename_i id o n' c' e'
    cases e'
    cases hj
    unfold fcells at hfc
    simp only at hfc
    split at hfc
    · rename_i hg; exact get_lt hg
    · cases hfc
  · cases hj

/-- One element more, in a row of one's own. -/
theorem app_one {H0 X : Heap} {s5 : Value} {rows : List (List Value)} {own : List Nat} {r : List Value} (hr : RowN 3 X s5 rows own) (hle : HLe H0 X) (ho : ∀ j ∈ own, H0.length ≤ j) (h3 : r.length = 3) (h1 : r.all oneCell = true) (hb : rows.length ≤ 100000) :
    ∃ v X1 s5' X' own', bsl 3 1 (.agg #[.int .i64 0, .string ⟨#[]⟩, .bool false]) [(0, 3, .agg r.toArray)] X = some (v, X1) ∧ app 3 32 s5 v X1 = some (s5', X') ∧ RowN 3 X' s5' (rows ++ [r]) own' ∧ HLe H0 X' ∧ ∀ j ∈ own', H0.length ≤ j := by
  have e1 := bsl_a (es := 3) (z := .agg #[.int .i64 0, .string ⟨#[]⟩, .bool false]) (H := X) rfl h3 h1
  have hx : SlN 3 (X ++ [.cells r 3 false false]) (.slice (some ⟨X.length, 0, none⟩) 1 1) [r] := SlN.whole (rows := [r]) (e := 3) (g := false) (ro := false) (by rw [List.flatten_cons, List.flatten_nil, List.append_nil]; exact app_new) (by simp [h3])
  have le1 : HLe X (X ++ [.cells r 3 false false]) := .app _ _
  obtain ⟨s5', X', own', e2, r2, s2⟩ := (hr.step le1.step (by simp)).push (b := 32) hx h3 (by omega) (by omega)
  obtain ⟨k1, k2⟩ := (hle.trans le1).more s2 ho
  exact ⟨_, _, s5', X', own', e1, e2, r2, k1, k2⟩

theorem wcell_ok (x : RW) : (wcell x).length = 3 ∧ (wcell x).all oneCell = true := ⟨rfl, rfl⟩

/-- What is answered: five cells, put into a variable of the answer's and read again. -/
theorem out5 {β : Type} {K : Value → M β} {X : Heap} {c es : Nat} {cs vs : List Value} {g : Bool} (hc : X[c]? = some (.cells cs es g false)) (hl : cs.length = 5) (hv : vs.length = 5) (h1 : vs.all oneCell = true) :
    bind (stA 5 (pt c) (.agg vs.toArray)) (fun _ => bind (ldA 5 (pt c)) K) X = K (.agg vs.toArray) (X.set c (.cells vs es g false)) := by
  rw [bind_eq (stA_at (n := 5) hc hl hv h1)]
  exact bind_eq (ldA_at (n := 5) (set_get hc) hv)

section
variable {H H' : Heap} {sl : Value} {w : RS} {n : Nat}

theorem cut_do {H0 : Heap} {m : Nat} (hm : m < 18446744073709551616) {c2 c4 : Value} (h : Ref H0 sl w) : ∀ (t k kk : Nat) {acc : List RW} {s5 : Value} {own : List Nat} {X : Heap}, w.l.length - k = t → k ≤ w.l.length → kk ≤ k → acc.length ≤ k → HLe H0 X → RowN 3 X s5 (acc.map wcell) own → (∀ j ∈ own, H0.length ≤ j) →
    ∃ X' s5' own', loopM (fun vs => F_ref21Cut.l1 (R (n + 1)) (vs.headD undef) (vs.tail.headD undef) (vs.tail.tail.headD undef) (vs.tail.tail.tail.headD undef) (vs.tail.tail.tail.tail.headD undef) (vs.tail.tail.tail.tail.tail.headD undef) (vs.tail.tail.tail.tail.tail.tail.headD undef) (vs.tail.tail.tail.tail.tail.tail.tail.headD undef)) [.int .u64 m, c2, c4, s5, iv kk, sl, iv w.l.length, iv k] X = some (.ext 0 [c2, c4, s5'], X') ∧
      HLe H0 X' ∧ RowN 3 X' s5' ((acc ++ rcutL m kk (w.l.drop k)).map wcell) own' ∧ ∀ j ∈ own', H0.length ≤ j
  | 0, k, kk, acc, s5, own, X, ht, hk, hkk, hacc, hle, hr, ho => by
    have : k = w.l.length := by omega
    subst this
    refine ⟨X, s5, own, loop_ext ?_, hle, ?_, ho⟩
    · simp only [F_ref21Cut.l1, List.headD_cons, List.tail_cons]
      rw [bind_eq lss_r, cnd_b, if_neg (by simp)]
      rfl
    · rw [List.drop_length, rcutL, List.append_nil]; exact hr
  | t + 1, k, kk, acc, s5, own, X, ht, hk, hkk, hacc, hle, hr, ho => by
    have hkl : k < w.l.length := by omega
    have hlt : (k : Int) < w.l.length := by omega
    have hfew := h.few
    have w1 : IntKind.i64.wrap ((k : Int) + 1) = ((k + 1 : Nat) : Int) := by rw [w64 (by omega) (by omega)]; simp
    have w2 : IntKind.i64.wrap ((kk : Int) + 1) = ((kk + 1 : Nat) : Int) := by rw [w64 (by omega) (by omega)]; simp
    have hx := List.getElem?_eq_getElem hkl
    have hd := List.drop_eq_getElem_cons hkl
    generalize w.l[k] = x at hx hd
    generalize hX1 : X ++ [AObj.cells (wcell x) 1 false false] = X1
    have le1 : HLe X X1 := by rw [← hX1]; exact .app _ _
    have hc : X1[X.length]? = some (.cells (wcell x) 1 false false) := by rw [← hX1]; exact app_new
    have l0 : ld1 (pa X.length 0) X1 = some (iv x.i, X1) := ld1_at hc rfl
    have l1 : ld1 (pa X.length 1) X1 = some (strv x.b, X1) := ld1_at hc rfl
    have l2 : ld1 (pa X.length 2) X1 = some (.bool x.k, X1) := ld1_at hc rfl
    have lA : ldA 3 (pt X.length) X1 = some (.agg (wcell x).toArray, X1) := ldA_at hc rfl
    have hr1 := hr.step le1.step (by simp)
    have hle1 := hle.trans le1
    cases hxk : x.k
    · rw [hxk] at l2
      have eb := r_refBit (n := n) (m := m) (k := kk) hm X1
      cases hb : cbit m kk
      · rw [hb] at eb
        obtain ⟨X', s5', own', e, r⟩ := cut_do hm (c2 := c2) (c4 := c4) h t (k + 1) (kk + 1) (acc := acc) (by omega) (by omega) (by omega) (by omega) hle1 hr1 ho
        refine ⟨X', s5', own', (loop_next (H' := X1) (vs' := [.int .u64 m, c2, c4, s5, iv ((kk + 1 : Nat) : Int), sl, iv w.l.length, iv ((k + 1 : Nat) : Int)]) ?_).trans e, ?_⟩
        · simp only [List.headD_cons, List.tail_cons]
          unfold F_ref21Cut.l1
          rw [bind_eq lss_r, cnd_b, if_pos (by simpa using hlt)]
          refine (jn_nrm (vs := [.int .u64 m, c2, c4, s5, iv ((kk + 1 : Nat) : Int), sl, iv w.l.length, iv k]) (H' := X1) ?_).trans ?_
          · rw [(h.mono hle).fetch hx, hX1, bind_eq fa_z, bind_eq l2, cnd_b, if_neg (by simp), bind_eq eb]
            refine (jn_nrm (vs := [.int .u64 m, c2, c4, s5, iv kk, sl, iv w.l.length, iv k]) (H' := X1) rfl).trans ?_
            simp only [List.headD_cons, List.tail_cons]
            rw [bind_eq add_r, w2]
            rfl
          · simp only [List.headD_cons, List.tail_cons]
            rw [bind_eq add_r, w1]
            rfl
        · rw [hd, rcutL, if_neg (by simp [hxk]), if_neg (by simp [hb])]
          exact r
      · rw [hb] at eb
        obtain ⟨v, X2, s6, X3, own3, e2, e3, r3, le3, o3⟩ := app_one (r := wcell { x with k := true }) hr1 hle1 ho rfl rfl (by simp; omega)
        have hmap : acc.map wcell ++ [wcell { x with k := true }] = (acc ++ [{ x with k := true }]).map wcell := by simp
        rw [hmap] at r3
        obtain ⟨X', s5', own', e, r⟩ := cut_do hm (c2 := c2) (c4 := c4) h t (k + 1) (kk + 1) (acc := acc ++ [{ x with k := true }]) (by omega) (by omega) (by omega) (by simp; omega) le3 r3 o3
        refine ⟨X', s5', own', (loop_next (H' := X3) (vs' := [.int .u64 m, c2, c4, s6, iv ((kk + 1 : Nat) : Int), sl, iv w.l.length, iv ((k + 1 : Nat) : Int)]) ?_).trans e, ?_⟩
        · simp only [List.headD_cons, List.tail_cons]
          unfold F_ref21Cut.l1
          rw [bind_eq lss_r, cnd_b, if_pos (by simpa using hlt)]
          have e4 : bld (.agg #[.int .i64 0, .string ⟨#[]⟩, .bool false]) [(0, 1, iv x.i), (1, 1, strv x.b), (2, 1, (Value.bool true))] X1 = some (.agg (wcell { x with k := true }).toArray, X1) := by
            simp [bld, bldC, Value.cells, isTup, splice, strv, wcell]
          refine (jn_nrm (vs := [.int .u64 m, c2, c4, s6, iv ((kk + 1 : Nat) : Int), sl, iv w.l.length, iv k]) (H' := X3) ?_).trans ?_
          · rw [(h.mono hle).fetch hx, hX1, bind_eq fa_z, bind_eq l2, cnd_b, if_neg (by simp), bind_eq eb]
            refine (jn_nrm (vs := [.int .u64 m, c2, c4, s6, iv kk, sl, iv w.l.length, iv k]) (H' := X3) ?_).trans ?_
            · rw [cnd_b, if_pos rfl, bind_eq fa_z, bind_eq l0, bind_eq fa_z, bind_eq l1, bind_eq e4, bind_eq e2, bind_eq e3]
              rfl
            · simp only [List.headD_cons, List.tail_cons]
              rw [bind_eq add_r, w2]
              rfl
          · simp only [List.headD_cons, List.tail_cons]
            rw [bind_eq add_r, w1]
            rfl
        · rw [hd, rcutL, if_neg (by simp [hxk]), if_pos hb]
          have : (acc ++ [{ x with k := true }] ++ rcutL m (kk + 1) (w.l.drop (k + 1))) = acc ++ { x with k := true } :: rcutL m (kk + 1) (w.l.drop (k + 1)) := by simp
          rw [this] at r
          exact r
    · rw [hxk] at l2
      obtain ⟨v, X2, s6, X3, own3, e2, e3, r3, le3, o3⟩ := app_one (r := wcell x) hr1 hle1 ho rfl rfl (by simp; omega)
      have hmap : acc.map wcell ++ [wcell x] = (acc ++ [x]).map wcell := by simp
      rw [hmap] at r3
      obtain ⟨X', s5', own', e, r⟩ := cut_do hm (c2 := c2) (c4 := c4) h t (k + 1) kk (acc := acc ++ [x]) (by omega) (by omega) (by omega) (by simp; omega) le3 r3 o3
      refine ⟨X', s5', own', (loop_next (H' := X3) (vs' := [.int .u64 m, c2, c4, s6, iv kk, sl, iv w.l.length, iv ((k + 1 : Nat) : Int)]) ?_).trans e, ?_⟩
      · simp only [List.headD_cons, List.tail_cons]
        unfold F_ref21Cut.l1
        rw [bind_eq lss_r, cnd_b, if_pos (by simpa using hlt)]
        refine (jn_nrm (vs := [.int .u64 m, c2, c4, s6, iv kk, sl, iv w.l.length, iv k]) (H' := X3) ?_).trans ?_
        · rw [(h.mono hle).fetch hx, hX1, bind_eq fa_z, bind_eq l2, cnd_b, if_pos rfl, bind_eq lA, bind_eq e2, bind_eq e3]
          rfl
        · simp only [List.headD_cons, List.tail_cons]
          rw [bind_eq add_r, w1]
          rfl
      · rw [hd, rcutL, if_pos hxk]
        have : (acc ++ [x] ++ rcutL m kk (w.l.drop (k + 1))) = acc ++ x :: rcutL m kk (w.l.drop (k + 1)) := by simp
        rw [this] at r
        exact r

theorem rcutL_len (m : Nat) : ∀ (l : List RW) (k : Nat), (rcutL m k l).length ≤ l.length
  | [], _ => Nat.le_refl _
  | x :: l, k => by
    simp only [rcutL]
    have h1 := rcutL_len m l k
    have h2 := rcutL_len m l (k + 1)
    split
    · simp; omega
    · split
      · simp; omega
      · simp; omega

theorem rcutL_sz (m : Nat) : ∀ (l : List RW) (k : Nat), (∀ x ∈ l, x.b.length ≤ 128) → ∀ x ∈ rcutL m k l, x.b.length ≤ 128
  | [], _, _, x, hx => by cases hx
  | y :: l, k, h, x, hx => by
    have hl : ∀ x ∈ l, x.b.length ≤ 128 := fun x hx => h x (by simp [hx])
    have hy := h y (by simp)
    simp only [rcutL] at hx
    split at hx
    · rcases List.mem_cons.1 hx with rfl | hx
      · exact hy
      · exact rcutL_sz m l k hl x hx
    · split at hx
      · rcases List.mem_cons.1 hx with rfl | hx
        · exact hy
        · exact rcutL_sz m l (k + 1) hl x hx
      · exact rcutL_sz m l (k + 1) hl x hx

abbrev zero5 : List Value := [.int .i64 0, .slice none 0 0, .bool false, .int .i64 0, .int .u64 0]

theorem alc_z (H : Heap) : alc 1 (.agg #[.int .i64 0, .slice none 0 0, .bool false, .int .i64 0, .int .u64 0]) H = some (pt H.length, H ++ [.cells zero5 1 false false]) := alc_a (vs := zero5) rfl

theorem r_refCut (h : Ref H sl w) {m : Nat} (hm : m < 18446744073709551616) : ∃ H' sl', R (n + 2) n_ref21Cut [w.val sl, .int .u64 m] H = some ((w.cut m).val sl', H') ∧ Ref H' sl' (w.cut m) ∧ HLe H H' ∧ ∀ j, own1 sl' = some j → own1 sl = some j ∨ H.length ≤ j := by
  have a1 := h.box
  have hall := h.all
  generalize hH1 : H ++ [AObj.cells (w.cells sl) 1 false false] = H1 at a1
  have le1 : HLe H H1 := by rw [← hH1]; exact .app _ _
  have l1 : H1.length = H.length + 1 := by rw [← hH1]; simp
  have hc1 : H1[H.length]? = some (.cells (w.cells sl) 1 false false) := by rw [← hH1]; exact app_new
  have a2 := alc_z H1
  generalize hH2 : H1 ++ [AObj.cells zero5 1 false false] = H2 at a2
  have le2 : HLe H1 H2 := by rw [← hH2]; exact .app _ _
  have l2 : H2.length = H.length + 2 := by rw [← hH2]; simp [l1]
  have hc2 : H2[H.length]? = some (.cells (w.cells sl) 1 false false) := le2 _ _ hc1
  have hc4 : H2[H1.length]? = some (.cells zero5 1 false false) := by rw [← hH2]; exact app_new
  have a3 : ld1 (pa H.length 2) H2 = some (.bool w.down, H2) := ld1_at hc2 rfl
  have le12 := le1.trans le2
  rw [R, run_ref21Cut rfl]
  unfold F_ref21Cut RS.cut
  rw [bind_eq a1, bind_eq a2, bind_eq fa_z, bind_eq a3]
  cases hd : w.down
  · have a4 : ld1 (pa H.length 1) H2 = some (sl, H2) := ld1_at hc2 rfl
    have h2 := h.mono le12
    obtain ⟨X, s5, own, e, hle, hr, ho⟩ := cut_do (n := n) hm (c2 := pt H.length) (c4 := pt H1.length) h2 w.l.length 0 0 (acc := []) (s5 := .slice none 0 0) (own := []) (X := H2) rfl (by omega) (by omega) (by simp) (.refl _) RowN.nil (by simp)
    rw [show ((0 : Nat) : Int) = 0 from rfl] at e
    rw [List.drop_zero, List.nil_append] at hr
    have lX := hle.len
    have x2 := hle _ _ hc2
    have x4 := hle _ _ hc4
    have f1 := st1_at (o := 1) (v := s5) x2 (by simp [RS.cells]) hr.one.1
    generalize hX1 : X.set H.length (.cells ((w.cells sl).set 1 s5) 1 false false) = X1 at f1
    have y1 : X1[H.length]? = some (.cells [iv w.n, s5, .bool w.down, iv w.fuse, .int .u64 w.mask] 1 false false) := by rw [← hX1]; exact set_get x2
    have f2 := st1_at (o := 2) (v := .bool true) y1 (by simp) rfl
    generalize hX2 : X1.set H.length (.cells ([iv w.n, s5, .bool w.down, iv w.fuse, .int .u64 w.mask].set 2 (.bool true)) 1 false false) = X2 at f2
    have y2 : X2[H.length]? = some (.cells [iv w.n, s5, .bool true, iv w.fuse, .int .u64 w.mask] 1 false false) := by rw [← hX2]; exact set_get y1
    have f3 := st1_at (o := 3) (v := iv (-1)) y2 (by simp) rfl
    generalize hX3 : X2.set H.length (.cells ([iv w.n, s5, .bool true, iv w.fuse, .int .u64 w.mask].set 3 (iv (-1))) 1 false false) = X3 at f3
    have y3 : X3[H.length]? = some (.cells [iv w.n, s5, .bool true, iv (-1), .int .u64 w.mask] 1 false false) := by rw [← hX3]; exact set_get y2
    have hne : ∀ j, j ≠ H.length → X3[j]? = X[j]? := fun j hj => by
      rw [← hX3, List.getElem?_set_ne (Ne.symm hj), ← hX2, List.getElem?_set_ne (Ne.symm hj), ← hX1, List.getElem?_set_ne (Ne.symm hj)]
    have y4 : X3[H1.length]? = some (.cells zero5 1 false false) := by rw [hne _ (by omega)]; exact x4
    have f4 := ldA_at (n := 5) y3 rfl
    have f5 := out5 (K := fun v => (ret v : M Value)) (vs := [iv w.n, s5, .bool true, iv (-1), .int .u64 w.mask]) y4 rfl rfl (by simp only [List.all_cons, hr.one.1]; rfl)
    refine ⟨X3.set H1.length (.cells [iv w.n, s5, .bool true, iv (-1), .int .u64 w.mask] 1 false false), s5, ?_, ⟨?_, ?_, ?_, by show (-1 : Int) ≤ _; omega⟩, fun j o hj => ?_, fun j hj => .inr (by have := ho j (by rw [hr.own1 hj]; simp); omega)⟩
    · rw [cnd_b, if_neg (by simp), bind_eq fa_z, bind_eq a4, bind_eq (h.len H2), jn_ext e, ext_hit0]
      simp only [List.headD_cons, List.tail_cons]
      rw [bind_eq fa_z, bind_eq f1, bind_eq fa_z, bind_eq f2, bind_eq fa_z, bind_eq f3, bind_eq f4, f5]
      rfl
    · rw [if_neg (by simp)]
      refine hr.rd.keep fun j hj => ?_
      have hj2 := ho j (by rw [hr.own1 hj]; simp)
      rw [List.getElem?_set_ne (by omega), hne j (by omega)]
    · have := rcutL_len m w.l 0
      have := h.few
      rw [if_neg (by simp)]
      show (rcutL m 0 w.l).length ≤ _
      omega
    · rw [if_neg (by simp)]
      exact rcutL_sz m w.l 0 h.sz
    · have := get_lt hj
      rw [List.getElem?_set_ne (by omega), hne j (by omega)]
      exact hle _ _ (le12 _ _ hj)
  · have f4 := ldA_at (n := 5) hc2 rfl
    have f5 := out5 (K := fun v => (ret v : M Value)) (vs := w.cells sl) hc4 rfl rfl hall
    refine ⟨H2.set H1.length (.cells (w.cells sl) 1 false false), sl, ?_, ⟨?_, by simpa using h.few, by simpa using h.sz, by simpa using h.f⟩, fun j o hj => ?_, fun j hj => .inl hj⟩
    · rw [cnd_b, if_pos rfl, bind_eq f4, f5]
      simp [ret, hd]
    · simp only [if_true]
      refine (h.mono le12).row.keep fun j hj => ?_
      have hjl := h.row.own_lt hj
      rw [List.getElem?_set_ne (by omega)]
    · have := get_lt hj
      rw [List.getElem?_set_ne (by omega)]
      exact le12 _ _ hj

end

end Go.Proofs.Ytahocinoohdagaa.A
