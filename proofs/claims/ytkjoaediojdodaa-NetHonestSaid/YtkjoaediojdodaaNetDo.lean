/- The law's 'do': both nets go on alike. -/
import Derived.Test.YtkjoaediojdodaaRefNet3
namespace Go.Proofs.Ytkjoaediojdodaa.A
set_option linter.unusedVariables false
set_option linter.unusedSimpArgs false
open Go.Proofs Go.Proofs.Ytkjoaediojdodaa

def putL (ps : List (List UInt8)) (p : List UInt8) : List (List UInt8) := if ps.length < 128 then ps ++ [p] else ps
def putK (ps : List (List UInt8)) (lost : Int) : Int := if ps.length < 128 then lost else lost + 1

theorem refPut_any {H : Heap} {n : Nat} {ps : List (List UInt8)} {lost : Int} {sl : Value} {ro : List Nat} (h : RowS H sl (ps.map strv) ro) (hl : ps.length ≤ 128) (hlb : 0 ≤ lost ∧ lost < 1000000000) (p : List UInt8) :
    ∃ sl1 ro1 H1, R (n + 1) n_ref30Put [.agg #[sl, iv lost], strv p] H = some (.tuple #[.agg #[sl1, iv (putK ps lost)], .bool (decide (ps.length < 128))], H1) ∧ RowS H1 sl1 ((putL ps p).map strv) ro1 ∧ HLe H H1 ∧ ∀ j ∈ ro1, j ∈ ro ∨ H.length ≤ j := by
  unfold putL putK
  by_cases hlt : ps.length < 128
  · obtain ⟨sl', H', own', e, r, k, o⟩ := r_refPut (n := n) (lost := lost) (p := p) h hlt
    rw [if_pos hlt, if_pos hlt, decide_eq_true hlt]
    exact ⟨sl', own', H', e, r, k, fun j hj => .inr (o j hj)⟩
  · obtain ⟨H', e, k⟩ := r_refPutNo (n := n) h hlt hlb (s := strv p)
    rw [if_neg hlt, if_neg hlt, decide_eq_false hlt]
    exact ⟨sl, ro, H', e, h.step k.step (by simp), k, fun j hj => .inl hj⟩

theorem put_any {H : Heap} {n id : Nat} {ps : List (List UInt8)} {lost : Int} {own : List Nat} (h : Net H id ps lost own) (hl : ps.length ≤ 128) (hlb : 0 ≤ lost ∧ lost < 1000000000) {b : Value} {p : List UInt8} (hb : Sl H b (u8s p)) (hp : p.length ≤ 100000) :
    ∃ H' own', R (n + 2) n_netNetPut [pt id, b] H = some (.bool (decide (ps.length < 128)), H') ∧ Net H' id (putL ps p) (putK ps lost) own' ∧ Step own H own' H' := by
  unfold putL putK
  by_cases hlt : ps.length < 128
  · obtain ⟨H', own', e, N, s⟩ := r_put (n := n) h hlt hb hp
    rw [if_pos hlt, if_pos hlt, decide_eq_true hlt]
    exact ⟨H', own', e, N, s⟩
  · obtain ⟨H', e, N, s⟩ := r_putNo (n := n) h hlt (b := b) (by omega)
    rw [if_neg hlt, if_neg hlt, decide_eq_false hlt]
    exact ⟨H', own, e, N, s⟩

/-- Bytes, whichever they are. -/
def Byts (ws : List Value) : Prop := ∀ i, i < ws.length → ∃ n, ws[i]? = some (.int .u8 n)

theorem u8s_byts (p : List UInt8) : Byts (u8s p) := fun i hi => ⟨_, by rw [u8s_length] at hi; exact u8s_get hi⟩

theorem Byts.set {ws : List Value} (h : Byts ws) (i : Nat) (n : Int) : Byts (ws.set i (.int .u8 n)) := by
  intro j hj
  rw [List.length_set] at hj
  by_cases e : i = j
  · subst e
    exact ⟨n, List.getElem?_set_self hj⟩
  · rw [List.getElem?_set_ne e]; exact h j hj

theorem bump_do {m L : Nat} {v s0 s4 s5 s6 s125 s126 : Value} {q : List Nat} (hL : L ≤ 100000) : ∀ (d i : Nat) {ws : List Value} {H : Heap}, L - i = d → i ≤ L → ws.length = L → Byts ws → RowS H v ws q →
    ∃ H' ws', loopM (fun vs => F_law30Do.l2 (R m) (vs.headD undef) (vs.tail.headD undef) (vs.tail.tail.headD undef) (vs.tail.tail.tail.headD undef) (vs.tail.tail.tail.tail.headD undef) (vs.tail.tail.tail.tail.tail.headD undef) (vs.tail.tail.tail.tail.tail.tail.headD undef) (vs.tail.tail.tail.tail.tail.tail.tail.headD undef) (vs.tail.tail.tail.tail.tail.tail.tail.tail.headD undef))
      [s0, s4, s5, s6, v, s125, s126, iv L, iv i] H = some (.ext 3 [s0, s4, s5, s6, s125, s126], H') ∧ RowS H' v ws' q ∧ Step q H q H' ∧ H'.length = H.length
  | 0, i, ws, H, hd, hi, hw, hby, hr => by
    have : i = L := by omega
    subst this
    refine ⟨H, ws, loop_ext ?_, hr, .refl _ _, rfl⟩
    simp [F_law30Do.l2, ↓bind_andk, andk_some, ↓jn_outk, outk_nrm, outk_ext, outk_ret, ↓cnd_b, ret_r, nilc_r, fa_r, ldOne_r, ldA_r, stOne_r, stA_r, rdk_r, rdkA_r, wrk_r, wrkA_r, alc_r, lenS_r, lenT_r, cvi_r, pick_r, not_r, mx_r, mn_r, ixa_r, ixaA_r, bld_r, add_r, sub_r, mul_r, quo_r, rem_r, eql_r, neq_r, lss_r, leq_r, gtr_r, geq_r, eqb_r, neb_r, eqp_r, nep_r, ↓gv_r, gvn_r, ↓g_r, gn_r]
  | d + 1, i, ws, H, hd, hi, hw, hby, hr => by
    have hlt : (i : Int) < L := by omega
    have w1 : IntKind.i64.wrap ((i : Int) + 1) = ((i + 1 : Nat) : Int) := by rw [w64 (by omega) (by omega)]; simp
    obtain ⟨n, hn⟩ := hby i (by omega)
    obtain ⟨id, o, cs, es, g, f1, f2, f3, f4, f5, f6⟩ := hr.put2 hn .i64
    have hr2 := f6 (.int .u8 (IntKind.u8.wrap (n + 1)))
    obtain ⟨H2, ws2, e2, r2, s2, l2⟩ := bump_do (m := m) (s0 := s0) (s4 := s4) (s5 := s5) (s6 := s6) (s125 := s125) (s126 := s126) hL d (i + 1) (by omega) (by omega) (by simpa using hw) (hby.set _ _) hr2
    refine ⟨H2, ws2, (loop_next ?_).trans e2, r2, Step.trans ⟨by simp, fun j hj hjn => List.getElem?_set_ne fun e => hjn (by rw [f5]; simp [e]), fun j hj => .inl hj⟩ s2, by rw [l2]; simp⟩
    simp only [F_law30Do.l2, ↓bind_andk, andk_some, ↓jn_outk, outk_nrm, outk_ext, outk_ret, ↓cnd_b, ret_r, nilc_r, fa_r, ldOne_r, ldA_r, stOne_r, stA_r, rdk_r, rdkA_r, wrk_r, wrkA_r, alc_r, lenS_r, lenT_r, cvi_r, pick_r, not_r, mx_r, mn_r, ixa_r, ixaA_r, bld_r, add_r, sub_r, mul_r, quo_r, rem_r, eql_r, neq_r, lss_r, leq_r, gtr_r, geq_r, eqb_r, neb_r, eqp_r, nep_r, ↓gv_r, gvn_r, ↓g_r, gn_r, Bool.not_true, Bool.not_false, Bool.false_eq_true, Bool.true_eq_false, reduceIte, List.tail_cons, List.headD_cons, decide_true, decide_false, cond_true, cond_false, Nat.beq_refl, hlt, f1, f2, f3, Option.map_some, f4, oneCell, and_self, w1]

/-- Both nets, and the variables of 'do'. -/
structure DoI (H : Heap) (id i4 i5 i6 : Nat) (sl : Value) (act : List Value) (b : Value) (p : List UInt8) (ps : List (List UInt8)) (lost : Int) (own ro : List Nat) : Prop where
  net : Net H id ps lost own
  row : RowS H sl (ps.map strv) ro
  dis : ∀ j ∈ ro, j ∉ own
  g4 : H[i4]? = some (.cells [sl, iv lost] 1 false false)
  g5 : H[i5]? = some (.cells act 1 false false)
  g6 : ∃ z l0, H[i6]? = some (.cells [z, iv l0] 1 false false)
  o4 : i4 ∉ own ∧ i4 ∉ ro
  o5 : i5 ∉ own
  o6 : i6 ∉ own
  ne : i4 ≠ i5 ∧ i4 ≠ i6 ∧ i5 ≠ i6
  bs : Sl H b (u8s p)
  bo : ∀ j, own1 b = some j → j ∉ own ∧ j ≠ i4

theorem Sl.lt {H : Heap} {sl : Value} {vs : List Value} (h : Sl H sl vs) : ∀ j, own1 sl = some j → j < H.length := by
  obtain ⟨a, c, rfl, _, hf⟩ := h
  intro j hj
  unfold own1 at hj
  split at hj
  · rename_i id o n c' e
    cases e
    cases hj
    simp only [fcells] at hf
    split at hf
    · rename_i h; exact get_lt h
    · cases hf
  · cases hj

theorem do_round {m id i4 i5 i6 c j : Nat} {sl b : Value} {p : List UInt8} {kd a2 a3 a4 : Value} {ps : List (List UInt8)} {lost : Int} {own ro : List Nat} {H : Heap} (hI : DoI H id i4 i5 i6 sl [kd, b, a2, a3, a4] b p ps lost own ro)
    (hl : ps.length ≤ 128) (hlb : 0 ≤ lost ∧ lost < 1000000000) (hp : p.length ≤ 100) (hj : j < c) (hc : c ≤ 60) :
    ∃ H' sl' own' ro', F_law30Do.l1 (R (m + 2)) (pt id) (pt i4) (pt i5) (pt i6) (iv c) (iv j) H = some (.nrm [pt id, pt i4, pt i5, pt i6, iv c, iv ((j + 1 : Nat) : Int)], H') ∧
      DoI H' id i4 i5 i6 sl' [kd, b, a2, a3, a4] b p (putL ps p) (putK ps lost) own' ro' ∧ H.length ≤ H'.length ∧ (∀ x, x < H.length → x ∉ own → x ≠ i4 → H'[x]? = H[x]?) ∧ (∀ x ∈ own', x ∈ own ∨ H.length ≤ x) ∧ (∀ x ∈ ro', x ∈ ro ∨ H.length ≤ x) := by
  obtain ⟨net, row, dis, g4, g5, ⟨z6, l6, g6⟩, o4, o5, o6, ne, bs, bo⟩ := hI
  have hlt : (j : Int) < c := by omega
  have wj : IntKind.i64.wrap ((j : Int) + 1) = ((j + 1 : Nat) : Int) := by rw [w64 (by omega) (by omega)]; simp
  have x4 := get_lt g4
  have x5 := get_lt g5
  have x6 := get_lt g6
  have nlt := net.lt
  have rlt := row.lt
  have blt := bs.lt
  have b1 := b2s_sl bs
  obtain ⟨sl1, ro1, H1, e1, r1, k1, ho1⟩ := refPut_any (n := m + 1) row hl hlb p
  have hl1 := k1.len
  have r1lt := r1.lt
  -- the document's is stored
  have e2 : alc 1 (.agg #[.slice none 0 0, .int .i64 0]) H1 = some (pt H1.length, H1 ++ [.cells [.slice none 0 0, iv 0] 1 false false]) := alc_all rfl
  have hoc := r1.oneCell.1
  have e3 : stA 2 (pt H1.length) (.agg [sl1, iv (putK ps lost)].toArray) (H1 ++ [.cells [.slice none 0 0, iv 0] 1 false false]) = some (undef, (H1 ++ [AObj.cells [.slice none 0 0, iv 0] 1 false false]).set H1.length (.cells [sl1, iv (putK ps lost)] 1 false false)) := st_all app_new rfl rfl (all2 hoc)
  rw [set_new] at e3
  have e4 : ldA 2 (pt H1.length) (H1 ++ [.cells [sl1, iv (putK ps lost)] 1 false false]) = some (.agg #[sl1, iv (putK ps lost)], H1 ++ [.cells [sl1, iv (putK ps lost)] 1 false false]) := ld_all app_new rfl
  have k2 := k1.trans (HLe.app H1 [.cells [sl1, iv (putK ps lost)] 1 false false])
  have r2 := r1.step (HLe.app H1 [.cells [sl1, iv (putK ps lost)] 1 false false]).step (by simp)
  have hl2 : (H1 ++ [AObj.cells [sl1, iv (putK ps lost)] 1 false false]).length = H1.length + 1 := by simp
  generalize H1 ++ [AObj.cells [sl1, iv (putK ps lost)] 1 false false] = H2 at *
  have e5 : stA 2 (pt i4) (.agg #[sl1, iv (putK ps lost)]) H2 = some (undef, H2.set i4 (.cells [sl1, iv (putK ps lost)] 1 false false)) := st_all (vs := [sl1, iv (putK ps lost)]) (k2 _ _ g4) rfl rfl (all2 hoc)
  have q3 : ∀ x, x < H.length → x ≠ i4 → (H2.set i4 (.cells [sl1, iv (putK ps lost)] 1 false false))[x]? = H[x]? := fun x hx hne => by
    rw [set_get_ne (Ne.symm hne), List.getElem?_eq_getElem hx]; exact k2 _ _ (List.getElem?_eq_getElem hx)
  have g43 : (H2.set i4 (.cells [sl1, iv (putK ps lost)] 1 false false))[i4]? = some (.cells [sl1, iv (putK ps lost)] 1 false false) := set_get (k2 _ _ g4)
  have i4ro : i4 ∉ ro1 := fun hm => by
    rcases ho1 _ hm with h | h
    · exact o4.2 h
    · omega
  have r3 : RowS (H2.set i4 (.cells [sl1, iv (putK ps lost)] 1 false false)) sl1 ((putL ps p).map strv) ro1 := r2.keep fun x hx => set_get_ne (fun e => i4ro (e ▸ hx))
  have hl3 : (H2.set i4 (.cells [sl1, iv (putK ps lost)] 1 false false)).length = H2.length := by simp
  generalize H2.set i4 (.cells [sl1, iv (putK ps lost)] 1 false false) = H3 at *
  have bs3 : Sl H3 b (u8s p) := bs.keep fun x hx => q3 x (blt x hx) (bo x hx).2
  have net3 : Net H3 id ps lost own := net.keep fun x hx => q3 x (nlt x hx) (fun e => o4.1 (e ▸ hx))
  have g53 : H3[i5]? = some (.cells [kd, b, a2, a3, a4] 1 false false) := by rw [q3 i5 x5 (Ne.symm ne.1)]; exact g5
  -- a copy of the bytes
  have e6 : bsl 1 0 (.int .u8 0) [] H3 = some (.slice (some ⟨H3.length, 0, none⟩) 0 0, H3 ++ [.cells [] 1 false false]) := bsl0
  have g4' : (H3 ++ [AObj.cells [] 1 false false])[H3.length]? = some (.cells [] 1 false false) := app_new
  have k4 := HLe.app H3 [.cells [] 1 false false]
  have hl4 : (H3 ++ [AObj.cells [] 1 false false]).length = H3.length + 1 := by simp
  generalize H3 ++ [AObj.cells [] 1 false false] = H4 at *
  obtain ⟨v5, H5, q5, e7, r5, k5, ho5⟩ := row_of (b := 1) (bs3.mono k4) (by rw [u8s_length]; omega) (by rw [u8s_length]; omega) (s := .slice (some ⟨H3.length, 0, none⟩) 0 0) (.inr ⟨H3.length, false, rfl, g4', rfl⟩)
  have ho5' : ∀ x ∈ q5, H3.length ≤ x := fun x hx => by
    rcases ho5 x hx with h | ⟨_, h⟩
    · omega
    · cases h; exact Nat.le_refl _
  have k35 := k4.trans k5
  have q5lt := r5.lt
  have net5 := net3.step k35.step (by simp)
  -- it is put
  obtain ⟨H6, own6, e8, net6, st6⟩ := put_any (n := m) net5 hl hlb r5.rd (by omega)
  have q5own : ∀ x ∈ q5, x ∉ own := fun x hx hm => by have := ho5' x hx; have := nlt x hm; omega
  have r56 : RowS H6 v5 (u8s p) q5 := r5.step st6 q5own
  have e9 : ∀ H', lenS v5 H' = some (iv p.length, H') := fun H' => by
    have := r5.rd.len (H' := H')
    rwa [u8s_length] at this
  obtain ⟨H7, ws7, e10, r7, st7, hl7⟩ := bump_do (m := m + 2) (s0 := pt id) (s4 := pt i4) (s5 := pt i5) (s6 := pt i6) (s125 := iv c) (s126 := iv j) (show p.length ≤ 100000 by omega) p.length 0 (by omega) (by omega) (u8s_length p) (u8s_byts p) r56
  have own6q : ∀ x ∈ own6, x ∉ q5 := fun x hx hm => by
    rcases st6.own x hx with h | h
    · exact q5own x hm h
    · have := q5lt x hm; omega
  -- what was there
  have qall : ∀ x, x < H3.length → x ∉ own → H7[x]? = H3[x]? := fun x hx hn => by
    have h5 : x < H5.length := by have := k35.len; omega
    rw [st7.keep x (by have := st6.len; omega) (fun hm => by have := ho5' x hm; omega), st6.keep x h5 hn, List.getElem?_eq_getElem hx]
    exact k35 _ _ (List.getElem?_eq_getElem hx)
  have qfin : ∀ x, x < H.length → x ∉ own → x ≠ i4 → H7[x]? = H[x]? := fun x hx hn hne => by
    rw [qall x (by have := k2.len; omega) hn, q3 x hx hne]
  have ro1own : ∀ x ∈ ro1, x ∉ own := fun x hx hm => by
    rcases ho1 x hx with h | h
    · exact dis x h hm
    · have := nlt x hm; omega
  have hl17 : H.length ≤ H7.length := by have := k2.len; have := k35.len; have := st6.len; omega
  have own6lt : ∀ x ∈ own6, x ∈ own ∨ H.length ≤ x := fun x hx => (st6.own x hx).imp (fun h => h) fun h => by have := k2.len; have := k35.len; omega
  refine ⟨H7, sl1, own6, ro1, ?_, ⟨net6.step st7 own6q, r3.keep fun x hx => ?_, fun x hx hm => ?_, ?_, ?_, ⟨z6, l6, ?_⟩, ⟨fun hm => ?_, i4ro⟩, fun hm => ?_, fun hm => ?_, ne, bs3.keep fun x hx => ?_, fun x hx => ⟨fun hm => ?_, (bo x hx).2⟩⟩, hl17, qfin, own6lt, ho1⟩
  · unfold F_law30Do.l1
    have nb : bop .bool .neq (.bool (decide (ps.length < 128))) (.bool (decide (ps.length < 128))) H6 = some (.bool false, H6) := by
      rw [neb_r]; cases decide (ps.length < 128) <;> rfl
    rw [show ((0 : Nat) : Int) = 0 from rfl] at e10
    have ex0 : ∀ (x y : Value) (X : Heap), extr (.tuple #[x, y]) 0 X = some (x, X) := fun _ _ _ => rfl
    have lv : ld1 (pa i5 1) H = some (b, H) := ld1_at g5 rfl
    have lv3 : ld1 (pa i5 1) H4 = some (b, H4) := ld1_at (k4 _ _ g53) rfl
    rw [bind_eq lss_r, decide_eq_true hlt, c_true, bind_eq (ld_all (n := 2) g4 rfl), bind_eq fa_z, bind_eq lv, bind_eq b1, bind_eq e1, bind_eq extr_p0, bind_eq extr_p1, bind_eq e2, bind_eq e3, bind_eq e4, bind_eq e5, bind_eq e6, bind_eq fa_z, bind_eq lv3, bind_eq e7, bind_eq e8, bind_eq nb, c_false, bind_eq (e9 _), jn_ext e10]
    simp only [Nat.beq_refl, cond_true, List.tail_cons, List.headD_cons]
    rw [bind_eq add_r, wj]
    rfl
  · have hx1 := r1lt x hx
    rw [qall x (by omega) (ro1own x hx)]
  · rcases st6.own x hm with h | h
    · exact ro1own x hx h
    · have := r1lt x hx; have := k35.len; omega
  · rw [qall i4 (by omega) o4.1]; exact g43
  · rw [qall i5 (by omega) o5]; exact g53
  · rw [qfin i6 x6 o6 (Ne.symm ne.2.1)]; exact g6
  · rcases own6lt i4 hm with h | h
    · exact o4.1 h
    · omega
  · rcases own6lt i5 hm with h | h
    · exact o5 h
    · omega
  · rcases own6lt i6 hm with h | h
    · exact o6 h
    · omega
  · exact qall x (by have := blt x hx; omega) (bo x hx).1
  · rcases own6lt x hm with h | h
    · exact (bo x hx).1 h
    · have := blt x hx; omega

def putN (p : List UInt8) : Nat → List (List UInt8) → Int → List (List UInt8) × Int
  | 0, ps, lost => (ps, lost)
  | n + 1, ps, lost => putN p n (putL ps p) (putK ps lost)

theorem putL_len {ps : List (List UInt8)} {p : List UInt8} (h : ps.length ≤ 128) : (putL ps p).length ≤ 128 := by
  unfold putL
  split
  · simp; omega
  · exact h

theorem putK_le {ps : List (List UInt8)} {lost : Int} (h : 0 ≤ lost) : 0 ≤ putK ps lost ∧ putK ps lost ≤ lost + 1 := by
  unfold putK; split <;> omega

theorem do_loop {m id i4 i5 i6 c : Nat} {b : Value} {p : List UInt8} {kd a2 a3 a4 : Value} (hp : p.length ≤ 100) (hc : c ≤ 60) :
    ∀ (d j : Nat) {sl : Value} {ps : List (List UInt8)} {lost : Int} {own ro : List Nat} {H : Heap}, c - j = d → j ≤ c → DoI H id i4 i5 i6 sl [kd, b, a2, a3, a4] b p ps lost own ro → ps.length ≤ 128 → 0 ≤ lost → lost + d < 1000000000 →
    ∃ H' sl' own' ro', loopM (fun vs => F_law30Do.l1 (R (m + 2)) (vs.headD undef) (vs.tail.headD undef) (vs.tail.tail.headD undef) (vs.tail.tail.tail.headD undef) (vs.tail.tail.tail.tail.headD undef) (vs.tail.tail.tail.tail.tail.headD undef)) [pt id, pt i4, pt i5, pt i6, iv c, iv j] H = some (.ext 1 [pt i4, pt i6], H') ∧
      DoI H' id i4 i5 i6 sl' [kd, b, a2, a3, a4] b p (putN p d ps lost).1 (putN p d ps lost).2 own' ro' ∧ H.length ≤ H'.length ∧ (∀ x, x < H.length → x ∉ own → x ≠ i4 → H'[x]? = H[x]?) ∧ (∀ x ∈ own', x ∈ own ∨ H.length ≤ x) ∧ (∀ x ∈ ro', x ∈ ro ∨ H.length ≤ x)
  | 0, j, sl, ps, lost, own, ro, H, hd, hj, hI, hl, h0, hb => by
    have : j = c := by omega
    subst this
    refine ⟨H, sl, own, ro, loop_ext ?_, hI, Nat.le_refl _, fun _ _ _ _ => rfl, fun _ h => .inl h, fun _ h => .inl h⟩
    simp [F_law30Do.l1, ↓bind_andk, andk_some, ↓jn_outk, outk_nrm, outk_ext, outk_ret, ↓cnd_b, ret_r, nilc_r, fa_r, ldOne_r, ldA_r, stOne_r, stA_r, rdk_r, rdkA_r, wrk_r, wrkA_r, alc_r, lenS_r, lenT_r, cvi_r, pick_r, not_r, mx_r, mn_r, ixa_r, ixaA_r, bld_r, add_r, sub_r, mul_r, quo_r, rem_r, eql_r, neq_r, lss_r, leq_r, gtr_r, geq_r, eqb_r, neb_r, eqp_r, nep_r, ↓gv_r, gvn_r, ↓g_r, gn_r]
  | d + 1, j, sl, ps, lost, own, ro, H, hd, hj, hI, hl, h0, hb => by
    obtain ⟨H1, sl1, own1', ro1, e1, I1, l1, q1, o1, r1⟩ := do_round (m := m) hI hl (by omega) hp (show j < c by omega) hc
    have hk := putK_le (ps := ps) h0
    obtain ⟨H2, sl2, own2, ro2, e2, I2, l2, q2, o2, r2⟩ := do_loop (m := m) hp hc d (j + 1) (by omega) (by omega) I1 (putL_len hl) hk.1 (by omega)
    refine ⟨H2, sl2, own2, ro2, (loop_next e1).trans e2, I2, by omega, fun x hx hn hne => ?_, fun x hx => ?_, fun x hx => ?_⟩
    · rw [q2 x (by omega) (fun hm => ?_) hne, q1 x hx hn hne]
      rcases o1 x hm with h | h
      · exact hn h
      · omega
    · rcases o2 x hx with h | h
      · exact o1 x h
      · exact .inr (by omega)
    · rcases r2 x hx with h | h
      · exact r1 x h
      · exact .inr (by omega)

end Go.Proofs.Ytkjoaediojdodaa.A
