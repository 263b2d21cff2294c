/- Numbers and texts as bytes: the writer. -/
import Derived.Test.YtlpibiaokpbhbaaGreatDoorOfB
namespace Go.Proofs.YtlpibiaokpbhbaaGreatDoor.A
set_option linter.unusedVariables false
set_option linter.unusedSimpArgs false
open Go.Proofs Go.Proofs.YtlpibiaokpbhbaaGreatDoor

/-- A number's bytes. -/
def le (x : Nat) : Nat → List UInt8
  | 0 => []
  | k + 1 => UInt8.ofNat (x % 256) :: le (x / 256) k

theorem le_len : ∀ {k x : Nat}, (le x k).length = k
  | 0, _ => rfl
  | k + 1, x => by unfold le; rw [List.length_cons, le_len]

/-- A text with its length. -/
def txt (s : List UInt8) : List UInt8 := le s.length 2 ++ s

theorem u8s_app (a b : List UInt8) : u8s (a ++ b) = u8s a ++ u8s b := by simp [u8s]

section
variable {H X : Heap} {n p : Nat} {sl x v : Value} {vs ws : List Value} {own : List Nat} {bs s : List UInt8}

/-- Some elements more. -/
theorem RowS.addN {b : Nat} (h : RowS H sl vs own) (hf : fcells 1 H x = some ws) (hn : A.flen x = ws.length) (hb : (vs.length + ws.length) * b ≤ 140737488355328) (hb0 : vs.length + ws.length ≤ 140737488355328) :
    ∃ sl' H' own', app 1 b sl x H = some (sl', H') ∧ RowS H' sl' (vs ++ ws) own' ∧ Step own H own' H' := by
  by_cases h0 : ws.length = 0
  · have hw : ws = [] := List.eq_nil_of_length_eq_zero h0
    subst hw
    refine ⟨sl, H, own, ?_, by simpa using h, .refl _ _⟩
    rcases h with ⟨rfl, rfl, rfl⟩ | ⟨sid, rest, gr, rfl, rfl, hid⟩
    · unfold app
      rw [hf]
      simp [hn]
    · unfold app
      rw [hf]
      simp [hn, hid]
  rcases h with ⟨rfl, rfl, rfl⟩ | ⟨sid, rest, gr, rfl, rfl, hid⟩
  · refine ⟨_, H ++ [.cells ws 1 true false], [H.length], ?_, .inr ⟨H.length, [], true, rfl, rfl, by simp⟩, ⟨by simp, fun j hj _ => List.getElem?_append_left hj, by simp⟩⟩
    unfold app
    rw [hf]
    simp only [hn]
    simp only [List.length_nil, Nat.zero_add] at hb hb0
    rw [if_neg h0, if_pos ⟨hb0, hb⟩]
    simp
  · have hlt := get_lt hid
    by_cases hc : ws.length ≤ rest.length
    · have hsp : splice (vs ++ rest) ws vs.length = vs ++ (ws ++ rest.drop ws.length) := by
        unfold splice
        rw [List.take_left, List.drop_append, List.drop_eq_nil_of_le (by omega), List.nil_append, Nat.add_sub_cancel_left, List.append_assoc]
      have hset : (H.set sid (.cells (vs ++ (ws ++ rest.drop ws.length)) 1 gr false))[sid]? = some (.cells (vs ++ (ws ++ rest.drop ws.length)) 1 gr false) := set_get hid
      refine ⟨.slice (some ⟨sid, 0, none⟩) (vs.length + ws.length) (vs.length + rest.length), H.set sid (.cells (vs ++ (ws ++ rest.drop ws.length)) 1 gr false), [sid], ?_, .inr ⟨sid, rest.drop ws.length, gr, ?_, rfl, by rw [hset, List.append_assoc]⟩, ⟨by simp, fun j hj hn => List.getElem?_set_ne (fun e => hn (by simp [e])), by simp⟩⟩
      · unfold app
        rw [hf]
        simp only [hn, hid, if_true, Nat.mul_one, Nat.zero_add]
        rw [if_pos (by omega), if_neg h0, if_pos ⟨trivial, by rw [List.length_append]; omega⟩, hsp]
      · rw [List.length_append, List.length_drop]
        congr 1; omega
    · have hold : ((vs ++ rest).drop 0).take vs.length = vs := by rw [List.drop_zero, List.take_left]
      have happ : app 1 b (.slice (some ⟨sid, 0, none⟩) vs.length (vs.length + rest.length)) x H = some (.slice (some ⟨H.length, 0, none⟩) (vs.length + ws.length) (vs.length + ws.length), (bif gr then H.set sid (.view vs 1 H.length) else H) ++ [.cells (vs ++ ws) 1 true false]) := by
        unfold app
        rw [hf]
        simp only [hn, hid, if_true, Nat.mul_one, Nat.zero_add]
        rw [if_neg (by omega), if_pos ⟨by simp, by rw [List.length_append]; omega, hb0, hb⟩, hold]
        rfl
      have hnew : ((bif gr then H.set sid (.view vs 1 H.length) else H) ++ [.cells (vs ++ ws) 1 true false])[H.length]? = some (.cells (vs ++ ws) 1 true false) := by
        rw [List.getElem?_append_right (by cases gr <;> simp)]
        cases gr <;> simp
      refine ⟨_, _, [H.length], happ, .inr ⟨H.length, [], true, by simp, rfl, by rw [hnew, List.append_nil]⟩, ⟨?_, fun j hj hn => ?_, by simp⟩⟩
      · cases gr <;> simp
      · rw [List.getElem?_append_left (by cases gr <;> simpa using hj)]
        cases gr
        · rfl
        · exact List.getElem?_set_ne (fun e => hn (by simp [e]))

/-- A writer. -/
structure Wtr (H : Heap) (p : Nat) (bs : List UInt8) (own : List Nat) : Prop where
  o : ∃ sl, H[p]? = some (.cells [sl] 1 false false) ∧ RowS H sl (u8s bs) own
  ne : p ∉ own

theorem Wtr.lt (h : Wtr H p bs own) : ∀ j ∈ p :: own, j < H.length := by
  obtain ⟨sl, hc, hr⟩ := h.o
  intro j hj
  rcases List.mem_cons.1 hj with rfl | hj
  · exact get_lt hc
  · exact hr.lt j hj

theorem Wtr.keep (h : Wtr H p bs own) (hk : ∀ j ∈ p :: own, X[j]? = H[j]?) : Wtr X p bs own := by
  obtain ⟨sl, hc, hr⟩ := h.o
  exact ⟨⟨sl, by rw [hk p (by simp)]; exact hc, hr.keep fun j hj => hk j (by simp [hj])⟩, h.ne⟩

theorem Wtr.step {o1 o2 : List Nat} (h : Wtr H p bs own) (hs : Step o1 H o2 X) (hn : ∀ j ∈ p :: own, j ∉ o1) : Wtr X p bs own :=
  h.keep fun j hj => hs.keep j (h.lt j hj) (hn j hj)

theorem Wtr.hle (h : Wtr H p bs own) (hl : HLe H X) : Wtr X p bs own := h.step hl.step (by simp)

/-- The row is another one from now on. -/
theorem Wtr.put {own' : List Nat} {bs' : List UInt8} (h : Wtr H p bs own) (hr : RowS X sl (u8s bs') own') (hs : Step own H own' X) : ∃ X', st1 (pt p) sl X = some (undef, X') ∧ Wtr X' p bs' own' ∧ Step (p :: own) H (p :: own') X' := by
  obtain ⟨sl0, hc, hr0⟩ := h.o
  have hc1 : X[p]? = some (.cells [sl0] 1 false false) := hs.get hc h.ne
  have hne : p ∉ own' := fun hm => by
    rcases hs.own p hm with h1 | h1
    · exact h.ne h1
    · have := get_lt hc; omega
  have e1 : st1 (pt p) sl X = some (undef, X.set p (.cells [sl] 1 false false)) := st1_at (o := 0) hc1 (by simp) hr.one.1
  refine ⟨_, e1, ⟨⟨sl, set_get hc1, hr.keep fun j hj => List.getElem?_set_ne (fun e => hne (by rw [e]; exact hj))⟩, hne⟩, ?_⟩
  have s1 : Step [p] X [p] (X.set p (.cells [sl] 1 false false)) := ⟨by simp, fun j hj hn => List.getElem?_set_ne (fun e => hn (by simp [e])), fun j hj => .inl hj⟩
  refine (hs.more (o2 := p :: own) (o2' := p :: own') (by simp +contextual) ?_).trans (s1.more (by simp) (fun j hj => .inl hj))
  intro j hj
  rcases List.mem_cons.1 hj with rfl | hj
  · exact .inl (by simp)
  · exact .inr (.inl hj)

theorem u8of_toNat (x : Nat) : ((UInt8.ofNat (x % 256)).toNat : Int) = (x : Int) % 256 := by
  rw [UInt8.toNat_ofNat']
  omega

theorem num_do {N : Nat} (hN : N ≤ 1000) : ∀ (t k x : Nat) (bs : List UInt8) (own : List Nat) (H : Heap), N - k = t → k ≤ N → x < 18446744073709551616 → bs.length + t ≤ 1000000000000 → Wtr H p bs own →
    ∃ H' own', loopM (c4 (F_octetWriterNum.l1 (R n))) [pt p, .int .u64 x, iv N, iv k] H = some (.ext 0 [pt p], H') ∧ Wtr H' p (bs ++ le x t) own' ∧ Step (p :: own) H (p :: own') H'
  | 0, k, x, bs, own, H, ht, hk, hx, hb, h => by
    have : k = N := by omega
    subst this
    refine ⟨H, own, loop_ext ?_, by simpa [le] using h, .refl _ _⟩
    rw [c4_r]
    unfold F_octetWriterNum.l1
    rw [bind_eq lss_r, cnd_b, if_neg (by simp)]
    rfl
  | t + 1, k, x, bs, own, H, ht, hk, hx, hb, h => by
    have hlt : (k : Int) < N := by omega
    obtain ⟨sl, hc, hr⟩ := h.o
    have e1 : bsl 1 1 (.int .u8 0) [(0, 1, .int .u8 ((UInt8.ofNat (x % 256)).toNat))] H = some (.slice (some ⟨H.length, 0, none⟩) 1 1, H ++ [.cells [.int .u8 ((UInt8.ofNat (x % 256)).toNat)] 1 false false]) := bsl1 rfl rfl rfl
    have k1 : HLe H (H ++ [AObj.cells [.int .u8 ((UInt8.ofNat (x % 256)).toNat)] 1 false false]) := .app _ _
    have s1 : Sl (H ++ [AObj.cells [.int .u8 ((UInt8.ofNat (x % 256)).toNat)] 1 false false]) (.slice (some ⟨H.length, 0, none⟩) 1 1) [.int .u8 ((UInt8.ofNat (x % 256)).toNat)] := Sl.one (vs := [.int .u8 ((UInt8.ofNat (x % 256)).toNat)]) app_new
    generalize H ++ [AObj.cells [.int .u8 ((UInt8.ofNat (x % 256)).toNat)] 1 false false] = X1 at e1 k1 s1
    have h1 := h.hle k1
    have hr1 : RowS X1 sl (u8s bs) own := hr.step k1.step (by simp)
    have hl : (u8s bs).length = bs.length := u8s_length bs
    obtain ⟨sl', X2, own', e2, r2, st2, _⟩ := hr1.push (b := 1) s1 (by omega) (by omega)
    rw [show u8s bs ++ [.int .u8 ((UInt8.ofNat (x % 256)).toNat)] = u8s (bs ++ [UInt8.ofNat (x % 256)]) from by simp [u8s]] at r2
    obtain ⟨X3, e3, w3, st3⟩ := h1.put r2 st2
    have hx2 : x / 256 < 18446744073709551616 := by omega
    obtain ⟨H', own2, e4, w4, st4⟩ := num_do hN t (k + 1) (x / 256) (bs ++ [UInt8.ofNat (x % 256)]) own' X3 (by omega) (by omega) hx2 (by rw [List.length_append, List.length_singleton]; omega) w3
    have c1 : cvi .u8 (.int .u64 x) H = some (.int .u8 ((UInt8.ofNat (x % 256)).toNat), H) := by rw [cvi_r, wu8, u8of_toNat]
    have c2 : ∀ Y, bop .int .shr (.int .u64 x) (.int .u64 8) Y = some (.int .u64 ((x / 256 : Nat) : Int), Y) := fun Y => by
      rw [shr_r, if_neg (by decide)]
      congr 3
      rw [show (2 : Int) ^ min (8 : Int).toNat IntKind.u64.bits = 256 from rfl]
      rw [Int.fdiv_eq_ediv_of_nonneg _ (by decide)]
      omega
    have c3 : ld1 (pt p) H = some (sl, H) := ld_s hc
    refine ⟨H', own2, (loop_next ?_).trans e4, ?_, (k1.step.more (by simp) (fun j hj => .inl hj)).trans (st3.trans st4)⟩
    · rw [c4_r]
      unfold F_octetWriterNum.l1
      rw [bind_eq lss_r, cnd_b, if_pos (by simpa using hlt), bind_eq nilc_r, bind_eq fa_z, bind_eq c3, bind_eq c1, bind_eq e1, bind_eq e2, bind_eq nilc_r, bind_eq fa_z, bind_eq e3, bind_eq (c2 _), bind_eq add_r, wsuc (by omega)]
      rfl
    · rw [List.append_assoc] at w4
      exact w4


theorem r_wnum {N x : Nat} (hN : N ≤ 1000) (hx : x < 18446744073709551616) (hb : bs.length + N ≤ 1000000000000) (h : Wtr H p bs own) : ∃ H' own', R (n + 1) n_octetWriterNum [pt p, .int .u64 x, iv N] H = some (pt p, H') ∧ Wtr H' p (bs ++ le x N) own' ∧ Step (p :: own) H (p :: own') H' := by
  obtain ⟨H', own', e, w, s⟩ := num_do (n := n) hN N 0 x bs own H (by omega) (by omega) hx hb h
  have e : loopM (c4 (F_octetWriterNum.l1 (R n))) [pt p, .int .u64 x, iv N, .int .i64 0] H = _ := e
  refine ⟨H', own', ?_, w, s⟩
  rw [R, run_octetWriterNum rfl]
  unfold F_octetWriterNum
  rw [jn_ext e, xk_hit]
  rfl

theorem r_wbyte {x : Nat} (hx : x < 256) (hb : bs.length ≤ 100000000000) (h : Wtr H p bs own) : ∃ H' own', R (n + 2) n_octetWriterByte [pt p, .int .u8 x] H = some (pt p, H') ∧ Wtr H' p (bs ++ le x 1) own' ∧ Step (p :: own) H (p :: own') H' := by
  obtain ⟨H', own', e, w, s⟩ := r_wnum (n := n) (N := 1) (x := x) (by omega) (by omega) (by omega) h
  have e : R (n + 1) n_octetWriterNum [pt p, .int .u64 x, .int .i64 1] H = _ := e
  have c1 : cvi .u64 (.int .u8 x) H = some (.int .u64 x, H) := by rw [cvi_r, wu64, Int.emod_eq_of_lt (by omega) (by omega)]
  refine ⟨H', own', ?_, w, s⟩
  rw [R, run_octetWriterByte rfl]
  unfold F_octetWriterByte
  rw [bind_eq c1, bind_eq e]
  rfl

theorem r_wtwo {x : Nat} (hx : x < 65536) (hb : bs.length ≤ 100000000000) (h : Wtr H p bs own) : ∃ H' own', R (n + 2) n_octetWriterTwo [pt p, .int .u16 x] H = some (pt p, H') ∧ Wtr H' p (bs ++ le x 2) own' ∧ Step (p :: own) H (p :: own') H' := by
  obtain ⟨H', own', e, w, s⟩ := r_wnum (n := n) (N := 2) (x := x) (by omega) (by omega) (by omega) h
  have e : R (n + 1) n_octetWriterNum [pt p, .int .u64 x, .int .i64 2] H = _ := e
  have c1 : cvi .u64 (.int .u16 x) H = some (.int .u64 x, H) := by rw [cvi_r, wu64, Int.emod_eq_of_lt (by omega) (by omega)]
  refine ⟨H', own', ?_, w, s⟩
  rw [R, run_octetWriterTwo rfl]
  unfold F_octetWriterTwo
  rw [bind_eq c1, bind_eq e]
  rfl

theorem wu16 (n : Int) : IntKind.u16.wrap n = n % 65536 := by simp [IntKind.wrap, IntKind.bits, IntKind.signed]

theorem fc_str : fcells 1 H (strv s) = some (u8s s) := by
  unfold strv fcells
  rfl

theorem flen_str : A.flen (strv s) = (u8s s).length := by
  rw [u8s_length]
  unfold strv A.flen
  exact ba_size

theorem r_wtext (hs : s.length ≤ 65535) (hb : bs.length ≤ 1000000000) (h : Wtr H p bs own) : ∃ H' own', R (n + 3) n_octetWriterText [pt p, strv s] H = some (pt p, H') ∧ Wtr H' p (bs ++ txt s) own' ∧ Step (p :: own) H (p :: own') H' := by
  obtain ⟨H1, q1, e1, w1, s1⟩ := r_wtwo (n := n) (x := s.length) (by omega) (by omega) h
  obtain ⟨sl, hc, hr⟩ := w1.o
  have hl2 : (u8s (bs ++ le s.length 2)).length = bs.length + 2 := by rw [u8s_length, List.length_append, le_len]
  have hl3 : (u8s s).length = s.length := u8s_length s
  obtain ⟨sl', H2, q2, e2, r2, s2⟩ := hr.addN (b := 1) (x := strv s) fc_str flen_str (by omega) (by omega)
  rw [← u8s_app, List.append_assoc] at r2
  obtain ⟨H3, e3, w3, s3⟩ := w1.put r2 s2
  have c0 : mxi false (iv s.length) (.int .i64 65535) H = some (iv s.length, H) := by rw [mn_r, if_neg (by omega)]
  have c1 : sls (strv s) none (some (iv s.length)) H = some (strv s, H) := by
    have := sls_v (s := s) (k := s.length) (H := H) (Nat.le_refl _)
    rwa [List.take_length] at this
  have c2 : cvi .u16 (iv s.length) H = some (.int .u16 s.length, H) := by rw [cvi_r, wu16, Int.emod_eq_of_lt (by omega) (by omega)]
  have c3 : ld1 (pt p) H1 = some (sl, H1) := ld_s hc
  refine ⟨H3, q2, ?_, w3, s1.trans s3⟩
  rw [R, run_octetWriterText rfl]
  unfold F_octetWriterText
  rw [bind_eq lenT_v, bind_eq c0, bind_eq c1, bind_eq lenT_v, bind_eq c2, bind_eq e1, bind_eq nilc_r, bind_eq fa_z, bind_eq c3, bind_eq e2, bind_eq nilc_r, bind_eq fa_z, bind_eq e3]
  rfl

theorem r_clone {b : Value} {bs : List UInt8} (hb : Sl H b (u8s bs)) (hp : bs.length ≤ 140737488355328) :
    ∃ v q H', R (n + 1) n_bytesClone [b] H = some (v, H') ∧ RowS H' v (u8s bs) q ∧ HLe H H' ∧ ∀ j ∈ q, H.length ≤ j := by
  rw [R, run_bytesClone rfl]
  rcases hb.isnil (H' := H) with ⟨rfl, hp0, e⟩ | e
  · refine ⟨.slice none 0 0, [], H, ?_, by rw [hp0]; exact RowS.nil, .refl _, by simp⟩
    unfold F_bytesClone
    rw [bind_eq e]
    rfl
  · have hb2 : Sl (H ++ [.cells [] 1 false false]) b (u8s bs) := hb.mono (.app _ _)
    obtain ⟨sl', H', own', e2, hr, hle, ho⟩ := row_of (b := 1) hb2 (by rw [u8s_length]; omega) (by rw [u8s_length]; omega) (s := .slice (some ⟨H.length, 0, none⟩) 0 0) (.inr ⟨H.length, false, rfl, app_new, rfl⟩)
    refine ⟨sl', own', H', ?_, hr, (HLe.app _ _).trans hle, fun j hj => ?_⟩
    · unfold F_bytesClone
      rw [bind_eq e, cnd_b, if_neg (by simp), bind_eq bsl0, bind_eq e2]
      rfl
    · rcases ho j hj with h | ⟨_, h⟩
      · simp at h; omega
      · cases h; exact Nat.le_refl _

theorem r_wbytes (hb : bs.length ≤ 1000000000) (h : Wtr H p bs own) : ∃ v q H', R (n + 2) n_octetWriterBytes [pt p] H = some (v, H') ∧ RowS H' v (u8s bs) q ∧ HLe H H' ∧ ∀ j ∈ q, H.length ≤ j := by
  obtain ⟨sl, hc, hr⟩ := h.o
  obtain ⟨v, q, H', e, r, l, o⟩ := r_clone (n := n) hr.rd (by omega)
  refine ⟨v, q, H', ?_, r, l, o⟩
  rw [R, run_octetWriterBytes rfl]
  unfold F_octetWriterBytes
  rw [bind_eq nilc_r, bind_eq fa_z, bind_eq (ld_s hc), bind_eq e]
  rfl

/-- A new writer. -/
theorem wtr_new : bld (.agg #[.slice none 0 0]) [] H = some (.agg #[.slice none 0 0], H) ∧ alc 1 (.agg #[.slice none 0 0]) H = some (pt H.length, H ++ [.cells [.slice none 0 0] 1 false false]) ∧ Wtr (H ++ [.cells [.slice none 0 0] 1 false false]) H.length [] [] :=
  ⟨rfl, rfl, ⟨⟨.slice none 0 0, app_new, RowS.nil⟩, by simp⟩⟩

end

end Go.Proofs.YtlpibiaokpbhbaaGreatDoor.A

/- Numbers and texts as bytes: the reader. -/
namespace Go.Proofs.YtlpibiaokpbhbaaGreatDoor.A
set_option linter.unusedVariables false
set_option linter.unusedSimpArgs false
open Go.Proofs Go.Proofs.YtlpibiaokpbhbaaGreatDoor

/-- The first error (0: none), and what is left. -/
abbrev RSt := Nat × List UInt8

/-- A number of its bytes. -/
def leN : List UInt8 → Nat
  | [] => 0
  | b :: l => b.toNat + 256 * leN l

def failS (e : Nat) (s : RSt) : RSt := if s.1 = 0 ∧ e ≠ 0 then (e, []) else s
def tkS (n : Nat) (s : RSt) : List UInt8 × RSt := if n ≤ s.2.length then (s.2.take n, (s.1, s.2.drop n)) else ([], failS 2 s)
def numS (k : Nat) (s : RSt) : Nat × RSt := (leN (tkS k s).1, (tkS k s).2)
def countS (most : Nat) (s : RSt) : Nat × RSt := if (numS 2 s).1 > most then (0, failS 3 (numS 2 s).2) else numS 2 s
def textS (most : Nat) (s : RSt) : List UInt8 × RSt := tkS (countS most s).1 (countS most s).2

/-- Bytes that are part of a row. -/
def RB (H : Heap) (sl : Value) (bs : List UInt8) : Prop :=
  (bs = [] ∧ (sl = .slice none 0 0 ∨ ∃ id o j, sl = .slice (some ⟨id, o, some j⟩) 0 0)) ∨
  ∃ id o c cs g ro, sl = .slice (some ⟨id, o, none⟩) bs.length c ∧ bs.length ≤ c ∧ H[id]? = some (.cells cs 1 g ro) ∧ o + bs.length ≤ cs.length ∧ (cs.drop o).take bs.length = u8s bs

/-- A reader. -/
def Rdr (H : Heap) (p : Nat) (s : RSt) : Prop :=
  ∃ sl, H[p]? = some (.cells [sl, iv s.1] 1 false false) ∧ RB H sl s.2 ∧ (∀ j, own1 sl = some j → j < p) ∧ (s.1 ≠ 0 → s.2 = [])

theorem leN_lt : ∀ (l : List UInt8), leN l < 256 ^ l.length
  | [] => by decide
  | b :: l => by
    have h1 := leN_lt l
    have h2 : b.toNat < 256 := b.toNat_lt
    rw [List.length_cons, Nat.pow_succ]
    unfold leN
    omega

theorem leN_snoc : ∀ (l : List UInt8) (b : UInt8), leN (l ++ [b]) = leN l + b.toNat * 2 ^ (8 * l.length)
  | [], b => by simp [leN]
  | a :: l, b => by
    rw [List.cons_append]
    unfold leN
    rw [leN_snoc l b, List.length_cons, Nat.mul_add, show 8 * (l.length + 1) = 8 * l.length + 8 by omega, Nat.pow_add]
    have : 256 * (b.toNat * 2 ^ (8 * l.length)) = b.toNat * (2 ^ (8 * l.length) * 2 ^ 8) := by
      rw [← Nat.mul_assoc, Nat.mul_comm 256, Nat.mul_assoc, Nat.mul_comm 256]
    omega

section
variable {H X : Heap} {n p : Nat} {sl x v : Value} {vs ws : List Value} {own : List Nat} {bs : List UInt8} {s : RSt}

theorem RB.rd (h : RB H sl bs) : Sl H sl (u8s bs) := by
  rcases h with ⟨rfl, rfl | ⟨id, o, j, rfl⟩⟩ | ⟨id, o, c, cs, g, ro, rfl, h1, h2, h3, h4⟩
  · exact Sl.nil
  · exact ⟨_, _, rfl, (fun e => by cases e), rfl⟩
  · refine ⟨_, c, by rw [u8s_length], (fun e => by cases e), ?_⟩
    unfold fcells
    simp only [h2, Nat.mul_one]
    rw [if_pos h3, h4]

theorem RB.one (h : RB H sl bs) : oneCell sl = true := by
  rcases h with ⟨rfl, rfl | ⟨id, o, j, rfl⟩⟩ | ⟨id, o, c, cs, g, ro, rfl, _⟩ <;> rfl

theorem RB.keep (h : RB H sl bs) (hk : ∀ j, own1 sl = some j → X[j]? = H[j]?) : RB X sl bs := by
  rcases h with h | ⟨id, o, c, cs, g, ro, rfl, h1, h2, h3, h4⟩
  · exact .inl h
  · exact .inr ⟨id, o, c, cs, g, ro, rfl, h1, by rw [hk id rfl]; exact h2, h3, h4⟩

theorem RowS.rb {q : List Nat} (h : RowS H sl (u8s bs) q) : RB H sl bs := by
  rcases h with ⟨h1, rfl, rfl⟩ | ⟨sid, rest, g, rfl, rfl, hid⟩
  · refine .inl ⟨?_, .inl rfl⟩
    cases bs with
    | nil => rfl
    | cons b l => simp [u8s] at h1
  · refine .inr ⟨sid, 0, _, _, g, false, by rw [u8s_length], by first | omega | (rw [u8s_length]; omega), hid, ?_, ?_⟩
    · rw [List.length_append, u8s_length]; omega
    · rw [List.drop_zero, ← u8s_length bs, List.take_left]

/-- The first bytes, and what is left. -/
theorem RB.cut (h : RB H sl bs) {k : Nat} (hk : k ≤ bs.length) : ∃ a b, slv 1 sl none (some (iv k)) none H = some (a, H) ∧ slv 1 sl (some (iv k)) none none H = some (b, H) ∧ RB H a (bs.take k) ∧ RB H b (bs.drop k) ∧ (∀ j, own1 a = some j → own1 sl = some j) ∧ (∀ j, own1 b = some j → own1 sl = some j) := by
  have b1 : ∀ d, bnd (some (iv k)) d = some k := fun d => by simp [bnd]
  have b2 : ∀ d, bnd none d = some d := fun _ => rfl
  rcases h with ⟨rfl, h⟩ | ⟨id, o, c, cs, g, ro, rfl, h1, h2, h3, h4⟩
  · have hk0 : k = 0 := by simpa using hk
    subst hk0
    rcases h with rfl | ⟨id, o, j, rfl⟩
    · exact ⟨_, _, rfl, rfl, .inl ⟨rfl, .inl rfl⟩, .inl ⟨rfl, .inl rfl⟩, fun _ h => h, fun _ h => h⟩
    · exact ⟨_, _, rfl, rfl, .inl ⟨rfl, .inr ⟨_, _, _, rfl⟩⟩, .inl ⟨rfl, .inr ⟨_, _, _, rfl⟩⟩, fun _ h => h, fun _ h => h⟩
  · have hA : ∃ a, slv 1 (.slice (some ⟨id, o, none⟩) bs.length c) none (some (iv k)) none H = some (a, H) ∧ RB H a (bs.take k) ∧ (∀ j, own1 a = some j → some id = some j) := by
      by_cases h0 : c = 0
      · have hb : bs = [] := List.eq_nil_of_length_eq_zero (by omega)
        subst hb
        refine ⟨.slice (some ⟨id, o, some (bif g then 1 else 0)⟩) 0 0, ?_, .inl ⟨List.take_nil, .inr ⟨_, _, _, rfl⟩⟩, fun j h => by cases h⟩
        have hk0 : k = 0 := by simpa using hk
        subst hk0
        simp only [slv, h2, b1, b2]
        rw [if_pos ⟨trivial, by omega, by omega, Nat.le_refl _⟩, if_pos (by omega)]
      · have hl : (bs.take k).length = k := by simp; omega
        refine ⟨.slice (some ⟨id, o, none⟩) k c, ?_, .inr ⟨id, o, c, cs, g, ro, by rw [hl], by omega, h2, by omega, ?_⟩, fun j h => h⟩
        · simp only [slv, h2, b1, b2]
          rw [if_pos ⟨trivial, by omega, by omega, Nat.le_refl _⟩, if_neg (by omega)]
          simp
        · have := congrArg (List.take k) h4
          rw [List.take_take, Nat.min_eq_left hk] at this
          rw [hl, this]
          simp [u8s, List.map_take]
    have hB : ∃ b, slv 1 (.slice (some ⟨id, o, none⟩) bs.length c) (some (iv k)) none none H = some (b, H) ∧ RB H b (bs.drop k) ∧ (∀ j, own1 b = some j → some id = some j) := by
      by_cases h0 : c = k
      · have hb : bs.drop k = [] := List.drop_eq_nil_of_le (by omega)
        refine ⟨.slice (some ⟨id, o, some (bif g then 1 else 0)⟩) 0 0, ?_, .inl ⟨hb, .inr ⟨_, _, _, rfl⟩⟩, fun j h => by cases h⟩
        simp only [slv, h2, b1, b2]
        rw [if_pos ⟨trivial, by omega, by omega, Nat.le_refl _⟩, if_pos (by omega)]
      · have hl : (bs.drop k).length = bs.length - k := by simp
        refine ⟨.slice (some ⟨id, o + k, none⟩) (bs.length - k) (c - k), ?_, .inr ⟨id, o + k, c - k, cs, g, ro, by rw [hl], by omega, h2, by omega, ?_⟩, fun j h => h⟩
        · simp only [slv, h2, b1, b2]
          rw [if_pos ⟨trivial, by omega, by omega, Nat.le_refl _⟩, if_neg (by omega)]
          simp
        · have := congrArg (List.drop k) h4
          rw [List.drop_take, List.drop_drop] at this
          rw [hl, this]
          simp [u8s, List.map_drop]
    obtain ⟨a, a1, a2, a3⟩ := hA
    obtain ⟨b, c1, c2, c3⟩ := hB
    exact ⟨a, b, a1, c1, a2, c2, a3, c3⟩

theorem Rdr.lt (h : Rdr H p s) : p < H.length := by
  obtain ⟨sl, hc, _⟩ := h
  exact get_lt hc

/-- What is written elsewhere is not looked at. -/
theorem Rdr.other {a : Nat} {o : AObj} (h : Rdr H p s) (ha : p < a) : Rdr (H.set a o) p s := by
  obtain ⟨sl, h1, h2, h3, h4⟩ := h
  exact ⟨sl, (List.getElem?_set_ne (by omega)).trans h1, h2.keep fun j hj => List.getElem?_set_ne (by have := h3 j hj; omega), h3, h4⟩

theorem Rdr.hle (h : Rdr H p s) (hl : HLe H X) : Rdr X p s := by
  obtain ⟨sl, hc, hr, hn, h0⟩ := h
  refine ⟨sl, hl _ _ hc, hr.keep fun j hj => ?_, hn, h0⟩
  rcases hr with ⟨_, rfl | ⟨id, o, k, rfl⟩⟩ | ⟨id, o, c, cs, g, ro, rfl, h1, h2, h3, h4⟩
  · cases hj
  · cases hj
  · cases hj
    rw [h2, hl _ _ h2]

/-- What a reader holds is written anew. -/
theorem Rdr.put {s' : RSt} {sl' : Value} (hc : H[p]? = some (.cells [x, v] 1 false false)) (hr : RB H sl' s'.2) (hn : ∀ j, own1 sl' = some j → j < p) (h0 : s'.1 ≠ 0 → s'.2 = []) : Rdr (H.set p (.cells [sl', iv s'.1] 1 false false)) p s' ∧ Step [p] H [p] (H.set p (.cells [sl', iv s'.1] 1 false false)) :=
  ⟨⟨sl', set_get hc, hr.keep fun j hj => List.getElem?_set_ne (fun e => by have := hn j hj; omega), hn, h0⟩, ⟨by simp, fun j hj hm => List.getElem?_set_ne (fun e => hm (by simp [e])), fun j hj => .inl hj⟩⟩

theorem r_fail {e : Nat} (he : e ≤ 1000) (h : Rdr H p s) : ∃ H', R (n + 1) n_octetReaderFail [pt p, iv e] H = some (.tuple #[], H') ∧ Rdr H' p (failS e s) ∧ Step [p] H [p] H' := by
  obtain ⟨sl, hc, hr, hn, h0⟩ := h
  have a1 : ld1 (pa p 1) H = some (iv s.1, H) := ld1_at hc rfl
  have f1 : ∀ H', F_octetReaderFail (R n) (pt p) (iv e) H = some (.tuple #[], H') → R (n + 1) n_octetReaderFail [pt p, iv e] H = some (.tuple #[], H') := fun H' hr => by rw [R, run_octetReaderFail rfl]; exact hr
  unfold failS
  by_cases hs : s.1 = 0
  · have q1 : bop .int .eql (iv s.1) (.int .i64 0) H = some (.bool true, H) := by rw [eql_r, hs]; rfl
    by_cases he0 : e = 0
    · have q2 : bop .int .neq (iv e) (.int .i64 0) H = some (.bool false, H) := by rw [neq_r, he0]; rfl
      rw [if_neg (by simp [he0])]
      refine ⟨H, f1 _ ?_, ⟨sl, hc, hr, hn, h0⟩, .refl _ _⟩
      unfold F_octetReaderFail
      rw [bind_eq nilc_r, bind_eq fa_z, bind_eq a1, bind_eq q1, b_g_in, b_assoc, bind_eq q2, b_ret, c2_r, bind_eq pick_r]
      simp only [cond_true]
      refine (jn_nrm (vs := []) (H' := H) ?_).trans ?_
      · rw [cnd_b, if_neg (by simp)]; rfl
      · rfl
    · have q2 : bop .int .neq (iv e) (.int .i64 0) H = some (.bool true, H) := by rw [neq_r]; simp [he0]
      rw [if_pos ⟨hs, he0⟩]
      have w1 : st1 (pa p 0) (.slice none 0 0) H = some (undef, H.set p (.cells [.slice none 0 0, iv s.1] 1 false false)) := st1_at (o := 0) hc (by simp) rfl
      have c1 : (H.set p (.cells [.slice none 0 0, iv s.1] 1 false false))[p]? = some (.cells [.slice none 0 0, iv s.1] 1 false false) := set_get hc
      have w2 : st1 (pa p 1) (iv e) (H.set p (.cells [.slice none 0 0, iv s.1] 1 false false)) = some (undef, (H.set p (.cells [.slice none 0 0, iv s.1] 1 false false)).set p (.cells [.slice none 0 0, iv e] 1 false false)) := st1_at (o := 1) c1 (by simp) rfl
      rw [List.set_set] at w2
      have hp := Rdr.put (s' := (e, [])) (sl' := .slice none 0 0) hc (.inl ⟨rfl, .inl rfl⟩) (by simp [own1]) (fun _ => rfl)
      refine ⟨_, f1 _ ?_, hp.1, hp.2⟩
      unfold F_octetReaderFail
      rw [bind_eq nilc_r, bind_eq fa_z, bind_eq a1, bind_eq q1, b_g_in, b_assoc, bind_eq q2, b_ret, c2_r, bind_eq pick_r]
      simp only [cond_true]
      refine (jn_nrm (vs := []) (H' := H.set p (.cells [.slice none 0 0, iv e] 1 false false)) ?_).trans ?_
      · rw [cnd_b, if_pos (by simp), bind_eq nilc_r, bind_eq fa_z, bind_eq w1, bind_eq nilc_r, bind_eq fa_z, bind_eq w2]; rfl
      · rfl
  · have q1 : bop .int .eql (iv s.1) (.int .i64 0) H = some (.bool false, H) := by rw [eql_r]; simp [hs]
    rw [if_neg (by simp [hs])]
    refine ⟨H, f1 _ ?_, ⟨sl, hc, hr, hn, h0⟩, .refl _ _⟩
    unfold F_octetReaderFail
    rw [bind_eq nilc_r, bind_eq fa_z, bind_eq a1, bind_eq q1, bind_eq (g_r.trans (if_neg (by simp)))]
    simp only [List.replicate]
    rw [c2_r, bind_eq pick_r]
    simp only [cond_false]
    refine (jn_nrm (vs := []) (H' := H) ?_).trans ?_
    · rw [cnd_b, if_neg (by simp)]; rfl
    · rfl

theorem failS_2 (h : s.1 ≠ 0 → s.2 = []) : ((failS n s).1 ≠ 0 → (failS n s).2 = []) := by
  unfold failS
  split
  · exact fun _ => rfl
  · exact h

theorem r_take {k : Nat} (hk : k ≤ 1000000000) (h : Rdr H p s) : ∃ v H', R (n + 2) n_octetReaderTake [pt p, iv k] H = some (v, H') ∧ RB H' v (tkS k s).1 ∧ Rdr H' p (tkS k s).2 ∧ Step [p] H [p] H' := by
  have h' := h
  obtain ⟨sl, hc, hr, hn, h0⟩ := h
  have a1 : ld1 (pa p 0) H = some (sl, H) := ld1_at hc rfl
  have hl : lenS sl H = some (iv s.2.length, H) := by have := hr.rd.len (H' := H); rwa [u8s_length] at this
  have f1 : ∀ r H', F_octetReaderTake (R (n + 1)) (pt p) (iv k) H = some (r, H') → R (n + 2) n_octetReaderTake [pt p, iv k] H = some (r, H') := fun r H' hr => by rw [R, run_octetReaderTake rfl]; exact hr
  unfold tkS
  by_cases hle : k ≤ s.2.length
  · rw [if_pos hle]
    obtain ⟨a, b, e1, e2, ra, rb, oa, ob⟩ := hr.cut hle
    have q1 : bop .int .gtr (iv k) (iv s.2.length) H = some (.bool false, H) := by rw [gtr_r, decide_eq_false (by omega)]
    have w1 : st1 (pa p 0) b H = some (undef, H.set p (.cells [b, iv s.1] 1 false false)) := st1_at (o := 0) hc (by simp) rb.one
    have hp := Rdr.put (s' := (s.1, s.2.drop k)) (sl' := b) hc rb (fun j e => hn j (ob _ e)) (fun h => by simp [h0 h])
    refine ⟨a, _, f1 _ _ ?_, ra.keep fun j hj => List.getElem?_set_ne (fun e => by have := hn j (oa _ hj); omega), hp.1, hp.2⟩
    unfold F_octetReaderTake
    rw [bind_eq nilc_r, bind_eq fa_z, bind_eq a1, bind_eq hl, bind_eq q1, cnd_b, if_neg (by simp), bind_eq nilc_r, bind_eq fa_z, bind_eq a1, bind_eq e1, bind_eq nilc_r, bind_eq fa_z, bind_eq a1, bind_eq e2, bind_eq nilc_r, bind_eq fa_z, bind_eq w1]
    rfl
  · rw [if_neg hle]
    have q1 : bop .int .gtr (iv k) (iv s.2.length) H = some (.bool true, H) := by rw [gtr_r, decide_eq_true (by omega)]
    obtain ⟨H', e2, r2, s2⟩ := r_fail (n := n) (e := 2) (by omega) h'
    have e2 : R (n + 1) n_octetReaderFail [pt p, .int .i64 2] H = _ := e2
    refine ⟨.slice none 0 0, H', f1 _ _ ?_, .inl ⟨rfl, .inl rfl⟩, r2, s2⟩
    unfold F_octetReaderTake
    rw [bind_eq nilc_r, bind_eq fa_z, bind_eq a1, bind_eq hl, bind_eq q1, cnd_b, if_pos rfl, bind_eq e2]
    rfl

theorem rnum_do {bs : List UInt8} (hb : bs.length ≤ 8) (hs : Sl X v (u8s bs)) : ∀ (t k : Nat), bs.length - k = t → k ≤ bs.length →
    loopM (c4 (F_octetReaderNum.l1 (R n))) [.int .u64 (leN (bs.take k)), v, iv bs.length, iv k] X = some (.ext 0 [.int .u64 (leN bs)], X)
  | 0, k, ht, hk => by
    have : k = bs.length := by omega
    subst this
    refine loop_ext ?_
    rw [c4_r, List.take_length]
    unfold F_octetReaderNum.l1
    rw [bind_eq lss_r, cnd_b, if_neg (by simp)]
    rfl
  | t + 1, k, ht, hk => by
    have hkl : k < bs.length := by omega
    have hlt : (k : Int) < bs.length := by omega
    have hg := List.getElem?_eq_getElem hkl
    have htk : bs.take (k + 1) = bs.take k ++ [bs[k]] := (List.take_append_getElem hkl).symm
    generalize bs[k] = b at hg htk
    have hkk : (u8s bs)[k]? = some (.int .u8 b.toNat) := by simp [u8s, hg]
    have x1 := hs.ix (i := k) (by rw [u8s_length]; exact hkl) .i64 X
    have x2 := hs.ldx hkk
    have hb2 : b.toNat < 256 := b.toNat_lt
    have hlen : (bs.take k).length = k := by simp; omega
    have hpow : 2 ^ (8 * k) ≤ 2 ^ 56 := Nat.pow_le_pow_right (by decide) (by omega)
    have hlt2 : leN (bs.take k) < 2 ^ (8 * k) := by
      have := leN_lt (bs.take k)
      rw [hlen] at this
      rwa [Nat.pow_mul]
    have hprod : b.toNat * 2 ^ (8 * k) ≤ 255 * 2 ^ 56 := Nat.mul_le_mul (by omega) hpow
    have c1 : cvi .u64 (.int .u8 b.toNat) X = some (.int .u64 b.toNat, X) := by rw [cvi_r, wu64, Int.emod_eq_of_lt (by omega) (by omega)]
    have c2 : bop .int .mul (.int .i64 8) (iv k) X = some (iv ((8 * k : Nat) : Int), X) := by rw [mul_r, w64 (by omega) (by omega)]; simp
    have c3 : bop .int .shl (.int .u64 b.toNat) (iv ((8 * k : Nat) : Int)) X = some (.int .u64 ((b.toNat * 2 ^ (8 * k) : Nat) : Int), X) := by
      rw [shl_r, if_neg (by omega)]
      have hm : min ((8 * k : Nat) : Int).toNat IntKind.u64.bits = 8 * k := by
        rw [Int.toNat_natCast]
        show min (8 * k) 64 = 8 * k
        omega
      have hc : (b.toNat : Int) * 2 ^ (8 * k) = ((b.toNat * 2 ^ (8 * k) : Nat) : Int) := by push_cast; rfl
      rw [hm, hc, wu64, Int.emod_eq_of_lt (by omega) (by omega)]
    have c4' : bop .int .or (.int .u64 (leN (bs.take k))) (.int .u64 ((b.toNat * 2 ^ (8 * k) : Nat) : Int)) X = some (.int .u64 (leN (bs.take (k + 1))), X) := by
      rw [or_r]
      have ho : ((BitVec.ofInt IntKind.u64.bits (leN (bs.take k) : Int) ||| BitVec.ofInt IntKind.u64.bits ((b.toNat * 2 ^ (8 * k) : Nat) : Int)).toNat) = leN (bs.take (k + 1)) := by
        rw [BitVec.toNat_or, BitVec.ofInt_natCast, BitVec.ofInt_natCast, BitVec.toNat_ofNat, BitVec.toNat_ofNat]
        show leN (bs.take k) % 2 ^ 64 ||| (b.toNat * 2 ^ (8 * k)) % 2 ^ 64 = _
        rw [Nat.mod_eq_of_lt (by omega), Nat.mod_eq_of_lt (by omega), htk, leN_snoc, hlen, Nat.or_comm, ← Nat.shiftLeft_eq, ← Nat.shiftLeft_add_eq_or_of_lt hlt2, Nat.add_comm]
      rw [ho]
      have : leN (bs.take (k + 1)) < 2 ^ 64 := by
        rw [htk, leN_snoc, hlen]; omega
      rw [wu64, Int.emod_eq_of_lt (by omega) (by omega)]
    refine (loop_next ?_).trans (rnum_do hb hs t (k + 1) (by omega) (by omega))
    rw [c4_r]
    unfold F_octetReaderNum.l1
    rw [bind_eq lss_r, cnd_b, if_pos (by simpa using hlt), bind_eq x1, bind_eq x2, bind_eq c1, bind_eq c2, bind_eq c3, bind_eq c4', bind_eq add_r, wsuc (by omega)]
    rfl

theorem tkS_len {k : Nat} : (tkS k s).1.length ≤ k := by
  unfold tkS
  split
  · simp; omega
  · exact Nat.zero_le _

theorem r_rnum {k : Nat} (hk : k ≤ 8) (h : Rdr H p s) : ∃ H', R (n + 3) n_octetReaderNum [pt p, iv k] H = some (.int .u64 (numS k s).1, H') ∧ Rdr H' p (numS k s).2 ∧ Step [p] H [p] H' := by
  obtain ⟨v, H', e1, rb, r1, s1⟩ := r_take (n := n) (k := k) (by omega) h
  have hl := tkS_len (k := k) (s := s)
  have e2 : lenS v H' = some (iv (tkS k s).1.length, H') := by have := rb.rd.len (H' := H'); rwa [u8s_length] at this
  have e3 := rnum_do (n := n + 2) (bs := (tkS k s).1) (by omega) rb.rd (tkS k s).1.length 0 (by omega) (by omega)
  have e3 : loopM (c4 (F_octetReaderNum.l1 (R (n + 2)))) [.int .u64 0, v, iv (tkS k s).1.length, .int .i64 0] H' = _ := e3
  refine ⟨H', ?_, r1, s1⟩
  rw [R, run_octetReaderNum rfl]
  unfold F_octetReaderNum
  rw [bind_eq e1, bind_eq e2, jn_ext e3, xk_hit]
  rfl

theorem numS_lt {k : Nat} : (numS k s).1 < 256 ^ k :=
  Nat.lt_of_lt_of_le (leN_lt _) (Nat.pow_le_pow_right (by decide) tkS_len)

theorem r_byte (h : Rdr H p s) : ∃ H', R (n + 4) n_octetReaderByte [pt p] H = some (.int .u8 (numS 1 s).1, H') ∧ Rdr H' p (numS 1 s).2 ∧ Step [p] H [p] H' := by
  obtain ⟨H', e, r, st⟩ := r_rnum (n := n) (k := 1) (by omega) h
  have e : R (n + 3) n_octetReaderNum [pt p, .int .i64 1] H = _ := e
  have hl := numS_lt (s := s) (k := 1)
  have c1 : cvi .u8 (.int .u64 (numS 1 s).1) H' = some (.int .u8 (numS 1 s).1, H') := by rw [cvi_r, wu8, Int.emod_eq_of_lt (by omega) (by omega)]
  refine ⟨H', ?_, r, st⟩
  rw [R, run_octetReaderByte rfl]
  unfold F_octetReaderByte
  rw [bind_eq e, bind_eq c1]
  rfl

theorem r_two (h : Rdr H p s) : ∃ H', R (n + 4) n_octetReaderTwo [pt p] H = some (.int .u16 (numS 2 s).1, H') ∧ Rdr H' p (numS 2 s).2 ∧ Step [p] H [p] H' := by
  obtain ⟨H', e, r, st⟩ := r_rnum (n := n) (k := 2) (by omega) h
  have e : R (n + 3) n_octetReaderNum [pt p, .int .i64 2] H = _ := e
  have hl := numS_lt (s := s) (k := 2)
  have c1 : cvi .u16 (.int .u64 (numS 2 s).1) H' = some (.int .u16 (numS 2 s).1, H') := by rw [cvi_r, wu16, Int.emod_eq_of_lt (by omega) (by omega)]
  refine ⟨H', ?_, r, st⟩
  rw [R, run_octetReaderTwo rfl]
  unfold F_octetReaderTwo
  rw [bind_eq e, bind_eq c1]
  rfl

theorem r_count {most : Nat} (hm : most ≤ 1000000) (h : Rdr H p s) : ∃ H', R (n + 5) n_octetReaderCount [pt p, iv most] H = some (iv (countS most s).1, H') ∧ Rdr H' p (countS most s).2 ∧ Step [p] H [p] H' := by
  obtain ⟨H1, e1, r1, s1⟩ := r_two (n := n) h
  have hl := numS_lt (s := s) (k := 2)
  have c1 : cvi .i64 (.int .u16 (numS 2 s).1) H1 = some (iv (numS 2 s).1, H1) := by rw [cvi_r, w64 (by omega) (by omega)]
  have c2 : mxi true (.int .i64 0) (iv most) H1 = some (iv most, H1) := by
    rw [mx_r]
    by_cases h0 : (most : Int) > 0
    · rw [if_pos h0]
    · rw [if_neg h0, show (most : Int) = 0 by omega]
  have f1 : ∀ r H', F_octetReaderCount (R (n + 4)) (pt p) (iv most) H = some (r, H') → R (n + 5) n_octetReaderCount [pt p, iv most] H = some (r, H') := fun r H' hr => by rw [R, run_octetReaderCount rfl]; exact hr
  unfold countS
  by_cases hg : (numS 2 s).1 > most
  · rw [if_pos hg]
    have q1 : bop .int .gtr (iv (numS 2 s).1) (iv most) H1 = some (.bool true, H1) := by rw [gtr_r, decide_eq_true (by omega)]
    obtain ⟨H2, e2, r2, s2⟩ := r_fail (n := n + 3) (e := 3) (by omega) r1
    have e2 : R (n + 4) n_octetReaderFail [pt p, .int .i64 3] H1 = _ := e2
    refine ⟨H2, f1 _ _ ?_, r2, s1.trans s2⟩
    unfold F_octetReaderCount
    rw [bind_eq e1, bind_eq c1, bind_eq c2, bind_eq q1, cnd_b, if_pos rfl, bind_eq e2]
    rfl
  · rw [if_neg hg]
    have q1 : bop .int .gtr (iv (numS 2 s).1) (iv most) H1 = some (.bool false, H1) := by rw [gtr_r, decide_eq_false (by omega)]
    refine ⟨H1, f1 _ _ ?_, r1, s1⟩
    unfold F_octetReaderCount
    rw [bind_eq e1, bind_eq c1, bind_eq c2, bind_eq q1, cnd_b, if_neg (by simp)]
    rfl

theorem countS_lt {most : Nat} : (countS most s).1 < 65536 := by
  have hl := numS_lt (s := s) (k := 2)
  unfold countS
  split
  · show 0 < 65536
    decide
  · exact hl

theorem r_text {most : Nat} (hm : most ≤ 1000000) (h : Rdr H p s) : ∃ H', R (n + 6) n_octetReaderText [pt p, iv most] H = some (strv (textS most s).1, H') ∧ Rdr H' p (textS most s).2 ∧ Step [p] H [p] H' := by
  obtain ⟨H1, e1, r1, s1⟩ := r_count (n := n) hm h
  have hl := countS_lt (s := s) (most := most)
  obtain ⟨v, H2, e2, rb, r2, s2⟩ := r_take (n := n + 3) (k := (countS most s).1) (by omega) r1
  have e2 : R (n + 5) n_octetReaderTake [pt p, iv (countS most s).1] H1 = _ := e2
  refine ⟨H2, ?_, r2, s1.trans s2⟩
  rw [R, run_octetReaderText rfl]
  unfold F_octetReaderText
  rw [bind_eq e1, bind_eq e2, bind_eq (b2s_v rb.rd)]
  rfl

theorem r_err (h : Rdr H p s) : R (n + 1) n_octetReaderErr [pt p] H = some (iv s.1, H) := by
  obtain ⟨sl, hc, hr, hn, h0⟩ := h
  have a1 : ld1 (pa p 1) H = some (iv s.1, H) := ld1_at hc rfl
  rw [R, run_octetReaderErr rfl]
  unfold F_octetReaderErr
  rw [bind_eq nilc_r, bind_eq fa_z, bind_eq a1]
  rfl

/-- The first error, or that bytes are left. -/
def endS (s : RSt) : Nat := if s.1 = 0 then (if s.2 = [] then 0 else 3) else s.1

theorem r_end (h : Rdr H p s) : R (n + 1) n_octetReaderEnd [pt p] H = some (iv (endS s), H) := by
  obtain ⟨sl, hc, hr, hn, h0⟩ := h
  have a0 : ld1 (pa p 0) H = some (sl, H) := ld1_at hc rfl
  have a1 : ld1 (pa p 1) H = some (iv s.1, H) := ld1_at hc rfl
  have hl : lenS sl H = some (iv s.2.length, H) := by have := hr.rd.len (H' := H); rwa [u8s_length] at this
  unfold endS
  rw [R, run_octetReaderEnd rfl]
  unfold F_octetReaderEnd
  by_cases hs : s.1 = 0
  · have q1 : bop .int .eql (iv s.1) (.int .i64 0) H = some (.bool true, H) := by rw [eql_r, hs]; rfl
    rw [if_pos hs, bind_eq nilc_r, bind_eq fa_z, bind_eq a1, bind_eq q1, b_g_in, b_assoc, bind_eq nilc_r, b_assoc, bind_eq fa_z, b_assoc, bind_eq a0, b_assoc, bind_eq hl, b_assoc, bind_eq gtr_r, b_ret, c6_r, bind_eq pick_r]
    simp only [cond_true]
    rw [cnd_b]
    by_cases he : s.2 = []
    · rw [if_neg (by simp [he]), if_pos he, bind_eq nilc_r, bind_eq fa_z, bind_eq a1, hs]
      rfl
    · have : 0 < s.2.length := List.length_pos_iff.2 he
      rw [if_pos (by simp; omega), if_neg he]
      rfl
  · have q1 : bop .int .eql (iv s.1) (.int .i64 0) H = some (.bool false, H) := by rw [eql_r]; simp [hs]
    rw [if_neg hs, bind_eq nilc_r, bind_eq fa_z, bind_eq a1, bind_eq q1, bind_eq (g_r.trans (if_neg (by simp)))]
    simp only [List.replicate]
    rw [c6_r, bind_eq pick_r]
    simp only [cond_false]
    rw [cnd_b, if_neg (by simp), bind_eq nilc_r, bind_eq fa_z, bind_eq a1]
    rfl

/-- A reader of bytes. -/
theorem r_rof {b : Value} {bs : List UInt8} (hb : Sl H b (u8s bs)) (hp : bs.length ≤ 140737488355328) : ∃ p H', R (n + 2) n_octetOf [b] H = some (pt p, H') ∧ Rdr H' p (0, bs) ∧ HLe H H' ∧ H.length ≤ p := by
  obtain ⟨v, q, H1, e1, r1, l1, o1⟩ := r_clone (n := n) hb hp
  have e2 : bld (.agg #[.slice none 0 0, .int .i64 0]) [(0, 1, v)] H1 = some (.agg #[v, iv 0], H1) := by
    rcases r1 with ⟨_, _, rfl⟩ | ⟨_, _, _, rfl, _, _⟩ <;> rfl
  have e3 : alc 1 (.agg #[v, iv 0]) H1 = some (pt H1.length, H1 ++ [.cells [v, iv 0] 1 false false]) := alc_a (vs := [v, iv 0]) (by rw [List.all_cons, r1.one.1]; rfl)
  have hl := l1.len
  refine ⟨H1.length, _, ?_, ⟨v, app_new, r1.rb.keep fun j hj => ?_, fun j e => ?_, fun h => absurd rfl h⟩, l1.trans (.app _ _), hl⟩
  · rw [R, run_octetOf rfl]
    unfold F_octetOf
    rw [bind_eq e1, bind_eq e2, bind_eq e3]
    rfl
  · have := r1.lt j (by rw [r1.own1 hj]; simp)
    exact List.getElem?_append_left this
  · exact r1.lt j (by rw [r1.own1 e]; simp)

end

end Go.Proofs.YtlpibiaokpbhbaaGreatDoor.A
