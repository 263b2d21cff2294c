/- Users make a directory just if the document says so, and are told by it again; it shares nothing with them. -/
import Derived.Test.YtmacmlpiheimhaaDoorOfB
namespace Go.Proofs.YtmacmlpiheimhaaDoor.A
set_option linter.unusedVariables false
set_option linter.unusedSimpArgs false
open Go.Proofs Go.Proofs.YtmacmlpiheimhaaDoor

/-- A row that may be written. -/
def Wr (X : Heap) (v : Value) (n : Nat) (q : List Nat) : Prop :=
  n = 0 ∨ ∃ id c cs e g, v = .slice (some ⟨id, 0, none⟩) n c ∧ q = [id] ∧ X[id]? = some (.cells cs e g false) ∧ n * 5 ≤ cs.length

section
variable {H0 H X : Heap} {n p d b : Nat} {u : UsrA} {us : List UsrA} {sl dv v : Value} {q : List Nat}

theorem Wr.st {N : Nat} (h : Wr X v N q) {i f : Nat} (hi : i < N) (hf : f < 5) {s : List UInt8} : ∃ id o X', ixa 5 v (iv i) X = some (pa id o, X) ∧ st1 (pa id (o + f)) (strv s) X = some (undef, X') ∧ Wr X' v N q ∧ Step q X q X' := by
  rcases h with h | ⟨id, c, cs, e, g, rfl, rfl, hid, hl⟩
  · omega
  · refine ⟨id, 0 + i * 5, _, ?_, stOne_r.trans ?_, .inr ⟨id, c, cs.set (0 + i * 5 + f) (strv s), e, g, rfl, rfl, set_get hid, by simpa using hl⟩, ⟨by simp, fun j hj hn => List.getElem?_set_ne (fun e => hn (by simp [e])), fun j hj => .inl hj⟩⟩
    · rw [ixa_r, if_pos (by omega)]
      simp
    · rw [hid, wrk_r, if_pos ⟨by omega, rfl⟩]

theorem RowN.wr {rows : List (List Value)} (h : RowN 5 X v rows q) : Wr X v rows.length q := by
  rcases h with ⟨rfl, _, _⟩ | ⟨sid, rest, r, g, rfl, rfl, hid, hr, hx⟩
  · exact .inl rfl
  · exact .inr ⟨sid, _, _, _, g, rfl, rfl, hid, by rw [List.length_append, flat_len hx]; omega⟩

theorem wr1_do {z1 z2 : Value} {N : Nat} (hN : N ≤ 1000) : ∀ (t k : Nat) (X : Heap), N - k = t → k ≤ N → Wr X v N q →
    ∃ X', loopM (c5 (F_law07ElderOf.l2 (R n))) [z1, v, z2, iv N, iv k] X = some (.ext 2 [z1, z2], X') ∧ Step q X q X'
  | 0, k, X, ht, hk, hw => by
    have : k = N := by omega
    subst this
    refine ⟨X, loop_ext ?_, .refl _ _⟩
    rw [c5_r]
    unfold F_law07ElderOf.l2
    rw [bind_eq lss_r, cnd_b, if_neg (by simp)]
    rfl
  | t + 1, k, X, ht, hk, hw => by
    have hlt : (k : Int) < N := by omega
    obtain ⟨id, o, X1, e1, e2, w1, s1⟩ := hw.st (i := k) (f := 0) (s := [122, 122, 122]) (by omega) (by omega)
    obtain ⟨X2, e3, s2⟩ := wr1_do (z1 := z1) (z2 := z2) hN t (k + 1) X1 (by omega) (by omega) w1
    refine ⟨X2, (loop_next ?_).trans e3, s1.trans s2⟩
    have e2 : st1 (pa id (o + 0)) (.string ⟨#[122, 122, 122]⟩) X = _ := e2
    rw [c5_r]
    unfold F_law07ElderOf.l2
    rw [bind_eq lss_r, cnd_b, if_pos (by simpa using hlt), bind_eq e1, bind_eq fa_r, bind_eq e2, bind_eq add_r, wsuc (by omega)]
    rfl

theorem wr2_do {z1 z2 : Value} {N : Nat} (hN : N ≤ 1000) : ∀ (t k : Nat) (X : Heap), N - k = t → k ≤ N → Wr X v N q →
    ∃ X', loopM (c5 (F_law07ElderOf.l3 (R n))) [z1, z2, v, iv N, iv k] X = some (.ext 4 [z1, z2], X') ∧ Step q X q X'
  | 0, k, X, ht, hk, hw => by
    have : k = N := by omega
    subst this
    refine ⟨X, loop_ext ?_, .refl _ _⟩
    rw [c5_r]
    unfold F_law07ElderOf.l3
    rw [bind_eq lss_r, cnd_b, if_neg (by simp)]
    rfl
  | t + 1, k, X, ht, hk, hw => by
    have hlt : (k : Int) < N := by omega
    obtain ⟨id, o, X1, e1, e2, w1, s1⟩ := hw.st (i := k) (f := 1) (s := [48]) (by omega) (by omega)
    obtain ⟨X2, e3, s2⟩ := wr2_do (z1 := z1) (z2 := z2) hN t (k + 1) X1 (by omega) (by omega) w1
    refine ⟨X2, (loop_next ?_).trans e3, s1.trans s2⟩
    have e2 : st1 (pa id (o + 1)) (.string ⟨#[48]⟩) X = _ := e2
    rw [c5_r]
    unfold F_law07ElderOf.l3
    rw [bind_eq lss_r, cnd_b, if_pos (by simpa using hlt), bind_eq e1, bind_eq fa_r, bind_eq e2, bind_eq add_r, wsuc (by omega)]
    rfl

/-- Users are laid into a row of their own. -/
theorem copy_us (hA : Users X sl us) (hn : us.length ≤ 1000) : ∃ s0 X1 v X2 id, bsl 5 0 (.agg #[.string ⟨#[]⟩, .string ⟨#[]⟩, .string ⟨#[]⟩, .bool false, .slice none 0 0]) [] X = some (s0, X1) ∧ app 5 80 s0 sl X1 = some (v, X2) ∧ Users X2 v us ∧ Wr X2 v us.length [id] ∧ HLe X X2 ∧ X.length ≤ id ∧ id < X2.length := by
  have e1 := bsl0 (es := 5) (z := .agg #[.string ⟨#[]⟩, .string ⟨#[]⟩, .string ⟨#[]⟩, .bool false, .slice none 0 0]) (H := X)
  have k1 : HLe X (X ++ [AObj.cells [] 5 false false]) := .app _ _
  have c1 : (X ++ [AObj.cells [] 5 false false])[X.length]? = some (.cells [] 5 false false) := app_new
  have l1 : (X ++ [AObj.cells [] 5 false false]).length = X.length + 1 := by simp
  have hA1 := hA.mono k1
  generalize X ++ [AObj.cells [] 5 false false] = X1 at e1 k1 c1 l1 hA1
  have hfc := hA1.1.fc
  have hfl := hA1.1.flen
  rw [List.length_map] at hfl
  by_cases h0 : us.length = 0
  · have hu : us = [] := List.eq_nil_of_length_eq_zero h0
    subst hu
    refine ⟨_, X1, .slice (some ⟨X.length, 0, none⟩) 0 0, X1, X.length, e1, ?_, ⟨SlN.whole (rows := []) (c := 0) (e := 5) (g := false) (ro := false) (by rw [c1]; rfl) (by simp), by simp⟩, .inl rfl, k1, Nat.le_refl _, by omega⟩
    unfold app
    rw [hfc]
    simp [hfl, c1]
  · have hall : ∀ r ∈ us.map UsrA.cells, r.length = 5 := fun r hr => by
      obtain ⟨u, _, rfl⟩ := List.mem_map.1 hr
      rfl
    refine ⟨_, X1, .slice (some ⟨X1.length, 0, none⟩) us.length us.length, X1 ++ [.cells (us.map UsrA.cells).flatten 5 true false], X1.length, e1, ?_, ⟨?_, fun u hu => GV.mono (hA1.2 u hu) (.app _ _)⟩, .inr ⟨X1.length, us.length, _, 5, true, rfl, rfl, app_new, ?_⟩, k1.trans (.app _ _), by omega, by simp⟩
    · unfold app
      rw [hfc]
      simp only [hfl, c1, if_true]
      rw [if_neg (by omega), if_pos ⟨by simp, by omega, by omega, by omega⟩]
      simp
    · have := SlN.whole (rows := us.map UsrA.cells) (c := us.length) (e := 5) (g := true) (ro := false) (id := X1.length) (H := X1 ++ [.cells (us.map UsrA.cells).flatten 5 true false]) app_new hall
      rwa [List.length_map] at this
    · rw [flat_len hall, List.length_map]; omega

/-- They are the same: what a directory tells, and what it was made of. -/
theorem r_same2 (hg : GV X u.gv u.gs) (hp : plainU u = true) : ∃ X', R (n + 1) n_ref06Same [.agg (usr (pairU u)).toArray, .agg u.cells.toArray] X = some (.bool true, X') ∧ HLe X X' := by
  unfold plainU at hp
  simp only [Bool.and_eq_true, beq_iff_eq, Bool.not_eq_true', decide_eq_true_eq] at hp
  obtain ⟨hm, hd, hl⟩ := hp
  have e1 : alc 1 (.agg (usr (pairU u)).toArray) X = some (pt X.length, X ++ [.cells (usr (pairU u)) 1 false false]) := by
    rw [alc_r]
    exact if_pos (show (usr (pairU u)).toArray.toList.all oneCell = true from rfl)
  have kA : HLe X (X ++ [.cells (usr (pairU u)) 1 false false]) := .app _ _
  have e2 := alc_u (u := u) (X := X ++ [.cells (usr (pairU u)) 1 false false]) (GV.mono hg kA)
  have k1 : HLe X (X ++ [AObj.cells (usr (pairU u)) 1 false false] ++ [AObj.cells u.cells 1 false false]) := (HLe.app _ _).trans (.app _ _)
  have c1 : (X ++ [AObj.cells (usr (pairU u)) 1 false false] ++ [AObj.cells u.cells 1 false false])[X.length]? = some (.cells (usr (pairU u)) 1 false false) := app2_0
  have c2 : (X ++ [AObj.cells (usr (pairU u)) 1 false false] ++ [AObj.cells u.cells 1 false false])[(X ++ [AObj.cells (usr (pairU u)) 1 false false]).length]? = some (.cells u.cells 1 false false) := app_new
  generalize X ++ [AObj.cells (usr (pairU u)) 1 false false] ++ [AObj.cells u.cells 1 false false] = X2 at e2 k1 c1 c2
  generalize (X ++ [AObj.cells (usr (pairU u)) 1 false false]).length = p2 at e2 c2
  generalize X.length = p1 at e1 c1
  have a0 : ∀ f x, (usr (pairU u))[f]? = some x → ld1 (pa p1 f) X2 = some (x, X2) := fun f x h => ld1_at c1 h
  have b0 : ∀ f x, u.cells[f]? = some x → ld1 (pa p2 f) X2 = some (x, X2) := fun f x h => ld1_at c2 h
  have q0 : ∀ a : List UInt8, bop .str .neq (strv a) (strv a) X2 = some (.bool false, X2) := fun a => by rw [nes_v]; simp
  have q1 : bop .bool .neq (.bool false) (.bool u.ds) X2 = some (.bool false, X2) := by rw [neb_r, hd]; rfl
  have q2 : bop .int .neq (iv 0) (iv u.gs.length) X2 = some (.bool false, X2) := by rw [neq_r, hl]; rfl
  have q3 : lenS (.slice none 0 0) X2 = some (iv 0, X2) := rfl
  have q4 := hg.len (H' := X2)
  have b2 : ld1 (pa p2 2) X2 = some (strv [], X2) := by rw [b0 2 _ rfl, hm]
  refine ⟨X2, ?_, k1⟩
  rw [R, run_ref06Same rfl]
  unfold F_ref06Same
  rw [bind_eq e1, bind_eq e2, bind_eq fa_z, bind_eq (a0 0 _ rfl), bind_eq fa_z, bind_eq (b0 0 _ rfl)]
  refine (bind_eq (q0 u.nm)).trans ?_
  rw [b_g_in, b_assoc, bind_eq fa_z, b_assoc, bind_eq (a0 1 _ rfl), b_assoc, bind_eq fa_z, b_assoc, bind_eq (b0 1 _ rfl), b_assoc]
  refine (bind_eq (q0 u.hs)).trans ?_
  rw [b_ret, c5_r, bind_eq pick_r]
  simp only [cond_false]
  rw [b_g_in, b_assoc, bind_eq fa_z, b_assoc, bind_eq (a0 2 _ rfl), b_assoc, bind_eq fa_z, b_assoc, bind_eq b2, b_assoc, bind_eq (q0 _), b_ret, c5_r, bind_eq pick_r]
  simp only [cond_false]
  rw [b_g_in, b_assoc, bind_eq fa_z, b_assoc, bind_eq (a0 3 _ rfl), b_assoc, bind_eq fa_z, b_assoc, bind_eq (b0 3 _ rfl), b_assoc, bind_eq q1, b_ret, c5_r, bind_eq pick_r]
  simp only [cond_false]
  rw [b_g_in, b_assoc, bind_eq fa_z, b_assoc, bind_eq (a0 4 _ rfl), b_assoc, bind_eq q3, b_assoc, bind_eq fa_z, b_assoc, bind_eq (b0 4 _ rfl), b_assoc, bind_eq q4, b_assoc, bind_eq q2, b_ret, c7_r, bind_eq pick_r]
  simp only [cond_false]
  rw [cnd_b, if_neg (by simp), bind_eq fa_z, bind_eq (a0 4 _ rfl), bind_eq q3]
  refine (jn_ext (j := 0) (vs := []) (H' := X2) (loop_ext ?_)).trans ?_
  · rw [c4_r]
    unfold F_ref06Same.l1
    rw [bind_eq lss_r, cnd_b, if_neg (by decide)]
    rfl
  · rw [xk_hit]; rfl

theorem sameO_do {a : Value} (hn : us.length ≤ 1000) (ha : SlN 5 H0 a ((us.map pairU).map usr)) (hc : Users H0 sl us) (hp : ∀ u ∈ us, plainU u = true) : ∀ (t j : Nat) (X : Heap), us.length - j = t → j ≤ us.length → HLe H0 X →
    ∃ X', loopM (c4 (F_law07SameUsers.l1 (R (n + 1)))) [a, sl, iv us.length, iv j] X = some (.ext 0 [], X') ∧ HLe H0 X'
  | 0, j, X, ht, hj, hle => by
    have : j = us.length := by omega
    subst this
    refine ⟨X, loop_ext ?_, hle⟩
    rw [c4_r]
    unfold F_law07SameUsers.l1
    rw [bind_eq lss_r, cnd_b, if_neg (by simp)]
    rfl
  | t + 1, j, X, ht, hj, hle => by
    have hjl : j < us.length := by omega
    have hlt : (j : Int) < us.length := by omega
    have hg := List.getElem?_eq_getElem hjl
    generalize us[j] = u at hg
    have hm := List.mem_of_getElem? hg
    have hr1 : ((us.map pairU).map usr)[j]? = some (usr (pairU u)) := by rw [List.getElem?_map, List.getElem?_map, hg]; rfl
    have hr2 : (us.map UsrA.cells)[j]? = some u.cells := by rw [List.getElem?_map, hg]; rfl
    have hf1 := fun {K : Value → M Out} => (ha.mono hle).fetch (k := K) hr1 (by omega) .i64
    have hf2 := fun {K : Value → M Out} => (hc.mono hle).1.fetch (k := K) hr2 (by omega) .i64
    obtain ⟨X1, e1, l1⟩ := r_same2 (n := n) (X := X) (u := u) ((hc.mono hle).2 u hm) (hp u hm)
    obtain ⟨X2, e2, l2⟩ := sameO_do hn ha hc hp t (j + 1) X1 (by omega) (by omega) (hle.trans l1)
    refine ⟨X2, (loop_next ?_).trans e2, l2⟩
    rw [c4_r]
    unfold F_law07SameUsers.l1
    rw [bind_eq lss_r, cnd_b, if_pos (by simpa using hlt), hf1, hf2, bind_eq e1, bind_eq not_r, cnd_b, if_neg (by simp), bind_eq add_r, wsuc (by omega)]
    rfl

theorem r_sameOf {a : Value} (hn : us.length ≤ 1000) (ha : SlN 5 X a ((us.map pairU).map usr)) (hc : Users X sl us) (hp : ∀ u ∈ us, plainU u = true) : ∃ X', R (n + 2) n_law07SameUsers [a, sl] X = some (.bool true, X') ∧ HLe X X' := by
  obtain ⟨X', e, l⟩ := sameO_do (n := n) hn ha hc hp us.length 0 X (by omega) (by omega) (.refl _)
  have e : loopM (c4 (F_law07SameUsers.l1 (R (n + 1)))) [a, sl, iv us.length, .int .i64 0] X = _ := e
  have h1 := ha.len (H' := X)
  rw [List.length_map, List.length_map] at h1
  have h2 := hc.len (H' := X)
  refine ⟨X', ?_, l⟩
  rw [R, run_law07SameUsers rfl]
  unfold F_law07SameUsers
  rw [bind_eq h1, bind_eq h2, bind_eq neq_r, cnd_b, if_neg (by simp), bind_eq h1, jn_ext e, xk_hit]
  rfl

/-- Each is little, or all is told. -/
theorem little_do (hn : us.length ≤ 1000) (hA : Users H0 sl us) : ∀ (t k : Nat) (X : Heap), us.length - k = t → k ≤ us.length → HLe H0 X →
    ∃ X', HLe H0 X' ∧ (loopM (c4 (F_law07ElderOf.l1 (R (n + 1)))) [sl, sl, iv us.length, iv k] X = some (.ext 0 [sl], X') ∨ loopM (c4 (F_law07ElderOf.l1 (R (n + 1)))) [sl, sl, iv us.length, iv k] X = some (.ret (.bool true), X'))
  | 0, k, X, ht, hk, hle => by
    have : k = us.length := by omega
    subst this
    refine ⟨X, hle, .inl (loop_ext ?_)⟩
    rw [c4_r]
    unfold F_law07ElderOf.l1
    rw [bind_eq lss_r, cnd_b, if_neg (by simp)]
    rfl
  | t + 1, k, X, ht, hk, hle => by
    have hkl : k < us.length := by omega
    have hlt : (k : Int) < us.length := by omega
    have hg := List.getElem?_eq_getElem hkl
    generalize us[k] = u at hg
    have hf := fun {K : Value → M Out} => (hA.mono hle).fetch (k := K) hg
    have hok := (hA.mono hle).2 u (List.mem_of_getElem? hg)
    have g1 : (X ++ [AObj.cells u.cells 1 false false])[X.length]? = some (.cells u.cells 1 false false) := app_new
    have k1 : HLe X (X ++ [AObj.cells u.cells 1 false false]) := .app _ _
    generalize X ++ [AObj.cells u.cells 1 false false] = X1 at g1 k1 hf
    have e1 : ldA 5 (pt X.length) X1 = some (.agg u.cells.toArray, X1) := ldA_at (n := 5) g1 rfl
    obtain ⟨bb, X2, e2, k2⟩ := r_few6 (n := n) (u := u) (X := X1) (GV.mono hok k1)
    have hb : c4 (F_law07ElderOf.l1 (R (n + 1))) [sl, sl, iv us.length, iv k] X = some (if bb then .nrm [sl, sl, iv us.length, iv ((k + 1 : Nat) : Int)] else .ret (.bool true), X2) := by
      rw [c4_r]
      unfold F_law07ElderOf.l1
      rw [bind_eq lss_r, cnd_b, if_pos (by simpa using hlt), hf, bind_eq e1, bind_eq e2, bind_eq not_r, cnd_b]
      cases bb
      · rw [if_pos (by rfl)]; rfl
      · rw [if_neg (by simp), bind_eq add_r, wsuc (by omega)]; rfl
    cases bb
    · exact ⟨X2, hle.trans (k1.trans k2), .inr (loop_ret hb)⟩
    · obtain ⟨X3, k3, h3⟩ := little_do hn hA t (k + 1) X2 (by omega) (by omega) (hle.trans (k1.trans k2))
      exact ⟨X3, k3, h3.imp (loop_next hb).trans (loop_next hb).trans⟩

theorem of_core (hA : Users H sl us) (hn : us.length ≤ 9223372036854775807) : ∃ H', R (n + 9) n_law07ElderOf [sl] H = some (.bool true, H') := by
  obtain ⟨H1, e1, l1⟩ := r_lives (n := n) (H := H)
  obtain ⟨H1', e1', _⟩ := r_lives (n := n) (H := H1)
  have e1 : R (n + 8) n_law07Lives [] H = _ := e1
  have e1' : R (n + 8) n_law07Lives [] H1 = _ := e1'
  have f1 : ∀ r H', F_law07ElderOf (R (n + 8)) sl H = some (r, H') → R (n + 9) n_law07ElderOf [sl] H = some (r, H') := fun r H' hr => by rw [R, run_law07ElderOf rfl]; exact hr
  have hA1 := hA.mono l1
  by_cases h30 : us.length ≤ 30
  · have q1 : bop .int .gtr (iv us.length) (.int .i64 30) H1 = some (.bool false, H1) := by rw [gtr_r, decide_eq_false (by omega)]
    obtain ⟨H2, k2, h2⟩ := little_do (n := n + 7) (by omega) hA1 us.length 0 H1 (by omega) (by omega) (.refl _)
    rcases h2 with e2 | e2
    · have e2 : loopM (c4 (F_law07ElderOf.l1 (R (n + 8)))) [sl, sl, iv us.length, .int .i64 0] H1 = _ := e2
      have hA2 := hA1.mono k2
      obtain ⟨s0, H3, ov, H4, oid, e3, e4, A4, W4, k4, o4, o4'⟩ := copy_us hA2 (by omega)
      obtain ⟨H5, dv, e5, k5, hz, hok⟩ := r_of' (n := n + 1) (by omega) A4
      obtain ⟨H6, e6, k6⟩ := r_refOf (n := n + 3) (by omega) ((hA2.mono k4).mono k5)
      have e5 : R (n + 8) n_elderOf [ov] H4 = _ := e5
      have e6 : R (n + 8) n_ref07Of [sl, .int .i64 1] H5 = _ := e6
      have q2 : bop .int .neq (iv (ofE us)) (iv (ofE us)) H6 = some (.bool false, H6) := by rw [neq_r]; simp
      by_cases hE : ofE us = 0
      · obtain ⟨d, b, rfl, D5, hR, od, ob⟩ := hok hE
        have hlen : (us.map pairU).length ≤ 12 := D5.few
        have hu12 : us.length ≤ 12 := by simpa using hlen
        have hsort : sortM (us.map pairU) = us.map pairU := by
          refine rise_ext (rise_sortM D5.g.nod) hR fun x => ?_
          rw [mem_sortM D5.g.nod]
          exact ⟨fun h => aget_mem h, fun h => aget_of_mem D5.g.nod h⟩
        have hplain : ∀ u ∈ us, plainU u = true := fun u hu => by
          have h1 : firstU us = 0 := by
            unfold ofE at hE
            by_cases h : firstU us = 0
            · exact h
            · rw [if_neg h] at hE; exact absurd hE h
          have he := firstU_0 h1 u hu
          unfold errU at he
          cases hp : plainU u
          · rw [hp] at he
            revert he
            cases nameB u.nm <;> cases sumB u.hs <;> simp
          · rfl
        have k46 := k5.trans k6
        have W6 : Wr H6 ov us.length [oid] := by
          rcases W4 with h | ⟨id, c, cs, e, g, h1, h2, h3, h4⟩
          · exact .inl h
          · exact .inr ⟨id, c, cs, e, g, h1, h2, k46 _ _ h3, h4⟩
        obtain ⟨H7, e7, s7⟩ := wr1_do (n := n + 8) (z1 := sl) (z2 := pt d) (N := us.length) (by omega) us.length 0 H6 (by omega) (by omega) W6
        have e7 : loopM (c5 (F_law07ElderOf.l2 (R (n + 8)))) [sl, ov, pt d, iv us.length, .int .i64 0] H6 = _ := e7
        have D6 := D5.hle k6
        have D7 : Dir H7 d b (us.map pairU) := D6.step s7 (by simp; omega) (by simp; omega)
        have hle7 : HLe H2 H7 := (HLe.more (k4.trans k46) s7 (by simpa using o4)).1
        obtain ⟨gv, q8, H8, e8, r8, l8, o8⟩ := r_eldAll (n := n + 5) D7
        have e8 : R (n + 8) n_elderDirAll [pt d] H7 = _ := e8
        have W8 := r8.wr
        rw [hsort, List.length_map, List.length_map] at W8
        obtain ⟨H9, e9, s9⟩ := wr2_do (n := n + 8) (z1 := sl) (z2 := pt d) (N := us.length) (by omega) us.length 0 H8 (by omega) (by omega) W8
        have e9 : loopM (c5 (F_law07ElderOf.l3 (R (n + 8)))) [sl, pt d, gv, iv us.length, .int .i64 0] H8 = _ := e9
        have hD7 := D7.lt
        have D9 : Dir H9 d b (us.map pairU) := (D7.hle l8).step s9 (fun h => by have := o8 _ h; omega) (fun h => by have := o8 _ h; omega)
        have hle9 : HLe H2 H9 := (HLe.more (hle7.trans l8) s9 (fun j hj => by have := o8 _ hj; have := hle7.len; omega)).1
        obtain ⟨av, qa, H10, e10, r10, l10, o10⟩ := r_eldAll (n := n + 5) D9
        have e10 : R (n + 8) n_elderDirAll [pt d] H9 = _ := e10
        have hA10 := hA2.mono (hle9.trans l10)
        have r10' := r10.rd
        rw [hsort] at r10'
        obtain ⟨H11, e11, l11⟩ := r_sameOf (n := n + 6) (by omega) r10' hA10 hplain
        have e11 : R (n + 8) n_law07SameUsers [av, sl] H10 = _ := e11
        have e12 := r_len (n := n + 7) ((D9.hle l10).hle l11)
        have e12 : R (n + 8) n_elderDirLen [pt d] H11 = some (iv (us.map pairU).length, H11) := e12
        rw [List.length_map] at e12
        have ez : lenS ov H6 = some (iv us.length, H6) := A4.len
        have ey : lenS gv H8 = some (iv us.length, H8) := by
          have := r8.rd.len (H' := H8)
          rwa [hsort, List.length_map, List.length_map] at this
        have zz : bop .int .eql (iv us.length) (iv us.length) H11 = some (.bool true, H11) := by rw [eql_r]; simp
        rw [hE] at e5 e6 q2
        have q3 : bop .int .neq (iv 0) (.int .i64 0) H6 = some (.bool false, H6) := by rw [neq_r]; rfl
        refine ⟨H11, f1 _ _ ?_⟩
        unfold F_law07ElderOf
        rw [bind_eq e1, bind_eq not_r]
        simp only [Bool.not_true]
        rw [b_g_in, b_assoc, bind_eq hA.len, b_assoc, bind_eq q1, b_ret, c3_r, bind_eq pick_r]
        simp only [cond_false]
        rw [cnd_b, if_neg (by simp), bind_eq hA.len, jn_ext e2, xk_hit, c1_r, bind_eq e3, bind_eq e4, bind_eq e5, bind_eq extr_p0, bind_eq extr_p1, bind_eq e6, bind_eq q2, cnd_b, if_neg (by simp), bind_eq q3, cnd_b, if_neg (by simp), bind_eq ez, jn_ext e7, xk_hit, c2_r, bind_eq e8, bind_eq ey, jn_ext e9, xk_hit, c2_r, bind_eq e10, bind_eq e11, b_g_in, b_assoc, bind_eq e12, b_assoc, bind_eq hA.len, b_assoc, bind_eq zz, b_ret, c5_r, bind_eq pick_r]
        rfl
      · have hd := hz hE
        subst hd
        have q3 : bop .int .neq (iv (ofE us)) (.int .i64 0) H6 = some (.bool true, H6) := by rw [neq_r]; simp [hE]
        have q4 : bop .ptr .eql (.pointer none) (.pointer none) H6 = some (.bool true, H6) := by simp [bop, eqv]
        refine ⟨H6, f1 _ _ ?_⟩
        unfold F_law07ElderOf
        rw [bind_eq e1, bind_eq not_r]
        simp only [Bool.not_true]
        rw [b_g_in, b_assoc, bind_eq hA.len, b_assoc, bind_eq q1, b_ret, c3_r, bind_eq pick_r]
        simp only [cond_false]
        rw [cnd_b, if_neg (by simp), bind_eq hA.len, jn_ext e2, xk_hit, c1_r, bind_eq e3, bind_eq e4, bind_eq e5, bind_eq extr_p0, bind_eq extr_p1, bind_eq e6, bind_eq q2, cnd_b, if_neg (by simp), bind_eq q3, cnd_b, if_pos rfl, bind_eq q4]
        rfl
    · have e2 : loopM (c4 (F_law07ElderOf.l1 (R (n + 8)))) [sl, sl, iv us.length, .int .i64 0] H1 = _ := e2
      refine ⟨H2, f1 _ _ ?_⟩
      unfold F_law07ElderOf
      rw [bind_eq e1, bind_eq not_r]
      simp only [Bool.not_true]
      rw [b_g_in, b_assoc, bind_eq hA.len, b_assoc, bind_eq q1, b_ret, c3_r, bind_eq pick_r]
      simp only [cond_false]
      rw [cnd_b, if_neg (by simp), bind_eq hA.len, jn_ret e2]
      rfl
  · have q1 : bop .int .gtr (iv us.length) (.int .i64 30) H1 = some (.bool true, H1) := by rw [gtr_r, decide_eq_true (by omega)]
    refine ⟨H1', f1 _ _ ?_⟩
    unfold F_law07ElderOf
    rw [bind_eq e1, bind_eq not_r]
    simp only [Bool.not_true]
    rw [b_g_in, b_assoc, bind_eq hA.len, b_assoc, bind_eq q1, b_ret, c3_r, bind_eq pick_r]
    simp only [cond_false]
    rw [cnd_b, if_pos rfl, bind_eq e1']
    rfl

theorem law_ElderOf : ∀ (xs : Ins [.slc userT]) (H : Heap) (vs : List Value), InsWf [.slc userT] xs → InsRd [.slc userT] xs H vs → ∃ n H', R n n_law07ElderOf vs H = some (.bool true, H') := by
  intro xs H vs hwf hrd
  obtain ⟨l, _⟩ := xs
  obtain ⟨hl, _⟩ := hwf
  obtain ⟨c1, _, rfl, hc1, h1, rfl⟩ := hrd
  obtain ⟨a, rfl⟩ : ∃ a, c1 = [a] := by
    match c1, hc1 with
    | [a], _ => exact ⟨a, rfl⟩
  obtain ⟨us, hA, hn⟩ := rd_users hl h1
  obtain ⟨H', e⟩ := of_core (n := 0) hA hn
  exact ⟨9, H', e⟩

end

end Go.Proofs.YtmacmlpiheimhaaDoor.A
