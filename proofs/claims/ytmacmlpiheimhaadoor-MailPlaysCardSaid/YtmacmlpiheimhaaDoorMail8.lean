/- The acts that the laws of mail addresses are given, the chapter's example, and the same pairs. -/
import Derived.Test.YtmacmlpiheimhaaDoorMail6
namespace Go.Proofs.YtmacmlpiheimhaaDoor.A
set_option linter.unusedVariables false
set_option linter.unusedSimpArgs false
open Go.Proofs Go.Proofs.YtmacmlpiheimhaaDoor

abbrev eldActT : Ty := .struct (.pair (.int .u8) (.pair .str (.pair .str .unit)))

structure EAct where
  kd : Nat
  nm : List UInt8
  hs : List UInt8

abbrev EAct.cells (a : EAct) : List Value := [.int .u8 a.kd, strv a.nm, strv a.hs]

theorem rd_eldAct {x : eldActT.den} {H : Heap} {cs : List Value} (hw : eldActT.wf x) (h : Rd eldActT x H cs) : ∃ a : EAct, cs = a.cells ∧ a.kd ≤ 255 := by
  obtain ⟨k, s, t, u⟩ := x
  obtain ⟨h1, h2, h3, h4⟩ := h
  obtain ⟨w1, _⟩ := hw
  have h1 : cs.take 1 = [.int .u8 k] := h1
  have h2 : (cs.drop 1).take 1 = [.string s] := h2
  have h3 : ((cs.drop 1).drop 1).take 1 = [.string t] := h3
  have h4 : ((cs.drop 1).drop 1).drop 1 = [] := h4
  match cs, h1, h2, h3, h4 with
  | [c1, c2, c3], h1, h2, h3, _ =>
    have w1 := wf_u8 w1
    have key : ∀ (q : IntKind) (z : Int), 0 ≤ z → [Value.int q z] = [Value.int q (z.toNat : Nat)] := fun q z hz => by rw [Int.toNat_of_nonneg hz]
    refine ⟨⟨Int.toNat k, ByteArray.data s |>.toList, ByteArray.data t |>.toList⟩, ?_, ?_⟩
    · have e20 : c2 = .string s := by simpa using h2
      have e30 : c3 = .string t := by simpa using h3
      have e1 : [c1] = [Value.int .u8 (Int.toNat k : Nat)] := Eq.trans (by simpa using h1) (key .u8 k w1.1)
      have e1 : c1 = Value.int .u8 (Int.toNat k : Nat) := by simpa using e1
      have e2 : c2 = strv (ByteArray.data s).toList := e20.trans (strv_of s)
      have e3 : c3 = strv (ByteArray.data t).toList := e30.trans (strv_of t)
      rw [e1, e2, e3]
    · have : ∀ z : Int, 0 ≤ z ∧ z ≤ 255 → z.toNat ≤ 255 := fun z hz => by omega
      exact this k w1

/-- A slice of acts. -/
def EActs (H : Heap) (sl : Value) (ac : List EAct) : Prop := SlN 3 H sl (ac.map EAct.cells) ∧ ∀ a ∈ ac, a.kd ≤ 255

theorem rd_eldActs {x : (Ty.slc eldActT).den} {H : Heap} {v : Value} (hwf : (Ty.slc eldActT).wf x) (h : Rd (.slc eldActT) x H [v]) : ∃ ac, EActs H v ac ∧ ac.length ≤ 9223372036854775807 := by
  obtain ⟨rows, h1, h2, h3, h4⟩ := rd_rows hwf h
  obtain ⟨ac, h5, h6⟩ := choose_map (f := EAct.cells) (Q := fun _ a => a.kd ≤ 255) (rows := rows) fun r hr => by
    obtain ⟨y, hy, hr⟩ := h2 r hr
    exact rd_eldAct hy hr
  subst h5
  exact ⟨ac, ⟨h1, h6⟩, by simpa using h3⟩

section
variable {H H' : Heap} {sl : Value} {ac : List EAct} {n : Nat}

theorem EActs.len (h : EActs H sl ac) : lenS sl H' = some (iv ac.length, H') := by
  have := h.1.len (H' := H')
  rwa [List.length_map] at this

theorem EActs.mono (h : EActs H sl ac) (hl : HLe H H') : EActs H' sl ac := ⟨h.1.mono hl, h.2⟩

/-- An act is fetched into a variable of its own. -/
theorem EActs.fetch {β : Type} {k : Value → M β} (h : EActs H sl ac) {j : Nat} {a : EAct} (hj : ac[j]? = some a) :
    bind (ixa 3 sl (iv j)) (fun p => bind (ldA 3 p) fun v => bind (alc 1 (.agg #[.int .u8 0, .string ⟨#[]⟩, .string ⟨#[]⟩])) fun q => bind (stA 3 q v) fun _ => k q) H = k (pt H.length) (H ++ [.cells a.cells 1 false false]) := by
  have hr : (ac.map EAct.cells)[j]? = some a.cells := by rw [List.getElem?_map, hj]; rfl
  rw [h.1.fetch hr (by omega) .i64]
  exact box_a (n := 3) (zs := [.int .u8 0, .string ⟨#[]⟩, .string ⟨#[]⟩]) (r := a.cells) rfl rfl rfl rfl

def fewA (a : EAct) : Bool := decide (a.nm.length ≤ 50) && decide (a.hs.length ≤ 50)

theorem efew_do {H0 : Heap} (h : EActs H0 sl ac) (hn : ac.length ≤ 9223372036854775807) : ∀ (t j : Nat) {X : Heap}, ac.length - j = t → j ≤ ac.length → HLe H0 X →
    ∃ X', loopM (c4 (F_law09Few.l1 (R n))) [sl, sl, iv ac.length, iv j] X = some (if (ac.drop j).all fewA then .ext 0 [sl] else .ret (.bool false), X') ∧ HLe H0 X'
  | 0, j, X, ht, hj, hle => by
    have : j = ac.length := by omega
    subst this
    rw [List.drop_length]
    refine ⟨X, loop_ext ?_, hle⟩
    rw [c4_r]
    unfold F_law09Few.l1
    rw [bind_eq lss_r, cnd_b, if_neg (by simp)]
    rfl
  | t + 1, j, X, ht, hj, hle => by
    have hjn : j < ac.length := by omega
    have hlt : (j : Int) < ac.length := by omega
    have hja := List.getElem?_eq_getElem hjn
    have hd := List.drop_eq_getElem_cons hjn
    generalize ac[j] = a at hja hd
    have g1 : (X ++ [AObj.cells a.cells 1 false false])[X.length]? = some (.cells a.cells 1 false false) := app_new
    have l1 : ld1 (pa X.length 1) (X ++ [.cells a.cells 1 false false]) = some (strv a.nm, X ++ [.cells a.cells 1 false false]) := ld1_at g1 rfl
    have l2 : ld1 (pa X.length 2) (X ++ [.cells a.cells 1 false false]) = some (strv a.hs, X ++ [.cells a.cells 1 false false]) := ld1_at g1 rfl
    have hf := fun {K : Value → M Out} => (h.mono hle).fetch (k := K) hja
    have k1 := hle.trans (HLe.app X [.cells a.cells 1 false false])
    generalize X ++ [AObj.cells a.cells 1 false false] = X1 at g1 l1 l2 k1 hf
    obtain ⟨X2, e2, k2⟩ := efew_do h hn t (j + 1) (by omega) (by omega) k1
    rw [hd, List.all_cons]
    have hb : F_law09Few.l1 (R n) sl sl (iv ac.length) (iv j) X = some (if fewA a then .nrm [sl, sl, iv ac.length, iv ((j + 1 : Nat) : Int)] else .ret (.bool false), X1) := by
      unfold F_law09Few.l1
      rw [bind_eq lss_r, cnd_b, if_pos (by simpa using hlt), hf, bind_eq fa_r, bind_eq l1, bind_eq lenT_v, bind_eq gtr_r]
      unfold fewA
      by_cases h1 : a.nm.length ≤ 50
      · have h1' : ¬ ((a.nm.length : Int) > 50) := by omega
        rw [decide_eq_false h1', b_g_in, b_assoc, bind_eq fa_r, b_assoc, bind_eq l2, b_assoc, bind_eq lenT_v, b_assoc, bind_eq gtr_r, b_ret, c4_r, bind_eq pick_r, decide_eq_true h1]
        simp only [cond_false]
        by_cases h2 : a.hs.length ≤ 50
        · have h2' : ¬ ((a.hs.length : Int) > 50) := by omega
          rw [decide_eq_false h2', cnd_b, if_neg (by simp), bind_eq add_r, wsuc (by omega), decide_eq_true h2]
          rfl
        · have h2' : ((a.hs.length : Int) > 50) := by omega
          rw [decide_eq_true h2', cnd_b, if_pos rfl, decide_eq_false h2]
          rfl
      · have h1' : ((a.nm.length : Int) > 50) := by omega
        rw [decide_eq_true h1', bind_eq (g_r.trans (if_neg (by simp)))]
        simp only [List.replicate]
        rw [c4_r, bind_eq pick_r]
        simp only [cond_true]
        rw [cnd_b, if_pos rfl, decide_eq_false h1]
        rfl
    cases hfa : fewA a
    · rw [hfa] at hb
      exact ⟨X1, loop_ret hb, k1⟩
    · rw [hfa] at hb
      exact ⟨X2, (loop_next hb).trans e2, k2⟩

theorem r_few (h : EActs H sl ac) (hn : ac.length ≤ 9223372036854775807) : ∃ H', R (n + 1) n_law09Few [sl] H = some (.bool (ac.all fewA && decide (ac.length ≤ 60)), H') ∧ HLe H H' := by
  obtain ⟨H', e, k⟩ := efew_do (n := n) h hn ac.length 0 (by omega) (by omega) (.refl _)
  rw [List.drop_zero] at e
  have e : loopM (c4 (F_law09Few.l1 (R n))) [sl, sl, iv ac.length, .int .i64 0] H = _ := e
  refine ⟨H', ?_, k⟩
  rw [R, run_law09Few rfl]
  unfold F_law09Few
  rw [bind_eq h.len]
  cases hf : ac.all fewA
  · rw [hf] at e
    rw [jn_ret e]; rfl
  · rw [hf] at e
    rw [jn_ext e, xk_hit, c1_r, bind_eq h.len, bind_eq leq_r]
    simp [ret, decide_eq_decide]
    omega

/-- The same pairs? -/
theorem same_do {v w : Value} {us ws : SMap} (hv : SlN 2 H v (us.map prc)) (hw : SlN 2 H w (ws.map prc)) (hl : us.length = ws.length) (hb' : us.length ≤ 100000) : ∀ (t j : Nat), us.length - j = t → j ≤ us.length →
    loopM (c4 (F_law09Same.l1 (R n))) [v, w, iv us.length, iv j] H = some (if us.drop j = ws.drop j then .ext 0 [] else .ret (.bool false), H)
  | 0, j, ht, hj => by
    have hj : j = us.length := by omega
    rw [if_pos (by rw [List.drop_of_length_le (by omega), List.drop_of_length_le (by omega)])]
    refine loop_ext ?_
    rw [c4_r, hj]
    unfold F_law09Same.l1
    rw [bind_eq lss_r, cnd_b, if_neg (by simp)]
    rfl
  | t + 1, j, ht, hj => by
    have hjn : j < us.length := by omega
    have hjw : j < ws.length := by omega
    have hlt : (j : Int) < us.length := by omega
    have hd := List.drop_eq_getElem_cons hjn
    have hd2 := List.drop_eq_getElem_cons hjw
    have hg := List.getElem?_eq_getElem hjn
    have hg2 := List.getElem?_eq_getElem hjw
    generalize us[j] = a at hd hg
    generalize ws[j] = b at hd2 hg2
    have f1 : (us.map prc)[j]? = some (prc a) := by rw [List.getElem?_map, hg]; rfl
    have f2 : (ws.map prc)[j]? = some (prc b) := by rw [List.getElem?_map, hg2]; rfl
    have e2 : bop .two .neq (.agg (prc a).toArray) (.agg (prc b).toArray) H = some (.bool (decide (a ≠ b)), H) := by
      have hq : ∀ s t : List UInt8, ((⟨s.toArray⟩ : ByteArray) == ⟨t.toArray⟩) = decide (s = t) := fun s t => by
        rw [Bool.eq_iff_iff, decide_eq_true_iff]
        show (s.toArray == t.toArray) = true ↔ _
        simp
      show some (Value.bool (!(((⟨a.1.toArray⟩ : ByteArray) == ⟨b.1.toArray⟩) && ((⟨a.2.toArray⟩ : ByteArray) == ⟨b.2.toArray⟩))), H) = _
      rw [hq, hq]
      obtain ⟨a1, a2⟩ := a
      obtain ⟨b1, b2⟩ := b
      by_cases h1 : a1 = b1 <;> by_cases h2 : a2 = b2 <;> simp [h1, h2]
    have hb : F_law09Same.l1 (R n) v w (iv us.length) (iv j) H = some (if a = b then .nrm [v, w, iv us.length, iv ((j + 1 : Nat) : Int)] else .ret (.bool false), H) := by
      unfold F_law09Same.l1
      rw [bind_eq lss_r, cnd_b, if_pos (by simpa using hlt), hv.fetch f1 (by omega) .i64, hw.fetch f2 (by omega) .i64, bind_eq e2]
      by_cases hab : a = b
      · rw [if_pos hab, decide_eq_false (by simpa using hab), cnd_b, if_neg (by simp), bind_eq add_r, wsuc (by omega)]
        rfl
      · rw [if_neg hab, decide_eq_true hab, cnd_b, if_pos rfl]
        rfl
    rw [hd, hd2]
    by_cases hab : a = b
    · rw [if_pos hab] at hb
      rw [(loop_next hb).trans (same_do hv hw hl hb' t (j + 1) (by omega) (by omega))]
      simp [hab]
    · rw [if_neg hab] at hb
      rw [loop_ret hb, if_neg (by simp [hab])]

theorem r_same {v w : Value} {us ws : SMap} (hv : SlN 2 H v (us.map prc)) (hw : SlN 2 H w (ws.map prc)) (hb : us.length ≤ 100000) : R (n + 1) n_law09Same [v, w] H = some (.bool (decide (us = ws)), H) := by
  have e1 := hv.len (H' := H)
  have e2 := hw.len (H' := H)
  rw [List.length_map] at e1 e2
  rw [R, run_law09Same rfl]
  unfold F_law09Same
  rw [bind_eq e1, bind_eq e2, bind_eq neq_r]
  by_cases hl : us.length = ws.length
  · have e3 := same_do (n := n) hv hw hl hb us.length 0 rfl (by omega)
    rw [List.drop_zero, List.drop_zero, show iv ((0 : Nat) : Int) = .int .i64 0 from rfl] at e3
    rw [show (((us.length : Nat) : Int) != (ws.length : Nat)) = false by simp [hl], cnd_b, if_neg (by simp), bind_eq e1]
    by_cases h : us = ws
    · rw [if_pos h] at e3
      rw [jn_ext e3, xk_hit, decide_eq_true h]
      rfl
    · rw [if_neg h] at e3
      rw [jn_ret e3, decide_eq_false h]
      rfl
  · rw [show (((us.length : Nat) : Int) != (ws.length : Nat)) = true by simp; omega, cnd_b, if_pos rfl, decide_eq_false (fun e => hl (by rw [e]))]
    rfl

/-- The chapter's example. -/
theorem r_mlives : ∃ H', R (n + 10) n_law09Lives [] H = some (.bool true, H') ∧ HLe H H' := by
  obtain ⟨H1, x, o, a, e1, I1, l1, b1, b2, b3⟩ := r_mnew (n := n + 8) (X := H)
  obtain ⟨H2, e2, I2, s2⟩ := r_mset (n := n) (k := [97, 110, 110]) (m := [65, 64, 98, 46, 99]) I1
  obtain ⟨H3, e3, I3, s3⟩ := r_mset (n := n) (k := [98, 111, 98]) (m := [97, 64, 66, 46, 99]) I2
  obtain ⟨H4, e4, l4⟩ := r_mfind (n := n) (m := [97, 64, 98, 46, 67]) I3
  rw [show errSetI [97, 110, 110] [65, 64, 98, 46, 99] [] = 0 by decide] at e2
  have o2 : setO [97, 110, 110] [65, 64, 98, 46, 99] [] [] = [([97, 64, 98, 46, 99], [97, 110, 110])] := by decide
  rw [o2] at e3 e4
  rw [show errSetI [98, 111, 98] [97, 64, 66, 46, 99] [([97, 64, 98, 46, 99], [97, 110, 110])] = 9 by decide] at e3
  rw [show setO [98, 111, 98] [97, 64, 66, 46, 99] [([97, 64, 98, 46, 99], [97, 110, 110])] (setF [97, 110, 110] [65, 64, 98, 46, 99] [] []) = [([97, 64, 98, 46, 99], [97, 110, 110])] by decide] at e4
  rw [show findT [97, 64, 98, 46, 67] [([97, 64, 98, 46, 99], [97, 110, 110])] = [97, 110, 110] by decide, show errFindI [97, 64, 98, 46, 67] [([97, 64, 98, 46, 99], [97, 110, 110])] = 0 by decide] at e4
  have hf := l1.more (s2.trans s3) (by simp; omega)
  refine ⟨H4, ?_, hf.1.trans l4⟩
  have e1 : R (n + 9) n_mailNew [] H = _ := e1
  have e2 : R (n + 9) n_mailIndexSet [pt x, .string ⟨#[97, 110, 110]⟩, .string ⟨#[65, 64, 98, 46, 99]⟩] H1 = _ := e2
  have e3 : R (n + 9) n_mailIndexSet [pt x, .string ⟨#[98, 111, 98]⟩, .string ⟨#[97, 64, 66, 46, 99]⟩] H2 = _ := e3
  have e4 : R (n + 9) n_mailIndexFind [pt x, .string ⟨#[97, 64, 98, 46, 67]⟩] H3 = _ := e4
  have q1 : ∀ X : Heap, bop .ptr .eql (pt x) (.pointer none) X = some (.bool false, X) := fun X => by rw [eqp_r]
  have q2 : bop .str .eql (strv [97, 110, 110]) (.string ⟨#[97, 110, 110]⟩) H4 = some (.bool true, H4) := eqs_v (b := [97, 110, 110])
  have z0 : ∀ X : Heap, bop .int .eql (iv 0) (.int .i64 0) X = some (.bool true, X) := fun X => by rw [eql_r]; rfl
  have z9 : ∀ X : Heap, bop .int .eql (iv 9) (.int .i64 9) X = some (.bool true, X) := fun X => by rw [eql_r]; rfl
  rw [R, run_law09Lives rfl]
  unfold F_law09Lives
  rw [bind_eq e1, bind_eq (q1 _), cnd_b, if_neg (by simp), bind_eq e2, bind_eq e3, bind_eq e4, bind_eq extr_p0, bind_eq extr_p1, bind_eq (z0 _), b_g_in, b_assoc, bind_eq (z9 _), b_ret, c2_r, bind_eq pick_r]
  simp only [cond_true]
  rw [b_g_in, b_assoc, bind_eq (z0 _), b_ret, c2_r, bind_eq pick_r]
  simp only [cond_true]
  rw [b_g_in, b_assoc, bind_eq q2, b_ret, c2_r, bind_eq pick_r]
  rfl

end

end Go.Proofs.YtmacmlpiheimhaaDoor.A

/- What is put back, and what is renamed back: plain laws; the acts of MailBack. -/
namespace Go.Proofs.YtmacmlpiheimhaaDoor.A
set_option linter.unusedVariables false
set_option linter.unusedSimpArgs false
open Go.Proofs Go.Proofs.YtmacmlpiheimhaaDoor

theorem foldB_idem : ∀ b : UInt8, (true) = true → foldB (foldB b) = foldB b := u8_all (by decide +kernel)
theorem foldL_idem {s : List UInt8} : foldL (foldL s) = foldL s := by
  unfold foldL
  rw [List.map_map]
  exact List.map_congr_left fun b _ => foldB_idem b rfl
theorem mailB_fold {s : List UInt8} (h : mailB s = true) : mailB (foldL s) = true := by
  unfold mailB at h ⊢
  rw [foldL_idem, foldL_len]
  exact h

section
variable {OW OF OF' : SMap} {k k' m : List UInt8}

theorem aget_dropF : aget k (dropF k OF) = none := by
  unfold dropF
  cases h : aget k OF with
  | none => exact h
  | some v => exact aget_adel
theorem aget_dropF_ne (hk : k' ≠ k) : aget k' (dropF k OF) = aget k' OF := by
  unfold dropF
  cases h : aget k OF with
  | none => rfl
  | some v => exact aget_adel_ne hk
theorem dropF_few : (dropF k OF).length ≤ OF.length := by
  unfold dropF
  cases h : aget k OF with
  | none => exact Nat.le_refl _
  | some v => exact List.length_filter_le _ _

def Good (OF : SMap) : Prop := ∀ k v, aget k OF = some v → nameB k = true ∧ mailB v = true ∧ foldL v = v

theorem set_ok (h : errSetI k m OW = 0) (hm : m ≠ []) : nameB k = true ∧ mailB m = true := by
  unfold errSetI at h
  rw [if_neg hm] at h
  split at h
  · next h1 =>
    split at h
    · next h2 => exact ⟨h1, h2⟩
    · cases h
  · cases h

theorem Good.set (h : Good OF) : Good (setF k m OW OF) := by
  unfold setF
  split
  · next he =>
    split
    · next hm =>
      intro j v hj
      by_cases hk : j = k
      · rw [hk, aget_dropF] at hj; cases hj
      · rw [aget_dropF_ne hk] at hj; exact h j v hj
    · next hm =>
      obtain ⟨h1, h2⟩ := set_ok he hm
      intro j v hj
      by_cases hk : j = k
      · rw [hk, aget_aput] at hj
        cases hj
        exact ⟨hk ▸ h1, mailB_fold h2, foldL_idem⟩
      · rw [aget_aput_ne hk, aget_dropF_ne hk] at hj; exact h j v hj
  · exact h

theorem setF_le : (setF k m OW OF).length ≤ OF.length + 1 := by
  have h := dropF_few (k := k) (OF := OF)
  unfold setF
  split
  · split
    · omega
    · have := aput_le (k := k) (v := foldL m) (m := dropF k OF); omega
  · omega

theorem sort_same (h1 : (OF.map (·.1)).Nodup) (h2 : (OF'.map (·.1)).Nodup) (h : ∀ k, aget k OF' = aget k OF) : sortM OF' = sortM OF := by
  refine rise_ext (rise_sortM h2) (rise_sortM h1) fun x => ?_
  rw [mem_sortM h1, mem_sortM h2, h]

variable {a b : List UInt8}

theorem ren_ok (h : errRenI a b OF = 0) : ∃ m, aget a OF = some m ∧ nameB b = true ∧ (aget b OF = none ∨ b = a) := by
  unfold errRenI at h
  split at h
  · next h1 =>
    cases ha : aget a OF with
    | none => rw [ha] at h; cases h
    | some m =>
      rw [ha] at h
      refine ⟨m, rfl, h1, ?_⟩
      cases hb : aget b OF with
      | none => exact .inl rfl
      | some w =>
        rw [hb] at h
        by_cases hab : b = a
        · exact .inr hab
        · simp [hab] at h
  · cases h

theorem ren_at (h : errRenI a b OF = 0) : aget b (renF a b OF) = some ((aget a OF).getD []) := by
  unfold renF
  rw [if_pos h, aget_aput]

theorem ren_ne (h : errRenI a b OF = 0) (h1 : k ≠ a) (h2 : k ≠ b) : aget k (renF a b OF) = aget k OF := by
  unfold renF
  rw [if_pos h, aget_aput_ne h2, aget_dropF_ne h1]

theorem ren_old (h : errRenI a b OF = 0) (h1 : a ≠ b) : aget a (renF a b OF) = none := by
  unfold renF
  rw [if_pos h, aget_aput_ne h1, aget_dropF]

theorem ren_back (hg : Good OF) (h : errRenI a b OF = 0) : errRenI b a (renF a b OF) = 0 ∧ ∀ k, aget k (renF b a (renF a b OF)) = aget k OF := by
  obtain ⟨m, ha, hb, hn⟩ := ren_ok h
  have hat := ren_at h
  have h2 : errRenI b a (renF a b OF) = 0 := by
    unfold errRenI
    rw [if_pos (hg a m ha).1, hat]
    by_cases hab : a = b
    · simp [hab]
    · rw [ren_old h hab]; rfl
  refine ⟨h2, fun k => ?_⟩
  by_cases hka : k = a
  · rw [hka, ren_at h2, hat, ha]; rfl
  · by_cases hkb : k = b
    · have hba : b ≠ a := fun e => hka (hkb.trans e)
      rw [hkb, ren_old h2 hba]
      rcases hn with hn | hn
      · exact hn.symm
      · exact absurd hn hba
    · rw [ren_ne h2 hkb hka, ren_ne h hka hkb]

/-- Dropped twice, and put back. -/
theorem put_back {OW4 OF4 : SMap} (hg : Good OF) (hi : Inv OW OF) (ha : aget a OF = some m) (h4 : aget a OF4 = none) (h5 : ∀ k, k ≠ a → aget k OF4 = aget k OF) (hi4 : Inv OW4 OF4) : errSetI a m OW4 = 0 ∧ ∀ k, aget k (setF a m OW4 OF4) = aget k OF := by
  obtain ⟨g1, g2, g3⟩ := hg a m ha
  have hm : m ≠ [] := fun e => (mail_ne g2).1 (by rw [e]; rfl)
  have he : errSetI a m OW4 = 0 := by
    unfold errSetI
    rw [if_pos g1, if_neg hm, if_pos g2, g3]
    cases hw : aget m OW4 with
    | none => rfl
    | some w =>
      have h1 := (hi4.inv w m).2 hw
      by_cases hwa : w = a
      · rw [hwa, h4] at h1; cases h1
      · rw [h5 w hwa] at h1
        have h2 := (hi.inv w m).1 h1
        rw [(hi.inv a m).1 ha] at h2
        exact absurd (Option.some.inj h2).symm hwa
  refine ⟨he, fun k => ?_⟩
  unfold setF
  rw [if_pos he, if_neg hm, g3]
  by_cases hk : k = a
  · rw [hk, aget_aput, ha]
  · rw [aget_aput_ne hk, aget_dropF_ne hk, h5 k hk]

end

section
variable {H X : Heap} {sl : Value} {ac : List EAct} {n : Nat} {x o a : Nat} {OW OF : SMap}

theorem or3 {β : Type} {p q : Bool} {m : M (List Value)} {u v : Value} {k : Value → M β} (hm : m X = some ([u, v, .bool q], X)) : bind (gate (.bool p) false 3 m) (c3 fun _ _ t => bind (pick (.bool p) (.bool true) t) k) X = k (.bool (p || q)) X := by
  cases p
  · rw [b_g_in, bind_eq hm, c3_r, bind_eq pick_r]; rfl
  · rw [bind_eq (g_r.trans (if_neg (by simp)))]
    simp only [List.replicate]
    rw [c3_r, bind_eq pick_r]; rfl

/-- The addresses are set. -/
theorem back_do {z1 z2 : Value} (hA : EActs H sl ac) (hn : ac.length ≤ 60) (hb : H.length ≤ o ∧ H.length ≤ a) : ∀ (t j : Nat) (OW OF : SMap) (X : Heap), ac.length - j = t → j ≤ ac.length → HLe H X → Idx X x o a OW OF → Good OF → OF.length ≤ j →
    ∃ X' OW' OF', loopM (c6 (F_law09MailBack.l1 (R (n + 9)))) [z1, z2, pt x, sl, iv ac.length, iv j] X = some (.ext 0 [z1, z2, pt x], X') ∧ HLe H X' ∧ Idx X' x o a OW' OF' ∧ Good OF' ∧ OF'.length ≤ 60
  | 0, j, OW, OF, X, ht, hj, hle, hI, hg, hl => by
    refine ⟨X, OW, OF, loop_ext ?_, hle, hI, hg, by omega⟩
    rw [c6_r, show j = ac.length by omega]
    unfold F_law09MailBack.l1
    rw [bind_eq lss_r, cnd_b, if_neg (by simp)]
    rfl
  | t + 1, j, OW, OF, X, ht, hj, hle, hI, hg, hl => by
    have hkl : j < ac.length := by omega
    have hlt : (j : Int) < ac.length := by omega
    have hja := List.getElem?_eq_getElem hkl
    generalize ac[j] = u at hja
    have g1 : (X ++ [AObj.cells u.cells 1 false false])[X.length]? = some (.cells u.cells 1 false false) := app_new
    have l1 : ld1 (pa X.length 1) (X ++ [.cells u.cells 1 false false]) = some (strv u.nm, X ++ [.cells u.cells 1 false false]) := ld1_at g1 rfl
    have l2 : ld1 (pa X.length 2) (X ++ [.cells u.cells 1 false false]) = some (strv u.hs, X ++ [.cells u.cells 1 false false]) := ld1_at g1 rfl
    have hf := fun {K : Value → M Out} => (hA.mono hle).fetch (k := K) hja
    have k1 : HLe X (X ++ [AObj.cells u.cells 1 false false]) := .app _ _
    generalize X ++ [AObj.cells u.cells 1 false false] = X1 at g1 l1 l2 k1 hf
    obtain ⟨X2, e2, I2, s2⟩ := r_mset (n := n) (k := u.nm) (m := u.hs) (hI.hle k1)
    have hm := (hle.trans k1).more s2 (by simpa using hb)
    obtain ⟨X3, OW3, OF3, e3, r3⟩ := back_do hA hn hb t (j + 1) _ _ X2 (by omega) (by omega) hm.1 I2 hg.set (by have := setF_le (k := u.nm) (m := u.hs) (OW := OW) (OF := OF); omega)
    refine ⟨X3, OW3, OF3, (loop_next ?_).trans e3, r3⟩
    rw [c6_r]
    unfold F_law09MailBack.l1
    rw [bind_eq lss_r, cnd_b, if_pos (by simpa using hlt), hf, bind_eq fa_r, bind_eq l1, bind_eq fa_r, bind_eq l2, bind_eq e2, bind_eq add_r, wsuc (by omega)]
    rfl

end

end Go.Proofs.YtmacmlpiheimhaaDoor.A
