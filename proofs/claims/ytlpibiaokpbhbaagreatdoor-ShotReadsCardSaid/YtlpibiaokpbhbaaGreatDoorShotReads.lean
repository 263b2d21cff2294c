/- Of any bytes the directory is the document's, whose bytes they are, or what is wrong first. -/
import Derived.Test.YtlpibiaokpbhbaaGreatDoorRefRd
namespace Go.Proofs.YtlpibiaokpbhbaaGreatDoor.A
set_option linter.unusedVariables false
set_option linter.unusedSimpArgs false
open Go.Proofs Go.Proofs.YtlpibiaokpbhbaaGreatDoor

/-! what is read is written so -/

theorem le_leN : ∀ (t : List UInt8), le (leN t) t.length = t
  | [] => rfl
  | b :: t => by
    have hb : b.toNat < 256 := b.toNat_lt
    rw [List.length_cons]
    unfold leN le
    have h1 : (b.toNat + 256 * leN t) / 256 = leN t := by omega
    have h2 : (b.toNat + 256 * leN t) % 256 = b.toNat := by omega
    rw [h1, h2, le_leN t]
    simp

theorem failS_0 {e : Nat} {s : RSt} {r : List UInt8} (h : failS e s = (0, r)) : s = (0, r) ∧ e = 0 ∨ (s = (0, r) ∧ e = 0) := by
  unfold failS at h
  by_cases hc : s.1 = 0 ∧ e ≠ 0
  · rw [if_pos hc] at h
    exact absurd (congrArg (·.1) h) hc.2
  · rw [if_neg hc] at h
    subst h
    have : e = 0 := by
      by_cases he : e = 0
      · exact he
      · exact absurd ⟨rfl, he⟩ hc
    exact .inl ⟨rfl, this⟩

theorem tk_back {k : Nat} {s : RSt} {t r : List UInt8} (h : tkS k s = (t, (0, r))) : s = (0, t ++ r) ∧ t.length = k := by
  unfold tkS at h
  by_cases hl : k ≤ s.2.length
  · rw [if_pos hl] at h
    have h1 : s.2.take k = t := congrArg (·.1) h
    have h2 : s.1 = 0 := congrArg (·.2.1) h
    have h3 : s.2.drop k = r := congrArg (·.2.2) h
    refine ⟨?_, by rw [← h1]; simp; omega⟩
    rw [← h1, ← h3, List.take_append_drop, ← h2]
  · rw [if_neg hl] at h
    have h2 : failS 2 s = (0, r) := congrArg (·.2) h
    rcases failS_0 h2 with ⟨_, h3⟩ | ⟨_, h3⟩ <;> exact absurd h3 (by decide)

theorem num_back {k x : Nat} {s : RSt} {r : List UInt8} (h : numS k s = (x, (0, r))) : s = (0, le x k ++ r) := by
  unfold numS at h
  have h1 : leN (tkS k s).1 = x := congrArg (·.1) h
  have h2 : (tkS k s).2 = (0, r) := congrArg (·.2) h
  obtain ⟨h3, h4⟩ := tk_back (k := k) (s := s) (t := (tkS k s).1) (r := r) (by rw [← h2])
  have h5 := le_leN (tkS k s).1
  rw [h4, h1] at h5
  rw [h5]
  exact h3

theorem text_back {s : RSt} {t r : List UInt8} (h : textS 65535 s = (t, (0, r))) : s = (0, txt t ++ r) := by
  unfold textS at h
  rw [count_all] at h
  obtain ⟨h1, h2⟩ := tk_back h
  have h3 := num_back (k := 2) (s := s) (x := (numS 2 s).1) (r := t ++ r) (by rw [← h1])
  unfold txt
  rw [h2, List.append_assoc]
  exact h3

theorem get_back {s : RSt} {e : Ent} {r : List UInt8} (h : getS s = (e, (0, r))) : s = (0, entB e ++ r) := by
  unfold getS at h
  rw [getF_fail] at h
  have h2 := congrArg (·.2) h
  have h1 := congrArg (·.1) h
  simp only at h1 h2
  rw [h2] at h1
  simp only [if_true] at h1
  have h3 : (textS 65535 (textS 65535 s).2).2 = (0, r) := by
    rcases failS_0 h2 with ⟨h4, _⟩ | ⟨h4, _⟩ <;> exact h4
  have h4 := text_back (s := (textS 65535 s).2) (t := (textS 65535 (textS 65535 s).2).1) (r := r) (by rw [← h3])
  have h5 := text_back (s := s) (t := (textS 65535 s).1) (r := txt (textS 65535 (textS 65535 s).2).1 ++ r) (by rw [← h4])
  rw [h5]
  unfold entB
  rw [← h1, List.append_assoc]

theorem gets_back : ∀ {k : Nat} {s : RSt} {m : List Ent} {r : List UInt8}, getsS k s = (m, (0, r)) → s = (0, entsB m ++ r) ∧ m.length = k
  | 0, s, m, r, h => by
    unfold getsS at h
    have h1 : [] = m := congrArg (·.1) h
    have h2 : s = (0, r) := congrArg (·.2) h
    subst h1
    exact ⟨h2, rfl⟩
  | k + 1, s, m, r, h => by
    unfold getsS at h
    have h1 := congrArg (·.1) h
    have h2 := congrArg (·.2) h
    simp only at h1 h2
    obtain ⟨h3, h4⟩ := gets_back (k := k) (s := (getS s).2) (m := (getsS k (getS s).2).1) (r := r) (by rw [← h2])
    have h5 := get_back (s := s) (e := (getS s).1) (r := entsB (getsS k (getS s).2).1 ++ r) (by rw [← h3])
    refine ⟨?_, by rw [← h1, List.length_cons, h4]⟩
    rw [h5, ← h1]
    simp [entsB]

theorem num1 {x : UInt8} {l : List UInt8} : numS 1 (0, x :: l) = (x.toNat, (0, l)) := by
  unfold numS
  rw [show x :: l = [x] ++ l from rfl, tkS_app (k := 1) rfl]
  simp [leN]

theorem readS_nil : readS [] = (2, []) := rfl

theorem readS_no {x : UInt8} {l : List UInt8} (h : x.toNat ≠ 1) : readS (x :: l) = (6, []) := by
  unfold readS
  rw [num1]
  simp only []
  rw [if_pos ⟨trivial, h⟩]

/-- The document's row of users. -/
def usersR (s : RSt) : RSt × List Ent :=
  let c := numS 2 s
  if c.2.1 = 0 ∧ c.1 > 12 then (failS 7 c.2, []) else
  let g := getsS c.1 c.2
  let st := if g.2.1 = 0 then failS (ofN g.1) g.2 else g.2
  (st, if st.1 = 0 then g.1 else [])

theorem readS_one {x : UInt8} {l : List UInt8} (h : x.toNat = 1) : readS (x :: l) = if (if (usersR (0, l)).1.1 = 0 ∧ (usersR (0, l)).1.2 ≠ [] then 3 else (usersR (0, l)).1.1) ≠ 0 then ((if (usersR (0, l)).1.1 = 0 ∧ (usersR (0, l)).1.2 ≠ [] then 3 else (usersR (0, l)).1.1), []) else (0, (usersR (0, l)).2) := by
  have hb := num_bad (k := 2) (s := (0, l)) (fun h => absurd rfl h)
  unfold readS usersR
  rw [num1]
  simp only []
  rw [if_neg (by simp [h])]
  generalize numS 2 (0, l) = C at hb
  obtain ⟨cv, cs⟩ := C
  simp only at hb ⊢
  by_cases h12 : cv > 12
  · have h0 : cs.1 = 0 := by
      by_cases h0 : cs.1 = 0
      · exact h0
      · have := hb h0; omega
    have hf : failS 7 cs = (7, []) := by unfold failS; rw [if_pos ⟨h0, by decide⟩]
    simp only [if_pos h12, if_pos (show cs.1 = 0 ∧ cv > 12 from ⟨h0, h12⟩), hf]
    simp
  · simp only [if_neg h12, if_neg (show ¬ (cs.1 = 0 ∧ cv > 12) from fun h => h12 h.2)]
    generalize getsS cv cs = G
    obtain ⟨g, st⟩ := G
    simp only []
    by_cases h0 : st.1 = 0
    · rw [if_neg (by simp [h0]), if_pos h0]
      by_cases hf : ofN g = 0
      · have hfs : failS 0 st = st := by unfold failS; rw [if_neg (fun h => h.2 rfl)]
        rw [if_pos hf, hf, hfs]
        unfold endS
        rw [if_pos h0]
        by_cases he : st.2 = []
        · simp [h0, he]
        · simp [h0, he]
      · have hfs : failS (ofN g) st = (ofN g, []) := by unfold failS; rw [if_pos ⟨h0, hf⟩]
        rw [if_neg hf, hfs]
        simp [hf]
    · rw [if_pos h0, if_neg h0]
      simp [h0]

theorem readS_back {bs : List UInt8} (h : (readS bs).1 = 0) : encB (readS bs).2 = bs ∧ ofN (readS bs).2 = 0 := by
  cases bs with
  | nil => rw [readS_nil] at h; exact absurd h (by decide)
  | cons x l =>
    by_cases hx : x.toNat = 1
    · have hb := num_bad (k := 2) (s := (0, l)) (fun h => absurd rfl h)
      unfold readS at h ⊢
      rw [num1] at h ⊢
      simp only at h ⊢
      rw [if_neg (by simp [hx])] at h ⊢
      have hC := num_back (k := 2) (s := (0, l)) (x := (numS 2 (0, l)).1) (r := (numS 2 (0, l)).2.2)
      generalize numS 2 (0, l) = C at hb h hC
      obtain ⟨cv, cs⟩ := C
      simp only at hb h hC ⊢
      by_cases h12 : cv > 12
      · have h0 : cs.1 = 0 := by
          by_cases h0 : cs.1 = 0
          · exact h0
          · have := hb h0; omega
        have hf : failS 7 cs = (7, []) := by unfold failS; rw [if_pos ⟨h0, by decide⟩]
        rw [if_pos h12, hf] at h
        simp at h
      · rw [if_neg h12] at h ⊢
        have hG := gets_back (k := cv) (s := cs) (m := (getsS cv cs).1) (r := (getsS cv cs).2.2)
        generalize getsS cv cs = G at h hG
        obtain ⟨g, st⟩ := G
        simp only at h hG ⊢
        by_cases h0 : st.1 = 0
        · rw [if_neg (by simp [h0])] at h ⊢
          by_cases hf : ofN g = 0
          · rw [if_pos hf] at h ⊢
            by_cases he : endS st = 0
            · rw [if_neg (by simp [he])]
              have hst : st.2 = [] := by
                unfold endS at he
                rw [if_pos h0] at he
                by_cases h5 : st.2 = []
                · exact h5
                · rw [if_neg h5] at he; exact absurd he (by decide)
              obtain ⟨h6, h7⟩ := hG (by rw [← h0])
              rw [hst, List.append_nil] at h6
              have h8 := hC (by rw [h6])
              refine ⟨?_, hf⟩
              have h9 : l = le cv 2 ++ cs.2 := congrArg (·.2) h8
              rw [h6] at h9
              show le 1 1 ++ (le g.length 2 ++ entsB g) = x :: l
              rw [h9, h7]
              have hx1 : x = UInt8.ofNat (1 % 256) := by
                have : x = UInt8.ofNat x.toNat := by simp
                rw [this, hx]
              rw [hx1]; rfl
            · rw [if_pos he] at h; exact absurd h he
          · rw [if_neg hf, if_pos hf] at h; exact absurd h hf
        · rw [if_pos h0] at h; exact absurd h h0
    · rw [readS_no hx] at h
      exact absurd h (by decide)

section
variable {H0 H X : Heap} {n p d b : Nat} {a c v : Value} {bs : List UInt8} {s : RSt} {q : List Nat}

/-- An argument that is bytes, and how many. -/
theorem rd_bytesN {x : (Ty.slc (.int .u8)).den} {H : Heap} {v : Value} (hwf : (Ty.slc (.int .u8)).wf x) (h : Rd (.slc (.int .u8)) x H [v]) : ∃ bs : List UInt8, Sl H v (u8s bs) ∧ bs.length ≤ 9223372036854775807 := by
  obtain ⟨bs, hs⟩ := rd_bytes hwf h
  obtain ⟨rows, h1, _, h3, _⟩ := rd_rows hwf h
  refine ⟨bs, hs, ?_⟩
  have e1 := hs.len (H' := H)
  have e2 := h1.len (H' := H)
  rw [e1, u8s_length] at e2
  injection e2 with e2
  injection e2 with e2
  injection e2 with _ e2
  omega

theorem get_le {s : RSt} : (getS s).2.2.length ≤ s.2.length := by
  unfold getS
  rw [getF_fail]
  have h1 := text_le (s := s)
  have h2 := text_le (s := (textS 65535 s).2)
  simp only []
  unfold failS
  split
  · exact Nat.zero_le _
  · omega
theorem okR_get {s : RSt} (h : okR s) : okR (getS s).2 := by
  have h1 := okR_text (m := 65535) h
  have h2 := okR_text (m := 65535) h1
  unfold getS
  generalize (textS 65535 (textS 65535 s).2).2 = r at h2
  rw [getF_fail]
  exact okR_fail h2

theorem gets8_do {N p2 p4 B : Nat} (hN : N ≤ 1000) (hB : B ≤ 1000000000) : ∀ (t k : Nat) (l : List Ent) (s : RSt) (sl : Value) (q : List Nat) (X : Heap), N - k = t → k ≤ N → l.length ≤ k → okR s → s.2.length ≤ B → X[p2]? = some (.cells (RR s) 1 false false) → RowN 5 X sl (l.map usr) q → (∀ j ∈ q, p2 < j) →
    ∃ X' sl' q', loopM (c6 (F_ref08GetUsers.l1 (R (n + 5)))) [iv 1, pt p2, pt p4, sl, .int .u64 N, .int .u64 k] X = some (.ext 0 [iv 1, pt p2, pt p4, sl'], X') ∧ RowN 5 X' sl' ((l ++ (getsS t s).1).map usr) q' ∧ X'[p2]? = some (.cells (RR (getsS t s).2) 1 false false) ∧ (∀ j ∈ q', p2 < j) ∧ Step (p2 :: q) X (p2 :: q') X'
  | 0, k, l, s, sl, q, X, ht, hk, hl, ho, hb, h2, hr, hq => by
    have : k = N := by omega
    subst this
    refine ⟨X, sl, q, loop_ext ?_, by simpa [getsS] using hr, h2, hq, .refl _ _⟩
    rw [c6_r]
    unfold F_ref08GetUsers.l1
    rw [bind_eq lss_r, cnd_b, if_neg (by simp)]
    rfl
  | t + 1, k, l, s, sl, q, X, ht, hk, hl, ho, hb, h2, hr, hq => by
    have U0 : ∀ e : Ent, (usr e).all oneCell = true := fun _ => rfl
    have hlt : (k : Int) < N := by omega
    have d0 : ldA 2 (pt p2) X = some (.agg (RR s).toArray, X) := ldA_at (n := 2) h2 rfl
    obtain ⟨X1, e1, k1⟩ := r_get6 (n := n) (H := X) (Nat.le_trans hb hB) ho
    have ho1 := okR_get ho
    have hb1 : (getS s).2.2.length ≤ B := Nat.le_trans get_le hb
    have hgs : getsS (t + 1) s = ((getS s).1 :: (getsS t (getS s).2).1, (getsS t (getS s).2).2) := by rw [getsS]
    rw [hgs]
    generalize getS s = G at e1 ho1 hb1
    obtain ⟨u, s'⟩ := G
    have e1 : R (n + 5) n_ref06Get [.agg (RR s).toArray, iv 1] X = some (.tuple #[.agg (RR s').toArray, .agg (usr u).toArray], X1) := e1
    have ho1 : okR s' := ho1
    have hb1 : s'.2.length ≤ B := hb1
    simp only []
    have lp := get_lt h2
    have lx := k1.len
    -- two boxes
    have z1 := bx (X := X1) (RR_one (0, []))
    have z2 := bx (X := X1 ++ [.cells (RR (0, [])) 1 false false]) (U0 ([], []))
    have k2 : HLe X1 (X1 ++ [AObj.cells (RR (0, [])) 1 false false] ++ [AObj.cells (usr ([], [])) 1 false false]) := (HLe.app _ _).trans (.app _ _)
    have g1 : (X1 ++ [AObj.cells (RR (0, [])) 1 false false] ++ [AObj.cells (usr ([], [])) 1 false false])[X1.length]? = some (.cells (RR (0, [])) 1 false false) := app2_0
    have g2 : (X1 ++ [AObj.cells (RR (0, [])) 1 false false] ++ [AObj.cells (usr ([], [])) 1 false false])[(X1 ++ [AObj.cells (RR (0, [])) 1 false false]).length]? = some (.cells (usr ([], [])) 1 false false) := app_new
    have l12 : X1.length < (X1 ++ [AObj.cells (RR (0, [])) 1 false false]).length := by simp
    generalize X1 ++ [AObj.cells (RR (0, [])) 1 false false] ++ [AObj.cells (usr ([], [])) 1 false false] = X2 at z2 k2 g1 g2
    generalize (X1 ++ [AObj.cells (RR (0, [])) 1 false false]).length = w2 at z2 g2 l12
    have z1 : alc 1 (.agg #[.string ⟨#[]⟩, .int .i64 0]) X1 = _ := z1
    have z2 : alc 1 (.agg #[.string ⟨#[]⟩, .string ⟨#[]⟩, .string ⟨#[]⟩, .bool false, .slice none 0 0]) _ = some (pt w2, X2) := z2
    have y1 := stA_at (vs := RR s') (n := 2) g1 rfl rfl (RR_one _)
    have k3 : HLe X1 (X2.set X1.length (.cells (RR s') 1 false false)) := k2.put (Nat.le_refl _)
    have g3 := set_get (b := AObj.cells (RR s') 1 false false) g1
    have g4 := (List.getElem?_set_ne (a := AObj.cells (RR s') 1 false false) (show X1.length ≠ w2 by omega)).trans g2
    generalize X2.set X1.length (.cells (RR s') 1 false false) = X3 at y1 k3 g3 g4
    have y2 := stA_at (vs := usr u) (n := 5) g4 rfl rfl (U0 _)
    have k4 : HLe X1 (X3.set w2 (.cells (usr u) 1 false false)) := k3.put (by omega)
    have g5 := set_get (b := AObj.cells (usr u) 1 false false) g4
    have g6 := (List.getElem?_set_ne (a := AObj.cells (usr u) 1 false false) (show w2 ≠ X1.length by omega)).trans g3
    generalize X3.set w2 (.cells (usr u) 1 false false) = X4 at y2 k4 g5 g6
    have d4 : ldA 2 (pt X1.length) X4 = some (.agg (RR s').toArray, X4) := ldA_at (n := 2) g6 rfl
    have hp4 : X4[p2]? = some (.cells (RR s) 1 false false) := k4 _ _ (k1 _ _ h2)
    have y3 := stA_at (vs := RR s') (n := 2) hp4 rfl rfl (RR_one _)
    have hp5 := set_get (b := AObj.cells (RR s') 1 false false) hp4
    have g7 := (List.getElem?_set_ne (a := AObj.cells (RR s') 1 false false) (show p2 ≠ w2 by omega)).trans g5
    have s5 : Step [p2] X4 [p2] (X4.set p2 (.cells (RR s') 1 false false)) := ⟨by simp, fun j hj hm => List.getElem?_set_ne (fun e => hm (by simp [e])), fun j hj => .inl hj⟩
    have s05 : Step (p2 :: q) X (p2 :: q) (X4.set p2 (.cells (RR s') 1 false false)) := ((k1.trans k4).step.more (by simp) (fun j hj => .inl hj)).trans (s5.more (by simp) (fun j hj => .inl hj))
    have hr5 : RowN 5 (X4.set p2 (.cells (RR s') 1 false false)) sl (l.map usr) q := (hr.step (k1.trans k4).step (by simp)).step s5 (fun j hj hm => (fun h1 h2 => by omega : p2 < j → j = p2 → False) (hq j hj) (by simpa using hm))
    generalize X4.set p2 (.cells (RR s') 1 false false) = X5 at y3 hp5 g7 s05 hr5
    have d5 : ldA 5 (pt w2) X5 = some (.agg (usr u).toArray, X5) := ldA_at (n := 5) g7 rfl
    -- the row
    have x4 := bsl_a (es := 5) (z := .agg #[.string ⟨#[]⟩, .string ⟨#[]⟩, .string ⟨#[]⟩, .bool false, .slice none 0 0]) (H := X5) rfl (usr_len u) (usr_one _)
    have l5 : HLe X5 (X5 ++ [AObj.cells (usr u) 5 false false]) := .app _ _
    have t4 : SlN 5 (X5 ++ [AObj.cells (usr u) 5 false false]) (.slice (some ⟨X5.length, 0, none⟩) 1 1) [usr u] := SlN.whole (rows := [usr u]) (c := 1) (e := 5) (g := false) (ro := false) (by rw [app_new]; simp) (by simp [usr_len])
    have lp5 := get_lt hp5
    generalize X5 ++ [AObj.cells (usr u) 5 false false] = X6 at x4 l5 t4
    have hr6 : RowN 5 X6 sl (l.map usr) q := hr5.keep fun j hj => l5.step.keep j (hr5.lt j hj) (by simp)
    obtain ⟨sl', X7, q', x5, hr7, s7⟩ := hr6.push (b := 80) t4 (usr_len _) (by simp; omega) (by simp; omega)
    rw [← List.map_singleton (f := usr), ← List.map_append] at hr7
    have hq7 : ∀ j ∈ q', p2 < j := fun j hj => by
      rcases s7.own j hj with h1 | h1
      · exact hq j h1
      · have := l5.len; omega
    have hp7 := s7.get (l5 _ _ hp5) (fun hm => Nat.lt_irrefl _ (hq _ hm))
    have s57 : Step (p2 :: q) X5 (p2 :: q') X7 := (l5.step.more (o2 := p2 :: q) (o2' := p2 :: q) (by simp) (fun j hj => .inl hj)).trans (s7.more (o2 := p2 :: q) (o2' := p2 :: q') (by simp +contextual) (fun j hj => by
      rcases List.mem_cons.1 hj with rfl | hj
      · exact .inl (by simp)
      · exact .inr (.inl hj)))
    obtain ⟨X8, sl8, q8, e8, hr8, hp8, hq8, s8⟩ := gets8_do hN hB t (k + 1) (l ++ [u]) s' sl' q' X7 (by omega) (by omega) (by rw [List.length_append, List.length_singleton]; omega) ho1 hb1 hp7 hr7 hq7
    have ca : bop .int .add (.int .u64 k) (.int .u64 1) X7 = some (.int .u64 ((k + 1 : Nat) : Int), X7) := by
      rw [add_r, wu64, Int.emod_eq_of_lt (by omega) (by omega)]; simp
    refine ⟨X8, sl8, q8, (loop_next ?_).trans e8, ?_, hp8, hq8, (s05.trans s57).trans s8⟩
    · rw [c6_r]
      unfold F_ref08GetUsers.l1
      rw [bind_eq lss_r, cnd_b, if_pos (by simpa using hlt), bind_eq d0, bind_eq e1, bind_eq extr_p0, bind_eq extr_p1, bind_eq z1, bind_eq z2, bind_eq y1, bind_eq y2, bind_eq d4, bind_eq y3, bind_eq d5, bind_eq x4, bind_eq x5, bind_eq ca]
      rfl
    · rw [List.append_assoc] at hr8
      exact hr8

theorem gets_len : ∀ (k : Nat) (s : RSt), (getsS k s).1.length = k
  | 0, s => rfl
  | k + 1, s => by unfold getsS; rw [List.length_cons, gets_len k]

theorem RowN.us {m : List Ent} (h : RowN 5 H v (m.map usr) q) : UsersS H v (m.map usrA) := h.users.s (fun u hu => by obtain ⟨e, _, rfl⟩ := List.mem_map.1 hu; exact Nat.zero_le _)
theorem us_nil : UsersS H (.slice none 0 0) (([] : List Ent).map usrA) := ⟨SlN.nil, by simp⟩

theorem r_getUsers (ho : okR s) (hb : s.2.length ≤ 1000000000) : ∃ lv H', R (n + 6) n_ref08GetUsers [.agg (RR s).toArray, iv 1] H = some (.tuple #[.agg (RR (usersR s).1).toArray, lv], H') ∧ HLe H H' ∧ UsersS H' lv ((usersR s).2.map usrA) := by
  have z1 := bx (X := H) (RR_one s)
  have z2 := bx (X := H ++ [.cells (RR s) 1 false false]) (RR_one (0, []))
  have k2 : HLe H (H ++ [AObj.cells (RR s) 1 false false] ++ [AObj.cells (RR (0, [])) 1 false false]) := (HLe.app _ _).trans (.app _ _)
  have c1 : (H ++ [AObj.cells (RR s) 1 false false] ++ [AObj.cells (RR (0, [])) 1 false false])[H.length]? = some (.cells (RR s) 1 false false) := app2_0
  have g2' : (H ++ [AObj.cells (RR s) 1 false false] ++ [AObj.cells (RR (0, [])) 1 false false])[(H ++ [AObj.cells (RR s) 1 false false]).length]? = some (.cells (RR (0, [])) 1 false false) := app_new
  have hp2 : H.length < (H ++ [AObj.cells (RR s) 1 false false]).length := by simp
  generalize H ++ [AObj.cells (RR s) 1 false false] ++ [AObj.cells (RR (0, [])) 1 false false] = X2 at z2 k2 c1 g2'
  generalize (H ++ [AObj.cells (RR s) 1 false false]).length = p4 at z2 g2' hp2
  generalize hP : H.length = p2 at z1 c1 hp2
  have z2 : alc 1 (.agg #[.string ⟨#[]⟩, .int .i64 0]) _ = some (pt p4, X2) := z2
  have d2 : ldA 2 (pt p2) X2 = some (.agg (RR s).toArray, X2) := ldA_at (n := 2) c1 rfl
  obtain ⟨X3, e3, k3⟩ := r_get1 (n := n + 2) (H := X2) (k := 2) (by omega) hb ho
  have e3 : R (n + 5) n_ref01Get [.agg (RR s).toArray, .int .i64 2] X2 = _ := e3
  have hcl := numS_lt (k := 2) (s := s)
  have hbad := num_bad (k := 2) ho
  have ho3 : okR (numS 2 s).2 := okR_num ho
  have hb3 : (numS 2 s).2.2.length ≤ 1000000000 := Nat.le_trans num_le hb
  unfold usersR
  generalize numS 2 s = C at e3 hcl hbad ho3 hb3
  obtain ⟨cv, cs⟩ := C
  have e3 : R (n + 5) n_ref01Get [.agg (RR s).toArray, .int .i64 2] X2 = some (.tuple #[.agg (RR cs).toArray, .int .u64 cv], X3) := e3
  have hcl : cv < 65536 := hcl
  have hbad : cs.1 ≠ 0 → cv = 0 := hbad
  have ho3 : okR cs := ho3
  have hb3 : cs.2.length ≤ 1000000000 := hb3
  simp only []
  have y3 := stA_at (vs := RR cs) (n := 2) (k3 _ _ c1) rfl rfl (RR_one _)
  have hk3 : HLe H (X3.set p2 (.cells (RR cs) 1 false false)) := (k2.trans k3).put (by omega)
  have c4 := (List.getElem?_set_ne (a := AObj.cells (RR cs) 1 false false) (show p2 ≠ p4 by omega)).trans (k3 _ _ g2')
  have c3 := set_get (b := AObj.cells (RR cs) 1 false false) (k3 _ _ c1)
  generalize X3.set p2 (.cells (RR cs) 1 false false) = X4 at y3 hk3 c3 c4
  have a4 : ld1 (pa p2 1) X4 = some (iv cs.1, X4) := ld1_at c3 rfl
  have q4 : bop .int .eql (iv cs.1) (.int .i64 0) X4 = some (.bool (cs.1 == 0), X4) := by rw [eql_r, nz_beq]
  have q5 : bop .int .gtr (.int .u64 cv) (.int .u64 12) X4 = some (.bool (decide (cv > 12)), X4) := by
    rw [gtr_r, show decide ((cv : Int) > 12) = decide (cv > 12) from by rw [decide_eq_decide]; omega]
  have hgate : ∀ K : Value → M Value, bind (gate (Value.bool (cs.1 == 0)) true 2 (bind (bop .int .gtr (.int .u64 cv) (Value.int .u64 12)) fun v20 => ret [.int .u64 cv, v20])) (c2 fun _ q6 => bind (pick (Value.bool (cs.1 == 0)) q6 (Value.bool false)) K) X4 = K (.bool (decide (cs.1 = 0 ∧ cv > 12))) X4 := fun K => by
    by_cases h0 : cs.1 = 0
    · rw [show (cs.1 == 0) = true from by simp [h0], b_g_in, b_assoc, bind_eq q5, b_ret, c2_r, bind_eq pick_r]
      simp [h0]
    · rw [show (cs.1 == 0) = false from by simp [h0], bind_eq (g_r.trans (if_neg (by simp)))]
      simp only [List.replicate]
      rw [c2_r, bind_eq pick_r]
      simp [h0]
  have f1 : ∀ r H', F_ref08GetUsers (R (n + 5)) (.agg (RR s).toArray) (iv 1) H = some (r, H') → R (n + 6) n_ref08GetUsers [.agg (RR s).toArray, iv 1] H = some (r, H') := fun r H' hr => by rw [R, run_ref08GetUsers rfl]; exact hr
  have d4 : ldA 2 (pt p2) X4 = some (.agg (RR cs).toArray, X4) := ldA_at (n := 2) c3 rfl
  by_cases hc : cs.1 = 0 ∧ cv > 12
  · rw [if_pos hc]
    obtain ⟨X5, e5, k5⟩ := r_fail1 (n := n + 4) (H := X4) (s := cs) (e := 7) (by omega)
    have e5 : R (n + 5) n_ref01Fail [.agg (RR cs).toArray, .int .i64 7] X4 = _ := e5
    refine ⟨.slice none 0 0, X5.set p4 (.cells (RR (failS 7 cs)) 1 false false), f1 _ _ ?_, (hk3.trans k5).put (by omega), us_nil⟩
    unfold F_ref08GetUsers
    rw [bind_eq z1, bind_eq z2, bind_eq d2, bind_eq e3, bind_eq extr_p0, bind_eq extr_p1, bind_eq y3, bind_eq fa_z, bind_eq a4, bind_eq q4]
    refine (hgate _).trans ?_
    rw [decide_eq_true hc, cnd_b, if_pos rfl, bind_eq d4, bind_eq e5]
    exact fin_box (k5 _ _ c4) rfl rfl (RR_one _)
  · rw [if_neg hc]
    have hcv : cv ≤ 12 := by
      by_cases h0 : cs.1 = 0
      · exact Nat.not_lt.1 fun h => hc ⟨h0, h⟩
      · rw [hbad h0]; omega
    obtain ⟨X5, lv, q5', e5, hr5, hp5, hq5, s5⟩ := gets8_do (n := n) (N := cv) (p4 := p4) (by omega) (Nat.le_refl _) cv 0 [] cs (.slice none 0 0) [] X4 (by omega) (by omega) (Nat.zero_le _) ho3 hb3 c3 RowN.nil (by simp)
    have e5 : loopM (c6 (F_ref08GetUsers.l1 (R (n + 5)))) [iv 1, pt p2, pt p4, .slice none 0 0, .int .u64 cv, .int .u64 0] X4 = _ := e5
    rw [List.nil_append] at hr5
    have hgl := gets_len cv cs
    generalize getsS cv cs = G at hr5 hp5 hgl
    obtain ⟨g, st⟩ := G
    have hr5 : RowN 5 X5 lv (g.map usr) q5' := hr5
    have hp5 : X5[p2]? = some (.cells (RR st) 1 false false) := hp5
    have hgl : g.length = cv := hgl
    simp only []
    have hm5 := hk3.more s5 (fun j hj => by have : j = p2 := by simpa using hj
                                            omega)
    have c5 : X5[p4]? = some (.cells (RR (0, [])) 1 false false) := s5.get c4 (by simp; omega)
    have a5 : ld1 (pa p2 1) X5 = some (iv st.1, X5) := ld1_at hp5 rfl
    have q6 : bop .int .eql (iv st.1) (.int .i64 0) X5 = some (.bool (st.1 == 0), X5) := by rw [eql_r, nz_beq]
    have d5 : ldA 2 (pt p2) X5 = some (.agg (RR st).toArray, X5) := ldA_at (n := 2) hp5 rfl
    -- may these be all?
    have hC : ∃ X6, (cnd (Value.bool (st.1 == 0)) (bind (ldA 2 (pt p2)) fun v42 => bind (R (n + 5) n_ref07Of [lv, iv 1]) fun v45 => bind (ldA 2 (pt p2)) fun u_35 => same u_35 v42 <| bind (R (n + 5) n_ref01Fail [v42, v45]) fun v46 => bind (stA 2 (pt p2) v46) fun _ => ret (Out.nrm [pt p2, pt p4, lv])) (ret (Out.nrm [pt p2, pt p4, lv]))) X5 = some (Out.nrm [pt p2, pt p4, lv], X6) ∧ HLe H X6 ∧ X6[p2]? = some (.cells (RR (if st.1 = 0 then failS (ofN g) st else st)) 1 false false) ∧ X6[p4]? = some (.cells (RR (0, [])) 1 false false) ∧ UsersS X6 lv (g.map usrA) := by
      by_cases h0 : st.1 = 0
      · obtain ⟨X6, e6, k6⟩ := r_refOf (n := n) (by rw [List.length_map]; omega) hr5.users
        rw [ofE_N] at e6
        have d6 : ldA 2 (pt p2) X6 = some (.agg (RR st).toArray, X6) := ldA_at (n := 2) (k6 _ _ hp5) rfl
        have hof : ofN g ≤ 1000 := by
          have h1 : ofE (g.map usrA) ≤ 10 := by
            have hfu : ∀ l : List Ent, firstU (l.map usrA) ≤ 10 := by
              intro l
              induction l with
              | nil => decide
              | cons a l ih =>
                rw [List.map_cons]
                unfold firstU
                split
                · exact ih
                · rw [errU_usrA]; have := errE_le a; omega
            unfold ofE
            have := hfu g
            split
            · split
              · split <;> decide
              · decide
            · exact this
          rw [ofE_N] at h1; omega
        obtain ⟨X7, e7, k7⟩ := r_fail1 (n := n + 4) (H := X6) (s := st) (e := ofN g) hof
        have e7 : R (n + 5) n_ref01Fail [.agg (RR st).toArray, iv (ofN g)] X6 = _ := e7
        have k67 := k6.trans k7
        have y7 := stA_at (vs := RR (failS (ofN g) st)) (n := 2) (k67 _ _ hp5) rfl rfl (RR_one _)
        rw [if_pos h0]
        refine ⟨X7.set p2 (.cells (RR (failS (ofN g) st)) 1 false false), ?_, (hm5.1.trans k67).put (by omega), set_get (k67 _ _ hp5), (List.getElem?_set_ne (by omega)).trans (k67 _ _ c5), ?_⟩
        · rw [cnd_b, if_pos (by simp [h0]), bind_eq d5, bind_eq e6, bind_eq d6, same_self, bind_eq e7, bind_eq y7]
          rfl
        · exact ((hr5.keep fun j hj => k67.step.keep j (hr5.lt j hj) (by simp)).keep fun j hj => List.getElem?_set_ne (by have := hq5 j hj; omega)).us
      · rw [if_neg h0]
        refine ⟨X5, ?_, hm5.1, hp5, c5, hr5.us⟩
        rw [cnd_b, if_neg (by simp [h0])]
        rfl
    obtain ⟨X6, e6, k6, hp6, c6', u6⟩ := hC
    generalize (if st.1 = 0 then failS (ofN g) st else st) = st' at hp6
    have a6 : ld1 (pa p2 1) X6 = some (iv st'.1, X6) := ld1_at hp6 rfl
    have q7 : bop .int .neq (iv st'.1) (.int .i64 0) X6 = some (.bool (st'.1 != 0), X6) := by rw [neq_r, nz_bne]
    have d6 : ldA 2 (pt p2) X6 = some (.agg (RR st').toArray, X6) := ldA_at (n := 2) hp6 rfl
    have hU : ∀ {w : Value} {us : List UsrA}, UsersS X6 w us → own1 w ≠ some p4 → (∀ u ∈ us, u.gv = .slice none 0 0) → UsersS (X6.set p4 (.cells (RR st') 1 false false)) w us := fun {w us} h ho hg => ⟨h.1.keep fun id hid => List.getElem?_set_ne (fun e => ho (by rw [hid, e])), fun u hu => by
      have h1 := h.2 u hu
      refine ⟨?_, h1.2⟩
      rw [hg u hu] at h1 ⊢
      have hl : u.gs.map strv = [] := by
        have := h1.1.fc
        simpa [fcells] using this.symm
      rw [hl]
      exact Sl.nil⟩
    have hgv : ∀ m : List Ent, ∀ u ∈ m.map usrA, u.gv = .slice none 0 0 := fun m u hu => by
      obtain ⟨e, _, rfl⟩ := List.mem_map.1 hu
      rfl
    have hown : own1 lv ≠ some p4 := fun e => by
      have h1 : q5' = [p4] := hr5.own1 e
      have h2 := s5.own p4 (by rw [h1]; simp)
      rcases h2 with h2 | h2
      · simp at h2; omega
      · have := get_lt c4; omega
    refine ⟨(if st'.1 = 0 then lv else .slice none 0 0), X6.set p4 (.cells (RR st') 1 false false), f1 _ _ ?_, k6.put (by omega), ?_⟩
    · unfold F_ref08GetUsers
      rw [bind_eq z1, bind_eq z2, bind_eq d2, bind_eq e3, bind_eq extr_p0, bind_eq extr_p1, bind_eq y3, bind_eq fa_z, bind_eq a4, bind_eq q4]
      refine (hgate _).trans ?_
      rw [decide_eq_false hc, cnd_b, if_neg (by simp), jn_ext e5, xk_hit, c4_r, bind_eq fa_z, bind_eq a5, bind_eq q6]
      refine (jn_nrm e6).trans ?_
      rw [c3_r, bind_eq fa_z, bind_eq a6, bind_eq q7, cnd_b]
      by_cases h0 : st'.1 = 0
      · rw [if_neg (by simp [h0]), if_pos h0, bind_eq d6]
        exact fin_box c6' rfl rfl (RR_one _)
      · rw [if_pos (by simp [h0]), if_neg h0, bind_eq d6]
        exact fin_box c6' rfl rfl (RR_one _)
    · by_cases h0 : st'.1 = 0
      · rw [if_pos h0, if_pos h0]
        exact hU u6 hown (hgv g)
      · rw [if_neg h0, if_neg h0]
        exact us_nil

theorem r_refRead (hb : bs.length ≤ 1000000000) : ∃ lv H', R (n + 7) n_ref08Read [strv bs] H = some (.tuple #[lv, iv (readS bs).1], H') ∧ HLe H H' ∧ UsersS H' lv ((readS bs).2.map usrA) := by
  have f1 : ∀ r H', F_ref08Read (R (n + 6)) (strv bs) H = some (r, H') → R (n + 7) n_ref08Read [strv bs] H = some (r, H') := fun r H' hr => by rw [R, run_ref08Read rfl]; exact hr
  cases bs with
  | nil =>
    have q1 : bop .str .eql (strv []) (.string ⟨#[]⟩) H = some (.bool true, H) := eqs_nil
    refine ⟨.slice none 0 0, H, f1 _ _ ?_, .refl _, us_nil⟩
    unfold F_ref08Read
    rw [bind_eq q1, cnd_b, if_pos rfl]
    rfl
  | cons x l =>
    have q1 : bop .str .eql (strv (x :: l)) (.string ⟨#[]⟩) H = some (.bool false, H) := by rw [eqs_nil, decide_eq_false (by simp)]
    have x1 : ixs (strv (x :: l)) (.int .i64 0) H = some (u8v x, H) := ixs_v (i := 0) rfl .i64 H
    have q2 : bop .int .neq (u8v x) (.int .u8 1) H = some (.bool (decide (x.toNat ≠ 1)), H) := by
      rw [neq_r, show ((x.toNat : Int) != 1) = decide (x.toNat ≠ 1) from by rw [Bool.eq_iff_iff, decide_eq_true_eq, bne_iff_ne]; omega]
    by_cases hx : x.toNat = 1
    · rw [decide_eq_false (fun h => h hx)] at q2
      rw [readS_one hx]
      have z1 : sls (strv (x :: l)) (some (.int .i64 1)) none H = some (strv l, H) := sls_d (k := 1) (by simp)
      have zb : bld (.agg #[.string ⟨#[]⟩, .int .i64 0]) [(0, 1, strv l)] H = some (.agg (RR (0, l)).toArray, H) := by
        simp [bld, bldC, Value.cells, isTup, strv, splice]
      have hbl : l.length ≤ 1000000000 := by
        simp only [List.length_cons] at hb
        omega
      obtain ⟨lv, X1, e1, k1, u1⟩ := r_getUsers (n := n) (H := H) (s := (0, l)) (fun h => absurd rfl h) hbl
      have e1 : R (n + 6) n_ref08GetUsers [.agg (RR (0, l)).toArray, .int .i64 1] H = _ := e1
      generalize usersR (0, l) = U at e1 u1
      obtain ⟨st, m⟩ := U
      have e1 : R (n + 6) n_ref08GetUsers [.agg (RR (0, l)).toArray, .int .i64 1] H = some (.tuple #[.agg (RR st).toArray, lv], X1) := e1
      have u1 : UsersS X1 lv (m.map usrA) := u1
      simp only []
      have z4 := fun {K : Value → M Value} => mkbox (H := X1) (n := 2) (zs := RR (0, [])) (r := RR st) (K := K) rfl rfl (RR_one _) (RR_one _)
      have k2 : HLe X1 (X1 ++ [AObj.cells (RR st) 1 false false]) := .app _ _
      have c2 : (X1 ++ [AObj.cells (RR st) 1 false false])[X1.length]? = some (.cells (RR st) 1 false false) := app_new
      have ho1 : own1 lv ≠ some X1.length := fun e => by
        have h1 := u1.1
        obtain ⟨a, c, rfl, _, h3, _⟩ := h1
        unfold own1 at e
        split at e
        · rename_i id o _ _ ee
          cases ee
          cases e
          unfold fcells at h3
          simp only at h3
          rw [List.getElem?_eq_none (Nat.le_refl _)] at h3
          cases h3
        · cases e
      have hx1 := u1.mono k2
      generalize X1 ++ [AObj.cells (RR st) 1 false false] = X2 at z4 k2 c2 hx1
      generalize hP : X1.length = p at z4 c2 ho1
      have z4 : ∀ {K : Value → M Value}, bind (alc 1 (.agg #[.string ⟨#[]⟩, .int .i64 0])) (fun q => bind (stA 2 q (.agg (RR st).toArray)) fun _ => K q) X1 = K (pt p) X2 := z4
      have a1 : ld1 (pa p 1) X2 = some (iv st.1, X2) := ld1_at c2 rfl
      have a0 : ld1 (pa p 0) X2 = some (strv st.2, X2) := ld1_at c2 rfl
      have q3 : bop .int .eql (iv st.1) (.int .i64 0) X2 = some (.bool (st.1 == 0), X2) := by rw [eql_r, nz_beq]
      have q4 : bop .str .neq (strv st.2) (.string ⟨#[]⟩) X2 = some (.bool (decide (st.2 ≠ [])), X2) := by
        have := nes_v (a := st.2) (b := []) (H := X2)
        rw [show (strv [] : Value) = .string ⟨#[]⟩ from rfl] at this
        rw [this]
        by_cases h : st.2 = [] <;> simp [h]
      have hgate : ∀ K : Value → M Value, bind (gate (Value.bool (st.1 == 0)) true 3 (bind (fa 0 (pt p)) fun v22x13 => bind (ld1 v22x13) fun v23x14 => bind (bop .str .neq v23x14 (Value.string ⟨#[]⟩)) fun v24x15 => ret [v22x13, v23x14, v24x15])) (c3 fun _ _ q16_2 => bind (pick (Value.bool (st.1 == 0)) q16_2 (Value.bool false)) K) X2 = K (.bool (decide (st.1 = 0 ∧ st.2 ≠ []))) X2 := fun K => by
        by_cases h0 : st.1 = 0
        · rw [show (st.1 == 0) = true from by simp [h0], b_g_in, b_assoc, bind_eq fa_z, b_assoc, bind_eq a0, b_assoc, bind_eq q4, b_ret, c3_r, bind_eq pick_r]
          simp [h0]
        · rw [show (st.1 == 0) = false from by simp [h0], bind_eq (g_r.trans (if_neg (by simp)))]
          simp only [List.replicate]
          rw [c3_r, bind_eq pick_r]
          simp [h0]
      -- nothing may be left
      have hJ : ∃ X3, (cnd (Value.bool (decide (st.1 = 0 ∧ st.2 ≠ []))) (bind (fa 1 (pt p)) fun v26 => bind (st1 v26 (Value.int .i64 3)) fun _ => ret (Out.nrm [pt p, lv])) (ret (Out.nrm [pt p, lv]))) X2 = some (Out.nrm [pt p, lv], X3) ∧ HLe X1 X3 ∧ ld1 (pa p 1) X3 = some (iv ((if st.1 = 0 ∧ st.2 ≠ [] then 3 else st.1 : Nat)), X3) := by
        by_cases hc : st.1 = 0 ∧ st.2 ≠ []
        · have w : st1 (pa p 1) (iv 3) X2 = some (undef, X2.set p (.cells [strv st.2, iv 3] 1 false false)) := st1_at (o := 1) c2 (by simp) rfl
          refine ⟨X2.set p (.cells [strv st.2, iv 3] 1 false false), ?_, k2.put (by omega), ?_⟩
          · rw [decide_eq_true hc, cnd_b, if_pos rfl, bind_eq fa_z, bind_eq w]; rfl
          · rw [if_pos hc]; exact ld1_at (set_get c2) rfl
        · refine ⟨X2, ?_, k2, ?_⟩
          · rw [decide_eq_false hc, cnd_b, if_neg (by simp)]; rfl
          · rw [if_neg hc]; exact a1
      obtain ⟨X3, e3, k3, a3⟩ := hJ
      generalize (if st.1 = 0 ∧ st.2 ≠ [] then 3 else st.1 : Nat) = e at a3
      have q5 : bop .int .neq (iv e) (.int .i64 0) X3 = some (.bool (e != 0), X3) := by rw [neq_r, nz_bne]
      refine ⟨(if e ≠ 0 then .slice none 0 0 else lv), X3, f1 _ _ ?_, k1.trans k3, ?_⟩
      · unfold F_ref08Read
        rw [bind_eq q1, cnd_b, if_neg (by simp), bind_eq x1, bind_eq q2, cnd_b, if_neg (by simp), bind_eq z1, bind_eq zb, bind_eq e1, bind_eq extr_p0, bind_eq extr_p1, z4, bind_eq fa_z, bind_eq a1, bind_eq q3]
        refine (hgate _).trans ?_
        refine (jn_nrm e3).trans ?_
        rw [c2_r, bind_eq fa_z, bind_eq a3, bind_eq q5, cnd_b]
        by_cases he : e = 0
        · rw [if_neg (by simp [he]), if_neg (by simp [he]), if_neg (by simp [he])]
          rfl
        · rw [if_pos (by simp [he]), if_pos he, if_pos he, bind_eq fa_z, bind_eq a3]
          rfl
      · by_cases he : e = 0
        · rw [if_neg (by simp [he]), if_neg (by simp [he])]
          exact u1.mono k3
        · rw [if_pos he, if_pos he]
          exact us_nil
    · rw [decide_eq_true hx] at q2
      rw [readS_no hx]
      refine ⟨.slice none 0 0, H, f1 _ _ ?_, .refl _, us_nil⟩
      unfold F_ref08Read
      rw [bind_eq q1, cnd_b, if_neg (by simp), bind_eq x1, bind_eq q2, cnd_b, if_pos rfl]
      rfl

theorem reads_core (hA : Sl H a (u8s bs)) (hn : bs.length ≤ 9223372036854775807) : ∃ H', R (n + 10) n_law08ShotReads [a] H = some (.bool true, H') := by
  obtain ⟨H1, e1, k1⟩ := r_lives8 (n := n) (H := H)
  obtain ⟨H1', e1', _⟩ := r_lives8 (n := n) (H := H1)
  have hs := hA.mono k1
  have hl : lenS a H1 = some (iv bs.length, H1) := by have := hs.len (H' := H1); rwa [u8s_length] at this
  have f1 : ∀ v H', F_law08ShotReads (R (n + 9)) a H = some (v, H') → R (n + 10) n_law08ShotReads [a] H = some (v, H') := fun v H' hr => by rw [R, run_law08ShotReads rfl]; exact hr
  by_cases h600 : bs.length ≤ 600
  rotate_left
  · have q1 : bop .int .gtr (iv bs.length) (.int .i64 600) H1 = some (.bool true, H1) := by rw [gtr_r, decide_eq_true (by omega)]
    refine ⟨H1', f1 _ _ ?_⟩
    unfold F_law08ShotReads
    rw [bind_eq e1, bind_eq not_r]
    simp only [Bool.not_true]
    rw [b_g_in, b_assoc, bind_eq hl, b_assoc, bind_eq q1, b_ret, c3_r, bind_eq pick_r]
    simp only [cond_false]
    rw [cnd_b, if_pos rfl, bind_eq e1']
    rfl
  have q1 : bop .int .gtr (iv bs.length) (.int .i64 600) H1 = some (.bool false, H1) := by rw [gtr_r, decide_eq_false (by omega)]
  have z2 := bsl0 (es := 1) (z := .int .u8 0) (H := H1)
  have k2 : HLe H1 (H1 ++ [AObj.cells [] 1 false false]) := .app _ _
  have c2 : (H1 ++ [AObj.cells [] 1 false false])[H1.length]? = some (.cells [] 1 false false) := app_new
  generalize H1 ++ [AObj.cells [] 1 false false] = X2 at z2 k2 c2
  obtain ⟨ov, X3, oq, e3, r3, k3, _⟩ := row_of (b := 1) (hs.mono k2) (by rw [u8s_length]; omega) (by rw [u8s_length]; omega) (s := .slice (some ⟨H1.length, 0, none⟩) 0 0) (.inr ⟨H1.length, false, rfl, c2, rfl⟩)
  obtain ⟨dv, X4, e4, k4, hz, hok⟩ := r_shotRead (n := n + 1) r3.rd (by omega)
  have e4 : R (n + 9) n_shotRead [ov] X3 = _ := e4
  have hs4 := ((hs.mono k2).mono k3).mono k4
  have t4 := b2s_v hs4
  obtain ⟨lv, X5, e5, k5, u5⟩ := r_refRead (n := n + 2) (H := X4) (bs := bs) (by omega)
  have e5 : R (n + 9) n_ref08Read [strv bs] X4 = _ := e5
  have hback := readS_back (bs := bs)
  generalize readS bs = r at e4 e5 hz hok u5 hback
  obtain ⟨e, m⟩ := r
  have e4 : R (n + 9) n_shotRead [ov] X3 = some (.tuple #[dv, iv e], X4) := e4
  have e5 : R (n + 9) n_ref08Read [strv bs] X4 = some (.tuple #[lv, iv e], X5) := e5
  have hz : e ≠ 0 → dv = .pointer none := hz
  have hok : e = 0 → ∃ d b, dv = pt d ∧ Dir X4 d b m ∧ Rise m ∧ ofN m = 0 := hok
  have u5 : UsersS X5 lv (m.map usrA) := u5
  have hback : e = 0 → encB m = bs ∧ ofN m = 0 := hback
  have q5 : bop .int .neq (iv e) (iv e) X5 = some (.bool false, X5) := by rw [neq_r]; simp
  have to5 := b2s_v ((r3.rd.mono k4).mono k5)
  have t5 := b2s_v (hs4.mono k5)
  have q6 : bop .str .neq (strv bs) (strv bs) X5 = some (.bool false, X5) := by rw [nes_v]; simp
  have q7 : bop .int .neq (iv e) (.int .i64 0) X5 = some (.bool (e != 0), X5) := by rw [neq_r, nz_bne]
  by_cases he : e = 0
  · obtain ⟨d, b, rfl, D4, R4, _⟩ := hok he
    obtain ⟨hb1, hb2⟩ := hback he
    have q8 : bop .ptr .neq (pt d) (.pointer none) X5 = some (.bool true, X5) := nep_r
    obtain ⟨av, qa, X6, e6, r6, k6, _⟩ := r_eldAll (n := n + 6) (D4.hle k5)
    have e6 : R (n + 9) n_elderDirAll [pt d] X5 = _ := e6
    rw [sort_self D4.g.nod R4] at r6
    have hml := (ofN_0 hb2).2
    obtain ⟨X7, e7, k7⟩ := r_sameAll (n := n + 7) (by rw [List.length_map]; omega) (by rw [List.length_map]; omega) r6.us (u5.mono k6)
    rw [decide_eq_true rfl] at e7
    have e7 : R (n + 9) n_law07SameUsers [av, lv] X6 = _ := e7
    have hs7 := ((hs4.mono k5).mono k6).mono k7
    have t7 := b2s_v hs7
    have hsrt := sort_self D4.g.nod R4
    obtain ⟨bv, X8, e8, s8, k8⟩ := r_shotBytes (n := n + 1) (((D4.hle k5).hle k6).hle k7) (by rw [hsrt]; exact (ofN_0 hb2).1) (by rw [hsrt])
    have e8 : R (n + 9) n_shotBytes [pt d] X7 = _ := e8
    rw [hsrt, hb1] at s8
    have t8 := b2s_v (hs7.mono k8)
    have q9 : bop .str .eql (strv bs) (strv bs) X8 = some (.bool true, X8) := by rw [eqs_v]; simp
    refine ⟨X8, f1 _ _ ?_⟩
    unfold F_law08ShotReads
    rw [bind_eq e1, bind_eq not_r]
    simp only [Bool.not_true]
    rw [b_g_in, b_assoc, bind_eq hl, b_assoc, bind_eq q1, b_ret, c3_r, bind_eq pick_r]
    simp only [cond_false]
    rw [cnd_b, if_neg (by simp), bind_eq z2, bind_eq e3, bind_eq e4, bind_eq extr_p0, bind_eq extr_p1, bind_eq t4, bind_eq e5, bind_eq extr_p0, bind_eq extr_p1, bind_eq q5, b_g_in, b_assoc, bind_eq to5, b_assoc, bind_eq t5, b_assoc, bind_eq q6, b_ret, c5_r, bind_eq pick_r]
    simp only [cond_false]
    rw [cnd_b, if_neg (by simp), bind_eq q7, cnd_b, if_neg (by simp [he]), bind_eq q8, b_gv_in, b_ret, b_gv_in, b_ret, b_gv_in, bind_eq e6, b_gv_in, bind_eq e7, bind_eq pick_r]
    simp only [cond_true]
    rw [b_gv_in, b_ret, b_gv_in, b_ret, b_gv_in, bind_eq t7, b_gv_in, bind_eq e8, b_gv_in, bind_eq t8, same_self, b_gv_in, bind_eq (b2s_v s8), b_gv_in, bind_eq q9, bind_eq pick_r]
    rfl
  · have hdv := hz he
    subst hdv
    refine ⟨X5, f1 _ _ ?_⟩
    unfold F_law08ShotReads
    rw [bind_eq e1, bind_eq not_r]
    simp only [Bool.not_true]
    rw [b_g_in, b_assoc, bind_eq hl, b_assoc, bind_eq q1, b_ret, c3_r, bind_eq pick_r]
    simp only [cond_false]
    rw [cnd_b, if_neg (by simp), bind_eq z2, bind_eq e3, bind_eq e4, bind_eq extr_p0, bind_eq extr_p1, bind_eq t4, bind_eq e5, bind_eq extr_p0, bind_eq extr_p1, bind_eq q5, b_g_in, b_assoc, bind_eq to5, b_assoc, bind_eq t5, b_assoc, bind_eq q6, b_ret, c5_r, bind_eq pick_r]
    simp only [cond_false]
    rw [cnd_b, if_neg (by simp), bind_eq q7, cnd_b, if_pos (by simp [he]), bind_eq eqnn_r]
    rfl

theorem law_ShotReads : ∀ (xs : Ins [.slc (.int .u8)]) (H : Heap) (vs : List Value), InsWf [.slc (.int .u8)] xs → InsRd [.slc (.int .u8)] xs H vs → ∃ n H', R n n_law08ShotReads vs H = some (.bool true, H') := by
  intro xs H vs hwf hrd
  obtain ⟨l, _⟩ := xs
  obtain ⟨hl, _⟩ := hwf
  obtain ⟨c1, _, rfl, hc1, h1, rfl⟩ := hrd
  obtain ⟨a, rfl⟩ : ∃ a, c1 = [a] := by
    match c1, hc1 with
    | [a], _ => exact ⟨a, rfl⟩
  obtain ⟨bs, hs, hn⟩ := rd_bytesN hl h1
  obtain ⟨H', e⟩ := reads_core (n := 0) hs hn
  exact ⟨10, H', e⟩

end

end Go.Proofs.YtlpibiaokpbhbaaGreatDoor.A
