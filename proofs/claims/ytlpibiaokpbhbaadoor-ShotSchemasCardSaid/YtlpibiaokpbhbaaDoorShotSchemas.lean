/- The schema is the first byte; of another one than the first nothing is read. -/
import Derived.Test.YtlpibiaokpbhbaaDoorShotLaw
namespace Go.Proofs.YtlpibiaokpbhbaaDoor.A
set_option linter.unusedVariables false
set_option linter.unusedSimpArgs false
open Go.Proofs Go.Proofs.YtlpibiaokpbhbaaDoor

theorem readS_nil : (readS []).1 = 2 := rfl

theorem readS_other {x : UInt8} {l : List UInt8} (h : x.toNat ≠ 1) : (readS (x :: l)).1 = 6 := by
  have h1 : numS 1 (0, x :: l) = (x.toNat, (0, l)) := by
    unfold numS
    rw [show x :: l = [x] ++ l from rfl, tkS_app (k := 1) rfl]
    simp [leN]
  unfold readS
  rw [h1]
  simp only []
  rw [if_pos ⟨trivial, h⟩]

section
variable {H0 H X : Heap} {n p d b : Nat} {a c v : Value} {bs : List UInt8}

theorem geq8 {x : UInt8} {k : Nat} {H : Heap} : bop .int .geq (.int .u8 x.toNat) (.int .u8 k) H = some (.bool (decide (k ≤ x.toNat)), H) := by
  rw [geq_r, show decide ((x.toNat : Int) ≥ (k : Int)) = decide (k ≤ x.toNat) from by rw [decide_eq_decide]; omega]
theorem leq8 {x : UInt8} {k : Nat} {H : Heap} : bop .int .leq (.int .u8 x.toNat) (.int .u8 k) H = some (.bool (decide (x.toNat ≤ k)), H) := by
  rw [leq_r, show decide ((x.toNat : Int) ≤ (k : Int)) = decide (x.toNat ≤ k) from by rw [decide_eq_decide]; omega]
theorem eql8 {x : UInt8} {k : Nat} {H : Heap} : bop .int .eql (.int .u8 x.toNat) (.int .u8 k) H = some (.bool (decide (x.toNat = k)), H) := by
  rw [eql_r, show ((x.toNat : Int) == (k : Int)) = decide (x.toNat = k) from by rw [Bool.eq_iff_iff, decide_eq_true_eq, beq_iff_eq]; omega]

/-- What is wanted. -/
theorem want_run {K : Value → Value → M Value} (hs : Sl X a (u8s bs)) : (bind (lenS a) fun v15x8 =>
  bind (bop .int .gtr v15x8 (Value.int .i64 0)) fun v16x9 =>
  bind (gate v16x9 true 4 (bind (ixa 1 a (Value.int .i64 0)) fun v19x10 =>
  bind (ld1 v19x10) fun v20x11 =>
  bind (bop .int .geq v20x11 (Value.int .u8 1)) fun v21x12 =>
  ret [a, v19x10, v20x11, v21x12])) (c4 fun _ _ _ q13_3 =>
  bind (pick v16x9 q13_3 (Value.bool false)) fun v22x14 =>
  bind (gate v22x14 true 4 (bind (ixa 1 a (Value.int .i64 0)) fun v25x15 =>
  bind (ld1 v25x15) fun v26x16 =>
  bind (bop .int .leq v26x16 (Value.int .u8 2)) fun v27x17 =>
  ret [a, v25x15, v26x16, v27x17])) (c4 fun _ _ _ q18_3 =>
  bind (pick v22x14 q18_3 (Value.bool false)) fun v28x19 =>
  jn (cnd v28x19
  (bind (ixa 1 a (Value.int .i64 0)) fun v30x20 =>
  bind (ld1 v30x20) fun v31x21 =>
  bind (cvi .i64 v31x21) fun v32x22 =>
  ret (.nrm [a, v32x22]))
  (ret (.nrm [a, (Value.int .i64 0)]))) (c2 K) noX ret))) X = K a (iv (schemaS bs)) X := by
  have hl : lenS a X = some (iv bs.length, X) := by have := hs.len (H' := X); rwa [u8s_length] at this
  cases bs with
  | nil =>
    have hz : decide ((([] : List UInt8).length : Int) > 0) = false := rfl
    rw [bind_eq hl, bind_eq gtr_r, hz, bind_eq (g_r.trans (if_neg (by simp)))]
    simp only [List.replicate]
    rw [c4_r, bind_eq pick_r]
    simp only [cond_false]
    rw [bind_eq (g_r.trans (if_neg (by simp)))]
    simp only [List.replicate]
    rw [c4_r, bind_eq pick_r]
    simp only [cond_false]
    refine (jn_nrm (vs := [a, iv 0]) (H' := X) ?_).trans ?_
    · rw [cnd_b, if_neg (by simp)]; rfl
    · rfl
  | cons x l =>
    have hz : decide (((x :: l).length : Int) > 0) = true := by rw [decide_eq_true_eq, List.length_cons]; omega
    have hk : (u8s (x :: l))[0]? = some (.int .u8 x.toNat) := rfl
    have x1 := hs.ix (i := 0) (by rw [u8s_length]; simp) .i64 X
    have x1 : ixa 1 a (.int .i64 0) X = some (ixp a 0, X) := x1
    have x2 := hs.ldx hk
    have hx : x.toNat < 256 := x.toNat_lt
    have c3 : cvi .i64 (.int .u8 x.toNat) X = some (iv x.toNat, X) := by rw [cvi_r, w64 (by omega) (by omega)]
    have q1 : bop .int .geq (.int .u8 x.toNat) (.int .u8 1) X = _ := geq8 (k := 1)
    have q2 : bop .int .leq (.int .u8 x.toNat) (.int .u8 2) X = _ := leq8 (k := 2)
    rw [bind_eq hl, bind_eq gtr_r, hz, b_g_in, b_assoc, bind_eq x1, b_assoc, bind_eq x2, b_assoc, bind_eq q1, b_ret, c4_r, bind_eq pick_r]
    simp only [cond_true]
    unfold schemaS
    simp only []
    by_cases h1 : 1 ≤ x.toNat
    · rw [decide_eq_true h1, b_g_in, b_assoc, bind_eq x1, b_assoc, bind_eq x2, b_assoc, bind_eq q2, b_ret, c4_r, bind_eq pick_r]
      simp only [cond_true]
      by_cases h2 : x.toNat ≤ 2
      · refine (jn_nrm (vs := [a, iv x.toNat]) (H' := X) ?_).trans ?_
        · rw [decide_eq_true h2, cnd_b, if_pos rfl, bind_eq x1, bind_eq x2, bind_eq c3]; rfl
        · rw [if_pos (by omega)]; rfl
      · refine (jn_nrm (vs := [a, iv 0]) (H' := X) ?_).trans ?_
        · rw [decide_eq_false h2, cnd_b, if_neg (by simp)]; rfl
        · rw [if_neg (by omega)]; rfl
    · rw [decide_eq_false h1, bind_eq (g_r.trans (if_neg (by simp)))]
      simp only [List.replicate]
      rw [c4_r, bind_eq pick_r]
      simp only [cond_false]
      refine (jn_nrm (vs := [a, iv 0]) (H' := X) ?_).trans ?_
      · rw [cnd_b, if_neg (by simp)]; rfl
      · rw [if_neg (by omega)]; rfl

/-- An argument that is bytes, and how many. -/
theorem rd_bytesN {x : (Ty.slc (.int .u8)).den} {H : Heap} {v : Value} (hwf : (Ty.slc (.int .u8)).wf x) (h : Rd (.slc (.int .u8)) x H [v]) : ∃ bs : List UInt8, Sl H v (u8s bs) ∧ bs.length ≤ 9223372036854775807 := by
  obtain ⟨bs, hs⟩ := rd_bytes hwf h
  obtain ⟨rows, h1, _, h3, _⟩ := rd_rows hwf h
  refine ⟨bs, hs, ?_⟩
  have e1 := hs.len (H' := H)
  have e2 := h1.len (H' := H)
  rw [e1, u8s_length] at e2
  injection e2 with e2
  injection e2 with e2
  injection e2 with _ e2
  omega

theorem schemas_core (hA : Sl H a (u8s bs)) (hn : bs.length ≤ 9223372036854775807) : ∃ H', R (n + 10) n_law08ShotSchemas [a] H = some (.bool true, H') := by
  obtain ⟨H1, e1, k1⟩ := r_lives8 (n := n) (H := H)
  obtain ⟨H1', e1', _⟩ := r_lives8 (n := n) (H := H1)
  have hs := hA.mono k1
  have hl : lenS a H1 = some (iv bs.length, H1) := by have := hs.len (H' := H1); rwa [u8s_length] at this
  have f1 : ∀ v H', F_law08ShotSchemas (R (n + 9)) a H = some (v, H') → R (n + 10) n_law08ShotSchemas [a] H = some (v, H') := fun v H' hr => by rw [R, run_law08ShotSchemas rfl]; exact hr
  by_cases h600 : bs.length ≤ 600
  rotate_left
  · have q1 : bop .int .gtr (iv bs.length) (.int .i64 600) H1 = some (.bool true, H1) := by rw [gtr_r, decide_eq_true (by omega)]
    refine ⟨H1', f1 _ _ ?_⟩
    unfold F_law08ShotSchemas
    rw [bind_eq e1, bind_eq not_r]
    simp only [Bool.not_true]
    rw [b_g_in, b_assoc, bind_eq hl, b_assoc, bind_eq q1, b_ret, c3_r, bind_eq pick_r]
    simp only [cond_false]
    rw [cnd_b, if_pos rfl, bind_eq e1']
    rfl
  have q1 : bop .int .gtr (iv bs.length) (.int .i64 600) H1 = some (.bool false, H1) := by rw [gtr_r, decide_eq_false (by omega)]
  obtain ⟨dv, H2, e2, k2, _, _⟩ := r_shotRead (n := n + 1) hs (by omega)
  have e2 : R (n + 9) n_shotRead [a] H1 = _ := e2
  have hs2 := hs.mono k2
  have e3 := r_schema (n := n + 8) hs2 (by omega)
  have e3 : R (n + 9) n_shotSchema [a] H2 = _ := e3
  have hl2 : lenS a H2 = some (iv bs.length, H2) := by have := hs2.len (H' := H2); rwa [u8s_length] at this
  have q2 : bop .int .eql (iv (schemaS bs)) (iv (schemaS bs)) H2 = some (.bool true, H2) := by rw [eql_r]; simp
  refine ⟨H2, f1 _ _ ?_⟩
  unfold F_law08ShotSchemas
  rw [bind_eq e1, bind_eq not_r]
  simp only [Bool.not_true]
  rw [b_g_in, b_assoc, bind_eq hl, b_assoc, bind_eq q1, b_ret, c3_r, bind_eq pick_r]
  simp only [cond_false]
  rw [cnd_b, if_neg (by simp)]
  refine (want_run hs).trans ?_
  rw [bind_eq e2, bind_eq extr_p0, bind_eq extr_p1, bind_eq e3, bind_eq q2]
  cases bs with
  | nil =>
    have z1 : bop .int .eql (iv ([] : List UInt8).length) (.int .i64 0) H2 = some (.bool true, H2) := by rw [eql_r]; rfl
    have z2 : bop .int .gtr (iv ([] : List UInt8).length) (.int .i64 0) H2 = some (.bool false, H2) := by rw [gtr_r]; rfl
    have z3 : bop .int .eql (iv (readS []).1) (.int .i64 2) H2 = some (.bool true, H2) := by rw [eql_r, readS_nil]; rfl
    rw [b_g_in, b_assoc, bind_eq hl2, b_assoc, bind_eq z1, b_ret, c4_r, bind_eq (g_r.trans (if_neg (by simp)))]
    simp only [List.replicate]
    rw [c4_r, b_g_in, b_assoc, bind_eq pick_r, b_ret, c2_r]
    simp only [cond_true]
    rw [bind_eq (g_r.trans (if_neg (by simp)))]
    simp only [List.replicate]
    rw [c2_r, b_g_in, b_assoc, bind_eq pick_r, b_ret, c1_r, bind_eq pick_r]
    simp only [cond_true]
    rw [b_g_in, b_assoc, bind_eq hl2, b_assoc, bind_eq z2, b_ret, c4_r, b_g_in, b_assoc, bind_eq z3, b_ret, c2_r, b_g_in, b_assoc, bind_eq pick_r, b_ret, c1_r, bind_eq pick_r]
    rfl
  | cons x l =>
    have z1 : bop .int .eql (iv (x :: l).length) (.int .i64 0) H2 = some (.bool false, H2) := by
      rw [eql_r, show (((x :: l).length : Int) == 0) = false from by rw [beq_eq_false_iff_ne, List.length_cons]; omega]
    have z2 : bop .int .gtr (iv (x :: l).length) (.int .i64 0) H2 = some (.bool true, H2) := by
      rw [gtr_r, decide_eq_true (by rw [List.length_cons]; omega)]
    have hk : (u8s (x :: l))[0]? = some (.int .u8 x.toNat) := rfl
    have x1 := hs2.ix (i := 0) (by rw [u8s_length]; simp) .i64 H2
    have x1 : ixa 1 a (.int .i64 0) H2 = some (ixp a 0, H2) := x1
    have x2 := hs2.ldx hk
    have q3 : bop .int .eql (.int .u8 x.toNat) (.int .u8 1) H2 = _ := eql8 (k := 1)
    rw [b_g_in, b_assoc, bind_eq hl2, b_assoc, bind_eq z1, b_ret, c4_r, b_g_in, b_assoc, bind_eq x1, b_assoc, bind_eq x2, b_assoc, bind_eq q3, b_ret, c4_r, b_g_in, b_assoc, bind_eq pick_r, b_ret, c2_r]
    simp only [cond_false]
    by_cases h1 : x.toNat = 1
    · rw [decide_eq_true h1, bind_eq (g_r.trans (if_neg (by simp)))]
      simp only [List.replicate]
      rw [c2_r, b_g_in, b_assoc, bind_eq pick_r, b_ret, c1_r, bind_eq pick_r]
      simp only [cond_true]
      rw [b_g_in, b_assoc, bind_eq hl2, b_assoc, bind_eq z2, b_ret, c4_r, bind_eq (g_r.trans (if_neg (by simp)))]
      simp only [List.replicate]
      rw [c2_r, b_g_in, b_assoc, bind_eq pick_r, b_ret, c1_r, bind_eq pick_r]
      rfl
    · have z3 : bop .int .eql (iv (readS (x :: l)).1) (.int .i64 6) H2 = some (.bool true, H2) := by rw [eql_r, readS_other h1]; rfl
      rw [decide_eq_false h1, b_g_in, b_assoc, bind_eq z3, b_ret, c2_r, b_g_in, b_assoc, bind_eq pick_r, b_ret, c1_r, bind_eq pick_r]
      simp only [cond_true, cond_false]
      rw [b_g_in, b_assoc, bind_eq hl2, b_assoc, bind_eq z2, b_ret, c4_r, bind_eq (g_r.trans (if_neg (by simp)))]
      simp only [List.replicate]
      rw [c2_r, b_g_in, b_assoc, bind_eq pick_r, b_ret, c1_r, bind_eq pick_r]
      rfl

theorem law_ShotSchemas : ∀ (xs : Ins [.slc (.int .u8)]) (H : Heap) (vs : List Value), InsWf [.slc (.int .u8)] xs → InsRd [.slc (.int .u8)] xs H vs → ∃ n H', R n n_law08ShotSchemas vs H = some (.bool true, H') := by
  intro xs H vs hwf hrd
  obtain ⟨l, _⟩ := xs
  obtain ⟨hl, _⟩ := hwf
  obtain ⟨c1, _, rfl, hc1, h1, rfl⟩ := hrd
  obtain ⟨a, rfl⟩ : ∃ a, c1 = [a] := by
    match c1, hc1 with
    | [a], _ => exact ⟨a, rfl⟩
  obtain ⟨bs, hs, hn⟩ := rd_bytesN hl h1
  obtain ⟨H', e⟩ := schemas_core (n := 0) hs hn
  exact ⟨10, H', e⟩

end

end Go.Proofs.YtlpibiaokpbhbaaDoor.A
