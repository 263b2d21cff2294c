/- MailBack: what is renamed and put back is as it was. -/
import Derived.Test.YtmacmlpiheimhaaDoorMail8
namespace Go.Proofs.YtmacmlpiheimhaaDoor.A
set_option linter.unusedVariables false
set_option linter.unusedSimpArgs false
open Go.Proofs Go.Proofs.YtmacmlpiheimhaaDoor

section
variable {H X : Heap} {sl : Value} {ac : List EAct} {n : Nat} {x o a : Nat} {OW OF : SMap} {s t : List UInt8}

/-- What is done once the addresses are set. -/
noncomputable def backF (Γ : Funs) (q29_0 q29_1 q29_2 : Value) : M Value :=
  bind (Γ n_law09Pairs [q29_2, (Value.int .i64 100)]) fun v49x30 =>
  bind (Γ n_mailIndexOf [q29_2, q29_0]) fun v53x31 =>
  bind (extr v53x31 0) fun v54x32 =>
  bind (extr v53x31 1) fun v55x33 =>
  bind (Γ n_mailIndexRename [q29_2, q29_0, q29_1]) fun v59x34 =>
  bind (bop .int .neq v59x34 (Value.int .i64 0)) fun v61x35 =>
  cnd v61x35
  (bind (Γ n_law09Pairs [q29_2, (Value.int .i64 100)]) fun v63x36 =>
  bind (Γ n_law09Same [v63x36, v49x30]) fun v65x37 =>
  ret v65x37)
  (bind (Γ n_mailIndexOf [q29_2, q29_1]) fun v69x38 =>
  bind (extr v69x38 0) fun v70x39 =>
  bind (extr v69x38 1) fun v71x40 =>
  bind (uop .not v55x33) fun v73x41 =>
  bind (gate v73x41 false 2 (bind (uop .not v71x40) fun v76x42 =>
  ret [v71x40, v76x42])) (c2 fun _ q43_1 =>
  bind (pick v73x41 (Value.bool true) q43_1) fun v77x44 =>
  bind (gate v77x44 false 3 (bind (bop .str .neq v70x39 v54x32) fun v81x45 =>
  ret [v70x39, v54x32, v81x45])) (c3 fun _ _ q46_2 =>
  bind (pick v77x44 (Value.bool true) q46_2) fun v82x47 =>
  bind (gate v82x47 false 5 (bind (Γ n_mailIndexRename [q29_2, q29_1, q29_0]) fun v87x48 =>
  bind (bop .int .neq v87x48 (Value.int .i64 0)) fun v88x49 =>
  ret [q29_2, q29_1, q29_0, v87x48, v88x49])) (c5 fun _ _ _ _ q50_4 =>
  bind (pick v82x47 (Value.bool true) q50_4) fun v89x51 =>
  bind (gate v89x51 false 5 (bind (Γ n_law09Pairs [q29_2, (Value.int .i64 100)]) fun v92x52 =>
  bind (Γ n_law09Same [v92x52, v49x30]) fun v94x53 =>
  bind (uop .not v94x53) fun v95x54 =>
  ret [q29_2, v92x52, v49x30, v94x53, v95x54])) (c5 fun _ _ _ _ q55_4 =>
  bind (pick v89x51 (Value.bool true) q55_4) fun v96x56 =>
  cnd v96x56
  (ret (Value.bool false))
  (bind (Γ n_mailIndexDrop [q29_2, q29_0]) fun v99x57 =>
  bind (gate v99x57 true 4 (bind (Γ n_mailIndexDrop [q29_2, q29_0]) fun v103x58 =>
  bind (uop .not v103x58) fun v104x59 =>
  ret [q29_2, q29_0, v103x58, v104x59])) (c4 fun _ _ _ q60_3 =>
  bind (pick v99x57 q60_3 (Value.bool false)) fun v105x61 =>
  bind (gate v105x61 true 5 (bind (Γ n_mailIndexSet [q29_2, q29_0, v54x32]) fun v110x62 =>
  bind (bop .int .eql v110x62 (Value.int .i64 0)) fun v111x63 =>
  ret [q29_2, q29_0, v54x32, v110x62, v111x63])) (c5 fun _ _ _ _ q64_4 =>
  bind (pick v105x61 q64_4 (Value.bool false)) fun v112x65 =>
  bind (gate v112x65 true 4 (bind (Γ n_law09Pairs [q29_2, (Value.int .i64 100)]) fun v115x66 =>
  bind (Γ n_law09Same [v115x66, v49x30]) fun v117x67 =>
  ret [q29_2, v115x66, v49x30, v117x67])) (c4 fun _ _ _ q68_3 =>
  bind (pick v112x65 q68_3 (Value.bool false)) fun v118x69 =>
  ret v118x69)))))))))

theorem r_back (hI : Idx X x o a OW OF) (hg : Good OF) (hl : OF.length ≤ 60) : ∃ X', backF (R (n + 10)) (strv s) (strv t) (pt x) X = some (.bool true, X') := by
  have hal := hI.of.lt
  have hol := hI.ow.lt
  obtain ⟨v1, p1, X1, e1, r1, l1, b1⟩ := r_pairs (n := n + 6) (most := 100) hI (by omega)
  have e1 : R (n + 10) n_law09Pairs [pt x, .int .i64 100] X = _ := e1
  have I1 := hI.hle l1
  have e2 : R (n + 10) n_mailIndexOf [pt x, strv s] X1 = _ := r_mof (n := n + 9) (k := s) I1
  obtain ⟨X2, e3, I2, s2⟩ := r_mren (n := n + 4) (old := s) (next := t) I1
  have e3 : R (n + 10) n_mailIndexRename [pt x, strv s, strv t] X1 = _ := e3
  have fresh : ∀ j ∈ p1, j ∉ [o, a] := fun j hj hm => by
    have := b1 j hj
    simp only [List.mem_cons, List.not_mem_nil, or_false] at hm
    omega
  have r2 := r1.step s2 fresh
  have hm100 : ∀ {L : SMap}, ((sortM L).take (100 : Int).toNat).length ≤ 100000 := fun {L} => by rw [List.length_take]; exact Nat.le_trans (Nat.min_le_left _ _) (by decide)
  by_cases hE : errRenI s t OF = 0
  · obtain ⟨m, ha, hb, hn⟩ := ren_ok hE
    have hat := ren_at hE
    obtain ⟨hE2, hsame⟩ := ren_back hg hE
    rw [ha] at e2 hat
    rw [hE] at e3
    have e4 : R (n + 10) n_mailIndexOf [pt x, strv t] X2 = _ := r_mof (n := n + 9) (k := t) I2
    rw [hat] at e4
    obtain ⟨X3, e5, I3, s3⟩ := r_mren (n := n + 4) (old := t) (next := s) I2
    have e5 : R (n + 10) n_mailIndexRename [pt x, strv t, strv s] X2 = _ := e5
    rw [hE2] at e5
    have r3 := r2.step s3 fresh
    have hs3 := sort_same hI.of.nod I3.of.nod hsame
    have hl3 : (renF t s (renF s t OF)).length = OF.length := by rw [← sortM_len, hs3, sortM_len]
    generalize renF t s (renF s t OF) = OF3 at I3 hsame hs3 hl3
    generalize renO t s (renO s t OW OF) (renF s t OF) = OW3 at I3
    obtain ⟨v4, p4, X4, e6, r4, l4, b4⟩ := r_pairs (n := n + 6) (most := 100) I3 (by omega)
    have e6 : R (n + 10) n_law09Pairs [pt x, .int .i64 100] X3 = _ := e6
    rw [hs3] at r4
    have I4 := I3.hle l4
    have r14 := r3.step l4.step (o2 := []) (by simp)
    have e7 : R (n + 10) n_law09Same [v4, v1] X4 = _ := r_same (n := n + 9) r4.rd r14.rd hm100
    rw [decide_eq_true rfl] at e7
    obtain ⟨X5, e8, I5, s5⟩ := r_mdrop (n := n + 9) (k := s) I4
    have e8 : R (n + 10) n_mailIndexDrop [pt x, strv s] X4 = _ := e8
    rw [hsame, ha] at e8
    obtain ⟨X6, e9, I6, s6⟩ := r_mdrop (n := n + 9) (k := s) I5
    have e9 : R (n + 10) n_mailIndexDrop [pt x, strv s] X5 = _ := e9
    rw [aget_dropF] at e9
    obtain ⟨hS, hback⟩ := put_back (OW4 := dropO s (dropO s OW3 OF3) (dropF s OF3)) (OF4 := dropF s (dropF s OF3)) hg hI.inv ha aget_dropF (fun k hk => by rw [aget_dropF_ne hk, aget_dropF_ne hk, hsame]) I6.inv
    obtain ⟨X7, e10, I7, s7⟩ := r_mset (n := n + 1) (k := s) (m := m) I6
    have e10 : R (n + 10) n_mailIndexSet [pt x, strv s, strv m] X6 = _ := e10
    rw [hS] at e10
    have hs7 := sort_same hI.of.nod I7.of.nod hback
    have hl7 : (setF s m (dropO s (dropO s OW3 OF3) (dropF s OF3)) (dropF s (dropF s OF3))).length = OF.length := by rw [← sortM_len, hs7, sortM_len]
    obtain ⟨v8, p8, X8, e11, r8, l8, b8⟩ := r_pairs (n := n + 6) (most := 100) I7 (by omega)
    have e11 : R (n + 10) n_law09Pairs [pt x, .int .i64 100] X7 = _ := e11
    rw [hs7] at r8
    have r18 := (((r14.step s5 fresh).step s6 fresh).step s7 fresh).step l8.step (o2 := []) (by simp)
    have e12 : R (n + 10) n_law09Same [v8, v1] X8 = _ := r_same (n := n + 9) r8.rd r18.rd hm100
    rw [decide_eq_true rfl] at e12
    have q0 : ∀ X : Heap, bop .int .neq (iv 0) (.int .i64 0) X = some (.bool false, X) := fun X => by rw [neq_r]; rfl
    have q1 : ∀ X : Heap, bop .int .eql (iv 0) (.int .i64 0) X = some (.bool true, X) := fun X => by rw [eql_r]; rfl
    have q2 : bop .str .neq (strv m) (strv m) X2 = some (.bool false, X2) := by rw [nes_v]; simp
    refine ⟨X8, ?_⟩
    unfold backF
    rw [bind_eq e1, bind_eq e2, bind_eq extr_p0, bind_eq extr_p1, bind_eq e3, bind_eq (q0 _), cnd_b, if_neg (by simp), bind_eq e4, bind_eq extr_p0, bind_eq extr_p1, bind_eq not_r]
    simp only [Option.isSome_some, Bool.not_true, Option.getD_some]
    rw [b_g_in, b_assoc, bind_eq not_r, b_ret, c2_r, bind_eq pick_r]
    simp only [cond_false, Bool.not_true]
    rw [b_g_in, b_assoc, bind_eq q2, b_ret, c3_r, bind_eq pick_r]
    simp only [cond_false]
    rw [b_g_in, b_assoc, bind_eq e5, b_assoc, bind_eq (q0 _), b_ret, c5_r, bind_eq pick_r]
    simp only [cond_false]
    rw [b_g_in, b_assoc, bind_eq e6, b_assoc, bind_eq e7, b_assoc, bind_eq not_r, b_ret, c5_r, bind_eq pick_r]
    simp only [cond_false, Bool.not_true]
    rw [cnd_b, if_neg (by simp), bind_eq e8]
    simp only [Option.isSome_some]
    rw [b_g_in, b_assoc, bind_eq e9, b_assoc, bind_eq not_r, b_ret, c4_r, bind_eq pick_r]
    simp only [cond_true, Option.isSome_none, Bool.not_false]
    rw [b_g_in, b_assoc, bind_eq e10, b_assoc, bind_eq (q1 _), b_ret, c5_r, bind_eq pick_r]
    simp only [cond_true]
    rw [b_g_in, b_assoc, bind_eq e11, b_assoc, bind_eq e12, b_ret, c4_r, bind_eq pick_r]
    rfl
  · have hF : renF s t OF = OF := by unfold renF; rw [if_neg hE]
    rw [hF] at I2
    obtain ⟨v3, p3, X3, e4, r3, l3, b3⟩ := r_pairs (n := n + 6) (most := 100) I2 (by omega)
    have e4 : R (n + 10) n_law09Pairs [pt x, .int .i64 100] X2 = _ := e4
    have e5 : R (n + 10) n_law09Same [v3, v1] X3 = _ := r_same (n := n + 9) r3.rd (r2.step l3.step (o2 := []) (by simp)).rd hm100
    rw [decide_eq_true rfl] at e5
    have q0 : bop .int .neq (iv (errRenI s t OF)) (.int .i64 0) X2 = some (.bool true, X2) := by rw [neq_r]; simp [hE]
    refine ⟨X3, ?_⟩
    unfold backF
    rw [bind_eq e1, bind_eq e2, bind_eq extr_p0, bind_eq extr_p1, bind_eq e3, bind_eq q0, cnd_b, if_pos rfl, bind_eq e4, bind_eq e5]
    rfl

theorem back_core (hA : EActs H sl ac) (hn : ac.length ≤ 9223372036854775807) : ∃ H', R (n + 11) n_law09MailBack [sl, strv s, strv t] H = some (.bool true, H') := by
  have f1 : ∀ r X', F_law09MailBack (R (n + 10)) sl (strv s) (strv t) H = some (r, X') → R (n + 11) n_law09MailBack [sl, strv s, strv t] H = some (r, X') := fun r X' hr => by rw [R, run_law09MailBack rfl]; exact hr
  obtain ⟨H1, e1, l1⟩ := r_mlives (n := n) (H := H)
  obtain ⟨H2, e2, l2⟩ := r_few (n := n + 9) (hA.mono l1) hn
  have e2 : R (n + 10) n_law09Few [sl] H1 = _ := e2
  obtain ⟨H2', e2', l2'⟩ := r_mlives (n := n) (H := H2)
  generalize hq : (ac.all fewA && decide (ac.length ≤ 60)) = fw at e2
  have q1 : (bind (lenT (strv s)) fun v25x7 => bind (bop .int .gtr v25x7 (Value.int .i64 50)) fun v26x8 => ret [strv s, v25x7, v26x8]) H2 = some ([strv s, iv s.length, .bool (decide ((s.length : Int) > 50))], H2) := by
    rw [bind_eq lenT_v, bind_eq gtr_r]; rfl
  have q2 : (bind (lenT (strv t)) fun v25x7 => bind (bop .int .gtr v25x7 (Value.int .i64 50)) fun v26x8 => ret [strv t, v25x7, v26x8]) H2 = some ([strv t, iv t.length, .bool (decide ((t.length : Int) > 50))], H2) := by
    rw [bind_eq lenT_v, bind_eq gtr_r]; rfl
  generalize hz : ((!fw || decide ((s.length : Int) > 50)) || decide ((t.length : Int) > 50)) = z
  have step : ∀ {k : Value → M Value}, bind (uop .not (.bool true)) (fun v17x2 =>
      bind (gate v17x2 false 3 (bind (R (n + 10) n_law09Few [sl]) fun v20x3 => bind (uop .not v20x3) fun v21x4 => ret [sl, v20x3, v21x4])) (c3 fun _ _ q5_2 =>
      bind (pick v17x2 (Value.bool true) q5_2) fun v22x6 =>
      bind (gate v22x6 false 3 (bind (lenT (strv s)) fun v25x7 => bind (bop .int .gtr v25x7 (Value.int .i64 50)) fun v26x8 => ret [strv s, v25x7, v26x8])) (c3 fun _ _ q9_2 =>
      bind (pick v22x6 (Value.bool true) q9_2) fun v27x10 =>
      bind (gate v27x10 false 3 (bind (lenT (strv t)) fun v30x11 => bind (bop .int .gtr v30x11 (Value.int .i64 50)) fun v31x12 => ret [strv t, v30x11, v31x12])) (c3 fun _ _ q13_2 =>
      bind (pick v27x10 (Value.bool true) q13_2) k)))) H1 = k (.bool z) H2 := fun {k} => by
    rw [bind_eq not_r]
    simp only [Bool.not_true]
    rw [b_g_in, b_assoc, bind_eq e2, b_assoc, bind_eq not_r, b_ret, c3_r, bind_eq pick_r]
    simp only [cond_false]
    rw [or3 q1, or3 q2, hz]
  cases z
  · have hfw : fw = true := by
      cases fw
      · simp at hz
      · rfl
    rw [hfw] at hq
    simp only [Bool.and_eq_true, decide_eq_true_eq] at hq
    obtain ⟨H3, x, o, a, e3, I3, l3, b1, b2, b3⟩ := r_mnew (n := n + 9) (X := H2)
    have e3 : R (n + 10) n_mailNew [] H2 = _ := e3
    have hA2 := hA.mono ((l1.trans l2).trans l3)
    obtain ⟨H4, OW, OF, e4, l4, I4, g4, k4⟩ := back_do (n := n + 1) (z1 := strv s) (z2 := strv t) (hA.mono (l1.trans l2)) hq.2 ⟨b2, b3⟩ ac.length 0 [] [] H3 (by omega) (by omega) l3 I3 (fun k v h => by cases h) (by simp)
    rw [show iv ((0 : Nat) : Int) = .int .i64 0 from rfl] at e4
    obtain ⟨H5, e5⟩ := r_back (n := n) (s := s) (t := t) I4 g4 k4
    refine ⟨H5, f1 _ _ ?_⟩
    unfold F_law09MailBack
    rw [bind_eq e1]
    refine step.trans ?_
    rw [cnd_b, if_neg (by simp), bind_eq e3, bind_eq hA2.len, jn_ext e4, xk_hit, c3_r]
    exact e5
  · refine ⟨H2', f1 _ _ ?_⟩
    unfold F_law09MailBack
    rw [bind_eq e1]
    refine step.trans ?_
    rw [cnd_b, if_pos rfl, bind_eq e2']
    rfl

theorem law_MailBack : ∀ (xs : Ins [.slc eldActT, .str, .str]) (H : Heap) (vs : List Value), InsWf [.slc eldActT, .str, .str] xs → InsRd [.slc eldActT, .str, .str] xs H vs → ∃ n H', R n n_law09MailBack vs H = some (.bool true, H') := by
  intro xs H vs hwf hrd
  obtain ⟨l, s, t, _⟩ := xs
  obtain ⟨hl, _⟩ := hwf
  obtain ⟨c1, _, rfl, hc1, h1, c2, _, rfl, hc2, h2, c3, _, rfl, hc3, h3, rfl⟩ := hrd
  obtain ⟨v, rfl⟩ : ∃ v, c1 = [v] := by
    match c1, hc1 with
    | [v], _ => exact ⟨v, rfl⟩
  have h2 : c2 = [.string s] := h2
  have h3 : c3 = [.string t] := h3
  subst h2
  subst h3
  obtain ⟨ac, hA, hn⟩ := rd_eldActs hl h1
  have hs : Value.string s = strv (ByteArray.data s).toList := strv_of s
  have ht : Value.string t = strv (ByteArray.data t).toList := strv_of t
  obtain ⟨H', e⟩ := back_core (n := 0) (s := (ByteArray.data s).toList) (t := (ByteArray.data t).toList) hA hn
  refine ⟨11, H', ?_⟩
  rw [← hs, ← ht] at e
  exact e

end

end Go.Proofs.YtmacmlpiheimhaaDoor.A
