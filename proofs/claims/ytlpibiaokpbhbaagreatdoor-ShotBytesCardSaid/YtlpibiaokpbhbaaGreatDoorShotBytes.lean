/- A directory's bytes are the document's, and it is read from them. -/
import Derived.Test.YtlpibiaokpbhbaaGreatDoorRefOct
namespace Go.Proofs.YtlpibiaokpbhbaaGreatDoor.A
set_option linter.unusedVariables false
set_option linter.unusedSimpArgs false
open Go.Proofs Go.Proofs.YtlpibiaokpbhbaaGreatDoor

theorem risesP_pairs : ∀ {us : List UsrA} {p : Option (List UInt8)}, risesP p ((us.map pairU).map usrA) = risesP p us
  | [], _ => rfl
  | u :: us, p => by
    have := risesP_pairs (us := us) (p := some u.nm)
    rw [List.map_cons, List.map_cons]
    cases p <;> (unfold risesP; rw [show (usrA (pairU u)).nm = u.nm from rfl, this])

theorem firstU_all : ∀ {us : List UsrA}, (∀ u ∈ us, errU u = 0) → firstU us = 0
  | [], _ => rfl
  | u :: us, h => by
    unfold firstU
    rw [if_pos (h u (by simp))]
    exact firstU_all fun v hv => h v (by simp [hv])

theorem ofN_of {us : List UsrA} (h : ofE us = 0) : ofN (us.map pairU) = 0 := by
  have hP := of_plain h
  have h1 : firstU ((us.map pairU).map usrA) = 0 := firstU_all fun u hu => by
    obtain ⟨e, he, rfl⟩ := List.mem_map.1 hu
    obtain ⟨w, hw, rfl⟩ := List.mem_map.1 he
    rw [errU_usrA, (hP.1 w hw).2]; rfl
  unfold ofN
  unfold ofE at h ⊢
  rw [if_pos h1, risesP_pairs, List.length_map, List.length_map]
  by_cases h2 : firstU us = 0
  · rw [if_pos h2] at h
    rw [h]; rfl
  · rw [if_neg h2] at h; exact absurd h h2

theorem keys_usrA (us : List UsrA) (h : ∀ u ∈ us, plainU u = true) : ((us.map pairU).map usrA).map keyU = us.map keyU := by
  rw [List.map_map, List.map_map]
  refine List.map_congr_left fun u hu => ?_
  show keyU (usrA (pairU u)) = keyU u
  exact (plain_key rfl (h u hu)).2 rfl

section
variable {H0 H X : Heap} {n p d b : Nat} {us ws : List UsrA} {a c v : Value}

theorem r_nilBytes : R (n + 1) n_shotBytes [.pointer none] H = some (.slice none 0 0, H) := by
  rw [R, run_shotBytes rfl]
  unfold F_shotBytes
  rw [bind_eq eqnn_r, cnd_b, if_pos rfl]
  rfl

theorem plain_gs {us : List UsrA} (h : ∀ u ∈ us, plainU u = true ∧ errE (pairU u) = 0) : ∀ u ∈ us, u.gs.length ≤ 1000000 := fun u hu => by
  have h1 := (h u hu).1
  unfold plainU at h1
  simp only [Bool.and_eq_true, decide_eq_true_eq] at h1
  omega

theorem sbytes_core (hA : Users H a us) (hn : us.length ≤ 9223372036854775807) : ∃ H', R (n + 10) n_law08ShotBytes [a] H = some (.bool true, H') := by
  obtain ⟨H1, e1, k1⟩ := r_lives8 (n := n) (H := H)
  obtain ⟨v2, ok2, H2, e2, k2, h2⟩ := r_made (n := n + 1) (hA.mono k1) hn
  have e2 : R (n + 9) n_law08Made [a] H1 = _ := e2
  have f1 : ∀ v H', F_law08ShotBytes (R (n + 9)) a H = some (v, H') → R (n + 10) n_law08ShotBytes [a] H = some (v, H') := fun v H' hr => by rw [R, run_law08ShotBytes rfl]; exact hr
  cases ok2 with
  | false =>
    refine ⟨H2, f1 _ _ ?_⟩
    unfold F_law08ShotBytes
    rw [bind_eq e1, bind_eq not_r, cnd_b, if_neg (by simp), bind_eq e2, bind_eq extr_p0, bind_eq extr_p1, bind_eq not_r, cnd_b, if_pos (by simp)]
    rfl
  | true =>
    obtain ⟨E2, d2, b2, rfl, D2, R2⟩ := h2 rfl
    have P2 := of_plain E2
    have hof := ofN_of E2
    obtain ⟨x3, H3, e3, s3, k3⟩ := r_bytes (n := n + 1) E2 D2 R2
    have e3 : R (n + 9) n_shotBytes [pt d2] H2 = _ := e3
    have hbl : (encB (us.map pairU)).length ≤ 100000000 := by
      have : ∀ (l : List Ent), (∀ e ∈ l, errE e = 0) → (entsB l).length ≤ l.length * 28 := by
        intro l
        induction l with
        | nil => intro _; exact Nat.zero_le _
        | cons a l ih =>
          intro hh
          have h1 := entB_len (hh a (by simp))
          have h2 := ih fun e he => hh e (by simp [he])
          unfold entsB at h2 ⊢
          rw [List.map_cons, List.flatten_cons, List.length_append, List.length_cons]; omega
      have := this (us.map pairU) (fun e he => by obtain ⟨u, hu, rfl⟩ := List.mem_map.1 he; exact (P2.1 u hu).2)
      rw [List.length_map] at this
      unfold encB
      rw [List.length_append, List.length_append, le_len, le_len]; omega
    obtain ⟨dv, H4, e4, k4, _, hok⟩ := r_shotRead (n := n + 1) s3 hbl
    have e4 : R (n + 9) n_shotRead [x3] H3 = _ := e4
    rw [readS_enc hof] at e4 hok
    obtain ⟨d4, b4, rfl, D4, R4, _⟩ := hok rfl
    have e4 : R (n + 9) n_shotRead [x3] H3 = some (.tuple #[pt d4, iv 0], H4) := e4
    have D4 : Dir H4 d4 b4 (us.map pairU) := D4
    have R4 : Rise (us.map pairU) := R4
    have t4 := b2s_v (s3.mono k4)
    have hk4 := ((k1.trans k2).trans k3).trans k4
    obtain ⟨H5, e5, k5⟩ := r_text8 (n := n + 4) (by omega) (hA.mono hk4) (fun u hu => (P2.1 u hu).2)
    have e5 : R (n + 9) n_ref08Text [a] H4 = _ := e5
    have t5 := b2s_v ((s3.mono k4).mono k5)
    have q5 : bop .str .eql (strv (encB (us.map pairU))) (strv (encB (us.map pairU))) H5 = some (.bool true, H5) := by rw [eqs_v]; simp
    have e6 := r_schema (n := n + 8) ((s3.mono k4).mono k5) hbl
    have hsc : schemaS (encB (us.map pairU)) = 1 := rfl
    rw [hsc] at e6
    have e6 : R (n + 9) n_shotSchema [x3] H5 = _ := e6
    have q6 : bop .int .eql (iv (1 : Nat)) (.int .i64 1) H5 = some (.bool true, H5) := by rw [eql_r]; rfl
    have q7 : bop .int .eql (iv 0) (.int .i64 0) H5 = some (.bool true, H5) := by rw [eql_r]; rfl
    have q8 : bop .ptr .neq (pt d4) (.pointer none) H5 = some (.bool true, H5) := nep_r
    obtain ⟨av, qa, H6, e7, r7, k7, _⟩ := r_eldAll (n := n + 6) (D4.hle k5)
    have e7 : R (n + 9) n_elderDirAll [pt d4] H5 = _ := e7
    rw [sort_self D4.g.nod R4] at r7
    have hUs : UsersS H6 av ((us.map pairU).map usrA) := r7.users.s (fun u hu => by obtain ⟨e, _, rfl⟩ := List.mem_map.1 hu; exact Nat.zero_le _)
    have hk6 := (hk4.trans k5).trans k7
    obtain ⟨H7, e8, k8⟩ := r_sameAll (n := n + 7) (by rw [List.length_map, List.length_map]; omega) (by omega) hUs ((hA.mono hk6).s (plain_gs P2.1))
    rw [keys_usrA us (fun u hu => (P2.1 u hu).1), decide_eq_true rfl] at e8
    have e8 : R (n + 9) n_law07SameUsers [av, a] H6 = _ := e8
    have e9 := r_nilBytes (n := n + 8) (H := H7)
    have e9 : R (n + 9) n_shotBytes [.pointer none] H7 = _ := e9
    have l9 : lenS (.slice none 0 0) H7 = some (iv 0, H7) := rfl
    have q9 : bop .int .eql (iv 0) (.int .i64 0) H7 = some (.bool true, H7) := by rw [eql_r]; rfl
    refine ⟨H7, f1 _ _ ?_⟩
    unfold F_law08ShotBytes
    rw [bind_eq e1, bind_eq not_r, cnd_b, if_neg (by simp), bind_eq e2, bind_eq extr_p0, bind_eq extr_p1, bind_eq not_r, cnd_b, if_neg (by simp), bind_eq e3, bind_eq e4, bind_eq extr_p0, bind_eq extr_p1, bind_eq t4, bind_eq e5, bind_eq t5, same_self, bind_eq q5,
      b_gv_in, b_ret, b_gv_in, bind_eq e6, b_gv_in, bind_eq q6, bind_eq pick_r]
    simp only [cond_true]
    rw [b_gv_in, b_ret, b_gv_in, bind_eq q7, bind_eq pick_r]
    simp only [cond_true]
    rw [b_gv_in, b_ret, b_gv_in, bind_eq q8, bind_eq pick_r]
    simp only [cond_true]
    rw [b_gv_in, b_ret, b_gv_in, b_ret, b_gv_in, bind_eq e7, b_gv_in, bind_eq e8, bind_eq pick_r]
    simp only [cond_true]
    rw [b_gv_in, bind_eq e9, b_gv_in, bind_eq l9, b_gv_in, bind_eq q9, bind_eq pick_r]
    rfl

theorem law_ShotBytes : ∀ (xs : Ins [.slc userT]) (H : Heap) (vs : List Value), InsWf [.slc userT] xs → InsRd [.slc userT] xs H vs → ∃ n H', R n n_law08ShotBytes vs H = some (.bool true, H') := by
  intro xs H vs hwf hrd
  obtain ⟨l, _⟩ := xs
  obtain ⟨hl, _⟩ := hwf
  obtain ⟨c1, _, rfl, hc1, h1, rfl⟩ := hrd
  obtain ⟨a, rfl⟩ : ∃ a, c1 = [a] := by
    match c1, hc1 with
    | [a], _ => exact ⟨a, rfl⟩
  obtain ⟨us, hA, hn⟩ := rd_users hl h1
  obtain ⟨H', e⟩ := sbytes_core (n := 0) hA hn
  exact ⟨10, H', e⟩

end

end Go.Proofs.YtlpibiaokpbhbaaGreatDoor.A
