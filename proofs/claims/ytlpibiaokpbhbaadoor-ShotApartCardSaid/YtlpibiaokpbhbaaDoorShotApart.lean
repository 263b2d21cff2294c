/- Directories have the same bytes just if they have the same users. -/
import Derived.Test.YtlpibiaokpbhbaaDoorShotLaw
namespace Go.Proofs.YtlpibiaokpbhbaaDoor.A
set_option linter.unusedVariables false
set_option linter.unusedSimpArgs false
open Go.Proofs Go.Proofs.YtlpibiaokpbhbaaDoor

section
variable {H0 H X : Heap} {n p d b : Nat} {us ws : List UsrA} {a c v : Value}

theorem apart_core (hA : Users H a us) (hC : Users H c ws) (hn : us.length ≤ 9223372036854775807) (hm : ws.length ≤ 9223372036854775807) : ∃ H', R (n + 10) n_law08ShotApart [a, c] H = some (.bool true, H') := by
  obtain ⟨H1, e1, k1⟩ := r_lives8 (n := n) (H := H)
  obtain ⟨v2, ok2, H2, e2, k2, h2⟩ := r_made (n := n + 1) (hA.mono k1) hn
  have e2 : R (n + 9) n_law08Made [a] H1 = _ := e2
  obtain ⟨v3, ok3, H3, e3, k3, h3⟩ := r_made (n := n + 1) ((hC.mono k1).mono k2) hm
  have e3 : R (n + 9) n_law08Made [c] H2 = _ := e3
  have f1 : ∀ v H', F_law08ShotApart (R (n + 9)) a c H = some (v, H') → R (n + 10) n_law08ShotApart [a, c] H = some (v, H') := fun v H' hr => by rw [R, run_law08ShotApart rfl]; exact hr
  cases ok2 with
  | false =>
    refine ⟨H3, f1 _ _ ?_⟩
    unfold F_law08ShotApart
    rw [bind_eq e1, bind_eq not_r, cnd_b, if_neg (by simp), bind_eq e2, bind_eq extr_p0, bind_eq extr_p1, bind_eq e3, bind_eq extr_p0, bind_eq extr_p1, bind_eq not_r, bind_eq (g_r.trans (if_neg (by simp)))]
    simp only [List.replicate]
    rw [c2_r, bind_eq pick_r]
    rfl
  | true =>
    cases ok3 with
    | false =>
      refine ⟨H3, f1 _ _ ?_⟩
      unfold F_law08ShotApart
      rw [bind_eq e1, bind_eq not_r, cnd_b, if_neg (by simp), bind_eq e2, bind_eq extr_p0, bind_eq extr_p1, bind_eq e3, bind_eq extr_p0, bind_eq extr_p1, bind_eq not_r]
      simp only [Bool.not_true]
      rw [b_g_in, b_assoc, bind_eq not_r, b_ret, c2_r, bind_eq pick_r]
      rfl
    | true =>
      obtain ⟨E2, d2, b2, rfl, D2, R2⟩ := h2 rfl
      obtain ⟨E3, d3, b3, rfl, D3, R3⟩ := h3 rfl
      obtain ⟨x4, H4, e4, s4, k4⟩ := r_bytes (n := n + 1) E2 (D2.hle k3) R2
      have e4 : R (n + 9) n_shotBytes [pt d2] H3 = _ := e4
      obtain ⟨x5, H5, e5, s5, k5⟩ := r_bytes (n := n + 1) E3 (D3.hle k4) R3
      have e5 : R (n + 9) n_shotBytes [pt d3] H4 = _ := e5
      have hk5 := (((k1.trans k2).trans k3).trans k4).trans k5
      have P2 := of_plain E2
      have P3 := of_plain E3
      have g0 : ∀ {us : List UsrA}, (∀ u ∈ us, plainU u = true ∧ errE (pairU u) = 0) → ∀ u ∈ us, u.gs.length ≤ 1000000 := fun h u hu => by
        have h1 := (h u hu).1
        unfold plainU at h1
        simp only [Bool.and_eq_true, decide_eq_true_eq] at h1
        omega
      obtain ⟨H6, e6, k6⟩ := r_sameAll (n := n + 7) (X := H5) (by omega) (by omega) ((hA.mono hk5).s (g0 P2.1)) ((hC.mono hk5).s (g0 P3.1))
      have e6 : R (n + 9) n_law07SameUsers [a, c] H5 = _ := e6
      have hiff : decide (us.map keyU = ws.map keyU) = (encB (us.map pairU) == encB (ws.map pairU)) := by
        rw [Bool.eq_iff_iff, decide_eq_true_eq, beq_iff_eq, plain_keys (fun u hu => (P2.1 u hu).1) (fun u hu => (P3.1 u hu).1)]
        refine ⟨fun h => by rw [h], fun h => encB_inj (fun e he => ?_) (fun e he => ?_) (by simp; omega) (by simp; omega) h⟩
        · obtain ⟨u, hu, rfl⟩ := List.mem_map.1 he
          exact (P2.1 u hu).2
        · obtain ⟨u, hu, rfl⟩ := List.mem_map.1 he
          exact (P3.1 u hu).2
      rw [hiff] at e6
      have t4 := b2s_v s4
      have t4' : b2s x4 H5 = _ := b2s_v (s4.mono k5)
      have t4'' : b2s x4 H6 = _ := b2s_v ((s4.mono k5).mono k6)
      have t5 := b2s_v s5
      have t5' : b2s x5 H6 = _ := b2s_v (s5.mono k6)
      refine ⟨H6, f1 _ _ ?_⟩
      unfold F_law08ShotApart
      rw [bind_eq e1, bind_eq not_r, cnd_b, if_neg (by simp), bind_eq e2, bind_eq extr_p0, bind_eq extr_p1, bind_eq e3, bind_eq extr_p0, bind_eq extr_p1, bind_eq not_r]
      simp only [Bool.not_true]
      rw [b_g_in, b_assoc, bind_eq not_r, b_ret, c2_r, bind_eq pick_r]
      simp only [cond_false, Bool.not_true]
      rw [cnd_b, if_neg (by simp), bind_eq e4, bind_eq t4, bind_eq e5, bind_eq t4', same_self, bind_eq t5, bind_eq eqs_v, bind_eq e6, bind_eq t5', same_self, bind_eq t4'', same_self, bind_eq eqb_r]
      simp
      rfl

theorem law_ShotApart : ∀ (xs : Ins [.slc userT, .slc userT]) (H : Heap) (vs : List Value), InsWf [.slc userT, .slc userT] xs → InsRd [.slc userT, .slc userT] xs H vs → ∃ n H', R n n_law08ShotApart vs H = some (.bool true, H') := by
  intro xs H vs hwf hrd
  obtain ⟨l, l2, _⟩ := xs
  obtain ⟨hl, hl2, _⟩ := hwf
  obtain ⟨c1, _, rfl, hc1, h1, c2, _, rfl, hc2, h2, rfl⟩ := hrd
  obtain ⟨a, rfl⟩ : ∃ a, c1 = [a] := by
    match c1, hc1 with
    | [a], _ => exact ⟨a, rfl⟩
  obtain ⟨c, rfl⟩ : ∃ a, c2 = [a] := by
    match c2, hc2 with
    | [a], _ => exact ⟨a, rfl⟩
  obtain ⟨us, hA, hn⟩ := rd_users hl h1
  obtain ⟨ws, hC, hm⟩ := rd_users hl2 h2
  obtain ⟨H', e⟩ := apart_core (n := 0) hA hC hn hm
  exact ⟨10, H', e⟩

end

end Go.Proofs.YtlpibiaokpbhbaaDoor.A
