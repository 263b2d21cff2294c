/- The chapter's example of directories. -/
import Derived.Test.YtmacmlpiheimhaaEldAll
namespace Go.Proofs.Ytmacmlpiheimhaa.A
set_option linter.unusedVariables false
set_option linter.unusedSimpArgs false
open Go.Proofs Go.Proofs.Ytmacmlpiheimhaa

theorem strv_of (s : ByteArray) : Value.string s = strv s.data.toList := by simp [strv]

section
variable {H : Heap} {n : Nat}

/-! the example -/

theorem ksort_ab : ksort [[98, 111, 98], [97, 110, 110]] = [[97, 110, 110], [98, 111, 98]] := by
  have h : ksort [[98, 111, 98], [97, 110, 110]] = ksort [[97, 110, 110], [98, 111, 98]] := ksort_perm (List.Perm.swap _ _ _)
  rw [h]
  exact List.mergeSort_of_pairwise (by decide)

theorem r_lives : ∃ H', R (n + 8) n_law07Lives [] H = some (.bool true, H') ∧ HLe H H' := by
  obtain ⟨H1, d, b, e1, D1, l1, o1, o2⟩ := r_eldNew (n := n + 6) (H := H)
  obtain ⟨H2, e2, D2, s2⟩ := r_create (n := n) (k := [98, 111, 98]) (s := [49]) D1 (by decide) (by decide)
  obtain ⟨H3, e3, D3, s3⟩ := r_create (n := n) (k := [97, 110, 110]) (s := [50]) D2 (by decide) (by decide)
  have m1 : createM [98, 111, 98] [49] [] = [([98, 111, 98], [49])] := by decide
  have m2 : createM [97, 110, 110] [50] [([98, 111, 98], [49])] = [([98, 111, 98], [49]), ([97, 110, 110], [50])] := by decide
  have c1 : errCreate [98, 111, 98] [49] [] = 0 := by decide
  have c2 : errCreate [97, 110, 110] [50] [([98, 111, 98], [49])] = 0 := by decide
  rw [m1] at D2 D3 e3
  rw [m2] at D3
  rw [c1] at e2
  rw [c2] at e3
  obtain ⟨v, q, H4, e4, r4, l4, o4⟩ := r_eldList (n := n + 1) (pre := []) D3 (by decide)
  have hp : prefB [] = true := by decide
  have hk : (if prefB [] then (ksort (([([98, 111, 98], [49]), ([97, 110, 110], [50])] : SMap).map (·.1))).filter (preB []) else []) = [[97, 110, 110], [98, 111, 98]] := by
    rw [if_pos hp]
    show (ksort [[98, 111, 98], [97, 110, 110]]).filter (preB []) = _
    rw [ksort_ab]; decide
  rw [hk] at r4
  have hep : errPref [] = 0 := by decide
  rw [hep] at e4
  have x1 := r4.ix (i := 0) (by simp) .i64 H4
  have x2 := r4.ldx (i := 0) (v := strv [97, 110, 110]) rfl
  have x3 := r4.rd.len (H' := H4)
  have hf := l1.more (s2.trans s3) (by simpa using o2)
  refine ⟨H4, ?_, hf.1.trans l4⟩
  have e1 : R (n + 7) n_elderNew [] H = _ := e1
  have e2 : R (n + 7) n_elderDirCreate [pt d, .string ⟨#[98, 111, 98]⟩, .string ⟨#[49]⟩] H1 = _ := e2
  have e3 : R (n + 7) n_elderDirCreate [pt d, .string ⟨#[97, 110, 110]⟩, .string ⟨#[50]⟩] H2 = _ := e3
  have e4 : R (n + 7) n_elderDirList [pt d, .string ⟨#[]⟩] H3 = _ := e4
  have q1 : ∀ X : Heap, bop .ptr .eql (pt d) (.pointer none) X = some (.bool false, X) := fun X => by rw [eqp_r]
  have x1 : ixa 1 v (.int .i64 0) H4 = some (ixp v 0, H4) := x1
  have q2 : bop .str .eql (strv [97, 110, 110]) (.string ⟨#[97, 110, 110]⟩) H4 = some (.bool true, H4) := eqs_v (b := [97, 110, 110])
  have z0 : ∀ X : Heap, bop .int .eql (iv 0) (.int .i64 0) X = some (.bool true, X) := fun X => by rw [eql_r]; rfl
  have z2 : bop .int .eql (iv [[97, 110, 110], [98, 111, 98]].length) (.int .i64 2) H4 = some (.bool true, H4) := by rw [eql_r]; rfl
  rw [R, run_law07Lives rfl]
  unfold F_law07Lives
  rw [bind_eq e1, bind_eq (q1 _), cnd_b, if_neg (by simp), bind_eq e2, bind_eq e3, bind_eq e4, bind_eq extr_p0, bind_eq extr_p1, bind_eq (z0 _), b_g_in, b_assoc, bind_eq (z0 _), b_ret, c2_r, bind_eq pick_r]
  simp only [cond_true]
  rw [b_g_in, b_assoc, bind_eq (z0 _), b_ret, c2_r, bind_eq pick_r]
  simp only [cond_true]
  rw [b_g_in, b_assoc, bind_eq x3, b_assoc]
  refine (bind_eq z2).trans ?_
  rw [b_ret, c3_r, bind_eq pick_r]
  simp only [cond_true]
  rw [b_g_in, b_assoc, bind_eq x1, b_assoc, bind_eq x2, b_assoc, bind_eq q2, b_ret, c4_r, bind_eq pick_r]
  rfl

end

end Go.Proofs.Ytmacmlpiheimhaa.A
