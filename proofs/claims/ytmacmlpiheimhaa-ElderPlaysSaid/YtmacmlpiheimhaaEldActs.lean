/- The acts that the laws of directories are given, and the chapter's example. -/
import Derived.Test.YtmacmlpiheimhaaEldAll
namespace Go.Proofs.Ytmacmlpiheimhaa.A
set_option linter.unusedVariables false
set_option linter.unusedSimpArgs false
open Go.Proofs Go.Proofs.Ytmacmlpiheimhaa

abbrev eldActT : Ty := .struct (.pair (.int .u8) (.pair .str (.pair .str .unit)))

structure EAct where
  kd : Nat
  nm : List UInt8
  hs : List UInt8

abbrev EAct.cells (a : EAct) : List Value := [.int .u8 a.kd, strv a.nm, strv a.hs]

theorem strv_of (s : ByteArray) : Value.string s = strv s.data.toList := by simp [strv]

theorem rd_eldAct {x : eldActT.den} {H : Heap} {cs : List Value} (hw : eldActT.wf x) (h : Rd eldActT x H cs) : ∃ a : EAct, cs = a.cells ∧ a.kd ≤ 255 := by
  obtain ⟨k, s, t, u⟩ := x
  obtain ⟨h1, h2, h3, h4⟩ := h
  obtain ⟨w1, _⟩ := hw
  have h1 : cs.take 1 = [.int .u8 k] := h1
  have h2 : (cs.drop 1).take 1 = [.string s] := h2
  have h3 : ((cs.drop 1).drop 1).take 1 = [.string t] := h3
  have h4 : ((cs.drop 1).drop 1).drop 1 = [] := h4
  match cs, h1, h2, h3, h4 with
  | [c1, c2, c3], h1, h2, h3, _ =>
    have w1 := wf_u8 w1
    have key : ∀ (q : IntKind) (z : Int), 0 ≤ z → [Value.int q z] = [Value.int q (z.toNat : Nat)] := fun q z hz => by rw [Int.toNat_of_nonneg hz]
    refine ⟨⟨Int.toNat k, ByteArray.data s |>.toList, ByteArray.data t |>.toList⟩, ?_, ?_⟩
    · have e20 : c2 = .string s := by simpa using h2
      have e30 : c3 = .string t := by simpa using h3
      have e1 : [c1] = [Value.int .u8 (Int.toNat k : Nat)] := Eq.trans (by simpa using h1) (key .u8 k w1.1)
      have e1 : c1 = Value.int .u8 (Int.toNat k : Nat) := by simpa using e1
      have e2 : c2 = strv (ByteArray.data s).toList := e20.trans (strv_of s)
      have e3 : c3 = strv (ByteArray.data t).toList := e30.trans (strv_of t)
      rw [e1, e2, e3]
    · have : ∀ z : Int, 0 ≤ z ∧ z ≤ 255 → z.toNat ≤ 255 := fun z hz => by omega
      exact this k w1

/-- A slice of acts. -/
def EActs (H : Heap) (sl : Value) (ac : List EAct) : Prop := SlN 3 H sl (ac.map EAct.cells) ∧ ∀ a ∈ ac, a.kd ≤ 255

theorem rd_eldActs {x : (Ty.slc eldActT).den} {H : Heap} {v : Value} (hwf : (Ty.slc eldActT).wf x) (h : Rd (.slc eldActT) x H [v]) : ∃ ac, EActs H v ac ∧ ac.length ≤ 9223372036854775807 := by
  obtain ⟨rows, h1, h2, h3, h4⟩ := rd_rows hwf h
  obtain ⟨ac, h5, h6⟩ := choose_map (f := EAct.cells) (Q := fun _ a => a.kd ≤ 255) (rows := rows) fun r hr => by
    obtain ⟨y, hy, hr⟩ := h2 r hr
    exact rd_eldAct hy hr
  subst h5
  exact ⟨ac, ⟨h1, h6⟩, by simpa using h3⟩

section
variable {H H' : Heap} {sl : Value} {ac : List EAct} {n : Nat}

theorem EActs.len (h : EActs H sl ac) : lenS sl H' = some (iv ac.length, H') := by
  have := h.1.len (H' := H')
  rwa [List.length_map] at this

theorem EActs.mono (h : EActs H sl ac) (hl : HLe H H') : EActs H' sl ac := ⟨h.1.mono hl, h.2⟩

/-- An act is fetched into a variable of its own. -/
theorem EActs.fetch {β : Type} {k : Value → M β} (h : EActs H sl ac) {j : Nat} {a : EAct} (hj : ac[j]? = some a) :
    bind (ixa 3 sl (iv j)) (fun p => bind (ldA 3 p) fun v => bind (alc 1 (.agg #[.int .u8 0, .string ⟨#[]⟩, .string ⟨#[]⟩])) fun q => bind (stA 3 q v) fun _ => k q) H = k (pt H.length) (H ++ [.cells a.cells 1 false false]) := by
  have hr : (ac.map EAct.cells)[j]? = some a.cells := by rw [List.getElem?_map, hj]; rfl
  rw [h.1.fetch hr (by omega) .i64]
  exact box_a (n := 3) (zs := [.int .u8 0, .string ⟨#[]⟩, .string ⟨#[]⟩]) (r := a.cells) rfl rfl rfl rfl

def fewA (a : EAct) : Bool := decide (a.nm.length ≤ 50) && decide (a.hs.length ≤ 50)

theorem efew_do {H0 : Heap} (h : EActs H0 sl ac) (hn : ac.length ≤ 9223372036854775807) : ∀ (t j : Nat) {X : Heap}, ac.length - j = t → j ≤ ac.length → HLe H0 X →
    ∃ X', loopM (c4 (F_law07Few.l1 (R n))) [sl, sl, iv ac.length, iv j] X = some (if (ac.drop j).all fewA then .ext 0 [sl] else .ret (.bool false), X') ∧ HLe H0 X'
  | 0, j, X, ht, hj, hle => by
    have : j = ac.length := by omega
    subst this
    rw [List.drop_length]
    refine ⟨X, loop_ext ?_, hle⟩
    rw [c4_r]
    unfold F_law07Few.l1
    rw [bind_eq lss_r, cnd_b, if_neg (by simp)]
    rfl
  | t + 1, j, X, ht, hj, hle => by
    have hjn : j < ac.length := by omega
    have hlt : (j : Int) < ac.length := by omega
    have hja := List.getElem?_eq_getElem hjn
    have hd := List.drop_eq_getElem_cons hjn
    generalize ac[j] = a at hja hd
    have g1 : (X ++ [AObj.cells a.cells 1 false false])[X.length]? = some (.cells a.cells 1 false false) := app_new
    have l1 : ld1 (pa X.length 1) (X ++ [.cells a.cells 1 false false]) = some (strv a.nm, X ++ [.cells a.cells 1 false false]) := ld1_at g1 rfl
    have l2 : ld1 (pa X.length 2) (X ++ [.cells a.cells 1 false false]) = some (strv a.hs, X ++ [.cells a.cells 1 false false]) := ld1_at g1 rfl
    have hf := fun {K : Value → M Out} => (h.mono hle).fetch (k := K) hja
    have k1 := hle.trans (HLe.app X [.cells a.cells 1 false false])
    generalize X ++ [AObj.cells a.cells 1 false false] = X1 at g1 l1 l2 k1 hf
    obtain ⟨X2, e2, k2⟩ := efew_do h hn t (j + 1) (by omega) (by omega) k1
    rw [hd, List.all_cons]
    have hb : F_law07Few.l1 (R n) sl sl (iv ac.length) (iv j) X = some (if fewA a then .nrm [sl, sl, iv ac.length, iv ((j + 1 : Nat) : Int)] else .ret (.bool false), X1) := by
      unfold F_law07Few.l1
      rw [bind_eq lss_r, cnd_b, if_pos (by simpa using hlt), hf, bind_eq fa_r, bind_eq l1, bind_eq lenT_v, bind_eq gtr_r]
      unfold fewA
      by_cases h1 : a.nm.length ≤ 50
      · have h1' : ¬ ((a.nm.length : Int) > 50) := by omega
        rw [decide_eq_false h1', b_g_in, b_assoc, bind_eq fa_r, b_assoc, bind_eq l2, b_assoc, bind_eq lenT_v, b_assoc, bind_eq gtr_r, b_ret, c4_r, bind_eq pick_r, decide_eq_true h1]
        simp only [cond_false]
        by_cases h2 : a.hs.length ≤ 50
        · have h2' : ¬ ((a.hs.length : Int) > 50) := by omega
          rw [decide_eq_false h2', cnd_b, if_neg (by simp), bind_eq add_r, wsuc (by omega), decide_eq_true h2]
          rfl
        · have h2' : ((a.hs.length : Int) > 50) := by omega
          rw [decide_eq_true h2', cnd_b, if_pos rfl, decide_eq_false h2]
          rfl
      · have h1' : ((a.nm.length : Int) > 50) := by omega
        rw [decide_eq_true h1', bind_eq (g_r.trans (if_neg (by simp)))]
        simp only [List.replicate]
        rw [c4_r, bind_eq pick_r]
        simp only [cond_true]
        rw [cnd_b, if_pos rfl, decide_eq_false h1]
        rfl
    cases hfa : fewA a
    · rw [hfa] at hb
      exact ⟨X1, loop_ret hb, k1⟩
    · rw [hfa] at hb
      exact ⟨X2, (loop_next hb).trans e2, k2⟩

theorem r_few (h : EActs H sl ac) (hn : ac.length ≤ 9223372036854775807) : ∃ H', R (n + 1) n_law07Few [sl] H = some (.bool (ac.all fewA && decide (ac.length ≤ 60)), H') ∧ HLe H H' := by
  obtain ⟨H', e, k⟩ := efew_do (n := n) h hn ac.length 0 (by omega) (by omega) (.refl _)
  rw [List.drop_zero] at e
  have e : loopM (c4 (F_law07Few.l1 (R n))) [sl, sl, iv ac.length, .int .i64 0] H = _ := e
  refine ⟨H', ?_, k⟩
  rw [R, run_law07Few rfl]
  unfold F_law07Few
  rw [bind_eq h.len]
  cases hf : ac.all fewA
  · rw [hf] at e
    rw [jn_ret e]; rfl
  · rw [hf] at e
    rw [jn_ext e, xk_hit, c1_r, bind_eq h.len, bind_eq leq_r]
    simp [ret, decide_eq_decide]
    omega

/-! the example -/

theorem ksort_ab : ksort [[98, 111, 98], [97, 110, 110]] = [[97, 110, 110], [98, 111, 98]] := by
  have h : ksort [[98, 111, 98], [97, 110, 110]] = ksort [[97, 110, 110], [98, 111, 98]] := ksort_perm (List.Perm.swap _ _ _)
  rw [h]
  exact List.mergeSort_of_pairwise (by decide)

theorem r_lives : ∃ H', R (n + 8) n_law07Lives [] H = some (.bool true, H') ∧ HLe H H' := by
  obtain ⟨H1, d, b, e1, D1, l1, o1, o2⟩ := r_eldNew (n := n + 6) (H := H)
  obtain ⟨H2, e2, D2, s2⟩ := r_create (n := n) (k := [98, 111, 98]) (s := [49]) D1 (by decide) (by decide)
  obtain ⟨H3, e3, D3, s3⟩ := r_create (n := n) (k := [97, 110, 110]) (s := [50]) D2 (by decide) (by decide)
  have m1 : createM [98, 111, 98] [49] [] = [([98, 111, 98], [49])] := by decide
  have m2 : createM [97, 110, 110] [50] [([98, 111, 98], [49])] = [([98, 111, 98], [49]), ([97, 110, 110], [50])] := by decide
  have c1 : errCreate [98, 111, 98] [49] [] = 0 := by decide
  have c2 : errCreate [97, 110, 110] [50] [([98, 111, 98], [49])] = 0 := by decide
  rw [m1] at D2 D3 e3
  rw [m2] at D3
  rw [c1] at e2
  rw [c2] at e3
  obtain ⟨v, q, H4, e4, r4, l4, o4⟩ := r_eldList (n := n + 1) (pre := []) D3 (by decide)
  have hp : prefB [] = true := by decide
  have hk : (if prefB [] then (ksort (([([98, 111, 98], [49]), ([97, 110, 110], [50])] : SMap).map (·.1))).filter (preB []) else []) = [[97, 110, 110], [98, 111, 98]] := by
    rw [if_pos hp]
    show (ksort [[98, 111, 98], [97, 110, 110]]).filter (preB []) = _
    rw [ksort_ab]; decide
  rw [hk] at r4
  have hep : errPref [] = 0 := by decide
  rw [hep] at e4
  have x1 := r4.ix (i := 0) (by simp) .i64 H4
  have x2 := r4.ldx (i := 0) (v := strv [97, 110, 110]) rfl
  have x3 := r4.rd.len (H' := H4)
  have hf := l1.more (s2.trans s3) (by simpa using o2)
  refine ⟨H4, ?_, hf.1.trans l4⟩
  have e1 : R (n + 7) n_elderNew [] H = _ := e1
  have e2 : R (n + 7) n_elderDirCreate [pt d, .string ⟨#[98, 111, 98]⟩, .string ⟨#[49]⟩] H1 = _ := e2
  have e3 : R (n + 7) n_elderDirCreate [pt d, .string ⟨#[97, 110, 110]⟩, .string ⟨#[50]⟩] H2 = _ := e3
  have e4 : R (n + 7) n_elderDirList [pt d, .string ⟨#[]⟩] H3 = _ := e4
  have q1 : ∀ X : Heap, bop .ptr .eql (pt d) (.pointer none) X = some (.bool false, X) := fun X => by rw [eqp_r]
  have x1 : ixa 1 v (.int .i64 0) H4 = some (ixp v 0, H4) := x1
  have q2 : bop .str .eql (strv [97, 110, 110]) (.string ⟨#[97, 110, 110]⟩) H4 = some (.bool true, H4) := eqs_v (b := [97, 110, 110])
  have z0 : ∀ X : Heap, bop .int .eql (iv 0) (.int .i64 0) X = some (.bool true, X) := fun X => by rw [eql_r]; rfl
  have z2 : bop .int .eql (iv [[97, 110, 110], [98, 111, 98]].length) (.int .i64 2) H4 = some (.bool true, H4) := by rw [eql_r]; rfl
  rw [R, run_law07Lives rfl]
  unfold F_law07Lives
  rw [bind_eq e1, bind_eq (q1 _), cnd_b, if_neg (by simp), bind_eq e2, bind_eq e3, bind_eq e4, bind_eq extr_p0, bind_eq extr_p1, bind_eq (z0 _), b_g_in, b_assoc, bind_eq (z0 _), b_ret, c2_r, bind_eq pick_r]
  simp only [cond_true]
  rw [b_g_in, b_assoc, bind_eq (z0 _), b_ret, c2_r, bind_eq pick_r]
  simp only [cond_true]
  rw [b_g_in, b_assoc, bind_eq x3, b_assoc]
  refine (bind_eq z2).trans ?_
  rw [b_ret, c3_r, bind_eq pick_r]
  simp only [cond_true]
  rw [b_g_in, b_assoc, bind_eq x1, b_assoc, bind_eq x2, b_assoc, bind_eq q2, b_ret, c4_r, bind_eq pick_r]
  rfl

end

end Go.Proofs.Ytmacmlpiheimhaa.A
