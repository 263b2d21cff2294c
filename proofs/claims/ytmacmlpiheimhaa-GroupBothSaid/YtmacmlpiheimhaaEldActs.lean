/- The acts that the laws of directories are given, and the chapter's example. -/
import Derived.Test.YtmacmlpiheimhaaEldLives
import Derived.Test.YtmacmlpiheimhaaEld3
namespace Go.Proofs.Ytmacmlpiheimhaa.A
set_option linter.unusedVariables false
set_option linter.unusedSimpArgs false
open Go.Proofs Go.Proofs.Ytmacmlpiheimhaa

abbrev eldActT : Ty := .struct (.pair (.int .u8) (.pair .str (.pair .str .unit)))

structure EAct where
  kd : Nat
  nm : List UInt8
  hs : List UInt8

abbrev EAct.cells (a : EAct) : List Value := [.int .u8 a.kd, strv a.nm, strv a.hs]

theorem rd_eldAct {x : eldActT.den} {H : Heap} {cs : List Value} (hw : eldActT.wf x) (h : Rd eldActT x H cs) : ∃ a : EAct, cs = a.cells ∧ a.kd ≤ 255 := by
  obtain ⟨k, s, t, u⟩ := x
  obtain ⟨h1, h2, h3, h4⟩ := h
  obtain ⟨w1, _⟩ := hw
  have h1 : cs.take 1 = [.int .u8 k] := h1
  have h2 : (cs.drop 1).take 1 = [.string s] := h2
  have h3 : ((cs.drop 1).drop 1).take 1 = [.string t] := h3
  have h4 : ((cs.drop 1).drop 1).drop 1 = [] := h4
  match cs, h1, h2, h3, h4 with
  | [c1, c2, c3], h1, h2, h3, _ =>
    have w1 := wf_u8 w1
    have key : ∀ (q : IntKind) (z : Int), 0 ≤ z → [Value.int q z] = [Value.int q (z.toNat : Nat)] := fun q z hz => by rw [Int.toNat_of_nonneg hz]
    refine ⟨⟨Int.toNat k, ByteArray.data s |>.toList, ByteArray.data t |>.toList⟩, ?_, ?_⟩
    · have e20 : c2 = .string s := by simpa using h2
      have e30 : c3 = .string t := by simpa using h3
      have e1 : [c1] = [Value.int .u8 (Int.toNat k : Nat)] := Eq.trans (by simpa using h1) (key .u8 k w1.1)
      have e1 : c1 = Value.int .u8 (Int.toNat k : Nat) := by simpa using e1
      have e2 : c2 = strv (ByteArray.data s).toList := e20.trans (strv_of s)
      have e3 : c3 = strv (ByteArray.data t).toList := e30.trans (strv_of t)
      rw [e1, e2, e3]
    · have : ∀ z : Int, 0 ≤ z ∧ z ≤ 255 → z.toNat ≤ 255 := fun z hz => by omega
      exact this k w1

/-- A slice of acts. -/
def EActs (H : Heap) (sl : Value) (ac : List EAct) : Prop := SlN 3 H sl (ac.map EAct.cells) ∧ ∀ a ∈ ac, a.kd ≤ 255

theorem rd_eldActs {x : (Ty.slc eldActT).den} {H : Heap} {v : Value} (hwf : (Ty.slc eldActT).wf x) (h : Rd (.slc eldActT) x H [v]) : ∃ ac, EActs H v ac ∧ ac.length ≤ 9223372036854775807 := by
  obtain ⟨rows, h1, h2, h3, h4⟩ := rd_rows hwf h
  obtain ⟨ac, h5, h6⟩ := choose_map (f := EAct.cells) (Q := fun _ a => a.kd ≤ 255) (rows := rows) fun r hr => by
    obtain ⟨y, hy, hr⟩ := h2 r hr
    exact rd_eldAct hy hr
  subst h5
  exact ⟨ac, ⟨h1, h6⟩, by simpa using h3⟩

section
variable {H H' : Heap} {sl : Value} {ac : List EAct} {n : Nat}

theorem EActs.len (h : EActs H sl ac) : lenS sl H' = some (iv ac.length, H') := by
  have := h.1.len (H' := H')
  rwa [List.length_map] at this

theorem EActs.mono (h : EActs H sl ac) (hl : HLe H H') : EActs H' sl ac := ⟨h.1.mono hl, h.2⟩

/-- An act is fetched into a variable of its own. -/
theorem EActs.fetch {β : Type} {k : Value → M β} (h : EActs H sl ac) {j : Nat} {a : EAct} (hj : ac[j]? = some a) :
    bind (ixa 3 sl (iv j)) (fun p => bind (ldA 3 p) fun v => bind (alc 1 (.agg #[.int .u8 0, .string ⟨#[]⟩, .string ⟨#[]⟩])) fun q => bind (stA 3 q v) fun _ => k q) H = k (pt H.length) (H ++ [.cells a.cells 1 false false]) := by
  have hr : (ac.map EAct.cells)[j]? = some a.cells := by rw [List.getElem?_map, hj]; rfl
  rw [h.1.fetch hr (by omega) .i64]
  exact box_a (n := 3) (zs := [.int .u8 0, .string ⟨#[]⟩, .string ⟨#[]⟩]) (r := a.cells) rfl rfl rfl rfl

def fewA (a : EAct) : Bool := decide (a.nm.length ≤ 50) && decide (a.hs.length ≤ 50)

theorem efew_do {H0 : Heap} (h : EActs H0 sl ac) (hn : ac.length ≤ 9223372036854775807) : ∀ (t j : Nat) {X : Heap}, ac.length - j = t → j ≤ ac.length → HLe H0 X →
    ∃ X', loopM (c4 (F_law07Few.l1 (R n))) [sl, sl, iv ac.length, iv j] X = some (if (ac.drop j).all fewA then .ext 0 [sl] else .ret (.bool false), X') ∧ HLe H0 X'
  | 0, j, X, ht, hj, hle => by
    have : j = ac.length := by omega
    subst this
    rw [List.drop_length]
    refine ⟨X, loop_ext ?_, hle⟩
    rw [c4_r]
    unfold F_law07Few.l1
    rw [bind_eq lss_r, cnd_b, if_neg (by simp)]
    rfl
  | t + 1, j, X, ht, hj, hle => by
    have hjn : j < ac.length := by omega
    have hlt : (j : Int) < ac.length := by omega
    have hja := List.getElem?_eq_getElem hjn
    have hd := List.drop_eq_getElem_cons hjn
    generalize ac[j] = a at hja hd
    have g1 : (X ++ [AObj.cells a.cells 1 false false])[X.length]? = some (.cells a.cells 1 false false) := app_new
    have l1 : ld1 (pa X.length 1) (X ++ [.cells a.cells 1 false false]) = some (strv a.nm, X ++ [.cells a.cells 1 false false]) := ld1_at g1 rfl
    have l2 : ld1 (pa X.length 2) (X ++ [.cells a.cells 1 false false]) = some (strv a.hs, X ++ [.cells a.cells 1 false false]) := ld1_at g1 rfl
    have hf := fun {K : Value → M Out} => (h.mono hle).fetch (k := K) hja
    have k1 := hle.trans (HLe.app X [.cells a.cells 1 false false])
    generalize X ++ [AObj.cells a.cells 1 false false] = X1 at g1 l1 l2 k1 hf
    obtain ⟨X2, e2, k2⟩ := efew_do h hn t (j + 1) (by omega) (by omega) k1
    rw [hd, List.all_cons]
    have hb : F_law07Few.l1 (R n) sl sl (iv ac.length) (iv j) X = some (if fewA a then .nrm [sl, sl, iv ac.length, iv ((j + 1 : Nat) : Int)] else .ret (.bool false), X1) := by
      unfold F_law07Few.l1
      rw [bind_eq lss_r, cnd_b, if_pos (by simpa using hlt), hf, bind_eq fa_r, bind_eq l1, bind_eq lenT_v, bind_eq gtr_r]
      unfold fewA
      by_cases h1 : a.nm.length ≤ 50
      · have h1' : ¬ ((a.nm.length : Int) > 50) := by omega
        rw [decide_eq_false h1', b_g_in, b_assoc, bind_eq fa_r, b_assoc, bind_eq l2, b_assoc, bind_eq lenT_v, b_assoc, bind_eq gtr_r, b_ret, c4_r, bind_eq pick_r, decide_eq_true h1]
        simp only [cond_false]
        by_cases h2 : a.hs.length ≤ 50
        · have h2' : ¬ ((a.hs.length : Int) > 50) := by omega
          rw [decide_eq_false h2', cnd_b, if_neg (by simp), bind_eq add_r, wsuc (by omega), decide_eq_true h2]
          rfl
        · have h2' : ((a.hs.length : Int) > 50) := by omega
          rw [decide_eq_true h2', cnd_b, if_pos rfl, decide_eq_false h2]
          rfl
      · have h1' : ((a.nm.length : Int) > 50) := by omega
        rw [decide_eq_true h1', bind_eq (g_r.trans (if_neg (by simp)))]
        simp only [List.replicate]
        rw [c4_r, bind_eq pick_r]
        simp only [cond_true]
        rw [cnd_b, if_pos rfl, decide_eq_false h1]
        rfl
    cases hfa : fewA a
    · rw [hfa] at hb
      exact ⟨X1, loop_ret hb, k1⟩
    · rw [hfa] at hb
      exact ⟨X2, (loop_next hb).trans e2, k2⟩

theorem r_few (h : EActs H sl ac) (hn : ac.length ≤ 9223372036854775807) : ∃ H', R (n + 1) n_law07Few [sl] H = some (.bool (ac.all fewA && decide (ac.length ≤ 60)), H') ∧ HLe H H' := by
  obtain ⟨H', e, k⟩ := efew_do (n := n) h hn ac.length 0 (by omega) (by omega) (.refl _)
  rw [List.drop_zero] at e
  have e : loopM (c4 (F_law07Few.l1 (R n))) [sl, sl, iv ac.length, .int .i64 0] H = _ := e
  refine ⟨H', ?_, k⟩
  rw [R, run_law07Few rfl]
  unfold F_law07Few
  rw [bind_eq h.len]
  cases hf : ac.all fewA
  · rw [hf] at e
    rw [jn_ret e]; rfl
  · rw [hf] at e
    rw [jn_ext e, xk_hit, c1_r, bind_eq h.len, bind_eq leq_r]
    simp [ret, decide_eq_decide]
    omega

end

end Go.Proofs.Ytmacmlpiheimhaa.A
