/- The directory of the first schema. -/
import Derived.Test.YtmacmlpiheimhaaNam
namespace Go.Proofs.Ytmacmlpiheimhaa.A
set_option linter.unusedVariables false
set_option linter.unusedSimpArgs false
open Go.Proofs Go.Proofs.Ytmacmlpiheimhaa

abbrev SMap := List (List UInt8 × List UInt8)

/-- A directory, as it lies. -/
structure Dir (H : Heap) (d b : Nat) (m : SMap) : Prop where
  c : H[d]? = some (.cells [.map (some b)] 1 false false)
  g : MapG strv H b m
  len : ∀ p ∈ m, p.1.length ≤ 12
  few : m.length ≤ 12

section
variable {H H' : Heap} {n d b p q : Nat} {m : SMap} {k s : List UInt8}

theorem alc_s {v : Value} (h : oneCell v = true) (hc : v.cells = #[v]) (H : Heap) : alc 1 v H = some (pt H.length, H ++ [.cells [v] 1 false false]) := by
  rw [alc_r]
  simp [hc, h]

theorem ld_s {v : Value} {e : Nat} {g ro : Bool} (h : H[p]? = some (.cells [v] e g ro)) : ld1 (pt p) H = some (v, H) := ld1_at h rfl

theorem call_c {g : Nat} {bs args : List Value} (hy : Nat.blt g yoff = true := by rfl) : callv (R n) (.func (.func g) #[] bs.toArray) args = R n g (args ++ bs) := by
  have : callv (R n) (.func (.func g) #[] bs.toArray) args = R n g ([] ++ (args ++ bs.toArray.toList)) := by
    simp only [callv, hy, cond_true]
  rw [this]; simp

theorem Dir.lt (h : Dir H d b m) : d < H.length ∧ b < H.length := ⟨get_lt h.c, h.g.lt⟩
theorem Dir.keep (h : Dir H d b m) (h1 : H'[d]? = H[d]?) (h2 : H'[b]? = H[b]?) : Dir H' d b m := ⟨by rw [h1]; exact h.c, h.g.keep h2, h.len, h.few⟩
theorem Dir.hle (h : Dir H d b m) (hl : HLe H H') : Dir H' d b m := ⟨hl _ _ h.c, h.g.hle hl, h.len, h.few⟩
theorem Dir.step {o1 o2 : List Nat} (h : Dir H d b m) (hs : Step o1 H o2 H') (h1 : d ∉ o1) (h2 : b ∉ o1) : Dir H' d b m := h.keep (hs.keep d h.lt.1 h1) (hs.keep b h.lt.2 h2)
theorem Dir.ne (h : Dir H d b m) : d ≠ b := fun e => by
  subst e
  obtain ⟨es, _, h1⟩ := h.g.ex
  rw [h.c] at h1
  rcases h1 with ⟨_, h1, _⟩ | h1 <;> cases h1

theorem r_eldNew : ∃ H' d b, R (n + 1) n_elderNew [] H = some (pt d, H') ∧ Dir H' d b [] ∧ HLe H H' ∧ H.length ≤ d ∧ H.length ≤ b := by
  obtain ⟨H1, e1, g1, l1⟩ := mkm_g (α := List UInt8) (enc := strv) H
  have e2 : bld (.agg #[.map none]) [(0, 1, .map (some H.length))] H1 = some (.agg #[.map (some H.length)], H1) := by simp [↓bind_andk, andk_some, ↓jn_outk, outk_nrm, outk_ext, outk_ret, ↓cnd_b, ret_r, nilc_r, fa_r, ldOne_r, ldA_r, stOne_r, stA_r, rdk_r, rdkA_r, wrk_r, wrkA_r, alc_r, lenS_r, lenT_r, cvi_r, pick_r, not_r, mx_r, mn_r, ixa_r, ixaA_r, bld_r, add_r, sub_r, mul_r, quo_r, rem_r, eql_r, neq_r, lss_r, leq_r, gtr_r, geq_r, eqb_r, neb_r, eqp_r, nep_r, ↓gv_r, gvn_r, ↓g_r, gn_r, isTup, bldC, splice, Value.cells]
  have e3 : alc 1 (.agg #[.map (some H.length)]) H1 = some (pt H1.length, H1 ++ [.cells [.map (some H.length)] 1 false false]) := by
    rw [alc_r]; simp [Value.cells, oneCell]
  refine ⟨H1 ++ [.cells [.map (some H.length)] 1 false false], H1.length, H.length, ?_, ⟨app_new, g1.hle (.app _ _), by simp, by simp⟩, l1.trans (.app _ _), l1.len, Nat.le_refl _⟩
  rw [R, run_elderNew rfl]
  unfold F_elderNew
  rw [bind_eq e1, bind_eq e2, bind_eq e3]
  rfl

/-! questions -/

def errThere (k : List UInt8) (m : SMap) : Int := if (aget k m).isSome then 0 else 8
def errRoom (k : List UInt8) (m : SMap) : Int := if (aget k m).isSome then 9 else if 12 ≤ m.length then 7 else 0

theorem r_there : R (n + 1) n_elderDirThere [pt d, strv k] H = some (.func (.func n_elderDirThere1) #[] #[pt H.length, pt (H.length + 1)], H ++ [.cells [pt d] 1 false false] ++ [.cells [strv k] 1 false false]) := by
  rw [R, run_elderDirThere rfl]
  unfold F_elderDirThere
  rw [bind_eq (alc_s rfl rfl _), bind_eq (alc_s rfl rfl _)]
  simp [ret]

theorem r_there1 (h : Dir H d b m) (hp : H[p]? = some (.cells [pt d] 1 false false)) (hq : H[q]? = some (.cells [strv k] 1 false false)) : R (n + 1) n_elderDirThere1 [pt p, pt q] H = some (iv (errThere k m), H) := by
  have hl := h.g.lkp (k := k) (z := .string ⟨#[]⟩) (ok := true)
  rw [R, run_elderDirThere1 rfl]
  unfold F_elderDirThere1 errThere
  rw [bind_eq (ld_s hp), bind_eq nilc_r, bind_eq fa_z, bind_eq (ld_s h.c), bind_eq (ld_s hq), bind_eq hl]
  cases hg : aget k m
  · simp [↓bind_andk, andk_some, ↓jn_outk, outk_nrm, outk_ext, outk_ret, ↓cnd_b, ret_r, nilc_r, fa_r, ldOne_r, ldA_r, stOne_r, stA_r, rdk_r, rdkA_r, wrk_r, wrkA_r, alc_r, lenS_r, lenT_r, cvi_r, pick_r, not_r, mx_r, mn_r, ixa_r, ixaA_r, bld_r, add_r, sub_r, mul_r, quo_r, rem_r, eql_r, neq_r, lss_r, leq_r, gtr_r, geq_r, eqb_r, neb_r, eqp_r, nep_r, ↓gv_r, gvn_r, ↓g_r, gn_r, Bool.not_true, Bool.not_false, Bool.false_eq_true, Bool.true_eq_false, reduceIte, List.tail_cons, List.headD_cons, decide_true, decide_false, cond_true, cond_false, Nat.beq_refl, c0_r, c1_r, c2_r, c3_r, c4_r, c5_r, c6_r, c7_r, c8_r, c9_r, c10_r, c11_r, c12_r, xk_hit, List.replicate, extr_p0, extr_p1, extr_q0, extr_q1, extr_q2, fa_z, adds_v, lenT_v, retR, hg]
  · simp [↓bind_andk, andk_some, ↓jn_outk, outk_nrm, outk_ext, outk_ret, ↓cnd_b, ret_r, nilc_r, fa_r, ldOne_r, ldA_r, stOne_r, stA_r, rdk_r, rdkA_r, wrk_r, wrkA_r, alc_r, lenS_r, lenT_r, cvi_r, pick_r, not_r, mx_r, mn_r, ixa_r, ixaA_r, bld_r, add_r, sub_r, mul_r, quo_r, rem_r, eql_r, neq_r, lss_r, leq_r, gtr_r, geq_r, eqb_r, neb_r, eqp_r, nep_r, ↓gv_r, gvn_r, ↓g_r, gn_r, Bool.not_true, Bool.not_false, Bool.false_eq_true, Bool.true_eq_false, reduceIte, List.tail_cons, List.headD_cons, decide_true, decide_false, cond_true, cond_false, Nat.beq_refl, c0_r, c1_r, c2_r, c3_r, c4_r, c5_r, c6_r, c7_r, c8_r, c9_r, c10_r, c11_r, c12_r, xk_hit, List.replicate, extr_p0, extr_p1, extr_q0, extr_q1, extr_q2, fa_z, adds_v, lenT_v, retR, hg]

theorem r_room : R (n + 1) n_elderDirRoom [pt d, strv k] H = some (.func (.func n_elderDirRoom1) #[] #[pt H.length, pt (H.length + 1)], H ++ [.cells [pt d] 1 false false] ++ [.cells [strv k] 1 false false]) := by
  rw [R, run_elderDirRoom rfl]
  unfold F_elderDirRoom
  rw [bind_eq (alc_s rfl rfl _), bind_eq (alc_s rfl rfl _)]
  simp [ret]

theorem r_room1 (h : Dir H d b m) (hp : H[p]? = some (.cells [pt d] 1 false false)) (hq : H[q]? = some (.cells [strv k] 1 false false)) : ∃ H', R (n + 2) n_elderDirRoom1 [pt p, pt q] H = some (iv (errRoom k m), H') ∧ HLe H H' := by
  have e1 : run Try.prog np lvs (n + 1) n_elderDirThere [pt d, strv k] H = _ := r_there
  refine ⟨_, ?_, (HLe.app H [.cells [pt d] 1 false false]).trans (.app _ [.cells [strv k] 1 false false])⟩
  generalize hH : H ++ [.cells [pt d] 1 false false] ++ [.cells [strv k] 1 false false] = X at e1 ⊢
  have hx : HLe H X := by rw [← hH]; exact (HLe.app H _).trans (.app _ _)
  have x1 : X[H.length]? = some (.cells [pt d] 1 false false) := by rw [← hH]; simp [List.getElem?_append]
  have x2 : X[H.length + 1]? = some (.cells [strv k] 1 false false) := by rw [← hH]; simp [List.getElem?_append]
  have e2 : callv (run Try.prog np lvs (n + 1)) (.func (.func n_elderDirThere1) #[] #[pt H.length, pt (H.length + 1)]) [] X = some (iv (errThere k m), X) := by
    have := call_c (n := n + 1) (g := n_elderDirThere1) (bs := [pt H.length, pt (H.length + 1)]) (args := [])
    rw [show (#[pt H.length, pt (H.length + 1)] : Array Value) = [pt H.length, pt (H.length + 1)].toArray from rfl]
    rw [this]
    exact r_there1 (h.hle hx) x1 x2
  have hlen := (h.hle hx).g.len
  rw [R, run_elderDirRoom1 rfl]
  unfold F_elderDirRoom1 errRoom
  rw [bind_eq (ld_s hp), bind_eq (ld_s hq), bind_eq e1, bind_eq e2]
  unfold errThere
  cases hg : (aget k m).isSome
  · have c1 : ld1 (pt p) X = some (pt d, X) := ld_s (hx _ _ hp)
    have c2 : ld1 (pt d) X = some (.map (some b), X) := ld_s (hx _ _ h.c)
    simp only [Bool.false_eq_true, if_false]
    rw [bind_eq eql_r, cnd_b, if_neg (by decide), bind_eq c1, bind_eq nilc_r, bind_eq fa_z, bind_eq c2, bind_eq hlen, bind_eq geq_r, cnd_b]
    by_cases h12 : 12 ≤ m.length
    · have h12' : (12 : Int) ≤ m.length := by omega
      simp [h12, h12', ret]
    · have h12' : ¬ (12 : Int) ≤ m.length := by omega
      simp [h12, h12', ret]
  · simp [↓bind_andk, andk_some, ↓jn_outk, outk_nrm, outk_ext, outk_ret, ↓cnd_b, ret_r, nilc_r, fa_r, ldOne_r, ldA_r, stOne_r, stA_r, rdk_r, rdkA_r, wrk_r, wrkA_r, alc_r, lenS_r, lenT_r, cvi_r, pick_r, not_r, mx_r, mn_r, ixa_r, ixaA_r, bld_r, add_r, sub_r, mul_r, quo_r, rem_r, eql_r, neq_r, lss_r, leq_r, gtr_r, geq_r, eqb_r, neb_r, eqp_r, nep_r, ↓gv_r, gvn_r, ↓g_r, gn_r, Bool.not_true, Bool.not_false, Bool.false_eq_true, Bool.true_eq_false, reduceIte, List.tail_cons, List.headD_cons, decide_true, decide_false, cond_true, cond_false, Nat.beq_refl, c0_r, c1_r, c2_r, c3_r, c4_r, c5_r, c6_r, c7_r, c8_r, c9_r, c10_r, c11_r, c12_r, xk_hit, List.replicate, extr_p0, extr_p1, extr_q0, extr_q1, extr_q2, fa_z, adds_v, lenT_v, retR]

theorem r_sum : R (n + 1) n_elderSum [strv s] H = some (.func (.func n_elderSum1) #[] #[pt H.length], H ++ [.cells [strv s] 1 false false]) := by
  rw [R, run_elderSum rfl]
  unfold F_elderSum
  rw [bind_eq (alc_s rfl rfl _)]
  rfl

theorem r_sum1 (hs : s.length ≤ 1000000000) (hp : H[p]? = some (.cells [strv s] 1 false false)) : R (n + 5) n_elderSum1 [pt p] H = some (iv (errSum s), H) := by
  have e1 : run Try.prog np lvs (n + 4) n_nameHash [strv s] H = some (iv (errSum s), H) := r_hash hs
  rw [R, run_elderSum1 rfl]
  unfold F_elderSum1
  rw [bind_eq (ld_s hp), bind_eq e1]
  rfl

def firstE (e : Int) (es : List Int) : Int := es.foldl (fun e a => if e = 0 then a else e) e

theorem check_do {sl : Value} {fs : List Value} {es : List Int} (hl : fs.length = es.length) (hfl : fs.length ≤ 1000) (hs : Sl H sl fs)
    (hf : ∀ (k : Nat) (f : Value) (e : Int), fs[k]? = some f → es[k]? = some e → ∀ H1, HLe H H1 → ∃ H2, callv (R n) f [] H1 = some (iv e, H2) ∧ HLe H1 H2) : ∀ (t k : Nat) (e : Int) (H1 : Heap), fs.length - k = t → k ≤ fs.length → HLe H H1 →
    ∃ H2, loopM (c4 (F_elderCheck.l1 (R n))) [iv e, sl, iv fs.length, iv k] H1 = some (.ext 0 [iv (firstE e (es.drop k))], H2) ∧ HLe H1 H2
  | 0, k, e, H1, ht, hk, h1 => by
    have : k = fs.length := by omega
    subst this
    rw [List.drop_eq_nil_of_le (by omega)]
    refine ⟨H1, loop_ext ?_, .refl _⟩
    rw [c4_r]
    unfold F_elderCheck.l1
    rw [bind_eq lss_r, cnd_b, if_neg (by simp)]
    rfl
  | t + 1, k, e, H1, ht, hk, h1 => by
    have hkl : k < fs.length := by omega
    have hlt : (k : Int) < fs.length := by omega
    obtain ⟨f, hfk⟩ : ∃ f, fs[k]? = some f := ⟨_, List.getElem?_eq_getElem hkl⟩
    obtain ⟨a, hak⟩ : ∃ a, es[k]? = some a := ⟨_, List.getElem?_eq_getElem (by omega)⟩
    have hd : es.drop k = a :: es.drop (k + 1) := by
      rw [List.drop_eq_getElem_cons (by omega)]
      congr 1
      have := List.getElem?_eq_getElem (show k < es.length by omega)
      rw [hak] at this
      exact (Option.some.inj this).symm
    have x1 := (hs.mono h1).ix hkl .i64 H1
    have x2 := (hs.mono h1).ldx hfk
    by_cases he : e = 0
    · subst he
      obtain ⟨H2, e3, l3⟩ := hf k f a hfk hak H1 h1
      obtain ⟨H3, e4, l4⟩ := check_do hl hfl hs hf t (k + 1) a H2 (by omega) (by omega) (h1.trans l3)
      refine ⟨H3, (loop_next ?_).trans e4 |>.trans (by rw [hd]; rfl), l3.trans l4⟩
      rw [c4_r]
      unfold F_elderCheck.l1
      rw [bind_eq lss_r, cnd_b, if_pos (by simpa using hlt), bind_eq x1, bind_eq x2, bind_eq eql_r]
      refine (jn_nrm (vs := [iv a, sl, iv fs.length, iv k]) (H' := H2) ?_).trans ?_
      · rw [cnd_b, if_pos (by simp), bind_eq e3]; rfl
      · rw [c4_r, bind_eq add_r, wsuc (by omega)]; rfl
    · obtain ⟨H3, e4, l4⟩ := check_do hl hfl hs hf t (k + 1) e H1 (by omega) (by omega) h1
      refine ⟨H3, (loop_next ?_).trans e4 |>.trans (by rw [hd]; show _ = some (Out.ext 0 [iv (firstE (if e = 0 then a else e) _)], H3); rw [if_neg he]), l4⟩
      rw [c4_r]
      unfold F_elderCheck.l1
      rw [bind_eq lss_r, cnd_b, if_pos (by simpa using hlt), bind_eq x1, bind_eq x2, bind_eq eql_r]
      refine (jn_nrm (vs := [iv e, sl, iv fs.length, iv k]) (H' := H1) ?_).trans ?_
      · rw [cnd_b, if_neg (by simpa using he)]; rfl
      · rw [c4_r, bind_eq add_r, wsuc (by omega)]; rfl

theorem r_check {sl : Value} {fs : List Value} {es : List Int} (hk : k.length ≤ 1000000000) (hl : fs.length = es.length) (hfl : fs.length ≤ 1000) (hs : Sl H sl fs)
    (hf : ∀ (k : Nat) (f : Value) (e : Int), fs[k]? = some f → es[k]? = some e → ∀ H1, HLe H H1 → ∃ H2, callv (R (n + 5)) f [] H1 = some (iv e, H2) ∧ HLe H1 H2) :
    ∃ H2, R (n + 6) n_elderCheck [strv k, sl] H = some (iv (firstE (errName k) es), H2) ∧ HLe H H2 := by
  have e1 : run Try.prog np lvs (n + 5) n_nameName [strv k] H = some (iv (errName k), H) := r_name hk
  obtain ⟨H2, e2, l2⟩ := check_do hl hfl hs hf fs.length 0 (errName k) H (by omega) (by omega) (.refl _)
  refine ⟨H2, ?_, l2⟩
  have e2 : loopM (c4 (F_elderCheck.l1 (R (n + 5)))) [iv (errName k), sl, iv fs.length, .int .i64 0] H = _ := e2
  rw [R, run_elderCheck rfl]
  unfold F_elderCheck
  rw [bind_eq e1, bind_eq hs.len, jn_ext e2, xk_hit, List.drop_zero]
  rfl

end

end Go.Proofs.Ytmacmlpiheimhaa.A
