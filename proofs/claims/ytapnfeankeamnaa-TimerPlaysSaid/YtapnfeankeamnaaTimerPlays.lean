/- TimerPlays, on the abstract machine. -/
import Derived.Test.YtapnfeankeamnaaTimerLeft
namespace Go.Proofs.Ytapnfeankeamnaa.A
set_option linter.unusedVariables false
set_option linter.unusedSimpArgs false
open Go.Proofs Go.Proofs.Ytapnfeankeamnaa

theorem set_new {H : Heap} {a b : AObj} : (H ++ [a]).set H.length b = H ++ [b] := by simp
theorem fr_get {H l : Heap} {n : Nat} : (H ++ l)[H.length + n]? = l[n]? := by
  rw [List.getElem?_append_right (by omega)]; congr 1; omega
theorem fr_get0 {H l : Heap} : (H ++ l)[H.length]? = l[0]? := by
  rw [List.getElem?_append_right (by omega)]; congr 1; omega
theorem fr_set {H l : Heap} {n : Nat} {b : AObj} : (H ++ l).set (H.length + n) b = H ++ l.set n b := by
  rw [List.set_append_right _ _ (by omega)]; congr 2; omega
theorem fr_set0 {H l : Heap} {b : AObj} : (H ++ l).set H.length b = H ++ l.set 0 b := by
  rw [List.set_append_right _ _ (by omega)]; congr 2; omega

theorem extr_p0 {a b : Value} {H : Heap} : extr (.tuple #[a, b]) 0 H = some (a, H) := rfl
theorem extr_p1 {a b : Value} {H : Heap} : extr (.tuple #[a, b]) 1 H = some (b, H) := rfl

/-- The document's timer. -/
abbrev rt (q l f : Int) : Value := .agg #[iv q, iv l, iv f]
def rtm (q l f : Int) : AObj := .cells [iv q, iv l, iv f] 1 false false

theorem r_refNew (n : Nat) (x : Int) (H : Heap) : ∃ H', R (n + 1) n_ref28New [iv x] H = some (rt (max 1 x) (max 1 x) 0, H') ∧ HLe H H' := by
  by_cases h : x < 1
  · have e : max 1 x = 1 := by omega
    refine ⟨H ++ [rtm (max 1 x) (max 1 x) 0], ?_, .app H _⟩
    rw [R, run_ref28New rfl]
    simp only [e]
    simp [F_ref28New, ↓bind_andk, andk_some, ↓jn_outk, outk_nrm, outk_ext, outk_ret, ↓cnd_b, ret_r, nilc_r, fa_r, ldOne_r, ldA_r, stOne_r, stA_r, rdk_r, rdkA_r, wrk_r, wrkA_r, alc_r, lenS_r, cvi_r, pick_r, not_r, mx_r, mn_r, ixa_r, bld_r, add_r, sub_r, quo_r, rem_r, eql_r, neq_r, lss_r, leq_r, gtr_r, geq_r, eqb_r, neb_r, nep_r, ↓gv_r, gvn_r, ↓g_r, gn_r, h, Value.cells, oneCell, fr_get0, fr_set0, splice, bldC, isTup, rtm]
  · have e : max 1 x = x := by omega
    refine ⟨H ++ [rtm (max 1 x) (max 1 x) 0], ?_, .app H _⟩
    rw [R, run_ref28New rfl]
    simp only [e]
    simp [F_ref28New, ↓bind_andk, andk_some, ↓jn_outk, outk_nrm, outk_ext, outk_ret, ↓cnd_b, ret_r, nilc_r, fa_r, ldOne_r, ldA_r, stOne_r, stA_r, rdk_r, rdkA_r, wrk_r, wrkA_r, alc_r, lenS_r, cvi_r, pick_r, not_r, mx_r, mn_r, ixa_r, bld_r, add_r, sub_r, quo_r, rem_r, eql_r, neq_r, lss_r, leq_r, gtr_r, geq_r, eqb_r, neb_r, nep_r, ↓gv_r, gvn_r, ↓g_r, gn_r, h, Value.cells, oneCell, fr_get0, fr_set0, splice, bldC, isTup, rtm]

theorem r_refTick {n : Nat} {q l f : Int} {H : Heap} (hq : 1 ≤ q ∧ q ≤ 9223372036854775807) (hf : 0 ≤ f ∧ f ≤ 1000) :
    ∃ H', R (n + 1) n_ref28Tick [rt q l f] H = some (.tuple #[if q - 1 > 0 then rt (q - 1) l f else rt l l (f + 1), .bool (!decide (q - 1 > 0))], H') ∧ HLe H H' := by
  have w1 : IntKind.i64.wrap (q - 1) = q - 1 := w64 (by omega) (by omega)
  have w2 : IntKind.i64.wrap (f + 1) = f + 1 := w64 (by omega) (by omega)
  by_cases h : q - 1 > 0
  · refine ⟨H ++ [rtm (q - 1) l f, rtm (q - 1) l f], ?_, .app H _⟩
    have h2 : 1 < q := by omega
    rw [R, run_ref28Tick rfl, if_pos h]
    simp [F_ref28Tick, ↓bind_andk, andk_some, ↓jn_outk, outk_nrm, outk_ext, outk_ret, ↓cnd_b, ret_r, nilc_r, fa_r, ldOne_r, ldA_r, stOne_r, stA_r, rdk_r, rdkA_r, wrk_r, wrkA_r, alc_r, lenS_r, cvi_r, pick_r, not_r, mx_r, mn_r, ixa_r, bld_r, add_r, sub_r, quo_r, rem_r, eql_r, neq_r, lss_r, leq_r, gtr_r, geq_r, eqb_r, neb_r, nep_r, ↓gv_r, gvn_r, ↓g_r, gn_r, h2, w1, w2, Value.cells, oneCell, fr_get0, fr_set0, fr_get, fr_set, splice, rtm]
  · refine ⟨H ++ [rtm l l (f + 1), rtm l l (f + 1)], ?_, .app H _⟩
    have h2 : ¬ 1 < q := by omega
    rw [R, run_ref28Tick rfl, if_neg h]
    simp [F_ref28Tick, ↓bind_andk, andk_some, ↓jn_outk, outk_nrm, outk_ext, outk_ret, ↓cnd_b, ret_r, nilc_r, fa_r, ldOne_r, ldA_r, stOne_r, stA_r, rdk_r, rdkA_r, wrk_r, wrkA_r, alc_r, lenS_r, cvi_r, pick_r, not_r, mx_r, mn_r, ixa_r, bld_r, add_r, sub_r, quo_r, rem_r, eql_r, neq_r, lss_r, leq_r, gtr_r, geq_r, eqb_r, neb_r, nep_r, ↓gv_r, gvn_r, ↓g_r, gn_r, h2, w1, w2, Value.cells, oneCell, fr_get0, fr_set0, fr_get, fr_set, splice, rtm]

/-- Both timers, alike. -/
def Both (a b : Nat) (l c f : Int) (H : Heap) : Prop := H[a]? = some (tmr l c f) ∧ H[b]? = some (rtm (l - c) l f)

theorem plays_round {m a b lid n c i es : Nat} {g ro : Bool} {cells : List Value} {kd x l ct f : Int} {H : Heap} (hl : H[lid]? = some (.cells cells es g ro)) (hi : i < n) (hx : (cells.drop (i * 2)).take 2 = [.int .u8 kd, iv x]) (hle : i * 2 + 2 ≤ cells.length)
    (hB : Both a b l ct f H) (hal : lid ≠ a) (hbl : lid ≠ b) (hab : a ≠ b) (hb : 1 ≤ l ∧ l ≤ 9223372036854775807 ∧ 0 ≤ ct ∧ ct < l ∧ 0 ≤ f ∧ f ≤ i) (hxb : x ≤ 9223372036854775807) (hn : n ≤ 100) :
    ∃ H' l' ct' f', F_law28TimerPlays.l1 (R (m + 1)) (pt a) (pt b) (.slice (some ⟨lid, 0, none⟩) n c) (iv n) (iv i) H = some (.nrm [pt a, pt b, .slice (some ⟨lid, 0, none⟩) n c, iv n, iv ((i + 1 : Nat) : Int)], H') ∧
      H'[lid]? = some (.cells cells es g ro) ∧ Both a b l' ct' f' H' ∧ 1 ≤ l' ∧ l' ≤ 9223372036854775807 ∧ 0 ≤ ct' ∧ ct' < l' ∧ 0 ≤ f' ∧ f' ≤ ((i + 1 : Nat) : Int) := by
  obtain ⟨ha, hw0⟩ := hB
  have hlt : (i : Int) < n := by omega
  have hw : IntKind.i64.wrap ((i : Int) + 1) = (i : Int) + 1 := w64 (by omega) (by omega)
  have e0 : bop .int .lss (iv i) (iv n) H = some (.bool true, H) := by rw [lss_r]; simp [hlt]
  have hl1 : (H ++ [AObj.cells [.int .u8 kd, iv x] 1 false false])[lid]? = some (.cells cells es g ro) := app_get hl
  have ha1 : (H ++ [AObj.cells [.int .u8 kd, iv x] 1 false false])[a]? = some (tmr l ct f) := app_get ha
  have hb1 : (H ++ [AObj.cells [.int .u8 kd, iv x] 1 false false])[b]? = some (rtm (l - ct) l f) := app_get hw0
  have hq : (H ++ [AObj.cells [.int .u8 kd, iv x] 1 false false])[H.length]? = some (.cells [.int .u8 kd, iv x] 1 false false) := app_new
  have hpa : H.length ≠ a := by have := (List.getElem?_eq_some_iff.1 ha).1; omega
  unfold F_law28TimerPlays.l1
  rw [bind_eq e0, c_true, fetch hl hi hx hle rfl rfl rfl]
  generalize H ++ [AObj.cells [.int .u8 kd, iv x] 1 false false] = H1 at *
  by_cases h4 : kd.tmod 6 = 4
  · obtain ⟨v, H2, e, g2, b2⟩ := r_reset (n := m) ha1
    have hb2 : H2[b]? = some (.cells [iv (l - ct), iv l, iv f] 1 false false) := by rw [b2 b (Ne.symm hab)]; exact hb1
    have ga : (H2.set b (rtm l l f))[a]? = some (tmr l 0 f) := by rw [set_get_ne (Ne.symm hab)]; exact g2
    have gb : (H2.set b (rtm l l f))[b]? = some (rtm l l f) := set_get hb2
    have gl : (H2.set b (rtm l l f))[lid]? = some (.cells cells es g ro) := by rw [set_get_ne (Ne.symm hbl), b2 lid hal]; exact hl1
    have e3 := r_left (n := m) ga (by omega)
    have e4 := r_fired (n := m) ga
    refine ⟨H2.set b (rtm l l f), l, 0, f, ?_, gl, ⟨ga, by rw [gb]; simp⟩, by omega⟩
    simp only [rtm] at gb e3 e4
    simp [↓bind_andk, andk_some, ↓jn_outk, outk_nrm, outk_ext, outk_ret, ↓cnd_b, ret_r, nilc_r, fa_r, ldOne_r, ldA_r, stOne_r, stA_r, rdk_r, rdkA_r, wrk_r, wrkA_r, alc_r, lenS_r, cvi_r, pick_r, not_r, mx_r, mn_r, ixa_r, bld_r, add_r, sub_r, quo_r, rem_r, eql_r, neq_r, lss_r, leq_r, gtr_r, geq_r, eqb_r, neb_r, nep_r, ↓gv_r, gvn_r, ↓g_r, gn_r, hq, h4, e, hw, hb2, oneCell, List.getElem?_set_self', rtm, e3, e4, same_self]
  · by_cases h5 : kd.tmod 6 = 5
    · obtain ⟨v, H2, e, g2, b2⟩ := r_limit (n := m) (x := x) ha1
      have hq2 : H2[H.length]? = some (.cells [.int .u8 kd, iv x] 1 false false) := by rw [b2 _ hpa]; exact hq
      obtain ⟨H3, e5, k3⟩ := r_refNew m x H2
      have hb2 : H2[b]? = some (.cells [iv (l - ct), iv l, iv f] 1 false false) := by rw [b2 b (Ne.symm hab)]; exact hb1
      have hb3 := k3 _ _ hb2
      have ga3 := k3 _ _ g2
      have gl3 : H3[lid]? = some (.cells cells es g ro) := k3 _ _ (by rw [b2 lid hal]; exact hl1)
      have ga : (H3.set b (rtm (max 1 x) (max 1 x) f))[a]? = some (tmr (max 1 x) 0 f) := by rw [set_get_ne (Ne.symm hab)]; exact ga3
      have gb : (H3.set b (rtm (max 1 x) (max 1 x) f))[b]? = some (rtm (max 1 x) (max 1 x) f) := set_get hb3
      have gl : (H3.set b (rtm (max 1 x) (max 1 x) f))[lid]? = some (.cells cells es g ro) := by rw [set_get_ne (Ne.symm hbl)]; exact gl3
      have e3 := r_left (n := m) ga (by omega)
      have e4 := r_fired (n := m) ga
      refine ⟨H3.set b (rtm (max 1 x) (max 1 x) f), max 1 x, 0, f, ?_, gl, ⟨ga, by rw [gb]; simp⟩, by omega⟩
      simp only [rtm] at gb e3 e4
      simp [↓bind_andk, andk_some, ↓jn_outk, outk_nrm, outk_ext, outk_ret, ↓cnd_b, ret_r, nilc_r, fa_r, ldOne_r, ldA_r, stOne_r, stA_r, rdk_r, rdkA_r, wrk_r, wrkA_r, alc_r, lenS_r, cvi_r, pick_r, not_r, mx_r, mn_r, ixa_r, bld_r, add_r, sub_r, quo_r, rem_r, eql_r, neq_r, lss_r, leq_r, gtr_r, geq_r, eqb_r, neb_r, nep_r, ↓gv_r, gvn_r, ↓g_r, gn_r, hq, hq2, h5, e, e5, hw, hb2, hb3, oneCell, List.getElem?_set_self', rtm, e3, e4, same_self, prt]
    · obtain ⟨H2, e5, k2⟩ := r_refTick (n := m) (q := l - ct) (l := l) (f := f) (H := H1) (by omega) (by omega)
      -- what the document's timer is behind it
      obtain ⟨q', f', u, ct', z1, z2, z3, z4, z5, z6, z7, z8, z9⟩ : ∃ (q' f' : Int) (u : Bool) (ct' : Int), (if l - ct - 1 > 0 then rt (l - ct - 1) l f else rt l l (f + 1)) = rt q' l f' ∧ (!decide (l - ct - 1 > 0)) = u ∧ q' = l - ct' ∧
          ((if ct + 1 < l then tmr l (ct + 1) f else tmr l 0 (f + 1)) = tmr l ct' f') ∧ (!decide (ct + 1 < l)) = u ∧ 0 ≤ ct' ∧ ct' < l ∧ 0 ≤ f' ∧ f' ≤ (i : Int) + 1 := by
        by_cases hc : ct + 1 < l
        · have h1 : l - ct - 1 > 0 := by omega
          exact ⟨l - ct - 1, f, false, ct + 1, by rw [if_pos h1], by rw [decide_eq_true h1]; rfl, by omega, by rw [if_pos hc], by simp [hc], by omega, hc, by omega, by omega⟩
        · have h1 : ¬ l - ct - 1 > 0 := by omega
          exact ⟨l, f + 1, true, 0, by rw [if_neg h1], by rw [decide_eq_false h1]; rfl, by omega, by rw [if_neg hc], by simp [hc], by omega, by omega, by omega, by omega⟩
      rw [z1, z2] at e5
      have hb2 : (H2 ++ [AObj.cells [iv q', iv l, iv f'] 1 false false])[b]? = some (.cells [iv (l - ct), iv l, iv f] 1 false false) := app_get (k2 _ _ hb1)
      have ha2 : ((H2 ++ [AObj.cells [iv q', iv l, iv f'] 1 false false]).set b (.cells [iv q', iv l, iv f'] 1 false false))[a]? = some (tmr l ct f) := by
        rw [set_get_ne (Ne.symm hab)]; exact app_get (k2 _ _ ha1)
      obtain ⟨H4, e, g4, b4⟩ := r_tick (n := m) ha2 (by omega) (by omega)
      rw [z4] at g4
      rw [z5] at e
      have gb : H4[b]? = some (.cells [iv q', iv l, iv f'] 1 false false) := by rw [b4 b (Ne.symm hab)]; exact set_get hb2
      have gl : H4[lid]? = some (.cells cells es g ro) := by rw [b4 lid hal, set_get_ne (Ne.symm hbl)]; exact app_get (k2 _ _ hl1)
      have e3 := r_left (n := m) g4 (by omega)
      have e4 := r_fired (n := m) g4
      refine ⟨H4, l, ct', f', ?_, gl, ⟨g4, by rw [gb, z3]; rfl⟩, by omega⟩
      subst z3
      have hb1' := hb1
      simp only [rtm] at hb1'
      have hb2' := k2 _ _ hb1'
      simp [↓bind_andk, andk_some, ↓jn_outk, outk_nrm, outk_ext, outk_ret, ↓cnd_b, ret_r, nilc_r, fa_r, ldOne_r, ldA_r, stOne_r, stA_r, rdk_r, rdkA_r, wrk_r, wrkA_r, alc_r, lenS_r, cvi_r, pick_r, not_r, mx_r, mn_r, ixa_r, bld_r, add_r, sub_r, quo_r, rem_r, eql_r, neq_r, lss_r, leq_r, gtr_r, geq_r, eqb_r, neb_r, nep_r, ↓gv_r, gvn_r, ↓g_r, gn_r, hq, h4, h5, e, e5, hw, hb1', hb2, gb, oneCell, Value.cells, splice, rtm, e3, e4, same_self, set_new, extr_p0, extr_p1]

theorem plays_acts {m a b lid n c es : Nat} {g ro : Bool} {cells : List Value} (hn : n ≤ 100) (hal : lid ≠ a) (hbl : lid ≠ b) (hab : a ≠ b) (hle : cells.length ≥ n * 2) (hcs : ∀ i, i < n → ∃ kd x, (cells.drop (i * 2)).take 2 = [.int .u8 kd, iv x] ∧ x ≤ 9223372036854775807) :
    ∀ (d i : Nat) {l ct f : Int} {H : Heap}, n - i = d → i ≤ n → H[lid]? = some (.cells cells es g ro) → Both a b l ct f H → (1 ≤ l ∧ l ≤ 9223372036854775807 ∧ 0 ≤ ct ∧ ct < l ∧ 0 ≤ f ∧ f ≤ i) →
    ∃ H', loopM (fun vs => F_law28TimerPlays.l1 (R (m + 1)) (vs.headD undef) (vs.tail.headD undef) (vs.tail.tail.headD undef) (vs.tail.tail.tail.headD undef) (vs.tail.tail.tail.tail.headD undef)) [pt a, pt b, .slice (some ⟨lid, 0, none⟩) n c, iv n, iv i] H = some (.ext 0 [], H')
  | 0, i, l, ct, f, H, hd, hin, hl, hB, hb => by
    have : i = n := by omega
    subst this
    refine ⟨H, loop_ext ?_⟩
    simp [F_law28TimerPlays.l1, ↓bind_andk, andk_some, ↓jn_outk, outk_nrm, outk_ext, outk_ret, ↓cnd_b, ret_r, nilc_r, fa_r, ldOne_r, ldA_r, stOne_r, stA_r, rdk_r, rdkA_r, wrk_r, wrkA_r, alc_r, lenS_r, cvi_r, pick_r, not_r, mx_r, mn_r, ixa_r, bld_r, add_r, sub_r, quo_r, rem_r, eql_r, neq_r, lss_r, leq_r, gtr_r, geq_r, eqb_r, neb_r, nep_r, ↓gv_r, gvn_r, ↓g_r, gn_r]
  | d + 1, i, l, ct, f, H, hd, hin, hl, hB, hb => by
    obtain ⟨kd, x, hx, hxb⟩ := hcs i (by omega)
    obtain ⟨H1, l1, c1, f1, e, g1, g2, hb2⟩ := plays_round (m := m) (c := c) hl (show i < n by omega) hx (by omega) hB hal hbl hab hb hxb hn
    obtain ⟨H2, e2⟩ := plays_acts (m := m) (c := c) hn hal hbl hab hle hcs d (i + 1) (by omega) (by omega) g1 g2 hb2
    exact ⟨H2, (loop_next e).trans e2⟩

theorem plays_core {lim : Int} {ad : Option Addr} {n c : Nat} {H : Heap} (hlim : -9223372036854775808 ≤ lim ∧ lim ≤ 9223372036854775807)
    (hloop : n ≤ 100 → ∀ {a b : Nat} {H1 : Heap} {l ct f : Int}, HLe H H1 → H.length ≤ a → H.length ≤ b → a ≠ b → Both a b l ct f H1 → (1 ≤ l ∧ l ≤ 9223372036854775807 ∧ 0 ≤ ct ∧ ct < l ∧ 0 ≤ f ∧ f ≤ 0) →
      ∃ H', loopM (fun vs => F_law28TimerPlays.l1 (R 3) (vs.headD undef) (vs.tail.headD undef) (vs.tail.tail.headD undef) (vs.tail.tail.tail.headD undef) (vs.tail.tail.tail.tail.headD undef)) [pt a, pt b, .slice ad n c, iv n, iv 0] H1 = some (.ext 0 [], H')) :
    ∃ H', R 4 n_law28TimerPlays [iv lim, .slice ad n c] H = some (.bool true, H') := by
  obtain ⟨H1, e1, k1⟩ := r_lives 1 H
  rw [R, run_law28TimerPlays rfl]
  by_cases hn : n ≤ 100
  · have hng : ¬ ((n : Int) > 100) := by omega
    have hlen : H.length ≤ H1.length := by
      rcases Nat.lt_or_ge H1.length H.length with h | h
      · have := k1 H1.length _ (List.getElem?_eq_getElem h)
        simp at this
      · exact h
    have n1 := r_new 2 lim H1
    obtain ⟨H2, n2, k2⟩ := r_refNew 2 lim (H1 ++ [tmr (max 1 lim) 0 0])
    have hl2 : H1.length < H2.length := by
      have := k2 H1.length _ app_new
      exact (List.getElem?_eq_some_iff.1 this).1
    have ga : (H2 ++ [rtm (max 1 lim) (max 1 lim) 0])[H1.length]? = some (tmr (max 1 lim) 0 0) := app_get (k2 _ _ app_new)
    have gb : (H2 ++ [rtm (max 1 lim) (max 1 lim) 0])[H2.length]? = some (rtm (max 1 lim - 0) (max 1 lim) 0) := by rw [Int.sub_zero]; exact app_new
    obtain ⟨H3, e3⟩ := hloop hn (a := H1.length) (b := H2.length) (l := max 1 lim) (ct := 0) (f := 0) (((k1.trans (.app _ _)).trans k2).trans (.app _ _)) hlen (by omega) (by omega) ⟨ga, gb⟩ (by omega)
    refine ⟨H3, ?_⟩
    simp only [rtm] at e3
    simp only [F_law28TimerPlays, ↓bind_andk, andk_some, ↓jn_outk, outk_nrm, outk_ext, outk_ret, ↓cnd_b, ret_r, nilc_r, fa_r, ldOne_r, ldA_r, stOne_r, stA_r, rdk_r, rdkA_r, wrk_r, wrkA_r, alc_r, lenS_r, cvi_r, pick_r, not_r, mx_r, mn_r, ixa_r, bld_r, add_r, sub_r, quo_r, rem_r, eql_r, neq_r, lss_r, leq_r, gtr_r, geq_r, eqb_r, neb_r, nep_r, ↓gv_r, gvn_r, ↓g_r, gn_r, e1, n1, n2, Bool.not_true, Bool.false_eq_true, reduceIte, List.tail_cons, List.headD_cons, hng, decide_false, decide_true, cond_false, cond_true, Nat.beq_refl, fr_get0, List.getElem?_cons_zero, Value.cells, Array.all_toList,
      List.all_cons, oneCell, List.all_nil, Bool.and_self, Bool.and_true, List.length_cons, List.length_nil, Nat.zero_add, Nat.reduceAdd, Nat.le_refl, true_and, and_true, and_self, splice, List.take_zero, List.nil_append, List.drop_zero, List.size_toArray, fr_set0, List.set_cons_zero, List.drop_succ_cons, List.drop_nil, List.append_nil, List.append_assoc, e3]
  · have hng : ((n : Int) > 100) := by omega
    obtain ⟨H2, e2, _⟩ := r_lives 1 H1
    refine ⟨H2, ?_⟩
    simp only [F_law28TimerPlays, ↓bind_andk, andk_some, ↓jn_outk, outk_nrm, outk_ext, outk_ret, ↓cnd_b, ret_r, nilc_r, fa_r, ldOne_r, ldA_r, stOne_r, stA_r, rdk_r, rdkA_r, wrk_r, wrkA_r, alc_r, lenS_r, cvi_r, pick_r, not_r, mx_r, mn_r, ixa_r, bld_r, add_r, sub_r, quo_r, rem_r, eql_r, neq_r, lss_r, leq_r, gtr_r, geq_r, eqb_r, neb_r, nep_r, ↓gv_r, gvn_r, ↓g_r, gn_r, e1, e2, Bool.not_true, Bool.false_eq_true, reduceIte, List.tail_cons, List.headD_cons, hng, decide_true, cond_false]

theorem law_TimerPlays : ∀ (xs : Ins [.int .i64, .slc actT]) (H : Heap) (vs : List Value), InsWf [.int .i64, .slc actT] xs → InsRd [.int .i64, .slc actT] xs H vs → ∃ n H', R n n_law28TimerPlays vs H = some (.bool true, H') := by
  intro xs H vs hwf hrd
  obtain ⟨lim, l, _⟩ := xs
  obtain ⟨hlim, hl, _⟩ := hwf
  obtain ⟨c1, _, rfl, _, h1, c2, _, rfl, _, h2, rfl⟩ := hrd
  have h1 : c1 = [.int .i64 lim] := h1
  subst h1
  refine ⟨4, ?_⟩
  rcases rd_slc h2 with rfl | rfl | ⟨q, n, c, id, cells, rfl, hn, hid, hcl, hcs, a, b, rfl, rfl, rfl⟩
  · refine plays_core (wf_i64 hlim) fun _ a b H1 l ct f hle ha hb hab g hb => ⟨H1, loop_ext ?_⟩
    simp [F_law28TimerPlays.l1, ↓bind_andk, andk_some, ↓jn_outk, outk_nrm, outk_ext, outk_ret, ↓cnd_b, ret_r, nilc_r, fa_r, ldOne_r, ldA_r, stOne_r, stA_r, rdk_r, rdkA_r, wrk_r, wrkA_r, alc_r, lenS_r, cvi_r, pick_r, not_r, mx_r, mn_r, ixa_r, bld_r, add_r, sub_r, quo_r, rem_r, eql_r, neq_r, lss_r, leq_r, gtr_r, geq_r, eqb_r, neb_r, nep_r, ↓gv_r, gvn_r, ↓g_r, gn_r]
  · refine plays_core (wf_i64 hlim) fun _ a b H1 l ct f hle ha hb hab g hb => ⟨H1, loop_ext ?_⟩
    simp [F_law28TimerPlays.l1, ↓bind_andk, andk_some, ↓jn_outk, outk_nrm, outk_ext, outk_ret, ↓cnd_b, ret_r, nilc_r, fa_r, ldOne_r, ldA_r, stOne_r, stA_r, rdk_r, rdkA_r, wrk_r, wrkA_r, alc_r, lenS_r, cvi_r, pick_r, not_r, mx_r, mn_r, ixa_r, bld_r, add_r, sub_r, quo_r, rem_r, eql_r, neq_r, lss_r, leq_r, gtr_r, geq_r, eqb_r, neb_r, nep_r, ↓gv_r, gvn_r, ↓g_r, gn_r]
  · have hsz : actT.size = 2 := rfl
    rw [hsz] at hcl hcs hid
    have hwa : ∀ x ∈ a ++ b, actT.wf x := fun x hx => (List.mem_append.1 hx).elim (hl.1 x) (hl.2.1 x)
    refine plays_core (wf_i64 hlim) fun hn100 p r H1 l ct f hle ha hb hab g hbd => ?_
    have hlt := (List.getElem?_eq_some_iff.1 hid).1
    have := plays_acts (m := 2) (c := c) hn100 (show id ≠ p by omega) (show id ≠ r by omega) hab (by omega) (fun i hi => ?_) a.length 0 (by omega) (by omega) (hle _ _ hid) g hbd
    · exact this
    · have hq : i < (a ++ b).length := by omega
      have h3 := rd_act (hcs i (a ++ b)[i] (List.getElem?_eq_getElem hq))
      exact ⟨_, _, h3, (wf_i64 (hwa _ (List.getElem_mem hq)).2.1).2⟩

end Go.Proofs.Ytapnfeankeamnaa.A
