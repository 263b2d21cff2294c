/- TimerLeft, on the abstract machine. -/
import Derived.Test.YtapnfeankeamnaaTimer
namespace Go.Proofs.Ytapnfeankeamnaa.A
set_option linter.unusedVariables false
set_option linter.unusedSimpArgs false
open Go.Proofs Go.Proofs.Ytapnfeankeamnaa

/-- A slice's element is fetched into a variable of its own. -/
theorem fetch {β : Type} {k : Value → M β} {sz lid n c i es : Nat} {g ro : Bool} {zs cells xs : List Value} {H : Heap} (h : H[lid]? = some (.cells cells es g ro)) (hi : i < n) (hx : (cells.drop (i * sz)).take sz = xs) (hl : i * sz + sz ≤ cells.length)
    (hz : zs.length = sz) (hz1 : zs.all oneCell = true) (h1 : xs.all oneCell = true) :
    bind (ixa sz (.slice (some ⟨lid, 0, none⟩) n c) (iv i)) (fun p => bind (ldA sz p) fun v => bind (alc 1 (.agg zs.toArray)) fun q => bind (stA sz q v) fun _ => k q) H = k (pt H.length) (H ++ [.cells xs 1 false false]) := by
  have hxl : xs.length = sz := by rw [← hx]; simp; omega
  have e1 : ixa sz (.slice (some ⟨lid, 0, none⟩) n c) (iv i) H = some (.pointer (some ⟨lid, i * sz, none⟩), H) := by
    rw [ixa_r, if_pos (by omega)]; simp
  have e2 : ldA sz (.pointer (some ⟨lid, i * sz, none⟩)) H = some (.agg xs.toArray, H) := by
    rw [ldA_r, h, rdkA_r, if_pos hl, hx]
  have e3 : alc 1 (.agg zs.toArray) H = some (pt H.length, H ++ [.cells zs 1 false false]) := by
    rw [alc_r]; simp only [Value.cells, List.all_eq_true] at *; rw [if_pos (by simpa using hz1)]
  have e4 : stA sz (pt H.length) (.agg xs.toArray) (H ++ [.cells zs 1 false false]) = some (undef, H ++ [.cells xs 1 false false]) := by
    rw [stA_r, app_new, wrkA_r, if_pos ⟨by omega, by simpa using hxl, by simpa using h1⟩]
    have : splice zs xs.toArray.toList 0 = xs := by unfold splice; simp [List.drop_eq_nil_of_le (show zs.length ≤ xs.length by omega)]
    rw [this]
    simp
  rw [bind_eq e1, bind_eq e2, bind_eq e3, bind_eq e4]

theorem left_round {m a lid n c i es : Nat} {g ro : Bool} {cells : List Value} {kd x l ct f : Int} {H : Heap} (hl : H[lid]? = some (.cells cells es g ro)) (hi : i < n) (hx : (cells.drop (i * 2)).take 2 = [.int .u8 kd, iv x]) (hle : i * 2 + 2 ≤ cells.length)
    (ha : H[a]? = some (tmr l ct f)) (hal : lid ≠ a) (hb : 1 ≤ l ∧ l ≤ 255 ∧ 0 ≤ ct ∧ ct < l ∧ 0 ≤ f ∧ f ≤ i) (hn : n ≤ 100) :
    ∃ H' l' ct' f', F_law28TimerLeft.l1 (R (m + 1)) (pt a) (.slice (some ⟨lid, 0, none⟩) n c) (iv n) (iv i) H = some (.nrm [pt a, .slice (some ⟨lid, 0, none⟩) n c, iv n, iv ((i + 1 : Nat) : Int)], H') ∧
      H'[lid]? = some (.cells cells es g ro) ∧ H'[a]? = some (tmr l' ct' f') ∧ 1 ≤ l' ∧ l' ≤ 255 ∧ 0 ≤ ct' ∧ ct' < l' ∧ 0 ≤ f' ∧ f' ≤ ((i + 1 : Nat) : Int) := by
  have hlt : (i : Int) < n := by omega
  have hw : IntKind.i64.wrap ((i : Int) + 1) = (i : Int) + 1 := w64 (by omega) (by omega)
  have e0 : bop .int .lss (iv i) (iv n) H = some (.bool true, H) := by rw [lss_r]; simp [hlt]
  have hl1 : (H ++ [AObj.cells [.int .u8 kd, iv x] 1 false false])[lid]? = some (.cells cells es g ro) := app_get hl
  have ha1 : (H ++ [AObj.cells [.int .u8 kd, iv x] 1 false false])[a]? = some (tmr l ct f) := app_get ha
  have hq : (H ++ [AObj.cells [.int .u8 kd, iv x] 1 false false])[H.length]? = some (.cells [.int .u8 kd, iv x] 1 false false) := app_new
  unfold F_law28TimerLeft.l1
  rw [bind_eq e0, c_true, fetch hl hi hx hle rfl rfl rfl]
  generalize H ++ [AObj.cells [.int .u8 kd, iv x] 1 false false] = H1 at *
  by_cases h4 : kd.tmod 6 = 4
  · obtain ⟨v, H2, e, g2, b2⟩ := r_reset (n := m) ha1
    refine ⟨H2, l, 0, f, ?_, by rw [b2 lid hal]; exact hl1, g2, by omega⟩
    simp [↓bind_andk, andk_some, ↓jn_outk, outk_nrm, outk_ext, outk_ret, ↓cnd_b, ret_r, nilc_r, fa_r, ldOne_r, ldA_r, stOne_r, stA_r, rdk_r, rdkA_r, wrk_r, wrkA_r, alc_r, lenS_r, cvi_r, pick_r, not_r, mx_r, mn_r, ixa_r, extr_r, bld_r, add_r, sub_r, quo_r, rem_r, eql_r, neq_r, lss_r, leq_r, gtr_r, geq_r, eqb_r, neb_r, nep_r, ↓gv_r, gvn_r, ↓g_r, gn_r, hq, h4, e, hw]
  · by_cases h5 : kd.tmod 6 = 5
    · have hm := Int.tmod_lt_of_pos x (show (0 : Int) < 200 by omega)
      obtain ⟨v, H2, e, g2, b2⟩ := r_limit (n := m) (x := x.tmod 200) ha1
      refine ⟨H2, max 1 (x.tmod 200), 0, f, ?_, by rw [b2 lid hal]; exact hl1, g2, by omega⟩
      simp [↓bind_andk, andk_some, ↓jn_outk, outk_nrm, outk_ext, outk_ret, ↓cnd_b, ret_r, nilc_r, fa_r, ldOne_r, ldA_r, stOne_r, stA_r, rdk_r, rdkA_r, wrk_r, wrkA_r, alc_r, lenS_r, cvi_r, pick_r, not_r, mx_r, mn_r, ixa_r, extr_r, bld_r, add_r, sub_r, quo_r, rem_r, eql_r, neq_r, lss_r, leq_r, gtr_r, geq_r, eqb_r, neb_r, nep_r, ↓gv_r, gvn_r, ↓g_r, gn_r, hq, h5, e, hw]
    · obtain ⟨H2, e, g2, b2⟩ := r_tick (n := m) ha1 (by omega) (by omega)
      by_cases hc : ct + 1 < l
      · rw [if_pos hc] at g2
        refine ⟨H2, l, ct + 1, f, ?_, by rw [b2 lid hal]; exact hl1, g2, by omega⟩
        simp [↓bind_andk, andk_some, ↓jn_outk, outk_nrm, outk_ext, outk_ret, ↓cnd_b, ret_r, nilc_r, fa_r, ldOne_r, ldA_r, stOne_r, stA_r, rdk_r, rdkA_r, wrk_r, wrkA_r, alc_r, lenS_r, cvi_r, pick_r, not_r, mx_r, mn_r, ixa_r, extr_r, bld_r, add_r, sub_r, quo_r, rem_r, eql_r, neq_r, lss_r, leq_r, gtr_r, geq_r, eqb_r, neb_r, nep_r, ↓gv_r, gvn_r, ↓g_r, gn_r, hq, h4, h5, e, hw]
      · rw [if_neg hc] at g2
        refine ⟨H2, l, 0, f + 1, ?_, by rw [b2 lid hal]; exact hl1, g2, by omega⟩
        simp [↓bind_andk, andk_some, ↓jn_outk, outk_nrm, outk_ext, outk_ret, ↓cnd_b, ret_r, nilc_r, fa_r, ldOne_r, ldA_r, stOne_r, stA_r, rdk_r, rdkA_r, wrk_r, wrkA_r, alc_r, lenS_r, cvi_r, pick_r, not_r, mx_r, mn_r, ixa_r, extr_r, bld_r, add_r, sub_r, quo_r, rem_r, eql_r, neq_r, lss_r, leq_r, gtr_r, geq_r, eqb_r, neb_r, nep_r, ↓gv_r, gvn_r, ↓g_r, gn_r, hq, h4, h5, e, hw]

theorem left_acts {m a lid n c es : Nat} {g ro : Bool} {cells : List Value} (hn : n ≤ 100) (hal : lid ≠ a) (hle : cells.length ≥ n * 2) (hcs : ∀ i, i < n → ∃ kd x, (cells.drop (i * 2)).take 2 = [.int .u8 kd, iv x]) :
    ∀ (d i : Nat) {l ct f : Int} {H : Heap}, n - i = d → i ≤ n → H[lid]? = some (.cells cells es g ro) → H[a]? = some (tmr l ct f) → (1 ≤ l ∧ l ≤ 255 ∧ 0 ≤ ct ∧ ct < l ∧ 0 ≤ f ∧ f ≤ i) →
    ∃ H' l' ct' f', loopM (fun vs => F_law28TimerLeft.l1 (R (m + 1)) (vs.headD undef) (vs.tail.headD undef) (vs.tail.tail.headD undef) (vs.tail.tail.tail.headD undef)) [pt a, .slice (some ⟨lid, 0, none⟩) n c, iv n, iv i] H = some (.ext 0 [pt a], H') ∧
      H'[a]? = some (tmr l' ct' f') ∧ 1 ≤ l' ∧ l' ≤ 255 ∧ 0 ≤ ct' ∧ ct' < l' ∧ 0 ≤ f' ∧ f' ≤ n
  | 0, i, l, ct, f, H, hd, hin, hl, ha, hb => by
    have : i = n := by omega
    subst this
    refine ⟨H, l, ct, f, loop_ext ?_, ha, hb⟩
    simp [F_law28TimerLeft.l1, ↓bind_andk, andk_some, ↓jn_outk, outk_nrm, outk_ext, outk_ret, ↓cnd_b, ret_r, nilc_r, fa_r, ldOne_r, ldA_r, stOne_r, stA_r, rdk_r, rdkA_r, wrk_r, wrkA_r, alc_r, lenS_r, cvi_r, pick_r, not_r, mx_r, mn_r, ixa_r, extr_r, bld_r, add_r, sub_r, quo_r, rem_r, eql_r, neq_r, lss_r, leq_r, gtr_r, geq_r, eqb_r, neb_r, nep_r, ↓gv_r, gvn_r, ↓g_r, gn_r]
  | d + 1, i, l, ct, f, H, hd, hin, hl, ha, hb => by
    obtain ⟨kd, x, hx⟩ := hcs i (by omega)
    obtain ⟨H1, l1, c1, f1, e, g1, g2, hb2⟩ := left_round (m := m) (c := c) hl (show i < n by omega) hx (by omega) ha hal hb hn
    obtain ⟨H2, l2, c2, f2, e2, h2⟩ := left_acts (m := m) (c := c) hn hal hle hcs d (i + 1) (by omega) (by omega) g1 g2 hb2
    exact ⟨H2, l2, c2, f2, (loop_next e).trans e2, h2⟩

theorem left_ticks {m a : Nat} {q : Int} (hq : 1 ≤ q ∧ q ≤ 255) : ∀ (d : Nat) {i l ct f : Int} {H : Heap}, (q - i).toNat = d → 0 ≤ i → i ≤ q → H[a]? = some (tmr l ct f) → (i < q → l - ct = q - i) → 0 ≤ ct → ct ≤ 1000 → 0 ≤ f → f ≤ 1000 + i → l ≤ 1000 →
    ∃ H', loopM (fun vs => F_law28TimerLeft.l2 (R (m + 1)) (vs.headD undef) (vs.tail.headD undef) (vs.tail.tail.headD undef) (vs.tail.tail.tail.headD undef)) [pt a, iv q, iv q, iv i] H = some (.ext 3 [], H')
  | 0, i, l, ct, f, H, hd, h0, hiq, ha, he, h1, h2, h3, h4, h5 => by
    have : ¬ i < q := by omega
    refine ⟨H, loop_ext ?_⟩
    simp [F_law28TimerLeft.l2, ↓bind_andk, andk_some, ↓jn_outk, outk_nrm, outk_ext, outk_ret, ↓cnd_b, ret_r, nilc_r, fa_r, ldOne_r, ldA_r, stOne_r, stA_r, rdk_r, rdkA_r, wrk_r, wrkA_r, alc_r, lenS_r, cvi_r, pick_r, not_r, mx_r, mn_r, ixa_r, extr_r, bld_r, add_r, sub_r, quo_r, rem_r, eql_r, neq_r, lss_r, leq_r, gtr_r, geq_r, eqb_r, neb_r, nep_r, ↓gv_r, gvn_r, ↓g_r, gn_r, this]
  | d + 1, i, l, ct, f, H, hd, h0, hiq, ha, he, h1, h2, h3, h4, h5 => by
    have hi : i < q := by omega
    have he := he hi
    have hw : IntKind.i64.wrap (i + 1) = i + 1 := w64 (by omega) (by omega)
    have hw2 : IntKind.i64.wrap (q - 1) = q - 1 := w64 (by omega) (by omega)
    obtain ⟨H2, e, g2, b2⟩ := r_tick (n := m) ha (by omega) (by omega)
    have hb : (!decide (ct + 1 < l)) = (i == q - 1) := by
      by_cases h : i = q - 1
      · have : ¬ ct + 1 < l := by omega
        simp [h, this]
      · have : ct + 1 < l := by omega
        simp [h, this]
    rw [hb] at e
    have e1 : F_law28TimerLeft.l2 (R (m + 1)) (pt a) (iv q) (iv q) (iv i) H = some (.nrm [pt a, iv q, iv q, iv (i + 1)], H2) := by
      simp [F_law28TimerLeft.l2, ↓bind_andk, andk_some, ↓jn_outk, outk_nrm, outk_ext, outk_ret, ↓cnd_b, ret_r, nilc_r, fa_r, ldOne_r, ldA_r, stOne_r, stA_r, rdk_r, rdkA_r, wrk_r, wrkA_r, alc_r, lenS_r, cvi_r, pick_r, not_r, mx_r, mn_r, ixa_r, extr_r, bld_r, add_r, sub_r, quo_r, rem_r, eql_r, neq_r, lss_r, leq_r, gtr_r, geq_r, eqb_r, neb_r, nep_r, ↓gv_r, gvn_r, ↓g_r, gn_r, hi, e, hw, hw2]
    by_cases hc : ct + 1 < l
    · rw [if_pos hc] at g2
      obtain ⟨H3, e3⟩ := left_ticks (m := m) hq d (i := i + 1) (by omega) (by omega) (by omega) g2 (fun _ => by omega) (by omega) (by omega) h3 (by omega) h5
      exact ⟨H3, (loop_next e1).trans e3⟩
    · rw [if_neg hc] at g2
      obtain ⟨H3, e3⟩ := left_ticks (m := m) hq d (i := i + 1) (by omega) (by omega) (by omega) g2 (fun _ => by omega) (by omega) (by omega) (by omega) (by omega) h5
      exact ⟨H3, (loop_next e1).trans e3⟩

abbrev actT : Ty := .struct (.pair (.int .u8) (.pair (.int .i64) .unit))

theorem rd_act {x : actT.den} {H : Heap} {cs : List Value} (h : Rd actT x H cs) : cs = [.int .u8 x.1, iv x.2.1] := by
  obtain ⟨a, b, u⟩ := x
  obtain ⟨h1, h2, h3⟩ := h
  have h1 : cs.take 1 = [.int .u8 a] := h1
  have h2 : (cs.drop 1).take 1 = [.int .i64 b] := h2
  have h3 : (cs.drop 1).drop 1 = [] := h3
  match cs, h1, h2, h3 with
  | [c, d], h1, h2, _ => simp at h1 h2; rw [h1, h2]

/-- A slice that is read: nil, empty, or its cells. -/
theorem rd_slc {e : Ty} {x : (Ty.slc e).den} {H : Heap} {cs : List Value} (h : Rd (.slc e) x H cs) :
    cs = [.slice none 0 0] ∨ cs = [.slice (some ⟨0, 0, some 1⟩) 0 0] ∨ ∃ (l : List e.den) (n c id : Nat) (cells : List Value), cs = [.slice (some ⟨id, 0, none⟩) n c] ∧ n ≤ l.length ∧ H[id]? = some (.cells cells e.size false true) ∧ cells.length = l.length * e.size ∧
      (∀ i x, l[i]? = some x → Rd e x H ((cells.drop (i * e.size)).take e.size)) ∧ (∃ a b, x = some (a, b) ∧ l = a ++ b ∧ n = a.length) := by
  cases x with
  | none => exact .inl h
  | some p =>
    obtain ⟨a, b⟩ := p
    rcases h with ⟨_, _, h⟩ | ⟨id, cells, h1, h2, h3, h4⟩
    · exact .inr (.inl h)
    · exact .inr (.inr ⟨a ++ b, a.length, _, id, cells, h1, by simp, h2, by simpa using h3, h4, a, b, rfl, rfl, rfl⟩)

theorem left_rest {m a : Nat} {l ct f : Int} {H : Heap} (ha : H[a]? = some (tmr l ct f)) (hb : 1 ≤ l ∧ l ≤ 255 ∧ 0 ≤ ct ∧ ct < l ∧ 0 ≤ f ∧ f ≤ 100) :
    ∃ H', loopM (fun vs => F_law28TimerLeft.l2 (R (m + 1)) (vs.headD undef) (vs.tail.headD undef) (vs.tail.tail.headD undef) (vs.tail.tail.tail.headD undef)) [pt a, iv (l - ct), iv (l - ct), iv 0] H = some (.ext 3 [], H') :=
  left_ticks (m := m) (q := l - ct) (by omega) (l - ct).toNat (i := 0) (by omega) (by omega) (by omega) ha (fun _ => by omega) (by omega) (by omega) (by omega) (by omega) (by omega)

theorem left_core {lim : Int} {ad : Option Addr} {n c : Nat} {H : Heap} (hlim : 0 ≤ lim ∧ lim ≤ 255)
    (hloop : n ≤ 100 → ∀ {a : Nat} {H1 : Heap} {l ct f : Int}, HLe H H1 → H.length ≤ a → H1[a]? = some (tmr l ct f) → (1 ≤ l ∧ l ≤ 255 ∧ 0 ≤ ct ∧ ct < l ∧ 0 ≤ f ∧ f ≤ 0) →
      ∃ H' l' ct' f', loopM (fun vs => F_law28TimerLeft.l1 (R 3) (vs.headD undef) (vs.tail.headD undef) (vs.tail.tail.headD undef) (vs.tail.tail.tail.headD undef)) [pt a, .slice ad n c, iv n, iv 0] H1 = some (.ext 0 [pt a], H') ∧
        H'[a]? = some (tmr l' ct' f') ∧ 1 ≤ l' ∧ l' ≤ 255 ∧ 0 ≤ ct' ∧ ct' < l' ∧ 0 ≤ f' ∧ f' ≤ n) :
    ∃ H', R 4 n_law28TimerLeft [.int .u8 lim, .slice ad n c] H = some (.bool true, H') := by
  obtain ⟨H1, e1, k1⟩ := r_lives 1 H
  rw [R, run_law28TimerLeft rfl]
  by_cases hn : n ≤ 100
  · have hng : ¬ ((n : Int) > 100) := by omega
    have hw : IntKind.i64.wrap lim = lim := w64 (by omega) (by omega)
    have hlen : H.length ≤ H1.length := by
      rcases Nat.lt_or_ge H1.length H.length with h | h
      · have := k1 H1.length _ (List.getElem?_eq_getElem h)
        simp at this
      · exact h
    obtain ⟨H2, l, ct, f, e2, g2, b1, b2, b3, b4, b5, b6⟩ := hloop hn (a := H1.length) (H1 := H1 ++ [tmr (max 1 lim) 0 0]) (l := max 1 lim) (ct := 0) (f := 0) (k1.trans (.app _ _)) hlen app_new (by omega)
    have n1 := r_new 2 lim H1
    have e3 := r_left (n := 2) g2 (by omega)
    obtain ⟨H3, e4⟩ := left_rest (m := 2) g2 (by omega)
    refine ⟨H3, ?_⟩
    have hx : (if lim > 1 then lim else 1) = max 1 lim := by omega
    have hm1 : ¬ (l - ct < 1) := by omega
    have hm2 : ¬ (l - ct > 255) := by omega
    simp only [F_law28TimerLeft, ↓bind_andk, andk_some, ↓jn_outk, outk_nrm, outk_ext, outk_ret, ↓cnd_b, ret_r, nilc_r, fa_r, ldOne_r, ldA_r, stOne_r, stA_r, rdk_r, rdkA_r, wrk_r, wrkA_r, alc_r, lenS_r, cvi_r, pick_r, not_r, mx_r, mn_r, ixa_r, extr_r, bld_r, add_r, sub_r, quo_r, rem_r, eql_r, neq_r, lss_r, leq_r, gtr_r, geq_r, eqb_r, neb_r, nep_r, ↓gv_r, gvn_r, ↓g_r, gn_r, e1, n1, hw, Bool.not_true, Bool.false_eq_true, reduceIte, List.tail_cons, List.headD_cons, hng, decide_false, decide_true, cond_false, cond_true, e2, e3, e4, hm1, hm2, hx, Nat.beq_refl, Bool.true_eq_false]
  · have hng : ((n : Int) > 100) := by omega
    obtain ⟨H2, e2, _⟩ := r_lives 1 H1
    refine ⟨H2, ?_⟩
    simp only [F_law28TimerLeft, ↓bind_andk, andk_some, ↓jn_outk, outk_nrm, outk_ext, outk_ret, ↓cnd_b, ret_r, nilc_r, fa_r, ldOne_r, ldA_r, stOne_r, stA_r, rdk_r, rdkA_r, wrk_r, wrkA_r, alc_r, lenS_r, cvi_r, pick_r, not_r, mx_r, mn_r, ixa_r, extr_r, bld_r, add_r, sub_r, quo_r, rem_r, eql_r, neq_r, lss_r, leq_r, gtr_r, geq_r, eqb_r, neb_r, nep_r, ↓gv_r, gvn_r, ↓g_r, gn_r, e1, e2, Bool.not_true, Bool.false_eq_true, reduceIte, List.tail_cons, List.headD_cons, hng, decide_true, cond_false]

theorem law_TimerLeft : ∀ (xs : Ins [.int .u8, .slc actT]) (H : Heap) (vs : List Value), InsWf [.int .u8, .slc actT] xs → InsRd [.int .u8, .slc actT] xs H vs → ∃ n H', R n n_law28TimerLeft vs H = some (.bool true, H') := by
  intro xs H vs hwf hrd
  obtain ⟨lim, l, _⟩ := xs
  obtain ⟨hlim, hl, _⟩ := hwf
  obtain ⟨c1, _, rfl, _, h1, c2, _, rfl, _, h2, rfl⟩ := hrd
  have h1 : c1 = [.int .u8 lim] := h1
  subst h1
  refine ⟨4, ?_⟩
  rcases rd_slc h2 with rfl | rfl | ⟨q, n, c, id, cells, rfl, hn, hid, hcl, hcs, _⟩
  · refine left_core (wf_u8 hlim) fun _ a H1 l ct f hle ha g hb => ⟨H1, l, ct, f, loop_ext ?_, g, by omega⟩
    simp [F_law28TimerLeft.l1, ↓bind_andk, andk_some, ↓jn_outk, outk_nrm, outk_ext, outk_ret, ↓cnd_b, ret_r, nilc_r, fa_r, ldOne_r, ldA_r, stOne_r, stA_r, rdk_r, rdkA_r, wrk_r, wrkA_r, alc_r, lenS_r, cvi_r, pick_r, not_r, mx_r, mn_r, ixa_r, extr_r, bld_r, add_r, sub_r, quo_r, rem_r, eql_r, neq_r, lss_r, leq_r, gtr_r, geq_r, eqb_r, neb_r, nep_r, ↓gv_r, gvn_r, ↓g_r, gn_r]
  · refine left_core (wf_u8 hlim) fun _ a H1 l ct f hle ha g hb => ⟨H1, l, ct, f, loop_ext ?_, g, by omega⟩
    simp [F_law28TimerLeft.l1, ↓bind_andk, andk_some, ↓jn_outk, outk_nrm, outk_ext, outk_ret, ↓cnd_b, ret_r, nilc_r, fa_r, ldOne_r, ldA_r, stOne_r, stA_r, rdk_r, rdkA_r, wrk_r, wrkA_r, alc_r, lenS_r, cvi_r, pick_r, not_r, mx_r, mn_r, ixa_r, extr_r, bld_r, add_r, sub_r, quo_r, rem_r, eql_r, neq_r, lss_r, leq_r, gtr_r, geq_r, eqb_r, neb_r, nep_r, ↓gv_r, gvn_r, ↓g_r, gn_r]
  · have hsz : actT.size = 2 := rfl
    rw [hsz] at hcl hcs hid
    refine left_core (wf_u8 hlim) fun hn100 a H1 l ct f hle ha g hb => ?_
    have hlt := (List.getElem?_eq_some_iff.1 hid).1
    have := left_acts (m := 2) (c := c) hn100 (show id ≠ a by omega) (by omega) (fun i hi => ?_) n 0 (by omega) (by omega) (hle _ _ hid) g hb
    · exact this
    · have hq : i < q.length := by omega
      have := rd_act (hcs i q[i] (List.getElem?_eq_getElem hq))
      exact ⟨_, _, this⟩

end Go.Proofs.Ytapnfeankeamnaa.A
