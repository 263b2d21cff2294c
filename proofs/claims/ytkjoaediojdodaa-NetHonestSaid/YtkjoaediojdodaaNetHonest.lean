/- NetHonest, on the abstract machine. -/
import Derived.Test.YtkjoaediojdodaaNetActs
import Derived.Test.YtkjoaediojdodaaMapStr
namespace Go.Proofs.Ytkjoaediojdodaa.A
set_option linter.unusedVariables false
set_option linter.unusedSimpArgs false
open Go.Proofs Go.Proofs.Ytkjoaediojdodaa

/-- What a place holds. -/
def lookP (ps : List (List UInt8)) (i : Int) : Option (List UInt8) := ps[(plc ps i).toNat]?

def gA (m i : Int) (ps : List (List UInt8)) (g : List UInt8 → Int) : List UInt8 → Int := if m = 3 then (match lookP ps i with | some q => gadd g q 1 | none => g) else g
def gB (m : Int) (p : List UInt8) (g : List UInt8 → Int) : List UInt8 → Int := if m < 2 then gadd g p 1 else if m = 7 then gadd g p 60 else g

theorem gadd_le {g : List UInt8 → Int} {p : List UInt8} {c : Int} (hc : 0 ≤ c) (q : List UInt8) : g q ≤ gadd g p c q := by
  unfold gadd
  by_cases h : q = p
  · rw [if_pos h, h]; omega
  · rw [if_neg h]; omega

theorem gadd_self {g : List UInt8 → Int} {p : List UInt8} {c : Int} : gadd g p c p = g p + c := by simp [gadd]

theorem putN_count {p q : List UInt8} : ∀ (c : Nat) {ps : List (List UInt8)} {lost : Int}, (putN p c ps lost).1.count q ≤ ps.count q + if q = p then c else 0
  | 0, ps, lost => by simp [putN]
  | c + 1, ps, lost => by
    have h := putN_count (p := p) (q := q) c (ps := putL ps p) (lost := putK ps lost)
    have h1 : (putL ps p).count q ≤ ps.count q + if q = p then 1 else 0 := by
      unfold putL
      split
      · rw [List.count_append, List.count_singleton]
        by_cases hq : q = p
        · subst hq; simp
        · have : (p == q) = false := by simpa using fun e => hq e.symm
          simp [this]
      · omega
    simp only [putN]
    split at h <;> split at h1 <;> split <;> omega

theorem DoR.count {kd i : Int} {p : List UInt8} {ps ps' : List (List UInt8)} {lost lost' : Int} {g : List UInt8 → Int} (h : DoR kd i p ps lost ps' lost') (h4 : kd.tmod 8 ≠ 4) (hk : 0 ≤ kd) (hi : 0 ≤ i) (hg : ∀ q, (ps.count q : Int) ≤ g q) :
    ∀ q, (ps'.count q : Int) ≤ gB (kd.tmod 8) p (gA (kd.tmod 8) i ps g) q := by
  intro q
  have hgq := hg q
  have hA : g q ≤ gA (kd.tmod 8) i ps g q := by
    unfold gA
    by_cases hm3 : kd.tmod 8 = 3
    · rw [if_pos hm3]
      cases lookP ps i with
      | some x => exact gadd_le (by omega) q
      | none => exact Int.le_refl _
    · rw [if_neg hm3]; exact Int.le_refl _
  have hB : gA (kd.tmod 8) i ps g q ≤ gB (kd.tmod 8) p (gA (kd.tmod 8) i ps g) q := by
    unfold gB
    split
    · exact gadd_le (by omega) q
    · split
      · exact gadd_le (by omega) q
      · exact Int.le_refl _
  rcases h with ⟨_, _, h⟩ | ⟨hm, _, h⟩ | ⟨hm, _⟩ | ⟨_, _, rfl⟩ | ⟨_, _, rfl⟩ | ⟨h2, h3, _, h5, h6, h⟩
  · have : ps'.count q ≤ ps.count q := by
      rcases h with ⟨rfl, rfl⟩ | ⟨k, _, hk, rfl⟩
      · exact Nat.le_refl _
      · exact (List.eraseIdx_sublist ps k).count_le q
    omega
  · rcases h with rfl | ⟨k, q0, hk, hq0, hlt, rfl⟩
    · omega
    · have hl : lookP ps i = some q0 := by
        unfold lookP; rw [hk]; simpa using hq0
      have e : gA (kd.tmod 8) i ps g q = gadd g q0 1 q := by
        unfold gA; rw [if_pos hm, hl]
      rw [List.count_append, List.count_singleton]
      by_cases hqq : q = q0
      · subst hqq
        rw [gadd_self] at e
        simp
        omega
      · have : (q0 == q) = false := by simpa using fun e => hqq e.symm
        simp [this]
        omega
  · exact absurd hm h4
  · simp only [List.count_nil]
    omega
  · omega
  · have hc := putN_count (p := p) (q := q) (if kd.tmod 8 = 7 then 60 else 1) (ps := ps) (lost := lost)
    rw [← h] at hc
    simp only at hc
    have hmr : kd.tmod 8 = kd % 8 := Int.tmod_eq_emod_of_nonneg hk
    have hm0 := Int.emod_nonneg kd (show (8 : Int) ≠ 0 by omega)
    have hm8 := Int.emod_lt_of_pos kd (show (0 : Int) < 8 by omega)
    by_cases h7 : kd.tmod 8 = 7
    · rw [if_pos h7] at hc
      have e : gB (kd.tmod 8) p (gA (kd.tmod 8) i ps g) q = gadd (gA (kd.tmod 8) i ps g) p 60 q := by
        unfold gB; rw [if_neg (by omega), if_pos h7]
      rw [e]
      unfold gadd
      by_cases hq : q = p
      · rw [if_pos hq] at hc ⊢; rw [hq] at hA; rw [hq] at hc hgq ⊢; omega
      · rw [if_neg hq] at hc ⊢; omega
    · rw [if_neg h7] at hc
      have e : gB (kd.tmod 8) p (gA (kd.tmod 8) i ps g) q = gadd (gA (kd.tmod 8) i ps g) p 1 q := by
        unfold gB; rw [if_pos (by omega)]
      rw [e]
      unfold gadd
      by_cases hq : q = p
      · rw [if_pos hq] at hc ⊢; rw [hq] at hA; rw [hq] at hc hgq ⊢; omega
      · rw [if_neg hq] at hc ⊢; omega

theorem gAB_bound {m i B : Int} {p : List UInt8} {ps : List (List UInt8)} {g : List UInt8 → Int} (hg : ∀ q, 0 ≤ g q ∧ g q ≤ B) : (∀ q, 0 ≤ gA m i ps g q ∧ gA m i ps g q ≤ B + 1) ∧ ∀ q, 0 ≤ gB m p (gA m i ps g) q ∧ gB m p (gA m i ps g) q ≤ B + 61 := by
  have h1 : ∀ q, 0 ≤ gA m i ps g q ∧ gA m i ps g q ≤ B + 1 := by
    intro q
    have := hg q
    unfold gA
    by_cases hm3 : m = 3
    · rw [if_pos hm3]
      cases lookP ps i with
      | some x =>
        have := hg x
        simp only [gadd]; split <;> omega
      | none =>
        show 0 ≤ g q ∧ g q ≤ B + 1
        omega
    · rw [if_neg hm3]; omega
  refine ⟨h1, fun q => ?_⟩
  have := h1 q
  have := h1 p
  unfold gB
  split
  · unfold gadd; split <;> omega
  · split
    · unfold gadd; split <;> omega
    · omega

/-- What is doubled may be there once more. -/
theorem hon1 {is : Bool} {i7 im clk : Nat} {v41 l0 l1 l2 l3 l4 l5 l6 : Value} {kd i B : Int} {as_ : List Value} {es : List (Value × Value × Nat)} {g : List UInt8 → Int} {ps : List (List UInt8)} {H2 : Heap}
    (h7 : H2[i7]? = some (.cells (.int .u8 kd :: as_) 1 false false)) (hm : H2[im]? = some (.map es clk)) (hg : MapR es g) (hgb : ∀ q, 0 ≤ g q ∧ g q ≤ B) (hB : B ≤ 1000000) (his : is = (lookP ps i).isSome) (hv : ∀ q, lookP ps i = some q → Sl H2 v41 (u8s q)) :
    ∃ H3 es1 clk1, (∀ K : List Value → M Out, bind (gate (.bool is) true 4 (bind (fa 0 (pt i7)) fun a => bind (ld1 a) fun b => bind (bop .int .rem b (.int .u8 8)) fun c => bind (bop .int .eql c (.int .u8 3)) fun d => ret [a, b, c, d]))
        (fun vs_31 => bind (pick (.bool is) (vs_31.tail.tail.tail.headD undef) (.bool false)) fun v49 =>
          jn (cnd v49 (bind (b2s v41) fun s => bind (lkp .str (.int .i64 0) false (.map (some im)) s) fun x => bind (bop .int .add x (.int .i64 1)) fun y => bind (mup .str (.map (some im)) s y) fun _ => ret (.nrm [l0, l1, l2, l3, l4, l5, l6])) (ret (.nrm [l0, l1, l2, l3, l4, l5, l6]))) K (fun _ _ => fail) (fun w => ret (.ret w))) H2 = K [l0, l1, l2, l3, l4, l5, l6] H3) ∧
      H3[im]? = some (.map es1 clk1) ∧ MapR es1 (gA (kd.tmod 8) i ps g) ∧ (∀ x, x ≠ im → H3[x]? = H2[x]?) ∧ H3.length = H2.length := by
  have h8 : ¬ ((8 : Int) = 0) := by omega
  have l7 : ld1 (pa i7 0) H2 = some (.int .u8 kd, H2) := ld1_at h7 rfl
  cases hl : lookP ps i with
  | none =>
    rw [hl] at his
    subst his
    refine ⟨H2, es, clk, ?_, hm, ?_, fun _ _ => rfl, rfl⟩
    · intro K
      rw [show (none : Option (List UInt8)).isSome = false from rfl, bind_eq (g_r.trans (if_neg (by decide))), bind_eq pick_r, cond_false, c_false, jn_nrm ret_r]
    · unfold gA; rw [hl]; simp only [ite_self]; exact hg
  | some pk =>
    rw [hl] at his
    subst his
    have hb := b2s_sl (hv pk hl)
    by_cases h3 : kd.tmod 8 = 3
    · obtain ⟨H3, es1, clk1, e1, e2, e3, e4, e5⟩ := hg.inc hm pk 1
      have hw : IntKind.i64.wrap (g pk + 1) = g pk + 1 := by have := hgb pk; exact w64 (by omega) (by omega)
      have hgate : (gate (Value.bool true) true 4 (bind (fa 0 (pt i7)) fun a => bind (ld1 a) fun b => bind (bop .int .rem b (.int .u8 8)) fun c => bind (bop .int .eql c (.int .u8 3)) fun d => ret [a, b, c, d])) H2 = some ([pa i7 0, .int .u8 kd, .int .u8 (kd.tmod 8), .bool true], H2) := by
        rw [g_r, if_pos rfl, bind_eq fa_z, bind_eq l7, bind_eq (rem_r.trans (if_neg h8)), bind_eq eql_r, h3]; rfl
      refine ⟨H3, es1, clk1, ?_, e2, ?_, e4, e5⟩
      · intro K
        rw [show (some pk).isSome = true from rfl, bind_eq hgate, bind_eq pick_r]
        simp only [cond_true, List.tail_cons, List.headD_cons]
        rw [c_true, jn_nrm (vs := [l0, l1, l2, l3, l4, l5, l6]) (H' := H3)]
        rw [bind_eq hb, bind_eq (hg.look hm pk), bind_eq add_r, hw, bind_eq e1]
        rfl
      · unfold gA; rw [if_pos h3, hl]; exact e3
    · have hgate : (gate (Value.bool true) true 4 (bind (fa 0 (pt i7)) fun a => bind (ld1 a) fun b => bind (bop .int .rem b (.int .u8 8)) fun c => bind (bop .int .eql c (.int .u8 3)) fun d => ret [a, b, c, d])) H2 = some ([pa i7 0, .int .u8 kd, .int .u8 (kd.tmod 8), .bool false], H2) := by
        rw [g_r, if_pos rfl, bind_eq fa_z, bind_eq l7, bind_eq (rem_r.trans (if_neg h8)), bind_eq eql_r, beq_eq_false_iff_ne.2 h3]; rfl
      refine ⟨H2, es, clk, ?_, hm, ?_, fun _ _ => rfl, rfl⟩
      · intro K
        rw [show (some pk).isSome = true from rfl, bind_eq hgate, bind_eq pick_r]
        simp only [cond_true, List.tail_cons, List.headD_cons]
        rw [c_false, jn_nrm ret_r]
      · unfold gA; rw [if_neg h3]; exact hg

/-- What is put may be there. -/
theorem hon2 {i7 im clk : Nat} {b l0 l1 l2 l3 l4 l5 l6 : Value} {kd B : Int} {p : List UInt8} {as_ : List Value} {es : List (Value × Value × Nat)} {g : List UInt8 → Int} {H2 : Heap}
    (h7 : H2[i7]? = some (.cells (.int .u8 kd :: b :: as_) 1 false false)) (hm : H2[im]? = some (.map es clk)) (hg : MapR es g) (hgb : ∀ q, 0 ≤ g q ∧ g q ≤ B) (hB : B ≤ 1000000) (hv : Sl H2 b (u8s p)) :
    ∃ H3 es1 clk1, (∀ K : List Value → M Out, bind (fa 0 (pt i7)) (fun a => bind (ld1 a) fun c => bind (bop .int .rem c (.int .u8 8)) fun v57 => bind (bop .int .lss v57 (.int .u8 2)) fun v59 =>
        jn (cnd v59
          (bind (fa 1 (pt i7)) fun a => bind (ld1 a) fun c => bind (b2s c) fun s => bind (lkp .str (.int .i64 0) false (.map (some im)) s) fun x => bind (bop .int .add x (.int .i64 1)) fun y => bind (mup .str (.map (some im)) s y) fun _ => ret (.nrm [l0, l1, l2, l3, l4, l5, l6]))
          (bind (bop .int .eql v57 (.int .u8 7)) fun v67 =>
            jn (cnd v67
              (bind (fa 1 (pt i7)) fun a => bind (ld1 a) fun c => bind (b2s c) fun s => bind (lkp .str (.int .i64 0) false (.map (some im)) s) fun x => bind (bop .int .add x (.int .i64 60)) fun y => bind (mup .str (.map (some im)) s y) fun _ => ret (.nrm [l0, l1, l2, l3, l4, l5, l6]))
              (ret (.nrm [l0, l1, l2, l3, l4, l5, l6])))
              (fun vs_52 => ret (.nrm [(vs_52.headD undef), (vs_52.tail.headD undef), (vs_52.tail.tail.headD undef), (vs_52.tail.tail.tail.headD undef), (vs_52.tail.tail.tail.tail.headD undef), (vs_52.tail.tail.tail.tail.tail.headD undef), (vs_52.tail.tail.tail.tail.tail.tail.headD undef)])) (fun _ _ => fail) (fun w => ret (.ret w))))
          K (fun _ _ => fail) (fun w => ret (.ret w))) H2 = K [l0, l1, l2, l3, l4, l5, l6] H3) ∧
      H3[im]? = some (.map es1 clk1) ∧ MapR es1 (gB (kd.tmod 8) p g) ∧ (∀ x, x ≠ im → H3[x]? = H2[x]?) ∧ H3.length = H2.length := by
  have h8 : ¬ ((8 : Int) = 0) := by omega
  have l7 : ld1 (pa i7 0) H2 = some (.int .u8 kd, H2) := ld1_at h7 rfl
  have l8 : ld1 (pa i7 1) H2 = some (b, H2) := ld1_at h7 rfl
  have hb := b2s_sl hv
  have hgp := hgb p
  by_cases h2 : kd.tmod 8 < 2
  · obtain ⟨H3, es1, clk1, e1, e2, e3, e4, e5⟩ := hg.inc hm p 1
    have hw : IntKind.i64.wrap (g p + 1) = g p + 1 := w64 (by omega) (by omega)
    refine ⟨H3, es1, clk1, ?_, e2, ?_, e4, e5⟩
    · intro K
      rw [bind_eq fa_z, bind_eq l7, bind_eq (rem_r.trans (if_neg h8)), bind_eq lss_r, decide_eq_true h2, c_true, jn_nrm (vs := [l0, l1, l2, l3, l4, l5, l6]) (H' := H3)]
      rw [bind_eq fa_z, bind_eq l8, bind_eq hb, bind_eq (hg.look hm p), bind_eq add_r, hw, bind_eq e1]
      rfl
    · unfold gB; rw [if_pos h2]; exact e3
  · by_cases h7' : kd.tmod 8 = 7
    · obtain ⟨H3, es1, clk1, e1, e2, e3, e4, e5⟩ := hg.inc hm p 60
      have hw : IntKind.i64.wrap (g p + 60) = g p + 60 := w64 (by omega) (by omega)
      refine ⟨H3, es1, clk1, ?_, e2, ?_, e4, e5⟩
      · intro K
        rw [bind_eq fa_z, bind_eq l7, bind_eq (rem_r.trans (if_neg h8)), bind_eq lss_r, decide_eq_false h2, c_false, jn_nrm (vs := [l0, l1, l2, l3, l4, l5, l6]) (H' := H3)]
        rw [bind_eq eql_r, show (kd.tmod 8 == 7) = true from by simp [h7'], c_true, jn_nrm (vs := [l0, l1, l2, l3, l4, l5, l6]) (H' := H3)]
        · rfl
        · rw [bind_eq fa_z, bind_eq l8, bind_eq hb, bind_eq (hg.look hm p), bind_eq add_r, hw, bind_eq e1]
          rfl
      · unfold gB; rw [if_neg h2, if_pos h7']; exact e3
    · refine ⟨H2, es, clk, ?_, hm, ?_, fun _ _ => rfl, rfl⟩
      · intro K
        rw [bind_eq fa_z, bind_eq l7, bind_eq (rem_r.trans (if_neg h8)), bind_eq lss_r, decide_eq_false h2, c_false, jn_nrm (vs := [l0, l1, l2, l3, l4, l5, l6]) (H' := H2)]
        rw [bind_eq eql_r, beq_eq_false_iff_ne.2 h7', c_false, jn_nrm ret_r]
        rfl
      · unfold gB; rw [if_neg h2, if_neg h7']; exact hg

/-- No packet is there more often than it may be. -/
theorem honest_look {m id im ih clk : Nat} {s5 s25 s26 s27 : Value} {ps : List (List UInt8)} {lost : Int} {own : List Nat} {es : List (Value × Value × Nat)} {g : List UInt8 → Int} (hl : ps.length ≤ 128) (hq : ∀ q ∈ ps, q.length ≤ 100) (hg : MapR es g) (hc : ∀ q, (ps.count q : Int) ≤ g q) (hne : im ≠ ih) (hio : ih ∉ own) :
    ∀ (d i : Nat) {esh : List (Value × Value × Nat)} {clkh : Nat} {H : Heap}, ps.length - i = d → i ≤ ps.length → Net H id ps lost own → H[im]? = some (.map es clk) → H[ih]? = some (.map esh clkh) → MapR esh (fun q => ((ps.take i).count q : Int)) →
    ∃ H', loopM (fun vs => F_law30NetHonest.l2 (R (m + 2)) (vs.headD undef) (vs.tail.headD undef) (vs.tail.tail.headD undef) (vs.tail.tail.tail.headD undef) (vs.tail.tail.tail.tail.headD undef) (vs.tail.tail.tail.tail.tail.headD undef) (vs.tail.tail.tail.tail.tail.tail.headD undef) (vs.tail.tail.tail.tail.tail.tail.tail.headD undef) (vs.tail.tail.tail.tail.tail.tail.tail.tail.headD undef))
      [pt id, .map (some im), s5, .map (some ih), s25, s26, s27, .int .u64 ps.length, .int .u64 i] H = some (.ext 2 [pt id, .map (some im), s5, s25, s26, s27], H') ∧ H.length ≤ H'.length ∧ ∀ x, x < H.length → x ≠ ih → H'[x]? = H[x]?
  | 0, i, esh, clkh, H, hd, hi, net, h1, h2, h3 => by
    have : i = ps.length := by omega
    subst this
    refine ⟨H, loop_ext ?_, Nat.le_refl _, fun _ _ _ => rfl⟩
    simp [F_law30NetHonest.l2, ↓bind_andk, andk_some, ↓jn_outk, outk_nrm, outk_ext, outk_ret, ↓cnd_b, ret_r, nilc_r, fa_r, ldOne_r, ldA_r, stOne_r, stA_r, rdk_r, rdkA_r, wrk_r, wrkA_r, alc_r, lenS_r, lenT_r, cvi_r, pick_r, not_r, mx_r, mn_r, ixa_r, ixaA_r, bld_r, add_r, sub_r, mul_r, quo_r, rem_r, eql_r, neq_r, lss_r, leq_r, gtr_r, geq_r, eqb_r, neb_r, eqp_r, nep_r, ↓gv_r, gvn_r, ↓g_r, gn_r]
  | d + 1, i, esh, clkh, H, hd, hi, net, h1, h2, h3 => by
    have hip : i < ps.length := by omega
    have hpk := List.getElem?_eq_getElem hip
    have hpq := hq _ (List.getElem_mem hip)
    generalize ps[i] = pk at *
    have hk : plc ps (i : Int) = i := by
      unfold plc
      rw [if_neg (by omega)]
      exact Int.emod_eq_of_lt (by omega) (by omega)
    have hlt : (i : Int) < ps.length := by omega
    have hw : IntKind.u64.wrap ((i : Int) + 1) = ((i + 1 : Nat) : Int) := by rw [wu64]; omega
    obtain ⟨v, q, H1, e1, r1, k1, q1⟩ := r_look (n := m) net (i := i) (by omega) (by omega) hk hpk (by omega)
    have b1 := b2s_sl r1.rd
    have htk : ps.take (i + 1) = ps.take i ++ [pk] := by rw [List.take_add_one, hpk]; rfl
    have hcnt : ∀ x, (ps.take (i + 1)).count x ≤ ps.count x := fun x => (List.take_sublist _ _).count_le x
    have hself : ((ps.take (i + 1)).count pk : Int) = ((ps.take i).count pk : Int) + 1 := by
      rw [htk, List.count_append, List.count_singleton]; simp
    have hle := hc pk
    have hcl : ps.count pk ≤ ps.length := List.count_le_length
    have hcs := hcnt pk
    have hh := h3.look (k1 _ _ h2) pk
    obtain ⟨H2, es2, clk2, e2, g2, m2, q2, l2⟩ := h3.inc (k1 _ _ h2) pk 1
    have hfun : gadd (fun q => ((ps.take i).count q : Int)) pk 1 = fun q => ((ps.take (i + 1)).count q : Int) := by
      funext x
      unfold gadd
      by_cases hx : x = pk
      · rw [if_pos hx, hx]; exact hself.symm
      · rw [if_neg hx, htk, List.count_append, List.count_singleton]
        have : (pk == x) = false := by simpa using fun e => hx e.symm
        simp [this]
    rw [hfun] at m2
    have hw2 : IntKind.i64.wrap (((ps.take i).count pk : Int) + 1) = ((ps.take i).count pk : Int) + 1 := w64 (by omega) (by omega)
    have g1' : H2[im]? = some (.map es clk) := by rw [q2 im hne]; exact k1 _ _ h1
    have ihl := get_lt h2
    have b2 := b2s_sl (r1.keep (H' := H2) fun x hx => q2 x (by have := q1 x hx; omega)).rd
    have hh2 := m2.look g2 pk
    have hm2 := hg.look g1' pk
    have hgt : ¬ (((ps.take (i + 1)).count pk : Nat) : Int) > g pk := by omega
    have net2 : Net H2 id ps lost own := (net.step k1.step (by simp)).keep fun x hx => q2 x (fun e => hio (e ▸ hx))
    obtain ⟨H3, e3, l3, q3⟩ := honest_look (m := m) (s5 := s5) (s25 := s25) (s26 := s26) (s27 := s27) hl hq hg hc hne hio d (i + 1) (by omega) (by omega) net2 g1' g2 m2
    refine ⟨H3, (loop_next ?_).trans e3, by have := k1.len; omega, fun x hx hxn => ?_⟩
    · simp only [List.headD_cons, List.tail_cons]
      unfold F_law30NetHonest.l2
      rw [bind_eq lss_r, decide_eq_true hlt, c_true, bind_eq e1, bind_eq extr_p0, bind_eq extr_p1, bind_eq b1, bind_eq hh, bind_eq add_r, hw2, bind_eq e2, bind_eq b2, bind_eq hh2, bind_eq b2, bind_eq hm2, bind_eq gtr_r, decide_eq_false hgt, c_false, bind_eq add_r, hw]
      rfl
    · rw [q3 x (by have := k1.len; omega) hxn, q2 x hxn, List.getElem?_eq_getElem hx]
      exact k1 _ _ (List.getElem?_eq_getElem hx)

end Go.Proofs.Ytkjoaediojdodaa.A
