/- A fuse lets just so many writes and flushes come about. -/
import Derived.Test.YtahocinoohdagaaBlkLives
namespace Go.Proofs.Ytahocinoohdagaa.A
set_option linter.unusedVariables false
set_option linter.unusedSimpArgs false
open Go.Proofs Go.Proofs.Ytahocinoohdagaa

/-- What holds ahead of step i. -/
structure FInv (A : Int) (i : Nat) (d : DevS) : Prop where
  ok : d.Ok
  k4 : d.kept.length = 4
  few : d.wait.length ≤ i
  lo : (i : Int) ≤ max 0 A → d.down = false ∧ d.fuse = max 0 A - i
  hi : ¬ (i : Int) ≤ max 0 A → d.down = true ∧ d.fuse = -1

theorem keep_wlen (d : DevS) (is : Nat → Bool) : (d.keep is).wait.length = 0 := rfl

theorem finv_flush {A : Int} {i : Nat} {d : DevS} (h : FInv A i d) : FInv A (i + 1) d.flush.1 ∧ d.flush.2 = (if (i : Int) < A then 0 else 15) ∧ d.flush.1.down = decide ((i : Int) ≥ A) := by
  have hok := h.ok.flush
  have hk : d.flush.1.kept.length = 4 := by
    unfold DevS.flush
    split
    · exact h.k4
    · split
      · simp only [DevS.keep, kp_len]; rw [burn_klen]; exact h.k4
      · rw [burn_klen]; exact h.k4
  by_cases h1 : (i : Int) ≤ max 0 A
  · obtain ⟨h2, h3⟩ := h.lo h1
    by_cases h4 : (i : Int) < A
    · have hf : ¬ d.fuse < 0 := by omega
      have hf2 : 0 < d.fuse := by omega
      have hb : d.burn = ({ d with fuse := d.fuse - 1 }, 0) := by unfold DevS.burn; rw [if_neg hf, if_pos hf2]
      have hfl : d.flush = (({ d with fuse := d.fuse - 1 } : DevS).keep (fun _ => true), 0) := by unfold DevS.flush; rw [hb]; simp [h2]
      rw [hfl] at hok hk ⊢
      refine ⟨⟨hok, hk, Nat.zero_le _, fun _ => ⟨h2, ?_⟩, fun hn => by omega⟩, by rw [if_pos h4], ?_⟩
      · show d.fuse - 1 = _
        omega
      · show d.down = _
        rw [h2]; simp; omega
    · have hf : ¬ d.fuse < 0 := by omega
      have hf2 : ¬ 0 < d.fuse := by omega
      have hb : d.burn = (d.cut d.mask, 15) := by unfold DevS.burn; rw [if_neg hf, if_neg hf2]
      have hfl : d.flush = (d.cut d.mask, 15) := by unfold DevS.flush; rw [h2, hb]; rfl
      have hc : d.cut d.mask = { d.keep (cbit d.mask) with down := true, fuse := -1 } := by unfold DevS.cut; rw [h2]; rfl
      rw [hfl] at hok hk ⊢
      rw [hc] at hok hk ⊢
      refine ⟨⟨hok, hk, Nat.zero_le _, fun hn => by omega, fun _ => ⟨rfl, rfl⟩⟩, by rw [if_neg h4], ?_⟩
      show true = _
      simp; omega
  · obtain ⟨h2, h3⟩ := h.hi h1
    have hfl : d.flush = (d, 15) := by unfold DevS.flush; rw [h2]; rfl
    rw [hfl] at hok hk ⊢
    refine ⟨⟨hok, hk, by have := h.few; show d.wait.length ≤ _; omega, fun hn => by omega, fun _ => ⟨h2, h3⟩⟩, by rw [if_neg (by omega)], ?_⟩
    show d.down = _
    rw [h2]; simp; omega

theorem finv_write {A : Int} {i : Nat} {d : DevS} {b : List UInt8} {x : Int} (h : FInv A i d) (hi : i ≤ 60) (hb1 : b.length ≤ 128) (hx : 0 ≤ x ∧ x < 4) : FInv A (i + 1) (d.write x b).1 ∧ (d.write x b).2 = (if (i : Int) < A then 0 else 15) ∧ (d.write x b).1.down = decide ((i : Int) ≥ A) := by
  have hfew := h.few
  have hok := h.ok.write (i := x) (b := b) (by omega)
  have hk : (d.write x b).1.kept.length = 4 := by
    unfold DevS.write
    split
    · split
      · exact h.k4
      · split
        · show d.burn.1.kept.length = 4
          rw [burn_klen]; exact h.k4
        · rw [burn_klen]; exact h.k4
    · exact h.k4
  have hb1' : ¬ b.length > 128 := by omega
  by_cases h1 : (i : Int) ≤ max 0 A
  · obtain ⟨h2, h3⟩ := h.lo h1
    have ht : d.there x = 0 := by unfold DevS.there; rw [h2, h.k4]; simp; omega
    by_cases h4 : (i : Int) < A
    · have hf : ¬ d.fuse < 0 := by omega
      have hf2 : 0 < d.fuse := by omega
      have hb : d.burn = ({ d with fuse := d.fuse - 1 }, 0) := by unfold DevS.burn; rw [if_neg hf, if_pos hf2]
      have hfl : d.write x b = ({ ({ d with fuse := d.fuse - 1 } : DevS) with wait := d.wait ++ [(x.toNat, pad b)] }, 0) := by unfold DevS.write; rw [if_pos ht, if_neg hb1', hb]; rfl
      rw [hfl] at hok hk ⊢
      refine ⟨⟨hok, hk, ?_, fun _ => ⟨h2, ?_⟩, fun hn => by omega⟩, by rw [if_pos h4], ?_⟩
      · show (d.wait ++ [(x.toNat, pad b)]).length ≤ _
        rw [List.length_append, List.length_singleton]; omega
      · show d.fuse - 1 = _
        omega
      · show d.down = _
        rw [h2]; simp; omega
    · have hf : ¬ d.fuse < 0 := by omega
      have hf2 : ¬ 0 < d.fuse := by omega
      have hb : d.burn = (d.cut d.mask, 15) := by unfold DevS.burn; rw [if_neg hf, if_neg hf2]
      have hfl : d.write x b = (d.cut d.mask, 15) := by unfold DevS.write; rw [if_pos ht, if_neg hb1', hb]; rfl
      have hc : d.cut d.mask = { d.keep (cbit d.mask) with down := true, fuse := -1 } := by unfold DevS.cut; rw [h2]; rfl
      rw [hfl] at hok hk ⊢
      rw [hc] at hok hk ⊢
      refine ⟨⟨hok, hk, Nat.zero_le _, fun hn => by omega, fun _ => ⟨rfl, rfl⟩⟩, by rw [if_neg h4], ?_⟩
      show true = _
      simp; omega
  · obtain ⟨h2, h3⟩ := h.hi h1
    have ht : d.there x = 15 := by unfold DevS.there; rw [h2]; rfl
    have hfl : d.write x b = (d, 15) := by unfold DevS.write; rw [ht]; rfl
    rw [hfl] at hok hk ⊢
    refine ⟨⟨hok, hk, by show d.wait.length ≤ _; omega, fun hn => by omega, fun _ => ⟨h2, h3⟩⟩, by rw [if_neg (by omega)], ?_⟩
    show d.down = _
    rw [h2]; simp; omega

theorem FInv.fuse {A : Int} {i : Nat} {d : DevS} (h : FInv A i d) (hA : A ≤ 9223372036854775807) : d.fuse ≤ 9223372036854775807 := by
  by_cases h1 : (i : Int) ≤ max 0 A
  · have := (h.lo h1).2; omega
  · have := (h.hi h1).2; omega

/-- A row of bools, as an argument. -/
theorem rd_bools {x : (Ty.slc .bool).den} {H : Heap} {v : Value} (hwf : (Ty.slc .bool).wf x) (h : Rd (.slc .bool) x H [v]) : ∃ bs : List Bool, Sl H v (bs.map .bool) := by
  obtain ⟨vs, h1, h2⟩ := rd_row rfl hwf h
  have : ∀ u ∈ vs, ∃ b : Bool, u = .bool b := by
    intro u hu
    obtain ⟨y, hy, hr⟩ := h2 u hu
    have hr : [u] = [Value.bool y] := hr
    exact ⟨y, by simpa using hr⟩
  obtain ⟨bs, hb1, hb2⟩ := choose_list this
  refine ⟨bs, ?_⟩
  have : bs.map Value.bool = vs := by
    apply List.ext_getElem (by simp [hb1])
    intro i h3 h4
    have hi : i < bs.length := by omega
    have := hb2 i vs[i] bs[i] (List.getElem?_eq_getElem h4) (List.getElem?_eq_getElem hi)
    rw [this]
    simp
  rw [this]; exact h1

theorem fuses_do {m id : Nat} {a : Value} {fl : List Bool} {H0 : Heap} {A : Int} (ha : Sl H0 a (fl.map .bool)) (hA : -9223372036854775808 ≤ A ∧ A ≤ 9223372036854775807) (hl : fl.length ≤ 60) :
    ∀ (k i : Nat) {own bs : List Nat} {H : Heap} {d : DevS}, fl.length - i = k → i ≤ fl.length → HLe H0 H → (∀ j ∈ own, H0.length ≤ j) → Dev H id d own bs → FInv A i d →
    ∃ H' d' own' bs', loopM (fun vs => F_law21BlockFuses.l1 (R (m + 5)) (vs.headD undef) (vs.tail.headD undef) (vs.tail.tail.headD undef) (vs.tail.tail.tail.headD undef) (vs.tail.tail.tail.tail.headD undef)) [iv A, pt id, a, iv fl.length, iv i] H = some (.ext 0 [pt id], H') ∧
      Dev H' id d' own' bs' ∧ FInv A fl.length d' ∧ (∀ j ∈ own', H0.length ≤ j) ∧ HLe H0 H'
  | 0, i, own, bs, H, d, hk, hi, hle, ho, h, hI => by
    have : i = fl.length := by omega
    subst this
    refine ⟨H, d, own, bs, loop_ext ?_, h, hI, ho, hle⟩
    simp only [F_law21BlockFuses.l1, List.headD_cons, List.tail_cons]
    rw [bind_eq lss_r, cnd_b, if_neg (by simp)]
    rfl
  | k + 1, i, own, bs, H, d, hk, hi, hle, ho, h, hI => by
    have hlt : (i : Int) < fl.length := by omega
    have w1 : IntKind.i64.wrap ((i : Int) + 1) = ((i + 1 : Nat) : Int) := by rw [w64 (by omega) (by omega)]; simp
    have hfi : fl[i]? = some (fl[i]'(by omega)) := List.getElem?_eq_getElem (by omega)
    generalize fl[i]'(by omega) = b at hfi
    have hv : (fl.map Value.bool)[i]? = some (.bool b) := by rw [List.getElem?_map, hfi]; rfl
    obtain ⟨p, g1, g2⟩ := (ha.mono hle).ld hv
    have hfew := hI.few
    -- what is done
    obtain ⟨H2, d2, own2, bs2, e2, h2, s2, I2, hd2⟩ : ∃ H2 d2 own2 bs2, (cnd (.bool b)
        (bind (R (m + 5) n_blockDeviceFlush [pt id]) fun v34x14 => ret (Out.nrm [iv A, pt id, iv i, v34x14, a, iv fl.length, iv i]))
        (bind (bop .int .rem (iv i) (Value.int .i64 4)) fun v37x15 => bind (cvi .u8 (iv i)) fun v39x16 => bind (bsl 1 1 (.int .u8 0) [(0, 1, v39x16)]) fun v40x17 =>
          bind (R (m + 5) n_blockDeviceWrite [pt id, v37x15, v40x17]) fun v41x18 => ret (Out.nrm [iv A, pt id, iv i, v41x18, a, iv fl.length, iv i]))) H =
        some (Out.nrm [iv A, pt id, iv i, iv (if (i : Int) < A then 0 else 15), a, iv fl.length, iv i], H2) ∧ Dev H2 id d2 own2 bs2 ∧ Step own H own2 H2 ∧ FInv A (i + 1) d2 ∧ d2.down = decide ((i : Int) ≥ A) := by
      cases b
      · obtain ⟨v, H1, H2, own2, bs2, c1, c2, c3, c4, c5, _⟩ := write1 (n := m) hI.ok h (hI.fuse hA.2) (by omega) ((i % 4 : Nat) : Int) (UInt8.ofNat i)
        obtain ⟨f1, f2, f3⟩ := finv_write (b := [UInt8.ofNat i]) (x := ((i % 4 : Nat) : Int)) hI (by omega) (by simp) (by omega)
        refine ⟨H2, _, own2, bs2, ?_, c4, c5, f1, f3⟩
        have hr : (i : Int).tmod 4 = ((i % 4 : Nat) : Int) := by rw [Int.tmod_eq_emod_of_nonneg (by omega)]; omega
        have hc : IntKind.u8.wrap (i : Int) = ((UInt8.ofNat i).toNat : Int) := by rw [wu8, UInt8.toNat_ofNat']; omega
        rw [cnd_b, if_neg (by simp), bind_eq (rem_r.trans (if_neg (by omega))), hr, bind_eq cvi_r, hc, bind_eq c1, bind_eq c3, f2]
        rfl
      · obtain ⟨H2, own2, c1, c2, c3⟩ := r_flush (n := m) hI.ok h (hI.fuse hA.2)
        obtain ⟨f1, f2, f3⟩ := finv_flush hI
        refine ⟨H2, _, own2, bs, ?_, c2, c3, f1, f3⟩
        rw [cnd_b, if_pos rfl, bind_eq c1, f2]
        rfl
    obtain ⟨k2, ho2⟩ := hle.more s2 ho
    have e3 := r_down (n := m + 4) h2
    obtain ⟨H3, d3, own3, bs3, e4, r4⟩ := fuses_do (m := m) ha hA hl k (i + 1) (by omega) (by omega) k2 ho2 h2 I2
    refine ⟨H3, d3, own3, bs3, ?_, r4⟩
    have hr : F_law21BlockFuses.l1 (R (m + 5)) (iv A) (pt id) a (iv fl.length) (iv i) H = some (.nrm [iv A, pt id, a, iv fl.length, iv ((i + 1 : Nat) : Int)], H2) := by
      unfold F_law21BlockFuses.l1
      rw [bind_eq lss_r, cnd_b, if_pos (by simpa using hlt), bind_eq (g1 H), bind_eq g2]
      refine (jn_nrm e2).trans ?_
      simp only [List.headD_cons, List.tail_cons]
      by_cases hiA : (i : Int) < A
      · have hge : ¬ ((i : Int) ≥ A) := by omega
        rw [decide_eq_false hge] at hd2
        rw [hd2] at e3
        simp only [if_pos hiA, ↓bind_andk, andk_some, ↓jn_outk, outk_nrm, outk_ext, outk_ret, ↓cnd_b, ret_r, nilc_r, fa_r, ldOne_r, ldA_r, stOne_r, stA_r, rdk_r, rdkA_r, wrk_r, wrkA_r, alc_r, lenS_r, lenT_r, cvi_r, pick_r, not_r, mx_r, mn_r, ixa_r, ixaA_r, bld_r, add_r, sub_r, mul_r, quo_r, rem_r, eql_r, neq_r, lss_r, leq_r, gtr_r, geq_r, eqb_r, neb_r, eqp_r, nep_r, ↓gv_r, gvn_r, ↓g_r, gn_r, Bool.not_true, Bool.not_false, Bool.false_eq_true, Bool.true_eq_false, reduceIte, List.tail_cons, List.headD_cons, decide_true, decide_false, cond_true, cond_false, Nat.beq_refl, List.headD_cons, List.tail_cons, beq_self_eq_true, decide_eq_true hiA, bne_self_eq_false, e3, decide_eq_false hge, w1]
      · have hge : ((i : Int) ≥ A) := by omega
        rw [decide_eq_true hge] at hd2
        rw [hd2] at e3
        have z1 : ((15 : Int) == 0) = false := by decide
        have z2 : ((15 : Int) != 0) = true := by decide
        simp only [if_neg hiA, ↓bind_andk, andk_some, ↓jn_outk, outk_nrm, outk_ext, outk_ret, ↓cnd_b, ret_r, nilc_r, fa_r, ldOne_r, ldA_r, stOne_r, stA_r, rdk_r, rdkA_r, wrk_r, wrkA_r, alc_r, lenS_r, lenT_r, cvi_r, pick_r, not_r, mx_r, mn_r, ixa_r, ixaA_r, bld_r, add_r, sub_r, mul_r, quo_r, rem_r, eql_r, neq_r, lss_r, leq_r, gtr_r, geq_r, eqb_r, neb_r, eqp_r, nep_r, ↓gv_r, gvn_r, ↓g_r, gn_r, Bool.not_true, Bool.not_false, Bool.false_eq_true, Bool.true_eq_false, reduceIte, List.tail_cons, List.headD_cons, decide_true, decide_false, cond_true, cond_false, Nat.beq_refl, List.headD_cons, List.tail_cons, beq_self_eq_true, decide_eq_false hiA, bne_self_eq_false, e3, decide_eq_true hge, w1, z1, z2]
    exact (loop_next (by simp only [List.headD_cons, List.tail_cons]; exact hr)).trans e4

theorem fuses_core (A : Int) (m : Nat) {a : Value} {fl : List Bool} {H : Heap} (hA : -9223372036854775808 ≤ A ∧ A ≤ 9223372036854775807) (ha : Sl H a (fl.map .bool)) : ∃ H', R 8 n_law21BlockFuses [iv A, .int .u64 m, a] H = some (.bool true, H') := by
  have ea := fun H' => ha.len (H' := H')
  simp only [List.length_map] at ea
  obtain ⟨H1, e1, k1⟩ := r_lives (n := 1) H
  rw [R, run_law21BlockFuses rfl]
  by_cases hn : fl.length ≤ 60
  · have hng : ¬ ((fl.length : Int) > 60) := by omega
    obtain ⟨H2, own2, bs2, e2, hn2, k2, o2⟩ := r_new (n := 6) (m := 4) (by omega) H1
    obtain ⟨H3, e3, h3', s3, l3⟩ := r_arm (n := 6) hn2 A m
    have hd3 : (DevS.new (Int.toNat 4)).arm A m = { DevS.new 4 with fuse := max 0 A, mask := m } := rfl
    rw [hd3] at h3'
    have I3 : FInv A 0 { DevS.new 4 with fuse := max 0 A, mask := m } := by
      have h := new_ok (n := 4) (by omega)
      exact ⟨⟨h.idx, h.few, h.bl, h.szk, h.szw⟩, rfl, Nat.zero_le _, fun _ => ⟨rfl, by simp⟩, fun hn => absurd (by simp; omega) hn⟩
    have k02 := k1.trans k2
    have ho2 : ∀ j ∈ own2, H.length ≤ j := fun j hj => by have := o2 j (.inl hj); have := k1.len; omega
    obtain ⟨k3, ho3⟩ := k02.more s3 ho2
    obtain ⟨H4, d4, own4, bs4, e4, h4, I4, ho4, k4⟩ := fuses_do (m := 2) (H0 := H) ha hA hn fl.length 0 (by omega) (by omega) k3 ho3 h3' I3
    have e5 := r_down (n := 6) h4
    obtain ⟨H6, e6, h6, s6, l6⟩ := r_start (n := 6) h4
    have e7 := r_down (n := 6) h6
    have hds : d4.start.down = false := rfl
    rw [hds] at e7
    have z1 : (false == false) = true := rfl
    by_cases hlo : (fl.length : Int) ≤ max 0 A
    · obtain ⟨i1, i2⟩ := I4.lo hlo
      rw [i1] at e5
      refine ⟨H6, ?_⟩
      rw [show ((0 : Nat) : Int) = 0 from rfl] at e4
      unfold F_law21BlockFuses
      simp only [↓bind_andk, andk_some, ↓jn_outk, outk_nrm, outk_ext, outk_ret, ↓cnd_b, ret_r, nilc_r, fa_r, ldOne_r, ldA_r, stOne_r, stA_r, rdk_r, rdkA_r, wrk_r, wrkA_r, alc_r, lenS_r, lenT_r, cvi_r, pick_r, not_r, mx_r, mn_r, ixa_r, ixaA_r, bld_r, add_r, sub_r, mul_r, quo_r, rem_r, eql_r, neq_r, lss_r, leq_r, gtr_r, geq_r, eqb_r, neb_r, eqp_r, nep_r, ↓gv_r, gvn_r, ↓g_r, gn_r, Bool.not_true, Bool.not_false, Bool.false_eq_true, Bool.true_eq_false, reduceIte, List.tail_cons, List.headD_cons, decide_true, decide_false, cond_true, cond_false, Nat.beq_refl, e1, ea, hng, e2, e3, e4, e5, e6, e7, List.headD_cons, List.tail_cons, z1]
      rfl
    · obtain ⟨i1, i2⟩ := I4.hi hlo
      rw [i1] at e5
      have hfw := I4.few
      obtain ⟨H7, own7, bs7, e8, h7, s7, b7, _⟩ := r_write (n := 2) I4.ok.start h6 (by show d4.fuse ≤ _; omega) (by show d4.wait.length < _; omega) 0 (v := .slice none 0 0) (b := []) Sl.nil (fun j hj => by cases hj)
      have ht : d4.start.there 0 = 0 := by
        have : (0 : Int) < ((4 : Nat) : Int) := by omega
        unfold DevS.there DevS.start
        rw [I4.k4]; simp
      have hb : d4.start.burn = (d4.start, 0) := by
        unfold DevS.burn
        rw [if_pos (show d4.start.fuse < 0 by show d4.fuse < 0; omega)]
      have hw2 : (d4.start.write 0 []).2 = 0 := by unfold DevS.write; rw [if_pos ht, hb]; rfl
      have hw3 : (d4.start.write 0 []).1.down = false ∧ (d4.start.write 0 []).1.fuse = -1 := by
        unfold DevS.write
        rw [if_pos ht, hb]
        exact ⟨rfl, i2⟩
      have hok7 : (d4.start.write 0 []).1.Ok := I4.ok.start.write (by show d4.wait.length < _; omega)
      obtain ⟨H8, own8, e9, h8, s8⟩ := r_flush (n := 2) hok7 h7 (by omega)
      have hf2 : (d4.start.write 0 []).1.flush.2 = 0 := by
        have hb2 : (d4.start.write 0 []).1.burn.2 = 0 := by unfold DevS.burn; rw [if_pos (by omega)]
        unfold DevS.flush
        rw [hw3.1, if_neg (by simp), if_pos hb2]
      rw [hw2] at e8
      rw [hf2] at e9
      refine ⟨H8, ?_⟩
      rw [show ((0 : Nat) : Int) = 0 from rfl] at e4
      unfold F_law21BlockFuses
      simp only [↓bind_andk, andk_some, ↓jn_outk, outk_nrm, outk_ext, outk_ret, ↓cnd_b, ret_r, nilc_r, fa_r, ldOne_r, ldA_r, stOne_r, stA_r, rdk_r, rdkA_r, wrk_r, wrkA_r, alc_r, lenS_r, lenT_r, cvi_r, pick_r, not_r, mx_r, mn_r, ixa_r, ixaA_r, bld_r, add_r, sub_r, mul_r, quo_r, rem_r, eql_r, neq_r, lss_r, leq_r, gtr_r, geq_r, eqb_r, neb_r, eqp_r, nep_r, ↓gv_r, gvn_r, ↓g_r, gn_r, Bool.not_true, Bool.not_false, Bool.false_eq_true, Bool.true_eq_false, reduceIte, List.tail_cons, List.headD_cons, decide_true, decide_false, cond_true, cond_false, Nat.beq_refl, e1, ea, hng, e2, e3, e4, e5, e6, e7, e8, e9, List.headD_cons, List.tail_cons, z1, beq_self_eq_true]
  · have hng : ((fl.length : Int) > 60) := by omega
    obtain ⟨H2, e2, _⟩ := r_lives (n := 1) H1
    refine ⟨H2, ?_⟩
    unfold F_law21BlockFuses
    simp only [↓bind_andk, andk_some, ↓jn_outk, outk_nrm, outk_ext, outk_ret, ↓cnd_b, ret_r, nilc_r, fa_r, ldOne_r, ldA_r, stOne_r, stA_r, rdk_r, rdkA_r, wrk_r, wrkA_r, alc_r, lenS_r, lenT_r, cvi_r, pick_r, not_r, mx_r, mn_r, ixa_r, ixaA_r, bld_r, add_r, sub_r, mul_r, quo_r, rem_r, eql_r, neq_r, lss_r, leq_r, gtr_r, geq_r, eqb_r, neb_r, eqp_r, nep_r, ↓gv_r, gvn_r, ↓g_r, gn_r, Bool.not_true, Bool.not_false, Bool.false_eq_true, Bool.true_eq_false, reduceIte, List.tail_cons, List.headD_cons, decide_true, decide_false, cond_true, cond_false, Nat.beq_refl, e1, ea, hng, e2]

theorem law_BlockFuses : ∀ (xs : Ins [.int .i64, .int .u64, .slc .bool]) (H : Heap) (vs : List Value), InsWf [.int .i64, .int .u64, .slc .bool] xs → InsRd [.int .i64, .int .u64, .slc .bool] xs H vs → ∃ n H', R n n_law21BlockFuses vs H = some (.bool true, H') := by
  intro xs H vs hwf hrd
  obtain ⟨A, M, l, _⟩ := xs
  obtain ⟨hA, hM, hl, _⟩ := hwf
  obtain ⟨c1, _, rfl, hc1, h1, c2, _, rfl, hc2, h2, c3, _, rfl, hc3, h3, rfl⟩ := hrd
  have hA := wf_i64 hA
  have hM := wf_u64 hM
  obtain ⟨a, rfl⟩ : ∃ a, c3 = [a] := by
    match c3, hc3 with
    | [a], _ => exact ⟨a, rfl⟩
  have h1 : c1 = [iv A] := h1
  have h2 : c2 = [.int .u64 M] := h2
  subst h1
  subst h2
  obtain ⟨fl, ha⟩ := rd_bools hl h3
  have hM0 : (0 : Int) ≤ M := hM.1
  obtain ⟨m, hm⟩ : ∃ m : Nat, M = (m : Int) := ⟨Int.toNat M, (Int.toNat_of_nonneg hM0).symm⟩
  subst hm
  exact ⟨8, fuses_core A m hA ha⟩

end Go.Proofs.Ytahocinoohdagaa.A
