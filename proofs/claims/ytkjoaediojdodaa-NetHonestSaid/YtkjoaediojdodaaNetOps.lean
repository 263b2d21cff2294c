/- The net: packets, and what is done with them. -/
import Derived.Test.YtkjoaediojdodaaNet
namespace Go.Proofs.Ytkjoaediojdodaa.A
set_option linter.unusedVariables false
set_option linter.unusedSimpArgs false
open Go.Proofs Go.Proofs.Ytkjoaediojdodaa

/-- Rows of bytes, each with its own object. -/
def Pks (H : Heap) : List Value → List (List UInt8) → List (List Nat) → Prop
  | [], [], [] => True
  | v :: vs, p :: ps, q :: qs => RowS H v (u8s p) q ∧ Pks H vs ps qs
  | _, _, _ => False

section
variable {H H' : Heap}

theorem Pks.len : ∀ {vs : List Value} {ps : List (List UInt8)} {qs : List (List Nat)}, Pks H vs ps qs → vs.length = ps.length ∧ qs.length = ps.length
  | [], [], [], _ => ⟨rfl, rfl⟩
  | _ :: _, _ :: _, _ :: _, h => by have := h.2.len; simp [this]
  | [], [], _ :: _, h => h.elim
  | [], _ :: _, _, h => h.elim
  | _ :: _, [], _, h => h.elim
  | _ :: _, _ :: _, [], h => h.elim

theorem Pks.keep : ∀ {vs : List Value} {ps : List (List UInt8)} {qs : List (List Nat)}, Pks H vs ps qs → (∀ j ∈ qs.flatten, H'[j]? = H[j]?) → Pks H' vs ps qs
  | [], [], [], _, _ => trivial
  | _ :: _, _ :: _, _ :: _, h, hk => ⟨h.1.keep fun j hj => hk j (by simp [hj]), h.2.keep fun j hj => hk j (by simp only [List.flatten_cons, List.mem_append]; exact .inr hj)⟩
  | [], [], _ :: _, h, _ => h.elim
  | [], _ :: _, _, h, _ => h.elim
  | _ :: _, [], _, h, _ => h.elim
  | _ :: _, _ :: _, [], h, _ => h.elim

theorem Pks.lt : ∀ {vs : List Value} {ps : List (List UInt8)} {qs : List (List Nat)}, Pks H vs ps qs → ∀ j ∈ qs.flatten, j < H.length
  | [], [], [], _, j, hj => by simp at hj
  | _ :: _, _ :: _, _ :: _, h, j, hj => by
    simp only [List.flatten_cons, List.mem_append] at hj
    rcases hj with hj | hj
    · exact h.1.lt j hj
    · exact h.2.lt j hj
  | [], [], _ :: _, h, _, _ => h.elim
  | [], _ :: _, _, h, _, _ => h.elim
  | _ :: _, [], _, h, _, _ => h.elim
  | _ :: _, _ :: _, [], h, _, _ => h.elim

theorem Pks.at : ∀ {vs : List Value} {ps : List (List UInt8)} {qs : List (List Nat)} {i : Nat} {p : List UInt8}, Pks H vs ps qs → ps[i]? = some p → ∃ v q, vs[i]? = some v ∧ qs[i]? = some q ∧ RowS H v (u8s p) q
  | v :: _, p0 :: _, q :: _, 0, p, h, hp => by
    have : p0 = p := by simpa using hp
    subst this
    exact ⟨v, q, rfl, rfl, h.1⟩
  | _ :: _, _ :: _, _ :: _, i + 1, p, h, hp => by
    obtain ⟨v, q, h1, h2, h3⟩ := h.2.at (i := i) (by simpa using hp)
    exact ⟨v, q, by simpa using h1, by simpa using h2, h3⟩
  | [], [], [], _, _, _, hp => by simp at hp
  | [], [], _ :: _, _, _, h, _ => h.elim
  | [], _ :: _, _, _, _, h, _ => h.elim
  | _ :: _, [], _, _, _, h, _ => h.elim
  | _ :: _, _ :: _, [], _, _, h, _ => h.elim

theorem Pks.push : ∀ {vs : List Value} {ps : List (List UInt8)} {qs : List (List Nat)} {v : Value} {p : List UInt8} {q : List Nat}, Pks H vs ps qs → RowS H v (u8s p) q → Pks H (vs ++ [v]) (ps ++ [p]) (qs ++ [q])
  | [], [], [], _, _, _, _, h => ⟨h, trivial⟩
  | _ :: _, _ :: _, _ :: _, _, _, _, h, h' => ⟨h.1, h.2.push h'⟩
  | [], [], _ :: _, _, _, _, h, _ => h.elim
  | [], _ :: _, _, _, _, _, h, _ => h.elim
  | _ :: _, [], _, _, _, _, h, _ => h.elim
  | _ :: _, _ :: _, [], _, _, _, h, _ => h.elim

theorem Pks.erase : ∀ {vs : List Value} {ps : List (List UInt8)} {qs : List (List Nat)} (i : Nat), Pks H vs ps qs → Pks H (vs.eraseIdx i) (ps.eraseIdx i) (qs.eraseIdx i)
  | [], [], [], _, _ => trivial
  | _ :: _, _ :: _, _ :: _, 0, h => h.2
  | _ :: _, _ :: _, _ :: _, i + 1, h => ⟨h.1, h.2.erase i⟩
  | [], [], _ :: _, _, h => h.elim
  | [], _ :: _, _, _, h => h.elim
  | _ :: _, [], _, _, h => h.elim
  | _ :: _, _ :: _, [], _, h => h.elim

/-- A row is written: the others are as they were. -/
theorem Pks.set : ∀ {vs : List Value} {ps : List (List UInt8)} {qs : List (List Nat)} {i : Nat} {v : Value} {p : List UInt8} {q : List Nat}, Pks H vs ps qs → vs[i]? = some v → qs[i]? = some q → RowS H' v (u8s p) q →
    qs.flatten.Nodup → (∀ j ∈ qs.flatten, j ∉ q → H'[j]? = H[j]?) → Pks H' vs (ps.set i p) qs
  | v :: vs, p0 :: ps, q :: qs, 0, v', p, q', h, hv, hq, hr, hnd, hk => by
    have : v = v' := by simpa using hv
    subst this
    have : q = q' := by simpa using hq
    subst this
    rw [List.flatten_cons, List.nodup_append] at hnd
    refine ⟨hr, h.2.keep fun j hj => hk j (by simp only [List.flatten_cons, List.mem_append]; exact .inr hj) fun h2 => hnd.2.2 j h2 j hj rfl⟩
  | v :: vs, p0 :: ps, q :: qs, i + 1, v', p, q', h, hv, hq, hr, hnd, hk => by
    rw [List.flatten_cons, List.nodup_append] at hnd
    have hq' : qs[i]? = some q' := by simpa using hq
    refine ⟨h.1.keep fun j hj => hk j (by simp [hj]) fun h2 => hnd.2.2 j hj j (List.mem_flatten.2 ⟨q', List.mem_of_getElem? hq', h2⟩) rfl, ?_⟩
    exact h.2.set (i := i) (by simpa using hv) hq' hr hnd.2.1 fun j hj hn => hk j (by simp only [List.flatten_cons, List.mem_append]; exact .inr hj) hn
  | [], [], [], _, _, _, _, _, hv, _, _, _, _ => by simp at hv
  | [], [], _ :: _, _, _, _, _, h, _, _, _, _, _ => h.elim
  | [], _ :: _, _, _, _, _, _, h, _, _, _, _, _ => h.elim
  | _ :: _, [], _, _, _, _, _, h, _, _, _, _, _ => h.elim
  | _ :: _, _ :: _, [], _, _, _, _, h, _, _, _, _, _ => h.elim

end

/-- A net. -/
def Net (H : Heap) (id : Nat) (ps : List (List UInt8)) (lost : Int) (own : List Nat) : Prop :=
  ∃ sl vs os qs, H[id]? = some (.cells [sl, iv lost] 1 false false) ∧ RowS H sl vs os ∧ Pks H vs ps qs ∧ own = id :: (os ++ qs.flatten) ∧ own.Nodup

section
variable {H H' : Heap} {id n : Nat} {ps : List (List UInt8)} {lost : Int} {own : List Nat}

theorem Net.lt (h : Net H id ps lost own) : ∀ j ∈ own, j < H.length := by
  obtain ⟨sl, vs, os, qs, h1, h2, h3, rfl, h5⟩ := h
  intro j hj
  simp only [List.mem_cons, List.mem_append] at hj
  rcases hj with rfl | hj | hj
  · exact get_lt h1
  · exact h2.lt j hj
  · exact h3.lt j hj

theorem Net.keep (h : Net H id ps lost own) (hk : ∀ j ∈ own, H'[j]? = H[j]?) : Net H' id ps lost own := by
  obtain ⟨sl, vs, os, qs, h1, h2, h3, rfl, h5⟩ := h
  exact ⟨sl, vs, os, qs, by rw [hk id (by simp)]; exact h1, h2.keep fun j hj => hk j (by simp [hj]), h3.keep fun j hj => hk j (by simp only [List.mem_cons, List.mem_append]; exact .inr (.inr hj)), rfl, h5⟩

theorem Net.step {o1 o2 : List Nat} (h : Net H id ps lost own) (hs : Step o1 H o2 H') (hn : ∀ j ∈ own, j ∉ o1) : Net H' id ps lost own :=
  h.keep fun j hj => hs.keep j (h.lt j hj) (hn j hj)

theorem r_netNew (n : Nat) (H : Heap) : R (n + 1) n_netNew [] H = some (pt H.length, H ++ [.cells [.slice none 0 0, iv 0] 1 false false]) := by
  rw [R, run_netNew rfl]
  simp [F_netNew, ↓bind_andk, andk_some, ↓jn_outk, outk_nrm, outk_ext, outk_ret, ↓cnd_b, ret_r, nilc_r, fa_r, ldOne_r, ldA_r, stOne_r, stA_r, rdk_r, rdkA_r, wrk_r, wrkA_r, alc_r, lenS_r, lenT_r, cvi_r, pick_r, not_r, mx_r, mn_r, ixa_r, ixaA_r, bld_r, add_r, sub_r, mul_r, quo_r, rem_r, eql_r, neq_r, lss_r, leq_r, gtr_r, geq_r, eqb_r, neb_r, eqp_r, nep_r, ↓gv_r, gvn_r, ↓g_r, gn_r, bldC, Value.cells, oneCell]

theorem net_new (H : Heap) : Net (H ++ [.cells [.slice none 0 0, iv 0] 1 false false]) H.length [] 0 [H.length] :=
  ⟨.slice none 0 0, [], [], [], app_new, RowS.nil, trivial, rfl, by simp⟩

theorem r_netLen (h : Net H id ps lost own) : R (n + 1) n_netNetLen [pt id] H = some (iv ps.length, H) := by
  obtain ⟨sl, vs, os, qs, h1, h2, h3, rfl, h5⟩ := h
  have e := h2.rd.len (H' := H)
  rw [h3.len.1] at e
  rw [R, run_netNetLen rfl]
  simp [F_netNetLen, ↓bind_andk, andk_some, ↓jn_outk, outk_nrm, outk_ext, outk_ret, ↓cnd_b, ret_r, nilc_r, fa_r, ldOne_r, ldA_r, stOne_r, stA_r, rdk_r, rdkA_r, wrk_r, wrkA_r, alc_r, lenS_r, lenT_r, cvi_r, pick_r, not_r, mx_r, mn_r, ixa_r, ixaA_r, bld_r, add_r, sub_r, mul_r, quo_r, rem_r, eql_r, neq_r, lss_r, leq_r, gtr_r, geq_r, eqb_r, neb_r, eqp_r, nep_r, ↓gv_r, gvn_r, ↓g_r, gn_r, h1, e]

theorem r_netLost (h : Net H id ps lost own) : R (n + 1) n_netNetLost [pt id] H = some (iv lost, H) := by
  obtain ⟨sl, vs, os, qs, h1, h2, h3, rfl, h5⟩ := h
  rw [R, run_netNetLost rfl]
  simp [F_netNetLost, ↓bind_andk, andk_some, ↓jn_outk, outk_nrm, outk_ext, outk_ret, ↓cnd_b, ret_r, nilc_r, fa_r, ldOne_r, ldA_r, stOne_r, stA_r, rdk_r, rdkA_r, wrk_r, wrkA_r, alc_r, lenS_r, lenT_r, cvi_r, pick_r, not_r, mx_r, mn_r, ixa_r, ixaA_r, bld_r, add_r, sub_r, mul_r, quo_r, rem_r, eql_r, neq_r, lss_r, leq_r, gtr_r, geq_r, eqb_r, neb_r, eqp_r, nep_r, ↓gv_r, gvn_r, ↓g_r, gn_r, h1]

/-- A packet's place. -/
def plc (ps : List (List UInt8)) (i : Int) : Int := if ps.length = 0 then -1 else i % ps.length

theorem r_netPlace (h : Net H id ps lost own) {i : Int} (hi : 0 ≤ i ∧ i ≤ 18446744073709551615) (hl : ps.length ≤ 1000) : R (n + 1) n_netNetPlace [pt id, .int .u64 i] H = some (iv (plc ps i), H) := by
  obtain ⟨sl, vs, os, qs, h1, h2, h3, rfl, h5⟩ := h
  have e := h2.rd.len (H' := H)
  rw [h3.len.1] at e
  rw [R, run_netNetPlace rfl]
  unfold plc
  by_cases h0 : ps.length = 0
  · simp [F_netNetPlace, ↓bind_andk, andk_some, ↓jn_outk, outk_nrm, outk_ext, outk_ret, ↓cnd_b, ret_r, nilc_r, fa_r, ldOne_r, ldA_r, stOne_r, stA_r, rdk_r, rdkA_r, wrk_r, wrkA_r, alc_r, lenS_r, lenT_r, cvi_r, pick_r, not_r, mx_r, mn_r, ixa_r, ixaA_r, bld_r, add_r, sub_r, mul_r, quo_r, rem_r, eql_r, neq_r, lss_r, leq_r, gtr_r, geq_r, eqb_r, neb_r, eqp_r, nep_r, ↓gv_r, gvn_r, ↓g_r, gn_r, h1, e, h0]
  · have h0' : ¬ ((ps.length : Int) = 0) := by omega
    have w1 : IntKind.u64.wrap (ps.length : Int) = ps.length := by rw [wu64]; omega
    have m1 : i.tmod (ps.length : Int) = i % ps.length := Int.tmod_eq_emod_of_nonneg hi.1
    have hm := Int.emod_lt_of_pos i (show (0 : Int) < ps.length by omega)
    have hm0 := Int.emod_nonneg i h0'
    have w2 : IntKind.i64.wrap (i % (ps.length : Int)) = i % ps.length := w64 (by omega) (by omega)
    have h0'' : ¬ ps = [] := fun e => h0 (by simp [e])
    simp [F_netNetPlace, ↓bind_andk, andk_some, ↓jn_outk, outk_nrm, outk_ext, outk_ret, ↓cnd_b, ret_r, nilc_r, fa_r, ldOne_r, ldA_r, stOne_r, stA_r, rdk_r, rdkA_r, wrk_r, wrkA_r, alc_r, lenS_r, lenT_r, cvi_r, pick_r, not_r, mx_r, mn_r, ixa_r, ixaA_r, bld_r, add_r, sub_r, mul_r, quo_r, rem_r, eql_r, neq_r, lss_r, leq_r, gtr_r, geq_r, eqb_r, neb_r, eqp_r, nep_r, ↓gv_r, gvn_r, ↓g_r, gn_r, h1, e, h0, h0', w1, m1, w2, h0'']

theorem plc_ok {i : Int} (hi : 0 ≤ i) (h : ps.length ≠ 0) : ∃ k : Nat, plc ps i = k ∧ k < ps.length := by
  unfold plc
  rw [if_neg h]
  have hm := Int.emod_lt_of_pos i (show (0 : Int) < ps.length by omega)
  have hm0 := Int.emod_nonneg i (show (ps.length : Int) ≠ 0 by omega)
  exact ⟨(i % (ps.length : Int)).toNat, by omega, by omega⟩

theorem r_lookNone (h : Net H id [] lost own) {i : Int} (hi : 0 ≤ i ∧ i ≤ 18446744073709551615) : R (n + 2) n_netNetLook [pt id, .int .u64 i] H = some (.tuple #[.slice none 0 0, .bool false], H) := by
  have e := r_netPlace (n := n) h hi (by simp)
  rw [R, run_netNetLook rfl]
  unfold F_netNetLook
  rw [bind_eq e]
  simp [↓bind_andk, andk_some, ↓jn_outk, outk_nrm, outk_ext, outk_ret, ↓cnd_b, ret_r, nilc_r, fa_r, ldOne_r, ldA_r, stOne_r, stA_r, rdk_r, rdkA_r, wrk_r, wrkA_r, alc_r, lenS_r, lenT_r, cvi_r, pick_r, not_r, mx_r, mn_r, ixa_r, ixaA_r, bld_r, add_r, sub_r, mul_r, quo_r, rem_r, eql_r, neq_r, lss_r, leq_r, gtr_r, geq_r, eqb_r, neb_r, eqp_r, nep_r, ↓gv_r, gvn_r, ↓g_r, gn_r, plc]

theorem r_look (h : Net H id ps lost own) {i : Int} (hi : 0 ≤ i ∧ i ≤ 18446744073709551615) (hl : ps.length ≤ 1000) {k : Nat} {p : List UInt8} (hk : plc ps i = k) (hp : ps[k]? = some p) (hb : p.length ≤ 100000) :
    ∃ v q H', R (n + 2) n_netNetLook [pt id, .int .u64 i] H = some (.tuple #[v, .bool true], H') ∧ RowS H' v (u8s p) q ∧ HLe H H' ∧ ∀ j ∈ q, H.length ≤ j := by
  have e := r_netPlace (n := n) h hi hl
  rw [hk] at e
  obtain ⟨sl, vs, os, qs, h1, h2, h3, rfl, h5⟩ := h
  obtain ⟨v, q, hv, hq, hr⟩ := h3.at hp
  obtain ⟨v', q', H', e2, hr', hle, hq'⟩ := r_clone (n := n) hr.rd (by omega)
  refine ⟨v', q', H', ?_, hr', hle, hq'⟩
  rw [R, run_netNetLook rfl]
  unfold F_netNetLook
  have hkk : ¬ ((k : Int) < 0) := by omega
  rw [bind_eq e]
  simp only [↓bind_andk, andk_some, ↓jn_outk, outk_nrm, outk_ext, outk_ret, ↓cnd_b, ret_r, nilc_r, fa_r, ldOne_r, ldA_r, stOne_r, stA_r, rdk_r, rdkA_r, wrk_r, wrkA_r, alc_r, lenS_r, lenT_r, cvi_r, pick_r, not_r, mx_r, mn_r, ixa_r, ixaA_r, bld_r, add_r, sub_r, mul_r, quo_r, rem_r, eql_r, neq_r, lss_r, leq_r, gtr_r, geq_r, eqb_r, neb_r, eqp_r, nep_r, ↓gv_r, gvn_r, ↓g_r, gn_r, Bool.not_true, Bool.not_false, Bool.false_eq_true, Bool.true_eq_false, reduceIte, List.tail_cons, List.headD_cons, decide_true, decide_false, cond_true, cond_false, Nat.beq_refl, h1, hkk, List.getElem?_cons_zero, Option.map_some, Nat.zero_add]
  have := h2.rd.fetch hv .i64 (k := fun v18x7 => bind (R (n + 1) n_bytesClone [v18x7]) fun v19x8 => ret (Value.tuple #[v19x8, (Value.bool true)]))
  simp only [bind_andk] at this
  refine Eq.trans this ?_
  rw [e2]; rfl

theorem put_steps (h : Net H id ps lost own) (hl : ps.length < 1000) {b : Value} {p : List UInt8} (hb : Sl H b (u8s p)) (hp : p.length ≤ 100000) :
    ∃ sl v H1 sl' H3 own', H[id]? = some (.cells [sl, iv lost] 1 false false) ∧ (∀ H', lenS sl H' = some (iv ps.length, H')) ∧ R (n + 1) n_bytesClone [b] H = some (v, H1) ∧ H1[id]? = some (.cells [sl, iv lost] 1 false false) ∧
      bsl 1 1 (.slice none 0 0) [(0, 1, v)] H1 = some (.slice (some ⟨H1.length, 0, none⟩) 1 1, H1 ++ [.cells [v] 1 false false]) ∧ (H1 ++ [AObj.cells [v] 1 false false])[id]? = some (.cells [sl, iv lost] 1 false false) ∧
      app 1 24 sl (.slice (some ⟨H1.length, 0, none⟩) 1 1) (H1 ++ [.cells [v] 1 false false]) = some (sl', H3) ∧ H3[id]? = some (.cells [sl, iv lost] 1 false false) ∧ oneCell sl' = true ∧
      Net (H3.set id (.cells [sl', iv lost] 1 false false)) id (ps ++ [p]) lost own' ∧ Step own H own' (H3.set id (.cells [sl', iv lost] 1 false false)) := by
  have hlt := h.lt
  obtain ⟨sl, vs, os, qs, h1, h2, h3, rfl, h5⟩ := h
  have hlen := h3.len
  obtain ⟨v, q, H1, e1, hr, hle, hq⟩ := r_clone (n := n) hb (by omega)
  have h11 : H1[id]? = some (.cells [sl, iv lost] 1 false false) := hle _ _ h1
  have h12 : (H1 ++ [.cells [v] 1 false false])[id]? = some (.cells [sl, iv lost] 1 false false) := app_get h11
  have hst1 : Step [] H [] (H1 ++ [.cells [v] 1 false false]) := (hle.trans (.app _ _)).step
  have h22 : RowS (H1 ++ [.cells [v] 1 false false]) sl vs os := h2.step hst1 (by simp)
  have h32 := h3.keep (H' := H1 ++ [.cells [v] 1 false false]) fun j hj => hst1.keep j (h3.lt j hj) (by simp)
  have hx : Sl (H1 ++ [.cells [v] 1 false false]) (.slice (some ⟨H1.length, 0, none⟩) 1 1) [v] := Sl.one (vs := [v]) app_new
  obtain ⟨sl', H3, os', e3, hr3, hst3, hk3⟩ := h22.push (b := 24) hx (by omega) (by omega)
  simp only [List.nodup_cons, List.mem_append, not_or, List.nodup_append] at h5
  have hidl := get_lt h1
  have hidl2 : id < (H1 ++ [AObj.cells [v] 1 false false]).length := get_lt h12
  have hH : H.length ≤ H1.length := hle.len
  have h13 : H3[id]? = some (.cells [sl, iv lost] 1 false false) := hst3.get h12 h5.1.1
  have e4 : st1 (pt id) sl' H3 = some (undef, H3.set id (.cells [sl', iv lost] 1 false false)) := by
    rw [stOne_r, h13, wrk_r, if_pos ⟨by simp, hr3.oneCell.1⟩]; rfl
  have hos : ∀ j ∈ os', j ∈ os ∨ H1.length < j + 1 := fun j hj => (hst3.own j hj).imp (fun h => h) fun h => by simp at h; omega
  have hosid : id ∉ os' := fun hm => by
    rcases hos id hm with h | h
    · exact h5.1.1 h
    · omega
  have hqlt := hr.lt
  refine ⟨sl, v, H1, sl', H3, id :: (os' ++ (qs ++ [q]).flatten), h1, fun H' => by rw [← hlen.1]; exact h2.rd.len, e1, h11, bsl1 rfl hr.oneCell.2 hr.oneCell.1, h12, e3, h13, hr3.oneCell.1, ⟨sl', vs ++ [v], os', qs ++ [q], set_get h13, ?_, Pks.push ?_ ?_, rfl, ?_⟩, ?_⟩
  · exact hr3.keep fun j hj => List.getElem?_set_ne fun e => hosid (by rw [e]; exact hj)
  · refine h32.keep fun j hj => ?_
    have hj1 := h3.lt j hj
    rw [List.getElem?_set_ne (fun e => h5.1.2 (by rw [e]; exact hj)), hst3.keep j (by simp; omega) (fun hm => h5.2.2.2 j hm j hj rfl)]
  · refine hr.keep fun j hj => ?_
    have hj1 := hqlt j hj
    have hj2 := hq j hj
    rw [List.getElem?_set_ne (by omega), hst3.keep j (by simp; omega) (fun hm => by have := h2.lt j hm; omega), List.getElem?_append_left hj1]
  · simp only [List.nodup_cons, List.mem_append, not_or, List.nodup_append, List.flatten_append, List.flatten_cons, List.flatten_nil, List.append_nil]
    refine ⟨⟨hosid, h5.1.2, fun hm => by have := hq id hm; omega⟩, hr3.single, ⟨h5.2.2.1, hr.single, fun a ha b hb e => by have := h3.lt a ha; have := hq b hb; omega⟩, fun a ha b hb e => ?_⟩
    rcases hos a ha with h | h
    · rcases hb with hb | hb
      · exact h5.2.2.2 a h b hb e
      · have := h2.lt a h; have := hq b hb; omega
    · rcases hb with hb | hb
      · have := h3.lt b hb; omega
      · have := hqlt b hb; omega
  · refine ⟨by have := hst3.len; simp at this ⊢; omega, fun j hj hn => ?_, fun j hj => ?_⟩
    · simp only [List.mem_cons, List.mem_append, not_or] at hn
      rw [List.getElem?_set_ne (Ne.symm hn.1), hst3.keep j (by simp; omega) hn.2.1, hst1.keep j hj (by simp)]
    · simp only [List.mem_cons, List.mem_append, List.flatten_append, List.flatten_cons, List.flatten_nil, List.append_nil] at hj ⊢
      rcases hj with hj | hj | hj | hj
      · exact .inl (.inl hj)
      · rcases hos j hj with h | h
        · exact .inl (.inr (.inl h))
        · exact .inr (by omega)
      · exact .inl (.inr (.inr hj))
      · exact .inr (hq j hj)

theorem r_put (h : Net H id ps lost own) (hl : ps.length < 128) {b : Value} {p : List UInt8} (hb : Sl H b (u8s p)) (hp : p.length ≤ 100000) :
    ∃ H' own', R (n + 2) n_netNetPut [pt id, b] H = some (.bool true, H') ∧ Net H' id (ps ++ [p]) lost own' ∧ Step own H own' H' := by
  obtain ⟨sl, v, H1, sl', H3, own', h1, e0, e1, h11, e2, h12, e3, h13, hoc, hN, hst⟩ := put_steps (n := n) h (by omega) hb hp
  refine ⟨_, own', ?_, hN, hst⟩
  have hge : ¬ ((ps.length : Int) ≥ 128) := by omega
  have w2 : st1 (pa id (0 + 0)) sl' H3 = some (undef, H3.set id (.cells [sl', iv lost] 1 false false)) := by
    rw [stOne_r, h13, wrk_r, if_pos ⟨by simp, hoc⟩]; rfl
  rw [stOne_r] at w2
  rw [R, run_netNetPut rfl]
  simp only [F_netNetPut, ↓bind_andk, andk_some, ↓jn_outk, outk_nrm, outk_ext, outk_ret, ↓cnd_b, ret_r, nilc_r, fa_r, ldOne_r, ldA_r, stOne_r, stA_r, rdk_r, rdkA_r, wrk_r, wrkA_r, alc_r, lenS_r, lenT_r, cvi_r, pick_r, not_r, mx_r, mn_r, ixa_r, ixaA_r, bld_r, add_r, sub_r, mul_r, quo_r, rem_r, eql_r, neq_r, lss_r, leq_r, gtr_r, geq_r, eqb_r, neb_r, eqp_r, nep_r, ↓gv_r, gvn_r, ↓g_r, gn_r, Bool.not_true, Bool.not_false, Bool.false_eq_true, Bool.true_eq_false, reduceIte, List.tail_cons, List.headD_cons, decide_true, decide_false, cond_true, cond_false, Nat.beq_refl, h1, hge, e0, List.getElem?_cons_zero, Option.map_some, Nat.zero_add, e1, h11, same_self, e2, h12, e3]
  rw [w2]; rfl

theorem r_putNo (h : Net H id ps lost own) (hl : ¬ ps.length < 128) {b : Value} (hlb : 0 ≤ lost ∧ lost < 9223372036854775807) :
    ∃ H', R (n + 2) n_netNetPut [pt id, b] H = some (.bool false, H') ∧ Net H' id ps (lost + 1) own ∧ Step own H own H' := by
  have hlt := h.lt
  obtain ⟨sl, vs, os, qs, h1, h2, h3, rfl, h5⟩ := h
  have hlen := h3.len
  have hw : IntKind.i64.wrap (lost + 1) = lost + 1 := w64 (by omega) (by omega)
  have h5' := h5
  simp only [List.nodup_cons, List.mem_append, not_or, List.nodup_append] at h5
  refine ⟨H.set id (.cells [sl, iv (lost + 1)] 1 false false), ?_, ⟨sl, vs, os, qs, set_get h1, ?_, ?_, rfl, h5'⟩, ⟨by simp, fun j hj hn => ?_, fun j hj => .inl hj⟩⟩
  · rw [R, run_netNetPut rfl]
    have e0 := h2.rd.len (H' := H)
    rw [hlen.1] at e0
    have hge : ((ps.length : Int) ≥ 128) := by omega
    simp [F_netNetPut, ↓bind_andk, andk_some, ↓jn_outk, outk_nrm, outk_ext, outk_ret, ↓cnd_b, ret_r, nilc_r, fa_r, ldOne_r, ldA_r, stOne_r, stA_r, rdk_r, rdkA_r, wrk_r, wrkA_r, alc_r, lenS_r, lenT_r, cvi_r, pick_r, not_r, mx_r, mn_r, ixa_r, ixaA_r, bld_r, add_r, sub_r, mul_r, quo_r, rem_r, eql_r, neq_r, lss_r, leq_r, gtr_r, geq_r, eqb_r, neb_r, eqp_r, nep_r, ↓gv_r, gvn_r, ↓g_r, gn_r, h1, e0, hge, hw, oneCell]
  · exact h2.keep fun j hj => List.getElem?_set_ne fun e => h5.1.1 (by rw [e]; exact hj)
  · exact h3.keep fun j hj => List.getElem?_set_ne fun e => h5.1.2 (by rw [e]; exact hj)
  · simp only [List.mem_cons, List.mem_append, not_or] at hn
    exact List.getElem?_set_ne (Ne.symm hn.1)

theorem r_takeNone (h : Net H id [] lost own) {i : Int} (hi : 0 ≤ i ∧ i ≤ 18446744073709551615) : R (n + 3) n_netNetTake [pt id, .int .u64 i] H = some (.tuple #[.slice none 0 0, .bool false], H) := by
  have e := r_lookNone (n := n) h hi
  rw [R, run_netNetTake rfl]
  unfold F_netNetTake
  rw [bind_eq e]
  simp [↓bind_andk, andk_some, ↓jn_outk, outk_nrm, outk_ext, outk_ret, ↓cnd_b, ret_r, nilc_r, fa_r, ldOne_r, ldA_r, stOne_r, stA_r, rdk_r, rdkA_r, wrk_r, wrkA_r, alc_r, lenS_r, lenT_r, cvi_r, pick_r, not_r, mx_r, mn_r, ixa_r, ixaA_r, bld_r, add_r, sub_r, mul_r, quo_r, rem_r, eql_r, neq_r, lss_r, leq_r, gtr_r, geq_r, eqb_r, neb_r, eqp_r, nep_r, ↓gv_r, gvn_r, ↓g_r, gn_r, extr_p0, extr_p1]

theorem flatten_erase_sublist {α : Type} : ∀ (qs : List (List α)) (k : Nat), ((qs.eraseIdx k).flatten).Sublist qs.flatten
  | [], k => by simp
  | q :: qs, 0 => by simp
  | q :: qs, k + 1 => by
    simp only [List.eraseIdx_cons_succ, List.flatten_cons]
    exact (List.Sublist.refl q).append (flatten_erase_sublist qs k)

theorem r_take (h : Net H id ps lost own) {i : Int} (hi : 0 ≤ i ∧ i ≤ 18446744073709551615) (hl : ps.length ≤ 1000) {k : Nat} {p : List UInt8} (hk : plc ps i = k) (hp : ps[k]? = some p) (hb : p.length ≤ 100000) :
    ∃ v q H' own', R (n + 3) n_netNetTake [pt id, .int .u64 i] H = some (.tuple #[v, .bool true], H') ∧ RowS H' v (u8s p) q ∧ (∀ j ∈ q, H.length ≤ j) ∧ Net H' id (ps.eraseIdx k) lost own' ∧ Step own H own' H' ∧ (∀ j ∈ own', j ∈ own) := by
  obtain ⟨v, q, H1, e1, hr1, hle1, hq1⟩ := r_look (n := n) h hi hl hk hp hb
  have hst1 := hle1.step
  have hN1 : Net H1 id ps lost own := h.step hst1 (by simp)
  have e2 : R (n + 2) n_netNetPlace [pt id, .int .u64 i] H1 = some (iv (plc ps i), H1) := r_netPlace (n := n + 1) hN1 hi hl
  rw [hk] at e2
  have hlt := hN1.lt
  have hlt0 := h.lt
  obtain ⟨sl, vs, os, qs, h1, h2, h3, rfl, h5⟩ := hN1
  have hlen := h3.len
  have hkl : k < ps.length := (List.getElem?_eq_some_iff.1 hp).1
  obtain ⟨sl', H2, e3, hr2, hst2, hl2⟩ := r_delete (m := n + 1) h2 (k := k) (by omega)
  have e3 : R (n + 2) n_slicesDeletebyteByte [sl, iv k, iv ((k + 1 : Nat) : Int)] H1 = some (sl', H2) := e3
  have h5' := h5
  simp only [List.nodup_cons, List.mem_append, not_or, List.nodup_append] at h5
  have h12 : H2[id]? = some (.cells [sl, iv lost] 1 false false) := hst2.get h1 h5.1.1
  have hw : IntKind.i64.wrap ((k : Int) + 1) = ((k + 1 : Nat) : Int) := by rw [w64 (by omega) (by omega)]; simp
  have hsub : ∀ j ∈ (qs.eraseIdx k).flatten, j ∈ qs.flatten := fun j hj => (flatten_erase_sublist qs k).subset hj
  have hqnew : ∀ j ∈ q, j ∉ id :: (os ++ qs.flatten) := fun j hj hm => by
    have := hq1 j hj
    have := hlt0 j hm
    omega
  have hqnew' := hqnew
  simp only [List.mem_cons, List.mem_append, not_or] at hqnew'
  refine ⟨v, q, H2.set id (.cells [sl', iv lost] 1 false false), id :: (os ++ (qs.eraseIdx k).flatten), ?_, ?_, hq1, ⟨sl', vs.eraseIdx k, os, qs.eraseIdx k, set_get h12, ?_, Pks.erase k (h3.keep ?_), rfl, ?_⟩, ⟨?_, fun j hj hn => ?_, fun j hj => .inl ?_⟩, fun j hj => ?_⟩
  · have hoc := hr2.oneCell.1
    have w1 : ld1 (pa id (0 + 0)) H1 = some (sl, H1) := by rw [ldOne_r, h1, rdk_r]; rfl
    have w2 : st1 (pa id (0 + 0)) sl' H2 = some (undef, H2.set id (.cells [sl', iv lost] 1 false false)) := by
      rw [stOne_r, h12, wrk_r, if_pos ⟨by simp, hoc⟩]; rfl
    rw [R, run_netNetTake rfl]
    unfold F_netNetTake
    rw [bind_eq e1, bind_eq extr_p0, bind_eq extr_p1, c_true, jn_nrm (H' := H2.set id (.cells [sl', iv lost] 1 false false)) (vs := [v, .bool true])]
    · rfl
    · rw [bind_eq e2, bind_eq nilc_r, bind_eq fa_r, bind_eq w1, bind_eq add_r, hw, bind_eq e3, bind_eq nilc_r, bind_eq fa_r, bind_eq w2]
      rfl
  · refine hr1.keep fun j hj => ?_
    rw [List.getElem?_set_ne (Ne.symm (hqnew' j hj).1), hst2.keep j (hr1.lt j hj) (hqnew' j hj).2.1]
  · exact hr2.keep fun j hj => List.getElem?_set_ne fun e => h5.1.1 (by rw [e]; exact hj)
  · intro j hj
    rw [List.getElem?_set_ne (fun e => h5.1.2 (by rw [e]; exact hj)), hst2.keep j (h3.lt j hj) (fun hm => h5.2.2.2 j hm j hj rfl)]
  · refine h5'.sublist (List.Sublist.cons_cons id ((List.Sublist.refl os).append (flatten_erase_sublist qs k)))
  · have := hle1.len; simp; omega
  · simp only [List.mem_cons, List.mem_append, not_or] at hn
    rw [List.getElem?_set_ne (Ne.symm hn.1), hst2.keep j (by have := hle1.len; omega) hn.2.1, hst1.keep j hj (by simp)]
  · simp only [List.mem_cons, List.mem_append] at hj ⊢
    rcases hj with hj | hj | hj
    · exact .inl hj
    · exact .inr (.inl hj)
    · exact .inr (.inr (hsub j hj))
  · simp only [List.mem_cons, List.mem_append] at hj ⊢
    rcases hj with hj | hj | hj
    · exact .inl hj
    · exact .inr (.inl hj)
    · exact .inr (.inr (hsub j hj))

end
end Go.Proofs.Ytkjoaediojdodaa.A
