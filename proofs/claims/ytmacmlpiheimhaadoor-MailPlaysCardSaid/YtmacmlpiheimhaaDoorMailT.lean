/- The document's index: a row of pairs that rise. -/
import Derived.Test.YtmacmlpiheimhaaDoorMail8
import Derived.Test.YtmacmlpiheimhaaDoorOfA
namespace Go.Proofs.YtmacmlpiheimhaaDoor.A
set_option linter.unusedVariables false
set_option linter.unusedSimpArgs false
open Go.Proofs Go.Proofs.YtmacmlpiheimhaaDoor

/-! a pair in its place -/

def mid9 (u : Ent) : SMap → Bool → SMap
  | [], _ => []
  | v :: l, done => (if !done && decide (u.1 < v.1) then [u] else []) ++ ((if v.1 ≠ u.1 then [v] else []) ++ mid9 u l (done || (!done && decide (u.1 < v.1))))
def done9 (u : Ent) : SMap → Bool → Bool
  | [], done => done
  | v :: l, done => done9 u l (done || (!done && decide (u.1 < v.1)))
def put9 (u : Ent) (l : SMap) : SMap := mid9 u l false ++ if done9 u l false then [] else [u]

theorem mid9_true {u : Ent} : ∀ {l : SMap}, mid9 u l true = l.filter fun v => decide (v.1 ≠ u.1)
  | [] => rfl
  | v :: l => by
    unfold mid9
    rw [Bool.true_or, mid9_true, List.filter_cons]
    by_cases h : v.1 = u.1 <;> simp [h]

theorem done9_true {u : Ent} : ∀ {l : SMap}, done9 u l true = true
  | [] => rfl
  | v :: l => by unfold done9; rw [Bool.true_or, done9_true]

theorem put9_cons {u v : Ent} {l : SMap} : put9 u (v :: l) = if u.1 < v.1 then u :: (v :: l).filter (fun v => decide (v.1 ≠ u.1)) else (if v.1 ≠ u.1 then [v] else []) ++ put9 u l := by
  unfold put9
  rw [show ∀ d, mid9 u (v :: l) d = (if !d && decide (u.1 < v.1) then [u] else []) ++ ((if v.1 ≠ u.1 then [v] else []) ++ mid9 u l (d || (!d && decide (u.1 < v.1)))) from fun _ => rfl, show ∀ d, done9 u (v :: l) d = done9 u l (d || (!d && decide (u.1 < v.1))) from fun _ => rfl]
  by_cases h : u.1 < v.1
  · have hne : v.1 ≠ u.1 := fun e => List.lt_irrefl _ (e ▸ h)
    rw [if_pos h, decide_eq_true h]
    simp only [Bool.not_false, Bool.and_true, Bool.or_true, Bool.false_or, if_true]
    rw [mid9_true, done9_true, if_pos hne, List.filter_cons]
    simp [hne]
  · rw [if_neg h, decide_eq_false h]
    simp

theorem put9_all {u : Ent} : ∀ {l : SMap}, (∀ v ∈ l, u.1 < v.1) → put9 u l = u :: l
  | [], _ => rfl
  | v :: l, h => by
    rw [put9_cons, if_pos (h v (by simp)), List.filter_eq_self.2 fun y hy => by
      have := h y hy
      simpa using fun e : y.1 = u.1 => List.lt_irrefl _ (e ▸ this)]

theorem put9_is {u : Ent} : ∀ {l : SMap}, Rise l → put9 u l = putL u l
  | [], _ => rfl
  | v :: l, h => by
    have hv := (List.pairwise_cons.1 h).1
    have hl : Rise l := (List.pairwise_cons.1 h).2
    rw [put9_cons, putL_cons]
    rcases lt_tri u.1 v.1 with h1 | h1 | h1
    · rw [if_pos h1, if_pos (List.le_of_lt h1)]
    · have a1 : ¬ u.1 < v.1 := by rw [h1]; exact List.lt_irrefl _
      have a2 : u.1 ≤ v.1 := by rw [h1]; exact List.le_refl _
      have a3 : ¬ v.1 ≠ u.1 := fun h => h h1.symm
      have a4 : ∀ y ∈ l, u.1 < y.1 := fun y hy => by rw [h1]; exact hv y hy
      have a5 : l.filter (fun v => decide (v.1 ≠ u.1)) = l := List.filter_eq_self.2 fun y hy => by
        have := a4 y hy
        simpa using fun e : y.1 = u.1 => List.lt_irrefl _ (e ▸ this)
      rw [if_neg a1, if_pos a2, if_neg a3, List.nil_append, put9_all a4, List.filter_cons_of_neg (by simp [h1]), a5]
    · have hne : v.1 ≠ u.1 := fun e => List.lt_irrefl _ (e ▸ h1)
      have a1 : ¬ u.1 < v.1 := fun h2 => List.lt_irrefl _ (List.lt_trans h1 h2)
      have a2 : ¬ u.1 ≤ v.1 := fun h2 => h2 h1
      rw [if_neg a1, if_pos hne, if_neg a2, put9_is hl]
      rfl

/-- The first name that has this address. -/
def ownL (k : List UInt8) : SMap → Option (List UInt8)
  | [] => none
  | u :: l => if u.2 = k then some u.1 else ownL k l

theorem ownL_mem {k w : List UInt8} : ∀ {l : SMap}, ownL k l = some w → (w, k) ∈ l
  | u :: l, h => by
    unfold ownL at h
    split at h
    · next h1 => cases h; exact List.mem_cons.2 (.inl (by rw [← h1]))
    · exact List.mem_cons_of_mem _ (ownL_mem h)

theorem ownL_none {k : List UInt8} : ∀ {l : SMap}, ownL k l = none → ∀ w, (w, k) ∉ l
  | [], _, w => by simp
  | u :: l, h, w => by
    unfold ownL at h
    split at h
    · cases h
    · next h1 =>
      intro hm
      rcases List.mem_cons.1 hm with h2 | h2
      · exact h1 (by rw [← h2])
      · exact ownL_none h w h2

theorem ownL_is {OW OF : SMap} {k : List UInt8} (hi : Inv OW OF) (hn : (OF.map (·.1)).Nodup) : ownL k (sortM OF) = aget k OW := by
  cases h : ownL k (sortM OF) with
  | some w => exact ((hi.inv _ _).1 ((mem_sortM hn).1 (ownL_mem h))).symm
  | none =>
    cases h2 : aget k OW with
    | none => rfl
    | some w => exact absurd ((mem_sortM (x := (w, k)) hn).2 ((hi.inv _ _).2 h2)) (ownL_none h w)

theorem aget_rise {k v : List UInt8} : ∀ {l : SMap}, Rise l → (k, v) ∈ l → aget k l = some v
  | u :: l, h, hm => by
    unfold aget
    rcases List.mem_cons.1 hm with h2 | h2
    · rw [← h2]; simp
    · have h3 : u.1 < k := (List.pairwise_cons.1 h).1 _ h2
      have h4 : u.1 ≠ k := fun e => by rw [e] at h3; exact List.lt_irrefl _ h3
      rw [if_neg h4]
      exact aget_rise (List.pairwise_cons.1 h).2 h2

theorem aget_sortM {OF : SMap} {k : List UInt8} (hn : (OF.map (·.1)).Nodup) : aget k (sortM OF) = aget k OF := by
  cases h : aget k OF with
  | some v => exact aget_rise (rise_sortM hn) ((mem_sortM (x := (k, v)) hn).2 h)
  | none =>
    cases h2 : aget k (sortM OF) with
    | none => rfl
    | some v =>
      have h3 : aget k OF = some v := (mem_sortM (x := (k, v)) hn).1 (aget_mem h2)
      rw [h] at h3; cases h3

section
variable {H0 X : Heap} {n : Nat} {k : List UInt8} {ws : SMap} {wv : Value}

theorem pfetch9 {β : Type} {H : Heap} {sl : Value} {k : Value → M β} {us : SMap} {j : Nat} {u : Ent} (h : SlN 2 H sl (us.map prc)) (hj : us[j]? = some u) :
    bind (ixa 2 sl (iv j)) (fun p => bind (ldA 2 p) fun v => bind (alc 1 (.agg #[.string ⟨#[]⟩, .string ⟨#[]⟩])) fun q => bind (stA 2 q v) fun _ => k q) H = k (pt H.length) (H ++ [.cells (prc u) 1 false false]) := by
  have hr : (us.map prc)[j]? = some (prc u) := by rw [List.getElem?_map, hj]; rfl
  rw [h.fetch hr (by omega) .i64]
  exact box_a (n := 2) (zs := [.string ⟨#[]⟩, .string ⟨#[]⟩]) (r := prc u) rfl rfl rfl rfl

theorem of9_do (hu : ws.length ≤ 1000) (hA : SlN 2 H0 wv (ws.map prc)) : ∀ (t j : Nat) (X : Heap), ws.length - j = t → j ≤ ws.length → HLe H0 X →
    ∃ X', loopM (c4 (F_ref09Of.l1 (R n))) [strv k, wv, iv ws.length, iv j] X = some (match aget k (ws.drop j) with | some v => .ret (strv v) | none => .ext 0 [], X') ∧ HLe H0 X'
  | 0, j, X, ht, hj, hle => by
    rw [show j = ws.length by omega, List.drop_length]
    refine ⟨X, loop_ext ?_, hle⟩
    rw [c4_r]
    unfold F_ref09Of.l1
    rw [bind_eq lss_r, cnd_b, if_neg (by simp)]
    rfl
  | t + 1, j, X, ht, hj, hle => by
    have hjl : j < ws.length := by omega
    have hlt : (j : Int) < ws.length := by omega
    have hg := List.getElem?_eq_getElem hjl
    have hd := List.drop_eq_getElem_cons hjl
    generalize ws[j] = u at hg hd
    have hf := fun {K : Value → M Out} => pfetch9 (k := K) (hA.mono hle) hg
    have g1 : (X ++ [AObj.cells (prc u) 1 false false])[X.length]? = some (.cells (prc u) 1 false false) := app_new
    have l1 : ld1 (pa X.length 0) (X ++ [.cells (prc u) 1 false false]) = some (strv u.1, X ++ [.cells (prc u) 1 false false]) := ld1_at g1 rfl
    have l2 : ld1 (pa X.length 1) (X ++ [.cells (prc u) 1 false false]) = some (strv u.2, X ++ [.cells (prc u) 1 false false]) := ld1_at g1 rfl
    have k1 : HLe X (X ++ [AObj.cells (prc u) 1 false false]) := .app _ _
    generalize X ++ [AObj.cells (prc u) 1 false false] = X1 at g1 l1 l2 k1 hf
    have hb : c4 (F_ref09Of.l1 (R n)) [strv k, wv, iv ws.length, iv j] X = some (if u.1 = k then .ret (strv u.2) else .nrm [strv k, wv, iv ws.length, iv ((j + 1 : Nat) : Int)], X1) := by
      rw [c4_r]
      unfold F_ref09Of.l1
      rw [bind_eq lss_r, cnd_b, if_pos (by simpa using hlt), hf, bind_eq fa_z, bind_eq l1, bind_eq eqs_v, cnd_b]
      by_cases h : u.1 = k
      · rw [if_pos (by simpa using h), if_pos h, bind_eq fa_z, bind_eq l2]; rfl
      · rw [if_neg (by simpa using h), if_neg h, bind_eq add_r, wsuc (by omega)]; rfl
    rw [hd]
    unfold aget
    by_cases h : u.1 = k
    · rw [if_pos h] at hb ⊢
      exact ⟨X1, loop_ret hb, hle.trans k1⟩
    · rw [if_neg h] at hb ⊢
      obtain ⟨X2, e2, k2⟩ := of9_do hu hA t (j + 1) X1 (by omega) (by omega) (hle.trans k1)
      exact ⟨X2, (loop_next hb).trans e2, k2⟩

theorem r_of9 (hu : ws.length ≤ 1000) (hA : SlN 2 X wv (ws.map prc)) : ∃ X', R (n + 1) n_ref09Of [wv, strv k] X = some (strv ((aget k ws).getD []), X') ∧ HLe X X' := by
  obtain ⟨X', e, l⟩ := of9_do (n := n) (k := k) hu hA ws.length 0 X (by omega) (by omega) (.refl _)
  rw [List.drop_zero, show iv ((0 : Nat) : Int) = .int .i64 0 from rfl] at e
  have hl := hA.len (H' := X)
  rw [List.length_map] at hl
  refine ⟨X', ?_, l⟩
  rw [R, run_ref09Of rfl]
  unfold F_ref09Of
  rw [bind_eq hl]
  cases h : aget k ws with
  | none => rw [h] at e; rw [jn_ext e, xk_hit]; rfl
  | some v => rw [h] at e; rw [jn_ret e]; rfl

theorem own9_do (hu : ws.length ≤ 1000) (hA : SlN 2 H0 wv (ws.map prc)) : ∀ (t j : Nat) (X : Heap), ws.length - j = t → j ≤ ws.length → HLe H0 X →
    ∃ X', loopM (c4 (F_ref09Owner.l1 (R n))) [strv k, wv, iv ws.length, iv j] X = some (match ownL k (ws.drop j) with | some v => .ret (strv v) | none => .ext 0 [], X') ∧ HLe H0 X'
  | 0, j, X, ht, hj, hle => by
    rw [show j = ws.length by omega, List.drop_length]
    refine ⟨X, loop_ext ?_, hle⟩
    rw [c4_r]
    unfold F_ref09Owner.l1
    rw [bind_eq lss_r, cnd_b, if_neg (by simp)]
    rfl
  | t + 1, j, X, ht, hj, hle => by
    have hjl : j < ws.length := by omega
    have hlt : (j : Int) < ws.length := by omega
    have hg := List.getElem?_eq_getElem hjl
    have hd := List.drop_eq_getElem_cons hjl
    generalize ws[j] = u at hg hd
    have hf := fun {K : Value → M Out} => pfetch9 (k := K) (hA.mono hle) hg
    have g1 : (X ++ [AObj.cells (prc u) 1 false false])[X.length]? = some (.cells (prc u) 1 false false) := app_new
    have l1 : ld1 (pa X.length 0) (X ++ [.cells (prc u) 1 false false]) = some (strv u.1, X ++ [.cells (prc u) 1 false false]) := ld1_at g1 rfl
    have l2 : ld1 (pa X.length 1) (X ++ [.cells (prc u) 1 false false]) = some (strv u.2, X ++ [.cells (prc u) 1 false false]) := ld1_at g1 rfl
    have k1 : HLe X (X ++ [AObj.cells (prc u) 1 false false]) := .app _ _
    generalize X ++ [AObj.cells (prc u) 1 false false] = X1 at g1 l1 l2 k1 hf
    have hb : c4 (F_ref09Owner.l1 (R n)) [strv k, wv, iv ws.length, iv j] X = some (if u.2 = k then .ret (strv u.1) else .nrm [strv k, wv, iv ws.length, iv ((j + 1 : Nat) : Int)], X1) := by
      rw [c4_r]
      unfold F_ref09Owner.l1
      rw [bind_eq lss_r, cnd_b, if_pos (by simpa using hlt), hf, bind_eq fa_z, bind_eq l2, bind_eq eqs_v, cnd_b]
      by_cases h : u.2 = k
      · rw [if_pos (by simpa using h), if_pos h, bind_eq fa_z, bind_eq l1]; rfl
      · rw [if_neg (by simpa using h), if_neg h, bind_eq add_r, wsuc (by omega)]; rfl
    rw [hd]
    unfold ownL
    by_cases h : u.2 = k
    · rw [if_pos h] at hb ⊢
      exact ⟨X1, loop_ret hb, hle.trans k1⟩
    · rw [if_neg h] at hb ⊢
      obtain ⟨X2, e2, k2⟩ := own9_do hu hA t (j + 1) X1 (by omega) (by omega) (hle.trans k1)
      exact ⟨X2, (loop_next hb).trans e2, k2⟩

theorem r_own9 (hu : ws.length ≤ 1000) (hA : SlN 2 X wv (ws.map prc)) : ∃ X', R (n + 1) n_ref09Owner [wv, strv k] X = some (strv ((ownL k ws).getD []), X') ∧ HLe X X' := by
  obtain ⟨X', e, l⟩ := own9_do (n := n) (k := k) hu hA ws.length 0 X (by omega) (by omega) (.refl _)
  rw [List.drop_zero, show iv ((0 : Nat) : Int) = .int .i64 0 from rfl] at e
  have hl := hA.len (H' := X)
  rw [List.length_map] at hl
  refine ⟨X', ?_, l⟩
  rw [R, run_ref09Owner rfl]
  unfold F_ref09Owner
  rw [bind_eq hl]
  cases h : ownL k ws with
  | none => rw [h] at e; rw [jn_ext e, xk_hit]; rfl
  | some v => rw [h] at e; rw [jn_ret e]; rfl

end

end Go.Proofs.YtmacmlpiheimhaaDoor.A

/- The document's index: put. -/
namespace Go.Proofs.YtmacmlpiheimhaaDoor.A
set_option linter.unusedVariables false
set_option linter.unusedSimpArgs false
open Go.Proofs Go.Proofs.YtmacmlpiheimhaaDoor

section
variable {H0 X : Heap} {n : Nat} {k m : List UInt8} {ws : SMap} {wv : Value}

theorem ppush {sl : Value} {rows : SMap} {q : List Nat} {u : Ent} (hr : RowN 2 X sl (rows.map prc) q) (hl : rows.length ≤ 10000) (hq : ∀ j ∈ q, H0.length ≤ j) (h0 : HLe H0 X) :
    ∃ w X1 sl' X2 q', bsl 2 1 (.agg #[.string ⟨#[]⟩, .string ⟨#[]⟩]) [(0, 2, .agg (prc u).toArray)] X = some (w, X1) ∧ app 2 32 sl w X1 = some (sl', X2) ∧ RowN 2 X2 sl' ((rows ++ [u]).map prc) q' ∧ HLe H0 X2 ∧ (∀ j ∈ q', H0.length ≤ j) ∧ Step q X q' X2 := by
  have x4 := bsl_a (es := 2) (z := .agg #[.string ⟨#[]⟩, .string ⟨#[]⟩]) (H := X) rfl (prc_len u) (prc_one u)
  have l1 : HLe X (X ++ [AObj.cells (prc u) 2 false false]) := .app _ _
  have s1 : SlN 2 (X ++ [AObj.cells (prc u) 2 false false]) (.slice (some ⟨X.length, 0, none⟩) 1 1) [prc u] := SlN.whole (rows := [prc u]) (c := 1) (e := 2) (g := false) (ro := false) (by rw [app_new]; simp) (by simp [prc_len])
  generalize X ++ [AObj.cells (prc u) 2 false false] = X1 at x4 l1 s1
  have hr1 : RowN 2 X1 sl _ q := hr.keep fun j hj => l1.step.keep j (hr.lt j hj) (by simp)
  obtain ⟨sl', X2, q', x5, hn2, s2⟩ := hr1.push (b := 32) s1 (prc_len _) (by simp; omega) (by simp; omega)
  have hm := (h0.trans l1).more s2 hq
  exact ⟨_, X1, sl', X2, q', x4, x5, by rw [List.map_append]; exact hn2, hm.1, hm.2, (l1.step.more (by simp) (fun j hj => .inl hj)).trans s2⟩

theorem bld9 : bld (.agg #[.string ⟨#[]⟩, .string ⟨#[]⟩]) [(0, 1, strv k), (1, 1, strv m)] X = some (.agg (prc (k, m)).toArray, X) := by
  simp [↓bind_andk, andk_some, ↓jn_outk, outk_nrm, outk_ext, outk_ret, ↓cnd_b, ret_r, nilc_r, fa_r, ldOne_r, ldA_r, stOne_r, stA_r, rdk_r, rdkA_r, wrk_r, wrkA_r, alc_r, lenS_r, lenT_r, cvi_r, pick_r, not_r, mx_r, mn_r, ixa_r, ixaA_r, bld_r, add_r, sub_r, mul_r, quo_r, rem_r, eql_r, neq_r, lss_r, leq_r, gtr_r, geq_r, eqb_r, neb_r, eqp_r, nep_r, ↓gv_r, gvn_r, ↓g_r, gn_r, isTup, bldC, splice, Value.cells, strv, prc, oneCell]

theorem put9_do (hu : ws.length ≤ 1000) (hA : SlN 2 H0 wv (ws.map prc)) : ∀ (t j : Nat) (sl : Value) (q : List Nat) (acc : SMap) (done : Bool) (X : Heap), ws.length - j = t → j ≤ ws.length → acc.length ≤ 2 * j → HLe H0 X → (∀ i ∈ q, H0.length ≤ i) → RowN 2 X sl (acc.map prc) q →
    ∃ X' sl' q', loopM (c7 (F_ref09Put.l1 (R n))) [strv k, strv m, sl, .bool done, wv, iv ws.length, iv j] X = some (.ext 0 [strv k, strv m, sl', .bool (done9 (k, m) (ws.drop j) done)], X') ∧ RowN 2 X' sl' ((acc ++ mid9 (k, m) (ws.drop j) done).map prc) q' ∧ HLe H0 X' ∧ ∀ i ∈ q', H0.length ≤ i
  | 0, j, sl, q, acc, done, X, ht, hj, ha, hle, hq, hr => by
    have : j = ws.length := by omega
    rw [this, List.drop_length]
    refine ⟨X, sl, q, loop_ext ?_, by simpa [mid9] using hr, hle, hq⟩
    rw [c7_r]
    unfold F_ref09Put.l1
    rw [bind_eq lss_r, cnd_b, if_neg (by simp)]
    rfl
  | t + 1, j, sl, q, acc, done, X, ht, hj, ha, hle, hq, hr => by
    have hjl : j < ws.length := by omega
    have hlt : (j : Int) < ws.length := by omega
    have hg := List.getElem?_eq_getElem hjl
    have hd := List.drop_eq_getElem_cons hjl
    generalize ws[j] = v at hg hd
    have hf := fun {K : Value → M Out} => pfetch9 (k := K) (hA.mono hle) hg
    have hlv : X.length < (X ++ [AObj.cells (prc v) 1 false false]).length := by simp
    have g1 : (X ++ [AObj.cells (prc v) 1 false false])[X.length]? = some (.cells (prc v) 1 false false) := app_new
    have k1 : HLe X (X ++ [AObj.cells (prc v) 1 false false]) := .app _ _
    have hqx : ∀ i ∈ q, i < X.length := hr.lt
    generalize X ++ [AObj.cells (prc v) 1 false false] = X1 at g1 k1 hf hlv
    generalize X.length = pv at g1 hf hlv hqx
    have hr1 : RowN 2 X1 sl _ q := hr.keep fun i hi => k1.step.keep i (hr.lt i hi) (by simp)
    have le1 := hle.trans k1
    have l1 : ld1 (pa pv 0) X1 = some (strv v.1, X1) := ld1_at g1 rfl
    have e1 : mid9 (k, m) (ws.drop j) done = (if !done && decide (k < v.1) then [(k, m)] else []) ++ ((if v.1 ≠ k then [v] else []) ++ mid9 (k, m) (ws.drop (j + 1)) (done || (!done && decide (k < v.1)))) := by rw [hd]; rfl
    have e2 : done9 (k, m) (ws.drop j) done = done9 (k, m) (ws.drop (j + 1)) (done || (!done && decide (k < v.1))) := by rw [hd]; rfl
    rw [e1, e2]
    have hgate : ∀ K : Value → M Out, bind (uop .not (.bool done)) (fun v20x7 => bind (gate v20x7 true 4 (bind (fa 0 (pt pv)) fun v23x8 => bind (ld1 v23x8) fun v24x9 => bind (bop .str .lss (strv k) v24x9) fun v25x10 => ret [strv k, v23x8, v24x9, v25x10])) (c4 fun _ _ _ q11_3 => bind (pick v20x7 q11_3 (Value.bool false)) K)) X1 = K (.bool (!done && decide (k < v.1))) X1 := fun K => by
      rw [bind_eq not_r]
      cases done
      · simp only [Bool.not_false]
        rw [b_g_in, b_assoc, bind_eq fa_z, b_assoc, bind_eq l1, b_assoc, bind_eq lts_v, b_ret, c4_r, bind_eq pick_r]
        rfl
      · simp only [Bool.not_true]
        rw [bind_eq (g_r.trans (if_neg (by simp)))]
        simp only [List.replicate]
        rw [c4_r, bind_eq pick_r]
        rfl
    -- the first part
    obtain ⟨X2, sl2, q2, b1, hr2, le2, o2, g2⟩ : ∃ X2 sl2 q2, (∀ K : Value → Value → Value → Value → Value → Value → Value → Value → M Out, jn (cnd (.bool (!done && decide (k < v.1)))
        (bind (bld (.agg #[.string ⟨#[]⟩, .string ⟨#[]⟩]) [(0, 1, strv k), (1, 1, strv m)]) fun v30x13 => bind (bsl 2 1 (.agg #[.string ⟨#[]⟩, .string ⟨#[]⟩]) [(0, 2, v30x13)]) fun v31x14 => bind (app 2 32 sl v31x14) fun v32x15 => ret (.nrm [strv k, strv m, v32x15, (Value.bool true), pt pv, wv, iv ws.length, iv j]))
        (ret (.nrm [strv k, strv m, sl, .bool done, pt pv, wv, iv ws.length, iv j]))) (c8 K) noX retR X1 = K (strv k) (strv m) sl2 (.bool (done || (!done && decide (k < v.1)))) (pt pv) wv (iv ws.length) (iv j) X2) ∧
        RowN 2 X2 sl2 ((acc ++ if !done && decide (k < v.1) then [(k, m)] else []).map prc) q2 ∧ HLe H0 X2 ∧ (∀ i ∈ q2, H0.length ≤ i) ∧ X2[pv]? = some (.cells (prc v) 1 false false) := by
      cases hb : (!done && decide (k < v.1))
      · refine ⟨X1, sl, q, fun K => ?_, by simpa using hr1, le1, hq, g1⟩
        rw [Bool.or_false]
        refine (jn_nrm (vs := [strv k, strv m, sl, .bool done, pt pv, wv, iv ws.length, iv j]) (H' := X1) ?_).trans ?_
        · rw [cnd_b, if_neg (by simp)]; rfl
        · rw [c8_r]
      · obtain ⟨w, Xa, sl', Xb, q', a2, a3, hr3, le3, o3, s3⟩ := ppush (u := (k, m)) hr1 (by omega) hq le1
        refine ⟨Xb, sl', q', fun K => ?_, by simpa using hr3, le3, o3, s3.get g1 (fun h => by have := hqx _ h; omega)⟩
        rw [Bool.or_true]
        refine (jn_nrm (vs := [strv k, strv m, sl', .bool true, pt pv, wv, iv ws.length, iv j]) (H' := Xb) ?_).trans ?_
        · rw [cnd_b, if_pos rfl, bind_eq bld9, bind_eq a2, bind_eq a3]; rfl
        · rw [c8_r]
    have hacc : (acc ++ if !done && decide (k < v.1) then [(k, m)] else []).length ≤ 2 * j + 1 := by
      rw [List.length_append]; split <;> simp <;> omega
    rw [show ∀ B C : SMap, acc ++ ((if !done && decide (k < v.1) then [(k, m)] else []) ++ (B ++ C)) = ((acc ++ if !done && decide (k < v.1) then [(k, m)] else []) ++ B) ++ C from fun B C => by simp]
    generalize (acc ++ if !done && decide (k < v.1) then [(k, m)] else []) = acc2 at hr2 hacc ⊢
    generalize (done || (!done && decide (k < v.1))) = done2 at b1 ⊢
    have l12 : ld1 (pa pv 0) X2 = some (strv v.1, X2) := ld1_at g2 rfl
    -- the second part
    obtain ⟨X3, sl3, q3, b2, hr3, le3, o3⟩ : ∃ X3 sl3 q3, (∀ K : Value → Value → Value → Value → Value → Value → Value → M Out, jn (cnd (.bool (!(v.1 == k)))
        (bind (ldA 2 (pt pv)) fun v38x20 => bind (bsl 2 1 (.agg #[.string ⟨#[]⟩, .string ⟨#[]⟩]) [(0, 2, v38x20)]) fun v39x21 => bind (app 2 32 sl2 v39x21) fun v40x22 => ret (.nrm [strv k, strv m, v40x22, .bool done2, wv, iv ws.length, iv j]))
        (ret (.nrm [strv k, strv m, sl2, .bool done2, wv, iv ws.length, iv j]))) (c7 K) noX retR X2 = K (strv k) (strv m) sl3 (.bool done2) wv (iv ws.length) (iv j) X3) ∧
        RowN 2 X3 sl3 ((acc2 ++ if v.1 ≠ k then [v] else []).map prc) q3 ∧ HLe H0 X3 ∧ (∀ i ∈ q3, H0.length ≤ i) := by
      by_cases hb : v.1 = k
      · rw [show (if v.1 ≠ k then [v] else []) = [] from if_neg (by simpa using hb)]
        refine ⟨X2, sl2, q2, fun K => ?_, by rw [List.append_nil]; exact hr2, le2, o2⟩
        refine (jn_nrm (vs := [strv k, strv m, sl2, .bool done2, wv, iv ws.length, iv j]) (H' := X2) ?_).trans ?_
        · rw [cnd_b, if_neg (by simp [hb])]; rfl
        · rw [c7_r]
      · rw [show (if v.1 ≠ k then [v] else []) = [v] from if_pos hb]
        have a1 : ldA 2 (pt pv) X2 = some (.agg (prc v).toArray, X2) := ldA_at (n := 2) g2 rfl
        obtain ⟨w, Xa, sl', Xb, q', a2, a3, hr3, le3, o3, s3⟩ := ppush (u := v) hr2 (by omega) o2 le2
        refine ⟨Xb, sl', q', fun K => ?_, hr3, le3, o3⟩
        refine (jn_nrm (vs := [strv k, strv m, sl', .bool done2, wv, iv ws.length, iv j]) (H' := Xb) ?_).trans ?_
        · rw [cnd_b, if_pos (by simp [hb]), bind_eq a1, bind_eq a2, bind_eq a3]; rfl
        · rw [c7_r]
    have hacc3 : (acc2 ++ if v.1 ≠ k then [v] else []).length ≤ 2 * (j + 1) := by
      rw [List.length_append]; split <;> simp <;> omega
    obtain ⟨X4, sl4, q4, e4, r4⟩ := put9_do hu hA t (j + 1) sl3 q3 _ done2 X3 (by omega) (by omega) hacc3 le3 o3 hr3
    refine ⟨X4, sl4, q4, (loop_next (H' := X3) (vs' := [strv k, strv m, sl3, .bool done2, wv, iv ws.length, iv ((j + 1 : Nat) : Int)]) ?_).trans e4, r4⟩
    rw [c7_r]
    unfold F_ref09Put.l1
    rw [bind_eq lss_r, cnd_b, if_pos (by simpa using hlt), hf]
    refine (hgate _).trans ((b1 _).trans ?_)
    rw [bind_eq fa_z, bind_eq l12, bind_eq nes_v]
    refine (b2 _).trans ?_
    rw [bind_eq add_r, wsuc (by omega)]
    rfl

/-- The document's row: of its own, or nil. -/
def Row9 (X : Heap) (w : Value) (ws : SMap) : Prop := ∃ q, RowN 2 X w (ws.map prc) q
theorem Row9.sl {X : Heap} {w : Value} {ws : SMap} (h : Row9 X w ws) : SlN 2 X w (ws.map prc) := h.elim fun _ h => h.rd
theorem Row9.mono {X X' : Heap} {w : Value} {ws : SMap} (h : Row9 X w ws) (hl : HLe X X') : Row9 X' w ws := h.elim fun q h => ⟨q, h.step hl.step (by simp)⟩

/-- Put: a pair in its place, or none. -/
def put9L (k m : List UInt8) (ws : SMap) : SMap := if m = [] then ws.filter (fun v => decide (v.1 ≠ k)) else put9 (k, m) ws

theorem r_put9 (hu : ws.length ≤ 1000) (hA : SlN 2 X wv (ws.map prc)) : ∃ X' v, R (n + 1) n_ref09Put [wv, strv k, strv m] X = some (v, X') ∧ Row9 X' v (put9L k m ws) ∧ HLe X X' := by
  have f1 : ∀ r X', F_ref09Put (R n) wv (strv k) (strv m) X = some (r, X') → R (n + 1) n_ref09Put [wv, strv k, strv m] X = some (r, X') := fun r X' hr => by rw [R, run_ref09Put rfl]; exact hr
  have q1 : bop .str .eql (strv m) (.string ⟨#[]⟩) X = some (.bool (m == []), X) := eqs_v (b := [])
  have hl := hA.len (H' := X)
  rw [List.length_map] at hl
  obtain ⟨X1, sl, q, e1, r1, l1, o1⟩ := put9_do (n := n) (k := k) (m := m) hu hA ws.length 0 (.slice none 0 0) [] [] (m == []) X (by omega) (by omega) (by simp) (.refl _) (by simp) RowN.nil
  rw [List.drop_zero, show iv ((0 : Nat) : Int) = .int .i64 0 from rfl] at e1
  rw [List.drop_zero, List.nil_append] at r1
  unfold put9L
  by_cases hm : m = []
  · have hb : (m == []) = true := by simpa using hm
    rw [hb] at e1 r1 q1
    rw [done9_true] at e1
    rw [mid9_true] at r1
    refine ⟨X1, sl, f1 _ _ ?_, by rw [if_pos hm]; exact ⟨q, r1⟩, l1⟩
    unfold F_ref09Put
    rw [bind_eq q1, bind_eq hl, jn_ext e1, xk_hit, c4_r, bind_eq not_r]
    refine (jn_nrm (vs := [sl]) (H' := X1) ?_).trans rfl
    rw [cnd_b, if_neg (by simp)]; rfl
  · have hb : (m == []) = false := by simpa using hm
    rw [hb] at e1 r1 q1
    rw [if_neg hm]
    unfold put9
    cases hd : done9 (k, m) ws false
    · rw [hd] at e1
      have hml : (mid9 (k, m) ws false).length ≤ 10000 := by
        have h9 : ∀ (l : SMap) (d : Bool), (mid9 (k, m) l d).length ≤ 2 * l.length := fun l => by
          induction l with
          | nil => intro d; simp [mid9]
          | cons v l ih =>
            intro d
            unfold mid9
            have := ih (d || (!d && decide (k < v.1)))
            rw [List.length_append, List.length_append, List.length_cons]
            split <;> split <;> simp <;> omega
        have := h9 ws false
        omega
      obtain ⟨w, Xa, sl', Xb, q', a2, a3, hr3, le3, o3, s3⟩ := ppush (u := (k, m)) r1 hml o1 l1
      refine ⟨Xb, sl', f1 _ _ ?_, ⟨q', by simpa using hr3⟩, le3⟩
      unfold F_ref09Put
      rw [bind_eq q1, bind_eq hl, jn_ext e1, xk_hit, c4_r, bind_eq not_r]
      refine (jn_nrm (vs := [sl']) (H' := Xb) ?_).trans rfl
      rw [cnd_b, if_pos (by simp), bind_eq bld9, bind_eq a2, bind_eq a3]; rfl
    · rw [hd] at e1
      refine ⟨X1, sl, f1 _ _ ?_, ⟨q, by simpa using r1⟩, l1⟩
      unfold F_ref09Put
      rw [bind_eq q1, bind_eq hl, jn_ext e1, xk_hit, c4_r, bind_eq not_r]
      refine (jn_nrm (vs := [sl]) (H' := X1) ?_).trans rfl
      rw [cnd_b, if_neg (by simp)]; rfl

end

end Go.Proofs.YtmacmlpiheimhaaDoor.A

/- The document's index: set, rename, find. -/
namespace Go.Proofs.YtmacmlpiheimhaaDoor.A
set_option linter.unusedVariables false
set_option linter.unusedSimpArgs false
open Go.Proofs Go.Proofs.YtmacmlpiheimhaaDoor

section
variable {H0 X : Heap} {n : Nat} {k m s t : List UInt8} {OW OF : SMap} {wv : Value}

theorem put9_drop (hn : (OF.map (·.1)).Nodup) : put9L k [] (sortM OF) = sortM (dropF k OF) := by
  unfold put9L
  rw [if_pos rfl, drop_is hn]
  have h2 : ((dropF k OF).map (·.1)).Nodup := by
    unfold dropF
    split
    · exact nodup_adel hn
    · exact hn
  refine sort_same h2 (nodup_adel hn) fun j => ?_
  by_cases hj : j = k
  · rw [hj, aget_adel, aget_dropF]
  · rw [aget_adel_ne hj, aget_dropF_ne hj]

theorem nod_dropF (hn : (OF.map (·.1)).Nodup) : ((dropF k OF).map (·.1)).Nodup := by
  unfold dropF
  split
  · exact nodup_adel hn
  · exact hn

theorem put9_put (hn : (OF.map (·.1)).Nodup) (hm : m ≠ []) : put9L k m (sortM OF) = sortM (aput k m (dropF k OF)) := by
  unfold put9L
  rw [if_neg hm, put9_is (rise_sortM hn), put_is hn]
  refine sort_same (nodup_aput (nod_dropF hn)) (nodup_aput hn) fun j => ?_
  by_cases hj : j = k
  · rw [hj, aget_aput, aget_aput]
  · rw [aget_aput_ne hj, aget_aput_ne hj, aget_dropF_ne hj]

theorem own_ne (hi : Inv OW OF) {f w : List UInt8} (h : aget f OW = some w) : w ≠ [] := (hi.lens _ (aget_mem ((hi.inv _ _).2 h))).1

/-- ref09.Find -/
theorem r_find9 (hi : Inv OW OF) (hn : (OF.map (·.1)).Nodup) (hu : OF.length ≤ 1000) (hA : Row9 X wv (sortM OF)) : ∃ X', R (n + 5) n_ref09Find [wv, strv m] X = some (.tuple #[strv (findT m OW), iv (errFindI m OW)], X') ∧ HLe X X' := by
  have f1 : ∀ r X', F_ref09Find (R (n + 4)) wv (strv m) X = some (r, X') → R (n + 5) n_ref09Find [wv, strv m] X = some (r, X') := fun r X' hr => by rw [R, run_ref09Find rfl]; exact hr
  have e1 : R (n + 4) n_ref05Mail [strv m] X = _ := r_refMail (n := n) (s := m) (X := X)
  unfold findT errFindI
  cases hm : mailB m
  · rw [hm] at e1
    simp only [Bool.false_eq_true, if_false] at e1 ⊢
    refine ⟨X, f1 _ _ ?_, .refl _⟩
    unfold F_ref09Find
    rw [bind_eq e1, bind_eq extr_p0, bind_eq extr_p1, bind_eq not_r, cnd_b, if_pos (by simp)]
    rfl
  · rw [hm] at e1
    obtain ⟨X1, e2, l1⟩ := r_own9 (n := n + 3) (k := foldL m) (by rw [sortM_len]; omega) hA.sl
    have e2 : R (n + 4) n_ref09Owner [wv, strv (foldL m)] X = _ := e2
    rw [ownL_is hi hn] at e2
    simp only [if_true] at e1
    have q1 : bop .str .eql (strv ((aget (foldL m) OW).getD [])) (.string ⟨#[]⟩) X1 = some (.bool (((aget (foldL m) OW).getD []) == []), X1) := eqs_v (b := [])
    refine ⟨X1, f1 _ _ ?_, l1⟩
    unfold F_ref09Find
    rw [bind_eq e1, bind_eq extr_p0, bind_eq extr_p1, bind_eq not_r, cnd_b, if_neg (by simp), bind_eq e2, bind_eq q1]
    cases h : aget (foldL m) OW with
    | none => rfl
    | some w =>
      have hw := own_ne hi h
      rw [show (((some w).getD [] : List UInt8) == []) = false by simpa using hw, cnd_b, if_neg (by simp)]
      rfl

/-- ref09.Set -/
theorem r_set9 (hi : Inv OW OF) (hn : (OF.map (·.1)).Nodup) (hu : OF.length ≤ 1000) (hA : Row9 X wv (sortM OF)) : ∃ X' v, R (n + 10) n_ref09Set [wv, strv k, strv m] X = some (.tuple #[v, iv (errSetI k m OW)], X') ∧ Row9 X' v (sortM (setF k m OW OF)) ∧ HLe X X' := by
  have f1 : ∀ r X', F_ref09Set (R (n + 9)) wv (strv k) (strv m) X = some (r, X') → R (n + 10) n_ref09Set [wv, strv k, strv m] X = some (r, X') := fun r X' hr => by rw [R, run_ref09Set rfl]; exact hr
  have hw : (sortM OF).length ≤ 1000 := by rw [sortM_len]; omega
  have e0 : ∀ Y : Heap, R (n + 9) n_ref05Name [strv k] Y = some (.bool (nameB k), Y) := fun Y => r_refName0 (n := n + 6)
  have q1 : bop .str .eql (strv m) (.string ⟨#[]⟩) X = some (.bool (m == []), X) := eqs_v (b := [])
  by_cases hk : nameB k = true
  · have e0 := e0 X
    rw [hk] at e0
    by_cases hm : m = []
    · subst hm
      have hE : errSetI k [] OW = 0 := by unfold errSetI; rw [if_pos hk, if_pos rfl]
      have hF : setF k [] OW OF = dropF k OF := by unfold setF; rw [if_pos hE, if_pos rfl]
      obtain ⟨X1, v, e1, r1, l1⟩ := r_put9 (n := n + 8) (k := k) (m := []) hw hA.sl
      have e1 : R (n + 9) n_ref09Put [wv, strv k, .string ⟨#[]⟩] X = _ := e1
      rw [put9_drop hn] at r1
      rw [hE, hF]
      refine ⟨X1, v, f1 _ _ ?_, r1, l1⟩
      unfold F_ref09Set
      rw [bind_eq e0, bind_eq not_r, cnd_b, if_neg (by simp), bind_eq q1, cnd_b, if_pos (by simp), bind_eq e1]
      rfl
    · have hmb : (m == []) = false := by simpa using hm
      rw [hmb] at q1
      have e1 : R (n + 9) n_ref05Mail [strv m] X = _ := r_refMail (n := n + 5) (s := m) (X := X)
      cases hb : mailB m
      · rw [hb] at e1
        simp only [Bool.false_eq_true, if_false] at e1
        have hE : errSetI k m OW = 11 := by unfold errSetI; rw [if_pos hk, if_neg hm, hb]; rfl
        have hF : setF k m OW OF = OF := by unfold setF; rw [if_neg (by rw [hE]; decide)]
        rw [hE, hF]
        refine ⟨X, wv, f1 _ _ ?_, hA, .refl _⟩
        unfold F_ref09Set
        rw [bind_eq e0, bind_eq not_r, cnd_b, if_neg (by simp), bind_eq q1, cnd_b, if_neg (by simp), bind_eq e1, bind_eq extr_p0, bind_eq extr_p1, bind_eq not_r, cnd_b, if_pos (by simp)]
        rfl
      · rw [hb] at e1
        simp only [if_true] at e1
        obtain ⟨X1, e2, l1⟩ := r_own9 (n := n + 8) (k := foldL m) hw hA.sl
        have e2 : R (n + 9) n_ref09Owner [wv, strv (foldL m)] X = _ := e2
        rw [ownL_is hi hn] at e2
        have hA1 := hA.mono l1
        obtain ⟨X2, v, e3, r3, l2⟩ := r_put9 (n := n + 8) (k := k) (m := foldL m) hw hA1.sl
        have e3 : R (n + 9) n_ref09Put [wv, strv k, strv (foldL m)] X1 = _ := e3
        rw [put9_put hn (mail_ne hb).1] at r3
        have q2 : bop .str .neq (strv ((aget (foldL m) OW).getD [])) (.string ⟨#[]⟩) X1 = some (.bool (!(((aget (foldL m) OW).getD []) == [])), X1) := nes_v (b := [])
        have good : errSetI k m OW = 0 → setF k m OW OF = aput k (foldL m) (dropF k OF) := fun hE => by unfold setF; rw [if_pos hE, if_neg hm]
        cases h : aget (foldL m) OW with
        | none =>
          have hE : errSetI k m OW = 0 := by unfold errSetI; rw [if_pos hk, if_neg hm, if_pos hb, h]
          rw [h] at e2 q2
          rw [hE, good hE]
          refine ⟨X2, v, f1 _ _ ?_, r3, l1.trans l2⟩
          unfold F_ref09Set
          rw [bind_eq e0, bind_eq not_r, cnd_b, if_neg (by simp), bind_eq q1, cnd_b, if_neg (by simp), bind_eq e1, bind_eq extr_p0, bind_eq extr_p1, bind_eq not_r, cnd_b, if_neg (by simp), bind_eq e2, bind_eq q2]
          rw [show (!(((none : Option (List UInt8)).getD []) == [])) = false from rfl, bind_eq (g_r.trans (if_neg (by simp)))]
          simp only [List.replicate]
          rw [c3_r, bind_eq pick_r]
          simp only [cond_false]
          rw [cnd_b, if_neg (by simp), bind_eq e3]
          rfl
        | some w =>
          have hwn := own_ne hi h
          rw [h] at e2 q2
          rw [show (!(((some w).getD [] : List UInt8) == [])) = true by simpa using hwn] at q2
          have q3 : bop .str .neq (strv w) (strv k) X1 = some (.bool (!(w == k)), X1) := nes_v
          by_cases hwk : w = k
          · have hE : errSetI k m OW = 0 := by unfold errSetI; rw [if_pos hk, if_neg hm, if_pos hb, h]; simp [hwk]
            rw [hE, good hE]
            refine ⟨X2, v, f1 _ _ ?_, r3, l1.trans l2⟩
            unfold F_ref09Set
            rw [bind_eq e0, bind_eq not_r, cnd_b, if_neg (by simp), bind_eq q1, cnd_b, if_neg (by simp), bind_eq e1, bind_eq extr_p0, bind_eq extr_p1, bind_eq not_r, cnd_b, if_neg (by simp), bind_eq e2, bind_eq q2, b_g_in, b_assoc]
            simp only [Option.getD_some]
            rw [bind_eq q3, b_ret, c3_r, bind_eq pick_r]
            simp only [cond_true]
            rw [cnd_b, if_neg (by simp [hwk]), bind_eq e3]
            rfl
          · have hE : errSetI k m OW = 9 := by unfold errSetI; rw [if_pos hk, if_neg hm, if_pos hb, h]; simp [hwk]
            have hF : setF k m OW OF = OF := by unfold setF; rw [if_neg (by rw [hE]; decide)]
            rw [hE, hF]
            refine ⟨X1, wv, f1 _ _ ?_, hA1, l1⟩
            unfold F_ref09Set
            rw [bind_eq e0, bind_eq not_r, cnd_b, if_neg (by simp), bind_eq q1, cnd_b, if_neg (by simp), bind_eq e1, bind_eq extr_p0, bind_eq extr_p1, bind_eq not_r, cnd_b, if_neg (by simp), bind_eq e2, bind_eq q2, b_g_in, b_assoc]
            simp only [Option.getD_some]
            rw [bind_eq q3, b_ret, c3_r, bind_eq pick_r]
            simp only [cond_true]
            rw [cnd_b, if_pos (by simp [hwk])]
            rfl
  · have hE : errSetI k m OW = 10 := by unfold errSetI; rw [if_neg hk]
    have hF : setF k m OW OF = OF := by unfold setF; rw [if_neg (by rw [hE]; decide)]
    have e0 := e0 X
    rw [show nameB k = false by simpa using hk] at e0
    rw [hE, hF]
    refine ⟨X, wv, f1 _ _ ?_, hA, .refl _⟩
    unfold F_ref09Set
    rw [bind_eq e0, bind_eq not_r, cnd_b, if_pos (by simp)]
    rfl

/-- ref09.Rename -/
theorem r_ren9 (hi : Inv OW OF) (hn : (OF.map (·.1)).Nodup) (hu : OF.length ≤ 900) (hA : Row9 X wv (sortM OF)) : ∃ X' v, R (n + 10) n_ref09Rename [wv, strv s, strv t] X = some (.tuple #[v, iv (errRenI s t OF)], X') ∧ Row9 X' v (sortM (renF s t OF)) ∧ HLe X X' := by
  have f1 : ∀ r X', F_ref09Rename (R (n + 9)) wv (strv s) (strv t) X = some (r, X') → R (n + 10) n_ref09Rename [wv, strv s, strv t] X = some (r, X') := fun r X' hr => by rw [R, run_ref09Rename rfl]; exact hr
  have hw : (sortM OF).length ≤ 1000 := by rw [sortM_len]; omega
  have e0 : R (n + 9) n_ref05Name [strv t] X = some (.bool (nameB t), X) := r_refName0 (n := n + 6)
  have same : errRenI s t OF ≠ 0 → renF s t OF = OF := fun h => by unfold renF; rw [if_neg h]
  cases ht : nameB t
  · have hE : errRenI s t OF = 10 := by unfold errRenI; rw [ht]; rfl
    rw [ht] at e0
    rw [hE, same (by rw [hE]; decide)]
    refine ⟨X, wv, f1 _ _ ?_, hA, .refl _⟩
    unfold F_ref09Rename
    rw [bind_eq e0, bind_eq not_r, cnd_b, if_pos (by simp)]
    rfl
  · rw [ht] at e0
    obtain ⟨X1, e1, l1⟩ := r_of9 (n := n + 8) (k := s) hw hA.sl
    have e1 : R (n + 9) n_ref09Of [wv, strv s] X = _ := e1
    rw [aget_sortM hn] at e1
    have q1 : bop .str .eql (strv ((aget s OF).getD [])) (.string ⟨#[]⟩) X1 = some (.bool (((aget s OF).getD []) == []), X1) := eqs_v (b := [])
    cases hs : aget s OF with
    | none =>
      have hE : errRenI s t OF = 8 := by unfold errRenI; rw [ht, hs]; rfl
      rw [hs] at e1 q1
      rw [hE, same (by rw [hE]; decide)]
      refine ⟨X1, wv, f1 _ _ ?_, hA.mono l1, l1⟩
      unfold F_ref09Rename
      rw [bind_eq e0, bind_eq not_r, cnd_b, if_neg (by simp), bind_eq e1, bind_eq q1, cnd_b, if_pos (by simp)]
      rfl
    | some m =>
      have hm : m ≠ [] := (hi.lens _ (aget_mem hs)).2.2.1
      rw [hs] at e1 q1
      obtain ⟨X2, e2, l2⟩ := r_of9 (n := n + 8) (k := t) hw (hA.mono l1).sl
      have e2 : R (n + 9) n_ref09Of [wv, strv t] X1 = _ := e2
      rw [aget_sortM hn] at e2
      have q2 : bop .str .neq (strv ((aget t OF).getD [])) (.string ⟨#[]⟩) X2 = some (.bool (!(((aget t OF).getD []) == [])), X2) := nes_v (b := [])
      have hts : (!(((aget t OF).getD []) == [])) = (aget t OF).isSome := by
        cases h : aget t OF with
        | none => rfl
        | some v =>
          have hv : v ≠ [] := (hi.lens _ (aget_mem h)).2.2.1
          simpa using hv
      rw [hts] at q2
      have q3 : bop .str .neq (strv t) (strv s) X2 = some (.bool (!(t == s)), X2) := nes_v
      have hgate : ∀ K : Value → M Value, bind (gate (.bool (aget t OF).isSome) true 3 (bind (bop .str .neq (strv t) (strv s)) fun v26x7 => ret [strv t, strv s, v26x7])) (c3 fun _ _ q8_2 => bind (pick (.bool (aget t OF).isSome) q8_2 (Value.bool false)) K) X2 = K (.bool ((aget t OF).isSome && !(t == s))) X2 := fun K => by
        cases (aget t OF).isSome
        · rw [bind_eq (g_r.trans (if_neg (by simp)))]
          simp only [List.replicate]
          rw [c3_r, bind_eq pick_r]; rfl
        · rw [b_g_in, b_assoc, bind_eq q3, b_ret, c3_r, bind_eq pick_r]; rfl
      have hErr : errRenI s t OF = if (aget t OF).isSome && !(t == s) then 9 else 0 := by unfold errRenI; rw [ht, hs]; rfl
      cases hb : ((aget t OF).isSome && !(t == s))
      · rw [hb] at hgate hErr
        have hE : errRenI s t OF = 0 := hErr
        obtain ⟨X3, v3, e3, r3, l3⟩ := r_put9 (n := n + 8) (k := s) (m := []) hw ((hA.mono l1).mono l2).sl
        have e3 : R (n + 9) n_ref09Put [wv, strv s, .string ⟨#[]⟩] X2 = _ := e3
        rw [put9_drop hn] at r3
        have hlen3 : (dropF s OF).length ≤ 1000 := by have := dropF_few (k := s) (OF := OF); omega
        obtain ⟨X4, v4, e4, r4, l4⟩ := r_put9 (n := n + 8) (k := t) (m := m) (by rw [sortM_len]; exact hlen3) r3.sl
        have e4 : R (n + 9) n_ref09Put [v3, strv t, strv m] X3 = _ := e4
        rw [put9_put (nod_dropF hn) hm] at r4
        have hF : renF s t OF = aput t m (dropF s OF) := by unfold renF; rw [if_pos hE, hs]; rfl
        have hss : sortM (aput t m (dropF t (dropF s OF))) = sortM (aput t m (dropF s OF)) := sort_same (nodup_aput (nod_dropF hn)) (nodup_aput (nod_dropF (nod_dropF hn))) fun j => by
          by_cases hj : j = t
          · rw [hj, aget_aput, aget_aput]
          · rw [aget_aput_ne hj, aget_aput_ne hj, aget_dropF_ne hj]
        rw [hss] at r4
        rw [hE, hF]
        refine ⟨X4, v4, f1 _ _ ?_, r4, ((l1.trans l2).trans l3).trans l4⟩
        unfold F_ref09Rename
        rw [bind_eq e0, bind_eq not_r, cnd_b, if_neg (by simp), bind_eq e1, bind_eq q1, cnd_b, if_neg (by simpa using hm), bind_eq e2, bind_eq q2]
        refine (hgate _).trans ?_
        rw [cnd_b, if_neg (by simp), bind_eq e3]
        refine (bind_eq e4).trans ?_
        rfl
      · rw [hb] at hgate hErr
        have hE : errRenI s t OF = 9 := hErr
        rw [hE, same (by rw [hE]; decide)]
        refine ⟨X2, wv, f1 _ _ ?_, (hA.mono l1).mono l2, l1.trans l2⟩
        unfold F_ref09Rename
        rw [bind_eq e0, bind_eq not_r, cnd_b, if_neg (by simp), bind_eq e1, bind_eq q1, cnd_b, if_neg (by simpa using hm), bind_eq e2, bind_eq q2]
        refine (hgate _).trans ?_
        rw [cnd_b, if_pos rfl]
        rfl

end

end Go.Proofs.YtmacmlpiheimhaaDoor.A

/- The head of a row. -/
namespace Go.Proofs.YtmacmlpiheimhaaDoor.A
set_option linter.unusedVariables false
set_option linter.unusedSimpArgs false
open Go.Proofs Go.Proofs.YtmacmlpiheimhaaDoor

/-- A row's first elements. -/
theorem RowN.head {es : Nat} {X : Heap} {w : Value} {rows : List (List Value)} {q : List Nat} (h : RowN es X w rows q) (he : 0 < es) {i : Nat} (hi : i ≤ rows.length) : ∃ v, (∀ X', HLe X X' → slv es w none (some (iv i)) none X' = some (v, X')) ∧ SlN es X v (rows.take i) := by
  rcases h with ⟨rfl, rfl, rfl⟩ | ⟨sid, rest, r, g, rfl, rfl, hid, hr, hx⟩
  · have : i = 0 := by simpa using hi
    subst this
    exact ⟨.slice none 0 0, fun _ _ => rfl, SlN.nil⟩
  · have hb : bnd (some (iv i)) rows.length = some i := by simp [bnd]
    have hb0 : ∀ d, bnd none d = some d := fun _ => rfl
    have hl : (rows.take i).length = i := by rw [List.length_take]; omega
    have hxt : ∀ y ∈ rows.take i, y.length = es := fun y hy => hx y (List.mem_of_mem_take hy)
    by_cases h0 : rows.length + r = 0
    · have hi0 : i = 0 := by omega
      subst hi0
      refine ⟨.slice (some ⟨sid, 0, some (bif g then 1 else 0)⟩) 0 0, fun X' hl' => ?_, ⟨_, _, rfl, (fun e => by cases e), rfl, by simp⟩⟩
      simp only [slv, hl' _ _ hid, hb, hb0]
      rw [if_pos ⟨trivial, by omega, by omega, by omega⟩, if_pos h0]
    · refine ⟨.slice (some ⟨sid, 0 + 0 * es, none⟩) (i - 0) (rows.length + r - 0), fun X' hl' => ?_, ?_⟩
      · simp only [slv, hl' _ _ hid, hb, hb0]
        rw [if_pos ⟨trivial, by omega, by omega, by omega⟩, if_neg h0]
      · rw [Nat.zero_mul, Nat.add_zero, Nat.sub_zero, Nat.sub_zero]
        refine ⟨some ⟨sid, 0, none⟩, rows.length + r, by rw [hl], (fun e => by cases e), ?_, hxt⟩
        unfold fcells
        simp only [hid]
        have hfl := flat_len hx
        have hft := flat_len hxt
        rw [hl] at hft
        have hle : i * es ≤ rows.length * es := Nat.mul_le_mul_right _ hi
        rw [if_pos (by rw [List.length_append, hfl]; omega), List.drop_zero]
        have hs : rows.flatten = (rows.take i).flatten ++ (rows.drop i).flatten := by rw [← List.flatten_append, List.take_append_drop]
        rw [hs, List.append_assoc, ← hft, List.take_left]

end Go.Proofs.YtmacmlpiheimhaaDoor.A
