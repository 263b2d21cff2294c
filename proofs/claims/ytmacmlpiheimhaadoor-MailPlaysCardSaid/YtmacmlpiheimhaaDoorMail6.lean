/- The index of addresses. -/
import Derived.Test.YtmacmlpiheimhaaDoorMail3
import Derived.Test.YtmacmlpiheimhaaDoorMapD
import Derived.Test.YtmacmlpiheimhaaDoorRefLaw
namespace Go.Proofs.YtmacmlpiheimhaaDoor.A
set_option linter.unusedVariables false
set_option linter.unusedSimpArgs false
open Go.Proofs Go.Proofs.YtmacmlpiheimhaaDoor

/-! the plain law -/

structure Inv (OW OF : SMap) : Prop where
  inv : ∀ k v, aget k OF = some v ↔ aget v OW = some k
  same : OW.length = OF.length
  lens : ∀ p ∈ OF, p.1 ≠ [] ∧ p.1.length ≤ 12 ∧ p.2 ≠ [] ∧ p.2.length ≤ 20

def dropO (k : List UInt8) (OW OF : SMap) : SMap := match aget k OF with
  | some m => adel m OW
  | none => OW
def dropF (k : List UInt8) (OF : SMap) : SMap := match aget k OF with
  | some _ => adel k OF
  | none => OF

section
variable {OW OF : SMap} {k f : List UInt8}

theorem Inv.drop (h : Inv OW OF) (n1 : (OW.map (·.1)).Nodup) (n2 : (OF.map (·.1)).Nodup) : Inv (dropO k OW OF) (dropF k OF) := by
  unfold dropO dropF
  cases hk : aget k OF with
  | none => exact h
  | some m =>
    have hm := (h.inv k m).1 hk
    refine ⟨fun j v => ?_, ?_, fun p hp => h.lens p (List.mem_filter.1 hp).1⟩
    · by_cases hj : j = k
      · subst hj
        rw [aget_adel]
        constructor
        · intro e; cases e
        · intro e
          by_cases hv : v = m
          · subst hv; rw [aget_adel] at e; cases e
          · rw [aget_adel_ne hv, ← h.inv] at e
            rw [hk] at e
            exact absurd (Option.some.inj e).symm hv
      · rw [aget_adel_ne hj]
        by_cases hv : v = m
        · subst hv
          rw [aget_adel, h.inv, hm]
          constructor
          · intro e; exact absurd (Option.some.inj e).symm hj
          · intro e; cases e
        · rw [aget_adel_ne hv, h.inv]
    · rw [adel_len n1 (by rw [hm]; rfl), adel_len n2 (by rw [hk]; rfl), h.same]

theorem Inv.put (h : Inv OW OF) (h1 : aget f OW = none) (h2 : aget k OF = none) (hk : k ≠ [] ∧ k.length ≤ 12) (hf : f ≠ [] ∧ f.length ≤ 20) : Inv (aput f k OW) (aput k f OF) := by
  refine ⟨fun j v => ?_, ?_, fun p hp => ?_⟩
  · by_cases hj : j = k
    · subst hj
      rw [aget_aput]
      by_cases hv : v = f
      · subst hv; rw [aget_aput]; simp
      · rw [aget_aput_ne hv, ← h.inv, h2]
        constructor
        · intro e; exact absurd (Option.some.inj e).symm hv
        · intro e; cases e
    · rw [aget_aput_ne hj]
      by_cases hv : v = f
      · subst hv
        rw [aget_aput, h.inv, h1]
        constructor
        · intro e; cases e
        · intro e; exact absurd (Option.some.inj e).symm hj
      · rw [aget_aput_ne hv, h.inv]
  · rw [aput_len, aput_len, h1, h2, h.same]
  · unfold aput at hp
    rw [h2] at hp
    simp only [Option.isSome_none, Bool.false_eq_true, if_false, List.mem_append, List.mem_singleton] at hp
    rcases hp with hp | rfl
    · exact h.lens p hp
    · exact ⟨hk.1, hk.2, hf.1, hf.2⟩

theorem dropF_none : aget k (dropF k OF) = none := by
  unfold dropF
  cases hk : aget k OF with
  | none => exact hk
  | some m => exact aget_adel

/-- An address that is nobody's but his is nobody's once his is dropped. -/
theorem dropO_none (h : Inv OW OF) (hf : ∀ w, aget f OW = some w → w = k) : aget f (dropO k OW OF) = none := by
  unfold dropO
  cases hk : aget k OF with
  | none =>
    cases ho : aget f OW with
    | none => rfl
    | some w =>
      have := hf w ho
      subst this
      rw [← h.inv, hk] at ho
      cases ho
  | some m =>
    by_cases hm : f = m
    · subst hm; exact aget_adel
    · simp only
      rw [aget_adel_ne hm]
      cases ho : aget f OW with
      | none => rfl
      | some w =>
        have := hf w ho
        subst this
        rw [← h.inv, hk] at ho
        exact absurd (Option.some.inj ho).symm hm

theorem dropF_ne {j : List UInt8} (hj : j ≠ k) : aget j (dropF k OF) = aget j OF := by
  unfold dropF
  cases hk : aget k OF with
  | none => rfl
  | some m => exact aget_adel_ne hj

theorem dropF_le : (dropF k OF).length ≤ OF.length := by
  unfold dropF
  cases hk : aget k OF with
  | none => exact Nat.le_refl _
  | some m => exact List.length_filter_le _ _

def errSetI (k m : List UInt8) (OW : SMap) : Int :=
  if nameB k then (if m = [] then 0 else if mailB m then (match aget (foldL m) OW with
    | some w => if w = k then 0 else 9
    | none => 0) else 11) else 10
def setO (k m : List UInt8) (OW OF : SMap) : SMap := if errSetI k m OW = 0 then (if m = [] then dropO k OW OF else aput (foldL m) k (dropO k OW OF)) else OW
def setF (k m : List UInt8) (OW OF : SMap) : SMap := if errSetI k m OW = 0 then (if m = [] then dropF k OF else aput k (foldL m) (dropF k OF)) else OF

def errRenI (old next : List UInt8) (OF : SMap) : Int :=
  if nameB next then (match aget old OF with
    | some _ => if (aget next OF).isSome && !(next == old) then 9 else 0
    | none => 8) else 10
def renO (old next : List UInt8) (OW OF : SMap) : SMap := if errRenI old next OF = 0 then aput ((aget old OF).getD []) next (dropO old OW OF) else OW
def renF (old next : List UInt8) (OF : SMap) : SMap := if errRenI old next OF = 0 then aput next ((aget old OF).getD []) (dropF old OF) else OF

theorem name_ne (h : nameB k = true) : k ≠ [] ∧ k.length ≤ 12 := by
  refine ⟨?_, name_len h⟩
  rintro rfl
  revert h; decide

theorem mail_ne {m : List UInt8} (h : mailB m = true) : foldL m ≠ [] ∧ (foldL m).length ≤ 20 := by
  unfold mailB at h
  simp only [Bool.and_eq_true, decide_eq_true_eq] at h
  refine ⟨fun e => ?_, by rw [foldL_len]; exact h.1⟩
  have h2 := h.2
  rw [e] at h2
  revert h2; decide

theorem aput_le {k v : List UInt8} {m : SMap} : (aput k v m).length ≤ m.length + 1 := by
  rw [aput_len]; split <;> omega

end

/-! as it lies -/

structure Idx (X : Heap) (x o a : Nat) (OW OF : SMap) : Prop where
  c : X[x]? = some (.cells [.map (some o), .map (some a)] 1 false false)
  ow : MapD strv X o OW
  of : MapD strv X a OF
  ne : o ≠ a
  inv : Inv OW OF

section
variable {X X' : Heap} {n x o a : Nat} {OW OF : SMap} {k m : List UInt8}

theorem Idx.not (h : Idx X x o a OW OF) : x ≠ o ∧ x ≠ a := by
  constructor
  · rintro rfl
    obtain ⟨es, clk, _, h2, _⟩ := h.ow.ex
    rw [h.c] at h2; cases h2
  · rintro rfl
    obtain ⟨es, clk, _, h2, _⟩ := h.of.ex
    rw [h.c] at h2; cases h2
theorem Idx.hle (h : Idx X x o a OW OF) (hl : HLe X X') : Idx X' x o a OW OF := ⟨hl _ _ h.c, h.ow.hle hl, h.of.hle hl, h.ne, h.inv⟩
theorem Idx.lt (h : Idx X x o a OW OF) : x < X.length ∧ o < X.length ∧ a < X.length := ⟨get_lt h.c, h.ow.lt, h.of.lt⟩
theorem Idx.step {o1 o2 : List Nat} (h : Idx X x o a OW OF) (hs : Step o1 X o2 X') (h1 : x ∉ o1) (h2 : o ∉ o1) (h3 : a ∉ o1) : Idx X' x o a OW OF :=
  ⟨hs.get h.c h1, h.ow.step hs h2, h.of.step hs h3, h.ne, h.inv⟩
theorem Idx.l0 (h : Idx X x o a OW OF) : ld1 (pa x 0) X = some (.map (some o), X) := ld1_at h.c rfl
theorem Idx.l1 (h : Idx X x o a OW OF) : ld1 (pa x 1) X = some (.map (some a), X) := ld1_at h.c rfl

theorem lkp2 {id : Nat} {mm : SMap} (h : MapG strv X id mm) : lkp .str (.string ⟨#[]⟩) true (.map (some id)) (strv k) X = some (.tuple #[strv ((aget k mm).getD []), .bool (aget k mm).isSome], X) := by
  rw [h.lkp]
  cases aget k mm <;> rfl

theorem Step.mono2 {o1 o2 : List Nat} (h : Step o1 X o1 X') (hs : ∀ j ∈ o1, j ∈ o2) : Step o2 X o2 X' := h.more hs (fun j hj => .inl hj)

theorem r_mnew : ∃ X' x o a, R (n + 1) n_mailNew [] X = some (pt x, X') ∧ Idx X' x o a [] [] ∧ HLe X X' ∧ X.length ≤ x ∧ X.length ≤ o ∧ X.length ≤ a := by
  obtain ⟨X1, e1, g1, l1, n1⟩ := mkm_d (α := List UInt8) (enc := strv) X
  obtain ⟨X2, e2, g2, l2, n2⟩ := mkm_d (α := List UInt8) (enc := strv) X1
  have e3 : bld (.agg #[.map none, .map none]) [(0, 1, .map (some X.length)), (1, 1, .map (some X1.length))] X2 = some (.agg #[.map (some X.length), .map (some X1.length)], X2) := by simp [↓bind_andk, andk_some, ↓jn_outk, outk_nrm, outk_ext, outk_ret, ↓cnd_b, ret_r, nilc_r, fa_r, ldOne_r, ldA_r, stOne_r, stA_r, rdk_r, rdkA_r, wrk_r, wrkA_r, alc_r, lenS_r, lenT_r, cvi_r, pick_r, not_r, mx_r, mn_r, ixa_r, ixaA_r, bld_r, add_r, sub_r, mul_r, quo_r, rem_r, eql_r, neq_r, lss_r, leq_r, gtr_r, geq_r, eqb_r, neb_r, eqp_r, nep_r, ↓gv_r, gvn_r, ↓g_r, gn_r, isTup, bldC, splice, Value.cells]
  have e4 : alc 1 (.agg #[.map (some X.length), .map (some X1.length)]) X2 = some (pt X2.length, X2 ++ [.cells [.map (some X.length), .map (some X1.length)] 1 false false]) := by
    rw [alc_r]; simp [Value.cells, oneCell]
  refine ⟨X2 ++ [.cells [.map (some X.length), .map (some X1.length)] 1 false false], X2.length, X.length, X1.length, ?_, ⟨app_new, (g1.hle l2).hle (.app _ _), g2.hle (.app _ _), by omega, ⟨fun k v => by simp [aget], rfl, by simp⟩⟩, (l1.trans l2).trans (.app _ _), by omega, Nat.le_refl _, by omega⟩
  rw [R, run_mailNew rfl]
  unfold F_mailNew
  rw [bind_eq e1, bind_eq e2, bind_eq e3, bind_eq e4]
  rfl

theorem r_mdrop (h : Idx X x o a OW OF) : ∃ X', R (n + 1) n_mailIndexDrop [pt x, strv k] X = some (.bool (aget k OF).isSome, X') ∧ Idx X' x o a (dropO k OW OF) (dropF k OF) ∧ Step [o, a] X [o, a] X' := by
  have e1 := lkp2 (k := k) h.of.g
  have f1 : ∀ r X', F_mailIndexDrop (R n) (pt x) (strv k) X = some (r, X') → R (n + 1) n_mailIndexDrop [pt x, strv k] X = some (r, X') := fun r X' hr => by rw [R, run_mailIndexDrop rfl]; exact hr
  cases hk : aget k OF with
  | none =>
    rw [hk] at e1
    simp only [Option.isSome_none, Option.getD_none] at e1 ⊢
    have hi : Idx X x o a (dropO k OW OF) (dropF k OF) := by unfold dropO dropF; rw [hk]; exact h
    refine ⟨X, f1 _ _ ?_, hi, .refl _ _⟩
    unfold F_mailIndexDrop
    rw [bind_eq nilc_r, bind_eq fa_z, bind_eq h.l1, bind_eq e1, bind_eq extr_p0, bind_eq extr_p1]
    refine (jn_nrm (vs := [.bool false]) (H' := X) ?_).trans rfl
    rw [cnd_b, if_neg (by simp)]
    rfl
  | some mm =>
    rw [hk] at e1
    simp only [Option.isSome_some, Option.getD_some] at e1 ⊢
    obtain ⟨X1, e2, m2, s2, _⟩ := h.ow.mde (k := mm)
    have of1 := h.of.step s2 (by simp [Ne.symm h.ne])
    have c1 := s2.get h.c (by simp [h.not.1])
    obtain ⟨X2, e3, m3, s3, _⟩ := of1.mde (k := k)
    have s12 := (s2.mono2 (o2 := [o, a]) (by simp)).trans (s3.mono2 (o2 := [o, a]) (by simp))
    have hinv := h.inv.drop (k := k) h.ow.nod h.of.nod
    have hi : Idx X2 x o a (dropO k OW OF) (dropF k OF) := by
      unfold dropO dropF at hinv ⊢
      rw [hk] at hinv ⊢
      exact ⟨s3.get c1 (by simp [h.not.2]), m2.step s3 (by simp [h.ne]), m3, h.ne, hinv⟩
    refine ⟨X2, f1 _ _ ?_, hi, s12⟩
    have l0' : ld1 (pa x 0) X = some (.map (some o), X) := h.l0
    have l1' : ld1 (pa x 1) X1 = some (.map (some a), X1) := ld1_at c1 rfl
    unfold F_mailIndexDrop
    rw [bind_eq nilc_r, bind_eq fa_z, bind_eq h.l1, bind_eq e1, bind_eq extr_p0, bind_eq extr_p1]
    refine (jn_nrm (vs := [.bool true]) (H' := X2) ?_).trans rfl
    rw [cnd_b, if_pos rfl, bind_eq nilc_r, bind_eq fa_z, bind_eq l0']
    refine (bind_eq e2).trans ?_
    rw [bind_eq nilc_r, bind_eq fa_z, bind_eq l1', bind_eq e3]
    rfl

/-- Both entries are laid in. -/
theorem both_put {f : List UInt8} (h : Idx X x o a OW OF) (h1 : aget f OW = none) (h2 : aget k OF = none) (hk : k ≠ [] ∧ k.length ≤ 12) (hf : f ≠ [] ∧ f.length ≤ 20) :
    ∃ X', (∀ K : M Value, bind (men .str (.string ⟨#[]⟩) (.map (some o)) (strv f)) (fun v60 => bind (extr v60 1) fun v61 => bind (ens (.map (some o)) v61 (strv k)) fun _ => bind (men .str (.string ⟨#[]⟩) (.map (some a)) (strv k)) fun v62 => bind (extr v62 1) fun v63 => bind (ens (.map (some a)) v63 (strv f)) fun _ => K) X = K X') ∧ Idx X' x o a (aput f k OW) (aput k f OF) ∧ Step [o, a] X [o, a] X' := by
  obtain ⟨t1, st1, Y1, Y2, e1, e2, e3, m1, _, s1, _⟩ := h.ow.put (k := f) (v := k) (z := .string ⟨#[]⟩)
  have of1 := h.of.step s1 (by simp [Ne.symm h.ne])
  have c1 := s1.get h.c (by simp [h.not.1])
  obtain ⟨t2, st2, Z1, Z2, e4, e5, e6, m2, _, s2, _⟩ := of1.put (k := k) (v := f) (z := .string ⟨#[]⟩)
  refine ⟨Z2, fun K => ?_, ⟨s2.get c1 (by simp [h.not.2]), m1.step s2 (by simp [h.ne]), m2, h.ne, h.inv.put h1 h2 hk hf⟩, (s1.mono2 (o2 := [o, a]) (by simp)).trans (s2.mono2 (o2 := [o, a]) (by simp))⟩
  rw [bind_eq e1, bind_eq e2, bind_eq e3, bind_eq e4, bind_eq e5, bind_eq e6]

theorem r_mset (h : Idx X x o a OW OF) : ∃ X', R (n + 9) n_mailIndexSet [pt x, strv k, strv m] X = some (iv (errSetI k m OW), X') ∧ Idx X' x o a (setO k m OW OF) (setF k m OW OF) ∧ Step [o, a] X [o, a] X' := by
  have f1 : ∀ r X', F_mailIndexSet (R (n + 8)) (pt x) (strv k) (strv m) X = some (r, X') → R (n + 9) n_mailIndexSet [pt x, strv k, strv m] X = some (r, X') := fun r X' hr => by rw [R, run_mailIndexSet rfl]; exact hr
  have e1 : R (n + 8) n_nameName [strv k] X = some (iv (errName k), X) := r_name0 (n := n + 3)
  have q1 : bop .str .eql (strv m) (.string ⟨#[]⟩) X = some (.bool (m == []), X) := eqs_v (b := [])
  unfold errSetI setO setF errSetI
  cases hn : nameB k
  · have he : errName k = 10 := by unfold errName; rw [hn]; rfl
    refine ⟨X, f1 _ _ ?_, by simpa using h, .refl _ _⟩
    unfold F_mailIndexSet
    rw [bind_eq e1, he, bind_eq neq_r, cnd_b, if_pos (by rfl)]
    rfl
  · have he : errName k = 0 := errName_0.2 hn
    by_cases hm0 : m = []
    · obtain ⟨X1, e2, i2, s2⟩ := r_mdrop (n := n + 7) (k := k) h
      have e2 : R (n + 8) n_mailIndexDrop [pt x, strv k] X = _ := e2
      refine ⟨X1, f1 _ _ ?_, by simpa [hm0] using i2, s2⟩
      unfold F_mailIndexSet
      rw [bind_eq e1, he, bind_eq neq_r, cnd_b, if_neg (by decide), bind_eq q1, cnd_b, if_pos (by simp [hm0]), bind_eq e2]
      simp [hm0, ret]
    · obtain ⟨X1, e2, k2⟩ := r_mail (n := n) (s := m) (X := X)
      have h1 := h.hle k2
      have ks := k2.step.more (o2 := [o, a]) (o2' := [o, a]) (by simp) (fun j hj => .inl hj)
      cases hmb : mailB m
      · rw [hmb] at e2
        refine ⟨X1, f1 _ _ ?_, by simpa [hm0] using h1, ks⟩
        unfold F_mailIndexSet
        rw [bind_eq e1, he, bind_eq neq_r, cnd_b, if_neg (by decide), bind_eq q1, cnd_b, if_neg (by simpa using hm0), bind_eq e2, bind_eq extr_p0, bind_eq extr_p1]
        have q3 : bop .int .neq (iv (if false = true then 0 else 11)) (.int .i64 0) X1 = some (.bool true, X1) := by rw [neq_r]; rfl
        rw [bind_eq q3, cnd_b, if_pos rfl]
        simp [hm0, ret]
      · rw [hmb] at e2
        simp only [if_true] at e2
        have e3 := lkp2 (k := foldL m) h1.ow.g
        have hfm := mail_ne hmb
        have hkn := name_ne hn
        have q3 : bop .int .neq (iv 0) (.int .i64 0) X1 = some (.bool false, X1) := by rw [neq_r]; rfl
        simp only [if_true, if_neg hm0]
        have hgo : (∀ w, aget (foldL m) OW = some w → w = k) → ∃ X', R (n + 9) n_mailIndexSet [pt x, strv k, strv m] X = some (iv 0, X') ∧ Idx X' x o a (aput (foldL m) k (dropO k OW OF)) (aput k (foldL m) (dropF k OF)) ∧ Step [o, a] X [o, a] X' := fun hw => by
          obtain ⟨X2, e4, i4, s4⟩ := r_mdrop (n := n + 7) (k := k) h1
          have e4 : R (n + 8) n_mailIndexDrop [pt x, strv k] X1 = _ := e4
          obtain ⟨X3, e5, i5, s5⟩ := both_put (k := k) (f := foldL m) i4 (dropO_none h.inv hw) dropF_none hkn hfm
          refine ⟨X3, f1 _ _ ?_, i5, (ks.trans s4).trans s5⟩
          unfold F_mailIndexSet
          rw [bind_eq e1, he, bind_eq neq_r, cnd_b, if_neg (by decide), bind_eq q1, cnd_b, if_neg (by simpa using hm0), bind_eq e2, bind_eq extr_p0, bind_eq extr_p1, bind_eq q3, cnd_b, if_neg (by simp), bind_eq nilc_r, bind_eq fa_z, bind_eq h1.l0, bind_eq e3, bind_eq extr_p0, bind_eq extr_p1]
          cases ho : aget (foldL m) OW with
          | none =>
            simp only [Option.isSome_none]
            rw [bind_eq (g_r.trans (if_neg (by simp)))]
            simp only [List.replicate]
            rw [c3_r, bind_eq pick_r]
            simp only [cond_false]
            rw [cnd_b, if_neg (by simp), bind_eq e4, bind_eq nilc_r, bind_eq fa_z, bind_eq i4.l0, bind_eq nilc_r, bind_eq fa_z, bind_eq i4.l1]
            exact e5 _
          | some w =>
            have := hw w ho
            subst this
            have q4 : bop .str .neq (strv w) (strv w) X1 = some (.bool false, X1) := by rw [nes_v]; simp
            simp only [Option.isSome_some, Option.getD_some]
            rw [b_g_in, b_assoc, bind_eq q4, b_ret, c3_r, bind_eq pick_r]
            simp only [cond_true]
            rw [cnd_b, if_neg (by simp), bind_eq e4, bind_eq nilc_r, bind_eq fa_z, bind_eq i4.l0, bind_eq nilc_r, bind_eq fa_z, bind_eq i4.l1]
            exact e5 _
        cases ho : aget (foldL m) OW with
        | none => simpa using hgo (fun w hw => by rw [ho] at hw; cases hw)
        | some w =>
          by_cases hw : w = k
          · simpa [hw] using hgo (fun w' hw' => by rw [ho] at hw'; cases hw'; exact hw)
          · simp only [if_neg hw]
            refine ⟨X1, f1 _ _ ?_, by simpa using h1, ks⟩
            have q4 : bop .str .neq (strv w) (strv k) X1 = some (.bool true, X1) := by rw [nes_v, beq_eq_false_iff_ne.2 hw]; rfl
            rw [ho] at e3
            simp only [Option.isSome_some, Option.getD_some] at e3
            unfold F_mailIndexSet
            rw [bind_eq e1, he, bind_eq neq_r, cnd_b, if_neg (by decide), bind_eq q1, cnd_b, if_neg (by simpa using hm0), bind_eq e2, bind_eq extr_p0, bind_eq extr_p1, bind_eq q3, cnd_b, if_neg (by simp), bind_eq nilc_r, bind_eq fa_z, bind_eq h1.l0, bind_eq e3, bind_eq extr_p0, bind_eq extr_p1, b_g_in, b_assoc, bind_eq q4, b_ret, c3_r, bind_eq pick_r]
            simp only [cond_true]
            rw [cnd_b, if_pos rfl]
            rfl

theorem r_mren {old next : List UInt8} (h : Idx X x o a OW OF) : ∃ X', R (n + 6) n_mailIndexRename [pt x, strv old, strv next] X = some (iv (errRenI old next OF), X') ∧ Idx X' x o a (renO old next OW OF) (renF old next OF) ∧ Step [o, a] X [o, a] X' := by
  have f1 : ∀ r X', F_mailIndexRename (R (n + 5)) (pt x) (strv old) (strv next) X = some (r, X') → R (n + 6) n_mailIndexRename [pt x, strv old, strv next] X = some (r, X') := fun r X' hr => by rw [R, run_mailIndexRename rfl]; exact hr
  have e1 : R (n + 5) n_nameName [strv next] X = some (iv (errName next), X) := r_name0
  have e2 := lkp2 (k := old) h.of.g
  have e3 := lkp2 (k := next) h.of.g
  unfold errRenI renO renF errRenI
  cases hn : nameB next
  · have he : errName next = 10 := by unfold errName; rw [hn]; rfl
    refine ⟨X, f1 _ _ ?_, by simpa using h, .refl _ _⟩
    unfold F_mailIndexRename
    rw [bind_eq e1, he, bind_eq neq_r, cnd_b, if_pos (by rfl)]
    rfl
  · have he : errName next = 0 := errName_0.2 hn
    simp only [if_true]
    cases ho : aget old OF with
    | none =>
      rw [ho] at e2
      simp only [Option.isSome_none, Option.getD_none] at e2
      refine ⟨X, f1 _ _ ?_, by simpa using h, .refl _ _⟩
      unfold F_mailIndexRename
      rw [bind_eq e1, he, bind_eq neq_r, cnd_b, if_neg (by decide), bind_eq nilc_r, bind_eq fa_z, bind_eq h.l1, bind_eq e2, bind_eq extr_p0, bind_eq extr_p1, bind_eq nilc_r, bind_eq fa_z, bind_eq h.l1, bind_eq e3, bind_eq extr_p0, bind_eq extr_p1, bind_eq not_r, cnd_b, if_pos (by rfl)]
      rfl
    | some mm =>
      rw [ho] at e2
      simp only [Option.isSome_some, Option.getD_some] at e2 ⊢
      have hml := h.inv.lens (old, mm) (aget_mem ho)
      have hmo := (h.inv.inv old mm).1 ho
      have q4 : bop .str .neq (strv next) (strv old) X = some (.bool (!(next == old)), X) := nes_v
      have hpk : ∀ K : Value → M Value, bind (gate (.bool (aget next OF).isSome) true 3 (bind (bop .str .neq (strv next) (strv old)) fun v43x16 => ret [strv next, strv old, v43x16])) (c3 fun _ _ q17_2 => bind (pick (.bool (aget next OF).isSome) q17_2 (Value.bool false)) K) X = K (.bool ((aget next OF).isSome && !(next == old))) X := fun K => by
        cases (aget next OF).isSome
        · rw [bind_eq (g_r.trans (if_neg (by simp)))]
          simp only [List.replicate]
          rw [c3_r, bind_eq pick_r]
          rfl
        · rw [b_g_in, b_assoc, bind_eq q4, b_ret, c3_r, bind_eq pick_r]
          rfl
      cases ht : (aget next OF).isSome && !(next == old)
      · rw [ht] at hpk
        simp only [Bool.false_eq_true, if_false, if_true]
        obtain ⟨X2, e4, i4, s4⟩ := r_mdrop (n := n + 4) (k := old) h
        have e4 : R (n + 5) n_mailIndexDrop [pt x, strv old] X = _ := e4
        have hnn : aget next (dropF old OF) = none := by
          by_cases hno : next = old
          · subst hno; exact dropF_none
          · rw [dropF_ne hno]
            have h5 : (next == old) = false := beq_eq_false_iff_ne.2 hno
            rw [h5] at ht
            cases hx : aget next OF with
            | none => rfl
            | some y => rw [hx] at ht; simp at ht
        obtain ⟨X3, e5, i5, s5⟩ := both_put (k := next) (f := mm) i4 (dropO_none h.inv (fun w hw => by rw [hmo] at hw; exact (Option.some.inj hw).symm)) hnn (name_ne hn) ⟨hml.2.2.1, hml.2.2.2⟩
        refine ⟨X3, f1 _ _ ?_, i5, s4.trans s5⟩
        unfold F_mailIndexRename
        rw [bind_eq e1, he, bind_eq neq_r, cnd_b, if_neg (by decide), bind_eq nilc_r, bind_eq fa_z, bind_eq h.l1, bind_eq e2, bind_eq extr_p0, bind_eq extr_p1, bind_eq nilc_r, bind_eq fa_z, bind_eq h.l1, bind_eq e3, bind_eq extr_p0, bind_eq extr_p1, bind_eq not_r, cnd_b, if_neg (by simp)]
        refine (hpk _).trans ?_
        rw [cnd_b, if_neg (by simp), bind_eq e4, bind_eq nilc_r, bind_eq fa_z, bind_eq i4.l0, bind_eq nilc_r, bind_eq fa_z, bind_eq i4.l1]
        exact e5 _
      · rw [ht] at hpk
        simp only [if_true]
        refine ⟨X, f1 _ _ ?_, by simpa using h, .refl _ _⟩
        unfold F_mailIndexRename
        rw [bind_eq e1, he, bind_eq neq_r, cnd_b, if_neg (by decide), bind_eq nilc_r, bind_eq fa_z, bind_eq h.l1, bind_eq e2, bind_eq extr_p0, bind_eq extr_p1, bind_eq nilc_r, bind_eq fa_z, bind_eq h.l1, bind_eq e3, bind_eq extr_p0, bind_eq extr_p1, bind_eq not_r, cnd_b, if_neg (by simp)]
        refine (hpk _).trans ?_
        rw [cnd_b, if_pos rfl]
        rfl

theorem r_mof (h : Idx X x o a OW OF) : R (n + 1) n_mailIndexOf [pt x, strv k] X = some (.tuple #[strv ((aget k OF).getD []), .bool (aget k OF).isSome], X) := by
  have e1 := lkp2 (k := k) h.of.g
  rw [R, run_mailIndexOf rfl]
  unfold F_mailIndexOf
  rw [bind_eq nilc_r, bind_eq fa_z, bind_eq h.l1, bind_eq e1, bind_eq extr_p0, bind_eq extr_p1]
  rfl

theorem r_mlen (h : Idx X x o a OW OF) : R (n + 1) n_mailIndexLen [pt x] X = some (iv OF.length, X) := by
  rw [R, run_mailIndexLen rfl]
  unfold F_mailIndexLen
  rw [bind_eq nilc_r, bind_eq fa_z, bind_eq h.l0, bind_eq h.ow.g.len, h.inv.same]
  rfl

def errFindI (m : List UInt8) (OW : SMap) : Int := if mailB m then (if (aget (foldL m) OW).isSome then 0 else 8) else 11
def findT (m : List UInt8) (OW : SMap) : List UInt8 := if mailB m then (aget (foldL m) OW).getD [] else []

theorem r_mfind (h : Idx X x o a OW OF) : ∃ X', R (n + 9) n_mailIndexFind [pt x, strv m] X = some (.tuple #[strv (findT m OW), iv (errFindI m OW)], X') ∧ HLe X X' := by
  obtain ⟨X1, e2, k2⟩ := r_mail (n := n) (s := m) (X := X)
  have f1 : ∀ r X', F_mailIndexFind (R (n + 8)) (pt x) (strv m) X = some (r, X') → R (n + 9) n_mailIndexFind [pt x, strv m] X = some (r, X') := fun r X' hr => by rw [R, run_mailIndexFind rfl]; exact hr
  have h1 := h.hle k2
  refine ⟨X1, f1 _ _ ?_, k2⟩
  unfold F_mailIndexFind errFindI findT
  cases hmb : mailB m
  · rw [hmb] at e2
    have q3 : bop .int .neq (iv (if false = true then 0 else 11)) (.int .i64 0) X1 = some (.bool true, X1) := by rw [neq_r]; rfl
    rw [bind_eq e2, bind_eq extr_p0, bind_eq extr_p1, bind_eq q3, cnd_b, if_pos rfl]
    rfl
  · rw [hmb] at e2
    simp only [if_true] at e2
    have e3 := lkp2 (k := foldL m) h1.ow.g
    have q3 : bop .int .neq (iv 0) (.int .i64 0) X1 = some (.bool false, X1) := by rw [neq_r]; rfl
    rw [bind_eq e2, bind_eq extr_p0, bind_eq extr_p1, bind_eq q3, cnd_b, if_neg (by simp), bind_eq nilc_r, bind_eq fa_z, bind_eq h1.l0, bind_eq e3, bind_eq extr_p0, bind_eq extr_p1, bind_eq not_r]
    cases aget (foldL m) OW with
    | none => simp [cnd_b, ret]; rfl
    | some w => simp [cnd_b, ret]

end

end Go.Proofs.YtmacmlpiheimhaaDoor.A

/- What an index tells: its pairs, in their order. -/
namespace Go.Proofs.YtmacmlpiheimhaaDoor.A
set_option linter.unusedVariables false
set_option linter.unusedSimpArgs false
open Go.Proofs Go.Proofs.YtmacmlpiheimhaaDoor

/-- A pair, as it lies. -/
def prc (u : Ent) : List Value := [strv u.1, strv u.2]
theorem prc_len (u : Ent) : (prc u).length = 2 := rfl
theorem prc_one (u : Ent) : (prc u).all oneCell = true := rfl

section
variable {H X X' : Heap} {n x o a : Nat} {OW OF : SMap} {k m : List UInt8}

theorem r_mcopy (h : Idx X x o a OW OF) : ∃ X' x' o' a', R (n + 2) n_mailIndexCopy [pt x] X = some (pt x', X') ∧ Idx X' x' o' a' OW OF ∧ HLe X X' ∧ X.length ≤ x' ∧ X.length ≤ o' ∧ X.length ≤ a' := by
  obtain ⟨X1, e1, g1, l1, n1⟩ := h.ow.clone
  obtain ⟨X2, e2, g2, l2, n2⟩ := (h.of.hle l1).clone
  have e1' : run Tryd.prog np lvs (n + 1) n_mapsCloneMapStringstringStringString [.map (some o)] X = some (.map (some X.length), X1) := by
    rw [run_prim (show np n_mapsCloneMapStringstringStringString = some cloneM from rfl)]
    exact e1
  have e2' : run Tryd.prog np lvs (n + 1) n_mapsCloneMapStringstringStringString [.map (some a)] X1 = some (.map (some X1.length), X2) := by
    rw [run_prim (show np n_mapsCloneMapStringstringStringString = some cloneM from rfl)]
    exact e2
  have e3 : bld (.agg #[.map none, .map none]) [(0, 1, .map (some X.length)), (1, 1, .map (some X1.length))] X2 = some (.agg #[.map (some X.length), .map (some X1.length)], X2) := by simp [↓bind_andk, andk_some, ↓jn_outk, outk_nrm, outk_ext, outk_ret, ↓cnd_b, ret_r, nilc_r, fa_r, ldOne_r, ldA_r, stOne_r, stA_r, rdk_r, rdkA_r, wrk_r, wrkA_r, alc_r, lenS_r, lenT_r, cvi_r, pick_r, not_r, mx_r, mn_r, ixa_r, ixaA_r, bld_r, add_r, sub_r, mul_r, quo_r, rem_r, eql_r, neq_r, lss_r, leq_r, gtr_r, geq_r, eqb_r, neb_r, eqp_r, nep_r, ↓gv_r, gvn_r, ↓g_r, gn_r, isTup, bldC, splice, Value.cells]
  have e4 : alc 1 (.agg #[.map (some X.length), .map (some X1.length)]) X2 = some (pt X2.length, X2 ++ [.cells [.map (some X.length), .map (some X1.length)] 1 false false]) := by
    rw [alc_r]; simp [Value.cells, oneCell]
  refine ⟨X2 ++ [.cells [.map (some X.length), .map (some X1.length)] 1 false false], X2.length, X.length, X1.length, ?_, ⟨app_new, (g1.hle l2).hle (.app _ _), g2.hle (.app _ _), by omega, h.inv⟩, (l1.trans l2).trans (.app _ _), by omega, Nat.le_refl _, by omega⟩
  rw [R, run_mailIndexCopy rfl]
  unfold F_mailIndexCopy
  rw [bind_eq nilc_r, bind_eq fa_z, bind_eq h.l0, bind_eq nilc_r, bind_eq fa_z, bind_eq h.l1, bind_eq e1', bind_eq (h.hle l1).l1, same_self, bind_eq e2', bind_eq e3, bind_eq e4]
  rfl

/-- The names and their map, as an iterator holds them. -/
theorem r_mnames (h : Idx X x o a OW OF) (hf : OF.length ≤ 1000) : ∃ X' v q nb mb a', R (n + 2) n_mailIndexNames [pt x] X = some (.func (.func n_mailIndexNames1) #[] #[pt nb, pt mb], X') ∧ X'[nb]? = some (.cells [v] 1 false false) ∧ X'[mb]? = some (.cells [.map (some a')] 1 false false) ∧ MapD strv X' a' OF ∧ RowS X' v ((ksort (OF.map (·.1))).map strv) q ∧ HLe X X' ∧ X.length ≤ nb ∧ X.length ≤ mb ∧ X.length ≤ a' ∧ ∀ j ∈ q, X.length ≤ j := by
  obtain ⟨X1, e1, g1, l1, n1⟩ := h.of.clone
  have e1' : run Tryd.prog np lvs (n + 1) n_mapsCloneMapStringstringStringString [.map (some a)] X = some (.map (some X.length), X1) := by
    rw [run_prim (show np n_mapsCloneMapStringstringStringString = some cloneM from rfl)]
    exact e1
  have e2 := alc_s (v := .map none) rfl rfl X1
  have c2 : (X1 ++ [AObj.cells [.map none] 1 false false])[X1.length]? = some (.cells [.map none] 1 false false) := app_new
  have e3 : st1 (pt X1.length) (.map (some X.length)) (X1 ++ [AObj.cells [.map none] 1 false false]) = some (undef, (X1 ++ [AObj.cells [.map none] 1 false false]).set X1.length (.cells [.map (some X.length)] 1 false false)) := st1_at (o := 0) c2 (by simp) rfl
  rw [set_new] at e3
  have l3 : HLe X1 (X1 ++ [AObj.cells [.map (some X.length)] 1 false false]) := .app _ _
  have c3 : (X1 ++ [AObj.cells [.map (some X.length)] 1 false false])[X1.length]? = some (.cells [.map (some X.length)] 1 false false) := app_new
  generalize X1 ++ [AObj.cells [.map (some X.length)] 1 false false] = X3 at e3 l3 c3
  have e4 : run Tryd.prog np lvs (n + 1) n_mapsKeysMapStringstringStringString [.map (some X.length)] X3 = some (.func (.func n_keysStr) #[] #[pt X3.length], X3 ++ [.cells [.map (some X.length)] 1 false false]) := by
    rw [run_mapsKeysMapStringstringStringString rfl]
    unfold F_mapsKeysMapStringstringStringString
    rw [bind_eq (alc_s rfl rfl _)]
    rfl
  have l4 : HLe X3 (X3 ++ [.cells [.map (some X.length)] 1 false false]) := .app _ _
  obtain ⟨v, q, X5, e5, r5, l5, o5⟩ := ((g1.hle l3).g.hle l4).keys (gks := keyFns) (gc := n_nameCompare) (gk := n_keysStr) (c := X3.length) (by decide) app_new (Nat.le_trans hf (by decide)) (fun p hp => Nat.le_trans (h.inv.lens p hp).2.1 (by decide))
  have e5' : run Tryd.prog np lvs (n + 1) n_slicesSortedFuncString [.func (.func n_keysStr) #[] #[pt X3.length], .func (.func n_nameCompare) #[] #[]] (X3 ++ [.cells [.map (some X.length)] 1 false false]) = some (v, X5) := by
    rw [run_prim (show np n_slicesSortedFuncString = some (skeysM keyFns n_nameCompare) from rfl)]
    exact e5
  have e6 := alc_s (v := .slice none 0 0) rfl rfl X5
  have c6 : (X5 ++ [AObj.cells [.slice none 0 0] 1 false false])[X5.length]? = some (.cells [.slice none 0 0] 1 false false) := app_new
  have e7 : st1 (pt X5.length) v (X5 ++ [AObj.cells [.slice none 0 0] 1 false false]) = some (undef, (X5 ++ [AObj.cells [.slice none 0 0] 1 false false]).set X5.length (.cells [v] 1 false false)) := st1_at (o := 0) c6 (by simp) r5.one.1
  rw [set_new] at e7
  have l7 : HLe X5 (X5 ++ [AObj.cells [v] 1 false false]) := .app _ _
  have c7 : (X5 ++ [AObj.cells [v] 1 false false])[X5.length]? = some (.cells [v] 1 false false) := app_new
  generalize X5 ++ [AObj.cells [v] 1 false false] = X7 at e7 l7 c7
  have l37 := (l4.trans l5).trans l7
  refine ⟨X7, v, q, X5.length, X1.length, X.length, ?_, c7, l37 _ _ c3, g1.hle (l3.trans l37), r5.step l7.step (by simp), (l1.trans l3).trans l37, (((l1.trans l3).trans l4).trans l5).len, l1.len, Nat.le_refl _, fun j hj => Nat.le_trans ((l1.trans l3).trans l4).len (o5 j hj)⟩
  rw [R, run_mailIndexNames rfl]
  unfold F_mailIndexNames
  rw [bind_eq nilc_r, bind_eq fa_z, bind_eq h.l1, bind_eq e1', bind_eq e2, bind_eq e3, bind_eq (ld_s c3), bind_eq e4]
  refine (bind_eq e5').trans ?_
  rw [bind_eq e6, bind_eq e7]
  rfl

/-- One round: a pair is appended; are they enough? -/
theorem pr_round {L c mb : Nat} {most : Int} {s : Value} {vs : SMap} {q : List Nat} {nm ml : List UInt8} (hL : H[L]? = some (F_law09Pairs.o1 (pt mb) (pt c) .ready none)) (hc : H[c]? = some (.cells [s] 1 false false)) (hm : H[mb]? = some (.cells [iv most] 1 false false)) (hd : c ≠ L ∧ mb ≠ L ∧ c ≠ mb) (hr : RowN 2 H s (vs.map prc) q) (hq : c ∉ q ∧ L ∉ q ∧ mb ∉ q) (hb : vs.length ≤ 100000) :
    ∃ H' s' q', R (n + 1) (yoff + L) [strv nm, strv ml] H = some (.bool (decide (((vs.length + 1 : Nat) : Int) < most)), H') ∧ (∃ st pd, H'[L]? = some (F_law09Pairs.o1 (pt mb) (pt c) st pd) ∧ (if ((vs.length + 1 : Nat) : Int) < most then st = .ready ∧ pd = none else st = .done ∧ pd = some (.exit 0))) ∧ H'[c]? = some (.cells [s'] 1 false false) ∧ H'[mb]? = some (.cells [iv most] 1 false false) ∧ RowN 2 H' s' ((vs ++ [(nm, ml)]).map prc) q' ∧ Step (L :: c :: q) H (L :: c :: q') H' ∧ (c ∉ q' ∧ L ∉ q' ∧ mb ∉ q') := by
  have hLl := get_lt hL
  have hcl := get_lt hc
  have hml := get_lt hm
  generalize hH1 : H.set L (F_law09Pairs.o1 (pt mb) (pt c) .busy none) = H1
  have l1 : H1.length = H.length := by rw [← hH1]; simp
  have n1 : ∀ j, j ≠ L → H1[j]? = H[j]? := fun j hj => by rw [← hH1]; exact List.getElem?_set_ne (Ne.symm hj)
  have L1 : H1[L]? = some (F_law09Pairs.o1 (pt mb) (pt c) .busy none) := by rw [← hH1]; exact set_get hL
  have c1 := (n1 c hd.1).trans hc
  have m1 := (n1 mb hd.2.1).trans hm
  have e1 : ld1 (pt c) H1 = some (s, H1) := ld1_at c1 rfl
  have e0 : bld (.agg #[.string ⟨#[]⟩, .string ⟨#[]⟩]) [(0, 1, strv nm), (1, 1, strv ml)] H1 = some (.agg (prc (nm, ml)).toArray, H1) := by
    simp [↓bind_andk, andk_some, ↓jn_outk, outk_nrm, outk_ext, outk_ret, ↓cnd_b, ret_r, nilc_r, fa_r, ldOne_r, ldA_r, stOne_r, stA_r, rdk_r, rdkA_r, wrk_r, wrkA_r, alc_r, lenS_r, lenT_r, cvi_r, pick_r, not_r, mx_r, mn_r, ixa_r, ixaA_r, bld_r, add_r, sub_r, mul_r, quo_r, rem_r, eql_r, neq_r, lss_r, leq_r, gtr_r, geq_r, eqb_r, neb_r, eqp_r, nep_r, ↓gv_r, gvn_r, ↓g_r, gn_r, isTup, bldC, splice, Value.cells, strv, prc, oneCell]
  have e2 := bsl_a (es := 2) (z := .agg #[.string ⟨#[]⟩, .string ⟨#[]⟩]) (H := H1) rfl (prc_len (nm, ml)) (prc_one _)
  generalize hH2 : H1 ++ [AObj.cells (prc (nm, ml)) 2 false false] = H2 at e2
  have le2 : HLe H1 H2 := by rw [← hH2]; exact .app _ _
  have l2 : H2.length = H.length + 1 := by rw [← hH2]; simp [l1]
  have hx : SlN 2 H2 (.slice (some ⟨H1.length, 0, none⟩) 1 1) [prc (nm, ml)] := SlN.whole (rows := [prc (nm, ml)]) (c := 1) (e := 2) (g := false) (ro := false) (by rw [← hH2, app_new]; simp) (by simp [prc_len])
  have hr2 : RowN 2 H2 s (vs.map prc) q := (hr.keep fun j hj => n1 j (fun e => hq.2.1 (e ▸ hj))).step le2.step (by simp)
  obtain ⟨s', H3, q', e3, r3, t3⟩ := hr2.push (b := 32) hx (prc_len _) (by simp; omega) (by simp; omega)
  have l3 := t3.len
  have qlt := hr.lt
  have own : ∀ j, j < H.length → j ∉ q → j ∉ q' := fun j hj hn hm => by
    rcases t3.own j hm with h | h
    · exact hn h
    · omega
  have cq := own c hcl hq.1
  have Lq := own L hLl hq.2.1
  have mq := own mb hml hq.2.2
  have c3 := t3.get (le2 _ _ c1) hq.1
  have L3 := t3.get (le2 _ _ L1) hq.2.1
  have m3 := t3.get (le2 _ _ m1) hq.2.2
  have e4 : st1 (pt c) s' H3 = some (undef, _) := st1_at c3 (by simp) r3.one.1
  generalize hH4 : H3.set c (.cells ([s].set 0 s') 1 false false) = H4 at e4
  have n4 : ∀ j, j ≠ c → H4[j]? = H3[j]? := fun j hj => by rw [← hH4]; exact List.getElem?_set_ne (Ne.symm hj)
  have c4 : H4[c]? = some (.cells [s'] 1 false false) := by rw [← hH4]; exact set_get c3
  have L4 := (n4 L (Ne.symm hd.1)).trans L3
  have m4 := (n4 mb (Ne.symm hd.2.2)).trans m3
  have r4 : RowN 2 H4 s' ((vs ++ [(nm, ml)]).map prc) q' := by
    rw [List.map_append]
    exact r3.keep fun j hj => n4 j (fun e => cq (e ▸ hj))
  have e5 : ld1 (pt c) H4 = some (s', H4) := ld1_at c4 rfl
  have e6 := r4.rd.len (H' := H4)
  rw [List.length_map, List.length_append, List.length_singleton] at e6
  have e7 : ld1 (pt mb) H4 = some (iv most, H4) := ld1_at m4 rfl
  have l4 : H4.length = H3.length := by rw [← hH4]; simp
  have fin : ∀ (st : LoopState) (pd : Option Code) (H5 : Heap), H4.set L (F_law09Pairs.o1 (pt mb) (pt c) st pd) = H5 → H5[L]? = some (F_law09Pairs.o1 (pt mb) (pt c) st pd) ∧ H5[c]? = some (.cells [s'] 1 false false) ∧ H5[mb]? = some (.cells [iv most] 1 false false) ∧ RowN 2 H5 s' ((vs ++ [(nm, ml)]).map prc) q' ∧ Step (L :: c :: q) H (L :: c :: q') H5 := fun st pd H5 h5 => by
    have n5 : ∀ j, j ≠ L → H5[j]? = H4[j]? := fun j hj => by rw [← h5]; exact List.getElem?_set_ne (Ne.symm hj)
    refine ⟨by rw [← h5]; exact set_get L4, (n5 c hd.1).trans c4, (n5 mb hd.2.1).trans m4, r4.keep fun j hj => n5 j (fun e => Lq (e ▸ hj)), ⟨?_, fun j hj hn => ?_, fun j hj => ?_⟩⟩
    · have : H5.length = H3.length := by rw [← h5]; simp [l4]
      omega
    · simp only [List.mem_cons, not_or] at hn
      rw [n5 j hn.1, n4 j hn.2.1, t3.keep j (by omega) hn.2.2, le2.step.keep j (by omega) (by simp), n1 j hn.1]
    · simp only [List.mem_cons] at hj ⊢
      rcases hj with h | h | h
      · exact .inl (.inl h)
      · exact .inl (.inr (.inl h))
      · rcases t3.own j h with h | h
        · exact .inl (.inr (.inr h))
        · exact .inr (by omega)
  by_cases hlt : ((vs.length + 1 : Nat) : Int) < most
  · have hf := endR_at (j := none) L4
    obtain ⟨f1, f2, f3, f4, f5⟩ := fin .ready none _ rfl
    refine ⟨_, s', q', ?_, ⟨_, _, f1, by rw [if_pos hlt]; exact ⟨rfl, rfl⟩⟩, f2, f3, f4, f5, cq, Lq, mq⟩
    rw [R, run_round, rd_law09Pairs_r1 hL]
    unfold F_law09Pairs.r1
    rw [begM_at hL, hH1, bind_eq e1, bind_eq e0, bind_eq e2, bind_eq e3, bind_eq e4, bind_eq e5, bind_eq e6, bind_eq e7, bind_eq geq_r, cnd_b, if_neg (by simpa using hlt), hf, decide_eq_true hlt]
    rfl
  · have hf := endR_at (j := some (.exit 0)) L4
    obtain ⟨f1, f2, f3, f4, f5⟩ := fin .done (some (.exit 0)) _ rfl
    refine ⟨_, s', q', ?_, ⟨_, _, f1, by rw [if_neg hlt]; exact ⟨rfl, rfl⟩⟩, f2, f3, f4, f5, cq, Lq, mq⟩
    rw [R, run_round, rd_law09Pairs_r1 hL]
    unfold F_law09Pairs.r1
    rw [begM_at hL, hH1, bind_eq e1, bind_eq e0, bind_eq e2, bind_eq e3, bind_eq e4, bind_eq e5, bind_eq e6, bind_eq e7, bind_eq geq_r, cnd_b, if_pos (by simpa using hlt), hf, decide_eq_false hlt]
    rfl

end

end Go.Proofs.YtmacmlpiheimhaaDoor.A

/- The pairs of an index, up to a number. -/
namespace Go.Proofs.YtmacmlpiheimhaaDoor.A
set_option linter.unusedVariables false
set_option linter.unusedSimpArgs false
open Go.Proofs Go.Proofs.YtmacmlpiheimhaaDoor

/-- All but two objects are as they were. -/
structure Fr (L c : Nat) (H0 H : Heap) : Prop where
  len : H0.length ≤ H.length
  keep : ∀ j, j < H0.length → j ≠ L → j ≠ c → H[j]? = H0[j]?

section
variable {n : Nat}

/-- All rounds: until there are enough, or no more. -/
theorem names_do {L c mb nb : Nat} {x : Value} {a' : Nat} {most : Int} {OF : SMap} {H0 : Heap} {q0 : List Nat} (hx : RowS H0 x ((ksort (OF.map (·.1))).map strv) q0) (hq0 : L ∉ q0 ∧ c ∉ q0 ∧ nb ≠ L ∧ nb ≠ c ∧ a' ≠ L ∧ a' ≠ c) (hg : MapD strv H0 a' OF) (hnb : H0[nb]? = some (.cells [.map (some a')] 1 false false)) (hb : OF.length ≤ 1000) (hd : c ≠ L ∧ mb ≠ L ∧ c ≠ mb) (hLl : L < H0.length) (hcl : c < H0.length) : ∀ (t k : Nat) {H : Heap} {s : Value} {q : List Nat}, OF.length - k = t → k ≤ OF.length → (k : Int) < most → Fr L c H0 H → H[L]? = some (F_law09Pairs.o1 (pt mb) (pt c) .ready none) → H[c]? = some (.cells [s] 1 false false) → H[mb]? = some (.cells [iv most] 1 false false) → RowN 2 H s (((sortM OF).take k).map prc) q → (c ∉ q ∧ L ∉ q ∧ mb ∉ q) → (∀ j ∈ q, H0.length ≤ j) →
    ∃ out H' s' q' st pd, loopM (c5 (F_mailIndexNames1.l1 (R (n + 1)))) [.func (.yield L) #[] #[], pt nb, x, iv OF.length, iv k] H = some (out, H') ∧ (out = .ext 0 [] ∨ out = .ret (.tuple #[])) ∧ Fr L c H0 H' ∧ H'[L]? = some (F_law09Pairs.o1 (pt mb) (pt c) st pd) ∧ (st = .ready ∧ pd = none ∨ st = .done ∧ pd = some (.exit 0)) ∧ H'[c]? = some (.cells [s'] 1 false false) ∧ RowN 2 H' s' (((sortM OF).take most.toNat).map prc) q' ∧ ∀ j ∈ q', H0.length ≤ j
  | 0, k, H, s, q, ht, hk, hkm, hle, hL, hc, hm, hr, hq, ho => by
    have hkl : k = OF.length := by omega
    have h1 : (sortM OF).take k = (sortM OF).take most.toNat := by
      rw [List.take_of_length_le (by rw [sortM_len]; omega), List.take_of_length_le (by rw [sortM_len]; omega)]
    refine ⟨.ext 0 [], H, s, q, _, _, loop_ext ?_, .inl rfl, hle, hL, .inl ⟨rfl, rfl⟩, hc, by rw [← h1]; exact hr, ho⟩
    rw [hkl, c5_r]
    unfold F_mailIndexNames1.l1
    rw [bind_eq lss_r, cnd_b, if_neg (by simp)]
    rfl
  | t + 1, k, H, s, q, ht, hk, hkm, hle, hL, hc, hm, hr, hq, ho => by
    have hlt : k < (ksort (OF.map (·.1))).length := by rw [ksort_len, List.length_map]; omega
    have hg' := List.getElem?_eq_getElem hlt
    generalize (ksort (OF.map (·.1)))[k] = nm at hg'
    have hi : ((ksort (OF.map (·.1))).map strv)[k]? = some (strv nm) := by rw [List.getElem?_map, hg']; rfl
    have htk : (sortM OF).take (k + 1) = (sortM OF).take k ++ [(nm, (aget nm OF).getD [])] := by
      rw [List.take_add_one]
      unfold sortM
      rw [List.getElem?_map, hg']
      rfl
    have hkl : ((sortM OF).take k).length = k := by rw [List.length_take, sortM_len]; omega
    have hx' := (hx.keep fun j hj => hle.keep j (hx.lt j hj) (fun e => hq0.1 (e ▸ hj)) (fun e => hq0.2.1 (e ▸ hj))).rd
    have hg2 := hg.keep (hle.keep a' hg.lt hq0.2.2.2.2.1 hq0.2.2.2.2.2)
    have hl : lkp .str (.string ⟨#[]⟩) false (.map (some a')) (strv nm) H = some (strv ((aget nm OF).getD []), H) := by
      rw [hg2.g.lkp]
      cases aget nm OF <;> rfl
    obtain ⟨H1, s1, q1, e1, ⟨st, pd, L1, hst⟩, c1, m1, r1, t1, n1⟩ := pr_round (n := n) (nm := nm) (ml := (aget nm OF).getD []) hL hc hm hd hr hq (by rw [hkl]; omega)
    rw [← htk] at r1
    rw [hkl] at e1 hst
    have hle1 : Fr L c H0 H1 := ⟨Nat.le_trans hle.len t1.len, fun j hj h1 h2 => by
      refine (t1.keep j (Nat.lt_of_lt_of_le hj hle.len) fun hm => ?_).trans (hle.keep j hj h1 h2)
      simp only [List.mem_cons] at hm
      rcases hm with h | h | h
      · exact h1 h
      · exact h2 h
      · have := ho j h; omega⟩
    have o1 : ∀ j ∈ q1, H0.length ≤ j := fun j hj => by
      have : j ∈ L :: c :: q1 := by simp [hj]
      rcases t1.own j this with h | h
      · simp only [List.mem_cons] at h
        rcases h with h | h | h
        · exact absurd (h ▸ hj) n1.2.1
        · exact absurd (h ▸ hj) n1.1
        · exact ho j h
      · have := hle.len; omega
    have e1' : callv (R (n + 1)) (.func (.yield L) #[] #[]) [strv nm, strv ((aget nm OF).getD [])] H = some (.bool (decide (((k + 1 : Nat) : Int) < most)), H1) := e1
    have e2 : ld1 (pt nb) H = some (.map (some a'), H) := ld1_at ((hle.keep nb (get_lt hnb) hq0.2.2.1 hq0.2.2.2.1).trans hnb) rfl
    have hlt2 : (k : Int) < OF.length := by omega
    by_cases hmo : ((k + 1 : Nat) : Int) < most
    · rw [if_pos hmo] at hst
      obtain ⟨rfl, rfl⟩ := hst
      obtain ⟨out, H2, s2, q2, st2, pd2, e3, r3⟩ := names_do hx hq0 hg hnb hb hd hLl hcl t (k + 1) (by omega) (by omega) hmo hle1 L1 c1 m1 r1 n1 o1
      refine ⟨out, H2, s2, q2, st2, pd2, (loop_next (H' := H1) (vs' := [.func (.yield L) #[] #[], pt nb, x, iv OF.length, iv ((k + 1 : Nat) : Int)]) ?_).trans e3, r3⟩
      rw [c5_r]
      unfold F_mailIndexNames1.l1
      rw [bind_eq lss_r, cnd_b, if_pos (by simpa using hlt2), bind_eq (hx'.ix (by simpa using hlt) .i64 H), bind_eq (hx'.ldx hi), bind_eq e2, bind_eq hl, bind_eq e1', bind_eq not_r, decide_eq_true hmo, cnd_b, if_neg (by simp), bind_eq add_r, wsuc (by omega)]
      rfl
    · rw [if_neg hmo] at hst
      obtain ⟨rfl, rfl⟩ := hst
      refine ⟨.ret (.tuple #[]), H1, s1, q1, _, _, loop_ret ?_, .inr rfl, hle1, L1, .inr ⟨rfl, rfl⟩, c1, ?_, o1⟩
      · rw [c5_r]
        unfold F_mailIndexNames1.l1
        rw [bind_eq lss_r, cnd_b, if_pos (by simpa using hlt2), bind_eq (hx'.ix (by simpa using hlt) .i64 H), bind_eq (hx'.ldx hi), bind_eq e2, bind_eq hl, bind_eq e1', bind_eq not_r, decide_eq_false hmo, cnd_b, if_pos (by simp)]
        rfl
      · rw [show most.toNat = k + 1 by omega]
        exact r1

variable {X : Heap} {x o a : Nat} {OW OF : SMap}

/-- law09.pairs -/
theorem r_pairs {most : Int} (h : Idx X x o a OW OF) (hf : OF.length ≤ 1000) : ∃ v q X', R (n + 4) n_law09Pairs [pt x, iv most] X = some (v, X') ∧ RowN 2 X' v (((sortM OF).take most.toNat).map prc) q ∧ HLe X X' ∧ ∀ j ∈ q, X.length ≤ j := by
  have e1 := alc_s (v := iv most) rfl rfl X
  have l1 : HLe X (X ++ [AObj.cells [iv most] 1 false false]) := .app _ _
  have c1 : (X ++ [AObj.cells [iv most] 1 false false])[X.length]? = some (.cells [iv most] 1 false false) := app_new
  have g1 : (X ++ [AObj.cells [iv most] 1 false false]).length = X.length + 1 := by simp
  generalize X ++ [AObj.cells [iv most] 1 false false] = X1 at e1 l1 c1 g1
  have e2 := alc_s (v := .slice none 0 0) rfl rfl X1
  have l2 : HLe X1 (X1 ++ [AObj.cells [.slice none 0 0] 1 false false]) := .app _ _
  have c2 : (X1 ++ [AObj.cells [.slice none 0 0] 1 false false])[X1.length]? = some (.cells [.slice none 0 0] 1 false false) := app_new
  have g2 : (X1 ++ [AObj.cells [.slice none 0 0] 1 false false]).length = X1.length + 1 := by simp
  generalize X1 ++ [AObj.cells [.slice none 0 0] 1 false false] = X2 at e2 l2 c2 g2
  obtain ⟨X3, v, q0, nb, mb, a', e3, hn, hm, hg, hr, l3, b1, b4, b2, b3⟩ := r_mnames (n := n + 1) ((h.hle l1).hle l2) hf
  have l13 := (l1.trans l2).trans l3
  have c13 := (l2.trans l3) _ _ c1
  have c23 := l3 _ _ c2
  have e4 : bop .fn .eql (.func (.func n_mailIndexNames1) #[] #[pt nb, pt mb]) Value.nilFunc X3 = some (.bool false, X3) := rfl
  have e5 := ld_s c13
  by_cases hp : most ≤ 0
  · refine ⟨.slice none 0 0, [], X3, ?_, ?_, l13, by simp⟩
    · rw [R, run_law09Pairs rfl]
      unfold F_law09Pairs
      rw [bind_eq e1, bind_eq e2]
      refine (bind_eq e3).trans ?_
      rw [bind_eq e4, b_g_in, b_assoc, bind_eq e5, b_assoc, bind_eq leq_r, b_ret, c2_r, bind_eq pick_r]
      simp only [cond_false]
      rw [decide_eq_true hp, cnd_b, if_pos rfl, bind_eq (ld_s c23)]
      rfl
    · rw [show most.toNat = 0 by omega, List.take_zero]
      exact RowN.nil
  · generalize hX4 : X3 ++ [F_law09Pairs.o1 (pt X.length) (pt X1.length) .ready none] = X4
    have l4 : HLe X3 X4 := by rw [← hX4]; exact .app _ _
    have L4 : X4[X3.length]? = some (F_law09Pairs.o1 (pt X.length) (pt X1.length) .ready none) := by rw [← hX4]; exact app_new
    have hl3 := l3.len
    have hnl := get_lt hn
    have hml := get_lt hm
    have hal := hg.lt
    obtain ⟨out, X5, s', q', st, pd, e6, ho, f5, L5, hst, c5', r5, o5⟩ := names_do (n := n + 1) (L := X3.length) (c := X1.length) (mb := X.length) (nb := mb) (hr.step l4.step (by simp)) (by
      refine ⟨fun hj => absurd (hr.lt _ hj) (by omega), fun hj => absurd (b3 _ hj) (by omega), by omega, by omega, by omega, by omega⟩) (hg.hle l4) (l4 _ _ hm) hf ⟨by omega, by omega, by omega⟩ (get_lt L4) (by have := l4.len; omega) _ 0 rfl (by omega) (by omega) ⟨Nat.le_refl _, fun _ _ _ _ => rfl⟩ L4 (l4 _ _ c23) (l4 _ _ c13) RowN.nil (by simp) (by simp)
    have hkl : (ksort (OF.map (·.1))).length = OF.length := by rw [ksort_len, List.length_map]
    have hr4 := hr.step l4.step (o2 := []) (by simp)
    have e7 : R (n + 3) n_mailIndexNames1 [.func (.yield X3.length) #[] #[], pt nb, pt mb] X4 = some (.tuple #[], X5) := by
      rw [R, run_mailIndexNames1 rfl]
      unfold F_mailIndexNames1
      rw [bind_eq (ld_s (l4 _ _ hn)), bind_eq (hr.rd.len (H' := X4)), List.length_map, hkl]
      rw [show ((0 : Nat) : Int) = 0 from rfl] at e6
      rcases ho with rfl | rfl
      · rw [jn_ext e6, xk_hit]; rfl
      · rw [jn_ret e6]; rfl
    generalize hX6 : X5.set X3.length (F_law09Pairs.o1 (pt X.length) (pt X1.length) .exhausted pd) = X6
    have n6 : ∀ j, j ≠ X3.length → X6[j]? = X5[j]? := fun j hj => by rw [← hX6]; exact List.getElem?_set_ne (Ne.symm hj)
    have c6 := (n6 X1.length (by omega)).trans c5'
    have r6 : RowN 2 X6 s' (((sortM OF).take most.toNat).map prc) q' := r5.keep fun j hj => n6 j (fun e => by have := o5 j hj; have := get_lt L4; omega)
    refine ⟨s', q', X6, ?_, r6, fun j o hj => ?_, fun j hj => Nat.le_trans (l13.trans l4).len (o5 j hj)⟩
    · rw [R, run_law09Pairs rfl]
      unfold F_law09Pairs
      rw [bind_eq e1, bind_eq e2]
      refine (bind_eq e3).trans ?_
      rw [bind_eq e4, b_g_in, b_assoc, bind_eq e5, b_assoc, bind_eq leq_r, b_ret, c2_r, bind_eq pick_r]
      simp only [cond_false]
      rw [decide_eq_false hp, cnd_b, if_neg (by simp)]
      have e8 : rangeM (callG Tryd.prog) (R (n + 3)) (.func (.func n_mailIndexNames1) #[] #[pt nb, pt mb]) Tryd.f13 lv_law09Pairs 250 [0] (rfAt Tryd.f13 250) [(3, pt X.length), (5, pt X1.length)] (fun pd_18 =>
          (match pd_18 with
          | none => ret (.nrm [pt X1.length])
          | some (.exit j_18) => bif Nat.beq j_18 0 then (ret (.nrm [pt X1.length])) else fail
          | some .ret => ret (.ret (Value.slice none 0 0))
          | _ => fail)) X3 = some (Out.nrm [pt X1.length], X6) := by
        refine (rangeM_at (by rfl) (by kernel_rfl) (H1 := X5) (u := .tuple #[]) ?_).trans ?_
        · rw [hX4]; exact e7
        · rcases hst with ⟨rfl, rfl⟩ | ⟨rfl, rfl⟩
          · refine (endLoopM_at L5 (by simp)).trans ?_
            rw [hX6]; rfl
          · refine (endLoopM_at L5 (by simp)).trans ?_
            rw [hX6]; rfl
      refine (jn_nrm e8).trans ?_
      rw [c1_r, bind_eq (ld_s c6)]
      rfl
    · have hj' := get_lt hj
      have hl1 := l1.len
      have h4 := (l13.trans l4) _ _ hj
      have hl4 := get_lt h4
      rw [n6 j (by have := l13.len; omega), f5.keep j hl4 (by have := l13.len; omega) (by omega)]
      exact h4

end

end Go.Proofs.YtmacmlpiheimhaaDoor.A
