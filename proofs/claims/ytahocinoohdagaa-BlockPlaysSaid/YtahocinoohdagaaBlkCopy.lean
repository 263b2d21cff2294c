/- The device: a copy. -/
import Derived.Test.YtahocinoohdagaaRelBlk
namespace Go.Proofs.Ytahocinoohdagaa.A
set_option linter.unusedVariables false
set_option linter.unusedSimpArgs false
open Go.Proofs Go.Proofs.Ytahocinoohdagaa

section
variable {H H' : Heap} {id n : Nat} {ks ws : Value} {d : DevS} {own bs : List Nat}

theorem r_cloneK {kvs : List Value} {ko : List Nat} (h : RowZ H ks kvs ko) (hl : kvs.length ≤ 100000) : ∃ v q H', R (n + 1) n_slicesClonebyteByte [ks] H = some (v, H') ∧ RowZ H' v kvs q ∧ HLe H H' ∧ ∀ j ∈ q, H.length ≤ j := by
  rw [R, run_slicesClonebyteByte rfl]
  unfold F_slicesClonebyteByte
  rcases h.rd.isnil (H' := H) with ⟨rfl, rfl, e⟩ | e
  · refine ⟨.slice none 0 0, [], H, ?_, RowZ.nil, .refl _, by simp⟩
    rw [bind_eq e, cnd_b, if_pos rfl]
    rfl
  · have hne : kvs ≠ [] := fun hk => by
      rw [h.2 hk] at e
      cases e
    have hb2 : Sl (H ++ [.cells [] 1 false false]) ks kvs := h.rd.mono (.app _ _)
    obtain ⟨sl', H', own', e2, hr, hle, ho⟩ := row_of (b := 24) hb2 (by omega) (by omega) (s := .slice (some ⟨H.length, 0, none⟩) 0 0) (.inr ⟨H.length, false, rfl, app_new, rfl⟩)
    refine ⟨sl', own', H', ?_, ⟨hr, fun hk => absurd hk hne⟩, (HLe.app _ _).trans hle, fun j hj => ?_⟩
    · rw [bind_eq e, cnd_b, if_neg (by simp), bind_eq bsl0, bind_eq e2]
      rfl
    · rcases ho j hj with h | ⟨_, h⟩
      · simp at h; omega
      · cases h; exact Nat.le_refl _

theorem r_cloneW {wrs : List (List Value)} {wo : List Nat} (h : RowM 2 H ws wrs wo) (hl : wrs.length ≤ 100000) : ∃ v q H', R (n + 1) n_slicesCloneblockWriteBlockWrite [ws] H = some (v, H') ∧ RowM 2 H' v wrs q ∧ HLe H H' ∧ ∀ j ∈ q, H.length ≤ j := by
  rw [R, run_slicesCloneblockWriteBlockWrite rfl]
  unfold F_slicesCloneblockWriteBlockWrite
  by_cases hk : wrs = []
  · have hw := h.2 hk
    subst hk
    subst hw
    refine ⟨.slice none 0 0, [], H, ?_, RowM.nil, .refl _, by simp⟩
    have e : bop .slc .eql (.slice none 0 0) (.slice none 0 0) H = some (.bool true, H) := rfl
    rw [bind_eq e, cnd_b, if_pos rfl]
    rfl
  · have e : bop .slc .eql ws (.slice none 0 0) H = some (.bool false, H) := by
      rcases h.1 with ⟨h1, _⟩ | ⟨sid, rest, r, g, rfl, _⟩
      · exact absurd h1 hk
      · rfl
    have hb2 : SlN 2 (H ++ [.cells [] 2 false false]) ws wrs := h.rd.mono (.app _ _)
    obtain ⟨sl', H', own', e2, hr, hle, ho⟩ := rowN_of (b := 32) hb2 app_new (by omega) (by omega) (by omega)
    refine ⟨sl', own', H', ?_, ⟨hr, fun h => absurd h hk⟩, (HLe.app _ _).trans hle, fun j hj => ?_⟩
    · rw [bind_eq e, cnd_b, if_neg (by simp), bind_eq bsl0, bind_eq e2]
      rfl
    · rcases ho j hj with h | h
      · omega
      · simp at h; omega

theorem r_copy (hok : d.Ok) (h : Dev H id d own bs) : ∃ H' cid own', R (n + 2) n_blockDeviceCopy [pt id] H = some (pt cid, H') ∧ Dev H' cid d own' bs ∧ HLe H H' ∧ (∀ j ∈ own', H.length ≤ j) := by
  obtain ⟨ks, ws, h⟩ := h
  have hcell := h.cell
  have hlt := h.lt
  obtain ⟨kvs, ko, wrs, wo, i1, i2, i3, i4, i5, rfl, i6, i7⟩ := h
  have hall : ([ks, ws, .bool d.down, iv d.fuse, .int .u64 d.mask] : List Value).all oneCell = true := by
    simp only [List.all_cons, i2.oneCell.1, i4.one.1]; rfl
  have a1 := ldA_at (n := 5) hcell rfl
  have a2 : ∀ {K : Value → M Value}, bind (alc 1 (.agg #[.slice none 0 0, .slice none 0 0, .bool false, .int .i64 0, .int .u64 0])) (fun q => bind (stA 5 q (.agg [ks, ws, .bool d.down, iv d.fuse, .int .u64 d.mask].toArray)) fun _ => K q) H = K (pt H.length) (H ++ [.cells [ks, ws, .bool d.down, iv d.fuse, .int .u64 d.mask] 1 false false]) := fun {K} =>
    box_a (n := 5) (zs := [.slice none 0 0, .slice none 0 0, .bool false, .int .i64 0, .int .u64 0]) rfl rfl rfl hall
  generalize hH1 : H ++ [AObj.cells [ks, ws, .bool d.down, iv d.fuse, .int .u64 d.mask] 1 false false] = H1 at a2
  have le1 : HLe H H1 := by rw [← hH1]; exact .app _ _
  have l1 : H1.length = H.length + 1 := by rw [← hH1]; simp
  have c1 : H1[H.length]? = some (.cells [ks, ws, .bool d.down, iv d.fuse, .int .u64 d.mask] 1 false false) := by rw [← hH1]; exact app_new
  have hidl := hlt id (by simp)
  have a3 : ld1 (pa id (0 + 0)) H1 = some (ks, H1) := by rw [Nat.zero_add]; exact ld1_at (le1 _ _ hcell) rfl
  have hbl := hok.bl
  have hfew := hok.few
  obtain ⟨k', kq, H2, e2, r2, le2, o2⟩ := r_cloneK (n := n) (i2.step le1.step (by simp)) (by rw [i3.len]; omega)
  have l2 := le2.len
  have c2 := le2 _ _ c1
  have e3 := st1_at (o := 0) (v := k') c2 (by simp) r2.oneCell.1
  generalize hH3 : H2.set H.length (.cells ([ks, ws, .bool d.down, iv d.fuse, .int .u64 d.mask].set 0 k') 1 false false) = H3 at e3
  have hne3 : ∀ j, j ≠ H.length → H3[j]? = H2[j]? := fun j hj => by rw [← hH3]; exact List.getElem?_set_ne (Ne.symm hj)
  have c3 : H3[H.length]? = some (.cells [k', ws, .bool d.down, iv d.fuse, .int .u64 d.mask] 1 false false) := by rw [← hH3]; exact set_get c2
  have l3 : H3.length = H2.length := by rw [← hH3]; simp
  have le12 := le1.trans le2
  have hle3 : HLe H H3 := fun j o hj => by
    have := get_lt hj
    rw [hne3 j (by omega)]; exact le12 _ _ hj
  have a4 : ld1 (pa id (0 + 1)) H3 = some (ws, H3) := by rw [Nat.zero_add]; exact ld1_at (hle3 _ _ hcell) rfl
  obtain ⟨w', wq, H4, e4, r4, le4, o4⟩ := r_cloneW (n := n) (i4.step hle3.step (by simp)) (by rw [i5.len]; omega)
  have l4 := le4.len
  have c4 := le4 _ _ c3
  have e5 := st1_at (o := 1) (v := w') c4 (by simp) r4.one.1
  generalize hH5 : H4.set H.length (.cells ([k', ws, .bool d.down, iv d.fuse, .int .u64 d.mask].set 1 w') 1 false false) = H5 at e5
  have hne5 : ∀ j, j ≠ H.length → H5[j]? = H4[j]? := fun j hj => by rw [← hH5]; exact List.getElem?_set_ne (Ne.symm hj)
  have c5 : H5[H.length]? = some (.cells [k', w', .bool d.down, iv d.fuse, .int .u64 d.mask] 1 false false) := by rw [← hH5]; exact set_get c4
  have hle5 : HLe H H5 := fun j o hj => by
    have := get_lt hj
    rw [hne5 j (by omega)]; exact le4 _ _ (hle3 _ _ hj)
  have l5 : H5.length = H4.length := by rw [← hH5]; simp
  have hk2 := r2.lt
  have keepO : ∀ j ∈ bs, H5[j]? = H[j]? := fun j hj => hle5.step.keep j (i7 j hj).2 (by simp)
  refine ⟨H5, H.length, H.length :: (kq ++ wq), ?_, ⟨k', w', kvs, kq, wrs, wq, c5, r2.keep fun j hj => ?_, i3.imp fun a b hab => hab.keep keepO fun j hj => hj, r4.keep fun j hj => hne5 j (by have := o4 j hj; omega), i5.imp fun a b hab => hab.keep keepO fun j hj => hj, rfl, ?_, fun j hj => ?_⟩, hle5, fun j hj => ?_⟩
  · rw [R, run_blockDeviceCopy rfl]
    unfold F_blockDeviceCopy
    rw [bind_eq nilc_r, bind_eq a1, a2, bind_eq nilc_r, bind_eq fa_r, bind_eq a3, bind_eq e2, bind_eq fa_z, bind_eq e3, bind_eq nilc_r, bind_eq fa_r, bind_eq a4, bind_eq e4, bind_eq fa_z, bind_eq e5]
    rfl
  · have h1 := o2 j hj
    have h2 := hk2 j hj
    rw [hne5 j (by omega), le4.step.keep j (by omega) (by simp), hne3 j (by omega)]
  · simp only [List.nodup_cons, List.mem_append, not_or, List.nodup_append]
    refine ⟨⟨fun hm => by have := o2 _ hm; omega, fun hm => by have := o4 _ hm; omega⟩, r2.single, r4.single, fun a ha b hb e => ?_⟩
    have := hk2 a ha
    have := o4 b hb
    omega
  · have h1 := (i7 j hj).2
    refine ⟨?_, by omega⟩
    simp only [List.mem_cons, List.mem_append, not_or]
    exact ⟨by omega, fun hm => by have := o2 j hm; omega, fun hm => by have := o4 j hm; omega⟩
  · simp only [List.mem_cons, List.mem_append] at hj
    rcases hj with rfl | hj | hj
    · exact Nat.le_refl _
    · have := o2 j hj; omega
    · have := o4 j hj; omega

end

end Go.Proofs.Ytahocinoohdagaa.A
