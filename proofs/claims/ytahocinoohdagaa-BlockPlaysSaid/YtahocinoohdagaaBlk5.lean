/- The device: a block is read. -/
import Derived.Test.YtahocinoohdagaaBlk4
namespace Go.Proofs.Ytahocinoohdagaa.A
set_option linter.unusedVariables false
set_option linter.unusedSimpArgs false
open Go.Proofs Go.Proofs.Ytahocinoohdagaa

/-- The writes from the last one on: the one that is sought, if there is one. -/
theorem back_do {n id c3 c4 c5 cb L i : Nat} {d : DevS} {ks ws : Value} {own bs : List Nat} (hok : d.Ok) (h3L : c3 ≠ L) (h4L : c4 ≠ L) (h5L : c5 ≠ L) (h45 : c4 ≠ c5) (h34 : c3 ≠ c4) (h35 : c3 ≠ c5) (hbL : cb ≠ L) (hb4 : cb ≠ c4) (hb5 : cb ≠ c5)
    (hn : ∀ j, j ∈ own ∨ j ∈ bs → j ≠ c4 ∧ j ≠ c5 ∧ j ≠ L) : ∀ (k : Nat) {H : Heap}, k ≤ d.wait.length → DevX H id ks ws d own bs → H[L]? = some (F_blockDeviceRead.o1 (pt c3) (pt c4) (pt c5) .ready none) → H[c3]? = some (.cells [iv i] 1 false false) →
    H[c4]? = some (.cells [.slice none 0 0] 1 false false) → H[c5]? = some (.cells [iv 0] 1 false false) → H[cb]? = some (.cells [ws] 1 false false) →
    ∃ H', Rng H H' c4 c5 L ∧
      ((lastW i (d.wait.take k) = none ∧ loopM (fun vs => F_slicesBackwardblockWriteBlockWrite1.l1 (R (n + 2)) (vs.headD undef) (vs.tail.headD undef) (vs.tail.tail.headD undef)) [.func (.yield L) #[] #[], pt cb, iv ((k : Int) - 1)] H = some (.ext 0 [], H') ∧
        H'[L]? = some (F_blockDeviceRead.o1 (pt c3) (pt c4) (pt c5) .ready none) ∧ H'[c4]? = H[c4]? ∧ H'[c5]? = H[c5]?) ∨
       (∃ b u q, lastW i (d.wait.take k) = some b ∧ loopM (fun vs => F_slicesBackwardblockWriteBlockWrite1.l1 (R (n + 2)) (vs.headD undef) (vs.tail.headD undef) (vs.tail.tail.headD undef)) [.func (.yield L) #[] #[], pt cb, iv ((k : Int) - 1)] H = some (.ret (.tuple #[]), H') ∧
        H'[L]? = some (F_blockDeviceRead.o1 (pt c3) (pt c4) (pt c5) .done (some .ret)) ∧ H'[c4]? = some (.cells [u] 1 false false) ∧ H'[c5]? = some (.cells [iv 0] 1 false false) ∧ RowS H' u (u8s b) q ∧ ∀ j ∈ q, H.length ≤ j))
  | 0, H, hk, h, hL, h3, h4, h5, hb => by
    refine ⟨H, Rng.refl _ _ _ _, .inl ⟨rfl, loop_ext ?_, hL, rfl, rfl⟩⟩
    simp only [F_slicesBackwardblockWriteBlockWrite1.l1, List.headD_cons, List.tail_cons]
    rw [bind_eq geq_r, cnd_b, if_neg (by simp)]
    rfl
  | k + 1, H, hk, h, hL, h3, h4, h5, hb => by
    have hwk : d.wait[k]? = some (d.wait[k]'(by omega)) := List.getElem?_eq_getElem (by omega)
    generalize d.wait[k]'(by omega) = w at hwk
    obtain ⟨v, hv, hget⟩ := h.getw hwk
    have hfew := hok.few
    have htk : d.wait.take (k + 1) = d.wait.take k ++ [w] := by rw [List.take_add_one, hwk]; rfl
    have e0 : (((k + 1 : Nat) : Int) - 1) = (k : Int) := by omega
    have w1 : IntKind.i64.wrap ((k : Int) - 1) = (k : Int) - 1 := w64 (by omega) (by omega)
    have hge : ((k : Int) ≥ 0) := by omega
    have g1 : ld1 (pt cb) H = some (ws, H) := by rw [ldOne_r, hb, rdk_r]; rfl
    rw [htk, lastW_snoc, e0]
    have hwm := List.mem_of_getElem? hwk
    by_cases hw : w.1 = i
    · obtain ⟨H', u, q, e1, r1, k1, k2, k3, k4, k5⟩ := round_yes (n := n) (k := k) hL h3 h4 h5 h3L h4L h5L h45 hv.1 (fun j hj => by
        obtain ⟨j', h1, h2⟩ := hv.2
        rw [hj] at h1; cases h1
        exact (hn j (.inr h2)).2.2) (by have := hok.szw w hwm; omega) hw
      refine ⟨H', r1, .inr ⟨w.2, u, q, by rw [if_pos hw], loop_ret ?_, k1, k2, k3, k4, k5⟩⟩
      simp only [F_slicesBackwardblockWriteBlockWrite1.l1, List.headD_cons, List.tail_cons]
      have e1' : callv (R (n + 2)) (.func (.yield L) #[] #[]) [iv k, .agg #[iv w.1, v]] H = some (.bool false, H') := e1
      rw [bind_eq geq_r, cnd_b, if_pos (by simp), bind_eq g1, hget, bind_eq e1', bind_eq not_r, cnd_b, if_pos (by simp)]
      rfl
    · obtain ⟨H', e1, r1, k1, k2, k3⟩ := round_no (n := n) (k := k) (c4 := c4) (c5 := c5) hL h3 h3L hv.1.oneC.1 hw
      have h4' : H'[c4]? = H[c4]? := (k2 h4L).elim (fun h => h) fun h => by have := get_lt h4; omega
      have h5' : H'[c5]? = H[c5]? := (k3 h5L).elim (fun h => h) fun h => by have := get_lt h5; omega
      have h3' : H'[c3]? = H[c3]? := r1.keep c3 (get_lt h3) h34 h35 h3L
      have hb' : H'[cb]? = H[cb]? := r1.keep cb (get_lt hb) hb4 hb5 hbL
      obtain ⟨H2, r2, hres⟩ := back_do hok h3L h4L h5L h45 h34 h35 hbL hb4 hb5 hn k (H := H') (n := n) (by omega) (h.rng r1 hn) k1 (by rw [h3']; exact h3) (by rw [h4']; exact h4) (by rw [h5']; exact h5) (by rw [hb']; exact hb)
      have e1' : callv (R (n + 2)) (.func (.yield L) #[] #[]) [iv k, .agg #[iv w.1, v]] H = some (.bool true, H') := e1
      have hbody : F_slicesBackwardblockWriteBlockWrite1.l1 (R (n + 2)) (.func (.yield L) #[] #[]) (pt cb) (iv k) H = some (.nrm [.func (.yield L) #[] #[], pt cb, iv ((k : Int) - 1)], H') := by
        unfold F_slicesBackwardblockWriteBlockWrite1.l1
        rw [bind_eq geq_r, cnd_b, if_pos (by simp), bind_eq g1, hget, bind_eq e1', bind_eq not_r, cnd_b, if_neg (by simp), bind_eq sub_r, w1]
        rfl
      have hnx := loop_next (body := fun vs => F_slicesBackwardblockWriteBlockWrite1.l1 (R (n + 2)) (vs.headD undef) (vs.tail.headD undef) (vs.tail.tail.headD undef)) (vs := [.func (.yield L) #[] #[], pt cb, iv k]) (H := H) (H' := H') (vs' := [.func (.yield L) #[] #[], pt cb, iv ((k : Int) - 1)])
        (by simp only [List.headD_cons, List.tail_cons]; exact hbody)
      rw [if_neg hw, hnx]
      refine ⟨H2, r1.trans r2, ?_⟩
      rcases hres with ⟨a1, a2, a3, a4, a5⟩ | ⟨b, u, q, a1, a2, a3, a4, a5, a6, a7⟩
      · exact .inl ⟨a1, a2, a3, by rw [a4, h4'], by rw [a5, h5']⟩
      · exact .inr ⟨b, u, q, a1, a2, a3, a4, a5, a6, fun j hj => by have := a7 j hj; have := r1.len; omega⟩

def DevS.got (d : DevS) (i : Int) : List UInt8 := if d.there i = 0 then d.blk i.toNat else []

theorem r_read {H : Heap} {id n : Nat} {d : DevS} {own bs : List Nat} (hok : d.Ok) (h : Dev H id d own bs) (i : Int) :
    ∃ H' v q, R (n + 4) n_blockDeviceRead [pt id, iv i] H = some (.tuple #[v, iv (d.there i)], H') ∧ RowS H' v (u8s (d.got i)) q ∧ HLe H H' ∧ ∀ j ∈ q, H.length ≤ j := by
  -- the boxes
  generalize hH1 : H ++ [AObj.cells [iv i] 1 false false] = H1
  generalize hH2 : H1 ++ [AObj.cells [.slice none 0 0] 1 false false] = H2
  generalize hH3 : H2 ++ [AObj.cells [iv 0] 1 false false] = H3
  have l1 : H1.length = H.length + 1 := by rw [← hH1]; simp
  have l2 : H2.length = H.length + 2 := by rw [← hH2]; simp [l1]
  have l3 : H3.length = H.length + 3 := by rw [← hH3]; simp [l2]
  have le1 : HLe H H1 := by rw [← hH1]; exact .app _ _
  have le2 : HLe H1 H2 := by rw [← hH2]; exact .app _ _
  have le3 : HLe H2 H3 := by rw [← hH3]; exact .app _ _
  have c3 : H3[H.length]? = some (.cells [iv i] 1 false false) := le3 _ _ (le2 _ _ (by rw [← hH1]; exact app_new))
  have c4 : H3[H1.length]? = some (.cells [.slice none 0 0] 1 false false) := le3 _ _ (by rw [← hH2]; exact app_new)
  have c5 : H3[H2.length]? = some (.cells [iv 0] 1 false false) := by rw [← hH3]; exact app_new
  have a1 : alc 1 (iv i) H = some (pt H.length, H1) := by rw [← hH1, alc_r]; rfl
  have a2 : alc 1 (.slice none 0 0) H1 = some (pt H1.length, H2) := by rw [← hH2, alc_r]; rfl
  have a3 : alc 1 (iv 0) H2 = some (pt H2.length, H3) := by rw [← hH3, alc_r]; rfl
  have a4 : ld1 (pt H.length) H3 = some (iv i, H3) := by rw [ldOne_r, c3, rdk_r]; rfl
  have le : HLe H H3 := (le1.trans le2).trans le3
  have hD := h.hle le
  have a5 := r_there (n := n + 2) hD i
  unfold DevS.got
  by_cases h0 : d.there i = 0
  · have hi0 : 0 ≤ i ∧ i < d.kept.length := by
      unfold DevS.there at h0
      split at h0
      · cases h0
      · split at h0
        · cases h0
        · omega
    obtain ⟨ki, hki⟩ : ∃ k : Nat, i = k := ⟨i.toNat, by omega⟩
    subst hki
    rw [if_pos h0, h0, Int.toNat_natCast]
    obtain ⟨ks, ws, hD⟩ := hD
    have hlt := h.lt
    have hbl := h.bl
    have a6 : ld1 (pa id (0 + 1)) H3 = some (ws, H3) := by rw [ldOne_r, hD.cell, rdk_r]; rfl
    -- Backward's variable
    generalize hH4 : H3 ++ [AObj.cells [ws] 1 false false] = H4
    have hwo : oneCell ws = true ∧ ws.cells = #[ws] := by obtain ⟨kvs, ko, wrs, wo, i1, i2, i3, i4, _⟩ := hD; exact i4.one
    have a7 : alc 1 ws H3 = some (pt H3.length, H4) := by rw [← hH4, alc_r]; simp [hwo.2, hwo.1]
    have l4 : H4.length = H.length + 4 := by rw [← hH4]; simp [l3]
    have le4 : HLe H3 H4 := by rw [← hH4]; exact .app _ _
    have cb : H4[H3.length]? = some (.cells [ws] 1 false false) := by rw [← hH4]; exact app_new
    have a8 : R (n + 3) n_slicesBackwardblockWriteBlockWrite [ws] H3 = some (.func (.func 43) #[] #[pt H3.length], H4) := by
      rw [R, run_slicesBackwardblockWriteBlockWrite rfl]
      unfold F_slicesBackwardblockWriteBlockWrite
      rw [bind_eq a7]
      rfl
    -- the loop
    generalize hH5 : H4 ++ [F_blockDeviceRead.o1 (pt H.length) (pt H1.length) (pt H2.length) .ready none] = H5
    have l5 : H5.length = H.length + 5 := by rw [← hH5]; simp [l4]
    have le5 : HLe H4 H5 := by rw [← hH5]; exact .app _ _
    have le35 := le4.trans le5
    have hL : H5[H4.length]? = some (F_blockDeviceRead.o1 (pt H.length) (pt H1.length) (pt H2.length) .ready none) := by rw [← hH5]; exact app_new
    have hn : ∀ j, j ∈ own ∨ j ∈ bs → j ≠ H1.length ∧ j ≠ H2.length ∧ j ≠ H4.length := fun j hj => by
      have : j < H.length := hj.elim (hlt j) fun hb => (hbl j hb).2
      omega
    obtain ⟨H6, r6, hres⟩ := back_do (n := n) (i := ki) hok (c3 := H.length) (c4 := H1.length) (c5 := H2.length) (cb := H3.length) (L := H4.length) (by omega) (by omega) (by omega) (by omega) (by omega) (by omega) (by omega) (by omega) (by omega) hn d.wait.length (Nat.le_refl _) (hD.hle le35) hL (le35 _ _ c3) (le35 _ _ c4) (le35 _ _ c5) (le5 _ _ cb)
    rw [List.take_length] at hres
    have hle6 : ∀ j o, j < H.length → H[j]? = some o → H6[j]? = some o := fun j o hj ho => by
      rw [r6.keep j (by omega) (by omega) (by omega) (by omega)]
      exact le35 _ _ (le _ _ ho)
    have l6 := r6.len
    have wl := hD.wlen H5
    have e43 : ∀ {o : Out}, loopM (fun vs => F_slicesBackwardblockWriteBlockWrite1.l1 (R (n + 2)) (vs.headD undef) (vs.tail.headD undef) (vs.tail.tail.headD undef)) [.func (.yield H4.length) #[] #[], pt H3.length, iv ((d.wait.length : Int) - 1)] H5 = some (o, H6) → (o = .ext 0 [] ∨ o = .ret (.tuple #[])) →
        R (n + 3) 43 [.func (.yield H4.length) #[] #[], pt H3.length] H5 = some (.tuple #[], H6) := by
      intro o ho hoo
      have b1 : ld1 (pt H3.length) H5 = some (ws, H5) := by rw [ldOne_r, le5 _ _ cb, rdk_r]; rfl
      have hfew := hok.few
      have w1 : IntKind.i64.wrap ((d.wait.length : Int) - 1) = (d.wait.length : Int) - 1 := w64 (by omega) (by omega)
      have e := run_slicesBackwardblockWriteBlockWrite1 (prim := np) rfl (n + 2) (.func (.yield H4.length) #[] #[]) (pt H3.length)
      have e' : R (n + 3) 43 [.func (.yield H4.length) #[] #[], pt H3.length] = F_slicesBackwardblockWriteBlockWrite1 (R (n + 2)) (.func (.yield H4.length) #[] #[]) (pt H3.length) := e
      rw [e']
      unfold F_slicesBackwardblockWriteBlockWrite1
      rw [bind_eq b1, bind_eq wl, bind_eq sub_r, w1]
      rcases hoo with rfl | rfl
      · exact (jn_ext ho).trans rfl
      · exact (jn_ret ho).trans rfl
    have pre : ∀ {x : Value × Heap} (st : LoopState) (pd : Option Code), st ≠ .busy → R (n + 3) 43 [.func (.yield H4.length) #[] #[], pt H3.length] H5 = some (.tuple #[], H6) → H6[H4.length]? = some (F_blockDeviceRead.o1 (pt H.length) (pt H1.length) (pt H2.length) st pd) →
        (match pd with
          | none => bind (nilc (pt id)) fun v30x22 => bind (fa 0 v30x22) fun v31x23 => bind (ld1 v31x23) fun v32x24 => bind (ld1 (pt H.length)) fun v33x25 => bind (ixa 1 v32x24 v33x25) fun v34x26 => bind (ld1 v34x26) fun v35x27 =>
              bind (R (n + 3) n_bytesClone [v35x27]) fun v36x28 => bind (st1 (pt H1.length) v36x28) fun _ => bind (st1 (pt H2.length) (Value.int .i64 0)) fun _ => bind (ld1 (pt H1.length)) fun vrx29 => bind (ld1 (pt H2.length)) fun vrx30 => ret (Value.tuple #[vrx29, vrx30])
          | some (.exit j_21) => fail
          | some .ret => bind (ld1 (pt H1.length)) fun vrx31 => bind (ld1 (pt H2.length)) fun vrx32 => ret (Value.tuple #[vrx31, vrx32])
          | _ => fail : M Value) (H6.set H4.length (F_blockDeviceRead.o1 (pt H.length) (pt H1.length) (pt H2.length) .exhausted pd)) = some x →
        R (n + 4) n_blockDeviceRead [pt id, iv ki] H = some x := by
      intro x st pd hst e hL6 hk
      rw [R, run_blockDeviceRead rfl]
      unfold F_blockDeviceRead
      rw [bind_eq a1, bind_eq a2, bind_eq a3, bind_eq a4, bind_eq a5, bind_eq neq_r, cnd_b, if_neg (by simp [h0]), bind_eq nilc_r, bind_eq fa_r, bind_eq a6, bind_eq a8]
      rw [rangeM_at (u := .tuple #[]) (H1 := H6) rfl (by kernel_rfl) (by rw [hH5]; exact e), endLoopM_at hL6 hst]
      exact hk
    rcases hres with ⟨b1, b2, b3, b4, b5⟩ | ⟨b, u, q, b1, b2, b3, b4, b5, b6, b7⟩
    · -- none of those that wait
      have hblk : d.blk ki = d.kept.getD ki [] := by unfold DevS.blk; rw [b1]; rfl
      have hD6 := (hD.hle le35).rng r6 hn
      generalize hH7 : H6.set H4.length (F_blockDeviceRead.o1 (pt H.length) (pt H1.length) (pt H2.length) .exhausted none) = H7
      have r7 : Rng H6 H7 H1.length H2.length H4.length := by rw [← hH7]; exact Rng.set (.inr (.inr rfl))
      have hD7 := hD6.rng r7 hn
      have l7 := r7.len
      have hne7 : ∀ j, j ≠ H4.length → H7[j]? = H6[j]? := fun j hj => by rw [← hH7]; exact List.getElem?_set_ne (Ne.symm hj)
      have d3 : H7[H.length]? = some (.cells [iv ki] 1 false false) := by rw [hne7 _ (by omega), r6.keep _ (by omega) (by omega) (by omega) (by omega)]; exact le35 _ _ c3
      have d4 : H7[H1.length]? = some (.cells [.slice none 0 0] 1 false false) := by rw [hne7 _ (by omega), b4]; exact le35 _ _ c4
      have d5 : H7[H2.length]? = some (.cells [iv 0] 1 false false) := by rw [hne7 _ (by omega), b5]; exact le35 _ _ c5
      have f1 : ld1 (pa id (0 + 0)) H7 = some (ks, H7) := by rw [ldOne_r, hD7.cell, rdk_r]; rfl
      have f2 : ld1 (pt H.length) H7 = some (iv ki, H7) := by rw [ldOne_r, d3, rdk_r]; rfl
      have hkl : ki < d.kept.length := by omega
      obtain ⟨v, hv, hfz⟩ : ∃ v, (∀ K : Value → M Value, bind (ixa 1 ks (iv ki)) (fun p => bind (ld1 p) K) H7 = K v H7) ∧ Sl H7 v (u8s (d.kept.getD ki [])) := by
        obtain ⟨kvs, ko, wrs, wo, i1, i2, i3, _⟩ := hD7
        have hk : d.kept[ki]? = some (d.kept.getD ki []) := by rw [List.getD_eq_getElem?_getD, List.getElem?_eq_getElem hkl]; rfl
        obtain ⟨v, hv, hf⟩ := i3.at hk
        exact ⟨v, fun K => i2.rd.fetch hv .i64, hf.1⟩
      have hsz : (d.kept.getD ki []).length = 128 := by
        rw [List.getD_eq_getElem?_getD, List.getElem?_eq_getElem hkl]
        exact hok.szk _ (List.getElem_mem hkl)
      obtain ⟨u, q, H8, e8, r8, le8, hq⟩ := r_clone (n := n + 2) hfz (by omega)
      have l8 := le8.len
      have d48 := le8 _ _ d4
      have d58 := le8 _ _ d5
      generalize hH9 : H8.set H1.length (.cells [u] 1 false false) = H9
      have hne9 : ∀ j, j ≠ H1.length → H9[j]? = H8[j]? := fun j hj => by rw [← hH9]; exact List.getElem?_set_ne (Ne.symm hj)
      have d59 : H9[H2.length]? = some (.cells [iv 0] 1 false false) := by rw [hne9 _ (by omega)]; exact d58
      generalize hH10 : H9.set H2.length (.cells [iv 0] 1 false false) = H10
      have hne10 : ∀ j, j ≠ H2.length → H10[j]? = H9[j]? := fun j hj => by rw [← hH10]; exact List.getElem?_set_ne (Ne.symm hj)
      have f3 : st1 (pt H1.length) u H8 = some (undef, H9) := by rw [stOne_r, d48, wrk_r, if_pos ⟨by simp, r8.oneCell.1⟩, ← hH9]; rfl
      have f4 : st1 (pt H2.length) (iv 0) H9 = some (undef, H10) := by rw [stOne_r, d59, wrk_r, if_pos ⟨by simp, rfl⟩, ← hH10]; rfl
      have f5 : ld1 (pt H1.length) H10 = some (u, H10) := by rw [ldOne_r, hne10 _ (by omega), ← hH9, set_get d48, rdk_r]; rfl
      have f6 : ld1 (pt H2.length) H10 = some (iv 0, H10) := by rw [ldOne_r, ← hH10, set_get d59, rdk_r]; rfl
      refine ⟨H10, u, q, pre .ready none (by simp) (e43 b2 (.inl rfl)) b3 ?_, ?_, ?_, fun j hj => ?_⟩
      · simp only
        rw [hH7, bind_eq nilc_r, bind_eq fa_r, bind_eq f1, bind_eq f2, hv, bind_eq e8, bind_eq f3, bind_eq f4, bind_eq f5, bind_eq f6]
        rfl
      · rw [hblk]
        refine r8.keep fun j hj => ?_
        have := hq j hj
        rw [hne10 j (by omega), hne9 j (by omega)]
      · intro j o ho
        have hj := get_lt ho
        rw [hne10 j (by omega), hne9 j (by omega)]
        refine le8 _ _ ?_
        rw [hne7 j (by omega)]
        exact hle6 j o hj ho
      · have := hq j hj; omega
    · have hblk : d.blk ki = b := by unfold DevS.blk; rw [b1]; rfl
      generalize hH7 : H6.set H4.length (F_blockDeviceRead.o1 (pt H.length) (pt H1.length) (pt H2.length) .exhausted (some .ret)) = H7
      have hne7 : ∀ j, j ≠ H4.length → H7[j]? = H6[j]? := fun j hj => by rw [← hH7]; exact List.getElem?_set_ne (Ne.symm hj)
      have f5 : ld1 (pt H1.length) H7 = some (u, H7) := by rw [ldOne_r, hne7 _ (by omega), b4, rdk_r]; rfl
      have f6 : ld1 (pt H2.length) H7 = some (iv 0, H7) := by rw [ldOne_r, hne7 _ (by omega), b5, rdk_r]; rfl
      refine ⟨H7, u, q, pre .done (some .ret) (by simp) (e43 b2 (.inr rfl)) b3 ?_, ?_, ?_, fun j hj => ?_⟩
      · simp only
        rw [hH7, bind_eq f5, bind_eq f6]
        rfl
      · rw [hblk]
        refine b6.keep fun j hj => ?_
        have := b7 j hj
        exact hne7 j (by omega)
      · intro j o ho
        have hj := get_lt ho
        rw [hne7 j (by omega)]
        exact hle6 j o hj ho
      · have := b7 j hj; omega
  · rw [if_neg h0]
    generalize hH4 : H3.set H1.length (.cells [.slice none 0 0] 1 false false) = H4
    have hne4 : ∀ j, j ≠ H1.length → H4[j]? = H3[j]? := fun j hj => by rw [← hH4]; exact List.getElem?_set_ne (Ne.symm hj)
    have d5 : H4[H2.length]? = some (.cells [iv 0] 1 false false) := by rw [hne4 _ (by omega)]; exact c5
    generalize hH5 : H4.set H2.length (.cells [iv (d.there i)] 1 false false) = H5
    have hne5 : ∀ j, j ≠ H2.length → H5[j]? = H4[j]? := fun j hj => by rw [← hH5]; exact List.getElem?_set_ne (Ne.symm hj)
    have f3 : st1 (pt H1.length) (.slice none 0 0) H3 = some (undef, H4) := by rw [stOne_r, c4, wrk_r, if_pos ⟨by simp, rfl⟩, ← hH4]; rfl
    have f4 : st1 (pt H2.length) (iv (d.there i)) H4 = some (undef, H5) := by rw [stOne_r, d5, wrk_r, if_pos ⟨by simp, rfl⟩, ← hH5]; rfl
    have f5 : ld1 (pt H1.length) H5 = some (.slice none 0 0, H5) := by rw [ldOne_r, hne5 _ (by omega), ← hH4, set_get c4, rdk_r]; rfl
    have f6 : ld1 (pt H2.length) H5 = some (iv (d.there i), H5) := by rw [ldOne_r, ← hH5, set_get d5, rdk_r]; rfl
    refine ⟨H5, .slice none 0 0, [], ?_, RowS.nil, fun j o ho => ?_, by simp⟩
    · rw [R, run_blockDeviceRead rfl]
      unfold F_blockDeviceRead
      rw [bind_eq a1, bind_eq a2, bind_eq a3, bind_eq a4, bind_eq a5, bind_eq neq_r, cnd_b, if_pos (by simpa using h0), bind_eq f3, bind_eq f4, bind_eq f5, bind_eq f6]
      rfl
    · have hj := get_lt ho
      rw [hne5 j (by omega), hne4 j (by omega)]
      exact le _ _ ho

end Go.Proofs.Ytahocinoohdagaa.A
