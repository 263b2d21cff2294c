/- The device: what is kept, what a fuse does, writes. -/
import Derived.Test.YtahocinoohdagaaBlk
namespace Go.Proofs.Ytahocinoohdagaa.A
set_option linter.unusedVariables false
set_option linter.unusedSimpArgs false
open Go.Proofs Go.Proofs.Ytahocinoohdagaa

section
variable {H H' : Heap} {id n : Nat} {ks ws : Value} {d : DevS} {own bs : List Nat}

/-- A block of what is kept is written. -/
theorem DevX.setk (h : DevX H id ks ws d own bs) {i : Nat} {v : Value} {b : List UInt8} (hi : i < d.kept.length) (hv : Fz H bs v b) :
    ∃ p H', (∀ H', ixa 1 ks (iv i) H' = some (p, H')) ∧ st1 p v H = some (undef, H') ∧ DevX H' id ks ws { d with kept := d.kept.set i b } own bs ∧ Step own H own H' ∧ H'.length = H.length := by
  obtain ⟨kvs, ko, wrs, wo, h1, h2, h3, h4, h5, rfl, h6, h7⟩ := h
  have h6' := h6
  simp only [List.nodup_cons, List.mem_append, not_or, List.nodup_append] at h6
  have hkl : i < kvs.length := by rw [h3.len]; exact hi
  obtain ⟨sid, o, H', e1, e2, r2, s2, ho, hl⟩ := h2.put (List.getElem?_eq_getElem hkl) hv.1.oneC.1 .i64
  have hk : ∀ j, j ∉ ko → j < H.length → H'[j]? = H[j]? := fun j hj hl => s2.keep j hl hj
  refine ⟨_, H', e1, e2, ⟨kvs.set i v, ko, wrs, wo, s2.get h1 h6.1.1, r2, ?_, h4.step s2 fun j hj hm => h6.2.2.2 j hm j hj rfl, ?_, rfl, h6', fun j hj => ⟨(h7 j hj).1, by rw [hl]; exact (h7 j hj).2⟩⟩,
    s2.more (fun j hj => by simp [hj]) fun j hj => .inl hj, hl⟩
  · exact (h3.set hv).imp fun a b hab => hab.keep (fun j hj => hk j (fun hm => (h7 j hj).1 (by simp [hm])) (h7 j hj).2) fun j hj => hj
  · exact h5.imp fun a b hab => hab.keep (fun j hj => hk j (fun hm => (h7 j hj).1 (by simp [hm])) (h7 j hj).2) fun j hj => hj

/-- A write that waits. -/
theorem DevX.getw (h : DevX H id ks ws d own bs) {k : Nat} {w : Nat × List UInt8} (hk : d.wait[k]? = some w) :
    ∃ v, Fz H bs v w.2 ∧ ∀ (K : Value → M Out), bind (ixa 2 ws (iv k)) (fun p => bind (ldA 2 p) K) H = K (.agg #[iv w.1, v]) H := by
  obtain ⟨kvs, ko, wrs, wo, h1, h2, h3, h4, h5, rfl, h6, h7⟩ := h
  obtain ⟨r, hr, v, rfl, hv⟩ := h5.at hk
  exact ⟨v, hv, fun K => h4.rd.fetch hr (by omega) .i64⟩

/-- The writes of which it is said so are kept, one by one. -/
theorem keep_do {f : Value} {is : Nat → Bool} {C : List Nat} {H0 : Heap} (hcl : ∀ (k : Nat) (H' : Heap), k < 100000 → (∀ j ∈ C, H'[j]? = H0[j]?) → callv (R n) f [iv k] H' = some (.bool (is k), H')) : ∀ (rem : List (Nat × List UInt8)) (k : Nat) {H : Heap} {d : DevS},
    d.Ok → DevX H id ks ws d own bs → d.wait.drop k = rem → k ≤ d.wait.length → (∀ j ∈ C, j < H.length ∧ j ∉ own ∧ H[j]? = H0[j]?) →
    ∃ H', loopM (fun vs => F_blockDeviceKeep.l1 (R n) (vs.headD undef) (vs.tail.headD undef) (vs.tail.tail.headD undef) (vs.tail.tail.tail.headD undef) (vs.tail.tail.tail.tail.headD undef)) [pt id, f, ws, iv d.wait.length, iv k] H = some (.ext 0 [pt id], H') ∧
      DevX H' id ks ws { d with kept := kp is k rem d.kept } own bs ∧ Step own H own H'
  | [], k, H, d, hok, h, hr, hk, hC => by
    have hkl : d.wait.length ≤ k := List.drop_eq_nil_iff.1 hr
    refine ⟨H, loop_ext ?_, h, .refl _ _⟩
    have : ¬ ((k : Int) < d.wait.length) := by omega
    simp only [F_blockDeviceKeep.l1, List.headD_cons, List.tail_cons]
    rw [bind_eq lss_r, cnd_b, if_neg (by simpa using this)]
    rfl
  | w :: rem, k, H, d, hok, h, hr, hk, hC => by
    have hwk : d.wait[k]? = some w := by
      have := congrArg (fun l => l[0]?) hr
      simpa [List.getElem?_drop] using this
    have hkl : k < d.wait.length := (List.getElem?_eq_some_iff.1 hwk).1
    have hfew := hok.few
    have hr' : d.wait.drop (k + 1) = rem := by
      have := congrArg List.tail hr
      simpa [List.tail_drop] using this
    have hidx : w.1 < d.kept.length := hok.idx w (List.mem_of_getElem? hwk)
    have w1 : IntKind.i64.wrap ((k : Int) + 1) = ((k + 1 : Nat) : Int) := by rw [w64 (by omega) (by omega)]; simp
    obtain ⟨v, hv, hget⟩ := h.getw hwk
    -- the box
    generalize hH1 : H ++ [AObj.cells [iv w.1, v] 1 false false] = H1
    have hle1 : HLe H H1 := by rw [← hH1]; exact .app _ _
    have h1 := h.hle hle1
    have hb : H1[H.length]? = some (.cells [iv w.1, v] 1 false false) := by rw [← hH1]; exact app_new
    have hst1 : Step own H own H1 := hle1.step.more (by simp) fun j hj => .inl hj
    have hC1 : ∀ j ∈ C, H1[j]? = H0[j]? := fun j hj => by
      rw [← (hC j hj).2.2, ← hH1, List.getElem?_append_left (hC j hj).1]
    have ec := hcl k H1 (by omega) hC1
    -- the round
    obtain ⟨H2, e2, h2, s2⟩ : ∃ H2, F_blockDeviceKeep.l1 (R n) (pt id) f ws (iv d.wait.length) (iv k) H = some (.nrm [pt id, f, ws, iv d.wait.length, iv ((k + 1 : Nat) : Int)], H2) ∧
        DevX H2 id ks ws { d with kept := if is k then d.kept.set w.1 w.2 else d.kept } own bs ∧ Step own H own H2 := by
      have hlt : ((k : Int) < d.wait.length) := by omega
      have pre : ∀ (K : Value → M Out), F_blockDeviceKeep.l1 (R n) (pt id) f ws (iv d.wait.length) (iv k) H = 
          jn (cnd (.bool (is k)) (bind (nilc (pt id)) fun v20x10 => bind (fa 0 v20x10) fun v21x11 => bind (ld1 v21x11) fun v22x12 => bind (fa 0 (pt H.length)) fun v23x13 => bind (ld1 v23x13) fun v24x14 => bind (fa 1 (pt H.length)) fun v25x15 => bind (ld1 v25x15) fun v26x16 => bind (ixa 1 v22x12 v24x14) fun v27x17 => bind (st1 v27x17 v26x16) fun _ =>
            ret (.nrm [pt id, f, ws, iv d.wait.length, iv k])) (ret (.nrm [pt id, f, ws, iv d.wait.length, iv k]))) (fun vs_18 =>
            bind (bop .int .add (vs_18.tail.tail.tail.tail.headD undef) (Value.int .i64 1)) fun v28x19 =>
            ret (.nrm [(vs_18.headD undef), (vs_18.tail.headD undef), (vs_18.tail.tail.headD undef), (vs_18.tail.tail.tail.headD undef), v28x19])) (fun _ _ => fail) (fun w_20 => ret (.ret w_20)) H1 := by
        intro _
        unfold F_blockDeviceKeep.l1
        rw [bind_eq lss_r, cnd_b, if_pos (by simpa using hlt), hget, box_a (n := 2) (zs := [iv 0, .slice none 0 0]) (r := [iv w.1, v]) rfl rfl rfl (by simp [hv.1.oneC.1]; rfl), hH1, bind_eq ec]
      rw [pre fun _ => fail]
      cases hi : is k
      · refine ⟨H1, ?_, by simpa using h1, hst1⟩
        rw [jn_nrm (H' := H1) (vs := [pt id, f, ws, iv d.wait.length, iv k]) rfl]
        simp only [List.headD_cons, List.tail_cons]
        rw [bind_eq add_r, w1]
        rfl
      · obtain ⟨p, H2, f1, f2, f3, f4, f5⟩ := h1.setk hidx (hv.keep (fun j hj => by rw [← hH1]; exact List.getElem?_append_left (h.bl j hj).2) fun j hj => hj)
        refine ⟨H2, ?_, f3, hst1.trans f4⟩
        have g1 : ld1 (pa id (0 + 0)) H1 = some (ks, H1) := by rw [ldOne_r, h1.cell, rdk_r]; rfl
        have g2 : ld1 (pa H.length (0 + 0)) H1 = some (iv w.1, H1) := by rw [ldOne_r, hb, rdk_r]; rfl
        have g3 : ld1 (pa H.length (0 + 1)) H1 = some (v, H1) := by rw [ldOne_r, hb, rdk_r]; rfl
        refine (jn_nrm (H' := H2) (vs := [pt id, f, ws, iv d.wait.length, iv k]) ?_).trans ?_
        · rw [cnd_b, if_pos rfl, bind_eq nilc_r, bind_eq fa_r, bind_eq g1, bind_eq fa_r, bind_eq g2, bind_eq fa_r, bind_eq g3, bind_eq (f1 H1), bind_eq f2]
          rfl
        · simp only [List.headD_cons, List.tail_cons]
          rw [bind_eq add_r, w1]
          rfl
    have hok2 : DevS.Ok { d with kept := if is k then d.kept.set w.1 w.2 else d.kept } := by
      refine ⟨fun x hx => ?_, hok.few, ?_, fun b hb => ?_, hok.szw⟩
      · have := hok.idx x hx
        show x.1 < (if is k then d.kept.set w.1 w.2 else d.kept).length
        split <;> simpa using this
      · show (if is k then d.kept.set w.1 w.2 else d.kept).length ≤ 100000
        have := hok.bl
        split <;> simpa using this
      · simp only at hb
        split at hb
        · rcases List.mem_or_eq_of_mem_set hb with hb | rfl
          · exact hok.szk b hb
          · exact hok.szw w (List.mem_of_getElem? hwk)
        · exact hok.szk b hb
    obtain ⟨H3, e3, h3, s3⟩ := keep_do hcl rem (k + 1) (H := H2) hok2 h2 hr' hkl (fun j hj => by
      obtain ⟨c1, c2, c3⟩ := hC j hj
      exact ⟨by have := s2.len; omega, c2, by rw [s2.keep j c1 c2]; exact c3⟩)
    refine ⟨H3, ?_, h3, s2.trans s3⟩
    rw [loop_next (H' := H2) (vs' := [pt id, f, ws, iv d.wait.length, iv ((k + 1 : Nat) : Int)]) (by simp only [List.headD_cons, List.tail_cons]; exact e2)]
    exact e3

theorem r_keep {f : Value} {is : Nat → Bool} {C : List Nat} (hok : d.Ok) (h : Dev H id d own bs) (hcl : ∀ (k : Nat) (H' : Heap), k < 100000 → (∀ j ∈ C, H'[j]? = H[j]?) → callv (R n) f [iv k] H' = some (.bool (is k), H')) (hC : ∀ j ∈ C, j < H.length ∧ j ∉ own) :
    ∃ H' own', R (n + 1) n_blockDeviceKeep [pt id, f] H = some (.tuple #[], H') ∧ Dev H' id (d.keep is) own' bs ∧ Step own H own' H' := by
  obtain ⟨ks, ws, h⟩ := h
  obtain ⟨H1, e1, h1, s1⟩ := keep_do hcl d.wait 0 (H := H) hok h rfl (Nat.zero_le _) fun j hj => ⟨(hC j hj).1, (hC j hj).2, rfl⟩
  have g1 : ld1 (pa id (0 + 1)) H = some (ws, H) := by rw [ldOne_r, h.cell, rdk_r]; rfl
  have hcell := h1.cell
  have hlt1 := h1.lt
  obtain ⟨kvs, ko, wrs, wo, i1, i2, i3, i4, i5, rfl, i6, i7⟩ := h1
  have i6' := i6
  simp only [List.nodup_cons, List.mem_append, not_or, List.nodup_append] at i6
  generalize hH2 : H1.set id (.cells [ks, .slice none 0 0, .bool d.down, iv d.fuse, .int .u64 d.mask] 1 false false) = H2
  have hne : ∀ j, j ≠ id → H2[j]? = H1[j]? := fun j hj => by rw [← hH2]; exact List.getElem?_set_ne (Ne.symm hj)
  refine ⟨H2, id :: (ko ++ []), ?_, ⟨ks, .slice none 0 0, kvs, ko, [], [], by rw [← hH2]; exact set_get hcell, i2.keep fun j hj => hne j fun e => i6.1.1 (e ▸ hj), ?_, RowM.nil, .nil, rfl, ?_, fun j hj => ?_⟩, ?_⟩
  · rw [R, run_blockDeviceKeep rfl]
    unfold F_blockDeviceKeep
    rw [bind_eq nilc_r, bind_eq fa_r, bind_eq g1, bind_eq (h.wlen H)]
    refine (jn_ext (H' := H1) (j := 0) (vs := [pt id]) e1).trans ?_
    have g2 : st1 (pa id (0 + 1)) (.slice none 0 0) H1 = some (undef, H2) := by
      rw [stOne_r, hcell, wrk_r, if_pos ⟨by simp, rfl⟩, ← hH2]; rfl
    simp only [Nat.beq_refl, cond_true, List.headD_cons]
    rw [bind_eq nilc_r, bind_eq fa_r, bind_eq g2]
    rfl
  · exact i3.imp fun a b hab => hab.keep (fun j hj => hne j fun e => (i7 j hj).1 (by simp [e])) fun j hj => hj
  · simp only [List.append_nil, List.nodup_cons]
    exact ⟨i6.1.1, i6.2.1⟩
  · refine ⟨fun hm => (i7 j hj).1 ?_, by rw [← hH2]; simpa using (i7 j hj).2⟩
    simp only [List.append_nil, List.mem_cons, List.mem_append] at hm ⊢
    rcases hm with hm | hm
    · exact .inl hm
    · exact .inr (.inl hm)
  · refine s1.trans ⟨by rw [← hH2]; simp, fun j hj hn => hne j fun e => hn (by simp [e]), fun j hj => .inl ?_⟩
    simp only [List.append_nil, List.mem_cons, List.mem_append] at hj ⊢
    rcases hj with hj | hj
    · exact .inl hj
    · exact .inr (.inl hj)

end

end Go.Proofs.Ytahocinoohdagaa.A
