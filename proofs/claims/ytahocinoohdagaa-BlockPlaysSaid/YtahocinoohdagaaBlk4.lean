/- The device: a new one; a block is read. -/
import Derived.Test.YtahocinoohdagaaBlk3
namespace Go.Proofs.Ytahocinoohdagaa.A
set_option linter.unusedVariables false
set_option linter.unusedSimpArgs false
open Go.Proofs Go.Proofs.Ytahocinoohdagaa

theorem r_clone {n : Nat} {H : Heap} {b : Value} {p : List UInt8} (hb : Sl H b (u8s p)) (hp : p.length ≤ 140737488355328) :
    ∃ v q H', R (n + 1) n_bytesClone [b] H = some (v, H') ∧ RowS H' v (u8s p) q ∧ HLe H H' ∧ ∀ j ∈ q, H.length ≤ j := by
  rw [R, run_bytesClone rfl]
  rcases hb.isnil (H' := H) with ⟨rfl, hp0, e⟩ | e
  · refine ⟨.slice none 0 0, [], H, ?_, by rw [hp0]; exact RowS.nil, .refl _, by simp⟩
    unfold F_bytesClone
    rw [bind_eq e]
    rfl
  · have hb2 : Sl (H ++ [.cells [] 1 false false]) b (u8s p) := hb.mono (.app _ _)
    obtain ⟨sl', H', own', e2, hr, hle, ho⟩ := row_of (b := 1) hb2 (by rw [u8s_length]; omega) (by rw [u8s_length]; omega) (s := .slice (some ⟨H.length, 0, none⟩) 0 0) (.inr ⟨H.length, false, rfl, app_new, rfl⟩)
    refine ⟨sl', own', H', ?_, hr, (HLe.app _ _).trans hle, fun j hj => ?_⟩
    · unfold F_bytesClone
      rw [bind_eq e]
      simp only [cnd, cond_false]
      rw [bind_eq bsl0, bind_eq e2]
      rfl
    · rcases ho j hj with h | ⟨_, h⟩
      · simp at h; omega
      · cases h; exact Nat.le_refl _

def zeroB : List UInt8 := List.replicate 128 0
def DevS.new (n : Nat) : DevS := { kept := List.replicate n zeroB, wait := [], down := false, fuse := -1, mask := 0 }

theorem new_do {id n : Nat} {m : Int} (hm : m ≤ 1000) : ∀ (rem k : Nat) {H : Heap} {ks : Value} {own bs : List Nat}, m.toNat - k = rem → k ≤ m.toNat → DevX H id ks (.slice none 0 0) (DevS.new k) own bs →
    ∃ H' ks' own' bs', loopM (fun vs => F_blockNew.l1 (R n) (vs.headD undef) (vs.tail.headD undef) (vs.tail.tail.headD undef)) [pt id, iv m, iv k] H = some (.ext 0 [pt id], H') ∧ DevX H' id ks' (.slice none 0 0) (DevS.new m.toNat) own' bs' ∧ Step own H own' H' ∧ ∀ j ∈ bs', j ∈ bs ∨ H.length ≤ j
  | 0, k, H, ks, own, bs, hr, hk, h => by
    have hkm : k = m.toNat := by omega
    subst hkm
    refine ⟨H, ks, own, bs, loop_ext ?_, h, .refl _ _, fun j hj => .inl hj⟩
    simp only [F_blockNew.l1, List.headD_cons, List.tail_cons]
    rw [bind_eq lss_r, cnd_b, if_neg (by simp; omega)]
    rfl
  | rem + 1, k, H, ks, own, bs, hr, hk, h => by
    have hlt : (k : Int) < m := by omega
    have w1 : IntKind.i64.wrap ((k : Int) + 1) = ((k + 1 : Nat) : Int) := by rw [w64 (by omega) (by omega)]; simp
    have hcell := h.cell
    have hlt0 := h.lt
    have hbl := h.bl
    obtain ⟨kvs, ko, wrs, wo, i1, i2, i3, i4, i5, rfl, i6, i7⟩ := h
    have i6' := i6
    simp only [List.nodup_cons, List.mem_append, not_or, List.nodup_append] at i6
    have hidl := hlt0 id (by simp)
    -- the zeros
    have e1 : mks 1 1 (.int .u8 0) (iv 128) (iv 128) H = some (.slice (some ⟨H.length, 0, none⟩) 128 128, H ++ [.cells (u8s (List.replicate 128 0)) 1 false false]) := mks_z (l := 128) (by omega)
    generalize hH1 : H ++ [AObj.cells (u8s (List.replicate 128 0)) 1 false false] = H1 at e1
    have hle1 : HLe H H1 := by rw [← hH1]; exact .app _ _
    have hz : H1[H.length]? = some (.cells (u8s zeroB) 1 false false) := by rw [← hH1]; exact app_new
    generalize hq : (Value.slice (some ⟨H.length, 0, none⟩) 128 128) = q at e1
    have hq1 : oneCell q = true ∧ q.cells = #[q] := by rw [← hq]; exact ⟨rfl, rfl⟩
    generalize hH2 : H1 ++ [AObj.cells [q] 1 false false] = H2
    have hle2 : HLe H1 H2 := by rw [← hH2]; exact .app _ _
    have e2 : bsl 1 1 (.slice none 0 0) [(0, 1, q)] H1 = some (.slice (some ⟨H1.length, 0, none⟩) 1 1, H2) := by rw [← hH2]; exact bsl1 rfl hq1.2 hq1.1
    have hx : Sl H2 (.slice (some ⟨H1.length, 0, none⟩) 1 1) [q] := Sl.one (vs := [q]) (by rw [← hH2]; exact app_new)
    have hst2 : Step [] H [] H2 := (hle1.trans hle2).step
    have hkl : kvs.length = k := by rw [i3.len]; simp [DevS.new]
    obtain ⟨ks', H3, ko', e3, r3, s3, k3⟩ := (i2.step hst2 (by simp)).push (b := 24) hx (by omega) (by omega)
    have hl1 : H1.length = H.length + 1 := by rw [← hH1]; simp
    have hl2 : H2.length = H1.length + 1 := by rw [← hH2]; simp
    have hl3 := s3.len
    have hko' : ∀ j ∈ ko', j ∈ ko ∨ H1.length < j := fun j hj => (s3.own j hj).imp (fun h => h) fun h => by omega
    have hidk : id ∉ ko' := fun hm => by
      rcases hko' id hm with h | h
      · exact i6.1.1 h
      · omega
    have keep3 : ∀ j, j < H2.length → j ∉ ko → H3[j]? = H2[j]? := fun j hj hn => s3.keep j hj hn
    have keep2 : ∀ j, j < H.length → H2[j]? = H[j]? := fun j hj => hst2.keep j hj (by simp)
    have hcell3 : H3[id]? = some (.cells [ks, .slice none 0 0, .bool false, iv (-1), .int .u64 (0 : Nat)] 1 false false) := by
      rw [keep3 id (by omega) i6.1.1, keep2 id hidl]; exact hcell
    have hcell1 : H1[id]? = some (.cells [ks, .slice none 0 0, .bool false, iv (-1), .int .u64 (0 : Nat)] 1 false false) := hle1 _ _ hcell
    have hcell2 : H2[id]? = some (.cells [ks, .slice none 0 0, .bool false, iv (-1), .int .u64 (0 : Nat)] 1 false false) := hle2 _ _ hcell1
    generalize hH4 : H3.set id (.cells [ks', .slice none 0 0, .bool false, iv (-1), .int .u64 (0 : Nat)] 1 false false) = H4
    have hne : ∀ j, j ≠ id → H4[j]? = H3[j]? := fun j hj => by rw [← hH4]; exact List.getElem?_set_ne (Ne.symm hj)
    have hl4 : H4.length = H3.length := by rw [← hH4]; simp
    have g1 : ld1 (pa id (0 + 0)) H = some (ks, H) := by rw [ldOne_r, hcell, rdk_r]; rfl
    have g2 : ld1 (pa id (0 + 0)) H1 = some (ks, H1) := by rw [ldOne_r, hcell1, rdk_r]; rfl
    have g3 : ld1 (pa id (0 + 0)) H2 = some (ks, H2) := by rw [ldOne_r, hcell2, rdk_r]; rfl
    have g4 : st1 (pa id (0 + 0)) ks' H3 = some (undef, H4) := by rw [stOne_r, hcell3, wrk_r, if_pos ⟨by simp, r3.oneCell.1⟩, ← hH4]; rfl
    have hbody : F_blockNew.l1 (R n) (pt id) (iv m) (iv k) H = some (.nrm [pt id, iv m, iv ((k + 1 : Nat) : Int)], H4) := by
      unfold F_blockNew.l1
      rw [bind_eq lss_r, cnd_b, if_pos (by simpa using hlt), bind_eq nilc_r, bind_eq fa_r, bind_eq g1, bind_eq e1, bind_eq g2, same_self, bind_eq e2, bind_eq g3, same_self, bind_eq e3, bind_eq nilc_r, bind_eq fa_r, bind_eq g4, bind_eq add_r, w1]
      rfl
    have hnew : DevX H4 id ks' (.slice none 0 0) (DevS.new (k + 1)) (id :: (ko' ++ wo)) (H.length :: bs) := by
      refine ⟨kvs ++ [q], ko', wrs, wo, by rw [← hH4]; exact set_get hcell3, r3.keep fun j hj => hne j fun e => hidk (e ▸ hj), ?_, ?_, ?_, rfl, ?_, fun j hj => ?_⟩
      · have hbk : ∀ j ∈ bs, H4[j]? = H[j]? := fun j hj => by
          have h1 := (i7 j hj).1
          simp only [List.mem_cons, List.mem_append, not_or] at h1
          have h2 := (i7 j hj).2
          rw [hne j h1.1, keep3 j (by omega) h1.2.1, keep2 j h2]
        have hkept : (DevS.new (k + 1)).kept = (DevS.new k).kept ++ [zeroB] := by simp [DevS.new, List.replicate_succ']
        rw [hkept]
        refine (i3.imp fun a b hab => hab.keep hbk fun j hj => by simp [hj]).app (.one ⟨?_, H.length, by rw [← hq]; rfl, by simp⟩)
        have hzn : H.length ∉ ko := fun hm => by have := hlt0 H.length (by simp [hm]); omega
        have hz4 : H4[H.length]? = some (.cells (u8s zeroB) 1 false false) := by
          rw [hne _ (by omega), keep3 _ (by omega) hzn]; exact hle2 _ _ hz
        have := Sl.one (c := 128) hz4
        rw [u8s_length, show zeroB.length = 128 from List.length_replicate] at this
        rw [← hq]; exact this
      · refine i4.keep fun j hj => ?_
        have h2 := i4.lt j hj
        rw [hne j fun e => i6.1.2 (e ▸ hj), keep3 j (by omega) fun hm => i6.2.2.2 j hm j hj rfl, keep2 j h2]
      · cases i5; exact .nil
      · simp only [List.nodup_cons, List.mem_append, not_or, List.nodup_append]
        refine ⟨⟨hidk, i6.1.2⟩, ?_, i6.2.2.1, fun a ha b hb e => ?_⟩
        · exact r3.single
        · rcases hko' a ha with h | h
          · exact i6.2.2.2 a h b hb e
          · have := i4.lt b hb; omega
      · rcases List.mem_cons.1 hj with rfl | hj
        · refine ⟨?_, by omega⟩
          simp only [List.mem_cons, List.mem_append, not_or]
          refine ⟨by omega, fun hm => ?_, fun hm => by have := i4.lt _ hm; omega⟩
          rcases hko' _ hm with h | h
          · have := hlt0 H.length (by simp [h]); omega
          · omega
        · have h1 := (i7 j hj).1
          have h2 := (i7 j hj).2
          simp only [List.mem_cons, List.mem_append, not_or] at h1 ⊢
          refine ⟨⟨h1.1, fun hm => ?_, h1.2.2⟩, by omega⟩
          rcases hko' _ hm with h | h
          · exact h1.2.1 h
          · omega
    have hstep : Step (id :: (ko ++ wo)) H (id :: (ko' ++ wo)) H4 := by
      refine ⟨by omega, fun j hj hn => ?_, fun j hj => ?_⟩
      · simp only [List.mem_cons, List.mem_append, not_or] at hn
        rw [hne j hn.1, keep3 j (by omega) hn.2.1, keep2 j hj]
      · simp only [List.mem_cons, List.mem_append] at hj ⊢
        rcases hj with hj | hj | hj
        · exact .inl (.inl hj)
        · rcases hko' j hj with h | h
          · exact .inl (.inr (.inl h))
          · exact .inr (by omega)
        · exact .inl (.inr (.inr hj))
    obtain ⟨H5, ks5, own5, bs5, e5, h5, s5, b5⟩ := new_do (n := n) hm rem (k + 1) (by omega) (by omega) hnew
    refine ⟨H5, ks5, own5, bs5, ?_, h5, hstep.trans s5, fun j hj => ?_⟩
    · rw [loop_next (H' := H4) (vs' := [pt id, iv m, iv ((k + 1 : Nat) : Int)]) (by simp only [List.headD_cons, List.tail_cons]; exact hbody)]
      exact e5
    · rcases b5 j hj with h | h
      · rcases List.mem_cons.1 h with rfl | h
        · exact .inr (Nat.le_refl _)
        · exact .inl h
      · exact .inr (by omega)

theorem r_new {n : Nat} {m : Int} (hm : m ≤ 1000) (H : Heap) : ∃ H' own bs, R (n + 1) n_blockNew [iv m] H = some (pt H.length, H') ∧ Dev H' H.length (DevS.new m.toNat) own bs ∧ HLe H H' ∧ ∀ j, j ∈ own ∨ j ∈ bs → H.length ≤ j := by
  generalize hH1 : H ++ [AObj.cells [.slice none 0 0, .slice none 0 0, .bool false, iv (-1), .int .u64 (0 : Nat)] 1 false false] = H1
  have e1 : alc 1 (.agg #[.slice none 0 0, .slice none 0 0, .bool false, iv (-1), .int .u64 0]) H = some (pt H.length, H1) := by
    rw [← hH1, alc_r]; rfl
  have hD : DevX H1 H.length (.slice none 0 0) (.slice none 0 0) (DevS.new 0) [H.length] [] :=
    ⟨[], [], [], [], by rw [← hH1]; exact app_new, RowZ.nil, .nil, RowM.nil, .nil, rfl, by simp, by simp⟩
  obtain ⟨H2, ks, own, bs, e2, h2, s2, b2⟩ := new_do (n := n) (id := H.length) hm (m.toNat - 0) 0 rfl (Nat.zero_le _) hD
  have hle1 : HLe H H1 := by rw [← hH1]; exact .app _ _
  have hl1 : H1.length = H.length + 1 := by rw [← hH1]; simp
  have hown : ∀ j ∈ own, H.length ≤ j := fun j hj => by
    rcases s2.own j hj with h | h
    · have : j = H.length := by simpa using h
      omega
    · omega
  refine ⟨H2, own, bs, ?_, ⟨ks, _, h2⟩, fun i o hi => ?_, fun j hj => hj.elim (hown j) fun hb => ?_⟩
  · rw [R, run_blockNew rfl]
    unfold F_blockNew
    have e0 : bld (.agg #[.slice none 0 0, .slice none 0 0, .bool false, .int .i64 0, .int .u64 0]) [(3, 1, (Value.int .i64 (-1)))] H = some (.agg #[.slice none 0 0, .slice none 0 0, .bool false, iv (-1), .int .u64 0], H) := by
      simp [bld, bldC, Value.cells, isTup, splice]
    rw [bind_eq e0, bind_eq e1]
    exact (jn_ext (H' := H2) (j := 0) (vs := [pt H.length]) e2).trans rfl
  · have h3 := get_lt hi
    rw [s2.keep i (by omega) (by simp; omega)]; exact hle1 _ _ hi
  · rcases b2 j hb with h | h
    · cases h
    · omega

/-! a block is read -/

theorem lastW_snoc (i : Nat) (w : Nat × List UInt8) : ∀ l : List (Nat × List UInt8), lastW i (l ++ [w]) = if w.1 = i then some w.2 else lastW i l
  | [] => by simp [lastW]
  | x :: l => by
    simp only [List.cons_append, lastW, lastW_snoc i w l]
    by_cases h : w.1 = i <;> simp [h]

/-- What stays of a heap while the range over the writes goes on. -/
structure Rng (H H' : Heap) (c4 c5 L : Nat) : Prop where
  len : H.length ≤ H'.length
  keep : ∀ j, j < H.length → j ≠ c4 → j ≠ c5 → j ≠ L → H'[j]? = H[j]?

theorem Rng.refl (H : Heap) (c4 c5 L : Nat) : Rng H H c4 c5 L := ⟨Nat.le_refl _, fun _ _ _ _ _ => rfl⟩
theorem Rng.trans {H1 H2 H3 : Heap} {c4 c5 L : Nat} (h : Rng H1 H2 c4 c5 L) (h' : Rng H2 H3 c4 c5 L) : Rng H1 H3 c4 c5 L :=
  ⟨Nat.le_trans h.len h'.len, fun j hj a b c => by rw [h'.keep j (by have := h.len; omega) a b c, h.keep j hj a b c]⟩
theorem HLe.rng {H1 H2 : Heap} {c4 c5 L : Nat} (h : HLe H1 H2) : Rng H1 H2 c4 c5 L := ⟨h.len, fun j hj _ _ _ => h.step.keep j hj (by simp)⟩
theorem Rng.set {H : Heap} {c4 c5 L j : Nat} {o : AObj} (hj : j = c4 ∨ j = c5 ∨ j = L) : Rng H (H.set j o) c4 c5 L :=
  ⟨by simp, fun i _ a b c => List.getElem?_set_ne (by rintro rfl; rcases hj with h | h | h <;> contradiction)⟩

theorem DevX.rng {H H' : Heap} {id c4 c5 L : Nat} {ks ws : Value} {d : DevS} {own bs : List Nat} (h : DevX H id ks ws d own bs) (hr : Rng H H' c4 c5 L) (hn : ∀ j, j ∈ own ∨ j ∈ bs → j ≠ c4 ∧ j ≠ c5 ∧ j ≠ L) : DevX H' id ks ws d own bs :=
  h.keep hr.len fun j hj => hr.keep j (hj.elim (h.lt j) fun hb => (h.bl j hb).2) (hn j hj).1 (hn j hj).2.1 (hn j hj).2.2

/-- One round: another block. -/
theorem round_no {n c3 c4 c5 L k i : Nat} {H : Heap} {v : Value} {w : Nat × List UInt8} (hL : H[L]? = some (F_blockDeviceRead.o1 (pt c3) (pt c4) (pt c5) .ready none)) (h3 : H[c3]? = some (.cells [iv i] 1 false false)) (h3L : c3 ≠ L) (hv : oneCell v = true) (hw : w.1 ≠ i) :
    ∃ H', R (n + 2) (yoff + L) [iv k, .agg #[iv w.1, v]] H = some (.bool true, H') ∧ Rng H H' c4 c5 L ∧ H'[L]? = some (F_blockDeviceRead.o1 (pt c3) (pt c4) (pt c5) .ready none) ∧ (c4 ≠ L → H'[c4]? = H[c4]? ∨ H.length ≤ c4) ∧ (c5 ≠ L → H'[c5]? = H[c5]? ∨ H.length ≤ c5) := by
  generalize hH1 : H ++ [AObj.cells [iv w.1, v] 1 false false] = H1
  have hle1 : HLe H H1 := by rw [← hH1]; exact .app _ _
  have hL1 := hle1 _ _ hL
  have hb : H1[H.length]? = some (.cells [iv w.1, v] 1 false false) := by rw [← hH1]; exact app_new
  have hLl := get_lt hL
  generalize hH2 : H1.set L (F_blockDeviceRead.o1 (pt c3) (pt c4) (pt c5) .busy none) = H2
  have hL2 : H2[L]? = some (F_blockDeviceRead.o1 (pt c3) (pt c4) (pt c5) .busy none) := by rw [← hH2]; exact set_get hL1
  have hne2 : ∀ j, j ≠ L → H2[j]? = H1[j]? := fun j hj => by rw [← hH2]; exact List.getElem?_set_ne (Ne.symm hj)
  have g1 : ld1 (pa H.length (0 + 0)) H2 = some (iv w.1, H2) := by rw [ldOne_r, hne2 _ (by omega), hb, rdk_r]; rfl
  have g2 : ld1 (pt c3) H2 = some (iv i, H2) := by rw [ldOne_r, hne2 _ h3L, hle1 _ _ h3, rdk_r]; rfl
  have hwi : ¬ ((w.1 : Int) = (i : Int)) := by omega
  refine ⟨H2.set L (F_blockDeviceRead.o1 (pt c3) (pt c4) (pt c5) .ready none), ?_, (hle1.rng.trans (by rw [← hH2]; exact Rng.set (.inr (.inr rfl)))).trans (Rng.set (.inr (.inr rfl))), set_get hL2, fun hn => ?_, fun hn => ?_⟩
  · rw [R, run_round, rd_blockDeviceRead_r1 hL]
    unfold F_blockDeviceRead.r1
    rw [box_a (n := 2) (zs := [iv 0, .slice none 0 0]) (r := [iv w.1, v]) rfl rfl rfl (by simp [hv]; rfl), hH1, begM_at hL1, hH2, bind_eq fa_r, bind_eq g1, bind_eq g2, bind_eq eql_r, cnd_b, if_neg (by simpa using hwi), endR_at hL2]
    rfl
  · rcases Nat.lt_or_ge c4 H.length with hlt | hge
    · rw [List.getElem?_set_ne (Ne.symm hn), hne2 _ hn, hle1.step.keep c4 hlt (by simp)]; exact .inl rfl
    · exact .inr hge
  · rcases Nat.lt_or_ge c5 H.length with hlt | hge
    · rw [List.getElem?_set_ne (Ne.symm hn), hne2 _ hn, hle1.step.keep c5 hlt (by simp)]; exact .inl rfl
    · exact .inr hge

/-- One round: the block. -/
theorem round_yes {n c3 c4 c5 L k i : Nat} {H : Heap} {v : Value} {w : Nat × List UInt8} {x4 x5 : Value} (hL : H[L]? = some (F_blockDeviceRead.o1 (pt c3) (pt c4) (pt c5) .ready none)) (h3 : H[c3]? = some (.cells [iv i] 1 false false)) (h4 : H[c4]? = some (.cells [x4] 1 false false)) (h5 : H[c5]? = some (.cells [x5] 1 false false)) (h3L : c3 ≠ L) (h4L : c4 ≠ L) (h5L : c5 ≠ L) (h45 : c4 ≠ c5)
    (hv : Sl H v (u8s w.2)) (hvL : ∀ j, own1 v = some j → j ≠ L) (hb : w.2.length ≤ 100000) (hw : w.1 = i) :
    ∃ H' u q, R (n + 2) (yoff + L) [iv k, .agg #[iv w.1, v]] H = some (.bool false, H') ∧ Rng H H' c4 c5 L ∧ H'[L]? = some (F_blockDeviceRead.o1 (pt c3) (pt c4) (pt c5) .done (some .ret)) ∧ H'[c4]? = some (.cells [u] 1 false false) ∧ H'[c5]? = some (.cells [iv 0] 1 false false) ∧ RowS H' u (u8s w.2) q ∧ ∀ j ∈ q, H.length ≤ j := by
  generalize hH1 : H ++ [AObj.cells [iv w.1, v] 1 false false] = H1
  have hle1 : HLe H H1 := by rw [← hH1]; exact .app _ _
  have hL1 := hle1 _ _ hL
  have hl1 : H1.length = H.length + 1 := by rw [← hH1]; simp
  have hbx : H1[H.length]? = some (.cells [iv w.1, v] 1 false false) := by rw [← hH1]; exact app_new
  have hLl := get_lt hL
  have h4l := get_lt h4
  have h5l := get_lt h5
  generalize hH2 : H1.set L (F_blockDeviceRead.o1 (pt c3) (pt c4) (pt c5) .busy none) = H2
  have hl2 : H2.length = H1.length := by rw [← hH2]; simp
  have hL2 : H2[L]? = some (F_blockDeviceRead.o1 (pt c3) (pt c4) (pt c5) .busy none) := by rw [← hH2]; exact set_get hL1
  have hne2 : ∀ j, j ≠ L → H2[j]? = H1[j]? := fun j hj => by rw [← hH2]; exact List.getElem?_set_ne (Ne.symm hj)
  have g1 : ld1 (pa H.length (0 + 0)) H2 = some (iv w.1, H2) := by rw [ldOne_r, hne2 _ (by omega), hbx, rdk_r]; rfl
  have g2 : ld1 (pt c3) H2 = some (iv i, H2) := by rw [ldOne_r, hne2 _ h3L, hle1 _ _ h3, rdk_r]; rfl
  have g3 : ld1 (pa H.length (0 + 1)) H2 = some (v, H2) := by rw [ldOne_r, hne2 _ (by omega), hbx, rdk_r]; rfl
  have hv2 : Sl H2 v (u8s w.2) := (hv.mono hle1).keep fun j hj => hne2 j (hvL j hj)
  obtain ⟨u, q, H3, e3, r3, hle3, hq⟩ := r_clone (n := n) hv2 (by omega)
  have hl3 := hle3.len
  have h43 : H3[c4]? = some (.cells [x4] 1 false false) := hle3 _ _ (by rw [hne2 _ h4L]; exact hle1 _ _ h4)
  generalize hH4 : H3.set c4 (.cells [u] 1 false false) = H4
  have hne4 : ∀ j, j ≠ c4 → H4[j]? = H3[j]? := fun j hj => by rw [← hH4]; exact List.getElem?_set_ne (Ne.symm hj)
  have h54 : H4[c5]? = some (.cells [x5] 1 false false) := by rw [hne4 _ (Ne.symm h45)]; exact hle3 _ _ (by rw [hne2 _ h5L]; exact hle1 _ _ h5)
  generalize hH5 : H4.set c5 (.cells [iv 0] 1 false false) = H5
  have hne5 : ∀ j, j ≠ c5 → H5[j]? = H4[j]? := fun j hj => by rw [← hH5]; exact List.getElem?_set_ne (Ne.symm hj)
  have hL5 : H5[L]? = some (F_blockDeviceRead.o1 (pt c3) (pt c4) (pt c5) .busy none) := by rw [hne5 _ (Ne.symm h5L), hne4 _ (Ne.symm h4L)]; exact hle3 _ _ hL2
  have g4 : st1 (pt c4) u H3 = some (undef, H4) := by rw [stOne_r, h43, wrk_r, if_pos ⟨by simp, r3.oneCell.1⟩, ← hH4]; rfl
  have g5 : st1 (pt c5) (iv 0) H4 = some (undef, H5) := by rw [stOne_r, h54, wrk_r, if_pos ⟨by simp, rfl⟩, ← hH5]; rfl
  have hwi : ((w.1 : Int) = (i : Int)) := by omega
  have q2 : Rng H1 H2 c4 c5 L := by rw [← hH2]; exact Rng.set (.inr (.inr rfl))
  have q4 : Rng H3 H4 c4 c5 L := by rw [← hH4]; exact Rng.set (.inl rfl)
  have q5 : Rng H4 H5 c4 c5 L := by rw [← hH5]; exact Rng.set (.inr (.inl rfl))
  have hrng : Rng H H5 c4 c5 L := ((hle1.rng.trans q2).trans hle3.rng).trans (q4.trans q5)
  refine ⟨H5.set L (F_blockDeviceRead.o1 (pt c3) (pt c4) (pt c5) .done (some .ret)), u, q, ?_, hrng.trans (Rng.set (.inr (.inr rfl))), set_get hL5, ?_, ?_, ?_, fun j hj => by have := hq j hj; omega⟩
  · rw [R, run_round, rd_blockDeviceRead_r1 hL]
    unfold F_blockDeviceRead.r1
    rw [box_a (n := 2) (zs := [iv 0, .slice none 0 0]) (r := [iv w.1, v]) rfl rfl rfl (by simp [hv.oneC.1]; rfl), hH1, begM_at hL1, hH2, bind_eq fa_r, bind_eq g1, bind_eq g2, bind_eq eql_r, cnd_b, if_pos (by simpa using hwi), bind_eq fa_r, bind_eq g3, bind_eq e3, bind_eq g4, bind_eq g5, endR_at hL5]
    rfl
  · rw [List.getElem?_set_ne (Ne.symm h4L), hne5 _ h45, ← hH4]; exact set_get h43
  · rw [List.getElem?_set_ne (Ne.symm h5L), ← hH5]; exact set_get h54
  · refine r3.keep fun j hj => ?_
    have := hq j hj
    rw [List.getElem?_set_ne (by omega), hne5 j (by omega), hne4 j (by omega)]

end Go.Proofs.Ytahocinoohdagaa.A
