/- The device: cut, fuse, flush, write. -/
import Derived.Test.YtahocinoohdagaaBlk2
namespace Go.Proofs.Ytahocinoohdagaa.A
set_option linter.unusedVariables false
set_option linter.unusedSimpArgs false
open Go.Proofs Go.Proofs.Ytahocinoohdagaa

theorem bit_u64 {t n : Nat} (hn : n < 64) : IntKind.u64.wrap ((BitVec.ofInt IntKind.u64.bits ((t : Int).fdiv (2 ^ (min (n : Int).toNat IntKind.u64.bits))) &&& BitVec.ofInt IntKind.u64.bits 1).toNat : Int) = if t.testBit n then 1 else 0 := by
  have hb : IntKind.u64.bits = 64 := rfl
  rw [hb, Int.toNat_natCast, Nat.min_eq_left (by omega), fdiv_nat, ofInt_nat, show (1 : Int) = ((1 : Nat) : Int) from rfl, ofInt_nat, BitVec.toNat_and, BitVec.toNat_ofNat, BitVec.toNat_ofNat]
  have h2 : (2 : Nat) ^ 64 = 18446744073709551616 := rfl
  rw [h2, show 1 % 18446744073709551616 = 1 from rfl, Nat.and_one_is_mod, show t / 2 ^ n % 18446744073709551616 % 2 = t / 2 ^ n % 2 by omega, testBit_mod, wu64]
  split <;> rfl

section
variable {H H' : Heap} {id n : Nat} {ks ws : Value} {d : DevS} {own bs : List Nat}

theorem callv_f {Γ : Funs} {g : FuncId} {a b : Array Value} {args : List Value} (hy : Nat.blt g yoff = true) : callv Γ (.func (.func g) a b) args = Γ g (a.toList ++ (args ++ b.toList)) := by
  simp only [callv, hy, cond_true]

theorem cut_cl {c m k : Nat} (hc : H[c]? = some (.cells [.int .u64 m] 1 false false)) : callv (R (n + 1)) (.func (.func 31) #[] #[pt c]) [iv k] H = some (.bool (cbit m k), H) := by
  have e : callv (R (n + 1)) (.func (.func 31) #[] #[pt c]) [iv k] = R (n + 1) n_blockDeviceCut1 [iv k, pt c] := callv_f rfl
  have g : ld1 (pt c) H = some (.int .u64 m, H) := by rw [ldOne_r, hc, rdk_r]; rfl
  rw [e, R, run_blockDeviceCut1 rfl]
  unfold F_blockDeviceCut1
  have h64 : ¬ ((64 : Int) = 0) := by omega
  have hm : (k : Int).tmod 64 = ((k % 64 : Nat) : Int) := by rw [Int.tmod_eq_emod_of_nonneg (by omega)]; omega
  rw [bind_eq g, bind_eq (rem_r.trans (if_neg h64)), hm, bind_eq (shr_r.trans (if_neg (by omega))), bind_eq and_r, bit_u64 (Nat.mod_lt _ (by omega)), bind_eq eql_r]
  unfold cbit
  cases m.testBit (k % 64) <;> rfl

theorem flush_cl {k : Nat} : callv (R (n + 1)) (.func (.func 29) #[] #[]) [iv k] H = some (.bool true, H) := by
  have e : callv (R (n + 1)) (.func (.func 29) #[] #[]) [iv k] = R (n + 1) n_blockDeviceFlush1 [iv k] := callv_f rfl
  rw [e, R, run_blockDeviceFlush1 rfl]
  rfl

theorem r_cut (hok : d.Ok) (h : Dev H id d own bs) (m : Nat) : ∃ H' own', R (n + 3) n_blockDeviceCut [pt id, .int .u64 m] H = some (.tuple #[], H') ∧ Dev H' id (d.cut m) own' bs ∧ Step own H own' H' := by
  generalize hH1 : H ++ [AObj.cells [.int .u64 m] 1 false false] = H1
  have hle1 : HLe H H1 := by rw [← hH1]; exact .app _ _
  have h1 := h.hle hle1
  have hst1 : Step own H own H1 := hle1.step.more (by simp) fun j hj => .inl hj
  have e1 : alc 1 (.int .u64 m) H = some (pt H.length, H1) := by rw [← hH1, alc_r]; rfl
  have hc : H1[H.length]? = some (.cells [.int .u64 m] 1 false false) := by rw [← hH1]; exact app_new
  unfold DevS.cut
  cases hd : d.down
  · obtain ⟨H2, own2, e2, h2, s2⟩ := r_keep (n := n + 1) (f := .func (.func 31) #[] #[pt H.length]) (is := cbit m) (C := [H.length]) hok h1 (fun k H' _ hC => cut_cl (by rw [hC H.length (by simp)]; exact hc))
      fun j hj => by
        have : j = H.length := by simpa using hj
        subst this
        exact ⟨get_lt hc, fun hm => by have := h.lt _ hm; omega⟩
    obtain ⟨ks, ws, h2⟩ := h2
    obtain ⟨H3, e3, h3, s3, l3⟩ := h2.put (o := 2) (v := .bool true) (d' := { d.keep (cbit m) with down := true }) rfl (by omega) rfl rfl rfl
    obtain ⟨H4, e4, h4, s4, l4⟩ := h3.put (o := 3) (v := iv (-1)) (d' := { d.keep (cbit m) with down := true, fuse := -1 }) rfl (by omega) rfl rfl rfl
    refine ⟨H4, own2, ?_, ⟨ks, ws, by simpa [hd] using h4⟩, hst1.trans (s2.trans (s3.trans s4))⟩
    obtain ⟨ks1, ws1, h1⟩ := h1
    have e0 : ld1 (pa id (0 + 2)) H1 = some (.bool false, H1) := by rw [ldOne_r, h1.cell, rdk_r]; simp [hd]
    rw [R, run_blockDeviceCut rfl]
    unfold F_blockDeviceCut
    rw [bind_eq e1, bind_eq nilc_r, bind_eq fa_r, bind_eq e0, cnd_b, if_neg (by simp), bind_eq e2, bind_eq nilc_r, bind_eq fa_r, Nat.zero_add, bind_eq e3, bind_eq nilc_r, bind_eq fa_r, Nat.zero_add, bind_eq e4]
    rfl
  · refine ⟨H1, own, ?_, by simpa [hd] using h1, hst1⟩
    obtain ⟨ks1, ws1, h1⟩ := h1
    have e0 : ld1 (pa id (0 + 2)) H1 = some (.bool true, H1) := by rw [ldOne_r, h1.cell, rdk_r]; simp [hd]
    rw [R, run_blockDeviceCut rfl]
    unfold F_blockDeviceCut
    rw [bind_eq e1, bind_eq nilc_r, bind_eq fa_r, bind_eq e0, cnd_b, if_pos rfl]
    rfl

theorem r_burn (hok : d.Ok) (h : Dev H id d own bs) (hf : d.fuse ≤ 9223372036854775807) : ∃ H' own', R (n + 4) n_blockDeviceBurn [pt id] H = some (iv d.burn.2, H') ∧ Dev H' id d.burn.1 own' bs ∧ Step own H own' H' := by
  have e0 : ld1 (pa id (0 + 3)) H = some (iv d.fuse, H) := by obtain ⟨ks, ws, h⟩ := h; rw [ldOne_r, h.cell, rdk_r]; rfl
  rw [R, run_blockDeviceBurn rfl]
  unfold DevS.burn
  by_cases h1 : d.fuse < 0
  · refine ⟨H, own, ?_, by simpa [h1] using h, .refl _ _⟩
    unfold F_blockDeviceBurn
    rw [bind_eq nilc_r, bind_eq fa_r, bind_eq e0, bind_eq lss_r, cnd_b, if_pos (by simpa using h1), if_pos h1]
    rfl
  · by_cases h2 : 0 < d.fuse
    · obtain ⟨ks, ws, h⟩ := h
      have w1 : IntKind.i64.wrap (d.fuse - 1) = d.fuse - 1 := w64 (by omega) (by omega)
      obtain ⟨H2, e2, k2, s2, l2⟩ := h.put (o := 3) (v := iv (d.fuse - 1)) (d' := { d with fuse := d.fuse - 1 }) rfl (by omega) rfl rfl rfl
      refine ⟨H2, own, ?_, ⟨ks, ws, by simpa [h1, h2] using k2⟩, s2⟩
      unfold F_blockDeviceBurn
      rw [bind_eq nilc_r, bind_eq fa_r, bind_eq e0, bind_eq lss_r, cnd_b, if_neg (by simpa using h1), bind_eq nilc_r, bind_eq fa_r, bind_eq e0, bind_eq gtr_r, cnd_b, if_pos (by simpa using h2), bind_eq nilc_r, bind_eq fa_r, bind_eq e0, bind_eq sub_r, w1, bind_eq nilc_r, bind_eq fa_r, Nat.zero_add, bind_eq e2, if_neg h1, if_pos h2]
      rfl
    · obtain ⟨H2, own2, e2, k2, s2⟩ := r_cut (n := n) hok h d.mask
      have e3 : ld1 (pa id (0 + 4)) H = some (.int .u64 d.mask, H) := by obtain ⟨ks, ws, h⟩ := h; rw [ldOne_r, h.cell, rdk_r]; rfl
      refine ⟨H2, own2, ?_, by simpa [h1, h2] using k2, s2⟩
      unfold F_blockDeviceBurn
      rw [bind_eq nilc_r, bind_eq fa_r, bind_eq e0, bind_eq lss_r, cnd_b, if_neg (by simpa using h1), bind_eq nilc_r, bind_eq fa_r, bind_eq e0, bind_eq gtr_r, cnd_b, if_neg (by simpa using h2), bind_eq nilc_r, bind_eq fa_r, bind_eq e3, bind_eq e2, if_neg h1, if_neg h2]
      rfl

theorem r_flush (hok : d.Ok) (h : Dev H id d own bs) (hf : d.fuse ≤ 9223372036854775807) : ∃ H' own', R (n + 5) n_blockDeviceFlush [pt id] H = some (iv d.flush.2, H') ∧ Dev H' id d.flush.1 own' bs ∧ Step own H own' H' := by
  have e0 : ld1 (pa id (0 + 2)) H = some (.bool d.down, H) := by obtain ⟨ks, ws, h⟩ := h; rw [ldOne_r, h.cell, rdk_r]; rfl
  rw [R, run_blockDeviceFlush rfl]
  unfold DevS.flush
  cases hd : d.down
  · obtain ⟨H1, own1, e1, h1, s1⟩ := r_burn (n := n) hok h hf
    by_cases hb : d.burn.2 = 0
    · obtain ⟨H2, own2, e2, h2, s2⟩ := r_keep (n := n + 3) (f := .func (.func 29) #[] #[]) (is := fun _ => true) (C := []) hok.burn h1 (fun k H' _ _ => flush_cl) (by simp)
      refine ⟨H2, own2, ?_, by simpa [hd, hb] using h2, s1.trans s2⟩
      unfold F_blockDeviceFlush
      rw [bind_eq nilc_r, bind_eq fa_r, bind_eq e0, cnd_b, if_neg (by simp [hd]), bind_eq e1, bind_eq neq_r, cnd_b, if_neg (by simp [hb]), bind_eq e2]
      simp [hb, ret]
    · refine ⟨H1, own1, ?_, by simpa [hd, hb] using h1, s1⟩
      unfold F_blockDeviceFlush
      rw [bind_eq nilc_r, bind_eq fa_r, bind_eq e0, cnd_b, if_neg (by simp [hd]), bind_eq e1, bind_eq neq_r, cnd_b, if_pos (by simpa using hb)]
      simp [hb, ret]
  · refine ⟨H, own, ?_, by simpa [hd] using h, .refl _ _⟩
    unfold F_blockDeviceFlush
    rw [bind_eq nilc_r, bind_eq fa_r, bind_eq e0, cnd_b, if_pos hd]
    rfl

/-- Zeros of one cell. -/
theorem reps_one (n : Nat) (v : Value) : reps n [v] = List.replicate n v := by
  unfold reps
  induction n with
  | zero => rfl
  | succ n ih => rw [List.replicate_succ, List.flatten_cons, ih]; rfl

theorem u8s_zeros (n : Nat) : List.replicate n (Value.int .u8 0) = u8s (List.replicate n 0) := by simp [u8s]
theorem u8s_app (a b : List UInt8) : u8s (a ++ b) = u8s a ++ u8s b := by simp [u8s]

theorem mks_z {l : Nat} (h : l ≤ 100000) : mks 1 1 (.int .u8 0) (iv l) (iv l) H = some (.slice (some ⟨H.length, 0, none⟩) l l, H ++ [.cells (u8s (List.replicate l 0)) 1 false false]) := by
  unfold mks
  simp only
  rw [if_pos (by omega)]
  simp only [Int.toNat_natCast, Value.cells, reps_one, u8s_zeros]

/-- Bytes are copied ahead of zeros. -/
theorem full_cpy {b : List UInt8} {v : Value} (hv : Sl H v (u8s b)) (hb : b.length ≤ 128) :
    ∃ q H1 H2, mks 1 1 (.int .u8 0) (iv 128) (iv 128) H = some (q, H1) ∧ cpy 1 q v H1 = some (iv b.length, H2) ∧ Fz H2 [H.length] q (pad b) ∧ HLe H H2 ∧ H2.length = H.length + 1 := by
  have e1 := mks_z (H := H) (l := 128) (by omega)
  have hv2 : Sl (H ++ [.cells (u8s (List.replicate 128 0)) 1 false false]) v (u8s b) := hv.mono (.app _ _)
  have hsp : splice (u8s (List.replicate 128 0)) ((u8s b).take (b.length * 1)) 0 = u8s (pad b) := by
    unfold splice pad
    rw [List.take_zero, List.nil_append, Nat.zero_add, List.take_of_length_le (by rw [u8s_length]; omega), u8s_app, u8s_length]
    congr 1
    unfold u8s
    rw [← List.map_drop, List.drop_replicate]
  have hpl := pad_len hb
  refine ⟨_, _, H ++ [.cells (u8s (pad b)) 1 false false], e1, ?_, ⟨?_, H.length, rfl, by simp⟩, .app _ _, by simp⟩
  · unfold cpy
    rw [hv2.fc]
    simp only [app_new, hv2.flen, u8s_length]
    rw [Nat.min_eq_left hb, if_pos (by simp; omega), hsp]
    simp
  · have := Sl.one (vs := u8s (pad b)) (c := 128) (H := H ++ [.cells (u8s (pad b)) 1 false false]) (id := H.length) app_new
    rw [u8s_length, hpl] at this
    exact this

theorem r_write (hok : d.Ok) (h : Dev H id d own bs) (hf : d.fuse ≤ 9223372036854775807) (hw : d.wait.length < 100000) (i : Int) {v : Value} {b : List UInt8} (hv : Sl H v (u8s b)) (hvn : ∀ j, own1 v = some j → j ∉ own) :
    ∃ H' own' bs', R (n + 5) n_blockDeviceWrite [pt id, iv i, v] H = some (iv (d.write i b).2, H') ∧ Dev H' id (d.write i b).1 own' bs' ∧ Step own H own' H' ∧ (∀ j ∈ bs', j ∈ bs ∨ H.length ≤ j) ∧ ∀ j ∈ bs, j ∈ bs' := by
  have e0 := r_there (n := n + 3) h i
  rw [R, run_blockDeviceWrite rfl]
  unfold DevS.write
  by_cases h0 : d.there i = 0
  · by_cases hl : b.length > 128
    · refine ⟨H, own, bs, ?_, by simpa [h0, hl] using h, .refl _ _, fun j hj => .inl hj, fun j hj => hj⟩
      unfold F_blockDeviceWrite
      rw [bind_eq e0, bind_eq neq_r, cnd_b, if_neg (by simp [h0]), bind_eq hv.len, bind_eq gtr_r, cnd_b, if_pos (by simp [u8s_length]; omega)]
      simp [h0, hl, ret]
    · obtain ⟨H1, own1', e1, h1, s1⟩ := r_burn (n := n) hok h hf
      by_cases hb : d.burn.2 = 0
      · have hv1 : Sl H1 v (u8s b) := hv.keep fun j hj => s1.keep j (by
          obtain ⟨a, c, rfl, _, hfc⟩ := hv
          unfold A.own1 at hj
          split at hj
          · rename_i id' o n' c' e
            cases e
            cases hj
            unfold fcells at hfc
            simp only at hfc
            split at hfc
            · rename_i hg; exact get_lt hg
            · cases hfc
          · cases hj) (hvn j hj)
        obtain ⟨q, H2, H3, e2, e3, hq, hle, hlen⟩ := full_cpy hv1 (by omega)
        have hst3 : Step [] H1 [] H3 := hle.step
        have h3 := h1.hle hle
        obtain ⟨ks, ws, h3⟩ := h3
        have hcell := h3.cell
        have hlt3 := h3.lt
        have hlt1 := h1.lt
        obtain ⟨kvs, ko, wrs, wo, i1, i2, i3, i4, i5, rfl, i6, i7⟩ := h3
        have i6' := i6
        simp only [List.nodup_cons, List.mem_append, not_or, List.nodup_append] at i6
        -- the row of one
        generalize hH4 : H3 ++ [AObj.cells [iv i, q] 2 false false] = H4
        have hle4 : HLe H3 H4 := by rw [← hH4]; exact .app _ _
        have e4 : bsl 2 1 (.agg #[.int .i64 0, .slice none 0 0]) [(0, 2, .agg #[iv i, q])] H3 = some (.slice (some ⟨H3.length, 0, none⟩) 1 1, H4) := by
          rw [← hH4]
          exact bsl_a (r := [iv i, q]) (z := .agg #[.int .i64 0, .slice none 0 0]) rfl rfl (by simp [hq.1.oneC.1]; rfl)
        have hx : SlN 2 H4 (.slice (some ⟨H3.length, 0, none⟩) 1 1) [[iv i, q]] := SlN.whole (rows := [[iv i, q]]) (e := 2) (g := false) (ro := false) (by rw [← hH4]; exact app_new) (by simp)
        have hfew := hok.burn.few
        have hbw := burn_wlen d
        have hwl : wrs.length < 100000 := by rw [i5.len]; omega
        obtain ⟨ws', H5, wo', e5, r5, s5⟩ := (i4.step hle4.step (by simp)).push (b := 32) hx rfl (by omega) (by omega)
        have hH4l : H4.length = H3.length + 1 := by rw [← hH4]; simp
        have hidlt := hlt3 id (by simp)
        have hid4 : H4[id]? = H3[id]? := by rw [← hH4]; exact List.getElem?_append_left hidlt
        have hcell5 : H5[id]? = some (.cells [ks, ws, .bool d.burn.1.down, iv d.burn.1.fuse, .int .u64 d.burn.1.mask] 1 false false) := by
          rw [s5.keep id (by omega) i6.1.2, hid4]; exact hcell
        have hwo' : ∀ j ∈ wo', j ∈ wo ∨ H3.length < j := fun j hj => (s5.own j hj).imp (fun h => h) fun h => by omega
        have hidw : id ∉ wo' := fun hm => by
          rcases hwo' id hm with h | h
          · exact i6.1.2 h
          · omega
        generalize hH6 : H5.set id (.cells [ks, ws', .bool d.burn.1.down, iv d.burn.1.fuse, .int .u64 d.burn.1.mask] 1 false false) = H6
        have hne : ∀ j, j ≠ id → H6[j]? = H5[j]? := fun j hj => by rw [← hH6]; exact List.getElem?_set_ne (Ne.symm hj)
        have keep56 : ∀ j, j < H3.length → j ≠ id → j ∉ wo → H6[j]? = H3[j]? := fun j hj hji hjw => by
          rw [hne j hji, s5.keep j (by omega) hjw, ← hH4, List.getElem?_append_left hj]
        have hqid : ∀ j ∈ [H1.length], j < H3.length ∧ j ≠ id ∧ j ∉ wo ∧ j ∉ ko := fun j hj => by
          have : j = H1.length := by simpa using hj
          subst this
          refine ⟨by omega, fun e => ?_, fun hm => ?_, fun hm => ?_⟩
          · have := hlt1 id (by simp); omega
          · have := hlt1 H1.length (by simp [hm]); omega
          · have := hlt1 H1.length (by simp [hm]); omega
        have hbk : ∀ j ∈ bs, H6[j]? = H3[j]? := fun j hj => by
          have := (i7 j hj).1
          simp only [List.mem_cons, List.mem_append, not_or] at this
          exact keep56 j (i7 j hj).2 this.1 this.2.2
        refine ⟨H6, id :: (ko ++ wo'), H1.length :: bs, ?_, ⟨ks, ws', kvs, ko, wrs ++ [[iv i, q]], wo', ?_, ?_, ?_, ?_, ?_, rfl, ?_, fun j hj => ?_⟩, ?_, fun j hj => ?_, fun j hj => by simp [hj]⟩
        · unfold F_blockDeviceWrite
          rw [bind_eq e0, bind_eq neq_r, cnd_b, if_neg (by simp [h0]), bind_eq hv.len, bind_eq gtr_r, cnd_b, if_neg (by simp [u8s_length]; omega), bind_eq e1, bind_eq neq_r, cnd_b, if_neg (by simp [hb])]
          have g1 : ld1 (pa id (0 + 1)) H3 = some (ws, H3) := by rw [ldOne_r, hcell, rdk_r]; rfl
          have hq2 : isTup q = false := by obtain ⟨_, _, e, _⟩ := hq.1; rw [e]; rfl
          have g2 : bld (.agg #[.int .i64 0, .slice none 0 0]) [(0, 1, iv i), (1, 1, q)] H3 = some (.agg #[iv i, q], H3) := by
            have c1 : (iv i).cells = #[iv i] := rfl
            have c2 : (Value.agg #[.int .i64 0, .slice none 0 0]).cells = #[.int .i64 0, .slice none 0 0] := rfl
            have c3 : isTup (iv i) = false := rfl
            simp [bld, bldC, splice, hq2, hq.1.oneC.2, c1, c2, c3]
          have g3 : st1 (pa id (0 + 1)) ws' H5 = some (undef, H6) := by
            rw [stOne_r, hcell5, wrk_r, if_pos ⟨by simp, r5.one.1⟩, ← hH6]; rfl
          rw [bind_eq e2, bind_eq e3, bind_eq nilc_r, bind_eq fa_r, bind_eq g1, bind_eq g2, bind_eq e4, bind_eq e5, bind_eq nilc_r, bind_eq fa_r, bind_eq g3]
          simp [h0, hl, hb, ret]
        · simp only [h0, hl, hb, if_true, if_false]
          rw [← hH6]; exact set_get hcell5
        · exact i2.keep fun j hj => keep56 j (i2.lt j hj) (fun e => i6.1.1 (e ▸ hj)) fun hm => i6.2.2.2 j hj j hm rfl
        · simp only [h0, hl, hb, if_true, if_false]
          exact i3.imp fun a b hab => hab.keep hbk fun j hj => by simp [hj]
        · exact r5.keep fun j hj => hne j fun e => hidw (e ▸ hj)
        · simp only [h0, hl, hb, if_true, if_false]
          refine (i5.imp fun a b hab => hab.keep hbk fun j hj => by simp [hj]).app (.one ⟨q, ?_, hq.keep (fun j hj => keep56 j (hqid j hj).1 (hqid j hj).2.1 (hqid j hj).2.2.1) fun j hj => by simp at hj; simp [hj]⟩)
          have hi0 : 0 ≤ i := by
            unfold DevS.there at h0
            split at h0
            · cases h0
            · split at h0
              · cases h0
              · omega
          have : ((i.toNat : Nat) : Int) = i := by omega
          rw [this]
        · simp only [List.nodup_cons, List.mem_append, not_or, List.nodup_append]
          refine ⟨⟨i6.1.1, hidw⟩, i6.2.1, r5.single, fun a ha b hb e => ?_⟩
          rcases hwo' b hb with h | h
          · exact i6.2.2.2 a ha b h e
          · have := hlt3 a (by simp [ha]); omega
        · have hl6 : H6.length = H5.length := by rw [← hH6]; simp
          have hl5 := s5.len
          have hnj : ∀ j, j ∉ (id :: (ko ++ wo)) → j < H3.length → j ∉ (id :: (ko ++ wo')) := fun j hj hjl hm => by
            simp only [List.mem_cons, List.mem_append, not_or] at hj hm
            rcases hm with hm | hm | hm
            · exact hj.1 hm
            · exact hj.2.1 hm
            · rcases hwo' j hm with h | h
              · exact hj.2.2 h
              · omega
          rcases List.mem_cons.1 hj with rfl | hj
          · refine ⟨hnj _ ?_ (hqid _ (by simp)).1, by have := (hqid H1.length (by simp)).1; omega⟩
            simp only [List.mem_cons, List.mem_append, not_or]
            exact ⟨(hqid _ (by simp)).2.1, (hqid _ (by simp)).2.2.2, (hqid _ (by simp)).2.2.1⟩
          · exact ⟨hnj j (i7 j hj).1 (i7 j hj).2, by have := (i7 j hj).2; omega⟩
        · have hl6 : H6.length = H5.length := by rw [← hH6]; simp
          have hl5 := s5.len
          have hl13 := hst3.len
          have hl1 := s1.len
          refine s1.trans ⟨by omega, fun j hj hn => ?_, fun j hj => ?_⟩
          · simp only [List.mem_cons, List.mem_append, not_or] at hn
            rw [keep56 j (by omega) hn.1 hn.2.2]
            exact hst3.keep j hj (by simp)
          · simp only [List.mem_cons, List.mem_append] at hj ⊢
            rcases hj with hj | hj | hj
            · exact .inl (.inl hj)
            · exact .inl (.inr (.inl hj))
            · rcases hwo' j hj with h | h
              · exact .inl (.inr (.inr h))
              · exact .inr (by omega)
        · rcases List.mem_cons.1 hj with rfl | hj
          · exact .inr s1.len
          · exact .inl hj
      · refine ⟨H1, own1', bs, ?_, by simpa [h0, hl, hb] using h1, s1, fun j hj => .inl hj, fun j hj => hj⟩
        unfold F_blockDeviceWrite
        rw [bind_eq e0, bind_eq neq_r, cnd_b, if_neg (by simp [h0]), bind_eq hv.len, bind_eq gtr_r, cnd_b, if_neg (by simp [u8s_length]; omega), bind_eq e1, bind_eq neq_r, cnd_b, if_pos (by simpa using hb)]
        simp [h0, hl, hb, ret]
  · refine ⟨H, own, bs, ?_, by simpa [h0] using h, .refl _ _, fun j hj => .inl hj, fun j hj => hj⟩
    unfold F_blockDeviceWrite
    rw [bind_eq e0, bind_eq neq_r, cnd_b, if_pos (by simpa using h0)]
    simp [h0, ret]

end

end Go.Proofs.Ytahocinoohdagaa.A
