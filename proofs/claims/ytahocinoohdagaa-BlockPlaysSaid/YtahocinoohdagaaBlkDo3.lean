/- An act, of the device and of the document's: whichever it is. -/
import Derived.Test.YtahocinoohdagaaBlkDo2
namespace Go.Proofs.Ytahocinoohdagaa.A
set_option linter.unusedVariables false
set_option linter.unusedSimpArgs false
open Go.Proofs Go.Proofs.Ytahocinoohdagaa

section
variable {H X : Heap} {id n : Nat} {d : DevS} {w : RS} {sl : Value} {own bs : List Nat} {a : BAct}

theorem do_start (h : Vars H X id d own bs sl w a) : DoPost H id own bs sl w ((
  bind (R (n + 5) n_blockDeviceStart [pt id]) fun v101x81 =>
  bind (fa 2 (pt H.length)) fun v102x82 =>
  bind (st1 v102x82 (Value.bool false)) fun _ =>
  bind (ldA 5 (pt H.length)) fun v103x83 =>
  bind (stA 5 (pt (H.length + 2)) v103x83) fun _ =>
  bind (ldA 5 (pt (H.length + 2))) fun vrx84 =>
  ret (Value.tuple #[vrx84, (Value.bool true)]) : M Value) X) := by
  have hl := h.l
  have hB := h.b
  obtain ⟨X1, e3, d3, s3, l3⟩ := r_start (n := n + 4) hB.dev
  have hn : ∀ k, k < 3 → H.length + k ∉ own := fun k hk hm => by have := h.on _ hm; omega
  have c4 := s3.get h.c4 (hn 0 (by omega))
  have c6 := s3.get h.c6 (hn 2 (by omega))
  have r1 : Ref X1 sl w := ⟨hB.ref.row.keep fun j hj => s3.keep j (hB.ref.row.own_lt hj) (hB.sep j hj), hB.ref.few, hB.ref.sz, hB.ref.f⟩
  have f3 : st1 (pa H.length 2) (.bool false) X1 = some (undef, _) := st1_at c4 (by simp [RS.cells]) rfl
  generalize hX2 : X1.set H.length (.cells ((w.cells sl).set 2 (.bool false)) 1 false false) = X2 at f3
  have hne : ∀ j, j ≠ H.length → X2[j]? = X1[j]? := fun j hj => by rw [← hX2]; exact List.getElem?_set_ne (Ne.symm hj)
  have k4 : X2[H.length]? = some (.cells (({ w with down := false } : RS).cells sl) 1 false false) := by rw [← hX2]; exact set_get c4
  have k6 : X2[H.length + 2]? = _ := (hne (H.length + 2) (by omega)).trans c6
  have f6 := ldA_at (n := 5) k4 rfl
  have lX : X2.length = X1.length := by rw [← hX2]; simp
  have B3 : Both X2 id d.start own bs sl { w with down := false } :=
    ⟨d3.keep (by omega) fun j hj => hne j (by rintro rfl; exact hj.elim (hn 0 (by omega)) fun hb => by have := h.bn _ hb; omega), ⟨r1.row.keep fun j hj => hne j (by have := h.sn j hj; omega), r1.few, r1.sz, r1.f⟩, hB.sep, hB.rel.start⟩
  have s03 : Step own H own X2 := ⟨by omega, fun j hj hn' => by rw [hne j (by omega), s3.keep j (by omega) hn', h.st.keep j hj hn'], fun j hj => .inl hj⟩
  have hfin := h.fin B3 s03 (fun j hj => .inl hj) ⟨_, k6, rfl⟩ (fun j hj => .inl hj) (fun j hj => .inl hj) (Nat.le_succ _)
  rw [bind_eq e3, bind_eq fa_z, bind_eq f3, bind_eq f6]
  exact hfin

theorem do_copy (h : Vars H X id d own bs sl w a) (hw : w.l.length < 60000) : DoPost H id own bs sl w ((
  bind (R (n + 5) n_blockDeviceCopy [pt id]) fun v105x85 =>
  bind (bsl 1 2 (.int .u8 0) [(0, 1, (Value.int .u8 122)), (1, 1, (Value.int .u8 122))]) fun v107x86 =>
  bind (mrk v107x86) fun v108x87 =>
  bind (R (n + 5) n_blockDeviceWrite [v105x85, (Value.int .i64 0), v108x87]) fun v109x88 =>
  bind (R (n + 5) n_blockDeviceCut [v105x85, (Value.int .u64 18446744073709551615)]) fun v111x89 =>
  bind (ldA 5 (pt H.length)) fun v112x90 =>
  bind (stA 5 (pt (H.length + 2)) v112x90) fun _ =>
  bind (ldA 5 (pt (H.length + 2))) fun vrx91 =>
  ret (Value.tuple #[vrx91, (Value.bool true)]) : M Value) X) := by
  have hl := h.l
  have hB := h.b
  have hwl := hB.rel.wl
  obtain ⟨X1, cid, co, e1, d1, le1, o1⟩ := r_copy (n := n + 3) hB.rel.ok hB.dev
  have l1 := le1.len
  have e2 : bsl 1 2 (.int .u8 0) [(0, 1, (Value.int .u8 122)), (1, 1, (Value.int .u8 122))] X1 = some (.slice (some ⟨X1.length, 0, none⟩) 2 2, X1 ++ [.cells [.int .u8 122, .int .u8 122] 1 false false]) := by
    simp [bsl, bldC, reps, news, Value.cells, isTup, splice, oneCell]
  generalize hX2 : X1 ++ [AObj.cells [.int .u8 122, .int .u8 122] 1 false false] = X2 at e2
  have le2 : HLe X1 X2 := by rw [← hX2]; exact .app _ _
  have c2 : X2[X1.length]? = some (.cells [.int .u8 122, .int .u8 122] 1 false false) := by rw [← hX2]; exact app_new
  have hv : Sl X2 (.slice (some ⟨X1.length, 0, none⟩) 2 2) (u8s [122, 122]) := Sl.one (vs := u8s [122, 122]) c2
  have e3 : mrk (.slice (some ⟨X1.length, 0, none⟩) 2 2) X2 = some (.slice (some ⟨X1.length, 0, none⟩) 2 2, X2) := by simp [mrk, c2]
  obtain ⟨X3, own3, bs3, e4, d3, s3, b3, _⟩ := r_write (n := n) hB.rel.ok (d1.hle le2) hB.rel.fb (by omega) 0 hv (fun j hj hm => by
    cases hj
    have := d1.lt _ hm
    omega)
  have hok3 := hB.rel.ok.write (i := 0) (b := [122, 122]) (by omega)
  obtain ⟨X4, own4, e5, d4, s4⟩ := r_cut (n := n + 2) hok3 d3 18446744073709551615
  have hle : HLe X X4 := by
    have hs := s3.trans s4
    intro j o hj
    have hjl := get_lt hj
    exact hs.get ((le1.trans le2) _ _ hj) fun hm => by have := o1 j hm; omega
  have l4 := hle.len
  have e6 := ldA_at (n := 5) (hle _ _ h.c4) rfl
  have e5 : R (n + 5) n_blockDeviceCut [pt cid, (Value.int .u64 18446744073709551615)] X3 = some (.tuple #[], X4) := e5
  have hfin := h.fin (X' := X4) (hB.hle hle) (h.st.hle_r hle) (fun j hj => .inl hj) ⟨_, hle _ _ h.c6, rfl⟩ (fun j hj => .inl hj) (fun j hj => .inl hj) (Nat.le_succ _)
  rw [bind_eq e1, bind_eq e2, bind_eq e3, bind_eq e4, bind_eq e5, bind_eq e6]
  exact hfin

theorem r_do (hB : Both H id d own bs sl w) (ha : a.ok H) (hm : a.m < 18446744073709551616) (hp : a.p.length ≤ 200) (hao : ∀ j, own1 a.b = some j → j ∉ own) (hw : w.l.length < 60000) : DoPost H id own bs sl w (R (n + 6) n_law21Do [pt id, w.val sl, .agg a.cells.toArray] H) := by
  have hb := ha.bs.oneC.1
  have hall : a.cells.all oneCell = true := by simp only [BAct.cells, List.all_cons, hb]; rfl
  have e1 := hB.ref.box
  generalize hH1 : H ++ [AObj.cells (w.cells sl) 1 false false] = H1 at e1
  have le1 : HLe H H1 := by rw [← hH1]; exact .app _ _
  have l1 : H1.length = H.length + 1 := by rw [← hH1]; simp
  have e2 := alc_a (H := H1) hall
  rw [l1] at e2
  generalize hH2 : H1 ++ [AObj.cells a.cells 1 false false] = H2 at e2
  have le2 : HLe H1 H2 := by rw [← hH2]; exact .app _ _
  have l2 : H2.length = H.length + 2 := by rw [← hH2]; simp [l1]
  have e3 := alc_z H2
  rw [l2] at e3
  generalize hH3 : H2 ++ [AObj.cells zero5 1 false false] = H3 at e3
  have le3 : HLe H2 H3 := by rw [← hH3]; exact .app _ _
  have l3 : H3.length = H.length + 3 := by rw [← hH3]; simp [l2]
  have le03 := (le1.trans le2).trans le3
  have c4 : H3[H.length]? = some (.cells (w.cells sl) 1 false false) := le3 _ _ (le2 _ _ (by rw [← hH1]; exact app_new))
  have c5 : H3[H.length + 1]? = some (.cells a.cells 1 false false) := le3 _ _ (by rw [← hH2, ← l1]; exact app_new)
  have c6 : H3[H.length + 2]? = some (.cells zero5 1 false false) := by rw [← hH3, ← l2]; exact app_new
  have hV : Vars H H3 id d own bs sl w a := ⟨hB.hle le03, (Step.refl own H).hle_r le03, by omega, c4, c5, c6, ha.mono le03, hB.dev.lt, fun j hj => (hB.dev.bl j hj).2, fun j hj => hB.ref.row.own_lt hj, hao⟩
  have e4 : ld1 (pa (H.length + 1) 0) H3 = some (.int .u8 a.kd, H3) := ld1_at c5 rfl
  have hk : (a.kd : Int).tmod 7 = ((a.kd % 7 : Nat) : Int) := by rw [Int.tmod_eq_emod_of_nonneg (by omega)]; omega
  have e5 : bop .int .rem (.int .u8 a.kd) (.int .u8 7) H3 = some (.int .u8 ((a.kd % 7 : Nat) : Int), H3) := by rw [rem_r, if_neg (by omega), hk]
  generalize a.kd % 7 = k at e5
  rw [R, run_law21Do rfl]
  unfold F_law21Do
  rw [bind_eq e1, bind_eq e2, bind_eq e3, bind_eq fa_z, bind_eq e4, bind_eq e5, bind_eq eql_r]
  have ej : cnd (.bool ((k : Int) == 0)) (ret (Out.nrm [pt id, pt H.length, pt (H.length + 1), pt (H.length + 2), .int .u8 (k : Int), .bool ((k : Int) == 0)]))
      (bind (bop .int .eql (.int .u8 (k : Int)) (.int .u8 1)) fun v => ret (Out.nrm [pt id, pt H.length, pt (H.length + 1), pt (H.length + 2), .int .u8 (k : Int), v])) H3 = some (Out.nrm [pt id, pt H.length, pt (H.length + 1), pt (H.length + 2), .int .u8 (k : Int), .bool ((k : Int) == 0 || (k : Int) == 1)], H3) := by
    rw [cnd_b]
    cases h0 : (k : Int) == 0
    · rw [if_neg (by simp), bind_eq eql_r]
      rfl
    · rw [if_pos rfl]
      rfl
  rw [jn_nrm ej]
  simp only [List.headD_cons, List.tail_cons]
  rw [cnd_b]
  by_cases h01 : ((k : Int) == 0 || (k : Int) == 1) = true
  · rw [if_pos h01]
    exact do_put hV hp hw
  rw [if_neg h01, bind_eq eql_r, cnd_b]
  by_cases h2 : ((k : Int) == 2) = true
  · rw [if_pos h2]
    exact do_flush hV
  rw [if_neg h2, bind_eq eql_r, cnd_b]
  by_cases h3 : ((k : Int) == 3) = true
  · rw [if_pos h3]
    exact do_cut hV hm
  rw [if_neg h3, bind_eq eql_r, cnd_b]
  by_cases h4 : ((k : Int) == 4) = true
  · rw [if_pos h4]
    exact do_arm hV hm
  rw [if_neg h4, bind_eq eql_r, cnd_b]
  by_cases h5 : ((k : Int) == 5) = true
  · rw [if_pos h5]
    exact do_start hV
  rw [if_neg h5]
  exact do_copy hV hw

end

end Go.Proofs.Ytahocinoohdagaa.A
