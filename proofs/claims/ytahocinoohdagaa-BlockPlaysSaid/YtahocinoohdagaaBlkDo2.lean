/- An act, of the device and of the document's: all kinds. -/
import Derived.Test.YtahocinoohdagaaBlkDo
namespace Go.Proofs.Ytahocinoohdagaa.A
set_option linter.unusedVariables false
set_option linter.unusedSimpArgs false
open Go.Proofs Go.Proofs.Ytahocinoohdagaa

def DoPost (H : Heap) (id : Nat) (own bs : List Nat) (sl : Value) (w : RS) (r : Option (Value × Heap)) : Prop :=
  ∃ H' d' w' sl' own' bs', r = some (.tuple #[w'.val sl', .bool true], H') ∧ Both H' id d' own' bs' sl' w' ∧ Step own H own' H' ∧ w'.l.length ≤ w.l.length + 1 ∧ (∀ j ∈ bs', j ∈ bs ∨ H.length ≤ j) ∧ ∀ j, own1 sl' = some j → own1 sl = some j ∨ H.length ≤ j

section
variable {H X : Heap} {id n : Nat} {d : DevS} {w : RS} {sl : Value} {own bs : List Nat} {a : BAct}

/-- The variables: the document's device, the act, the answer. -/
structure Vars (H X : Heap) (id : Nat) (d : DevS) (own bs : List Nat) (sl : Value) (w : RS) (a : BAct) : Prop where
  b : Both X id d own bs sl w
  st : Step own H own X
  l : H.length + 3 ≤ X.length
  c4 : X[H.length]? = some (.cells (w.cells sl) 1 false false)
  c5 : X[H.length + 1]? = some (.cells a.cells 1 false false)
  c6 : X[H.length + 2]? = some (.cells zero5 1 false false)
  ok : a.ok X
  on : ∀ j ∈ own, j < H.length
  bn : ∀ j ∈ bs, j < H.length
  sn : ∀ j, own1 sl = some j → j < H.length
  an : ∀ j, own1 a.b = some j → j ∉ own

theorem cut_len2 (w : RS) (m : Nat) : (w.cut m).l.length ≤ w.l.length := by
  unfold RS.cut
  split
  · exact Nat.le_refl _
  · exact rcutL_len m _ 0

/-- Power is cut, or a fuse is set, or there is power again; a copy goes on. -/
theorem Vars.fin {d' : DevS} {w' : RS} {sl' : Value} {own' bs' : List Nat} {X' : Heap} (h : Vars H X id d own bs sl w a) (hb : Both X' id d' own' bs' sl' w') (hs : Step own H own' X') (hno : ∀ j ∈ own', j ∈ own ∨ X.length ≤ j) (hc : ∃ cs, X'[H.length + 2]? = some (.cells cs 1 false false) ∧ cs.length = 5) (hbs : ∀ j ∈ bs', j ∈ bs ∨ X.length ≤ j)
    (hsl : ∀ j, own1 sl' = some j → own1 sl = some j ∨ X.length ≤ j) (hw : w'.l.length ≤ w.l.length + 1) : DoPost H id own bs sl w ((bind (stA 5 (pt (H.length + 2)) (w'.val sl')) (fun _ => bind (ldA 5 (pt (H.length + 2))) fun v => ret (Value.tuple #[v, .bool true])) : M Value) X') := by
  obtain ⟨cs, h1, h2⟩ := hc
  have hl := h.l
  obtain ⟨e, r⟩ := do_fin (ok := true) hb h1 h2 (fun hm => by
    rcases hno _ hm with h' | h'
    · have := h.on _ h'; omega
    · omega) (fun hm => by
    rcases hbs _ hm with h' | h'
    · have := h.bn _ h'; omega
    · omega) (fun hm => by
    rcases hsl _ hm with h' | h'
    · have := h.sn _ h'; omega
    · omega)
  exact ⟨_, d', w', sl', own', bs', e, r, hs.newset (by omega), hw, fun j hj => (hbs j hj).imp (fun h => h) fun h => by omega, fun j hj => (hsl j hj).imp (fun h => h) fun h => by omega⟩

theorem do_put (h : Vars H X id d own bs sl w a) (hp : a.p.length ≤ 200) (hw : w.l.length < 60000) : DoPost H id own bs sl w ((
  bind (bsl 1 0 (.int .u8 0) []) fun v22x10 =>
  bind (fa 2 (pt (H.length + 1))) fun v23x11 =>
  bind (ld1 v23x11) fun v24x12 =>
  bind (app 1 1 v22x10 v24x12) fun v25x13 =>
  bind (ldA 5 (pt H.length)) fun v27x14 =>
  bind (fa 1 (pt (H.length + 1))) fun v28x15 =>
  bind (ld1 v28x15) fun v29x16 =>
  bind (fa 2 (pt (H.length + 1))) fun v30x17 =>
  bind (ld1 v30x17) fun v31x18 =>
  bind (b2s v31x18) fun v32x19 =>
  bind (R (n + 5) n_ref21Put [v27x14, v29x16, v32x19]) fun v33x20 =>
  bind (extr v33x20 0) fun v34x21 =>
  bind (extr v33x20 1) fun v35x22 =>
  bind (alc 1 (.agg #[.int .i64 0, .slice none 0 0, .bool false, .int .i64 0, .int .u64 0])) fun v9x23 =>
  bind (stA 5 v9x23 v34x21) fun _ =>
  bind (fa 1 (pt (H.length + 1))) fun v37x24 =>
  bind (ld1 v37x24) fun v38x25 =>
  bind (R (n + 5) n_blockDeviceWrite [pt id, v38x25, v25x13]) fun v40x26 =>
  bind (lenS v25x13) fun v42x27 =>
  jn (loopM (fun vs_34 => F_law21Do.l1 (R (n + 5)) ((vs_34.headD undef)) ((vs_34.tail.headD undef)) ((vs_34.tail.tail.headD undef)) ((vs_34.tail.tail.tail.headD undef)) ((vs_34.tail.tail.tail.tail.headD undef)) ((vs_34.tail.tail.tail.tail.tail.headD undef)) ((vs_34.tail.tail.tail.tail.tail.tail.headD undef))) [pt (H.length + 2), v25x13, v9x23, v35x22, v40x26, v42x27, (Value.int .i64 0)]) (fun _ => fail) (fun j_35 vs_35 => bif Nat.beq j_35 1 then (bind (ldA 5 (vs_35.tail.headD undef)) fun v53x36 =>
  bind (bop .int .eql (vs_35.tail.tail.tail.headD undef) (vs_35.tail.tail.headD undef)) fun v56x37 =>
  bind (stA 5 (vs_35.headD undef) v53x36) fun _ =>
  bind (ldA 5 (vs_35.headD undef)) fun vrx38 =>
  ret (Value.tuple #[vrx38, v56x37])) else fail) (fun w_39 => ret w_39) : M Value) X) := by
  have hl := h.l
  have hB := h.b
  have hm := hB.rel.mb
  have hf := hB.rel.fb
  have hwl := hB.rel.wl
  have hokd := hB.rel.ok
  -- the copy
  have e1 := bsl0 (es := 1) (z := .int .u8 0) (H := X)
  generalize hX1 : X ++ [AObj.cells [] 1 false false] = X1 at e1
  have le1 : HLe X X1 := by rw [← hX1]; exact .app _ _
  have hbs := (h.ok.bs).mono le1
  have e2 : ld1 (pa (H.length + 1) 2) X1 = some (a.b, X1) := ld1_at (le1 _ _ h.c5) rfl
  obtain ⟨cv, X2, q, e3, rq, le2, oq⟩ := row_of (b := 1) hbs (by rw [u8s_length]; omega) (by rw [u8s_length]; omega) (s := .slice (some ⟨X.length, 0, none⟩) 0 0) (.inr ⟨X.length, false, rfl, by rw [← hX1]; exact app_new, rfl⟩)
  have l1 := le1.len
  have l2 := le2.len
  have oq' : ∀ j ∈ q, X.length ≤ j := fun j hj => by
    rcases oq j hj with h1 | ⟨_, h1⟩
    · omega
    · cases h1; exact Nat.le_refl _
  have le02 := le1.trans le2
  have e4 := ldA_at (n := 5) (le02 _ _ h.c4) rfl
  have e5 : ld1 (pa (H.length + 1) 1) X2 = some (iv a.i, X2) := ld1_at (le02 _ _ h.c5) rfl
  have e6 : ld1 (pa (H.length + 1) 2) X2 = some (a.b, X2) := ld1_at (le02 _ _ h.c5) rfl
  have e7 := b2s_v (h.ok.bs.mono le02)
  -- the document's
  obtain ⟨X3, sl', e8, r8, le3, o8⟩ := r_refPut (n := n + 1) (hB.ref.mono le02) (by rw [hB.rel.mask]; exact hm) (by omega) a.i a.p
  have le03 := le02.trans le3
  have l3 := le3.len
  have hbx : ∀ {K : Value → M Value}, bind (alc 1 (.agg #[.int .i64 0, .slice none 0 0, .bool false, .int .i64 0, .int .u64 0])) (fun q => bind (stA 5 q ((w.put a.i a.p).1.val sl')) fun _ => K q) X3 = K (pt X3.length) (X3 ++ [.cells ((w.put a.i a.p).1.cells sl') 1 false false]) := fun {K} =>
    box_a (n := 5) (zs := zero5) rfl rfl rfl r8.all
  generalize hX4 : X3 ++ [AObj.cells ((w.put a.i a.p).1.cells sl') 1 false false] = X4 at hbx
  have le4 : HLe X3 X4 := by rw [← hX4]; exact .app _ _
  have c9 : X4[X3.length]? = some (.cells ((w.put a.i a.p).1.cells sl') 1 false false) := by rw [← hX4]; exact app_new
  have le04 := le03.trans le4
  have l4 : X4.length = X3.length + 1 := by rw [← hX4]; simp
  have e10 : ld1 (pa (H.length + 1) 1) X4 = some (iv a.i, X4) := ld1_at (le04 _ _ h.c5) rfl
  -- the device
  have hrq := rq.step (le3.trans le4).step (by simp)
  obtain ⟨X5, own', bs', e11, d5, s5, b5, _⟩ := r_write (n := n) hokd (hB.dev.hle le04) hf (by omega) a.i (v := cv) (b := a.p) hrq.rd (fun j hj hm => by
    have h1 := hrq.own1 hj
    have h2 := oq' j (by rw [h1]; simp)
    have h3 := h.on j hm
    omega)
  obtain ⟨hrel, he⟩ := hB.rel.write (by omega) a.i a.p
  have hqo : ∀ j ∈ q, j ∉ own := fun j hj hm => by have := oq' j hj; have := h.on j hm; omega
  have hrq5 := hrq.step s5 hqo
  have qlt := hrq.lt
  have e12 := hrq5.rd.len (H' := X5)
  obtain ⟨X6, e13, s6⟩ := inc_do (n := n + 5) (s6 := pt (H.length + 2)) (s9 := pt X3.length) (s10 := iv (w.put a.i a.p).2) (s11 := iv (d.write a.i a.p).2) (v := cv) (u8s a.p).length 0 (by omega) (by omega) (by rw [u8s_length]; omega) hrq5 (fun x hx => by
    obtain ⟨b, _, rfl⟩ := List.mem_map.1 hx
    exact ⟨_, rfl⟩)
  have l5 := s5.len
  -- what is there behind it
  have nq : ∀ j ∈ q, j ∉ own' := fun j hj hm => by
    rcases s5.own j hm with h1 | h1
    · exact hqo j hj h1
    · have := qlt j hj; omega
  have nb : ∀ j ∈ q, j ∉ bs' := fun j hj hm => by
    rcases b5 j hm with h1 | h1
    · have := h.bn j h1; have := oq' j hj; omega
    · have := qlt j hj; omega
  have qs : ∀ j, own1 sl' = some j → j ∉ q := fun j hj hm => by
    rcases o8 j hj with h1 | h1
    · have := h.sn j h1; have := oq' j hm; omega
    · have := rq.lt j hm; omega
  have B5 : Both X5 id (d.write a.i a.p).1 own' bs' sl' (w.put a.i a.p).1 :=
    (hB.hle le02).both (r8.mono le4) (le3.trans le4) o8 d5 s5 hrel
  have B6 : Both X6 id (d.write a.i a.p).1 own' bs' sl' (w.put a.i a.p).1 :=
    ⟨B5.dev.step s6 fun j hj hm => hj.elim (nq j hm) (nb j hm), ⟨B5.ref.row.keep fun j hj => s6.keep j (B5.ref.row.own_lt hj) (qs j hj), B5.ref.few, B5.ref.sz, B5.ref.f⟩, B5.sep, B5.rel⟩
  have s46 : Step own X own' X6 := ⟨by have := s6.len; omega, fun j hj hn => by rw [s6.keep j (by omega) (fun hq => by have := oq' j hq; omega), s5.keep j (by omega) hn, le04.step.keep j hj (by simp)], fun j hj => (s5.own j hj).imp (fun h => h) fun h => by omega⟩
  have k6 : ∀ j o, X4[j]? = some o → j ∉ own → j ∉ q → X6[j]? = some o := fun j o h1 h2 h3 => s6.get (s5.get h1 h2) h3
  have c9' := k6 _ _ c9 (fun hm => by have := h.on _ hm; omega) (fun hm => by have := rq.lt _ hm; omega)
  have c6' := k6 _ _ (le04 _ _ h.c6) (fun hm => by have := h.on _ hm; omega) (fun hm => by have := oq' _ hm; omega)
  have e14 := ldA_at (n := 5) c9' rfl
  have hfin := h.fin B6 (h.st.trans s46) s46.own ⟨_, c6', rfl⟩ (fun j hj => (b5 j hj).imp (fun h => h) fun h => by omega) (fun j hj => (o8 j hj).imp (fun h => h) fun h => by omega) (put_len w a.i a.p)
  have e8 : R (n + 5) n_ref21Put [w.val sl, iv a.i, strv a.p] X2 = some (.tuple #[(w.put a.i a.p).1.val sl', iv (w.put a.i a.p).2], X3) := e8
  have hq : bop .int .eql (iv (d.write a.i a.p).2) (iv (w.put a.i a.p).2) X6 = some (.bool true, X6) := by rw [eql_r, he]; simp
  rw [show ((0 : Nat) : Int) = 0 from rfl] at e13
  rw [bind_eq e1, bind_eq fa_z, bind_eq e2, bind_eq e3, bind_eq e4, bind_eq fa_z, bind_eq e5, bind_eq fa_z, bind_eq e6, bind_eq e7, bind_eq e8, bind_eq extr_p0, bind_eq extr_p1, hbx, bind_eq fa_z, bind_eq e10, bind_eq e11, bind_eq e12, jn_ext e13, ext_hit0]
  simp only [List.headD_cons, List.tail_cons]
  rw [bind_eq e14, bind_eq hq]
  exact hfin

theorem do_flush (h : Vars H X id d own bs sl w a) : DoPost H id own bs sl w ((
  bind (ldA 5 (pt H.length)) fun v60x41 =>
  bind (R (n + 5) n_ref21Flush [v60x41]) fun v61x42 =>
  bind (extr v61x42 0) fun v62x43 =>
  bind (extr v61x42 1) fun v63x44 =>
  bind (alc 1 (.agg #[.int .i64 0, .slice none 0 0, .bool false, .int .i64 0, .int .u64 0])) fun v13x45 =>
  bind (stA 5 v13x45 v62x43) fun _ =>
  bind (ldA 5 v13x45) fun v64x46 =>
  bind (R (n + 5) n_blockDeviceFlush [pt id]) fun v66x47 =>
  bind (ldA 5 v13x45) fun u_48 => same u_48 v64x46 <|
  bind (bop .int .eql v66x47 v63x44) fun v68x49 =>
  bind (stA 5 (pt (H.length + 2)) v64x46) fun _ =>
  bind (ldA 5 (pt (H.length + 2))) fun vrx50 =>
  ret (Value.tuple #[vrx50, v68x49]) : M Value) X) := by
  have hl := h.l
  have hB := h.b
  have e1 := ldA_at (n := 5) h.c4 rfl
  obtain ⟨X1, sl', e2, r2, le1, o2⟩ := r_refFlush (n := n + 1) hB.ref (by rw [hB.rel.mask]; exact hB.rel.mb)
  have l1 := le1.len
  have hbx : ∀ {K : Value → M Value}, bind (alc 1 (.agg #[.int .i64 0, .slice none 0 0, .bool false, .int .i64 0, .int .u64 0])) (fun q => bind (stA 5 q (w.flush.1.val sl')) fun _ => K q) X1 = K (pt X1.length) (X1 ++ [.cells (w.flush.1.cells sl') 1 false false]) := fun {K} =>
    box_a (n := 5) (zs := zero5) rfl rfl rfl r2.all
  generalize hX2 : X1 ++ [AObj.cells (w.flush.1.cells sl') 1 false false] = X2 at hbx
  have le2 : HLe X1 X2 := by rw [← hX2]; exact .app _ _
  have c9 : X2[X1.length]? = some (.cells (w.flush.1.cells sl') 1 false false) := by rw [← hX2]; exact app_new
  have l2 : X2.length = X1.length + 1 := by rw [← hX2]; simp
  have e3 := ldA_at (n := 5) c9 rfl
  obtain ⟨X3, own', e4, d3, s3⟩ := r_flush (n := n) hB.rel.ok (hB.dev.hle (le1.trans le2)) hB.rel.fb
  have l3 := s3.len
  obtain ⟨hrel, he⟩ := hB.rel.flush
  have B3 := hB.both (r2.mono le2) (le1.trans le2) o2 d3 s3 hrel
  have c9' := s3.get c9 (fun hm => by have := h.on _ hm; omega)
  have c6' := s3.get (le2 _ _ (le1 _ _ h.c6)) (fun hm => by have := h.on _ hm; omega)
  have e5 := ldA_at (n := 5) c9' rfl
  have s03 : Step own X own' X3 := ⟨by omega, fun j hj hn => by rw [s3.keep j (by omega) hn, (le1.trans le2).step.keep j hj (by simp)], fun j hj => (s3.own j hj).imp (fun h => h) fun h => by omega⟩
  have hfin := h.fin B3 (h.st.trans s03) s03.own ⟨_, c6', rfl⟩ (fun j hj => .inl hj) o2 (Nat.le_succ_of_le (flush_len w))
  have hq : bop .int .eql (iv d.flush.2) (iv w.flush.2) X3 = some (.bool true, X3) := by rw [eql_r, he]; simp
  rw [bind_eq e1, bind_eq e2, bind_eq extr_p0, bind_eq extr_p1, hbx, bind_eq e3, bind_eq e4, bind_eq e5, same_self, bind_eq hq]
  exact hfin

theorem do_cut (h : Vars H X id d own bs sl w a) (hm : a.m < 18446744073709551616) : DoPost H id own bs sl w ((
  bind (fa 3 (pt (H.length + 1))) fun v72x52 =>
  bind (ld1 v72x52) fun v73x53 =>
  bind (R (n + 5) n_blockDeviceCut [pt id, v73x53]) fun v74x54 =>
  bind (ldA 5 (pt H.length)) fun v75x55 =>
  bind (fa 3 (pt (H.length + 1))) fun v76x56 =>
  bind (ld1 v76x56) fun v77x57 =>
  bind (R (n + 5) n_ref21Cut [v75x55, v77x57]) fun v78x58 =>
  bind (stA 5 (pt (H.length + 2)) v78x58) fun _ =>
  bind (ldA 5 (pt (H.length + 2))) fun vrx59 =>
  ret (Value.tuple #[vrx59, (Value.bool true)]) : M Value) X) := by
  have hl := h.l
  have hB := h.b
  have e1 : ld1 (pa (H.length + 1) 3) X = some (.int .u64 a.m, X) := ld1_at h.c5 rfl
  obtain ⟨X1, own', e2, d2, s2⟩ := r_cut (n := n + 2) hB.rel.ok hB.dev a.m
  have l1 := s2.len
  have hn : ∀ k, k < 3 → H.length + k ∉ own := fun k hk hm => by have := h.on _ hm; omega
  have c4 := s2.get h.c4 (hn 0 (by omega))
  have c5 := s2.get h.c5 (hn 1 (by omega))
  have c6 := s2.get h.c6 (hn 2 (by omega))
  have e3 := ldA_at (n := 5) c4 rfl
  have e4 : ld1 (pa (H.length + 1) 3) X1 = some (.int .u64 a.m, X1) := ld1_at c5 rfl
  have B1 : Both X1 id (d.cut a.m) own' bs sl w ∨ True := .inr trivial
  have r1 : Ref X1 sl w := ⟨hB.ref.row.keep fun j hj => s2.keep j (hB.ref.row.own_lt hj) (hB.sep j hj), hB.ref.few, hB.ref.sz, hB.ref.f⟩
  obtain ⟨X2, sl', e5, r2, le2, o2⟩ := r_refCut (n := n + 3) r1 hm
  have l2 := le2.len
  have d2lt := d2.lt
  have B2 : Both X2 id (d.cut a.m) own' bs sl' (w.cut a.m) := ⟨d2.hle le2, r2, fun j hj hm => by
    rcases o2 j hj with h1 | h1
    · rcases s2.own j hm with h2 | h2
      · exact hB.sep j h1 h2
      · have := h.sn j h1; omega
    · have := d2lt j hm; omega, hB.rel.cut⟩
  have s02 : Step own X own' X2 := s2.hle_r le2
  have hfin := h.fin B2 (h.st.trans s02) s02.own ⟨_, le2 _ _ c6, rfl⟩ (fun j hj => .inl hj) (fun j hj => (o2 j hj).imp (fun h => h) fun h => by omega) (Nat.le_succ_of_le (cut_len2 w a.m))
  rw [bind_eq fa_z, bind_eq e1, bind_eq e2, bind_eq e3, bind_eq fa_z, bind_eq e4, bind_eq e5]
  exact hfin

/-- A field of the variable is written. -/
theorem Vars.w4 (h : Vars H X id d own bs sl w a) {w' : RS} {o : Nat} {v : Value} (ho : o < 5) (hv : oneCell v = true) (hc : (w.cells sl).set o v = w'.cells sl) {X' : Heap} (hX : ∃ cs, X'[H.length]? = some (.cells cs 1 false false) ∧ cs = w.cells sl) :
    st1 (pa H.length o) v X' = some (undef, X'.set H.length (.cells (w'.cells sl) 1 false false)) := by
  obtain ⟨cs, h1, rfl⟩ := hX
  rw [← hc]
  exact st1_at h1 (by simpa [RS.cells] using ho) hv

theorem do_arm (h : Vars H X id d own bs sl w a) (hm : a.m < 18446744073709551616) : DoPost H id own bs sl w ((
  bind (fa 1 (pt (H.length + 1))) fun v82x61 =>
  bind (ld1 v82x61) fun v83x62 =>
  bind (fa 3 (pt (H.length + 1))) fun v84x63 =>
  bind (ld1 v84x63) fun v85x64 =>
  bind (R (n + 5) n_blockDeviceArm [pt id, v83x62, v85x64]) fun v86x65 =>
  bind (fa 2 (pt H.length)) fun v87x66 =>
  bind (ld1 v87x66) fun v88x67 =>
  bind (uop .not v88x67) fun v89x68 =>
  jn (cnd v89x68
  (bind (fa 1 (pt (H.length + 1))) fun v90x69 =>
  bind (ld1 v90x69) fun v91x70 =>
  bind (mxi true (Value.int .i64 0) v91x70) fun v92x71 =>
  bind (fa 3 (pt H.length)) fun v93x72 =>
  bind (st1 v93x72 v92x71) fun _ =>
  bind (fa 3 (pt (H.length + 1))) fun v94x73 =>
  bind (ld1 v94x73) fun v95x74 =>
  bind (fa 4 (pt H.length)) fun v96x75 =>
  bind (st1 v96x75 v95x74) fun _ =>
  ret (.nrm [pt H.length, pt (H.length + 2)]))
  (ret (.nrm [pt H.length, pt (H.length + 2)]))) (fun vs_76 =>
  bind (ldA 5 (vs_76.headD undef)) fun v97x77 =>
  bind (stA 5 (vs_76.tail.headD undef) v97x77) fun _ =>
  bind (ldA 5 (vs_76.tail.headD undef)) fun vrx78 =>
  ret (Value.tuple #[vrx78, (Value.bool true)])) (fun _ _ => fail) (fun w_79 => ret w_79) : M Value) X) := by
  have hl := h.l
  have hB := h.b
  have hi := h.ok.i
  have e1 : ld1 (pa (H.length + 1) 1) X = some (iv a.i, X) := ld1_at h.c5 rfl
  have e2 : ld1 (pa (H.length + 1) 3) X = some (.int .u64 a.m, X) := ld1_at h.c5 rfl
  obtain ⟨X1, e3, d3, s3, l3⟩ := r_arm (n := n + 4) hB.dev a.i a.m
  have hn : ∀ k, k < 3 → H.length + k ∉ own := fun k hk hm => by have := h.on _ hm; omega
  have c4 := s3.get h.c4 (hn 0 (by omega))
  have c5 := s3.get h.c5 (hn 1 (by omega))
  have c6 := s3.get h.c6 (hn 2 (by omega))
  have e4 : ld1 (pa H.length 2) X1 = some (.bool w.down, X1) := ld1_at c4 rfl
  have hrel := hB.rel.arm (a := a.i) (m := a.m) hi.2 hm
  have r1 : Ref X1 sl w := ⟨hB.ref.row.keep fun j hj => s3.keep j (hB.ref.row.own_lt hj) (hB.sep j hj), hB.ref.few, hB.ref.sz, hB.ref.f⟩
  rw [bind_eq fa_z, bind_eq e1, bind_eq fa_z, bind_eq e2, bind_eq e3, bind_eq fa_z, bind_eq e4, bind_eq not_r]
  cases hd : w.down
  · have hw : w.arm a.i a.m = { w with fuse := max 0 a.i, mask := a.m } := by unfold RS.arm; rw [hd]; rfl
    have f1 : ld1 (pa (H.length + 1) 1) X1 = some (iv a.i, X1) := ld1_at c5 rfl
    have f2 : mxi true (Value.int .i64 0) (iv a.i) X1 = some (iv (max 0 a.i), X1) := by rw [mx_r, show (if a.i > 0 then a.i else 0) = max 0 a.i by split <;> omega]
    have f3 : st1 (pa H.length 3) (iv (max 0 a.i)) X1 = some (undef, _) := st1_at c4 (by simp [RS.cells]) rfl
    generalize hX2 : X1.set H.length (.cells ((w.cells sl).set 3 (iv (max 0 a.i))) 1 false false) = X2 at f3
    have hne : ∀ j, j ≠ H.length → X2[j]? = X1[j]? := fun j hj => by rw [← hX2]; exact List.getElem?_set_ne (Ne.symm hj)
    have k4 : X2[H.length]? = some (.cells ((w.cells sl).set 3 (iv (max 0 a.i))) 1 false false) := by rw [← hX2]; exact set_get c4
    have k5 : X2[H.length + 1]? = _ := (hne (H.length + 1) (by omega)).trans c5
    have k6 : X2[H.length + 2]? = _ := (hne (H.length + 2) (by omega)).trans c6
    have f4 : ld1 (pa (H.length + 1) 3) X2 = some (.int .u64 a.m, X2) := ld1_at k5 rfl
    have f5 : st1 (pa H.length 4) (.int .u64 a.m) X2 = some (undef, _) := st1_at k4 (by simp [RS.cells]) rfl
    generalize hX3 : X2.set H.length (.cells (((w.cells sl).set 3 (iv (max 0 a.i))).set 4 (.int .u64 a.m)) 1 false false) = X3 at f5
    have hne3 : ∀ j, j ≠ H.length → X3[j]? = X2[j]? := fun j hj => by rw [← hX3]; exact List.getElem?_set_ne (Ne.symm hj)
    have m4 : X3[H.length]? = some (.cells ((w.arm a.i a.m).cells sl) 1 false false) := by rw [← hX3, hw]; exact set_get k4
    have m6 : X3[H.length + 2]? = _ := (hne3 (H.length + 2) (by omega)).trans k6
    have f6 := ldA_at (n := 5) m4 rfl
    have hkk : ∀ j, j ≠ H.length → X3[j]? = X1[j]? := fun j hj => (hne3 j hj).trans (hne j hj)
    have lX : X3.length = X1.length := by rw [← hX3, ← hX2]; simp
    have B3 : Both X3 id (d.arm a.i a.m) own bs sl (w.arm a.i a.m) :=
      ⟨d3.keep (by omega) fun j hj => hkk j (by rintro rfl; exact hj.elim (hn 0 (by omega)) fun hb => by have := h.bn _ hb; omega), ⟨by rw [hw]; exact r1.row.keep fun j hj => hkk j (by have := h.sn j hj; omega), by rw [hw]; exact r1.few, by rw [hw]; exact r1.sz, by rw [hw]; show max 0 a.i ≤ _; omega⟩, hB.sep, hrel⟩
    have s03 : Step own H own X3 := ⟨by omega, fun j hj hn' => by rw [hkk j (by omega), s3.keep j (by omega) hn', h.st.keep j hj hn'], fun j hj => .inl hj⟩
    have hfin := h.fin B3 s03 (fun j hj => .inl hj) ⟨_, m6, rfl⟩ (fun j hj => .inl hj) (fun j hj => .inl hj) (by rw [hw]; exact Nat.le_succ _)
    refine (congrArg (DoPost H id own bs sl w) ?_).mpr hfin
    refine (jn_nrm (vs := [pt H.length, pt (H.length + 2)]) (H' := X3) ?_).trans ?_
    · rw [cnd_b, if_pos (by rfl), bind_eq fa_z, bind_eq f1, bind_eq f2, bind_eq fa_z, bind_eq f3, bind_eq fa_z, bind_eq f4, bind_eq fa_z, bind_eq f5]
      rfl
    · simp only [List.headD_cons, List.tail_cons]
      rw [bind_eq f6]
  · have hw : w.arm a.i a.m = w := by unfold RS.arm; rw [hd]; rfl
    have f6 := ldA_at (n := 5) c4 rfl
    rw [hw] at hrel
    have hfin := h.fin (X' := X1) ⟨d3, r1, hB.sep, hrel⟩ (h.st.trans s3) s3.own ⟨_, c6, rfl⟩ (fun j hj => .inl hj) (fun j hj => .inl hj) (Nat.le_succ _)
    refine (congrArg (DoPost H id own bs sl w) ?_).mpr hfin
    refine (jn_nrm (vs := [pt H.length, pt (H.length + 2)]) (H' := X1) ?_).trans ?_
    · rw [cnd_b, if_neg (by simp)]
      rfl
    · simp only [List.headD_cons, List.tail_cons]
      rw [bind_eq f6]

end

end Go.Proofs.Ytahocinoohdagaa.A
