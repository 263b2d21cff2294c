/- Behind any deeds, a cut and a start each block is as it was flushed last, or as one of the writes since then left it. -/
import Derived.Test.YtahocinoohdagaaKeepsR
namespace Go.Proofs.Ytahocinoohdagaa.A
set_option linter.unusedVariables false
set_option linter.unusedSimpArgs false
open Go.Proofs Go.Proofs.Ytahocinoohdagaa

section
variable {H0 H : Heap} {fr : List Nat} {id mid n : Nat} {d : DevS} {L : List (List (List UInt8))}

theorem BActs.own_lt {sl : Value} {ac : List BAct} (hA : BActs H0 sl ac) {a : BAct} (ha : a ∈ ac) : ∀ j, own1 a.b = some j → j < H0.length :=
  fun j hj => (hA.2 a ha).bs.own_lt hj

theorem keeps_loop {sl : Value} {ac : List BAct} {s1 : Value} (hA : BActs H0 sl ac) (hn : ac.length ≤ 60) (hp : ∀ a ∈ ac, a.p.length ≤ 200) : ∀ (m k : Nat) {H : Heap} {d : DevS} {L : List (List (List UInt8))}, ac.length - k = m → k ≤ ac.length → KSt H0 [] H id mid d L → KInv d L → KB k d L →
    ∃ H' d' L', loopM (fun vs => F_law21BlockKeeps.l2 (R (n + 5)) (vs.headD undef) (vs.tail.headD undef) (vs.tail.tail.headD undef) (vs.tail.tail.tail.headD undef) (vs.tail.tail.tail.tail.headD undef) (vs.tail.tail.tail.tail.tail.headD undef)) [s1, pt id, pt mid, sl, iv ac.length, iv k] H = some (.ext 2 [s1, pt id, pt mid], H') ∧
      KSt H0 [] H' id mid d' L' ∧ KInv d' L' ∧ KB ac.length d' L'
  | 0, k, H, d, L, hm, hk, h, hI, hB => by
    have : k = ac.length := by omega
    subst this
    refine ⟨H, d, L, loop_ext ?_, h, hI, hB⟩
    simp only [F_law21BlockKeeps.l2, List.headD_cons, List.tail_cons]
    rw [bind_eq lss_r, cnd_b, if_neg (by simp)]
    rfl
  | m + 1, k, H, d, L, hm, hk, h, hI, hB => by
    have hka := List.getElem?_eq_getElem (show k < ac.length by omega)
    obtain ⟨H1, d1, L1, e1, h1, I1, B1⟩ := keeps_round (n := n) (s1 := s1) hA hn hp hka h hI hB (hA.own_lt (List.getElem_mem _))
    obtain ⟨H2, d2, L2, e2, r2⟩ := keeps_loop (s1 := s1) hA hn hp m (k + 1) (by omega) (by omega) h1 I1 B1
    exact ⟨H2, d2, L2, (loop_next (by simp only [List.headD_cons, List.tail_cons]; exact e1)).trans e2, r2⟩

theorem ext_hit {β : Type} {n : Nat} {a b : M β} {H : Heap} : (bif Nat.beq n n then a else b) H = a H := by
  rw [Nat.beq_refl, cond_true]

/-- Is it one of those? -/
theorem find_do {m : Nat} {s5 s6 s11 s12 s14 s140 row v : Value} {l : List (List UInt8)} {b : List UInt8} {H : Heap} (hr : Sl H row (l.map strv)) (hv : Sl H v (u8s b)) (hl : l.length ≤ 1000) : ∀ (k i : Nat) {f : Bool}, l.length - i = k → i ≤ l.length →
    loopM (fun vs => F_law21BlockKeeps.l5 (R m) (vs.headD undef) (vs.tail.headD undef) (vs.tail.tail.headD undef) (vs.tail.tail.tail.headD undef) (vs.tail.tail.tail.tail.headD undef) (vs.tail.tail.tail.tail.tail.headD undef) (vs.tail.tail.tail.tail.tail.tail.headD undef) (vs.tail.tail.tail.tail.tail.tail.tail.headD undef) (vs.tail.tail.tail.tail.tail.tail.tail.tail.headD undef) (vs.tail.tail.tail.tail.tail.tail.tail.tail.tail.headD undef) (vs.tail.tail.tail.tail.tail.tail.tail.tail.tail.tail.headD undef))
      [s5, s6, s11, s12, v, s14, .bool f, s140, row, iv l.length, iv i] H = some (.ext 8 [s5, s6, s11, s12, v, s14, .bool (f || (l.drop i).any (· == b)), s140], H)
  | 0, i, f, hk, hi => by
    have : i = l.length := by omega
    subst this
    refine loop_ext ?_
    simp only [F_law21BlockKeeps.l5, List.headD_cons, List.tail_cons]
    rw [bind_eq lss_r, cnd_b, if_neg (by simp)]
    simp [ret]
  | k + 1, i, f, hk, hi => by
    have hil : i < l.length := by omega
    have hlt : (i : Int) < l.length := by omega
    have w1 : IntKind.i64.wrap ((i : Int) + 1) = ((i + 1 : Nat) : Int) := by rw [w64 (by omega) (by omega)]; simp
    have hg : (l.map strv)[i]? = some (strv l[i]) := by rw [List.getElem?_map, List.getElem?_eq_getElem hil]; rfl
    have hb : F_law21BlockKeeps.l5 (R m) s5 s6 s11 s12 v s14 (.bool f) s140 row (iv l.length) (iv i) H = some (.nrm [s5, s6, s11, s12, v, s14, .bool (f || l[i] == b), s140, row, iv l.length, iv ((i + 1 : Nat) : Int)], H) := by
      unfold F_law21BlockKeeps.l5
      obtain ⟨p, p1, p2⟩ := hr.ld hg
      rw [bind_eq lss_r, cnd_b, if_pos (by simpa using hlt), bind_eq (p1 H), bind_eq p2]
      cases f
      · have eg : gate (.bool false) false 4 (bind (b2s v) fun v161x134 => bind (bop .str .eql (strv l[i]) v161x134) fun v162x135 => ret [strv l[i], v, v161x134, v162x135]) H = some ([strv l[i], v, strv b, .bool (l[i] == b)], H) := by
          rw [g_r, if_pos rfl, bind_eq (b2s_v hv), bind_eq eqs_v]
          rfl
        rw [bind_eq eg]
        simp only [List.headD_cons, List.tail_cons]
        rw [bind_eq pick_r, bind_eq add_r, w1]
        rfl
      · rw [bind_eq (g_r.trans (if_neg (by simp))), bind_eq pick_r, bind_eq add_r, w1]
        rfl
    have hn := find_do (m := m) (s5 := s5) (s6 := s6) (s11 := s11) (s12 := s12) (s14 := s14) (s140 := s140) hr hv hl k (i + 1) (f := f || l[i] == b) (by omega) (by omega)
    rw [loop_next (by simp only [List.headD_cons, List.tail_cons]; exact hb), hn, List.drop_eq_getElem_cons hil, List.any_cons, Bool.or_assoc]

/-- Each block, behind the cut and the start. -/
theorem final_do {m : Nat} {w : Bool} {d2 : DevS} (hok : d2.Ok) (hL : ∀ l ∈ L, l.length ≤ 1000) (hf : ∀ (i : Nat) l, i < 8 → L[i]? = some l → d2.there i = 0 ∧ d2.got i ∈ l ∧ (d2.got i).length = 128 ∧ (w = true → l.getLast? = some (d2.got i))) (h8 : L.length = 8) : ∀ (k i : Nat) {H : Heap}, 8 - i = k → i ≤ 8 → KSt H0 fr H id mid d2 L →
    ∃ H', loopM (fun vs => F_law21BlockKeeps.l4 (R (m + 4)) (vs.headD undef) (vs.tail.headD undef) (vs.tail.tail.headD undef) (vs.tail.tail.tail.headD undef)) [pt id, pt mid, .bool w, iv i] H = some (.ext 6 [], H')
  | 0, i, H, hk, hi, h => by
    have : i = 8 := by omega
    subst this
    refine ⟨H, loop_ext ?_⟩
    simp only [F_law21BlockKeeps.l4, List.headD_cons, List.tail_cons]
    rw [bind_eq lss_r, cnd_b, if_neg (by simp)]
    rfl
  | k + 1, i, H, hk, hi, h => by
    have hi8 : i < 8 := by omega
    have hlt : (i : Int) < 8 := by omega
    have w1 : IntKind.i64.wrap ((i : Int) + 1) = ((i + 1 : Nat) : Int) := by rw [w64 (by omega) (by omega)]; simp
    have hil : L[i]? = some (L[i]'(by omega)) := List.getElem?_eq_getElem (by omega)
    generalize L[i]'(by omega) = l at hil
    have hll := hL l (List.mem_of_getElem? hil)
    obtain ⟨t1, t2, t3, t4⟩ := hf i l hi8 hil
    obtain ⟨own, bs, hD⟩ := h.dv
    obtain ⟨H1, v, q, e1, r1, le1, _⟩ := r_read (n := m) hok hD (i : Int)
    rw [t1] at e1
    have h1 := h.hle le1
    obtain ⟨row, g1, g2, g3⟩ := h1.get hil
    have hpos : 0 < l.length := List.length_pos_iff.2 g3
    have e2 := find_do (m := m + 4) (s5 := pt id) (s6 := pt mid) (s11 := .bool w) (s12 := iv i) (s14 := iv 0) (s140 := iv i) (f := false) g2 r1.rd hll l.length 0 (by omega) (by omega)
    have hany : (false || (l.drop 0).any (· == d2.got i)) = true := by
      rw [List.drop_zero, Bool.false_or, List.any_eq_true]
      exact ⟨_, t2, by simp⟩
    rw [hany] at e2
    have hlen := g2.len (H' := H1)
    rw [List.length_map] at hlen
    obtain ⟨H2, e3⟩ := final_do (m := m) hok hL hf h8 k (i + 1) (by omega) (by omega) h1
    refine ⟨H2, (loop_next (H' := H1) (vs' := [pt id, pt mid, .bool w, iv ((i + 1 : Nat) : Int)]) ?_).trans e3⟩
    simp only [List.headD_cons, List.tail_cons]
    unfold F_law21BlockKeeps.l4
    rw [bind_eq lss_r, cnd_b, if_pos (by simpa using hlt), bind_eq e1, bind_eq extr_p0, bind_eq extr_p1, bind_eq (mayA hi8), bind_eq g1, bind_eq hlen]
    rw [show ((0 : Nat) : Int) = 0 from rfl] at e2
    rw [jn_ext e2]
    have z0 : ((0 : Int) != 0) = false := rfl
    rw [ext_hit]
    simp only [List.headD_cons, List.tail_cons]
    have b2 := b2s_v r1.rd
    have w2 : IntKind.i64.wrap ((l.length : Int) - 1) = ((l.length - 1 : Nat) : Int) := by rw [w64 (by omega) (by omega)]; omega
    have hlast : (l.map strv)[l.length - 1]? = some (strv (l[l.length - 1]'(by omega))) := by rw [List.getElem?_map, List.getElem?_eq_getElem (by omega)]; rfl
    obtain ⟨p, p1, p2⟩ := g2.ld hlast
    have p1 := p1 H1
    have m8 := mayA (id := mid) (H := H1) hi8
    rw [bind_eq neq_r, z0, b_gv_in, b_ret, b_gv_in, bind_eq not_r, bind_eq pick_r]
    simp only [cond_false, Bool.not_true]
    rw [b_gv_in, b_ret, b_gv_in, b_ret]
    cases w
    · rw [b_gv_out rfl, b_gv_out rfl, b_gv_out rfl, b_gv_out rfl, b_gv_out rfl, b_gv_out rfl, b_gv_out rfl, b_gv_out rfl, b_gv_out rfl, b_gv_out rfl, b_gv_out rfl, b_gv_out rfl, b_gv_out rfl, b_gv_in, bind_eq pick_r]
      simp only [cond_false]
      rw [bind_eq pick_r]
      simp only [cond_false]
      rw [cnd_b, if_neg (by simp), bind_eq add_r, w1]
      rfl
    · have hl2 : l[l.length - 1]'(by omega) = d2.got i := by
        have := t4 rfl
        rw [List.getLast?_eq_getElem?, List.getElem?_eq_getElem (by omega)] at this
        simpa using this
      rw [hl2] at p2
      rw [b_gv_in, b_ret, b_gv_in, bind_eq b2, b_gv_in, b_ret, b_gv_in, bind_eq m8, b_gv_in, bind_eq g1, b_gv_in, b_ret, b_gv_in, bind_eq m8, b_gv_in, bind_eq g1, b_gv_in, bind_eq hlen, b_gv_in, bind_eq sub_r, w2, b_gv_in, bind_eq p1, b_gv_in, bind_eq p2, b_gv_in, bind_eq nes_v, b_gv_in, bind_eq pick_r]
      simp only [cond_true, beq_self_eq_true, Bool.not_true]
      rw [bind_eq pick_r]
      simp only [cond_false]
      rw [cnd_b, if_neg (by simp), bind_eq add_r, w1]
      rfl

end

theorem keeps_core {sl : Value} {ac : List BAct} {H : Heap} (M : Nat) (hA : BActs H sl ac) (hn : ac.length ≤ 9223372036854775807) : ∃ H', R 9 n_law21BlockKeeps [sl, .int .u64 M] H = some (.bool true, H') := by
  obtain ⟨H1, e1, k1⟩ := r_lives (n := 2) H
  obtain ⟨H2, ok, e2, k2, hfew⟩ := r_few (m := 7) (hA.mono k1) hn
  cases ok
  · obtain ⟨H3, e3, k3⟩ := r_lives (n := 2) H2
    refine ⟨H3, ?_⟩
    rw [R, run_law21BlockKeeps rfl]
    unfold F_law21BlockKeeps
    have eg : gate (.bool false) false 3 (bind (R 8 n_law21Few [sl]) fun v22x3 => bind (uop .not v22x3) fun v23x4 => ret [sl, v22x3, v23x4]) H1 = some ([sl, .bool false, .bool true], H2) := by
      rw [g_r, if_pos rfl, bind_eq e2, bind_eq not_r]
      rfl
    rw [bind_eq e1, bind_eq not_r]
    simp only [Bool.not_true]
    rw [bind_eq eg]
    simp only [List.headD_cons, List.tail_cons]
    rw [bind_eq pick_r]
    simp only [cond_false]
    rw [cnd_b, if_pos rfl, bind_eq e3]
    rfl
  · obtain ⟨hn60, hp⟩ := hfew rfl
    have k12 := k1.trans k2
    obtain ⟨H3, own3, bs3, e3, h3, k3, o3⟩ := r_new (n := 7) (m := 8) (by omega) H2
    have hD3 : Dev H3 H2.length (DevS.new 8) own3 bs3 := h3
    generalize hH4 : H3 ++ [AObj.cells (List.replicate 8 (.slice none 0 0)) 1 false false] = H4
    have k4 : HLe H3 H4 := by rw [← hH4]; exact .app _ _
    have e4 : alc 1 (.agg #[.slice none 0 0, .slice none 0 0, .slice none 0 0, .slice none 0 0, .slice none 0 0, .slice none 0 0, .slice none 0 0, .slice none 0 0]) H3 = some (pt H3.length, H4) := by
      rw [← hH4]; exact alc_a (vs := List.replicate 8 (.slice none 0 0)) rfl
    have hlen3 := k3.len
    have hlen12 := k12.len
    obtain ⟨H5, om, e5, hM, s5⟩ := init_do (m := 8) (id := H2.length) (mid := H3.length) (s0 := sl) (s1 := .int .u64 M) 8 0 (H := H4) (ps := []) rfl (by omega) (by rw [← hH4]; exact app_new) .nil (by simp)
    have hom : ∀ j ∈ om, H3.length ≤ j := fun j hj => by
      rcases s5.own j hj with h | h
      · have : j = H3.length := by simpa using h
        omega
      · have := k4.len; omega
    have hD5 : Dev H5 H2.length (DevS.new 8) own3 bs3 := (hD3.hle k4).step s5 fun j hj hm => by
      have : j = H3.length := by simpa using hm
      subst this
      exact hj.elim (fun h => by have := hD3.lt _ h; omega) fun h => by have := (hD3.bl _ h).2; omega
    have hle5 : HLe H H5 := fun j o ho => by
      have hj := get_lt ho
      rw [s5.keep j (by have := k4.len; omega) (by simp; omega)]
      exact k4 _ _ (k3 _ _ (k12 _ _ ho))
    have K5 : KSt H [] H5 H2.length H3.length (DevS.new 8) (List.replicate 8 [zeroB]) := by
      refine ⟨own3, bs3, om, hD5, hM, fun j hj => ⟨fun hm => ?_, fun hm => ?_⟩, fun j hj => by have := o3 j (.inl hj); omega, fun j hj => by have := hom j hj; omega, hle5, by simp⟩
      · have := hD3.lt j hm; have := hom j hj; omega
      · have := (hD3.bl j hm).2; have := hom j hj; omega
    have hrep : ∀ (i : Nat) (l : List (List UInt8)), (List.replicate 8 [zeroB])[i]? = some l → l = [zeroB] ∧ i < 8 := fun i l hl => by
      rw [List.getElem?_replicate] at hl
      split at hl
      · exact ⟨(Option.some.inj hl).symm, by assumption⟩
      · cases hl
    have I5 : KInv (DevS.new 8) (List.replicate 8 [zeroB]) := by
      refine ⟨new_ok (by omega), List.length_replicate, List.length_replicate, fun i b l hb hl => ?_, fun i b l hb => (by cases hb), fun _ i l hl => ?_, fun _ => rfl⟩
      · obtain ⟨rfl, _⟩ := hrep i l hl
        have hb : (List.replicate 8 zeroB)[i]? = some b := hb
        have := List.eq_of_mem_replicate (List.mem_of_getElem? hb)
        simp [this]
      · obtain ⟨rfl, hi⟩ := hrep i l hl
        have : (DevS.new 8).blk i = zeroB := by
          show (List.replicate 8 zeroB).getD i [] = zeroB
          rw [List.getD_eq_getElem?_getD, List.getElem?_replicate, if_pos hi]; rfl
        rw [this]; rfl
    have B5 : KB 0 (DevS.new 8) (List.replicate 8 [zeroB]) := ⟨Nat.le_refl _, fun l hl => by rw [List.eq_of_mem_replicate hl]; simp, by show (-1 : Int) ≤ _; omega⟩
    obtain ⟨H6, d6, L6, e6, K6, I6, B6⟩ := keeps_loop (n := 3) (s1 := .int .u64 M) hA hn60 hp ac.length 0 (by omega) (by omega) K5 I5 B5
    -- the end
    obtain ⟨own6, bs6, hD6⟩ := K6.dv
    have f1 := r_waiting (n := 7) hD6
    have f2 := r_down (n := 7) hD6
    obtain ⟨c1, c2, c3, c4, c5⟩ := I6.fin M
    obtain ⟨H7, f3, K7, _⟩ := K6.dev (d' := d6.cut M) (P := fun H' => R 8 n_blockDeviceCut [pt H2.length, .int .u64 M] H6 = some (.tuple #[], H')) fun own bs hD ho => by
      obtain ⟨H', own', e, g1, g2⟩ := r_cut (n := 5) I6.ok hD M
      exact ⟨H', own', bs, e, g1, g2, fun j hj => .inl hj⟩
    obtain ⟨own7, bs7, hD7⟩ := K7.dv
    have f4 := r_down (n := 7) hD7
    rw [c1] at f4
    have f5 := r_waiting (n := 7) hD7
    rw [c2] at f5
    have hok7 := I6.ok.cut M
    have hfu7 : (d6.cut M).fuse ≤ 9223372036854775807 := by
      have := B6.f
      unfold DevS.cut
      split
      · exact this
      · show (-1 : Int) ≤ _; omega
    obtain ⟨H8, f6, K8, _⟩ := K7.dev (d' := (d6.cut M).flush.1) (P := fun H' => R 8 n_blockDeviceFlush [pt H2.length] H7 = some (iv (d6.cut M).flush.2, H')) fun own bs hD ho => by
      obtain ⟨H', own', e, g1, g2⟩ := r_flush (n := 3) hok7 hD hfu7
      exact ⟨H', own', bs, e, g1, g2, fun j hj => .inl hj⟩
    rw [c3] at f6 K8
    obtain ⟨H9, f7, K9, _⟩ := K8.dev (d' := ((d6.cut M).write 0 []).1) (P := fun H' => R 8 n_blockDeviceWrite [pt H2.length, iv 0, .slice none 0 0] H8 = some (iv ((d6.cut M).write 0 []).2, H')) fun own bs hD ho => by
      obtain ⟨H', own', bs', e, g1, g2, g3, _⟩ := r_write (n := 3) hok7 hD hfu7 (by rw [c2]; simp) 0 (v := .slice none 0 0) (b := []) Sl.nil (fun j hj => by cases hj)
      exact ⟨H', own', bs', e, g1, g2, g3⟩
    rw [c4] at f7 K9
    obtain ⟨H10, f8, K10, _⟩ := K9.dev (d' := (d6.cut M).start) (P := fun H' => R 8 n_blockDeviceStart [pt H2.length] H9 = some (.tuple #[], H')) fun own bs hD ho => by
      obtain ⟨H', e, g1, g2, _⟩ := r_start (n := 7) hD
      exact ⟨H', own, bs, e, g1, g2, fun j hj => .inl hj⟩
    have hLb : ∀ l ∈ L6, l.length ≤ 1000 := fun l hl => by have := B6.l l hl; omega
    obtain ⟨H11, f9⟩ := final_do (m := 4) (w := (d6.wait.length == 0) && !d6.down) hok7.start hLb (fun i l hi hl => by
      obtain ⟨x1, x2, x3, x4⟩ := c5 i l hi hl
      refine ⟨x1, x2, x3, fun hw => ?_⟩
      simp only [Bool.and_eq_true, Bool.not_eq_true', beq_iff_eq] at hw
      exact x4 (List.eq_nil_of_length_eq_zero hw.1) hw.2) I6.l8 8 0 rfl (by omega) K10
    refine ⟨H11, ?_⟩
    have f1 : R 8 n_blockDeviceWaiting [pt H2.length] H6 = some (iv d6.wait.length, H6) := f1
    have f2 : R 8 n_blockDeviceDown [pt H2.length] H6 = some (.bool d6.down, H6) := f2
    have f4 : R 8 n_blockDeviceDown [pt H2.length] H7 = some (.bool true, H7) := f4
    have f5 : R 8 n_blockDeviceWaiting [pt H2.length] H7 = some (iv 0, H7) := f5
    have f6 : R 8 n_blockDeviceFlush [pt H2.length] H7 = some (iv 15, H8) := f6
    have f7 : R 8 n_blockDeviceWrite [pt H2.length, iv 0, .slice none 0 0] H8 = some (iv 15, H9) := f7
    have ea := hA.len (H' := H5)
    rw [R, run_law21BlockKeeps rfl]
    unfold F_law21BlockKeeps
    have eg : gate (.bool false) false 3 (bind (R 8 n_law21Few [sl]) fun v22x3 => bind (uop .not v22x3) fun v23x4 => ret [sl, v22x3, v23x4]) H1 = some ([sl, .bool true, .bool false], H2) := by
      rw [g_r, if_pos rfl, bind_eq e2, bind_eq not_r]
      rfl
    obtain ⟨X, ex, hx⟩ : ∃ X, gate (.bool ((d6.wait.length : Int) == 0)) true 3 (bind (R 8 n_blockDeviceDown [pt H2.length]) fun v114x104 => bind (uop .not v114x104) fun v115x105 => ret [pt H2.length, v114x104, v115x105]) H6 = some (X, H6) ∧
        pick (.bool ((d6.wait.length : Int) == 0)) (X.tail.tail.headD undef) (Value.bool false) H6 = some (.bool ((d6.wait.length == 0) && !d6.down), H6) := by
      by_cases h0 : d6.wait.length = 0
      · have z : ((d6.wait.length : Int) == 0) = true := by rw [beq_iff_eq]; omega
        have z' : (d6.wait.length == 0) = true := by rw [beq_iff_eq]; exact h0
        rw [z, z']
        refine ⟨[pt H2.length, .bool d6.down, .bool (!d6.down)], ?_, ?_⟩
        · rw [g_r, if_pos rfl, bind_eq f2, bind_eq not_r]
          rfl
        · rw [pick_r]; rfl
      · have z : ((d6.wait.length : Int) == 0) = false := by rw [beq_eq_false_iff_ne]; omega
        have z' : (d6.wait.length == 0) = false := by rw [beq_eq_false_iff_ne]; exact h0
        rw [z, z']
        exact ⟨_, by rw [g_r, if_neg (by simp)], by rw [pick_r]; rfl⟩
    have eg2 : gate (.bool false) false 3 (bind (R 8 n_blockDeviceWaiting [pt H2.length]) fun v125x111 => bind (bop .int .neq v125x111 (Value.int .i64 0)) fun v126x112 => ret [pt H2.length, v125x111, v126x112]) H7 = some ([pt H2.length, iv 0, .bool false], H7) := by
      rw [g_r, if_pos rfl, bind_eq f5, bind_eq neq_r]
      rfl
    have eg3 : gate (.bool false) false 3 (bind (R 8 n_blockDeviceFlush [pt H2.length]) fun v130x115 => bind (bop .int .neq v130x115 (Value.int .i64 15)) fun v131x116 => ret [pt H2.length, v130x115, v131x116]) H7 = some ([pt H2.length, iv 15, .bool false], H8) := by
      rw [g_r, if_pos rfl, bind_eq f6, bind_eq neq_r]
      rfl
    have eg4 : gate (.bool false) false 3 (bind (R 8 n_blockDeviceWrite [pt H2.length, (Value.int .i64 0), (Value.slice none 0 0)]) fun v135x119 => bind (bop .int .neq v135x119 (Value.int .i64 15)) fun v136x120 => ret [pt H2.length, v135x119, v136x120]) H8 = some ([pt H2.length, iv 15, .bool false], H9) := by
      rw [g_r, if_pos rfl, bind_eq f7, bind_eq neq_r]
      rfl
    have e3 : R 8 n_blockNew [iv 8] H2 = some (pt H2.length, H3) := e3
    rw [show ((0 : Nat) : Int) = 0 from rfl] at e5 e6 f9
    rw [bind_eq e1, bind_eq not_r]
    simp only [Bool.not_true]
    rw [bind_eq eg]
    simp only [List.headD_cons, List.tail_cons]
    rw [bind_eq pick_r]
    simp only [cond_false]
    rw [cnd_b, if_neg (by simp), bind_eq e3, bind_eq e4, jn_ext e5, ext_hit]
    simp only [List.headD_cons, List.tail_cons]
    rw [bind_eq ea, jn_ext e6, ext_hit]
    simp only [List.headD_cons, List.tail_cons]
    rw [bind_eq f1, bind_eq eql_r, bind_eq ex, bind_eq hx, bind_eq f3, bind_eq f4, bind_eq not_r]
    simp only [Bool.not_true]
    rw [bind_eq eg2]
    simp only [List.headD_cons, List.tail_cons]
    rw [bind_eq pick_r]
    simp only [cond_false]
    rw [bind_eq eg3]
    simp only [List.headD_cons, List.tail_cons]
    rw [bind_eq pick_r]
    simp only [cond_false]
    rw [bind_eq eg4]
    simp only [List.headD_cons, List.tail_cons]
    rw [bind_eq pick_r]
    simp only [cond_false]
    rw [cnd_b, if_neg (by simp), bind_eq f8, jn_ext f9, ext_hit]
    rfl

theorem law_BlockKeeps : ∀ (xs : Ins [.slc blkActT, .int .u64]) (H : Heap) (vs : List Value), InsWf [.slc blkActT, .int .u64] xs → InsRd [.slc blkActT, .int .u64] xs H vs → ∃ n H', R n n_law21BlockKeeps vs H = some (.bool true, H') := by
  intro xs H vs hwf hrd
  obtain ⟨l, M, _⟩ := xs
  obtain ⟨hl, hM, _⟩ := hwf
  obtain ⟨c1, _, rfl, hc1, h1, c2, _, rfl, hc2, h2, rfl⟩ := hrd
  have hM := wf_u64 hM
  obtain ⟨a, rfl⟩ : ∃ a, c1 = [a] := by
    match c1, hc1 with
    | [a], _ => exact ⟨a, rfl⟩
  have h2 : c2 = [.int .u64 M] := h2
  subst h2
  obtain ⟨ac, hA, hn⟩ := rd_blkActs hl h1
  have hM0 : (0 : Int) ≤ M := hM.1
  obtain ⟨m, hm⟩ : ∃ m : Nat, M = (m : Int) := ⟨Int.toNat M, (Int.toNat_of_nonneg hM0).symm⟩
  subst hm
  exact ⟨9, keeps_core m hA hn⟩

end Go.Proofs.Ytahocinoohdagaa.A
