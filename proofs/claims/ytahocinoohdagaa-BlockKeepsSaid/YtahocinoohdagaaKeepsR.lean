/- What a block may be: one act. -/
import Derived.Test.YtahocinoohdagaaKeepsW
namespace Go.Proofs.Ytahocinoohdagaa.A
set_option linter.unusedVariables false
set_option linter.unusedSimpArgs false
open Go.Proofs Go.Proofs.Ytahocinoohdagaa

theorem jn_cf {β : Type} {a b : M Out} {kn : List Value → M β} {kx : Nat → List Value → M β} {kr : Value → M β} {H : Heap} : jn (cnd (.bool false) a b) kn kx kr H = jn b kn kx kr H := rfl
theorem jn_ct {β : Type} {a b : M Out} {kn : List Value → M β} {kx : Nat → List Value → M β} {kr : Value → M β} {H : Heap} : jn (cnd (.bool true) a b) kn kx kr H = jn a kn kx kr H := rfl
theorem jn_rn {β : Type} {vs : List Value} {kn : List Value → M β} {kx : Nat → List Value → M β} {kr : Value → M β} {H : Heap} : jn (ret (.nrm vs)) kn kx kr H = kn vs H := rfl

/-- What counts is bounded. -/
structure KB (k : Nat) (d : DevS) (L : List (List (List UInt8))) : Prop where
  w : d.wait.length ≤ k
  l : ∀ l ∈ L, l.length ≤ k + 1
  f : d.fuse ≤ 9223372036854775807

theorem burn_fuse {d : DevS} {B : Int} (hB : 0 ≤ B) (h : d.fuse ≤ B) : d.burn.1.fuse ≤ B := by
  unfold DevS.burn
  split
  · exact h
  · split
    · show d.fuse - 1 ≤ B; omega
    · unfold DevS.cut
      split
      · exact h
      · show (-1 : Int) ≤ B; omega

theorem KB.write {k : Nat} {d : DevS} {L : List (List (List UInt8))} (h : KB k d L) (x : Int) (b : List UInt8) : (d.write x b).1.wait.length ≤ k + 1 ∧ (d.write x b).1.fuse ≤ 9223372036854775807 := by
  have h1 := burn_fuse (by omega) h.f
  have h2 := burn_wlen d
  have h3 := h.w
  have h4 := h.f
  unfold DevS.write
  split
  · split
    · exact ⟨by show d.wait.length ≤ _; omega, h4⟩
    · split
      · refine ⟨?_, h1⟩
        show (d.burn.1.wait ++ [(x.toNat, pad b)]).length ≤ _
        rw [List.length_append, List.length_singleton]; omega
      · exact ⟨by omega, h1⟩
  · exact ⟨by show d.wait.length ≤ _; omega, h4⟩

theorem KB.flush {k : Nat} {d : DevS} {L : List (List (List UInt8))} (h : KB k d L) : d.flush.1.wait.length ≤ k + 1 ∧ d.flush.1.fuse ≤ 9223372036854775807 := by
  have h1 := burn_fuse (by omega) h.f
  have h2 := burn_wlen d
  have h3 := h.w
  have h4 := h.f
  unfold DevS.flush
  split
  · exact ⟨by show d.wait.length ≤ _; omega, h4⟩
  · split
    · exact ⟨Nat.zero_le _, h1⟩
    · exact ⟨by omega, h1⟩

/-- What was written may be read. -/
noncomputable def kapp (c mid s1 s5 s36 s37 s38 : Value) : M Out :=
  bind (fa 1 c) fun v55x36 =>
  bind (ld1 v55x36) fun v56x35 =>
  bind (fa 1 c) fun v57x37 =>
  bind (ld1 v57x37) fun v58x38 =>
  bind (ixaA 8 1 mid v58x38) fun v59x39 =>
  bind (ld1 v59x39) fun v60x40 =>
  bind (fa 2 c) fun v61x41 =>
  bind (ld1 v61x41) fun v62x42 =>
  bind (b2s v62x42) fun v63x43 =>
  bind (fa 2 c) fun v64x44 =>
  bind (ld1 v64x44) fun v65x45 =>
  bind (lenS v65x45) fun v66x46 =>
  bind (bop .int .sub (Value.int .i64 128) v66x46) fun v67x47 =>
  bind (mks 1 1 (.int .u8 0) v67x47 v67x47) fun v68x48 =>
  bind (b2s v62x42) fun u_49 => same u_49 v63x43 <|
  bind (ld1 v61x41) fun u_50 => same u_50 v62x42 <|
  bind (ld1 v59x39) fun u_51 => same u_51 v60x40 <|
  bind (ld1 v57x37) fun u_52 => same u_52 v58x38 <|
  bind (ld1 v55x36) fun u_53 => same u_53 v56x35 <|
  bind (b2s v68x48) fun v69x54 =>
  bind (bop .str .add v63x43 v69x54) fun v70x55 =>
  bind (bsl 1 1 (.string ⟨#[]⟩) [(0, 1, v70x55)]) fun v71x56 =>
  bind (ld1 v59x39) fun u_57 => same u_57 v60x40 <|
  bind (ld1 v57x37) fun u_58 => same u_58 v58x38 <|
  bind (ld1 v55x36) fun u_59 => same u_59 v56x35 <|
  bind (app 1 16 v60x40 v71x56) fun v72x60 =>
  bind (ld1 v55x36) fun u_61 => same u_61 v56x35 <|
  bind (ixaA 8 1 mid v56x35) fun v73x62 =>
  bind (st1 v73x62 v72x60) fun _ =>
  ret (.nrm [s1, s5, mid, c, s36, s37, s38])

section
variable {H0 H : Heap} {fr : List Nat} {id mid n : Nat} {d : DevS} {L : List (List (List UInt8))}

theorem kapp_do {c i : Nat} {a : BAct} {l : List (List UInt8)} {s1 s5 s36 s37 s38 : Value} (h : KSt H0 fr H id mid d L) (hc : c ∈ fr) (hbx : H[c]? = some (.cells a.cells 1 false false)) (ha : Sl H a.b (u8s a.p)) (hp : a.p.length ≤ 128) (hi : a.i = (i : Int)) (hi8 : i < 8) (hl : L[i]? = some l) (hll : l.length ≤ 1000) :
    ∃ H', kapp (pt c) (pt mid) s1 s5 s36 s37 s38 H = some (.nrm [s1, s5, pt mid, pt c, s36, s37, s38], H') ∧ KSt H0 fr H' id mid d (L.set i (l ++ [pad a.p])) ∧ ∀ j ∈ fr, H'[j]? = H[j]? := by
  refine h.may (P := fun H' => kapp (pt c) (pt mid) s1 s5 s36 s37 s38 H = some (.nrm [s1, s5, pt mid, pt c, s36, s37, s38], H')) fun om hM hfr => ?_
  have hlt := hM.lt
  obtain ⟨sl, q, g1, g2, g3, g4, g5, g6⟩ := hM.put (l' := l ++ [pad a.p]) hl
  have hcell : a.cells = [.int .u8 a.kd, iv i, a.b, .int .u64 a.m] := by rw [← hi]
  have f1 : ld1 (pa c 1) H = some (iv i, H) := ld1_at hbx (by rw [hcell]; rfl)
  have f2 : ld1 (pa c 2) H = some (a.b, H) := ld1_at hbx (by rw [hcell]; rfl)
  have f3 := b2s_v ha
  have f4 : lenS a.b H = some (iv a.p.length, H) := by have := ha.len (H' := H); rwa [u8s_length] at this
  have w1 : IntKind.i64.wrap ((128 : Int) - (a.p.length : Int)) = ((128 - a.p.length : Nat) : Int) := by rw [w64 (by omega) (by omega)]; omega
  have e1 := mks_z (H := H) (l := 128 - a.p.length) (by omega)
  generalize hH1 : H ++ [AObj.cells (u8s (List.replicate (128 - a.p.length) 0)) 1 false false] = H1 at e1
  have le1 : HLe H H1 := by rw [← hH1]; exact .app _ _
  have hz : Sl H1 (.slice (some ⟨H.length, 0, none⟩) (128 - a.p.length) (128 - a.p.length)) (u8s (List.replicate (128 - a.p.length) 0)) := by
    have := Sl.one (vs := u8s (List.replicate (128 - a.p.length) 0)) (c := 128 - a.p.length) (H := H1) (id := H.length) (by rw [← hH1]; exact app_new)
    rw [u8s_length, List.length_replicate] at this
    exact this
  have f5 := b2s_v hz
  have f6 := b2s_v (ha.mono le1)
  have f7 := ld1_mono f1 le1
  have f8 := ld1_mono f2 le1
  have f9 := ld1_mono g1 le1
  have e2 : bop .str .add (strv a.p) (strv (List.replicate (128 - a.p.length) 0)) H1 = some (strv (pad a.p), H1) := adds_v (by rw [List.length_replicate]; omega)
  generalize hH2 : H1 ++ [AObj.cells [strv (pad a.p)] 1 false false] = H2
  have le2 : HLe H1 H2 := by rw [← hH2]; exact .app _ _
  have e3 : bsl 1 1 (.string ⟨#[]⟩) [(0, 1, strv (pad a.p))] H1 = some (.slice (some ⟨H1.length, 0, none⟩) 1 1, H2) := by rw [← hH2]; exact bsl1 rfl rfl rfl
  have hx : Sl H2 (.slice (some ⟨H1.length, 0, none⟩) 1 1) [strv (pad a.p)] := Sl.one (vs := [strv (pad a.p)]) (by rw [← hH2]; exact app_new)
  have le := le1.trans le2
  have f10 := ld1_mono f1 le
  have f11 := ld1_mono g1 le
  have g2' := g2.keep (H' := H2) fun j hj => le.step.keep j (hlt j (g5 j hj)) (by simp)
  obtain ⟨sl', H3, q', e4, g7, s4⟩ := g2'.push (b := 16) hx (by simp; omega) (by simp; omega)
  have hcq : c ∉ q := fun hm => hfr c hc (g5 c hm)
  have hc3 : H3[c]? = some (.cells a.cells 1 false false) := by rw [s4.get (le _ _ hbx) hcq]
  have f12 : ld1 (pa c 1) H3 = some (iv i, H3) := ld1_at hc3 (by rw [hcell]; rfl)
  have hmap : l.map strv ++ [strv (pad a.p)] = (l ++ [pad a.p]).map strv := by simp
  rw [hmap] at g7
  obtain ⟨H4, om', g9, g10, g11⟩ := g6 sl' H3 q' g7 (by simp) ((le.step.more (by simp) fun j hj => .inl hj).trans s4)
  refine ⟨H4, om', ?_, g10, g11⟩
  unfold kapp
  rw [bind_eq fa_z, bind_eq f1, bind_eq fa_z, bind_eq f1, bind_eq (mayA hi8), bind_eq g1, bind_eq fa_z, bind_eq f2, bind_eq f3, bind_eq fa_z, bind_eq f2, bind_eq f4, bind_eq sub_r, w1, bind_eq e1, bind_eq f6, same_self, bind_eq f8, same_self, bind_eq f9, same_self, bind_eq f7, same_self, bind_eq f7, same_self,
    bind_eq f5, bind_eq e2, bind_eq e3, bind_eq f11, same_self, bind_eq f10, same_self, bind_eq f10, same_self, bind_eq e4, bind_eq f12, same_self, bind_eq (mayA hi8), bind_eq g9]
  rfl

/-- One act. -/
theorem keeps_round {sl : Value} {ac : List BAct} {a : BAct} {k : Nat} {s1 : Value} (hA : BActs H0 sl ac) (hn : ac.length ≤ 60) (hp : ∀ a ∈ ac, a.p.length ≤ 200) (hk : ac[k]? = some a) (h : KSt H0 [] H id mid d L) (hI : KInv d L) (hB : KB k d L) (hown : ∀ j, own1 a.b = some j → j < H0.length) :
    ∃ H' d' L', F_law21BlockKeeps.l2 (R (n + 5)) s1 (pt id) (pt mid) sl (iv ac.length) (iv k) H = some (.nrm [s1, pt id, pt mid, sl, iv ac.length, iv ((k + 1 : Nat) : Int)], H') ∧ KSt H0 [] H' id mid d' L' ∧ KInv d' L' ∧ KB (k + 1) d' L' := by
  have hkl : k < ac.length := (List.getElem?_eq_some_iff.1 hk).1
  have hlt : (k : Int) < ac.length := by omega
  have hw : IntKind.i64.wrap ((k : Int) + 1) = ((k + 1 : Nat) : Int) := by rw [w64 (by omega) (by omega)]; simp
  have hAH := hA.mono h.le
  -- the act
  have hbx := h.box (.cells a.cells 1 false false)
  have hc0 : (H ++ [AObj.cells a.cells 1 false false])[H.length]? = some (.cells a.cells 1 false false) := app_new
  have ha0 := (hA.2 a (List.mem_of_getElem? hk)).mono hbx.le
  have hfe : ∀ K : Value → M Out, bind (ixa 4 sl (iv k)) (fun p => bind (ldA 4 p) fun v => bind (alc 1 (.agg #[.int .u8 0, .int .i64 0, .slice none 0 0, .int .u64 0])) fun q => bind (stA 4 q v) fun _ => K q) H = K (pt H.length) (H ++ [.cells a.cells 1 false false]) := fun K => hAH.fetch hk
  generalize H ++ [AObj.cells a.cells 1 false false] = H1 at *
  generalize H.length = c at *
  have l0 : ∀ {X : Heap}, X[c]? = some (.cells a.cells 1 false false) → ld1 (pa c 0) X = some (.int .u8 a.kd, X) := fun hX => ld1_at hX rfl
  have l1 : ∀ {X : Heap}, X[c]? = some (.cells a.cells 1 false false) → ld1 (pa c 1) X = some (iv a.i, X) := fun hX => ld1_at hX rfl
  have l2 : ∀ {X : Heap}, X[c]? = some (.cells a.cells 1 false false) → ld1 (pa c 2) X = some (a.b, X) := fun hX => ld1_at hX rfl
  have l3 : ∀ {X : Heap}, X[c]? = some (.cells a.cells 1 false false) → ld1 (pa c 3) X = some (.int .u64 a.m, X) := fun hX => ld1_at hX rfl
  have h7 : ¬ ((7 : Int) = 0) := by omega
  have hm7 : (a.kd : Int).tmod 7 = ((a.kd % 7 : Nat) : Int) := by rw [Int.tmod_eq_emod_of_nonneg (by omega)]; omega
  have hfw := hB.w
  have hBl : ∀ L' : List (List (List UInt8)), (∀ l ∈ L', l ∈ L ∨ l.length ≤ k + 2) → ∀ l ∈ L', l.length ≤ k + 1 + 1 := fun L' hh l hl => by
    rcases hh l hl with h | h
    · have := hB.l l h; omega
    · omega
  unfold F_law21BlockKeeps.l2
  rw [bind_eq lss_r, cnd_b, if_pos (by simpa using hlt), hfe, bind_eq fa_z, bind_eq (l0 hc0), bind_eq (rem_r.trans (if_neg h7)), hm7, bind_eq lss_r]
  by_cases r2 : a.kd % 7 < 2
  · have d1 : decide (((a.kd % 7 : Nat) : Int) < 2) = true := decide_eq_true (by omega)
    have z2 : (((a.kd % 7 : Nat) : Int) == 2) = false := by rw [beq_eq_false_iff_ne]; omega
    have z4 : (((a.kd % 7 : Nat) : Int) == 4) = false := by rw [beq_eq_false_iff_ne]; omega
    obtain ⟨H2, e2, k2, q2⟩ := hbx.dev (d' := (d.write a.i a.p).1) (P := fun H' => R (n + 5) n_blockDeviceWrite [pt id, iv a.i, a.b] H1 = some (iv (d.write a.i a.p).2, H')) fun own bs hD ho => by
      obtain ⟨H', own', bs', e, g1, g2, g3, _⟩ := r_write (n := n) hI.ok hD hB.f (by omega) a.i ha0.bs (fun j hj hm => by have := hown j hj; have := ho j hm; omega)
      exact ⟨H', own', bs', e, g1, g2, g3⟩
    obtain ⟨w1, w2⟩ := hI.write (by omega) a.i a.p
    obtain ⟨b1, b2⟩ := hB.write a.i a.p
    have hc2 : H2[c]? = some (.cells a.cells 1 false false) := by rw [q2 c (by simp)]; exact hc0
    rw [d1]
    have eg : gate (.bool true) true 7 (bind (fa 1 (pt c)) fun v48x27 => bind (ld1 v48x27) fun v49x28 => bind (fa 2 (pt c)) fun v50x29 => bind (ld1 v50x29) fun v51x30 => bind (R (n + 5) n_blockDeviceWrite [pt id, v49x28, v51x30]) fun v52x31 => bind (bop .int .eql v52x31 (Value.int .i64 0)) fun v53x32 =>
        ret [pt id, v48x27, v49x28, v50x29, v51x30, v52x31, v53x32]) H1 = some ([pt id, pa c 1, iv a.i, pa c 2, a.b, iv (d.write a.i a.p).2, .bool ((d.write a.i a.p).2 == 0)], H2) := by
      rw [g_r, if_pos rfl, bind_eq fa_z, bind_eq (l1 hc0), bind_eq fa_z, bind_eq (l2 hc0), bind_eq e2, bind_eq eql_r]
      rfl
    rw [bind_eq eg]
    simp only [List.headD_cons, List.tail_cons]
    rw [bind_eq pick_r]
    simp only [cond_true]
    by_cases e0 : (d.write a.i a.p).2 = 0
    · obtain ⟨i, l, hai, hi8, hl, hp128, hI2⟩ := w1 e0
      have hal : l.length ≤ 1000 := by have := hB.l l (List.mem_of_getElem? hl); omega
      have ha2 : Sl H2 a.b (u8s a.p) := ((hA.2 a (List.mem_of_getElem? hk)).mono k2.le).bs
      obtain ⟨H3, e3, k3, q3⟩ := kapp_do (s1 := s1) (s5 := pt id) (s36 := sl) (s37 := iv ac.length) (s38 := iv k) k2 (c := c) (by simp) hc2 ha2 hp128 hai hi8 hl hal
      have hc3 : H3[c]? = some (.cells a.cells 1 false false) := by rw [q3 c (by simp)]; exact hc2
      refine ⟨H3, _, _, ?_, k3.less (by simp), hI2, ⟨b1, hBl _ fun l' hl' => ?_, b2⟩⟩
      · refine (jn_nrm (H' := H3) (vs := [s1, pt id, pt mid, pt c, sl, iv ac.length, iv k]) ?_).trans ?_
        · rw [cnd_b, if_pos (by simp [e0])]
          exact e3
        · simp only [List.headD_cons, List.tail_cons]
          rw [bind_eq fa_z, bind_eq (l0 hc3), bind_eq (rem_r.trans (if_neg h7)), hm7, bind_eq eql_r, z2, bind_eq (g_r.trans (if_neg (by simp))), bind_eq pick_r]
          refine (jn_nrm (H' := H3) (vs := [s1, pt id, pt mid, pt c, sl, iv ac.length, iv k]) rfl).trans ?_
          simp only [List.headD_cons, List.tail_cons]
          rw [bind_eq fa_z, bind_eq (l0 hc3), bind_eq (rem_r.trans (if_neg h7)), hm7, bind_eq eql_r, z4]
          refine (jn_nrm (H' := H3) (vs := [s1, pt id, pt mid, sl, iv ac.length, iv k]) rfl).trans ?_
          simp only [List.headD_cons, List.tail_cons]
          rw [bind_eq add_r, hw]
          rfl
      · rcases List.mem_or_eq_of_mem_set hl' with h | rfl
        · exact .inl h
        · have := hB.l l (List.mem_of_getElem? hl)
          refine .inr ?_
          rw [List.length_append, List.length_singleton]; omega
    · refine ⟨H2, _, _, ?_, k2.less (by simp), w2 e0, ⟨b1, hBl _ fun l' hl' => .inl hl', b2⟩⟩
      refine (jn_nrm (H' := H2) (vs := [s1, pt id, pt mid, pt c, sl, iv ac.length, iv k]) ?_).trans ?_
      · rw [cnd_b, if_neg (by simpa using e0)]
        rfl
      · simp only [List.headD_cons, List.tail_cons]
        rw [bind_eq fa_z, bind_eq (l0 hc2), bind_eq (rem_r.trans (if_neg h7)), hm7, bind_eq eql_r, z2, bind_eq (g_r.trans (if_neg (by simp))), bind_eq pick_r]
        refine (jn_nrm (H' := H2) (vs := [s1, pt id, pt mid, pt c, sl, iv ac.length, iv k]) rfl).trans ?_
        simp only [List.headD_cons, List.tail_cons]
        rw [bind_eq fa_z, bind_eq (l0 hc2), bind_eq (rem_r.trans (if_neg h7)), hm7, bind_eq eql_r, z4]
        refine (jn_nrm (H' := H2) (vs := [s1, pt id, pt mid, sl, iv ac.length, iv k]) rfl).trans ?_
        simp only [List.headD_cons, List.tail_cons]
        rw [bind_eq add_r, hw]
        rfl
  · have d1 : decide (((a.kd % 7 : Nat) : Int) < 2) = false := decide_eq_false (by omega)
    rw [d1, bind_eq (g_r.trans (if_neg (by simp))), bind_eq pick_r]
    simp only [cond_false]
    rw [jn_cf, jn_rn]
    simp only [List.headD_cons, List.tail_cons]
    rw [bind_eq fa_z, bind_eq (l0 hc0), bind_eq (rem_r.trans (if_neg h7)), hm7, bind_eq eql_r]
    by_cases r3 : a.kd % 7 = 2
    · have z2 : (((a.kd % 7 : Nat) : Int) == 2) = true := by rw [beq_iff_eq]; omega
      have z4 : (((a.kd % 7 : Nat) : Int) == 4) = false := by rw [beq_eq_false_iff_ne]; omega
      obtain ⟨H2, e2, k2, q2⟩ := hbx.dev (d' := d.flush.1) (P := fun H' => R (n + 5) n_blockDeviceFlush [pt id] H1 = some (iv d.flush.2, H')) fun own bs hD ho => by
        obtain ⟨H', own', e, g1, g2⟩ := r_flush (n := n) hI.ok hD hB.f
        exact ⟨H', own', bs, e, g1, g2, fun j hj => .inl hj⟩
      obtain ⟨w1, w2⟩ := hI.flush
      obtain ⟨b1, b2⟩ := hB.flush
      have hc2 : H2[c]? = some (.cells a.cells 1 false false) := by rw [q2 c (by simp)]; exact hc0
      have eg : gate (.bool true) true 3 (bind (R (n + 5) n_blockDeviceFlush [pt id]) fun v80x68 => bind (bop .int .eql v80x68 (Value.int .i64 0)) fun v81x69 => ret [pt id, v80x68, v81x69]) H1 = some ([pt id, iv d.flush.2, .bool (d.flush.2 == 0)], H2) := by
        rw [g_r, if_pos rfl, bind_eq e2, bind_eq eql_r]
        rfl
      rw [z2, bind_eq eg]
      simp only [List.headD_cons, List.tail_cons]
      rw [bind_eq pick_r]
      simp only [cond_true]
      by_cases e0 : d.flush.2 = 0
      · obtain ⟨H3, e3, k3, q3⟩ := trim_do (m := n + 5) (s1 := s1) (s9 := pt c) (s36 := sl) (s37 := iv ac.length) (s38 := iv k) 8 0 rfl (by omega) hI.l8 (fun l hl => by have := hB.l l hl; omega) k2
        have hc3 : H3[c]? = some (.cells a.cells 1 false false) := by rw [q3 c (by simp)]; exact hc2
        have hL' : L.take 0 ++ (L.drop 0).map trm = L.map fun l => l.drop (l.length - 1) := rfl
        rw [hL'] at k3
        refine ⟨H3, _, _, ?_, k3.less (by simp), w1 e0, ⟨b1, hBl _ fun l' hl' => ?_, b2⟩⟩
        · refine (jn_nrm (H' := H3) (vs := [s1, pt id, pt mid, pt c, sl, iv ac.length, iv k]) ?_).trans ?_
          · rw [cnd_b, if_pos (by simp [e0])]
            refine (jn_ext e3).trans rfl
          · simp only [List.headD_cons, List.tail_cons]
            rw [bind_eq fa_z, bind_eq (l0 hc3), bind_eq (rem_r.trans (if_neg h7)), hm7, bind_eq eql_r, z4]
            refine (jn_nrm (H' := H3) (vs := [s1, pt id, pt mid, sl, iv ac.length, iv k]) rfl).trans ?_
            simp only [List.headD_cons, List.tail_cons]
            rw [bind_eq add_r, hw]
            rfl
        · obtain ⟨l, hl, rfl⟩ := List.mem_map.1 hl'
          have := hB.l l hl
          exact .inr (by rw [List.length_drop]; omega)
      · refine ⟨H2, _, _, ?_, k2.less (by simp), w2 e0, ⟨b1, hBl _ fun l' hl' => .inl hl', b2⟩⟩
        refine (jn_nrm (H' := H2) (vs := [s1, pt id, pt mid, pt c, sl, iv ac.length, iv k]) ?_).trans ?_
        · rw [cnd_b, if_neg (by simpa using e0)]
          rfl
        · simp only [List.headD_cons, List.tail_cons]
          rw [bind_eq fa_z, bind_eq (l0 hc2), bind_eq (rem_r.trans (if_neg h7)), hm7, bind_eq eql_r, z4]
          refine (jn_nrm (H' := H2) (vs := [s1, pt id, pt mid, sl, iv ac.length, iv k]) rfl).trans ?_
          simp only [List.headD_cons, List.tail_cons]
          rw [bind_eq add_r, hw]
          rfl
    · have z2 : (((a.kd % 7 : Nat) : Int) == 2) = false := by rw [beq_eq_false_iff_ne]; omega
      rw [z2, bind_eq (g_r.trans (if_neg (by simp))), bind_eq pick_r]
      simp only [cond_false]
      rw [jn_cf, jn_rn]
      simp only [List.headD_cons, List.tail_cons]
      rw [bind_eq fa_z, bind_eq (l0 hc0), bind_eq (rem_r.trans (if_neg h7)), hm7, bind_eq eql_r]
      by_cases r4 : a.kd % 7 = 4
      · have z4 : (((a.kd % 7 : Nat) : Int) == 4) = true := by rw [beq_iff_eq]; omega
        obtain ⟨H2, e2, k2, q2⟩ := hbx.dev (d' := d.arm a.i a.m) (P := fun H' => R (n + 5) n_blockDeviceArm [pt id, iv a.i, .int .u64 a.m] H1 = some (.tuple #[], H')) fun own bs hD ho => by
          obtain ⟨H', e, g1, g2, g3⟩ := r_arm (n := n + 4) hD a.i a.m
          exact ⟨H', own, bs, e, g1, g2, fun j hj => .inl hj⟩
        refine ⟨H2, _, _, ?_, k2.less (by simp), hI.arm _ _, ⟨?_, hBl _ fun l' hl' => .inl hl', ?_⟩⟩
        · rw [z4]
          refine (jn_nrm (H' := H2) (vs := [s1, pt id, pt mid, sl, iv ac.length, iv k]) ?_).trans ?_
          · rw [cnd_b, if_pos rfl, bind_eq fa_z, bind_eq (l1 hc0), bind_eq fa_z, bind_eq (l3 hc0), bind_eq e2]
            rfl
          · simp only [List.headD_cons, List.tail_cons]
            rw [bind_eq add_r, hw]
            rfl
        · unfold DevS.arm
          split
          · omega
          · show d.wait.length ≤ _; omega
        · have := hB.f
          have := ha0.i
          unfold DevS.arm
          split
          · omega
          · show max 0 a.i ≤ _; omega
      · have z4 : (((a.kd % 7 : Nat) : Int) == 4) = false := by rw [beq_eq_false_iff_ne]; omega
        refine ⟨H1, _, _, ?_, hbx.less (by simp), hI, ⟨by omega, hBl _ fun l' hl' => .inl hl', hB.f⟩⟩
        rw [z4]
        refine (jn_nrm (H' := H1) (vs := [s1, pt id, pt mid, sl, iv ac.length, iv k]) rfl).trans ?_
        simp only [List.headD_cons, List.tail_cons]
        rw [bind_eq add_r, hw]
        rfl

end

end Go.Proofs.Ytahocinoohdagaa.A
