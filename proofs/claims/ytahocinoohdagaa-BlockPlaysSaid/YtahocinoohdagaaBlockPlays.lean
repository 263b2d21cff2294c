/- Behind any deeds each answer, each block, what waits, and whether there is power, are the document's. -/
import Derived.Test.YtahocinoohdagaaBlkDo3
namespace Go.Proofs.Ytahocinoohdagaa.A
set_option linter.unusedVariables false
set_option linter.unusedSimpArgs false
open Go.Proofs Go.Proofs.Ytahocinoohdagaa

section
variable {H0 H X : Heap} {id wb n : Nat} {d : DevS} {w : RS} {sl : Value} {own bs : List Nat} {a : BAct}

/-- Each byte is wiped. -/
theorem wipe_do {s5 s6 s10 s46 s47 s48 v : Value} : ∀ (t k : Nat) {X : Heap} {vs : List Value} {q : List Nat}, vs.length - k = t → k ≤ vs.length → vs.length ≤ 1000 → RowS X v vs q →
    ∃ X', loopM (fun vs => F_law21BlockPlays.l3 (R n) (vs.headD undef) (vs.tail.headD undef) (vs.tail.tail.headD undef) (vs.tail.tail.tail.headD undef) (vs.tail.tail.tail.tail.headD undef) (vs.tail.tail.tail.tail.tail.headD undef) (vs.tail.tail.tail.tail.tail.tail.headD undef) (vs.tail.tail.tail.tail.tail.tail.tail.headD undef) (vs.tail.tail.tail.tail.tail.tail.tail.tail.headD undef)) [s5, s6, s10, v, s46, s47, s48, iv vs.length, iv k] X = some (.ext 4 [s5, s6, s10, s46, s47, s48], X') ∧ Step q X q X'
  | 0, k, X, vs, q, ht, hk, hv, hr => by
    have : k = vs.length := by omega
    subst this
    refine ⟨X, loop_ext ?_, .refl _ _⟩
    simp only [F_law21BlockPlays.l3, List.headD_cons, List.tail_cons]
    rw [bind_eq lss_r, cnd_b, if_neg (by simp)]
    rfl
  | t + 1, k, X, vs, q, ht, hk, hv, hr => by
    have hlt : (k : Int) < vs.length := by omega
    have w1 : IntKind.i64.wrap ((k : Int) + 1) = ((k + 1 : Nat) : Int) := by rw [w64 (by omega) (by omega)]; simp
    have hg := List.getElem?_eq_getElem (show k < vs.length by omega)
    obtain ⟨i, o, X1, a1, a2, a3, a4, _⟩ := hr.put (u := .int .u8 7) hg rfl .i64
    obtain ⟨X', e, r⟩ := wipe_do (s5 := s5) (s6 := s6) (s10 := s10) (s46 := s46) (s47 := s47) (s48 := s48) t (k + 1) (X := X1) (vs := vs.set k (.int .u8 7)) (by simp; omega) (by simp; omega) (by simpa using hv) a3
    rw [List.length_set] at e
    refine ⟨X', (loop_next ?_).trans e, a4.trans r⟩
    simp only [List.headD_cons, List.tail_cons]
    unfold F_law21BlockPlays.l3
    rw [bind_eq lss_r, cnd_b, if_pos (by simpa using hlt), bind_eq (a1 X), bind_eq a2, bind_eq add_r, w1]
    rfl

theorem got_len (hok : d.Ok) (i : Int) : (d.got i).length ≤ 128 := by
  unfold DevS.got
  split
  · unfold DevS.blk
    have h1 : ∀ l : List (Nat × List UInt8), (∀ x ∈ l, x.2.length = 128) → ∀ z : List UInt8, z.length ≤ 128 → ((lastW i.toNat l).getD z).length ≤ 128 := by
      intro l
      induction l with
      | nil => intro _ z hz; exact hz
      | cons x l ih =>
        intro hl z hz
        have := ih (fun y hy => hl y (by simp [hy])) z hz
        unfold lastW
        cases h : lastW i.toNat l with
        | some b => rw [h] at this; exact this
        | none =>
          dsimp only
          split
          · exact Nat.le_of_eq (hl x (by simp))
          · exact hz
    refine h1 _ hok.szw _ ?_
    rcases Nat.lt_or_ge i.toNat d.kept.length with h | h
    · rw [List.getD_eq_getElem?_getD, List.getElem?_eq_getElem h]
      exact Nat.le_of_eq (hok.szk _ (List.getElem_mem h))
    · rw [List.getD_eq_getElem?_getD, List.getElem?_eq_none h]; simp
  · simp

/-- Each block, and one on either side. -/
theorem blocks_do {s46 s47 s48 : Value} : ∀ (t : Nat) (i : Int) {X : Heap}, ((w.n : Int) + 1 - i).toNat = t → -1 ≤ i → i ≤ (w.n : Int) + 1 → Both X id d own bs sl w → X[wb]? = some (.cells (w.cells sl) 1 false false) →
    ∃ X', loopM (fun vs => F_law21BlockPlays.l2 (R (n + 4)) (vs.headD undef) (vs.tail.headD undef) (vs.tail.tail.headD undef) (vs.tail.tail.tail.headD undef) (vs.tail.tail.tail.tail.headD undef) (vs.tail.tail.tail.tail.tail.headD undef)) [pt id, pt wb, iv i, s46, s47, s48] X = some (.ext 2 [pt id, pt wb, s46, s47, s48], X') ∧ HLe X X'
  | 0, i, X, ht, hi, hi2, hB, hc => by
    have hd : ¬ i ≤ (w.n : Int) := by omega
    have e1 : ld1 (pa wb 0) X = some (iv w.n, X) := ld1_at hc rfl
    refine ⟨X, loop_ext ?_, .refl _⟩
    simp only [F_law21BlockPlays.l2, List.headD_cons, List.tail_cons]
    rw [bind_eq fa_z, bind_eq e1, bind_eq leq_r, cnd_b, if_neg (by simpa using hd)]
    rfl
  | t + 1, i, X, ht, hi, hi2, hB, hc => by
    have hd : i ≤ (w.n : Int) := by omega
    have hn : (w.n : Int) ≤ 100000 := by have := hB.rel.n; have := hB.rel.ok.bl; omega
    have w1 : IntKind.i64.wrap (i + 1) = i + 1 := w64 (by omega) (by omega)
    have e1 : ld1 (pa wb 0) X = some (iv w.n, X) := ld1_at hc rfl
    obtain ⟨X1, v, q, e2, r2, le1, o1⟩ := r_read (n := n) hB.rel.ok hB.dev i
    have hB1 := hB.hle le1
    have c1 := le1 _ _ hc
    have e3 := ldA_at (n := 5) c1 rfl
    obtain ⟨X2, e4, le2⟩ := r_refGet (n := n + 2) hB1.ref i
    have r3 := r2.step le2.step (by simp)
    have e5 := b2s_v r3.rd
    have hg : w.got i = d.got i := hB.rel.got i
    have ht2 : w.there i = d.there i := hB.rel.there i
    have e6 : bop .str .neq (strv (d.got i)) (strv (w.got i)) X2 = some (.bool false, X2) := by rw [nes_v, hg]; simp
    have e7 : gate (.bool false) false 3 (bind (bop .int .neq (iv (d.there i)) (iv (w.there i))) fun v100x64 => ret [iv (d.there i), iv (w.there i), v100x64]) X2 = some ([iv (d.there i), iv (w.there i), .bool false], X2) := by
      rw [g_r, if_pos rfl, bind_eq neq_r, ht2]
      simp [ret]
    have hl3 := r3.rd.len (H' := X2)
    obtain ⟨X3, e8, s3⟩ := wipe_do (n := n + 4) (s5 := pt id) (s6 := pt wb) (s10 := iv i) (s46 := s46) (s47 := s47) (s48 := s48) (v := v) (u8s (d.got i)).length 0 (by omega) (by omega) (by rw [u8s_length]; have := got_len hB.rel.ok i; omega) r3
    have hle : HLe X X3 := fun j o hj => by
      have hjl := get_lt hj
      rw [s3.keep j (by have := (le1.trans le2).len; omega) (fun hm => by have := o1 j hm; omega)]
      exact (le1.trans le2) _ _ hj
    obtain ⟨X4, e9, le4⟩ := blocks_do (s46 := s46) (s47 := s47) (s48 := s48) t (i + 1) (by omega) (by omega) (by omega) (hB.hle hle) (hle _ _ hc)
    refine ⟨X4, (loop_next (H' := X3) (vs' := [pt id, pt wb, iv (i + 1), s46, s47, s48]) ?_).trans e9, hle.trans le4⟩
    simp only [List.headD_cons, List.tail_cons]
    unfold F_law21BlockPlays.l2
    rw [show ((0 : Nat) : Int) = 0 from rfl] at e8
    rw [bind_eq fa_z, bind_eq e1, bind_eq leq_r, cnd_b, if_pos (by simpa using hd), bind_eq e2, bind_eq extr_p0, bind_eq extr_p1, bind_eq e3, bind_eq e4, bind_eq extr_p0, bind_eq extr_p1, bind_eq e5, bind_eq e6, bind_eq e7]
    simp only [List.headD_cons, List.tail_cons]
    rw [bind_eq pick_r]
    simp only [cond_false]
    rw [cnd_b, if_neg (by simp), bind_eq hl3, jn_ext e8, ext_hit0]
    simp only [List.headD_cons, List.tail_cons]
    rw [bind_eq add_r, w1]
    rfl

/-- What holds between two acts. -/
structure PInv (H0 X : Heap) (id wb : Nat) (k : Nat) : Prop where
  ex : ∃ d w sl own bs, Both X id d own bs sl w ∧ X[wb]? = some (.cells (w.cells sl) 1 false false) ∧ wb ∉ own ∧ wb ∉ bs ∧ own1 sl ≠ some wb ∧ w.l.length ≤ k ∧ (∀ j ∈ own, H0.length ≤ j)
  le : HLe H0 X
  wb : H0.length ≤ wb

theorem acts_do {asl : Value} {ac : List BAct} (hA : BActs H0 asl ac) (hn : ac.length ≤ 60) (hp : ∀ a ∈ ac, a.p.length ≤ 200) (hm : ∀ a ∈ ac, a.m < 18446744073709551616) : ∀ (t k : Nat) {X : Heap}, ac.length - k = t → k ≤ ac.length → PInv H0 X id wb k →
    ∃ X', loopM (fun vs => F_law21BlockPlays.l1 (R (n + 6)) (vs.headD undef) (vs.tail.headD undef) (vs.tail.tail.headD undef) (vs.tail.tail.tail.headD undef) (vs.tail.tail.tail.tail.headD undef)) [pt id, pt wb, asl, iv ac.length, iv k] X = some (.ext 0 [], X')
  | 0, k, X, ht, hk, hI => by
    have : k = ac.length := by omega
    subst this
    refine ⟨X, loop_ext ?_⟩
    simp only [F_law21BlockPlays.l1, List.headD_cons, List.tail_cons]
    rw [bind_eq lss_r, cnd_b, if_neg (by simp)]
    rfl
  | t + 1, k, X, ht, hk, hI => by
    have hlt : (k : Int) < ac.length := by omega
    have w1 : IntKind.i64.wrap ((k : Int) + 1) = ((k + 1 : Nat) : Int) := by rw [w64 (by omega) (by omega)]; simp
    obtain ⟨⟨d, w, sl, own, bs, hB, hc, n1, n2, n3, hwl, hown⟩, hle, hwb⟩ := hI
    have hka := List.getElem?_eq_getElem (show k < ac.length by omega)
    have ham := List.getElem_mem (show k < ac.length by omega)
    generalize ac[k] = a at hka ham
    have hf := fun {K : Value → M Out} => (hA.mono hle).fetch (k := K) hka
    generalize hX1 : X ++ [AObj.cells a.cells 1 false false] = X1 at hf
    have le1 : HLe X X1 := by rw [← hX1]; exact .app _ _
    have c8 : X1[X.length]? = some (.cells a.cells 1 false false) := by rw [← hX1]; exact app_new
    have hao : ∀ j, own1 a.b = some j → j ∉ own := fun j hj hm => by have := (hA.2 a ham).bs.own_lt hj; have := hown j hm; omega
    have e1 := ldA_at (n := 5) (le1 _ _ hc) rfl
    have e2 := ldA_at (n := 4) c8 rfl
    obtain ⟨X2, d', w', sl', own', bs', e3, hB2, s2, hwl2, hbs2, hsl2⟩ := r_do (n := n) (hB.hle le1) ((hA.2 a ham).mono (hle.trans le1)) (hm a ham) (hp a ham) hao (by omega)
    have hwbl := get_lt hc
    have lx1 := le1.len
    have c2 := s2.get (le1 _ _ hc) n1
    have m1 : wb ∉ own' := fun h => by
      rcases s2.own _ h with h1 | h1
      · exact n1 h1
      · omega
    have m2 : wb ∉ bs' := fun h => by
      rcases hbs2 _ h with h1 | h1
      · exact n2 h1
      · omega
    have m3 : own1 sl' ≠ some wb := fun h => by
      rcases hsl2 _ h with h1 | h1
      · exact n3 h1
      · omega
    have e4 : stA 5 (pt wb) (w'.val sl') X2 = some (undef, _) := stA_at c2 rfl rfl hB2.ref.all
    have hB3 := hB2.bset (c := wb) (o := .cells (w'.cells sl') 1 false false) m1 m2 m3
    have c3 : (X2.set wb (.cells (w'.cells sl') 1 false false))[wb]? = some (.cells (w'.cells sl') 1 false false) := set_get c2
    have hle3 : HLe H0 (X2.set wb (.cells (w'.cells sl') 1 false false)) := fun j o hj => by
      have := get_lt hj
      rw [List.getElem?_set_ne (by omega)]
      exact s2.get ((hle.trans le1) _ _ hj) fun hm => by have := hown j hm; omega
    generalize X2.set wb (.cells (w'.cells sl') 1 false false) = X3 at e4 hB3 c3 hle3
    have e5 : ld1 (pa wb 2) X3 = some (.bool w'.down, X3) := ld1_at c3 rfl
    have e6 := r_down (n := n + 5) hB3.dev
    have e7 := ldA_at (n := 5) c3 rfl
    have e8 := r_waiting (n := n + 5) hB3.dev
    obtain ⟨X4, e9, le4⟩ := r_refWaiting (n := n + 5) hB3.ref
    have q1 : bop .bool .neq (.bool d'.down) (.bool w'.down) X3 = some (.bool false, X3) := by rw [neb_r, hB3.rel.down]; simp
    have q2 : bop .int .neq (iv d'.wait.length) (iv w'.waits) X4 = some (.bool false, X4) := by rw [neq_r, hB3.rel.waits]; simp
    obtain ⟨X5, e10, le5⟩ := blocks_do (n := n + 2) (wb := wb) (s46 := asl) (s47 := iv ac.length) (s48 := iv k) ((w'.n : Int) + 1 - (-1)).toNat (-1) rfl (by omega) (by omega) (hB3.hle le4) (le4 _ _ c3)
    have le35 := le4.trans le5
    have hown' : ∀ j ∈ own', H0.length ≤ j := fun j hj => by
      rcases s2.own j hj with h | h
      · exact hown j h
      · have := (hle.trans le1).len; omega
    obtain ⟨X6, e11⟩ := acts_do hA hn hp hm t (k + 1) (X := X5) (by omega) (by omega) ⟨⟨d', w', sl', own', bs', hB3.hle le35, le35 _ _ c3, m1, m2, m3, by omega, hown'⟩, hle3.trans le35, hwb⟩
    refine ⟨X6, (loop_next (H' := X5) (vs' := [pt id, pt wb, asl, iv ac.length, iv ((k + 1 : Nat) : Int)]) ?_).trans e11⟩
    simp only [List.headD_cons, List.tail_cons]
    unfold F_law21BlockPlays.l1
    have e3 : R (n + 6) n_law21Do [pt id, w.val sl, .agg a.cells.toArray] X1 = some (.tuple #[w'.val sl', .bool true], X2) := e3
    have e6 : R (n + 6) n_blockDeviceDown [pt id] X3 = some (.bool d'.down, X3) := e6
    have e8 : R (n + 6) n_blockDeviceWaiting [pt id] X3 = some (iv d'.wait.length, X3) := e8
    have e9 : R (n + 6) n_ref21Waiting [w'.val sl'] X3 = some (iv w'.waits, X4) := e9
    rw [bind_eq lss_r, cnd_b, if_pos (by simpa using hlt), hf, bind_eq e1, bind_eq e2, bind_eq e3, bind_eq extr_p0, bind_eq extr_p1, bind_eq e4, bind_eq not_r]
    simp only [Bool.not_true]
    rw [b_gv_in, b_ret, b_gv_in, bind_eq fa_z, b_gv_in, bind_eq e5, b_gv_in, bind_eq e6, b_gv_in, bind_eq e5, same_self, b_gv_in, bind_eq q1, bind_eq pick_r]
    simp only [cond_false]
    rw [b_gv_in, b_ret, b_gv_in, bind_eq e7, b_gv_in, bind_eq e8, b_gv_in, bind_eq e7, same_self, b_gv_in, bind_eq e9, b_gv_in, bind_eq q2, bind_eq pick_r]
    simp only [cond_false]
    rw [cnd_b, if_neg (by simp), jn_ext e10, ext_hit0]
    simp only [List.headD_cons, List.tail_cons]
    rw [bind_eq add_r, w1]
    rfl

theorem brel_new {m : Nat} (hm : m ≤ 1000) : BRel (DevS.new m) { n := m, l := [], down := false, fuse := -1, mask := 0 } := by
  refine ⟨by simp [DevS.new], rfl, rfl, rfl, ⟨[], [], rfl, by simp, by simp, rfl, fun i hi => ?_⟩, new_ok hm, by simp [DevS.new], by simp [DevS.new]⟩
  have hi : i < m := by simpa [DevS.new] using hi
  show (List.replicate m zeroB).getD i [] = zeroB
  rw [List.getD_eq_getElem?_getD, List.getElem?_replicate, if_pos hi]; rfl

theorem plays_core {asl : Value} {ac : List BAct} {x : Nat} (hA : BActs H asl ac) (hn : ac.length ≤ 9223372036854775807) (hx : x ≤ 255) : ∃ H', R 10 n_law21BlockPlays [.int .u8 x, asl] H = some (.bool true, H') := by
  obtain ⟨H1, e1, k1⟩ := r_lives (n := 3) H
  obtain ⟨H2, ok, e2, k2, hfew⟩ := r_few (m := 8) (hA.mono k1) hn
  have e1 : R 9 n_law21Lives [] H = some (.bool true, H1) := e1
  have e2 : R 9 n_law21Few [asl] H1 = some (.bool ok, H2) := e2
  obtain ⟨H3, e3, k3⟩ := r_lives (n := 3) H2
  have e3 : R 9 n_law21Lives [] H2 = some (.bool true, H3) := e3
  rw [R, run_law21BlockPlays rfl]
  unfold F_law21BlockPlays
  have eg : gate (.bool false) false 3 (bind (R 9 n_law21Few [asl]) fun v20x3 => bind (uop .not v20x3) fun v21x4 => ret [asl, v20x3, v21x4]) H1 = some ([asl, .bool ok, .bool (!ok)], H2) := by
    rw [g_r, if_pos rfl, bind_eq e2, bind_eq not_r]
    rfl
  cases ok
  · refine ⟨H3, ?_⟩
    rw [bind_eq e1, bind_eq not_r]
    simp only [Bool.not_true]
    rw [bind_eq eg]
    simp only [List.headD_cons, List.tail_cons]
    rw [bind_eq pick_r]
    simp only [cond_false, Bool.not_false]
    rw [cnd_b, if_pos rfl, bind_eq e3]
    rfl
  · obtain ⟨hn60, hp⟩ := hfew rfl
    have k12 := k1.trans k2
    have hk : (x : Int).tmod 9 = ((x % 9 : Nat) : Int) := by rw [Int.tmod_eq_emod_of_nonneg (by omega)]; omega
    have w9 : IntKind.i64.wrap ((x % 9 : Nat) : Int) = ((x % 9 : Nat) : Int) := w64 (by omega) (by omega)
    have hm9 : x % 9 ≤ 8 := by omega
    generalize x % 9 = m at hk w9 hm9
    obtain ⟨H4, own, bs, e4, hD, k4, o4⟩ := r_new (n := 8) (m := m) (by omega) H2
    rw [Int.toNat_natCast] at hD
    obtain ⟨H5, e5, k5⟩ := r_refNew (n := 8) m H4
    rw [Int.toNat_natCast] at e5
    have hbx : ∀ {K : Value → M Value}, bind (alc 1 (.agg #[.int .i64 0, .slice none 0 0, .bool false, .int .i64 0, .int .u64 0])) (fun q => bind (stA 5 q (RS.val { n := m, l := [], down := false, fuse := -1, mask := 0 } (.slice none 0 0))) fun _ => K q) H5 = K (pt H5.length) (H5 ++ [.cells (RS.cells { n := m, l := [], down := false, fuse := -1, mask := 0 } (.slice none 0 0)) 1 false false]) := fun {K} =>
      box_a (n := 5) (zs := zero5) rfl rfl rfl rfl
    generalize hH6 : H5 ++ [AObj.cells (RS.cells { n := m, l := [], down := false, fuse := -1, mask := 0 } (.slice none 0 0)) 1 false false] = H6 at hbx
    have k6 : HLe H5 H6 := by rw [← hH6]; exact .app _ _
    have c6 : H6[H5.length]? = some (.cells (RS.cells { n := m, l := [], down := false, fuse := -1, mask := 0 } (.slice none 0 0)) 1 false false) := by rw [← hH6]; exact app_new
    have k46 := k5.trans k6
    have e6 := r_len (n := 8) (hD.hle k46)
    have hlen : (DevS.new m).kept.length = m := by simp [DevS.new]
    rw [hlen] at e6
    have e7 : ld1 (pa H5.length 0) H6 = some (iv m, H6) := ld1_at c6 rfl
    obtain ⟨H7, own7, bs7, e8, hD7, k7, _⟩ := r_new (n := 8) (m := -1) (by omega) H6
    have e9 := r_len (n := 8) hD7
    have hz : (DevS.new (Int.toNat (-1))).kept.length = 0 := rfl
    rw [hz] at e9
    have q1 : bop .int .neq (iv m) (iv m) H6 = some (.bool false, H6) := by rw [neq_r]; simp
    have q2 : bop .int .neq (iv (0 : Nat)) (.int .i64 0) H7 = some (.bool false, H7) := by rw [neq_r]; rfl
    have k47 := k46.trans k7
    have l4 := k4.len
    have l5 := k5.len
    have hB : Both H7 H2.length (DevS.new m) own bs (.slice none 0 0) { n := m, l := [], down := false, fuse := -1, mask := 0 } :=
      ⟨hD.hle k47, ⟨SlN.nil, by simp, by simp, by show (-1 : Int) ≤ _; omega⟩, fun j hj => (by cases hj), brel_new (by omega)⟩
    have hI : PInv H H7 H2.length H5.length 0 := ⟨⟨_, _, _, _, _, hB, k7 _ _ c6, fun h => by have := hD.lt _ h; omega, fun h => by have := (hD.bl _ h).2; omega, fun h => (by cases h), Nat.le_refl _, fun j hj => by have := o4 j (.inl hj); have := k12.len; omega⟩, k12.trans (k4.trans k47), by have := k12.len; omega⟩
    obtain ⟨H8, e10⟩ := acts_do (n := 3) hA hn60 hp (fun a ha => (hA.2 a ha).mm) ac.length 0 (by omega) (by omega) hI
    refine ⟨H8, ?_⟩
    rw [show ((0 : Nat) : Int) = 0 from rfl] at e10
    have e4 : R 9 n_blockNew [iv m] H2 = some (pt H2.length, H4) := e4
    have e5 : R 9 n_ref21New [iv m] H4 = some (RS.val { n := m, l := [], down := false, fuse := -1, mask := 0 } (.slice none 0 0), H5) := e5
    have e6 : R 9 n_blockDeviceLen [pt H2.length] H6 = some (iv m, H6) := e6
    have e8 : R 9 n_blockNew [(Value.int .i64 (-1))] H6 = some (pt H6.length, H7) := e8
    have e9 : R 9 n_blockDeviceLen [pt H6.length] H7 = some (iv (0 : Nat), H7) := e9
    have ea := hA.len (H' := H7)
    have m1 : ∀ X : Heap, bop .int .rem (.int .u8 x) (.int .u8 9) X = some (.int .u8 (m : Int), X) := fun X => by rw [rem_r, if_neg (by omega), hk]
    have m2 : ∀ X : Heap, cvi .i64 (.int .u8 (m : Int)) X = some (iv m, X) := fun X => by rw [cvi_r, w9]
    rw [bind_eq e1, bind_eq not_r]
    simp only [Bool.not_true]
    rw [bind_eq eg]
    simp only [List.headD_cons, List.tail_cons]
    rw [bind_eq pick_r]
    simp only [cond_false, Bool.not_true]
    rw [cnd_b, if_neg (by simp), bind_eq (m1 _), bind_eq (m2 _), bind_eq e4, bind_eq (m1 _), bind_eq (m2 _), bind_eq e5, hbx, bind_eq eqp_r, b_gv_in, b_ret, b_gv_in, bind_eq fa_z, b_gv_in, bind_eq e7, b_gv_in, bind_eq e6, b_gv_in, bind_eq e7, same_self, b_gv_in, bind_eq q1, bind_eq pick_r]
    simp only [cond_false]
    rw [b_gv_in, bind_eq e8, b_gv_in, bind_eq e9, b_gv_in, bind_eq q2, bind_eq pick_r]
    simp only [cond_false]
    rw [cnd_b, if_neg (by simp), bind_eq ea, jn_ext e10, ext_hit0]
    rfl

theorem law_BlockPlays : ∀ (xs : Ins [.int .u8, .slc blkActT]) (H : Heap) (vs : List Value), InsWf [.int .u8, .slc blkActT] xs → InsRd [.int .u8, .slc blkActT] xs H vs → ∃ n H', R n n_law21BlockPlays vs H = some (.bool true, H') := by
  intro xs H vs hwf hrd
  obtain ⟨M, l, _⟩ := xs
  obtain ⟨hM, hl, _⟩ := hwf
  obtain ⟨c1, _, rfl, hc1, h1, c2, _, rfl, hc2, h2, rfl⟩ := hrd
  have hM := wf_u8 hM
  obtain ⟨a, rfl⟩ : ∃ a, c2 = [a] := by
    match c2, hc2 with
    | [a], _ => exact ⟨a, rfl⟩
  have h1 : c1 = [.int .u8 M] := h1
  subst h1
  obtain ⟨ac, hA, hn⟩ := rd_blkActs hl h2
  have hM0 : (0 : Int) ≤ M := hM.1
  obtain ⟨m, hm⟩ : ∃ m : Nat, M = (m : Int) := ⟨Int.toNat M, (Int.toNat_of_nonneg hM0).symm⟩
  subst hm
  have hm : m ≤ 255 := by have := hM.2; exact Int.ofNat_le.1 this
  exact ⟨10, plays_core hA hn hm⟩

end

end Go.Proofs.Ytahocinoohdagaa.A
