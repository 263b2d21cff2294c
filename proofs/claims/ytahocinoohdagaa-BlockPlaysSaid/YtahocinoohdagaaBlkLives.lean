/- The chapter's example. -/
import Derived.Test.YtahocinoohdagaaBlk5
namespace Go.Proofs.Ytahocinoohdagaa.A
set_option linter.unusedVariables false
set_option linter.unusedSimpArgs false
open Go.Proofs Go.Proofs.Ytahocinoohdagaa

theorem new_ok {n : Nat} (h : n ≤ 1000) : (DevS.new n).Ok :=
  ⟨by simp [DevS.new], by simp [DevS.new], by simp [DevS.new]; omega, fun b hb => by
    simp only [DevS.new] at hb
    rw [List.eq_of_mem_replicate hb]
    exact List.length_replicate, by simp [DevS.new]⟩

theorem Sl.ld {H : Heap} {sl v : Value} {vs : List Value} (h : Sl H sl vs) {i : Nat} (hi : vs[i]? = some v) : ∃ p, (∀ H', ixa 1 sl (iv i) H' = some (p, H')) ∧ ld1 p H = some (v, H) := by
  obtain ⟨id, o, cs, es, g, ro, e1, e2, e3, _⟩ := h.at hi .i64
  exact ⟨_, e1, by rw [ldOne_r, e2, rdk_r, e3]; rfl⟩

theorem Sl.own_lt {H : Heap} {v : Value} {vs : List Value} (h : Sl H v vs) {j : Nat} (hj : own1 v = some j) : j < H.length := by
  obtain ⟨a, c, rfl, _, hfc⟩ := h
  unfold own1 at hj
  split at hj
  · rename_i e
    cases e
    cases hj
    unfold fcells at hfc
    simp only at hfc
    split at hfc
    · rename_i hg; exact get_lt hg
    · cases hfc
  · cases hj

/-- Some bytes, made ahead of a write. -/
theorem write1 {H : Heap} {id n : Nat} {d : DevS} {own bs : List Nat} (hok : d.Ok) (h : Dev H id d own bs) (hf : d.fuse ≤ 9223372036854775807) (hw : d.wait.length < 100000) (i : Int) (b : UInt8) :
    ∃ v H1 H' own' bs', bsl 1 1 (.int .u8 0) [(0, 1, .int .u8 (b.toNat : Int))] H = some (v, H1) ∧ mrk v H1 = some (v, H1) ∧ R (n + 5) n_blockDeviceWrite [pt id, iv i, v] H1 = some (iv (d.write i [b]).2, H') ∧ Dev H' id (d.write i [b]).1 own' bs' ∧ Step own H own' H' ∧ (∀ j ∈ bs', j ∈ bs ∨ H.length ≤ j) ∧ ∀ j ∈ bs, j ∈ bs' := by
  have e1 := bsl1 (es := 1) (z := .int .u8 0) (v := .int .u8 (b.toNat : Int)) (H := H) rfl rfl rfl
  have hle : HLe H (H ++ [.cells [.int .u8 (b.toNat : Int)] 1 false false]) := .app _ _
  have hv : Sl (H ++ [.cells [.int .u8 (b.toNat : Int)] 1 false false]) (.slice (some ⟨H.length, 0, none⟩) 1 1) (u8s [b]) := Sl.one (vs := u8s [b]) app_new
  obtain ⟨H', own', bs', e2, h2, s2, b2, b3⟩ := r_write (n := n) hok (h.hle hle) hf hw i hv (fun j hj hm => by
    cases hj
    have := h.lt _ hm
    omega)
  refine ⟨_, _, H', own', bs', e1, by simp [mrk, app_new], e2, h2, (hle.step.more (by simp) fun j hj => .inl hj).trans s2, fun j hj => (b2 j hj).imp (fun h => h) fun h => by simp at h; omega, b3⟩

def lv0 : DevS := DevS.new 2
def lv1 : DevS := (lv0.write 0 [97]).1
def lv2 : DevS := lv1.flush.1
def lv3 : DevS := (lv2.write 0 [98]).1
def lv4 : DevS := (lv3.write 1 [99]).1
def lv5 : DevS := lv4.cut 2
def lv6 : DevS := lv5.start

theorem lives_len0 : (lv6.got 0).length = 128 := by decide +kernel
theorem lives_len1 : (lv6.got 1).length = 128 := by decide +kernel
theorem lives_b0 : (u8s (lv6.got 0))[0]? = some (.int .u8 97) := by rfl
theorem lives_b1 : (u8s (lv6.got 1))[0]? = some (.int .u8 99) := by rfl

theorem r_lives {n : Nat} (H : Heap) : ∃ H', R (n + 6) n_law21Lives [] H = some (.bool true, H') ∧ HLe H H' := by
  obtain ⟨H1, own1, bs1, e1, h1, le1, o1⟩ := r_new (n := n + 4) (m := 2) (by omega) H
  have k0 : lv0.Ok := new_ok (by omega)
  have h1 : Dev H1 H.length lv0 own1 bs1 := h1
  obtain ⟨v2, H2, H3, own3, bs3, a2, a3, e3, h3, s3, b3, _⟩ := write1 (n := n) k0 h1 (by decide) (by decide) 0 97
  have k1 : lv1.Ok := k0.write (by decide)
  have h3 : Dev H3 H.length lv1 own3 bs3 := h3
  obtain ⟨H4, own4, e4, h4, s4⟩ := r_flush (n := n) k1 h3 (by decide +kernel)
  have k2 : lv2.Ok := k1.flush
  have h4 : Dev H4 H.length lv2 own4 bs3 := h4
  obtain ⟨v5, H5, H6, own6, bs6, a5, a6, e6, h6, s6, b6, _⟩ := write1 (n := n) k2 h4 (by decide +kernel) (by decide +kernel) 0 98
  have k3 : lv3.Ok := k2.write (by decide +kernel)
  have h6 : Dev H6 H.length lv3 own6 bs6 := h6
  obtain ⟨v7, H7, H8, own8, bs8, a7, a8, e8, h8, s8, b8, _⟩ := write1 (n := n) k3 h6 (by decide +kernel) (by decide +kernel) 1 99
  have k4 : lv4.Ok := k3.write (by decide +kernel)
  have h8 : Dev H8 H.length lv4 own8 bs8 := h8
  obtain ⟨H9, own9, e9, h9, s9⟩ := r_cut (n := n + 2) k4 h8 2
  have k5 : lv5.Ok := k4.cut 2
  have h9 : Dev H9 H.length lv5 own9 bs8 := h9
  have e10 := r_down (n := n + 4) h9
  obtain ⟨H11, e11, h11, s11, _⟩ := r_start (n := n + 4) h9
  have k6 : lv6.Ok := k5.start
  have h11 : Dev H11 H.length lv6 own9 bs8 := h11
  obtain ⟨H12, v12, q12, e12, r12, le12, o12⟩ := r_read (n := n + 1) k6 h11 0
  have h12 := h11.hle le12
  obtain ⟨H13, v13, q13, e13, r13, le13, o13⟩ := r_read (n := n + 1) k6 h12 1
  have r12' : RowS H13 v12 (u8s (lv6.got 0)) q12 := r12.step le13.step (by simp)
  have hs : Step own1 H1 own9 H13 := s3.trans (s4.trans (s6.trans (s8.trans (s9.trans (s11.trans ((le12.trans le13).step.more (by simp) fun j hj => .inl hj))))))
  have d10 : lv5.down = true := rfl
  have t0 : lv6.there 0 = 0 := rfl
  have t1 : lv6.there 1 = 0 := rfl
  rw [t0] at e12
  rw [t1] at e13
  have f1 : lenS v12 H13 = some (iv 128, H13) := by
    have := r12'.rd.len (H' := H13)
    rw [u8s_length, lives_len0] at this
    exact this
  have f2 : lenS v13 H13 = some (iv 128, H13) := by
    have := r13.rd.len (H' := H13)
    rw [u8s_length, lives_len1] at this
    exact this
  obtain ⟨p1, g1, g2⟩ := r12'.rd.ld (i := 0) lives_b0
  obtain ⟨p2, g3, g4⟩ := r13.rd.ld (i := 0) lives_b1
  refine ⟨H13, ?_, fun j o ho => ?_⟩
  · rw [R, run_law21Lives rfl]
    unfold F_law21Lives
    have e9 : R (n + 5) n_blockDeviceCut [pt H.length, .int .u64 2] H8 = some (.tuple #[], H9) := e9
    have a2 : bsl 1 1 (.int .u8 0) [(0, 1, .int .u8 97)] H1 = some (v2, H2) := a2
    have a5 : bsl 1 1 (.int .u8 0) [(0, 1, .int .u8 98)] H4 = some (v5, H5) := a5
    have a7 : bsl 1 1 (.int .u8 0) [(0, 1, .int .u8 99)] H6 = some (v7, H7) := a7
    have p0 : bop .ptr .eql (pt H.length) (.pointer none) H1 = some (.bool false, H1) := eqp_r
    rw [bind_eq e1, bind_eq p0, cnd_b, if_neg (by simp)]
    rw [bind_eq a2, bind_eq a3, bind_eq e3, bind_eq e4, bind_eq a5, bind_eq a6, bind_eq e6, bind_eq a7, bind_eq a8, bind_eq e8, bind_eq e9, bind_eq e10, bind_eq e11, bind_eq e12, bind_eq extr_p0, bind_eq extr_p1, bind_eq e13, bind_eq extr_p0, bind_eq extr_p1]
    have g1 : ixa 1 v12 (Value.int .i64 0) H13 = some (p1, H13) := g1 H13
    have g3 : ixa 1 v13 (Value.int .i64 0) H13 = some (p2, H13) := g3 H13
    simp only [d10, ↓bind_andk, andk_some, ↓jn_outk, outk_nrm, outk_ext, outk_ret, ↓cnd_b, ret_r, nilc_r, fa_r, ldOne_r, ldA_r, stOne_r, stA_r, rdk_r, rdkA_r, wrk_r, wrkA_r, alc_r, lenS_r, lenT_r, cvi_r, pick_r, not_r, mx_r, mn_r, ixa_r, ixaA_r, bld_r, add_r, sub_r, mul_r, quo_r, rem_r, eql_r, neq_r, lss_r, leq_r, gtr_r, geq_r, eqb_r, neb_r, eqp_r, nep_r, ↓gv_r, gvn_r, ↓g_r, gn_r, Bool.not_true, Bool.not_false, Bool.false_eq_true, Bool.true_eq_false, reduceIte, List.tail_cons, List.headD_cons, decide_true, decide_false, cond_true, cond_false, Nat.beq_refl, List.tail_cons, List.headD_cons, f1, f2, g1, g2, g3, g4, beq_self_eq_true]
  · have hj := get_lt ho
    have := le1.len
    rw [hs.keep j (by omega) fun hm => ?_]
    · exact le1 _ _ ho
    · have := o1 j (.inl hm); omega

end Go.Proofs.Ytahocinoohdagaa.A
