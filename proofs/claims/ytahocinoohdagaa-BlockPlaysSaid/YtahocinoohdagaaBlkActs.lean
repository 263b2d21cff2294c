/- The acts that the laws of blocks are given. -/
import Derived.Test.YtahocinoohdagaaBlkLives
import Derived.Test.YtahocinoohdagaaA28
namespace Go.Proofs.Ytahocinoohdagaa.A
set_option linter.unusedVariables false
set_option linter.unusedSimpArgs false
open Go.Proofs Go.Proofs.Ytahocinoohdagaa

abbrev blkActT : Ty := .struct (.pair (.int .u8) (.pair (.int .i64) (.pair (.slc (.int .u8)) (.pair (.int .u64) .unit))))

structure BAct where
  kd : Nat
  i : Int
  b : Value
  m : Nat
  p : List UInt8

abbrev BAct.cells (a : BAct) : List Value := [.int .u8 a.kd, iv a.i, a.b, .int .u64 a.m]

structure BAct.ok (H : Heap) (a : BAct) : Prop where
  bs : Sl H a.b (u8s a.p)
  i : -9223372036854775808 ≤ a.i ∧ a.i ≤ 9223372036854775807
  kd : a.kd ≤ 255
  mm : a.m < 18446744073709551616

theorem BAct.ok.mono {H H' : Heap} {a : BAct} (h : a.ok H) (hl : HLe H H') : a.ok H' := ⟨h.bs.mono hl, h.i, h.kd, h.mm⟩

theorem rd_blkAct {x : blkActT.den} {H : Heap} {cs : List Value} (hw : blkActT.wf x) (h : Rd blkActT x H cs) : ∃ a : BAct, cs = a.cells ∧ a.ok H := by
  obtain ⟨k, i, y, m, u⟩ := x
  obtain ⟨h1, h2, h3, h4, h5⟩ := h
  obtain ⟨w1, w2, w3, w4, _⟩ := hw
  have h1 : cs.take 1 = [.int .u8 k] := h1
  have h2 : (cs.drop 1).take 1 = [.int .i64 i] := h2
  have h3 : Rd (.slc (.int .u8)) y H (((cs.drop 1).drop 1).take 1) := h3
  have h4 : (((cs.drop 1).drop 1).drop 1).take 1 = [.int .u64 m] := h4
  have h5 : (((cs.drop 1).drop 1).drop 1).drop 1 = [] := h5
  match cs, h1, h2, h3, h4, h5 with
  | [c1, c2, c3, c4], h1, h2, h3, h4, _ =>
    have h3 : Rd (.slc (.int .u8)) y H [c3] := h3
    obtain ⟨p, hp⟩ := rd_bytes w3 h3
    have w1 := wf_u8 w1
    have w2 := wf_i64 w2
    have w4 := wf_u64 w4
    have key : ∀ (q : IntKind) (z : Int), 0 ≤ z → [Value.int q z] = [Value.int q (z.toNat : Nat)] := fun q z hz => by rw [Int.toNat_of_nonneg hz]
    refine ⟨⟨Int.toNat k, i, c3, Int.toNat m, p⟩, ?_, ⟨hp, w2, ?_, ?_⟩⟩
    · have e1 : [c1] = [Value.int .u8 (Int.toNat k : Nat)] := Eq.trans (by simpa using h1) (key .u8 k w1.1)
      have e2 : c2 = .int .i64 i := by simpa using h2
      have e4 : [c4] = [Value.int .u64 (Int.toNat m : Nat)] := Eq.trans (by simpa using h4) (key .u64 m w4.1)
      have e1 : c1 = Value.int .u8 (Int.toNat k : Nat) := by simpa using e1
      have e4 : c4 = Value.int .u64 (Int.toNat m : Nat) := by simpa using e4
      rw [e1, e2, e4]
    · have : ∀ z : Int, 0 ≤ z ∧ z ≤ 255 → z.toNat ≤ 255 := fun z hz => by omega
      exact this k w1
    · have : ∀ z : Int, 0 ≤ z ∧ z ≤ 18446744073709551615 → z.toNat < 18446744073709551616 := fun z hz => by omega
      exact this m w4

/-- A slice of acts. -/
def BActs (H : Heap) (sl : Value) (ac : List BAct) : Prop := SlN 4 H sl (ac.map BAct.cells) ∧ ∀ a ∈ ac, a.ok H

theorem rd_blkActs {x : (Ty.slc blkActT).den} {H : Heap} {v : Value} (hwf : (Ty.slc blkActT).wf x) (h : Rd (.slc blkActT) x H [v]) : ∃ ac, BActs H v ac ∧ ac.length ≤ 9223372036854775807 := by
  obtain ⟨rows, h1, h2, h3, h4⟩ := rd_rows hwf h
  obtain ⟨ac, h5, h6⟩ := choose_map (f := BAct.cells) (Q := fun _ a => a.ok H) (rows := rows) fun r hr => by
    obtain ⟨y, hy, hr⟩ := h2 r hr
    exact rd_blkAct hy hr
  subst h5
  exact ⟨ac, ⟨h1, h6⟩, by simpa using h3⟩

section
variable {H H' : Heap} {sl : Value} {ac : List BAct}

theorem BActs.len (h : BActs H sl ac) : lenS sl H' = some (iv ac.length, H') := by
  have := h.1.len (H' := H')
  rwa [List.length_map] at this

theorem BActs.mono (h : BActs H sl ac) (hl : HLe H H') : BActs H' sl ac := ⟨h.1.mono hl, fun a ha => (h.2 a ha).mono hl⟩

/-- An act is fetched into a variable of its own. -/
theorem BActs.fetch {β : Type} {k : Value → M β} (h : BActs H sl ac) {j : Nat} {a : BAct} (hj : ac[j]? = some a) :
    bind (ixa 4 sl (iv j)) (fun p => bind (ldA 4 p) fun v => bind (alc 1 (.agg #[.int .u8 0, .int .i64 0, .slice none 0 0, .int .u64 0])) fun q => bind (stA 4 q v) fun _ => k q) H = k (pt H.length) (H ++ [.cells a.cells 1 false false]) := by
  have hr : (ac.map BAct.cells)[j]? = some a.cells := by rw [List.getElem?_map, hj]; rfl
  have hb := (h.2 a (List.mem_of_getElem? hj)).bs.oneC.1
  rw [h.1.fetch hr (by omega) .i64]
  exact box_a (n := 4) (zs := [.int .u8 0, .int .i64 0, .slice none 0 0, .int .u64 0]) (r := a.cells) rfl rfl rfl (by simp only [BAct.cells, List.all_cons, hb]; rfl)

theorem few_loop {m : Nat} {s0 : Value} {H0 : Heap} (h : BActs H0 sl ac) (hn : ac.length ≤ 9223372036854775807) : ∀ (d j : Nat) {H : Heap}, ac.length - j = d → j ≤ ac.length → HLe H0 H →
    ∃ H', HLe H0 H' ∧ ((loopM (fun vs => F_law21Few.l1 (R m) (vs.headD undef) (vs.tail.headD undef) (vs.tail.tail.headD undef) (vs.tail.tail.tail.headD undef)) [s0, sl, iv ac.length, iv j] H = some (.ret (.bool false), H')) ∨
      (loopM (fun vs => F_law21Few.l1 (R m) (vs.headD undef) (vs.tail.headD undef) (vs.tail.tail.headD undef) (vs.tail.tail.tail.headD undef)) [s0, sl, iv ac.length, iv j] H = some (.ext 0 [s0], H') ∧ ∀ x a, j ≤ x → ac[x]? = some a → a.p.length ≤ 200))
  | 0, j, H, hd, hj, hle => by
    have : j = ac.length := by omega
    subst this
    refine ⟨H, hle, .inr ⟨loop_ext ?_, fun x a h1 h2 => by have := (List.getElem?_eq_some_iff.1 h2).1; omega⟩⟩
    simp only [F_law21Few.l1, List.headD_cons, List.tail_cons]
    rw [bind_eq lss_r, cnd_b, if_neg (by simp)]
    rfl
  | d + 1, j, H, hd, hj, hle => by
    have hjn : j < ac.length := by omega
    have hlt : (j : Int) < ac.length := by omega
    have hw : IntKind.i64.wrap ((j : Int) + 1) = ((j + 1 : Nat) : Int) := by rw [w64 (by omega) (by omega)]; simp
    have hja := List.getElem?_eq_getElem hjn
    generalize ac[j] = a at hja
    have hb := ((h.mono hle).2 a (List.mem_of_getElem? hja)).bs
    have e1 : ∀ X, lenS a.b X = some (iv a.p.length, X) := fun X => by
      have := hb.len (H' := X)
      rwa [u8s_length] at this
    have g1 : (H ++ [AObj.cells a.cells 1 false false])[H.length]? = some (.cells a.cells 1 false false) := app_new
    have l1 : ld1 (pa H.length 2) (H ++ [.cells a.cells 1 false false]) = some (a.b, H ++ [.cells a.cells 1 false false]) := ld1_at g1 rfl
    have k1 := hle.trans (HLe.app H [.cells a.cells 1 false false])
    by_cases h100 : a.p.length > 200
    · have h100' : (a.p.length : Int) > 200 := by omega
      refine ⟨_, k1, .inl (loop_ret ?_)⟩
      simp only [List.headD_cons, List.tail_cons]
      unfold F_law21Few.l1
      rw [bind_eq lss_r, cnd_b, if_pos (by simpa using hlt), (h.mono hle).fetch hja, bind_eq fa_z, bind_eq l1, bind_eq (e1 _), bind_eq gtr_r, cnd_b, if_pos (by simpa using h100')]
      rfl
    · have h100' : ¬ (a.p.length : Int) > 200 := by omega
      have hr : F_law21Few.l1 (R m) s0 sl (iv ac.length) (iv j) H = some (.nrm [s0, sl, iv ac.length, iv ((j + 1 : Nat) : Int)], H ++ [.cells a.cells 1 false false]) := by
        unfold F_law21Few.l1
        rw [bind_eq lss_r, cnd_b, if_pos (by simpa using hlt), (h.mono hle).fetch hja, bind_eq fa_z, bind_eq l1, bind_eq (e1 _), bind_eq gtr_r, cnd_b, if_neg (by simpa using h100'), bind_eq add_r, hw]
        rfl
      obtain ⟨H2, k2, h2⟩ := few_loop (m := m) (s0 := s0) h hn d (j + 1) (by omega) (by omega) k1
      refine ⟨H2, k2, h2.imp (loop_next hr).trans fun h => ⟨(loop_next hr).trans h.1, fun x a' h1 h3 => ?_⟩⟩
      by_cases hx : x = j
      · subst hx
        rw [hja] at h3; cases h3
        omega
      · exact h.2 x a' (by omega) h3

theorem r_few {m : Nat} (h : BActs H sl ac) (hn : ac.length ≤ 9223372036854775807) : ∃ H' ok, R (m + 1) n_law21Few [sl] H = some (.bool ok, H') ∧ HLe H H' ∧ (ok = true → ac.length ≤ 60 ∧ ∀ a ∈ ac, a.p.length ≤ 200) := by
  obtain ⟨H', k, h2⟩ := few_loop (m := m) (s0 := sl) h hn ac.length 0 (by omega) (by omega) (.refl _)
  rw [show ((0 : Nat) : Int) = 0 from rfl] at h2
  rcases h2 with e | ⟨e, hp⟩
  · refine ⟨H', false, ?_, k, fun h => by cases h⟩
    rw [R, run_law21Few rfl]
    unfold F_law21Few
    rw [bind_eq h.len, jn_ret e]
    rfl
  · refine ⟨H', decide ((ac.length : Int) ≤ 60), ?_, k, fun hk => ⟨by have := of_decide_eq_true hk; omega, fun a ha => ?_⟩⟩
    · rw [R, run_law21Few rfl]
      unfold F_law21Few
      rw [bind_eq h.len, jn_ext e]
      simp only [Nat.beq_refl, cond_true, List.headD_cons]
      rw [bind_eq h.len, bind_eq leq_r]
      rfl
    · obtain ⟨x, hx, rfl⟩ := List.getElem_of_mem ha
      exact hp x _ (by omega) (List.getElem?_eq_getElem hx)

end

end Go.Proofs.Ytahocinoohdagaa.A
