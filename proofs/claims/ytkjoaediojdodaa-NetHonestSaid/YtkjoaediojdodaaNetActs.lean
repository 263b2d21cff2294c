/- The acts that the laws of nets are given. -/
import Derived.Test.YtkjoaediojdodaaNetDo3
namespace Go.Proofs.Ytkjoaediojdodaa.A
set_option linter.unusedVariables false
set_option linter.unusedSimpArgs false
open Go.Proofs Go.Proofs.Ytkjoaediojdodaa

abbrev netActT : Ty := .struct (.pair (.int .u8) (.pair (.slc (.int .u8)) (.pair (.int .u64) (.pair (.int .u64) (.pair (.int .u32) .unit)))))

structure NAct where
  kd : Int
  b : Value
  i : Int
  at_ : Int
  t : Nat
  p : List UInt8

structure NAct.ok (a : NAct) (H : Heap) : Prop where
  bs : Sl H a.b (u8s a.p)
  i : 0 ≤ a.i ∧ a.i ≤ 18446744073709551615
  at_ : 0 ≤ a.at_ ∧ a.at_ ≤ 18446744073709551615
  t : a.t < 4294967296
  kd : 0 ≤ a.kd ∧ a.kd ≤ 255

abbrev NAct.cells (a : NAct) : List Value := actC a.kd a.b a.i a.at_ a.t

/-- A slice of acts. -/
def Acts (H : Heap) (sl : Value) (n : Nat) (f : Nat → NAct) : Prop :=
  ∃ ad c, sl = .slice ad n c ∧ (0 < n → ∃ lid cells es g ro, ad = some ⟨lid, 0, none⟩ ∧ H[lid]? = some (.cells cells es g ro) ∧ n * 5 ≤ cells.length ∧ ∀ j, j < n → (cells.drop (j * 5)).take 5 = (f j).cells ∧ (f j).ok H)

theorem rd_netAct {x : netActT.den} {H : Heap} {cs : List Value} (hw : netActT.wf x) (h : Rd netActT x H cs) : ∃ a : NAct, cs = a.cells ∧ a.ok H := by
  obtain ⟨k, y, i, a, t, u⟩ := x
  obtain ⟨h1, h2, h3, h4, h5, h6⟩ := h
  obtain ⟨w1, w2, w3, w4, w5, _⟩ := hw
  have h1 : cs.take 1 = [.int .u8 k] := h1
  have h2 : Rd (.slc (.int .u8)) y H ((cs.drop 1).take 1) := h2
  have h3 : ((cs.drop 1).drop 1).take 1 = [.int .u64 i] := h3
  have h4 : (((cs.drop 1).drop 1).drop 1).take 1 = [.int .u64 a] := h4
  have h5 : ((((cs.drop 1).drop 1).drop 1).drop 1).take 1 = [.int .u32 t] := h5
  have h6 : ((((cs.drop 1).drop 1).drop 1).drop 1).drop 1 = [] := h6
  match cs, h1, h2, h3, h4, h5, h6 with
  | [c1, c2, c3, c4, c5], h1, h2, h3, h4, h5, _ =>
    have h2 : Rd (.slc (.int .u8)) y H [c2] := h2
    obtain ⟨p, hp⟩ := rd_bytes w2 h2
    have w3 := wf_u64 w3
    have w4 := wf_u64 w4
    have w5 := wf_u32 w5
    have key : ∀ z : Int, 0 ≤ z ∧ z ≤ 4294967295 → [Value.int .u32 z] = [Value.int .u32 (z.toNat : Nat)] := fun z hz => by rw [Int.toNat_of_nonneg hz.1]
    refine ⟨⟨k, c2, i, a, Int.toNat t, p⟩, ?_, ⟨hp, w3, w4, ?_, wf_u8 w1⟩⟩
    · have e1 : c1 = .int .u8 k := by simpa using h1
      have e3 : c3 = .int .u64 i := by simpa using h3
      have e4 : c4 = .int .u64 a := by simpa using h4
      have e5 : [c5] = [Value.int .u32 t] := by simpa using h5
      have e5 : c5 = .int .u32 (Int.toNat t : Nat) := by
        have := e5.trans (key t w5)
        simpa using this
      rw [e1, e3, e4, e5]
    · have : ∀ z : Int, 0 ≤ z ∧ z ≤ 4294967295 → z.toNat < 4294967296 := fun z hz => by omega
      exact this t w5

theorem rd_netActs {x : (Ty.slc netActT).den} {H : Heap} {v : Value} (hwf : (Ty.slc netActT).wf x) (h : Rd (.slc netActT) x H [v]) : ∃ n f, Acts H v n f ∧ n ≤ 9223372036854775807 ∧ ∀ lid, own1 v = some lid → lid < H.length := by
  have hn0 : ∀ (sl : Value), (sl = .slice none 0 0 ∨ sl = .slice (some ⟨0, 0, some 1⟩) 0 0) → ∃ n f, Acts H sl n f ∧ n ≤ 9223372036854775807 ∧ ∀ lid, own1 sl = some lid → lid < H.length := by
    intro sl hs
    rcases hs with rfl | rfl
    · exact ⟨0, fun _ => ⟨0, undef, 0, 0, 0, []⟩, ⟨none, 0, rfl, fun h => by omega⟩, by omega, fun _ h => by cases h⟩
    · exact ⟨0, fun _ => ⟨0, undef, 0, 0, 0, []⟩, ⟨_, 0, rfl, fun h => by omega⟩, by omega, fun _ h => by cases h⟩
  rcases rd_slc h with h0 | h0 | ⟨l, n, c, id, cells, h0, hn, hid, hcl, hcs, a, b, hx, hl, hna⟩
  · exact hn0 v (.inl (by simpa using h0))
  · exact hn0 v (.inr (by simpa using h0))
  · have : v = .slice (some ⟨id, 0, none⟩) n c := by simpa using h0
    subst this
    have hsz : netActT.size = 5 := rfl
    rw [hsz] at hcl hcs hid
    have hall : ∀ j, ∃ a : NAct, j < n → (cells.drop (j * 5)).take 5 = a.cells ∧ a.ok H := by
      intro j
      by_cases hj : j < n
      · have hjl : j < l.length := by omega
        have hw : netActT.wf l[j] := by
          subst hx
          obtain ⟨w1, w2, _⟩ := hwf
          have : l[j] ∈ a ++ b := by rw [← hl]; exact List.getElem_mem hjl
          exact (List.mem_append.1 this).elim (w1 _) (w2 _)
        obtain ⟨a, h1, h2⟩ := rd_netAct hw (hcs j l[j] (List.getElem?_eq_getElem hjl))
        exact ⟨a, fun _ => ⟨h1, h2⟩⟩
      · exact ⟨⟨0, undef, 0, 0, 0, []⟩, fun h => absurd h hj⟩
    obtain ⟨f, hf⟩ := Classical.skolem.1 hall
    refine ⟨n, f, ⟨_, c, rfl, fun _ => ⟨id, cells, _, _, _, rfl, hid, by omega, hf⟩⟩, ?_, fun lid h => ?_⟩
    · subst hx
      have := hwf.2.2
      unfold maxLen at this
      omega
    cases h
    exact get_lt hid

section
variable {H H' : Heap} {sl : Value} {n : Nat} {f : Nat → NAct}

theorem Acts.len (h : Acts H sl n f) : lenS sl H' = some (iv n, H') := by
  obtain ⟨ad, c, rfl, _⟩ := h; rfl

theorem NAct.ok.mono {a : NAct} (h : a.ok H) (hl : HLe H H') : a.ok H' := ⟨h.bs.mono hl, h.i, h.at_, h.t, h.kd⟩

theorem Acts.mono (h : Acts H sl n f) (hl : HLe H H') : Acts H' sl n f := by
  obtain ⟨ad, c, rfl, h⟩ := h
  refine ⟨ad, c, rfl, fun hn => ?_⟩
  obtain ⟨lid, cells, es, g, ro, h1, h2, h3, h4⟩ := h hn
  exact ⟨lid, cells, es, g, ro, h1, hl _ _ h2, h3, fun j hj => ⟨(h4 j hj).1, (h4 j hj).2.mono hl⟩⟩

theorem Acts.ok (h : Acts H sl n f) {j : Nat} (hj : j < n) : (f j).ok H := by
  obtain ⟨ad, c, rfl, h⟩ := h
  obtain ⟨lid, cells, es, g, ro, h1, h2, h3, h4⟩ := h (by omega)
  exact (h4 j hj).2

/-- An act is fetched into a variable of its own. -/
theorem Acts.fetch {β : Type} {k : Value → M β} (h : Acts H sl n f) {j : Nat} (hj : j < n) :
    bind (ixa 5 sl (iv j)) (fun p => bind (ldA 5 p) fun v => bind (alc 1 (.agg #[.int .u8 0, .slice none 0 0, .int .u64 0, .int .u64 0, .int .u32 0])) fun q => bind (stA 5 q v) fun _ => k q) H = k (pt H.length) (H ++ [.cells (f j).cells 1 false false]) := by
  obtain ⟨ad, c, rfl, h⟩ := h
  obtain ⟨lid, cells, es, g, ro, rfl, h2, h3, h4⟩ := h (by omega)
  obtain ⟨h5, h6⟩ := h4 j hj
  exact A.fetch (zs := [.int .u8 0, .slice none 0 0, .int .u64 0, .int .u64 0, .int .u32 0]) h2 hj h5 (by omega) rfl rfl (by simp only [NAct.cells, actC, List.all_cons, h6.bs.oneC]; rfl)

theorem few_loop {m : Nat} {s0 : Value} {H0 : Heap} (h : Acts H0 sl n f) (hn : n ≤ 9223372036854775807) : ∀ (d j : Nat) {H : Heap}, n - j = d → j ≤ n → HLe H0 H →
    ∃ H', HLe H0 H' ∧ ((loopM (fun vs => F_law30Few.l1 (R m) (vs.headD undef) (vs.tail.headD undef) (vs.tail.tail.headD undef) (vs.tail.tail.tail.headD undef)) [s0, sl, iv n, iv j] H = some (.ret (.bool false), H')) ∨
      (loopM (fun vs => F_law30Few.l1 (R m) (vs.headD undef) (vs.tail.headD undef) (vs.tail.tail.headD undef) (vs.tail.tail.tail.headD undef)) [s0, sl, iv n, iv j] H = some (.ext 0 [s0], H') ∧ ∀ x, j ≤ x → x < n → (f x).p.length ≤ 100))
  | 0, j, H, hd, hj, hle => by
    have : j = n := by omega
    subst this
    refine ⟨H, hle, .inr ⟨loop_ext ?_, fun x h1 h2 => by omega⟩⟩
    simp [F_law30Few.l1, ↓bind_andk, andk_some, ↓jn_outk, outk_nrm, outk_ext, outk_ret, ↓cnd_b, ret_r, nilc_r, fa_r, ldOne_r, ldA_r, stOne_r, stA_r, rdk_r, rdkA_r, wrk_r, wrkA_r, alc_r, lenS_r, lenT_r, cvi_r, pick_r, not_r, mx_r, mn_r, ixa_r, ixaA_r, bld_r, add_r, sub_r, mul_r, quo_r, rem_r, eql_r, neq_r, lss_r, leq_r, gtr_r, geq_r, eqb_r, neb_r, eqp_r, nep_r, ↓gv_r, gvn_r, ↓g_r, gn_r]
  | d + 1, j, H, hd, hj, hle => by
    have hjn : j < n := by omega
    have hlt : (j : Int) < n := by omega
    have hw : IntKind.i64.wrap ((j : Int) + 1) = ((j + 1 : Nat) : Int) := by rw [w64 (by omega) (by omega)]; simp
    have e0 : bop .int .lss (iv j) (iv n) H = some (.bool true, H) := by rw [lss_r, decide_eq_true hlt]
    have hb := (h.ok hjn).bs
    have e1 : ∀ X, lenS (f j).b X = some (iv (f j).p.length, X) := fun X => by
      have := hb.len (H' := X)
      rwa [u8s_length] at this
    have g1 : (H ++ [AObj.cells (f j).cells 1 false false])[H.length]? = some (.cells (f j).cells 1 false false) := app_new
    have l1 : ld1 (pa H.length 1) (H ++ [.cells (f j).cells 1 false false]) = some ((f j).b, H ++ [.cells (f j).cells 1 false false]) := ld1_at g1 rfl
    have k1 := hle.trans (HLe.app H [.cells (f j).cells 1 false false])
    by_cases h100 : (f j).p.length > 100
    · have h100' : ((f j).p.length : Int) > 100 := by omega
      refine ⟨_, k1, .inl (loop_ret ?_)⟩
      simp only [List.headD_cons, List.tail_cons]
      unfold F_law30Few.l1
      rw [bind_eq e0, c_true, (h.mono hle).fetch hjn, bind_eq fa_z, bind_eq l1, bind_eq (e1 _), bind_eq gtr_r, decide_eq_true h100', c_true]
      rfl
    · have h100' : ¬ ((f j).p.length : Int) > 100 := by omega
      have hr : F_law30Few.l1 (R m) s0 sl (iv n) (iv j) H = some (.nrm [s0, sl, iv n, iv ((j + 1 : Nat) : Int)], H ++ [.cells (f j).cells 1 false false]) := by
        unfold F_law30Few.l1
        rw [bind_eq e0, c_true, (h.mono hle).fetch hjn, bind_eq fa_z, bind_eq l1, bind_eq (e1 _), bind_eq gtr_r, decide_eq_false h100', c_false, bind_eq add_r, hw]
        rfl
      obtain ⟨H2, k2, h2⟩ := few_loop (m := m) (s0 := s0) h hn d (j + 1) (by omega) (by omega) k1
      refine ⟨H2, k2, h2.imp (loop_next hr).trans fun h => ⟨(loop_next hr).trans h.1, fun x h1 h3 => ?_⟩⟩
      by_cases hx : x = j
      · subst hx; omega
      · exact h.2 x (by omega) h3

theorem r_few {m : Nat} (h : Acts H sl n f) (hn : n ≤ 9223372036854775807) : ∃ H' ok, R (m + 1) n_law30Few [sl] H = some (.bool ok, H') ∧ HLe H H' ∧ (ok = true → n ≤ 40 ∧ ∀ x, x < n → (f x).p.length ≤ 100) := by
  obtain ⟨H', k, h2⟩ := few_loop (m := m) (s0 := sl) h hn n 0 (by omega) (by omega) (.refl _)
  rw [show ((0 : Nat) : Int) = 0 from rfl] at h2
  rcases h2 with e | ⟨e, hp⟩
  · refine ⟨H', false, ?_, k, fun h => by cases h⟩
    rw [R, run_law30Few rfl]
    unfold F_law30Few
    rw [bind_eq h.len, jn_ret e]
    rfl
  · refine ⟨H', decide ((n : Int) ≤ 40), ?_, k, fun hk => ⟨by have := of_decide_eq_true hk; omega, fun x hx => hp x (by omega) hx⟩⟩
    rw [R, run_law30Few rfl]
    unfold F_law30Few
    rw [bind_eq h.len, jn_ext e]
    simp only [Nat.beq_refl, cond_true, List.headD_cons]
    rw [bind_eq h.len, bind_eq leq_r]
    rfl
end

end Go.Proofs.Ytkjoaediojdodaa.A
