/- A directory as bytes: it is written. -/
import Derived.Test.YtlpibiaokpbhbaaGreatDoorRdr
import Derived.Test.YtlpibiaokpbhbaaGreatDoorSameU
namespace Go.Proofs.YtlpibiaokpbhbaaGreatDoor.A
set_option linter.unusedVariables false
set_option linter.unusedSimpArgs false
open Go.Proofs Go.Proofs.YtlpibiaokpbhbaaGreatDoor

/-- What is wrong with a name and its sum. -/
def errE (e : Ent) : Nat := if nameB e.1 then (if sumB e.2 then 0 else 4) else 10
/-- A user that has no more than these. -/
def usrA (e : Ent) : UsrA := ⟨e.1, e.2, [], false, .slice none 0 0, []⟩
def entB (e : Ent) : List UInt8 := txt e.1 ++ txt e.2
def entsB (m : List Ent) : List UInt8 := (m.map entB).flatten
def encB (m : List Ent) : List UInt8 := le 1 1 ++ (le m.length 2 ++ entsB m)

theorem usrA_ok (e : Ent) (H : Heap) : (usrA e).ok H := .inl ⟨rfl, .inl rfl⟩
theorem errU_usrA (e : Ent) : errU (usrA e) = errE e := by
  unfold errU errE
  have : plainU (usrA e) = true := rfl
  rw [this]
  show (if nameB e.1 = true then if sumB e.2 = true then _ else _ else _) = _
  split
  · split <;> rfl
  · rfl
theorem pair_usrA (e : Ent) : pairU (usrA e) = e := rfl
theorem sum_len {k : List UInt8} (h : sumB k = true) : k.length ≤ 12 := by
  unfold sumB at h
  simp only [Bool.and_eq_true, decide_eq_true_eq] at h
  exact h.1.2
theorem errE_0 {e : Ent} : errE e = 0 ↔ nameB e.1 = true ∧ sumB e.2 = true := by
  unfold errE
  cases nameB e.1 <;> cases sumB e.2 <;> simp
theorem txt_len {s : List UInt8} : (txt s).length = s.length + 2 := by unfold txt; rw [List.length_append, le_len]; omega
theorem entB_len {e : Ent} (h : errE e = 0) : (entB e).length ≤ 28 := by
  have h1 := name_len (errE_0.1 h).1
  have h2 := sum_len (errE_0.1 h).2
  unfold entB
  rw [List.length_append, txt_len, txt_len]; omega

section
variable {H X : Heap} {n p d b : Nat} {sl x v : Value} {own q : List Nat} {bs : List UInt8} {m : List Ent} {e : Ent}

theorem r_put (he : errE e = 0) (hb : bs.length ≤ 100000000) (h : Wtr H p bs own) : ∃ H' own', R (n + 7) n_userPut [pt p, iv 1, .agg (usr e).toArray] H = some (.bool true, H') ∧ Wtr H' p (bs ++ entB e) own' ∧ Step (p :: own) H (p :: own') H' := by
  have h1 := name_len (errE_0.1 he).1
  have h2 := sum_len (errE_0.1 he).2
  have e1 : alc 1 (.agg (usr e).toArray) H = some (pt H.length, H ++ [.cells (usr e) 1 false false]) := alc_u (usrA_ok e H)
  have k1 : HLe H (H ++ [.cells (usr e) 1 false false]) := .app _ _
  have c1 : (H ++ [AObj.cells (usr e) 1 false false])[H.length]? = some (.cells (usr e) 1 false false) := app_new
  have hne : H.length ∉ p :: own := fun hm => Nat.lt_irrefl _ (h.lt _ hm)
  generalize H ++ [AObj.cells (usr e) 1 false false] = X1 at e1 k1 c1
  generalize H.length = w at e1 c1 hne
  have d1 : ldA 5 (pt w) X1 = some (.agg (usr e).toArray, X1) := ldA_at (n := 5) c1 rfl
  obtain ⟨X2, e2, k2⟩ := r_userCheck (n := n) (usrA_ok e X1)
  rw [errU_usrA, he] at e2
  have e2 : R (n + 6) n_userCheck [iv 1, .agg (usr e).toArray] X1 = some (iv 0, X2) := e2
  have c2 := k2 _ _ c1
  have q1 : bop .int .neq (iv 0) (.int .i64 0) X2 = some (.bool false, X2) := by rw [neq_r]; rfl
  have a0 : ld1 (pa w 0) X2 = some (strv e.1, X2) := ld1_at c2 rfl
  have a1 : ld1 (pa w 1) X2 = some (strv e.2, X2) := ld1_at c2 rfl
  have w2 := (h.hle k1).hle k2
  obtain ⟨X3, q3, e3, w3, s3⟩ := r_wtext (n := n + 3) (s := e.1) (by omega) (by omega) w2
  have e3 : R (n + 6) n_octetWriterText [pt p, strv e.1] X2 = _ := e3
  have b1 : ld1 (pa w 1) X3 = some (strv e.2, X3) := ld1_at (s3.get c2 hne) rfl
  obtain ⟨X4, q4, e4, w4, s4⟩ := r_wtext (n := n + 3) (s := e.2) (by omega) (by rw [List.length_append, txt_len]; omega) w3
  have e4 : R (n + 6) n_octetWriterText [pt p, strv e.2] X3 = _ := e4
  have q2 : bop .int .eql (iv 1) (.int .i64 2) X4 = some (.bool false, X4) := by rw [eql_r]; rfl
  rw [List.append_assoc] at w4
  refine ⟨X4, q4, ?_, w4, ((k1.trans k2).step.more (by simp) (fun j hj => .inl hj)).trans (s3.trans s4)⟩
  rw [R, run_userPut rfl]
  unfold F_userPut
  rw [bind_eq e1, bind_eq d1, bind_eq e2, bind_eq q1, cnd_b, if_neg (by simp), bind_eq fa_z, bind_eq a0, bind_eq fa_z, bind_eq a1, bind_eq e3, bind_eq b1, same_self, bind_eq e4, bind_eq q2]
  refine (jn_nrm (vs := []) (H' := X4) ?_).trans ?_
  · rw [cnd_b, if_neg (by simp)]; rfl
  · rfl

theorem RowN.users (hr : RowN 5 H v (m.map usr) q) : Users H v (m.map usrA) :=
  ⟨by have h := hr.rd; rw [List.map_map]; exact h, fun u hu => by obtain ⟨e, _, rfl⟩ := List.mem_map.1 hu; exact usrA_ok e H⟩

/-- Each is written. -/
theorem put_do (hA : m.length ≤ 1000) (hE : ∀ e ∈ m, errE e = 0) : ∀ (t k : Nat) (bs : List UInt8) (own : List Nat) (X : Heap), m.length - k = t → k ≤ m.length → RowN 5 X v (m.map usr) q → (∀ j ∈ q, j ∉ p :: own) → bs.length + t * 28 ≤ 100000 → Wtr X p bs own →
    ∃ X' own', loopM (c4 (F_shotBytes.l1 (R (n + 7)))) [pt p, v, iv m.length, iv k] X = some (.ext 0 [pt p], X') ∧ Wtr X' p (bs ++ entsB (m.drop k)) own' ∧ Step (p :: own) X (p :: own') X'
  | 0, k, bs, own, X, ht, hk, hr, hd, hb, h => by
    have : k = m.length := by omega
    subst this
    rw [List.drop_length]
    refine ⟨X, own, loop_ext ?_, by simpa [entsB] using h, .refl _ _⟩
    rw [c4_r]
    unfold F_shotBytes.l1
    rw [bind_eq lss_r, cnd_b, if_neg (by simp)]
    rfl
  | t + 1, k, bs, own, X, ht, hk, hr, hd, hb, h => by
    have hkl : k < m.length := by omega
    have hlt : (k : Int) < m.length := by omega
    have hg := List.getElem?_eq_getElem hkl
    have hdr := List.drop_eq_getElem_cons hkl
    generalize m[k] = e at hg hdr
    have he := hE e (List.mem_of_getElem? hg)
    have hrow : (m.map usrA)[k]? = some (usrA e) := by rw [List.getElem?_map, hg]; rfl
    have hf := fun {K : Value → M Out} => (hr.users).fetch (k := K) hrow
    have k1 : HLe X (X ++ [AObj.cells (usr e) 1 false false]) := .app _ _
    have c1 : (X ++ [AObj.cells (usr e) 1 false false])[X.length]? = some (.cells (usr e) 1 false false) := app_new
    change ∀ {K : Value → M Out}, _ = K _ (X ++ [AObj.cells (usr e) 1 false false]) at hf
    generalize X ++ [AObj.cells (usr e) 1 false false] = X1 at k1 c1 hf
    have d1 : ldA 5 (pt X.length) X1 = some (.agg (usr e).toArray, X1) := ldA_at (n := 5) c1 rfl
    obtain ⟨X2, own2, e2, w2, s2⟩ := r_put (n := n) he (by omega) (h.hle k1)
    have hel := entB_len he
    have s12 := (k1.step.more (o2 := p :: own) (o2' := p :: own) (by simp) (fun j hj => .inl hj)).trans s2
    have hr2 := hr.step s12 hd
    have hd2 : ∀ j ∈ q, j ∉ p :: own2 := fun j hj hm => by
      rcases s12.own j hm with h1 | h1
      · exact hd j hj h1
      · have := hr.lt j hj; omega
    obtain ⟨X3, own3, e3, w3, s3⟩ := put_do hA hE t (k + 1) (bs ++ entB e) own2 X2 (by omega) (by omega) hr2 hd2 (by rw [List.length_append]; omega) w2
    refine ⟨X3, own3, (loop_next ?_).trans e3, ?_, s12.trans s3⟩
    · rw [c4_r]
      unfold F_shotBytes.l1
      rw [bind_eq lss_r, cnd_b, if_pos (by simpa using hlt)]
      rw [hf, bind_eq d1, bind_eq e2, bind_eq add_r, wsuc (by omega)]
      rfl
    · rw [hdr]
      unfold entsB at w3 ⊢
      rw [List.map_cons, List.flatten_cons, ← List.append_assoc]
      exact w3

theorem r_shotBytes (h : Dir H d b m) (hE : ∀ e ∈ sortM m, errE e = 0) (hl : (sortM m).length = m.length) : ∃ v H', R (n + 8) n_shotBytes [pt d] H = some (v, H') ∧ Sl H' v (u8s (encB (sortM m))) ∧ HLe H H' := by
  have q0 : bop .ptr .eql (pt d) (.pointer none) H = some (.bool false, H) := eqp_r
  obtain ⟨z1, z2, w0⟩ := wtr_new (H := H)
  have k0 : HLe H (H ++ [AObj.cells [.slice none 0 0] 1 false false]) := .app _ _
  have hp0 : H.length ≤ H.length := Nat.le_refl _
  generalize H ++ [AObj.cells [.slice none 0 0] 1 false false] = X0 at z2 w0 k0
  generalize hpp : H.length = p at z2 w0
  have hp : ∀ j ∈ [p], H.length ≤ j := fun j hj => by have : j = p := by simpa using hj
                                                      omega
  have hfew := h.few
  obtain ⟨X1, q1, e1, w1, s1⟩ := r_wbyte (n := n + 5) (x := 1) (by omega) (by simp) w0
  have e1 : R (n + 7) n_octetWriterByte [pt p, .int .u8 1] X0 = _ := e1
  have m1 := k0.more s1 hp
  have e2 := r_len (n := n + 6) (h.hle m1.1)
  have e2 : R (n + 7) n_elderDirLen [pt d] X1 = some (iv m.length, X1) := e2
  have c2 : cvi .u16 (iv m.length) X1 = some (.int .u16 m.length, X1) := by rw [cvi_r, wu16, Int.emod_eq_of_lt (by omega) (by omega)]
  obtain ⟨X2, q2, e3, w2, s2⟩ := r_wtwo (n := n + 5) (x := m.length) (by omega) (by simp [le]) w1
  have e3 : R (n + 7) n_octetWriterTwo [pt p, .int .u16 m.length] X1 = _ := e3
  have m2 := m1.1.more s2 m1.2
  obtain ⟨av, qa, X3, e4, r4, l4, o4⟩ := r_eldAll (n := n + 4) (h.hle m2.1)
  have e4 : R (n + 7) n_elderDirAll [pt d] X2 = _ := e4
  have w3 := w2.hle l4
  have hlen := r4.rd.len (H' := X3)
  rw [List.length_map] at hlen
  have hlb : ([] ++ le 1 1 ++ le m.length 2 : List UInt8).length = 3 := by simp [le]
  obtain ⟨X4, q4, e5, w4, s4⟩ := put_do (n := n) (m := sortM m) (by omega) hE (sortM m).length 0 ([] ++ le 1 1 ++ le m.length 2) q2 X3 (by omega) (by omega) r4 (fun j hj hm => by have := o4 j hj; have := w2.lt j hm; omega) (by rw [hlb]; omega) w3
  have e5 : loopM (c4 (F_shotBytes.l1 (R (n + 7)))) [pt p, av, iv (sortM m).length, .int .i64 0] X3 = _ := e5
  rw [List.drop_zero] at w4
  have hbl : ([] ++ le 1 1 ++ le m.length 2 ++ entsB (sortM m) : List UInt8).length ≤ 1000000000 := by
    have : ∀ (l : List Ent), (∀ e ∈ l, errE e = 0) → (entsB l).length ≤ l.length * 28 := by
      intro l
      induction l with
      | nil => intro _; exact Nat.zero_le _
      | cons a l ih =>
        intro hh
        have h1 := entB_len (hh a (by simp))
        have h2 := ih fun e he => hh e (by simp [he])
        unfold entsB at h2 ⊢
        rw [List.map_cons, List.flatten_cons, List.length_append, List.length_cons]; omega
    have := this _ hE
    rw [List.length_append, hlb]; omega
  have m4 := (m2.1.trans l4).more s4 m2.2
  obtain ⟨v, qv, X5, e6, r6, l6, o6⟩ := r_wbytes (n := n + 5) hbl w4
  have e6 : R (n + 7) n_octetWriterBytes [pt p] X4 = _ := e6
  refine ⟨v, X5, ?_, ?_, m4.1.trans l6⟩
  · rw [R, run_shotBytes rfl]
    unfold F_shotBytes
    rw [bind_eq q0, cnd_b, if_neg (by simp), bind_eq z1, bind_eq z2, bind_eq e1, bind_eq e2, bind_eq c2, bind_eq e3, bind_eq e4, bind_eq hlen, jn_ext e5, xk_hit, c1_r, bind_eq e6]
    rfl
  · have := r6.rd
    unfold encB
    rw [hl]
    simpa [List.append_assoc] using this

end

end Go.Proofs.YtlpibiaokpbhbaaGreatDoor.A

/- A directory as bytes: it is read. -/
namespace Go.Proofs.YtlpibiaokpbhbaaGreatDoor.A
set_option linter.unusedVariables false
set_option linter.unusedSimpArgs false
open Go.Proofs Go.Proofs.YtlpibiaokpbhbaaGreatDoor

/-- The next user, and what is left. -/
def getF (u : Ent) (r : RSt) : Ent × RSt :=
  let r' := if r.1 = 0 then failS (errE u) r else r
  (if r'.1 = 0 then u else ([], []), r')
def getS (s : RSt) : Ent × RSt := getF ((textS 65535 s).1, (textS 65535 (textS 65535 s).2).1) (textS 65535 (textS 65535 s).2).2
def getsS : Nat → RSt → List Ent × RSt
  | 0, s => ([], s)
  | k + 1, s => ((getS s).1 :: (getsS k (getS s).2).1, (getsS k (getS s).2).2)

/-- What is wrong with users, as all of a directory. -/
def ofN (l : List Ent) : Nat := (ofE (l.map usrA)).toNat
def readS (bs : List UInt8) : Nat × List Ent :=
  let b := numS 1 (0, bs)
  if b.2.1 = 0 ∧ b.1 ≠ 1 then (6, []) else
  let c := numS 2 b.2
  let q := if c.1 > 12 then ([], failS 7 c.2) else getsS c.1 c.2
  if q.2.1 ≠ 0 then (q.2.1, []) else
  let e := if ofN q.1 = 0 then endS q.2 else ofN q.1
  if e ≠ 0 then (e, []) else (0, q.1)

theorem errE_le (e : Ent) : errE e ≤ 10 := by
  unfold errE
  split
  · split <;> omega
  · omega

theorem firstU_nn : ∀ {l : List Ent}, 0 ≤ firstU (l.map usrA)
  | [] => Int.le_refl _
  | e :: l => by
    rw [List.map_cons]
    unfold firstU
    split
    · exact firstU_nn
    · rw [errU_usrA]; omega

theorem ofE_nn {l : List Ent} : 0 ≤ ofE (l.map usrA) := by
  unfold ofE
  have := firstU_nn (l := l)
  split
  · split
    · split <;> decide
    · decide
  · exact this

theorem nz_beq (k : Nat) : ((k : Int) == 0) = (k == 0) := by rw [Bool.eq_iff_iff]; simp
theorem nz_bne (k : Nat) : ((k : Int) != 0) = (k != 0) := by rw [Bool.eq_iff_iff]; simp

theorem ofE_N (l : List Ent) : ofE (l.map usrA) = ofN l := (Int.toNat_of_nonneg ofE_nn).symm

section
variable {H X : Heap} {n p d b : Nat} {sl x v : Value} {own q : List Nat} {bs : List UInt8} {m : List Ent} {e : Ent} {s : RSt}

theorem r_get (h : Rdr H p s) : ∃ H', R (n + 7) n_userGet [pt p, iv 1] H = some (.agg (usr (getS s).1).toArray, H') ∧ Rdr H' p (getS s).2 ∧ Step [p] H [p] H' := by
  have z0 : alc 1 (.agg #[.string ⟨#[]⟩, .string ⟨#[]⟩, .string ⟨#[]⟩, .bool false, .slice none 0 0]) H = some (pt H.length, H ++ [.cells (usr ([], [])) 1 false false]) := alc_a (vs := usr ([], [])) rfl
  have k0 : HLe H (H ++ [.cells (usr ([], [])) 1 false false]) := .app _ _
  have c0 : (H ++ [AObj.cells (usr ([], [])) 1 false false])[H.length]? = some (.cells (usr ([], [])) 1 false false) := app_new
  have hlt := h.lt
  have hn0 : H.length ≠ p := by omega
  generalize H ++ [AObj.cells (usr ([], [])) 1 false false] = X0 at z0 k0 c0
  have hlt4 : p < H.length := hlt
  generalize hal : H.length = a at z0 c0 hn0 hlt4
  have q1 : bop .int .neq (iv 1) (.int .i64 1) X0 = some (.bool false, X0) := by rw [neq_r]; rfl
  obtain ⟨X1, e1, r1, s1⟩ := r_text (n := n) (most := 65535) (by omega) (h.hle k0)
  have e1 : R (n + 6) n_octetReaderText [pt p, .int .i64 65535] X0 = _ := e1
  obtain ⟨X2, e2, r2, s2⟩ := r_text (n := n) (most := 65535) (by omega) r1
  have e2 : R (n + 6) n_octetReaderText [pt p, .int .i64 65535] X1 = _ := e2
  have c2 := (s1.trans s2).get c0 (by simpa using hn0)
  unfold getS
  generalize (textS 65535 (textS 65535 s).2).2 = r at r2 e2
  generalize (textS 65535 (textS 65535 s).2).1 = hs at e2
  generalize (textS 65535 s).1 = nm at e1
  have z3 := bld_usr (k := nm) (s := hs) (H := X2)
  generalize hu : ((nm, hs) : Ent) = u at z3
  have z4 : alc 1 (.agg #[.string ⟨#[]⟩, .string ⟨#[]⟩, .string ⟨#[]⟩, .bool false, .slice none 0 0]) X2 = some (pt X2.length, X2 ++ [.cells (usr ([], [])) 1 false false]) := alc_a (vs := usr ([], [])) rfl
  have k3 : HLe X2 (X2 ++ [.cells (usr u) 1 false false]) := .app _ _
  have c3 : (X2 ++ [AObj.cells (usr u) 1 false false])[X2.length]? = some (.cells (usr u) 1 false false) := app_new
  have w3 : stA 5 (pt X2.length) (.agg (usr u).toArray) (X2 ++ [.cells (usr ([], [])) 1 false false]) = some (undef, X2 ++ [.cells (usr u) 1 false false]) := by
    have := stA_at (vs := usr u) (n := 5) (H := X2 ++ [AObj.cells (usr ([], [])) 1 false false]) (id := X2.length) (cs := usr ([], [])) (es := 1) (g := false) app_new rfl rfl rfl
    rw [this]; simp
  have hn3 : X2.length ≠ p := by have := r2.lt; omega
  generalize X2 ++ [AObj.cells (usr u) 1 false false] = X3 at k3 c3 w3
  generalize X2.length = c at z4 c3 w3 hn3
  have r3 := r2.hle k3
  have c03 := k3 _ _ c2
  have q2 : bop .int .eql (iv 1) (.int .i64 2) X3 = some (.bool false, X3) := by rw [eql_r]; rfl
  have s03 : Step [p] H [p] X3 := ((k0.step.more (o2 := [p]) (o2' := [p]) (by simp) (fun j hj => .inl hj)).trans (s1.trans s2)).trans (k3.step.more (by simp) (fun j hj => .inl hj))
  have f1 : ∀ v H', F_userGet (R (n + 6)) (pt p) (iv 1) H = some (v, H') → R (n + 7) n_userGet [pt p, iv 1] H = some (v, H') := fun v H' hr => by rw [R, run_userGet rfl]; exact hr
  have e4 := r_err (n := n + 5) r3
  have e4 : R (n + 6) n_octetReaderErr [pt p] X3 = some (iv r.1, X3) := e4
  -- up to the check
  have hC : ∃ X4, (cnd (Value.bool (r.1 == 0)) (bind (ldA 5 (pt c)) fun v36 => bind (R (n + 6) n_userCheck [iv 1, v36]) fun v37 => bind (R (n + 6) n_octetReaderFail [pt p, v37]) fun v38 => ret (Out.nrm [pt p, pt a, pt c])) (ret (Out.nrm [pt p, pt a, pt c]))) X3 = some (Out.nrm [pt p, pt a, pt c], X4) ∧ Rdr X4 p (if r.1 = 0 then failS (errE u) r else r) ∧ Step [p] X3 [p] X4 := by
    by_cases h0 : r.1 = 0
    · have d3 : ldA 5 (pt c) X3 = some (.agg (usr u).toArray, X3) := ldA_at (n := 5) c3 rfl
      obtain ⟨X4, e5, k5⟩ := r_userCheck (n := n) (usrA_ok u X3)
      rw [errU_usrA] at e5
      have e5 : R (n + 6) n_userCheck [iv 1, .agg (usr u).toArray] X3 = some (iv (errE u), X4) := e5
      obtain ⟨X5, e6, r6, s6⟩ := r_fail (n := n + 5) (e := errE u) (by have := errE_le u; omega) (r3.hle k5)
      have e6 : R (n + 6) n_octetReaderFail [pt p, iv (errE u)] X4 = _ := e6
      rw [if_pos h0]
      refine ⟨X5, ?_, r6, (k5.step.more (by simp) (fun j hj => .inl hj)).trans s6⟩
      rw [cnd_b, if_pos (by simp [h0]), bind_eq d3, bind_eq e5, bind_eq e6]
      rfl
    · rw [if_neg h0]
      refine ⟨X3, ?_, r3, .refl _ _⟩
      rw [cnd_b, if_neg (by simp [h0])]
      rfl
  obtain ⟨X4, e5, r4, s4⟩ := hC
  have e6 := r_err (n := n + 5) r4
  have e6 : R (n + 6) n_octetReaderErr [pt p] X4 = _ := e6
  have c34 := s4.get c3 (by simpa using hn3)
  have c04 := s4.get c03 (by simpa using hn0)
  have d4 : ldA 5 (pt c) X4 = some (.agg (usr u).toArray, X4) := ldA_at (n := 5) c34 rfl
  have q3 : bop .int .eql (iv r.1) (.int .i64 0) X3 = some (.bool (r.1 == 0), X3) := by
    rw [eql_r, nz_beq]
  generalize hr' : (if r.1 = 0 then failS (errE u) r else r) = r' at r4 e6
  have hw : ∀ u' : Ent, stA 5 (pt a) (.agg (usr u').toArray) X4 = some (undef, X4.set a (.cells (usr u') 1 false false)) := fun u' => stA_at (vs := usr u') (n := 5) c04 rfl rfl rfl
  have hd : ∀ u' : Ent, ldA 5 (pt a) (X4.set a (.cells (usr u') 1 false false)) = some (.agg (usr u').toArray, X4.set a (.cells (usr u') 1 false false)) := fun u' => ldA_at (n := 5) (set_get c04) rfl
  have s4p : Step [p] H [p] X4 := s03.trans s4
  have hT : ∀ u' : Ent, Step [p] H [p] (X4.set a (.cells (usr u') 1 false false)) := fun u' => ⟨by rw [List.length_set]; exact s4p.len, fun j hj hm => by rw [List.getElem?_set_ne (by omega), s4p.keep j hj hm], fun j hj => .inl hj⟩
  have hF : ∀ (u' : Ent), (getF u r).1 = u' → (cnd (Value.bool (r'.1 != 0)) (bind (bld (.agg #[.string ⟨#[]⟩, .string ⟨#[]⟩, .string ⟨#[]⟩, .bool false, .slice none 0 0]) []) fun v42 => bind (stA 5 (pt a) v42) fun _ => bind (ldA 5 (pt a)) fun vr => ret vr) (bind (ldA 5 (pt c)) fun v43 => bind (stA 5 (pt a) v43) fun _ => bind (ldA 5 (pt a)) fun vr => ret vr)) X4 = some (.agg (usr u').toArray, X4.set a (.cells (usr u') 1 false false)) := fun u' h' => by
    unfold getF at h'
    rw [hr'] at h'
    have h' : (if r'.1 = 0 then u else ([], [])) = u' := h'
    have zb : bld (.agg #[.string ⟨#[]⟩, .string ⟨#[]⟩, .string ⟨#[]⟩, .bool false, .slice none 0 0]) [] X4 = some (.agg (usr ([], [])).toArray, X4) := rfl
    by_cases h0 : r'.1 = 0
    · rw [if_pos h0] at h'
      subst h'
      rw [cnd_b, if_neg (by simp [h0]), bind_eq d4, bind_eq (hw u), bind_eq (hd u)]
      rfl
    · rw [if_neg h0] at h'
      subst h'
      rw [cnd_b, if_pos (by simp [h0]), bind_eq zb, bind_eq (hw ([], [])), bind_eq (hd ([], []))]
      rfl
  have hr2 : (getF u r).2 = r' := hr'
  have q4 : bop .int .neq (iv r'.1) (.int .i64 0) X4 = some (.bool (r'.1 != 0), X4) := by
    rw [neq_r, nz_bne]
  refine ⟨X4.set a (.cells (usr (getF u r).1) 1 false false), f1 _ _ ?_, by rw [hr2]; exact r4.other hlt4, hT _⟩
  unfold F_userGet
  rw [bind_eq z0, bind_eq q1, bind_eq (g_r.trans (if_neg (by simp)))]
  simp only [List.replicate]
  rw [c2_r, bind_eq pick_r]
  simp only [cond_false]
  rw [cnd_b, if_neg (by simp), bind_eq e1, bind_eq e2, bind_eq z3, bind_eq z4, bind_eq w3, bind_eq q2]
  refine (jn_nrm (vs := [pt p, iv 1, pt a, pt c]) (H' := X3) ?_).trans ?_
  · rw [cnd_b, if_neg (by simp)]; rfl
  · rw [c4_r, bind_eq e4, bind_eq q3]
    refine (jn_nrm e5).trans ?_
    rw [c3_r, bind_eq e6, bind_eq q4]
    exact hF _ rfl

theorem Rdr.step {o1 o2 : List Nat} (h : Rdr H p s) (hs : Step o1 H o2 X) (hn : ∀ j ∈ o1, p < j) : Rdr X p s := by
  obtain ⟨sl, h1, h2, h3, h4⟩ := h
  refine ⟨sl, hs.get h1 fun hm => Nat.lt_irrefl _ (hn _ hm), h2.keep fun j hj => hs.keep j ?_ fun hm => ?_, h3, h4⟩
  · have := h3 j hj; have := get_lt h1; omega
  · have := h3 j hj; have := hn j hm; omega

theorem gets_do {N : Nat} (hN : N ≤ 1000) : ∀ (t k : Nat) (l : List Ent) (s : RSt) (sl : Value) (q : List Nat) (X : Heap), N - k = t → k ≤ N → l.length ≤ k → RowN 5 X sl (l.map usr) q → (∀ j ∈ q, p < j) → Rdr X p s →
    ∃ X' sl' q', loopM (c4 (F_shotRead.l1 (R (n + 7)))) [pt p, sl, iv N, iv k] X = some (.ext 0 [pt p, sl'], X') ∧ RowN 5 X' sl' ((l ++ (getsS t s).1).map usr) q' ∧ Rdr X' p (getsS t s).2 ∧ (∀ j ∈ q', p < j) ∧ Step (p :: q) X (p :: q') X'
  | 0, k, l, s, sl, q, X, ht, hk, hl, hr, hq, h => by
    have : k = N := by omega
    subst this
    refine ⟨X, sl, q, loop_ext ?_, by simpa [getsS] using hr, h, hq, .refl _ _⟩
    rw [c4_r]
    unfold F_shotRead.l1
    rw [bind_eq lss_r, cnd_b, if_neg (by simp)]
    rfl
  | t + 1, k, l, s, sl, q, X, ht, hk, hl, hr, hq, h => by
    have hlt : (k : Int) < N := by omega
    obtain ⟨X1, e1, r1, s1⟩ := r_get (n := n) h
    have hr1 := hr.step s1 (fun j hj hm => by have : j = p := by simpa using hm
                                              have := hq j hj; omega)
    have hpx := r1.lt
    have x4 := bsl_a (es := 5) (z := .agg #[.string ⟨#[]⟩, .string ⟨#[]⟩, .string ⟨#[]⟩, .bool false, .slice none 0 0]) (H := X1) rfl (usr_len (getS s).1) (usr_one _)
    have l1 : HLe X1 (X1 ++ [AObj.cells (usr (getS s).1) 5 false false]) := .app _ _
    have s4 : SlN 5 (X1 ++ [AObj.cells (usr (getS s).1) 5 false false]) (.slice (some ⟨X1.length, 0, none⟩) 1 1) [usr (getS s).1] := SlN.whole (rows := [usr (getS s).1]) (c := 1) (e := 5) (g := false) (ro := false) (by rw [app_new]; simp) (by simp [usr_len])
    generalize X1 ++ [AObj.cells (usr (getS s).1) 5 false false] = X2 at x4 l1 s4
    have hr2 : RowN 5 X2 sl (l.map usr) q := hr1.keep fun j hj => l1.step.keep j (hr1.lt j hj) (by simp)
    obtain ⟨sl', X3, q', x5, hr3, s3⟩ := hr2.push (b := 80) s4 (usr_len _) (by simp; omega) (by simp; omega)
    rw [← List.map_singleton (f := usr), ← List.map_append] at hr3
    have hq3 : ∀ j ∈ q', p < j := fun j hj => by
      rcases s3.own j hj with h1 | h1
      · exact hq j h1
      · have := l1.len; omega
    have r3 := (r1.hle l1).step s3 hq
    obtain ⟨X4, sl4, q4, e4, hr4, r4, hq4, s5⟩ := gets_do hN t (k + 1) (l ++ [(getS s).1]) (getS s).2 sl' q' X3 (by omega) (by omega) (by rw [List.length_append, List.length_singleton]; omega) hr3 hq3 r3
    have s13 : Step (p :: q) X (p :: q') X3 := (s1.more (o2 := p :: q) (o2' := p :: q) (by simp) (fun j hj => .inl hj)).trans ((l1.step.more (o2 := p :: q) (o2' := p :: q) (by simp) (fun j hj => .inl hj)).trans (s3.more (o2 := p :: q) (o2' := p :: q') (by simp +contextual) (fun j hj => by
      rcases List.mem_cons.1 hj with rfl | hj
      · exact .inl (by simp)
      · exact .inr (.inl hj))))
    refine ⟨X4, sl4, q4, (loop_next ?_).trans e4, ?_, r4, hq4, s13.trans s5⟩
    · rw [c4_r]
      unfold F_shotRead.l1
      rw [bind_eq lss_r, cnd_b, if_pos (by simpa using hlt), bind_eq e1, bind_eq x4, bind_eq x5, bind_eq add_r, wsuc (by omega)]
      rfl
    · rw [List.append_assoc] at hr4
      exact hr4

/-- What is of all of a directory. -/
theorem ofN_0 {l : List Ent} (h : ofN l = 0) : (∀ e ∈ l, errE e = 0) ∧ l.length ≤ 12 := by
  have h : ofE (l.map usrA) = 0 := by rw [ofE_N, h]; rfl
  unfold ofE at h
  by_cases h1 : firstU (l.map usrA) = 0
  · rw [if_pos h1] at h
    refine ⟨fun e he => ?_, ?_⟩
    · have := firstU_0 h1 (usrA e) (List.mem_map.2 ⟨e, he, rfl⟩)
      rw [errU_usrA] at this
      omega
    · by_cases h2 : risesP none (l.map usrA) = true
      · rw [if_pos h2] at h
        by_cases h3 : 12 < (l.map usrA).length
        · rw [if_pos h3] at h; exact absurd h (by decide)
        · rw [List.length_map] at h3; omega
      · rw [if_neg h2] at h; exact absurd h (by decide)
  · rw [if_neg h1] at h; exact absurd h h1

theorem sort_self {l : SMap} (hn : (l.map (·.1)).Nodup) (hR : Rise l) : sortM l = l := by
  refine rise_ext (rise_sortM hn) hR fun x => ?_
  rw [mem_sortM hn]
  exact ⟨fun h => aget_mem h, fun h => aget_of_mem hn h⟩

theorem map_pair_usrA (l : List Ent) : (l.map usrA).map pairU = l := by
  rw [List.map_map]; exact (List.map_congr_left fun a _ => rfl).trans (List.map_id l)

theorem r_shotRead {sv : Value} (hs : Sl H sv (u8s bs)) (hb : bs.length ≤ 100000000) : ∃ dv H', R (n + 8) n_shotRead [sv] H = some (.tuple #[dv, iv (readS bs).1], H') ∧ HLe H H' ∧
    ((readS bs).1 ≠ 0 → dv = .pointer none) ∧ ((readS bs).1 = 0 → ∃ d b, dv = pt d ∧ Dir H' d b (readS bs).2 ∧ Rise (readS bs).2 ∧ ofN (readS bs).2 = 0) := by
  obtain ⟨p, X0, e0, r0, k0, o0⟩ := r_rof (n := n + 5) hs (by omega)
  have e0 : R (n + 7) n_octetOf [sv] H = _ := e0
  obtain ⟨X1, e1, r1, s1⟩ := r_byte (n := n + 3) r0
  have e1 : R (n + 7) n_octetReaderByte [pt p] X0 = _ := e1
  have e2 := r_err (n := n + 6) r1
  have e2 : R (n + 7) n_octetReaderErr [pt p] X1 = _ := e2
  have hop : ∀ j ∈ [p], H.length ≤ j := fun j hj => by have : j = p := by simpa using hj
                                                       omega
  have m1 := k0.more s1 hop
  have f1 : ∀ v H', F_shotRead (R (n + 7)) sv H = some (v, H') → R (n + 8) n_shotRead [sv] H = some (v, H') := fun v H' hr => by rw [R, run_shotRead rfl]; exact hr
  unfold readS
  generalize numS 1 (0, bs) = B at r1 e1 e2
  obtain ⟨bv, bst⟩ := B
  have e1 : R (n + 7) n_octetReaderByte [pt p] X0 = some (.int .u8 bv, X1) := e1
  have e2 : R (n + 7) n_octetReaderErr [pt p] X1 = some (iv bst.1, X1) := e2
  simp only []
  have q1 : bop .int .eql (iv bst.1) (.int .i64 0) X1 = some (.bool (bst.1 == 0), X1) := by rw [eql_r, nz_beq]
  have hgate : ∀ K : Value → M Value, bind (gate (Value.bool (bst.1 == 0)) true 2 (bind (bop .int .neq (.int .u8 bv) (Value.int .u8 1)) fun v20 => ret [.int .u8 bv, v20])) (c2 fun _ q6 => bind (pick (Value.bool (bst.1 == 0)) q6 (Value.bool false)) K) X1 = K (.bool (decide (bst.1 = 0 ∧ bv ≠ 1))) X1 := fun K => by
    by_cases h0 : bst.1 = 0
    · have q2 : bop .int .neq (.int .u8 bv) (Value.int .u8 1) X1 = some (.bool (decide (bv ≠ 1)), X1) := by
        rw [neq_r, show ((bv : Int) != 1) = decide (bv ≠ 1) from by rw [Bool.eq_iff_iff, decide_eq_true_eq, bne_iff_ne]; omega]
      rw [show (bst.1 == 0) = true from by simp [h0], b_g_in, b_assoc, bind_eq q2, b_ret, c2_r, bind_eq pick_r]
      simp [h0]
    · rw [show (bst.1 == 0) = false from by simp [h0], bind_eq (g_r.trans (if_neg (by simp)))]
      simp only [List.replicate]
      rw [c2_r, bind_eq pick_r]
      simp [h0]
  by_cases hv : bst.1 = 0 ∧ bv ≠ 1
  · rw [if_pos hv]
    refine ⟨.pointer none, X1, f1 _ _ ?_, m1.1, fun _ => rfl, fun h => by cases h⟩
    unfold F_shotRead
    rw [bind_eq e0, bind_eq e1, bind_eq e2, bind_eq q1]
    refine (hgate _).trans ?_
    rw [decide_eq_true hv, cnd_b, if_pos rfl]
    rfl
  rw [if_neg hv]
  obtain ⟨X2, e3, r2, s2⟩ := r_two (n := n + 3) r1
  have e3 : R (n + 7) n_octetReaderTwo [pt p] X1 = _ := e3
  have m2 := m1.1.more s2 m1.2
  have hcl := numS_lt (k := 2) (s := bst)
  generalize numS 2 bst = C at r2 e3 hcl
  obtain ⟨cv, cst⟩ := C
  have e3 : R (n + 7) n_octetReaderTwo [pt p] X1 = some (.int .u16 cv, X2) := e3
  have hcl : cv < 65536 := hcl
  have r2 : Rdr X2 p cst := r2
  simp only []
  have c3 : cvi .i64 (.int .u16 cv) X2 = some (iv cv, X2) := by rw [cvi_r, w64 (by omega) (by omega)]
  have q3 : bop .int .gtr (iv cv) (.int .i64 12) X2 = some (.bool (decide (cv > 12)), X2) := by
    rw [gtr_r, show decide ((cv : Int) > 12) = decide (cv > 12) from by rw [decide_eq_decide]; omega]
  -- how many there are
  have hN : ∃ X3 N st, (cnd (Value.bool (decide (cv > 12))) (bind (R (n + 7) n_octetReaderFail [pt p, (Value.int .i64 7)]) fun v28 => ret (Out.nrm [pt p, (Value.int .i64 0)])) (ret (Out.nrm [pt p, iv cv]))) X2 = some (Out.nrm [pt p, iv (N : Nat)], X3) ∧ N ≤ 12 ∧ Rdr X3 p st ∧ Step [p] X2 [p] X3 ∧ (if cv > 12 then (([] : List Ent), failS 7 cst) else getsS cv cst) = getsS N st := by
    by_cases h12 : cv > 12
    · obtain ⟨X3, e4, r3, s3⟩ := r_fail (n := n + 6) (e := 7) (by omega) r2
      have e4 : R (n + 7) n_octetReaderFail [pt p, .int .i64 7] X2 = _ := e4
      refine ⟨X3, 0, _, ?_, by omega, r3, s3, if_pos h12⟩
      rw [decide_eq_true h12, cnd_b, if_pos rfl, bind_eq e4]
      rfl
    · refine ⟨X2, cv, cst, ?_, by omega, r2, .refl _ _, if_neg h12⟩
      rw [decide_eq_false h12, cnd_b, if_neg (by simp)]
      rfl
  obtain ⟨X3, N, st, e4, hN, r3, s3, hq⟩ := hN
  rw [hq]
  have m3 := m2.1.more s3 m2.2
  obtain ⟨X4, lv, ql, e5, hr4, r4, hql, s4⟩ := gets_do (n := n) (N := N) (by omega) N 0 [] st (.slice none 0 0) [] X3 (by omega) (by omega) (Nat.zero_le _) RowN.nil (by simp) r3
  have e5 : loopM (c4 (F_shotRead.l1 (R (n + 7)))) [pt p, .slice none 0 0, iv N, .int .i64 0] X3 = _ := e5
  rw [List.nil_append] at hr4
  have m4 := m3.1.more s4 m3.2
  have hll : (getsS N st).1.length = N := by
    have : ∀ (k : Nat) (s : RSt), (getsS k s).1.length = k := by
      intro k
      induction k with
      | zero => intro s; rfl
      | succ k ih => intro s; unfold getsS; rw [List.length_cons, ih]
    exact this _ _
  generalize getsS N st = G at hr4 r4 hll
  obtain ⟨gl, gs⟩ := G
  have hr4 : RowN 5 X4 lv (gl.map usr) ql := hr4
  have r4 : Rdr X4 p gs := r4
  have hll : gl.length = N := hll
  simp only []
  have e6 := r_err (n := n + 6) r4
  have e6 : R (n + 7) n_octetReaderErr [pt p] X4 = some (iv gs.1, X4) := e6
  have q4 : bop .int .neq (iv gs.1) (.int .i64 0) X4 = some (.bool (gs.1 != 0), X4) := by rw [neq_r, nz_bne]
  -- so far
  have hrun : ∀ v H', (bind (R (n + 7) n_octetReaderErr [pt p]) fun v39x20 =>
  bind (bop .int .neq v39x20 (Value.int .i64 0)) fun v41x21 =>
  cnd v41x21
  (ret (Value.tuple #[(Value.pointer none), v39x20]))
  (bind (R (n + 7) n_elderOf [lv]) fun v45x22 =>
  bind (extr v45x22 0) fun v46x23 =>
  bind (extr v45x22 1) fun v47x24 =>
  bind (bop .int .eql v47x24 (Value.int .i64 0)) fun v49x25 =>
  jn (cnd v49x25
  (bind (R (n + 7) n_octetReaderEnd [pt p]) fun v51x26 =>
  ret (.nrm [v46x23, v51x26]))
  (ret (.nrm [v46x23, v47x24]))) (c2 fun q27_0 q27_1 =>
  bind (bop .int .neq q27_1 (Value.int .i64 0)) fun v53x28 =>
  cnd v53x28
  (ret (Value.tuple #[(Value.pointer none), q27_1]))
  (ret (Value.tuple #[q27_0, (Value.int .i64 0)]))) noX ret)) X4 = some (v, H') → R (n + 8) n_shotRead [sv] H = some (v, H') := fun v H' hr => by
    refine f1 _ _ ?_
    unfold F_shotRead
    rw [bind_eq e0, bind_eq e1, bind_eq e2, bind_eq q1]
    refine (hgate _).trans ?_
    rw [decide_eq_false hv, cnd_b, if_neg (by simp), bind_eq e3, bind_eq c3, bind_eq q3]
    refine (jn_nrm e4).trans ?_
    rw [c2_r, jn_ext e5, xk_hit, c2_r]
    exact hr
  by_cases hg0 : gs.1 = 0
  · rw [if_neg (by simp [hg0])]
    obtain ⟨X5, dv, e7, k5, hz, hok⟩ := r_of' (n := n) (by rw [List.length_map]; omega) hr4.users
    rw [ofE_N] at e7 hz hok
    have q5 : bop .int .eql (iv (ofN gl)) (.int .i64 0) X5 = some (.bool (ofN gl == 0), X5) := by rw [eql_r, nz_beq]
    have r5 := r4.hle k5
    by_cases ho : ofN gl = 0
    · obtain ⟨d, b, rfl, D5, hR, _, _⟩ := hok (by rw [ho]; rfl)
      rw [map_pair_usrA] at D5 hR
      have e8 := r_end (n := n + 6) r5
      have e8 : R (n + 7) n_octetReaderEnd [pt p] X5 = _ := e8
      rw [if_pos ho]
      by_cases he : endS gs = 0
      · rw [if_neg (by simp [he])]
        have q6 : bop .int .neq (iv (endS gs)) (.int .i64 0) X5 = some (.bool false, X5) := by rw [neq_r, he]; rfl
        refine ⟨pt d, X5, hrun _ _ ?_, m4.1.trans k5, fun h => absurd rfl h, fun _ => ⟨d, b, rfl, D5, hR, ho⟩⟩
        rw [bind_eq e6, bind_eq q4, cnd_b, if_neg (by simp [hg0]), bind_eq e7, bind_eq extr_p0, bind_eq extr_p1, bind_eq q5]
        refine (jn_nrm (vs := [pt d, iv (endS gs)]) (H' := X5) ?_).trans ?_
        · rw [cnd_b, if_pos (by simp [ho]), bind_eq e8]; rfl
        · rw [c2_r, bind_eq q6, cnd_b, if_neg (by simp)]; rfl
      · rw [if_pos he]
        have q6 : bop .int .neq (iv (endS gs)) (.int .i64 0) X5 = some (.bool true, X5) := by rw [neq_r]; simp [he]
        refine ⟨.pointer none, X5, hrun _ _ ?_, m4.1.trans k5, fun _ => rfl, fun h => absurd h he⟩
        rw [bind_eq e6, bind_eq q4, cnd_b, if_neg (by simp [hg0]), bind_eq e7, bind_eq extr_p0, bind_eq extr_p1, bind_eq q5]
        refine (jn_nrm (vs := [pt d, iv (endS gs)]) (H' := X5) ?_).trans ?_
        · rw [cnd_b, if_pos (by simp [ho]), bind_eq e8]; rfl
        · rw [c2_r, bind_eq q6, cnd_b, if_pos (by simp)]; rfl
    · rw [if_neg ho, if_pos ho]
      have hdv := hz (by simpa using ho)
      subst hdv
      have q6 : bop .int .neq (iv (ofN gl)) (.int .i64 0) X5 = some (.bool true, X5) := by rw [neq_r]; simp [ho]
      refine ⟨.pointer none, X5, hrun _ _ ?_, m4.1.trans k5, fun _ => rfl, fun h => absurd h ho⟩
      rw [bind_eq e6, bind_eq q4, cnd_b, if_neg (by simp [hg0]), bind_eq e7, bind_eq extr_p0, bind_eq extr_p1, bind_eq q5]
      refine (jn_nrm (vs := [.pointer none, iv (ofN gl)]) (H' := X5) ?_).trans ?_
      · rw [cnd_b, if_neg (by simp [ho])]; rfl
      · rw [c2_r, bind_eq q6, cnd_b, if_pos (by simp)]; rfl
  · rw [if_pos hg0]
    refine ⟨.pointer none, X4, hrun _ _ ?_, m4.1, fun _ => rfl, fun h => absurd h hg0⟩
    rw [bind_eq e6, bind_eq q4, cnd_b, if_pos (by simp [hg0])]
    rfl

end

end Go.Proofs.YtlpibiaokpbhbaaGreatDoor.A

/- A directory as bytes: what the laws need. -/
namespace Go.Proofs.YtlpibiaokpbhbaaGreatDoor.A
set_option linter.unusedVariables false
set_option linter.unusedSimpArgs false
open Go.Proofs Go.Proofs.YtlpibiaokpbhbaaGreatDoor

/-! what is written is read -/

theorem leN_le : ∀ {k x : Nat}, x < 256 ^ k → leN (le x k) = x
  | 0, x, h => by
    have : x = 0 := by simpa using h
    rw [this]; rfl
  | k + 1, x, h => by
    unfold le leN
    have h2 : x / 256 < 256 ^ k := by
      rw [Nat.pow_succ] at h
      exact Nat.div_lt_of_lt_mul (by rw [Nat.mul_comm]; exact h)
    rw [leN_le h2, UInt8.toNat_ofNat']
    omega

theorem tkS_app {a r : List UInt8} {k : Nat} (h : a.length = k) : tkS k (0, a ++ r) = (a, (0, r)) := by
  subst h
  unfold tkS
  simp only []
  rw [if_pos (by simp), List.take_left, List.drop_left]

theorem numS_app {k x : Nat} {r : List UInt8} (h : x < 256 ^ k) : numS k (0, le x k ++ r) = (x, (0, r)) := by
  unfold numS
  rw [tkS_app le_len, leN_le h]

theorem textS_app {s r : List UInt8} (h : s.length ≤ 65535) : textS 65535 (0, txt s ++ r) = (s, (0, r)) := by
  have h1 : numS 2 (0, txt s ++ r) = (s.length, (0, s ++ r)) := by
    unfold txt
    rw [List.append_assoc]
    exact numS_app (k := 2) (by omega)
  unfold textS countS
  rw [h1]
  simp only []
  rw [if_neg (by omega), tkS_app rfl]

theorem getS_app {e : Ent} {r : List UInt8} (he : errE e = 0) : getS (0, entB e ++ r) = (e, (0, r)) := by
  have h1 := name_len (errE_0.1 he).1
  have h2 := sum_len (errE_0.1 he).2
  unfold getS entB
  rw [List.append_assoc, textS_app (by omega)]
  simp only []
  rw [textS_app (by omega)]
  simp only [getF, if_true]
  rw [he]
  rfl

theorem getsS_app : ∀ {m : List Ent} {r : List UInt8}, (∀ e ∈ m, errE e = 0) → getsS m.length (0, entsB m ++ r) = (m, (0, r))
  | [], r, _ => rfl
  | e :: m, r, h => by
    have h1 := getS_app (e := e) (r := entsB m ++ r) (h e (by simp))
    have h2 := getsS_app (m := m) (r := r) fun x hx => h x (by simp [hx])
    have h3 : entsB (e :: m) ++ r = entB e ++ (entsB m ++ r) := by simp [entsB]
    rw [List.length_cons, h3]
    unfold getsS
    rw [h1]
    simp only []
    rw [h2]

theorem encB_inj {m m' : List Ent} (h : ∀ e ∈ m, errE e = 0) (h' : ∀ e ∈ m', errE e = 0) (hl : m.length ≤ 1000) (hl' : m'.length ≤ 1000) (he : encB m = encB m') : m = m' := by
  unfold encB at he
  have he := List.append_cancel_left he
  have h1 : numS 2 (0, le m.length 2 ++ entsB m) = numS 2 (0, le m'.length 2 ++ entsB m') := by rw [he]
  rw [numS_app (k := 2) (by omega), numS_app (k := 2) (by omega)] at h1
  injection h1 with h2 h3
  injection h3 with _ h4
  have h5 := getsS_app (r := []) h
  have h6 := getsS_app (r := []) h'
  rw [List.append_nil] at h5 h6
  rw [← h2, ← h4, h5] at h6
  injection h6

theorem readS_enc {m : List Ent} (h : ofN m = 0) : readS (encB m) = (0, m) := by
  obtain ⟨hE, hl⟩ := ofN_0 h
  have h1 : numS 1 (0, encB m) = (1, (0, le m.length 2 ++ entsB m)) := numS_app (k := 1) (by omega)
  have h2 : numS 2 (0, le m.length 2 ++ entsB m) = (m.length, (0, entsB m)) := numS_app (k := 2) (by omega)
  have h3 := getsS_app (r := []) hE
  rw [List.append_nil] at h3
  unfold readS
  rw [h1]
  simp only []
  rw [if_neg (by simp), h2]
  simp only []
  rw [if_neg (show ¬ m.length > 12 by omega), h3]
  simp only []
  rw [if_neg (by simp), if_pos h]
  have : endS (0, []) = 0 := rfl
  rw [this, if_neg (by simp)]

section
variable {H0 H X : Heap} {n p d b : Nat} {u w : UsrA} {us ws : List UsrA} {sl a c v : Value} {bs : List UInt8} {m : List Ent}

/-! the schema -/

def schemaS (bs : List UInt8) : Nat :=
  match bs with
  | [] => 0
  | b :: _ => if b.toNat = 1 ∨ b.toNat = 2 then b.toNat else 0

theorem r_schema (hs : Sl H sl (u8s bs)) (hb : bs.length ≤ 100000000) : R (n + 1) n_shotSchema [sl] H = some (iv (schemaS bs), H) := by
  have hl : lenS sl H = some (iv bs.length, H) := by have := hs.len (H' := H); rwa [u8s_length] at this
  rw [R, run_shotSchema rfl]
  unfold F_shotSchema
  cases bs with
  | nil =>
    rw [bind_eq hl, bind_eq gtr_r]
    have hz : decide ((([] : List UInt8).length : Int) > 0) = false := rfl
    rw [hz, bind_eq (g_r.trans (if_neg (by simp)))]
    simp only [List.replicate]
    rw [c5_r, bind_eq gn_r]
    simp only [List.replicate]
    rw [c4_r, bind_eq (g_r.trans (if_neg (by simp)))]
    simp only [List.replicate]
    rw [c1_r, bind_eq pick_r]
    simp only [cond_false]
    rw [cnd_b, if_neg (by simp)]
    rfl
  | cons x l =>
    have hz : decide (((x :: l).length : Int) > 0) = true := by rw [decide_eq_true_eq, List.length_cons]; omega
    have hk : (u8s (x :: l))[0]? = some (.int .u8 x.toNat) := rfl
    have x1 := hs.ix (i := 0) (by rw [u8s_length]; simp) .i64 H
    have x1 : ixa 1 sl (.int .i64 0) H = some (ixp sl 0, H) := x1
    have x2 := hs.ldx hk
    have q1 : bop .int .eql (.int .u8 x.toNat) (.int .u8 1) H = some (.bool (decide (x.toNat = 1)), H) := by
      rw [eql_r, show ((x.toNat : Int) == 1) = decide (x.toNat = 1) from by rw [Bool.eq_iff_iff, decide_eq_true_eq, beq_iff_eq]; omega]
    have q2 : bop .int .eql (.int .u8 x.toNat) (.int .u8 2) H = some (.bool (decide (x.toNat = 2)), H) := by
      rw [eql_r, show ((x.toNat : Int) == 2) = decide (x.toNat = 2) from by rw [Bool.eq_iff_iff, decide_eq_true_eq, beq_iff_eq]; omega]
    have hx : x.toNat < 256 := x.toNat_lt
    have c3 : cvi .i64 (.int .u8 x.toNat) H = some (iv x.toNat, H) := by rw [cvi_r, w64 (by omega) (by omega)]
    rw [bind_eq hl, bind_eq gtr_r, hz, b_g_in, b_assoc, bind_eq x1, b_assoc, bind_eq x2, b_assoc, bind_eq q1, b_ret, c5_r]
    unfold schemaS
    simp only []
    by_cases h1 : x.toNat = 1
    · rw [decide_eq_true h1, bind_eq (g_r.trans (if_neg (by simp)))]
      simp only [List.replicate]
      rw [c4_r, b_g_in, b_assoc, bind_eq pick_r, b_ret, c1_r, bind_eq pick_r]
      simp only [cond_true]
      rw [cnd_b, if_pos rfl, bind_eq x1, bind_eq x2, bind_eq c3, if_pos (.inl h1)]
      rfl
    · rw [decide_eq_false h1, b_g_in, b_assoc, bind_eq x1, b_assoc, bind_eq x2, b_assoc, bind_eq q2, b_ret, c4_r, b_g_in, b_assoc, bind_eq pick_r, b_ret, c1_r, bind_eq pick_r]
      simp only [cond_true, cond_false]
      rw [cnd_b]
      by_cases h2 : x.toNat = 2
      · rw [if_pos (by simp [h2]), bind_eq x1, bind_eq x2, bind_eq c3, if_pos (.inr h2)]
        rfl
      · rw [if_neg (by simp [h2]), if_neg (by omega)]
        rfl

/-! the example; a directory of users -/

theorem encB_nil : encB [] = [1, 0, 0] := by decide

theorem r_lives8 : ∃ H', R (n + 9) n_law08Lives [] H = some (.bool true, H') ∧ HLe H H' := by
  obtain ⟨X0, d, b, e0, D0, k0, _, _⟩ := r_eldNew (n := n + 7) (H := H)
  have e0 : R (n + 8) n_elderNew [] H = _ := e0
  obtain ⟨v, X1, e1, s1, k1⟩ := r_shotBytes (n := n) D0 (by simp [sortM, ksort]) (by simp [sortM, ksort])
  have hs : sortM [] = [] := by simp [sortM, ksort]
  rw [hs, encB_nil] at s1
  have q1 : bop .str .eql (strv [1, 0, 0]) (.string ⟨#[1, 0, 0]⟩) X1 = some (.bool true, X1) := by
    have := eqs_v (a := [1, 0, 0]) (b := [1, 0, 0]) (H := X1)
    exact this
  refine ⟨X1, ?_, k0.trans k1⟩
  rw [R, run_law08Lives rfl]
  unfold F_law08Lives
  rw [bind_eq e0, bind_eq e1, bind_eq (b2s_v s1), bind_eq q1]
  rfl

theorem made_do (hn : us.length ≤ 1000) (hA : Users H0 sl us) : ∀ (t k : Nat) (X : Heap), us.length - k = t → k ≤ us.length → HLe H0 X →
    ∃ X', HLe H0 X' ∧ (loopM (c4 (F_law08Made.l1 (R (n + 1)))) [sl, sl, iv us.length, iv k] X = some (.ext 0 [sl], X') ∨ loopM (c4 (F_law08Made.l1 (R (n + 1)))) [sl, sl, iv us.length, iv k] X = some (.ret (.tuple #[.pointer none, .bool false]), X'))
  | 0, k, X, ht, hk, hle => by
    have : k = us.length := by omega
    subst this
    refine ⟨X, hle, .inl (loop_ext ?_)⟩
    rw [c4_r]
    unfold F_law08Made.l1
    rw [bind_eq lss_r, cnd_b, if_neg (by simp)]
    rfl
  | t + 1, k, X, ht, hk, hle => by
    have hkl : k < us.length := by omega
    have hlt : (k : Int) < us.length := by omega
    have hg := List.getElem?_eq_getElem hkl
    generalize us[k] = u at hg
    have hf := fun {K : Value → M Out} => (hA.mono hle).fetch (k := K) hg
    have hok := (hA.mono hle).2 u (List.mem_of_getElem? hg)
    have g1 : (X ++ [AObj.cells u.cells 1 false false])[X.length]? = some (.cells u.cells 1 false false) := app_new
    have k1 : HLe X (X ++ [AObj.cells u.cells 1 false false]) := .app _ _
    generalize X ++ [AObj.cells u.cells 1 false false] = X1 at g1 k1 hf
    have e1 : ldA 5 (pt X.length) X1 = some (.agg u.cells.toArray, X1) := ldA_at (n := 5) g1 rfl
    obtain ⟨bb, X2, e2, k2⟩ := r_few6 (n := n) (u := u) (X := X1) (GV.mono hok k1)
    have hb : c4 (F_law08Made.l1 (R (n + 1))) [sl, sl, iv us.length, iv k] X = some (if bb then .nrm [sl, sl, iv us.length, iv ((k + 1 : Nat) : Int)] else .ret (.tuple #[.pointer none, .bool false]), X2) := by
      rw [c4_r]
      unfold F_law08Made.l1
      rw [bind_eq lss_r, cnd_b, if_pos (by simpa using hlt), hf, bind_eq e1, bind_eq e2, bind_eq not_r, cnd_b]
      cases bb
      · rw [if_pos (by rfl)]; rfl
      · rw [if_neg (by simp), bind_eq add_r, wsuc (by omega)]; rfl
    cases bb
    · exact ⟨X2, hle.trans (k1.trans k2), .inr (loop_ret hb)⟩
    · obtain ⟨X3, k3, h3⟩ := made_do hn hA t (k + 1) X2 (by omega) (by omega) (hle.trans (k1.trans k2))
      exact ⟨X3, k3, h3.imp (loop_next hb).trans (loop_next hb).trans⟩

/-- Users that make a directory have no more than names and sums. -/
theorem of_plain (h : ofE us = 0) : (∀ u ∈ us, plainU u = true ∧ errE (pairU u) = 0) ∧ us.length ≤ 12 := by
  unfold ofE at h
  by_cases h1 : firstU us = 0
  · rw [if_pos h1] at h
    refine ⟨fun u hu => ?_, ?_⟩
    · have he := firstU_0 h1 u hu
      unfold errU at he
      unfold errE pairU
      cases hp : plainU u <;> cases h3 : nameB u.nm <;> cases h4 : sumB u.hs <;> rw [hp, h3, h4] at he <;> simp at he ⊢
    · by_cases h2 : risesP none us = true
      · rw [if_pos h2] at h
        by_cases h3 : 12 < us.length
        · rw [if_pos h3] at h; exact absurd h (by decide)
        · omega
      · rw [if_neg h2] at h; exact absurd h (by decide)
  · rw [if_neg h1] at h; exact absurd h h1

theorem plain_key {u w : UsrA} (hu : plainU u = true) (hw : plainU w = true) : keyU u = keyU w ↔ pairU u = pairU w := by
  unfold plainU at hu hw
  simp only [Bool.and_eq_true, beq_iff_eq, Bool.not_eq_true', decide_eq_true_eq] at hu hw
  obtain ⟨a1, a2, a3⟩ := hu
  obtain ⟨b1, b2, b3⟩ := hw
  have a3 := List.eq_nil_of_length_eq_zero a3
  have b3 := List.eq_nil_of_length_eq_zero b3
  unfold keyU pairU
  rw [a1, a2, a3, b1, b2, b3]
  constructor
  · intro h
    have h1 := congrArg (·.1) h
    have h2 := congrArg (·.2.1) h
    simp only at h1 h2
    rw [h1, h2]
  · intro h
    have h1 := congrArg (·.1) h
    have h2 := congrArg (·.2) h
    simp only at h1 h2
    rw [h1, h2]

theorem plain_keys : ∀ {us ws : List UsrA}, (∀ u ∈ us, plainU u = true) → (∀ u ∈ ws, plainU u = true) → (us.map keyU = ws.map keyU ↔ us.map pairU = ws.map pairU)
  | [], [], _, _ => by simp
  | [], w :: ws, _, _ => by simp
  | u :: us, [], _, _ => by simp
  | u :: us, w :: ws, hu, hw => by
    have h1 := plain_keys (us := us) (ws := ws) (fun x hx => hu x (by simp [hx])) (fun x hx => hw x (by simp [hx]))
    have h2 := plain_key (hu u (by simp)) (hw w (by simp))
    simp only [List.map_cons, List.cons.injEq, h1, h2]

theorem r_made (hA : Users H sl us) (hn : us.length ≤ 9223372036854775807) : ∃ dv ok X', R (n + 8) n_law08Made [sl] H = some (.tuple #[dv, .bool ok], X') ∧ HLe H X' ∧ (ok = true → ofE us = 0 ∧ ∃ d b, dv = pt d ∧ Dir X' d b (us.map pairU) ∧ Rise (us.map pairU)) := by
  have f1 : ∀ v H', F_law08Made (R (n + 7)) sl H = some (v, H') → R (n + 8) n_law08Made [sl] H = some (v, H') := fun v H' hr => by rw [R, run_law08Made rfl]; exact hr
  by_cases h30 : us.length ≤ 30
  · have q1 : bop .int .gtr (iv us.length) (.int .i64 30) H = some (.bool false, H) := by rw [gtr_r, decide_eq_false (by omega)]
    obtain ⟨X1, k1, h1⟩ := made_do (n := n + 6) (by omega) hA us.length 0 H (by omega) (by omega) (.refl _)
    rcases h1 with e1 | e1
    · have e1 : loopM (c4 (F_law08Made.l1 (R (n + 7)))) [sl, sl, iv us.length, .int .i64 0] H = _ := e1
      obtain ⟨X2, dv, e2, k2, hz, hok⟩ := r_of' (n := n) (by omega) (hA.mono k1)
      obtain ⟨X3, e3, k3⟩ := r_refOf (n := n + 2) (by omega) ((hA.mono k1).mono k2)
      have e3 : R (n + 7) n_ref07Of [sl, .int .i64 1] X2 = _ := e3
      by_cases hE : ofE us = 0
      · obtain ⟨d, b, rfl, D2, hR, _, _⟩ := hok hE
        have q2 : bop .int .eql (iv (ofE us)) (.int .i64 0) X2 = some (.bool true, X2) := by rw [eql_r, hE]; rfl
        have q3 : bop .ptr .neq (pt d) (.pointer none) X2 = some (.bool true, X2) := nep_r
        have q4 : bop .int .eql (iv (ofE us)) (.int .i64 0) X3 = some (.bool true, X3) := by rw [eql_r, hE]; rfl
        refine ⟨pt d, true, X3, f1 _ _ ?_, (k1.trans k2).trans k3, fun _ => ⟨hE, d, b, rfl, D2.hle k3, hR⟩⟩
        unfold F_law08Made
        rw [bind_eq hA.len, bind_eq q1, cnd_b, if_neg (by simp), bind_eq hA.len, jn_ext e1, xk_hit, c1_r, bind_eq e2, bind_eq extr_p0, bind_eq extr_p1, bind_eq q2, b_g_in, b_assoc, bind_eq q3, b_ret, c2_r, bind_eq pick_r]
        simp only [cond_true]
        rw [b_g_in, b_assoc, bind_eq e3, b_assoc, bind_eq q4, b_ret, c3_r, bind_eq pick_r]
        rfl
      · have hdv := hz hE
        subst hdv
        have q2 : bop .int .eql (iv (ofE us)) (.int .i64 0) X2 = some (.bool false, X2) := by rw [eql_r]; simp [hE]
        refine ⟨.pointer none, false, X2, f1 _ _ ?_, k1.trans k2, fun h => by cases h⟩
        unfold F_law08Made
        rw [bind_eq hA.len, bind_eq q1, cnd_b, if_neg (by simp), bind_eq hA.len, jn_ext e1, xk_hit, c1_r, bind_eq e2, bind_eq extr_p0, bind_eq extr_p1, bind_eq q2, bind_eq (g_r.trans (if_neg (by simp)))]
        simp only [List.replicate]
        rw [c2_r, bind_eq pick_r]
        simp only [cond_false]
        rw [bind_eq (g_r.trans (if_neg (by simp)))]
        simp only [List.replicate]
        rw [c3_r, bind_eq pick_r]
        rfl
    · have e1 : loopM (c4 (F_law08Made.l1 (R (n + 7)))) [sl, sl, iv us.length, .int .i64 0] H = _ := e1
      refine ⟨.pointer none, false, X1, f1 _ _ ?_, k1, fun h => by cases h⟩
      unfold F_law08Made
      rw [bind_eq hA.len, bind_eq q1, cnd_b, if_neg (by simp), bind_eq hA.len, jn_ret e1]
      rfl
  · have q1 : bop .int .gtr (iv us.length) (.int .i64 30) H = some (.bool true, H) := by rw [gtr_r, decide_eq_true (by omega)]
    refine ⟨.pointer none, false, H, f1 _ _ ?_, .refl _, fun h => by cases h⟩
    unfold F_law08Made
    rw [bind_eq hA.len, bind_eq q1, cnd_b, if_pos rfl]
    rfl

/-- The bytes of a directory that users made. -/
theorem r_bytes (hE : ofE us = 0) (D : Dir H d b (us.map pairU)) (hR : Rise (us.map pairU)) : ∃ v H', R (n + 8) n_shotBytes [pt d] H = some (v, H') ∧ Sl H' v (u8s (encB (us.map pairU))) ∧ HLe H H' := by
  have hs := sort_self D.g.nod hR
  have hP := of_plain hE
  have := r_shotBytes (n := n) D (by rw [hs]; intro e he; obtain ⟨u, hu, rfl⟩ := List.mem_map.1 he; exact (hP.1 u hu).2) (by rw [hs])
  rwa [hs] at this

end

end Go.Proofs.YtlpibiaokpbhbaaGreatDoor.A
