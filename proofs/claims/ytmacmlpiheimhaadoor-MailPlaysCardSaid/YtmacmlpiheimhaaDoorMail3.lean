/- Texts: folded, cut, split. -/
import Derived.Test.YtmacmlpiheimhaaDoorEldLives
import Derived.Test.YtmacmlpiheimhaaDoorA32
namespace Go.Proofs.YtmacmlpiheimhaaDoor.A
set_option linter.unusedVariables false
set_option linter.unusedSimpArgs false
open Go.Proofs Go.Proofs.YtmacmlpiheimhaaDoor

def foldB (b : UInt8) : UInt8 := if decide (65 ≤ b.toNat) && decide (b.toNat ≤ 90) then UInt8.ofNat (b.toNat + 32) else b
def foldL (s : List UInt8) : List UInt8 := s.map foldB

theorem foldB_up : ∀ b : UInt8, (decide (65 ≤ b.toNat) && decide (b.toNat ≤ 90)) = true → IntKind.u8.wrap (IntKind.u8.wrap ((b.toNat : Int) + 97) - 65) = (foldB b).toNat := u8_all (by decide +kernel)

section
variable {H X : Heap} {n : Nat} {s : List UInt8}

theorem u8s_at {cs : List UInt8} {k : Nat} {b : UInt8} (h : cs[k]? = some b) : (u8s cs)[k]? = some (u8v b) := by unfold u8s; rw [List.getElem?_map, h]; rfl
theorem u8s_set {cs : List UInt8} {k : Nat} {b : UInt8} : (u8s cs).set k (u8v b) = u8s (cs.set k b) := by unfold u8s; rw [List.map_set]

theorem s2b_v : s2b (strv s) H = some (.slice (some ⟨H.length, 0, none⟩) s.length s.length, H ++ [.cells (u8s s) 1 true false]) := by
  unfold s2b strv news
  simp [ByteArray.size]

theorem fold_do {v : Value} {q : List Nat} (hs : s.length ≤ 1000000) : ∀ (t k : Nat) (cs : List UInt8) (X : Heap), s.length - k = t → k ≤ s.length → cs.length = s.length → cs.take k = (s.take k).map foldB → cs.drop k = s.drop k → RowS X v (u8s cs) q →
    ∃ X', loopM (c4 (F_nameFold.l1 (R n))) [v, v, iv s.length, iv k] X = some (.ext 0 [v], X') ∧ RowS X' v (u8s (foldL s)) q ∧ Step q X q X'
  | 0, k, cs, X, ht, hk, hl, h1, h2, hr => by
    have : k = s.length := by omega
    subst this
    have : cs = foldL s := by
      rw [List.take_of_length_le (by omega), List.take_of_length_le (by omega)] at h1
      exact h1
    subst this
    refine ⟨X, loop_ext ?_, hr, .refl _ _⟩
    rw [c4_r]
    unfold F_nameFold.l1
    rw [bind_eq lss_r, cnd_b, if_neg (by simp)]
    rfl
  | t + 1, k, cs, X, ht, hk, hl, h1, h2, hr => by
    have hkl : k < s.length := by omega
    have hlt : (k : Int) < s.length := by omega
    have hg := List.getElem?_eq_getElem hkl
    have htk := List.take_succ_eq_append_getElem hkl
    have hdk := List.drop_eq_getElem_cons hkl
    generalize s[k] = b at hg htk hdk
    have hgc : cs[k]? = some b := by
      have h3 : (cs.drop k)[0]? = (s.drop k)[0]? := by rw [h2]
      simpa [hg] using h3
    have hul : (u8s cs).length = s.length := by rw [u8s_length, hl]
    have x1 := hr.ix (i := k) (by omega) .i64 X
    have x2 := hr.ldx (u8s_at hgc)
    have hd1 : cs.drop (k + 1) = s.drop (k + 1) := by rw [← List.drop_drop, h2, List.drop_drop]
    have htc : cs.take (k + 1) = cs.take k ++ [b] := by
      have := List.take_succ_eq_append_getElem (show k < cs.length by omega)
      rw [this, (List.getElem?_eq_some_iff.1 hgc).2]
    have hpk : ∀ (K : Value → M Out), bind (bop .int .geq (u8v b) (Value.int .u8 65)) (fun v16x6 => bind (gate v16x6 true 2 (bind (bop .int .leq (u8v b) (Value.int .u8 90)) fun v19x7 => ret [u8v b, v19x7])) (c2 fun _ q8_1 => bind (pick v16x6 q8_1 (Value.bool false)) K)) X = K (.bool (decide (65 ≤ b.toNat) && decide (b.toNat ≤ 90))) X := fun K => by
      have e1 : decide ((b.toNat : Int) ≥ 65) = decide (65 ≤ b.toNat) := by rw [decide_eq_decide]; omega
      have e2 : decide ((b.toNat : Int) ≤ 90) = decide (b.toNat ≤ 90) := by rw [decide_eq_decide]; omega
      rw [bind_eq geq_r, e1]
      cases decide (65 ≤ b.toNat)
      · rw [bind_eq (g_r.trans (if_neg (by simp)))]
        simp only [List.replicate]
        rw [c2_r, bind_eq pick_r]
        rfl
      · rw [b_g_in, b_assoc, bind_eq leq_r, b_ret, c2_r, bind_eq pick_r, e2]
        rfl
    cases hup : (decide (65 ≤ b.toNat) && decide (b.toNat ≤ 90))
    · have hfb : foldB b = b := by unfold foldB; rw [hup]; rfl
      rw [hup] at hpk
      obtain ⟨X', e, r', s'⟩ := fold_do hs t (k + 1) cs X (by omega) (by omega) hl (by rw [htc, h1, htk, List.map_append, List.map_singleton, hfb]) hd1 hr
      refine ⟨X', (loop_next ?_).trans e, r', s'⟩
      rw [c4_r]
      unfold F_nameFold.l1
      rw [bind_eq lss_r, cnd_b, if_pos (by simpa using hlt), bind_eq x1, bind_eq x2]
      refine (hpk _).trans ?_
      refine (jn_nrm (vs := [v, v, iv s.length, iv k]) (H' := X) ?_).trans ?_
      · rw [cnd_b, if_neg (by simp)]; rfl
      · rw [c4_r, bind_eq add_r, wsuc (by omega)]; rfl
    · have hfu := foldB_up b hup
      rw [hup] at hpk
      obtain ⟨X1, x3, r1, s1, _⟩ := hr.stx (i := k) (u := u8v (foldB b)) (by omega) rfl
      rw [u8s_set] at r1
      obtain ⟨X', e, r', s'⟩ := fold_do hs t (k + 1) (cs.set k (foldB b)) X1 (by omega) (by omega) (by simpa using hl) (by
        have h5 : k < (cs.set k (foldB b)).length := by simp; omega
        rw [List.take_succ_eq_append_getElem h5, List.take_set_of_le (Nat.le_refl _), h1, htk, List.map_append]
        simp) (by rw [List.drop_set_of_lt (by omega)]; exact hd1) r1
      refine ⟨X', (loop_next ?_).trans e, r', s1.trans s'⟩
      rw [c4_r]
      unfold F_nameFold.l1
      rw [bind_eq lss_r, cnd_b, if_pos (by simpa using hlt), bind_eq x1, bind_eq x2]
      refine (hpk _).trans ?_
      refine (jn_nrm (vs := [v, v, iv s.length, iv k]) (H' := X1) ?_).trans ?_
      · rw [cnd_b, if_pos rfl, bind_eq add_r, bind_eq sub_r, hfu, bind_eq x1, bind_eq x3]; rfl
      · rw [c4_r, bind_eq add_r, wsuc (by omega)]; rfl

theorem r_fold (hs : s.length ≤ 1000000) : ∃ H', R (n + 1) n_nameFold [strv s] H = some (strv (foldL s), H') ∧ HLe H H' := by
  have e1 := s2b_v (s := s) (H := H)
  have k1 : HLe H (H ++ [.cells (u8s s) 1 true false]) := .app _ _
  have r1 : RowS (H ++ [.cells (u8s s) 1 true false]) (.slice (some ⟨H.length, 0, none⟩) s.length s.length) (u8s s) [H.length] := .inr ⟨H.length, [], true, by rw [u8s_length]; rfl, rfl, by rw [app_new, List.append_nil]⟩
  have hnl : ∀ j ∈ [H.length], H.length ≤ j := by simp
  generalize H ++ [AObj.cells (u8s s) 1 true false] = H1 at e1 k1 r1
  obtain ⟨H2, e2, r2, s2⟩ := fold_do (n := n) hs s.length 0 s H1 (by omega) (by omega) rfl rfl rfl r1
  have e2 : loopM (c4 (F_nameFold.l1 (R n))) [.slice (some ⟨H.length, 0, none⟩) s.length s.length, .slice (some ⟨H.length, 0, none⟩) s.length s.length, iv s.length, .int .i64 0] H1 = _ := e2
  refine ⟨H2, ?_, (k1.more s2 hnl).1⟩
  rw [R, run_nameFold rfl]
  unfold F_nameFold
  have hl : lenS (.slice (some ⟨H.length, 0, none⟩) s.length s.length) H1 = some (iv s.length, H1) := rfl
  rw [bind_eq e1, bind_eq hl, jn_ext e2, xk_hit, c1_r, bind_eq (b2s_v r2.rd)]
  rfl

/-! the document's -/

def greatL : List UInt8 := [65, 66, 67, 68, 69, 70, 71, 72, 73, 74, 75, 76, 77, 78, 79, 80, 81, 82, 83, 84, 85, 86, 87, 88, 89, 90]

theorem great_fold : ∀ k < 26, ∀ b, greatL[k]? = some b → lettersL[k]? = some (foldB b) := by
  intro k hk b hb
  have : ∀ k < 26, (greatL[k]?).map foldB = lettersL[k]? := by decide
  rw [← this k hk, hb]; rfl
theorem great_in : ∀ b : UInt8, (if greatL.contains b then foldB b else b) = foldB b := u8_all (by decide +kernel)

theorem sls_lh {i j : Nat} (hij : i ≤ j) (hj : j ≤ s.length) : sls (strv s) (some (iv i)) (some (iv j)) H = some (strv ((s.take j).drop i), H) := by
  have h1 : (⟨s.toArray⟩ : ByteArray).size = s.length := by simp [ByteArray.size]
  have h2 : (⟨s.toArray⟩ : ByteArray).extract i j = ⟨((s.take j).drop i).toArray⟩ := by
    apply ByteArray.ext
    rw [ByteArray.data_extract]
    simp [List.drop_take]
  have hb : ∀ k : Nat, ∀ d, bnd (some (iv k)) d = some k := fun k d => by simp [bnd]
  unfold strv sls
  simp only [h1, hb]
  rw [if_pos ⟨hij, hj⟩, h2]

theorem sls_l {i : Nat} (hi : i ≤ s.length) : sls (strv s) (some (iv i)) none H = some (strv (s.drop i), H) := by
  have h1 : (⟨s.toArray⟩ : ByteArray).size = s.length := by simp [ByteArray.size]
  have h2 : (⟨s.toArray⟩ : ByteArray).extract i s.length = ⟨(s.drop i).toArray⟩ := by
    apply ByteArray.ext
    rw [ByteArray.data_extract]
    simp [List.take_of_length_le]
  have hb : ∀ k : Nat, ∀ d, bnd (some (iv k)) d = some k := fun k d => by simp [bnd]
  have hb0 : ∀ d, bnd none d = some d := fun _ => rfl
  unfold strv sls
  simp only [h1, hb, hb0]
  rw [if_pos ⟨hi, Nat.le_refl _⟩, h2]

theorem one_at {k : Nat} {b : UInt8} (h : s[k]? = some b) : (s.take (k + 1)).drop k = [b] := by
  have hk := (List.getElem?_eq_some_iff.1 h).1
  rw [List.take_succ_eq_append_getElem hk, (List.getElem?_eq_some_iff.1 h).2, List.drop_append_of_le_length (by rw [List.length_take]; omega), List.drop_eq_nil_of_le (by rw [List.length_take]; omega)]
  rfl

theorem rfold2_do {i : Nat} {b : UInt8} (hi : s[i]? = some b) (hs : s.length ≤ 1000000) : ∀ (t k : Nat) (cur : UInt8) (z1 : Value), 26 - k = t → k ≤ 26 →
    loopM (c6 (F_ref05Fold.l2 (R n))) [strv s, strv greatL, z1, iv i, strv [cur], iv k] X = some (.ext 2 [strv s, strv greatL, z1, iv i, strv [if (greatL.drop k).contains b then foldB b else cur]], X)
  | 0, k, cur, z1, ht, hk => by
    have : k = 26 := by omega
    subst this
    refine loop_ext ?_
    rw [c6_r]
    unfold F_ref05Fold.l2
    rw [bind_eq lss_r, cnd_b, if_neg (by decide)]
    rfl
  | t + 1, k, cur, z1, ht, hk => by
    have hkl : k < greatL.length := by show k < 26; omega
    have hlt : (k : Int) < 26 := by omega
    have hg := List.getElem?_eq_getElem hkl
    have hd := List.drop_eq_getElem_cons hkl
    generalize greatL[k] = g at hg hd
    have x1 := ixs_v hi .i64 X
    have x2 := ixs_v hg .i64 X
    have hgf := great_fold k (by omega) g hg
    rw [hd, List.contains_cons]
    by_cases hb : b = g
    · subst hb
      have e3 : sls (strv lettersL) (some (iv k)) (some (iv ((k + 1 : Nat) : Int))) X = some (strv [foldB b], X) := by
        rw [sls_lh (by omega) (by show k + 1 ≤ 26; omega), one_at hgf]
      have e3 : sls (.string ⟨#[97, 98, 99, 100, 101, 102, 103, 104, 105, 106, 107, 108, 109, 110, 111, 112, 113, 114, 115, 116, 117, 118, 119, 120, 121, 122]⟩) (some (iv k)) (some (iv ((k + 1 : Nat) : Int))) X = some (strv [foldB b], X) := e3
      refine (loop_next ?_).trans ((rfold2_do hi hs t (k + 1) (foldB b) z1 (by omega) (by omega)).trans (by simp))
      rw [c6_r]
      unfold F_ref05Fold.l2
      rw [bind_eq lss_r, cnd_b, if_pos (by simpa using hlt), bind_eq x1, bind_eq x2, bind_eq eql_r, u8_beq]
      refine (jn_nrm (vs := [strv s, strv greatL, z1, iv i, strv [foldB b], iv k]) (H' := X) ?_).trans ?_
      · rw [cnd_b, if_pos (by simp), bind_eq add_r, wsuc (by omega), bind_eq e3]; rfl
      · rw [c6_r, bind_eq add_r, wsuc (by omega)]; rfl
    · have hbf : (b == g) = false := beq_eq_false_iff_ne.2 hb
      rw [hbf, Bool.false_or]
      refine (loop_next ?_).trans (rfold2_do hi hs t (k + 1) cur z1 (by omega) (by omega))
      rw [c6_r]
      unfold F_ref05Fold.l2
      rw [bind_eq lss_r, cnd_b, if_pos (by simpa using hlt), bind_eq x1, bind_eq x2, bind_eq eql_r, u8_beq, hbf]
      refine (jn_nrm (vs := [strv s, strv greatL, z1, iv i, strv [cur], iv k]) (H' := X) ?_).trans ?_
      · rw [cnd_b, if_neg (by simp)]; rfl
      · rw [c6_r, bind_eq add_r, wsuc (by omega)]; rfl

theorem rfold1_do (hs : s.length ≤ 1000000) : ∀ (t k : Nat), s.length - k = t → k ≤ s.length →
    loopM (c4 (F_ref05Fold.l1 (R n))) [strv s, strv greatL, strv ((s.take k).map foldB), iv k] X = some (.ext 0 [strv (foldL s)], X)
  | 0, k, ht, hk => by
    have : k = s.length := by omega
    subst this
    rw [List.take_length]
    refine loop_ext ?_
    rw [c4_r]
    unfold F_ref05Fold.l1
    rw [bind_eq lenT_v, bind_eq lss_r, cnd_b, if_neg (by simp)]
    rfl
  | t + 1, k, ht, hk => by
    have hkl : k < s.length := by omega
    have hlt : (k : Int) < s.length := by omega
    have hg := List.getElem?_eq_getElem hkl
    have htk := List.take_succ_eq_append_getElem hkl
    generalize s[k] = b at hg htk
    have e1 : sls (strv s) (some (iv k)) (some (iv ((k + 1 : Nat) : Int))) X = some (strv [b], X) := by rw [sls_lh (by omega) (by omega), one_at hg]
    have e2 := rfold2_do (n := n) (X := X) hg hs 26 0 b (strv ((s.take k).map foldB)) rfl (by omega)
    rw [List.drop_zero, great_in] at e2
    have e2 : loopM (c6 (F_ref05Fold.l2 (R n))) [strv s, strv greatL, strv ((s.take k).map foldB), iv k, strv [b], .int .i64 0] X = _ := e2
    have e3 := adds_v (a := (s.take k).map foldB) (b := [foldB b]) (H := X) (by simp; omega)
    refine (loop_next ?_).trans (rfold1_do hs t (k + 1) (by omega) (by omega))
    rw [c4_r]
    unfold F_ref05Fold.l1
    rw [bind_eq lenT_v, bind_eq lss_r, cnd_b, if_pos (by simpa using hlt), bind_eq add_r, wsuc (by omega), bind_eq e1, jn_ext e2, xk_hit, c5_r, bind_eq e3, bind_eq add_r, wsuc (by omega), htk, List.map_append]
    rfl

theorem r_refFold (hs : s.length ≤ 1000000) : R (n + 1) n_ref05Fold [strv s] H = some (strv (foldL s), H) := by
  have e := rfold1_do (n := n) (X := H) hs s.length 0 (by omega) (by omega)
  have e : loopM (c4 (F_ref05Fold.l1 (R n))) [strv s, .string ⟨#[65, 66, 67, 68, 69, 70, 71, 72, 73, 74, 75, 76, 77, 78, 79, 80, 81, 82, 83, 84, 85, 86, 87, 88, 89, 90]⟩, .string ⟨#[]⟩, .int .i64 0] H = _ := e
  rw [R, run_ref05Fold rfl]
  unfold F_ref05Fold
  rw [jn_ext e, xk_hit]
  rfl

end

end Go.Proofs.YtmacmlpiheimhaaDoor.A

/- Addresses: the program's and the document's. -/
namespace Go.Proofs.YtmacmlpiheimhaaDoor.A
set_option linter.unusedVariables false
set_option linter.unusedSimpArgs false
open Go.Proofs Go.Proofs.YtmacmlpiheimhaaDoor

/-! texts are split: the plain law -/

def splitC (c : UInt8) : List UInt8 → List (List UInt8)
  | [] => [[]]
  | b :: l => if b = c then [] :: splitC c l else match splitC c l with
    | h :: t => (b :: h) :: t
    | [] => [[b]]

theorem splitC_ne {c : UInt8} : ∀ {s : List UInt8}, splitC c s ≠ []
  | [] => by simp [splitC]
  | b :: s => by
    unfold splitC
    split
    · simp
    · split <;> simp

theorem splitC_out {c : UInt8} : ∀ {s : List UInt8}, c ∉ s → splitC c s = [s]
  | [], _ => rfl
  | b :: s, h => by
    simp only [List.mem_cons, not_or] at h
    unfold splitC
    rw [if_neg (Ne.symm h.1), splitC_out h.2]

theorem splitC_in {c : UInt8} : ∀ {s : List UInt8}, c ∈ s → splitC c s = s.takeWhile (· != c) :: splitC c (s.drop ((s.takeWhile (· != c)).length + 1))
  | [], h => by cases h
  | b :: s, h => by
    rw [show splitC c (b :: s) = (if b = c then [] :: splitC c s else match splitC c s with | h :: t => (b :: h) :: t | [] => [[b]]) from rfl]
    by_cases hb : b = c
    · subst hb
      rw [if_pos rfl]
      simp
    · rw [if_neg hb]
      have hm : c ∈ s := by
        rcases List.mem_cons.1 h with h | h
        · exact absurd h.symm hb
        · exact h
      rw [splitC_in hm]
      have h2 : (b != c) = true := by simp [hb]
      simp [List.takeWhile_cons, h2]

theorem splitC_len {c : UInt8} : ∀ {s : List UInt8}, (splitC c s).length = s.count c + 1
  | [] => rfl
  | b :: s => by
    have ih := splitC_len (c := c) (s := s)
    unfold splitC
    by_cases hb : b = c
    · subst hb
      rw [if_pos rfl, List.length_cons, ih, List.count_cons_self]
    · rw [if_neg hb, List.count_cons_of_ne (by simpa using hb)]
      cases h : splitC c s with
      | nil => exact absurd h splitC_ne
      | cons a t => rw [h] at ih; simpa using ih

theorem count_tw {c : UInt8} : ∀ {s : List UInt8}, c ∈ s → s.count c = (s.drop ((s.takeWhile (· != c)).length + 1)).count c + 1 := by
  intro s h
  have h1 := splitC_len (c := c) (s := s)
  rw [splitC_in h, List.length_cons, splitC_len] at h1
  omega

def lblB (l : List UInt8) : Bool := !(l == []) && l.all alnumB
def domM (f : List UInt8) : List UInt8 := if 64 ∈ f then f.drop ((f.takeWhile (· != 64)).length + 1) else []
def okM (f : List UInt8) : Bool := decide (64 ∈ f) && (nameB (f.takeWhile (· != 64)) && (decide (2 ≤ (splitC 46 (domM f)).length) && (splitC 46 (domM f)).all lblB))
def mailB (s : List UInt8) : Bool := decide (s.length ≤ 20) && okM (foldL s)

def scanM : List UInt8 → Nat → Nat → Option (Nat × Nat)
  | [], st, lg => some (st, lg)
  | c :: l, st, lg => if c = 46 then (if lg = 0 then none else scanM l (st + 1) 0) else if alnumB c then scanM l st (lg + 1) else none
def scanOk (l : List UInt8) (st lg : Nat) : Bool := match scanM l st lg with
  | some (a, b) => decide (a ≠ 0) && decide (b ≠ 0)
  | none => false
def firstOk (lg : Nat) : List (List UInt8) → Bool
  | h :: t => (h.all alnumB && decide (lg + h.length ≠ 0)) && t.all lblB
  | [] => false

theorem scan_eq : ∀ (l : List UInt8) (st lg : Nat), scanOk l st lg = (decide (st + (splitC 46 l).length ≠ 1) && firstOk lg (splitC 46 l))
  | [], st, lg => by simp [scanOk, scanM, splitC, firstOk]
  | c :: l, st, lg => by
    unfold scanOk scanM splitC
    by_cases hc : c = 46
    · rw [if_pos hc, if_pos hc]
      by_cases hl : lg = 0
      · simp [hl, firstOk]
      · rw [if_neg hl]
        have ih := scan_eq l (st + 1) 0
        unfold scanOk at ih
        rw [ih]
        have hne := splitC_ne (c := 46) (s := l)
        cases hsp : splitC 46 l with
        | nil => exact absurd hsp hne
        | cons h t =>
          have h1 : decide (st + 1 + (h :: t).length ≠ 1) = true := by simp; omega
          have h2 : decide (st + ([] :: h :: t).length ≠ 1) = true := by simp; omega
          rw [h1, h2]
          simp only [firstOk, List.all_nil, List.all_cons, lblB, List.length_nil, Nat.zero_add, Nat.add_zero, Bool.true_and]
          have h3 : decide (lg ≠ 0) = true := by simp [hl]
          rw [h3, Bool.true_and]
          have h4 : (!(h == [])) = decide (h.length ≠ 0) := by cases h <;> simp
          rw [h4, Bool.and_comm (h.all alnumB)]
    · rw [if_neg hc, if_neg hc]
      cases hsp : splitC 46 l with
      | nil => exact absurd hsp splitC_ne
      | cons h t =>
        cases ha : alnumB c
        · simp [firstOk, ha]
        · have ih := scan_eq l st (lg + 1)
          unfold scanOk at ih
          simp only [if_true]
          rw [ih, hsp]
          have e : ∀ x : Nat, lg + 1 + x = lg + (x + 1) := fun x => by omega
          simp [firstOk, ha, e]

theorem scan_all {l : List UInt8} : scanOk l 0 0 = (decide (2 ≤ (splitC 46 l).length) && (splitC 46 l).all lblB) := by
  rw [scan_eq]
  cases hsp : splitC 46 l with
  | nil => exact absurd hsp splitC_ne
  | cons h t =>
    have h1 : decide (0 + (h :: t).length ≠ 1) = decide (2 ≤ (h :: t).length) := by
      rw [decide_eq_decide]
      have : (h :: t).length = t.length + 1 := rfl
      omega
    rw [h1]
    have h4 : (!(h == [])) = decide (h.length ≠ 0) := by cases h <;> simp
    simp only [firstOk, List.all_cons, lblB, Nat.zero_add, h4]
    rw [Bool.and_comm (h.all alnumB)]

/-! texts are searched -/

section
variable {H X : Heap} {n : Nat} {s : List UInt8} {c : UInt8}

theorem run_idx {args : List Value} : run Tryd.prog np lvs (n + 1) n_internalBytealgIndexByteString args = idxBM args := run_prim (show np n_internalBytealgIndexByteString = some idxBM from rfl)
theorem run_cnt {args : List Value} : run Tryd.prog np lvs (n + 1) n_internalBytealgCountString args = cntBM args := run_prim (show np n_internalBytealgCountString = some cntBM from rfl)

theorem r_index1 : R (n + 3) n_internalStringsliteIndex [strv s, strv [c]] H = some (iv (Go.Lib.indexByte s c), H) := by
  have e1 : run Tryd.prog np lvs (n + 2) n_internalStringsliteIndexByte [strv s, u8v c] H = some (iv (Go.Lib.indexByte s c), H) := by
    have e0 : run Tryd.prog np lvs (n + 1) n_internalBytealgIndexByteString [strv s, u8v c] H = some (iv (Go.Lib.indexByte s c), H) := by rw [run_idx]; exact idxB_v
    rw [run_internalStringsliteIndexByte rfl]
    unfold F_internalStringsliteIndexByte
    rw [bind_eq e0]
    rfl
  have q0 : bop .int .eql (iv [c].length) (.int .i64 0) H = some (.bool false, H) := by rw [eql_r]; rfl
  have q1 : bop .int .eql (iv [c].length) (.int .i64 1) H = some (.bool true, H) := by rw [eql_r]; rfl
  have x1 : ixs (strv [c]) (.int .i64 0) H = some (u8v c, H) := ixs_v (s := [c]) (i := 0) rfl .i64 H
  rw [R, run_internalStringsliteIndex rfl]
  unfold F_internalStringsliteIndex
  rw [bind_eq lenT_v, bind_eq q0, b_g_in, b_assoc, bind_eq eqs_v, b_ret, c3_r, bind_eq pick_r]
  simp only [cond_false]
  by_cases h : s = [c]
  · subst h
    rw [cnd_b, if_pos (by simp)]
    unfold Go.Lib.indexByte
    simp [ret]
  · rw [cnd_b, if_neg (by simp; exact fun e => h e.symm), bind_eq q1, cnd_b, if_pos rfl, bind_eq x1, bind_eq e1]
    rfl

theorem r_index2 : R (n + 4) n_stringsIndex [strv s, strv [c]] H = some (iv (Go.Lib.indexByte s c), H) := by
  have e1 : run Tryd.prog np lvs (n + 3) n_internalStringsliteIndex [strv s, strv [c]] H = _ := r_index1
  rw [R, run_stringsIndex rfl]
  unfold F_stringsIndex
  rw [bind_eq e1]
  rfl

theorem r_count : R (n + 2) n_stringsCount [strv s, strv [c]] H = some (iv (s.count c), H) := by
  have e0 : run Tryd.prog np lvs (n + 1) n_internalBytealgCountString [strv s, u8v c] H = some (iv (s.count c), H) := by rw [run_cnt]; exact cntB_v
  have q0 : bop .int .eql (iv [c].length) (.int .i64 0) H = some (.bool false, H) := by rw [eql_r]; rfl
  have q1 : bop .int .eql (iv [c].length) (.int .i64 1) H = some (.bool true, H) := by rw [eql_r]; rfl
  have x1 : ixs (strv [c]) (.int .i64 0) H = some (u8v c, H) := ixs_v (s := [c]) (i := 0) rfl .i64 H
  rw [R, run_stringsCount rfl]
  unfold F_stringsCount
  rw [bind_eq lenT_v, bind_eq q0, cnd_b, if_neg (by simp), bind_eq lenT_v, bind_eq q1, cnd_b, if_pos rfl, bind_eq x1, bind_eq e0]
  rfl

theorem tw_len {s : List UInt8} {c : UInt8} (h : c ∈ s) : (s.takeWhile (· != c)).length < s.length := by
  rcases Nat.lt_or_ge (s.takeWhile (· != c)).length s.length with h1 | h1
  · exact h1
  · have h2 : s.takeWhile (· != c) = s := by
      have := List.takeWhile_prefix (p := (· != c)) (l := s)
      exact this.eq_of_length (by have := this.length_le; omega)
    have h3 := List.all_eq_true.1 (List.all_takeWhile (p := (· != c)) (l := s)) c (by rw [h2]; exact h)
    simp at h3

theorem tw_take {s : List UInt8} {p : UInt8 → Bool} : s.take (s.takeWhile p).length = s.takeWhile p :=
  (List.prefix_iff_eq_take.1 (List.takeWhile_prefix p)).symm

theorem r_cut (hs : s.length ≤ 1000000) : R (n + 5) n_stringsCut [strv s, strv [c]] H = some (if c ∈ s then .tuple #[strv (s.takeWhile (· != c)), strv (s.drop ((s.takeWhile (· != c)).length + 1)), .bool true] else .tuple #[strv s, strv [], .bool false], H) := by
  have e1 : run Tryd.prog np lvs (n + 3) n_internalStringsliteIndex [strv s, strv [c]] H = _ := r_index1
  have e2 : run Tryd.prog np lvs (n + 4) n_internalStringsliteCut [strv s, strv [c]] H = some (if c ∈ s then .tuple #[strv (s.takeWhile (· != c)), strv (s.drop ((s.takeWhile (· != c)).length + 1)), .bool true] else .tuple #[strv s, strv [], .bool false], H) := by
    rw [run_internalStringsliteCut rfl]
    unfold F_internalStringsliteCut
    rw [bind_eq e1, indexByte_take, bind_eq geq_r, cnd_b]
    by_cases h : c ∈ s
    · have hl := tw_len h
      have w : IntKind.i64.wrap (((s.takeWhile (· != c)).length : Int) + (([c] : List UInt8).length : Nat)) = (((s.takeWhile (· != c)).length + 1 : Nat) : Int) := wsuc (by omega)
      rw [if_pos h, if_pos (by simp), bind_eq (sls_v (by omega)), tw_take, bind_eq lenT_v, bind_eq add_r, w, bind_eq (sls_l (by omega)), if_pos h]
      rfl
    · rw [if_neg h, if_neg (by decide), if_neg h]
      rfl
  rw [R, run_stringsCut rfl]
  unfold F_stringsCut
  rw [bind_eq e2]
  by_cases h : c ∈ s
  · rw [if_pos h]; rfl
  · rw [if_neg h]; rfl

theorem split_do {v : Value} {q : List Nat} {N : Nat} (hN : N ≤ 1000001) : ∀ (t i : Nat) (s : List UInt8) (cs : List (List UInt8)) (X : Heap), N - 1 - i = t → i < N → s.length ≤ 1000000 → s.count c + 1 + i = N → cs.length = N → RowS X v (cs.map strv) q →
    ∃ (X' : Heap) (s' : List UInt8) (cs' : List (List UInt8)), loopM (c6 (F_stringsGenSplit.l1 (R (n + 4)))) [strv s, strv [c], iv 0, iv ((N - 1 : Nat) : Int), v, iv i] X = some (.ext 0 [strv s', v, iv ((N - 1 : Nat) : Int)], X') ∧ RowS X' v (cs'.map strv) q ∧ cs'.length = N ∧ cs'.take (N - 1) ++ [s'] = cs.take i ++ splitC c s ∧ Step q X q X'
  | 0, i, s, cs, X, ht, hi, hs, hc, hl, hr => by
    have hi2 : i = N - 1 := by omega
    subst hi2
    have hcs : c ∉ s := by
      intro h
      have := List.count_pos_iff.2 h
      omega
    refine ⟨X, s, cs, loop_ext ?_, hr, hl, by rw [splitC_out hcs], .refl _ _⟩
    rw [c6_r]
    unfold F_stringsGenSplit.l1
    rw [bind_eq lss_r, cnd_b, if_neg (by simp)]
    rfl
  | t + 1, i, s, cs, X, ht, hi, hs, hc, hl, hr => by
    have hlt : (i : Int) < ((N - 1 : Nat) : Int) := by omega
    have hcs : c ∈ s := List.count_pos_iff.1 (by omega)
    have htl := tw_len hcs
    have hct := count_tw hcs
    have e1 : R (n + 4) n_stringsIndex [strv s, strv [c]] X = _ := r_index2
    rw [indexByte_take, if_pos hcs] at e1
    have w0 : IntKind.i64.wrap (((s.takeWhile (· != c)).length : Int) + 0) = ((s.takeWhile (· != c)).length : Int) := by rw [Int.add_zero]; exact w64 (by omega) (by omega)
    have w : IntKind.i64.wrap (((s.takeWhile (· != c)).length : Int) + (([c] : List UInt8).length : Nat)) = (((s.takeWhile (· != c)).length + 1 : Nat) : Int) := wsuc (by omega)
    have x1 := hr.ix (i := i) (by simp; omega) .i64 X
    obtain ⟨X1, x2, r1, s1, _⟩ := hr.stx (i := i) (u := strv (s.takeWhile (· != c))) (by simp; omega) rfl
    rw [show (cs.map strv).set i (strv (s.takeWhile (· != c))) = (cs.set i (s.takeWhile (· != c))).map strv from by rw [List.map_set]] at r1
    obtain ⟨X', s', cs', e2, r2, l2, h2, s2⟩ := split_do hN t (i + 1) (s.drop ((s.takeWhile (· != c)).length + 1)) (cs.set i (s.takeWhile (· != c))) X1 (by omega) (by omega) (by simp; omega) (by omega) (by simpa using hl) r1
    refine ⟨X', s', cs', (loop_next ?_).trans e2, r2, l2, ?_, s1.trans s2⟩
    · have q1 : bop .int .lss (iv ((s.takeWhile (· != c)).length : Nat)) (.int .i64 0) X = some (.bool false, X) := by rw [lss_r, decide_eq_false (by omega)]
      rw [c6_r]
      unfold F_stringsGenSplit.l1
      rw [bind_eq lss_r, cnd_b, if_pos (by simpa using hlt), bind_eq e1, bind_eq q1, cnd_b, if_neg (by simp), bind_eq add_r, w0, bind_eq (sls_v (by omega)), tw_take, bind_eq x1, bind_eq x2, bind_eq lenT_v, bind_eq add_r, w, bind_eq (sls_l (by omega)), bind_eq add_r, wsuc (by omega)]
      rfl
    · have h5 : i < (cs.set i (s.takeWhile (· != c))).length := by simp; omega
      rw [h2, splitC_in hcs, List.take_succ_eq_append_getElem h5, List.take_set_of_le (Nat.le_refl _)]
      simp

theorem r_split (hs : s.length ≤ 1000000) : ∃ X' v q, R (n + 6) n_stringsSplit [strv s, strv [c]] X = some (v, X') ∧ RowS X' v ((splitC c s).map strv) q ∧ HLe X X' := by
  have hcl : s.count c ≤ s.length := List.count_le_length
  have e0 : run Tryd.prog np lvs (n + 4) n_stringsCount [strv s, strv [c]] X = _ := r_count (n := n + 2)
  have w1 : IntKind.i64.wrap ((s.count c : Int) + 1) = ((s.count c + 1 : Nat) : Int) := wsuc (by omega)
  have w2 : IntKind.i64.wrap ((s.length : Int) + 1) = ((s.length + 1 : Nat) : Int) := wsuc (by omega)
  have q0 : bop .int .eql (.int .i64 (-1)) (.int .i64 0) X = some (.bool false, X) := by rw [eql_r]; rfl
  have q1 : bop .str .eql (strv [c]) (.string ⟨#[]⟩) X = some (.bool false, X) := eqs_v (b := [])
  have q2 : bop .int .lss (.int .i64 (-1)) (.int .i64 0) X = some (.bool true, X) := by rw [lss_r]; rfl
  have hm : mxi false (iv ((s.count c + 1 : Nat) : Int)) (iv ((s.length + 1 : Nat) : Int)) X = some (iv ((s.count c + 1 : Nat) : Int), X) := by rw [mn_r, if_neg (by omega)]
  have e1 := mks_1 (k := s.count c + 1) (b := 16) (z := .string ⟨#[]⟩) (H := X) rfl (by omega) (by omega)
  have k1 : HLe X (X ++ [.cells (List.replicate (s.count c + 1) (Value.string ⟨#[]⟩)) 1 false false]) := .app _ _
  have r1 : RowS (X ++ [.cells (List.replicate (s.count c + 1) (Value.string ⟨#[]⟩)) 1 false false]) (.slice (some ⟨X.length, 0, none⟩) (s.count c + 1) (s.count c + 1)) ((List.replicate (s.count c + 1) ([] : List UInt8)).map strv) [X.length] := by
    rw [List.map_replicate]
    exact RowS.new app_new
  have ho : ∀ j ∈ [X.length], X.length ≤ j := by simp
  generalize X ++ [AObj.cells (List.replicate (s.count c + 1) (Value.string ⟨#[]⟩)) 1 false false] = X1 at e1 k1 r1
  generalize hv : Value.slice (some ⟨X.length, 0, none⟩) (s.count c + 1) (s.count c + 1) = v at e1 r1
  have w3 : IntKind.i64.wrap (((s.count c + 1 : Nat) : Int) - 1) = ((s.count c + 1 - 1 : Nat) : Int) := wpred (by omega) (by omega)
  obtain ⟨X2, s', cs', e2, r2, l2, h2, s2⟩ := split_do (n := n) (c := c) (N := s.count c + 1) (by omega) (s.count c + 1 - 1 - 0) 0 s _ X1 rfl (by omega) hs (by omega) (by simp) r1
  have e2 : loopM (c6 (F_stringsGenSplit.l1 (R (n + 4)))) [strv s, strv [c], .int .i64 0, iv ((s.count c + 1 - 1 : Nat) : Int), v, .int .i64 0] X1 = _ := e2
  have x1 := r2.ix (i := s.count c + 1 - 1) (by simp; omega) .i64 X2
  obtain ⟨X3, x2, r3, s3, _⟩ := r2.stx (i := s.count c + 1 - 1) (u := strv s') (by simp; omega) rfl
  have hfin : (cs'.set (s.count c + 1 - 1) s') = splitC c s := by
    have h6 : s.count c + 1 - 1 < cs'.length := by omega
    rw [← List.take_append_drop (s.count c + 1 - 1) (cs'.set (s.count c + 1 - 1) s'), List.take_set_of_le (Nat.le_refl _), List.drop_set]
    rw [if_neg (by omega), Nat.sub_self]
    have hd : (cs'.drop (s.count c + 1 - 1)).length = 1 := by simp; omega
    obtain ⟨a, ha⟩ := List.length_eq_one_iff.1 hd
    rw [ha, List.set_cons_zero, h2]
    rfl
  rw [show (cs'.map strv).set (s.count c + 1 - 1) (strv s') = (cs'.set (s.count c + 1 - 1) s').map strv from by rw [List.map_set], hfin] at r3
  have hlen : ((splitC c s).map strv).length = s.count c + 1 := by rw [List.length_map, splitC_len]
  have x3 : ∃ v', slv 1 v none (some (iv ((s.count c + 1 : Nat) : Int))) none X3 = some (v', X3) ∧ RowS X3 v' ((splitC c s).map strv) [X.length] := by
    rcases r3 with ⟨h, _, _⟩ | ⟨sid, rest, g, h1, h3, h4⟩
    · rw [h] at hlen; simp at hlen
    · rw [hlen] at h1
      refine ⟨.slice (some ⟨sid, 0, none⟩) (s.count c + 1) (s.count c + 1 + rest.length), ?_, .inr ⟨sid, rest, g, by rw [hlen], h3, h4⟩⟩
      have b1 : bnd (some (iv ((s.count c + 1 : Nat) : Int))) (s.count c + 1) = some (s.count c + 1) := by simp [bnd]; omega
      have b2 : ∀ d, bnd none d = some d := fun _ => rfl
      rw [h1]
      simp only [slv, h4, b1, b2]
      rw [if_pos ⟨trivial, by omega, by omega, Nat.le_refl _⟩, if_neg (by omega)]
      simp
  obtain ⟨v', x3, r4⟩ := x3
  have w4 : IntKind.i64.wrap (((s.count c + 1 - 1 : Nat) : Int) + 1) = ((s.count c + 1 : Nat) : Int) := by rw [wsuc (by omega)]; congr 1
  have e3 : run Tryd.prog np lvs (n + 5) n_stringsGenSplit [strv s, strv [c], .int .i64 0, .int .i64 (-1)] X = some (v', X3) := by
    rw [run_stringsGenSplit rfl]
    unfold F_stringsGenSplit
    rw [bind_eq q0, cnd_b, if_neg (by simp), bind_eq q1, cnd_b, if_neg (by simp), bind_eq q2]
    refine (jn_nrm (vs := [strv s, strv [c], .int .i64 0, iv ((s.count c + 1 : Nat) : Int)]) (H' := X) ?_).trans ?_
    · rw [cnd_b, if_pos rfl, bind_eq e0, bind_eq add_r, w1]; rfl
    · rw [c4_r, bind_eq lenT_v, bind_eq add_r, w2, bind_eq hm, bind_eq e1, bind_eq sub_r, w3]
      refine (jn_nrm (vs := [strv s', v, iv ((s.count c + 1 - 1 : Nat) : Int)]) (H' := X2) ?_).trans ?_
      · rw [jn_ext e2, xk_hit, c3_r]; rfl
      · rw [c3_r, bind_eq x1, bind_eq x2, bind_eq add_r, w4, bind_eq x3]; rfl
  refine ⟨X3, v', [X.length], ?_, r4, (k1.more (s2.trans s3) ho).1⟩
  rw [R, run_stringsSplit rfl]
  unfold F_stringsSplit
  rw [bind_eq e3]
  rfl

end

end Go.Proofs.YtmacmlpiheimhaaDoor.A

/- Addresses. -/
namespace Go.Proofs.YtmacmlpiheimhaaDoor.A
set_option linter.unusedVariables false
set_option linter.unusedSimpArgs false
open Go.Proofs Go.Proofs.YtmacmlpiheimhaaDoor

section
variable {H X : Heap} {n : Nat} {s f : List UInt8} {c : UInt8}

theorem r_alnum {b : UInt8} : R (n + 2) n_nameMail1 [u8v b] H = some (.bool (alnumB b), H) := by
  have e1 : run Tryd.prog np lvs (n + 1) n_nameLetter [u8v b] H = some (.bool (letterB b), H) := r_letter
  have e2 : run Tryd.prog np lvs (n + 1) n_nameDigit [u8v b] H = some (.bool (digitB b), H) := r_digit
  rw [R, run_nameMail1 rfl]
  unfold alnumB F_nameMail1
  rw [bind_eq e1]
  cases letterB b
  · rw [b_g_in, b_assoc, bind_eq e2, b_ret, c2_r, bind_eq pick_r]
    rfl
  · rw [bind_eq (g_r.trans (if_neg (by simp)))]
    simp only [List.replicate]
    rw [c2_r, bind_eq pick_r]
    rfl

theorem r_allAlnum (hs : s.length ≤ 1000000000) : R (n + 3) n_nameAll [strv s, .func (.func n_nameMail1) #[] #[]] H = some (.bool (s.all alnumB), H) :=
  r_all (fun b H => by rw [call_f]; exact r_alnum) hs

theorem lbl_do {v : Value} {q : List Nat} {ls : List (List UInt8)} (hl : ls.length ≤ 1000) (hb : ∀ l ∈ ls, l.length ≤ 1000000) (hr : RowS X v (ls.map strv) q) : ∀ (t k : Nat), ls.length - k = t → k ≤ ls.length →
    loopM (c4 (F_nameMail.l1 (R (n + 3)))) [strv f, v, iv ls.length, iv k] X = some (if (ls.drop k).all lblB then .ext 0 [strv f] else .ret (.tuple #[strv [], iv 11]), X)
  | 0, k, ht, hk => by
    have : k = ls.length := by omega
    subst this
    rw [List.drop_length]
    refine loop_ext ?_
    rw [c4_r]
    unfold F_nameMail.l1
    rw [bind_eq lss_r, cnd_b, if_neg (by simp)]
    rfl
  | t + 1, k, ht, hk => by
    have hkl : k < ls.length := by omega
    have hlt : (k : Int) < ls.length := by omega
    have hg := List.getElem?_eq_getElem hkl
    have hm := List.getElem_mem hkl
    have hd := List.drop_eq_getElem_cons hkl
    generalize ls[k] = l at hg hd hm
    have x1 := hr.ix (i := k) (by simpa using hkl) .i64 X
    have x2 := hr.ldx (row_at hg)
    have e1 : R (n + 3) n_nameAll [strv l, .func (.func n_nameMail1) #[] #[]] X = some (.bool (l.all alnumB), X) := r_allAlnum (Nat.le_trans (hb l hm) (by decide))
    have ih := lbl_do hl hb hr t (k + 1) (by omega) (by omega)
    have q1 : bop .str .eql (strv l) (.string ⟨#[]⟩) X = some (.bool (l == []), X) := eqs_v (b := [])
    have hb1 : c4 (F_nameMail.l1 (R (n + 3))) [strv f, v, iv ls.length, iv k] X = some (if lblB l then .nrm [strv f, v, iv ls.length, iv ((k + 1 : Nat) : Int)] else .ret (.tuple #[strv [], iv 11]), X) := by
      rw [c4_r]
      unfold F_nameMail.l1 lblB
      rw [bind_eq lss_r, cnd_b, if_pos (by simpa using hlt), bind_eq x1, bind_eq x2, bind_eq q1]
      cases l == []
      · rw [b_g_in, b_assoc, bind_eq e1, b_assoc, bind_eq not_r, b_ret, c3_r, bind_eq pick_r]
        simp only [cond_false]
        cases l.all alnumB
        · rw [cnd_b, if_pos (by rfl)]; rfl
        · rw [cnd_b, if_neg (by simp), bind_eq add_r, wsuc (by omega)]; rfl
      · rw [bind_eq (g_r.trans (if_neg (by simp)))]
        simp only [List.replicate]
        rw [c3_r, bind_eq pick_r]
        simp only [cond_true]
        rw [cnd_b, if_pos rfl]
        rfl
    rw [hd, List.all_cons]
    cases hlb : lblB l
    · rw [hlb] at hb1
      exact loop_ret hb1
    · rw [hlb] at hb1
      rw [Bool.true_and]
      exact (loop_next hb1).trans ih

theorem splitC_each {c : UInt8} : ∀ {s : List UInt8}, ∀ l ∈ splitC c s, l.length ≤ s.length
  | [], l, h => by simp [splitC] at h; simp [h]
  | b :: s, l, h => by
    rw [show splitC c (b :: s) = (if b = c then [] :: splitC c s else match splitC c s with | h :: t => (b :: h) :: t | [] => [[b]]) from rfl] at h
    split at h
    · rcases List.mem_cons.1 h with rfl | h
      · simp
      · have := splitC_each l h
        simp; omega
    · cases hsp : splitC c s with
      | nil => exact absurd hsp splitC_ne
      | cons a t =>
        rw [hsp] at h
        rcases List.mem_cons.1 h with rfl | h
        · have := splitC_each (c := c) (s := s) a (by rw [hsp]; simp)
          simpa using this
        · have := splitC_each (c := c) (s := s) l (by rw [hsp]; simp [h])
          simp; omega

theorem foldL_len : (foldL s).length = s.length := by simp [foldL]

theorem r_mail : ∃ X', R (n + 8) n_nameMail [strv s] X = some (.tuple #[strv (if mailB s then foldL s else []), iv (if mailB s then 0 else 11)], X') ∧ HLe X X' := by
  have f1 : ∀ r X', F_nameMail (R (n + 7)) (strv s) X = some (r, X') → R (n + 8) n_nameMail [strv s] X = some (r, X') := fun r X' hr => by rw [R, run_nameMail rfl]; exact hr
  unfold mailB
  by_cases h20 : s.length ≤ 20
  · have q1 : bop .int .gtr (iv s.length) (.int .i64 20) X = some (.bool false, X) := by rw [gtr_r, decide_eq_false (by omega)]
    obtain ⟨X1, e1, k1⟩ := r_fold (n := n + 6) (s := s) (H := X) (by omega)
    have e1 : R (n + 7) n_nameFold [strv s] X = _ := e1
    have hfl : (foldL s).length ≤ 20 := by rw [foldL_len]; exact h20
    generalize foldL s = f at e1 hfl
    have e2 : R (n + 7) n_stringsCut [strv f, strv [64]] X1 = _ := r_cut (n := n + 2) (c := 64) (by omega)
    -- what is cut
    obtain ⟨loc, e2'⟩ : ∃ loc : List UInt8, R (n + 7) n_stringsCut [strv f, strv [64]] X1 = some (.tuple #[strv loc, strv (domM f), .bool (decide (64 ∈ f))], X1) ∧ (64 ∈ f → loc = f.takeWhile (· != 64)) := by
      unfold domM
      by_cases h : 64 ∈ f
      · rw [if_pos h] at e2
        exact ⟨_, by rw [e2, if_pos h, decide_eq_true h], fun _ => rfl⟩
      · rw [if_neg h] at e2
        exact ⟨_, by rw [e2, if_neg h, decide_eq_false h], fun h2 => absurd h2 h⟩
    obtain ⟨e2', hloc⟩ := e2'
    have hdl : (domM f).length ≤ 20 := by unfold domM; split <;> simp; omega
    obtain ⟨X2, v, q, e3, r3, k3⟩ := r_split (n := n + 1) (c := 46) (s := domM f) (X := X1) (by omega)
    have e3 : R (n + 7) n_stringsSplit [strv (domM f), .string ⟨#[46]⟩] X1 = _ := e3
    have e2'' : R (n + 7) n_stringsCut [strv f, .string ⟨#[64]⟩] X1 = _ := e2'
    have hcl : (domM f).count 46 ≤ (domM f).length := List.count_le_length
    have hsl := splitC_len (c := 46) (s := domM f)
    have hl : lenS v X2 = some (iv (splitC 46 (domM f)).length, X2) := by have := r3.rd.len (H' := X2); rwa [List.length_map] at this
    have e4 : R (n + 7) n_nameIsName [strv loc] X2 = some (.bool (nameB loc), X2) := r_isName0 (n := n + 3)
    have e5 := lbl_do (n := n + 4) (f := f) (ls := splitC 46 (domM f)) (by omega) (fun l h => Nat.le_trans (splitC_each l h) (by omega)) r3 (splitC 46 (domM f)).length 0 (by omega) (by omega)
    rw [List.drop_zero] at e5
    have e5 : loopM (c4 (F_nameMail.l1 (R (n + 7)))) [strv f, v, iv (splitC 46 (domM f)).length, .int .i64 0] X2 = _ := e5
    refine ⟨X2, f1 _ _ ?_, k1.trans k3⟩
    unfold F_nameMail
    rw [bind_eq lenT_v, bind_eq q1, cnd_b, if_neg (by simp), bind_eq e1, bind_eq e2'']
    have t0 : extr (.tuple #[strv loc, strv (domM f), .bool (decide (64 ∈ f))]) 0 X1 = some (strv loc, X1) := rfl
    have t1 : extr (.tuple #[strv loc, strv (domM f), .bool (decide (64 ∈ f))]) 1 X1 = some (strv (domM f), X1) := rfl
    have t2 : extr (.tuple #[strv loc, strv (domM f), .bool (decide (64 ∈ f))]) 2 X1 = some (.bool (decide (64 ∈ f)), X1) := rfl
    rw [bind_eq t0, bind_eq t1, bind_eq t2, bind_eq e3, bind_eq not_r]
    unfold okM
    rw [decide_eq_true h20]
    by_cases h : 64 ∈ f
    · rw [decide_eq_true h, ← hloc h]
      simp only [Bool.not_true, Bool.true_and]
      rw [b_g_in, b_assoc, bind_eq e4, b_assoc, bind_eq not_r, b_ret, c3_r, bind_eq pick_r]
      simp only [cond_false]
      cases nameB loc
      · simp only [Bool.not_false, Bool.false_and]
        rw [bind_eq (g_r.trans (if_neg (by simp)))]
        simp only [List.replicate]
        rw [c3_r, bind_eq pick_r]
        simp only [cond_true]
        rw [cnd_b, if_pos rfl]
        rfl
      · simp only [Bool.not_true, Bool.true_and]
        rw [b_g_in, b_assoc, bind_eq hl, b_assoc, bind_eq lss_r, b_ret, c3_r, bind_eq pick_r]
        simp only [cond_false]
        by_cases h2 : 2 ≤ (splitC 46 (domM f)).length
        · rw [decide_eq_false (by omega), cnd_b, if_neg (by simp), bind_eq hl, decide_eq_true h2, Bool.true_and]
          cases ha : (splitC 46 (domM f)).all lblB
          · rw [ha] at e5
            rw [jn_ret e5]
            rfl
          · rw [ha] at e5
            rw [jn_ext e5, xk_hit]
            rfl
        · rw [decide_eq_true (by omega), cnd_b, if_pos rfl, decide_eq_false h2]
          rfl
    · rw [decide_eq_false h]
      simp only [Bool.not_false, Bool.false_and, Bool.and_false]
      rw [bind_eq (g_r.trans (if_neg (by simp)))]
      simp only [List.replicate]
      rw [c3_r, bind_eq pick_r]
      simp only [cond_true]
      rw [bind_eq (g_r.trans (if_neg (by simp)))]
      simp only [List.replicate]
      rw [c3_r, bind_eq pick_r]
      simp only [cond_true]
      rw [cnd_b, if_pos rfl]
      rfl
  · have q1 : bop .int .gtr (iv s.length) (.int .i64 20) X = some (.bool true, X) := by rw [gtr_r, decide_eq_true (by omega)]
    refine ⟨X, f1 _ _ ?_, .refl _⟩
    unfold F_nameMail
    rw [bind_eq lenT_v, bind_eq q1, cnd_b, if_pos rfl, decide_eq_false h20]
    rfl

/-! the document's -/

theorem tw_at {i : Nat} (hi : i < (f.takeWhile (· != c)).length) : ∃ x, f[i]? = some x ∧ x ≠ c := by
  have h1 : (f.takeWhile (· != c))[i]? = f[i]? := by
    conv => rhs; rw [← List.takeWhile_append_dropWhile (p := (· != c)) (l := f)]
    rw [List.getElem?_append_left hi]
  have h2 := List.getElem?_eq_getElem hi
  have hm := List.getElem_mem hi
  generalize (f.takeWhile (· != c))[i] = x at h2 hm
  refine ⟨x, by rw [← h1, h2], ?_⟩
  have := List.all_eq_true.1 (List.all_takeWhile (p := (· != c)) (l := f)) x hm
  simpa using this

theorem tw_end : ∀ {f : List UInt8}, c ∈ f → f[(f.takeWhile (· != c)).length]? = some c
  | [], h => by cases h
  | b :: f, h => by
    by_cases hb : b = c
    · subst hb; simp
    · have hm : c ∈ f := by
        rcases List.mem_cons.1 h with h | h
        · exact absurd h.symm hb
        · exact h
      have ih := tw_end hm
      have h2 : (b != c) = true := by simp [hb]
      rw [List.takeWhile_cons, h2]
      simpa using ih

theorem tw_all : ∀ {f : List UInt8}, c ∉ f → (f.takeWhile (· != c)).length = f.length
  | [], _ => rfl
  | b :: f, h => by
    simp only [List.mem_cons, not_or] at h
    have h2 : (b != c) = true := by simp [Ne.symm h.1]
    rw [List.takeWhile_cons, h2]
    simpa using tw_all h.2

theorem at_do (hf : f.length ≤ 1000000) : ∀ (t k : Nat), (f.takeWhile (· != 64)).length - k = t → k ≤ (f.takeWhile (· != 64)).length →
    loopM (c2 (F_ref05Mail.l1 (R n))) [strv f, iv k] X = some (.ext 0 [strv f, iv (f.takeWhile (· != 64)).length], X)
  | 0, k, ht, hk => by
    have : k = (f.takeWhile (· != 64)).length := by omega
    subst this
    refine loop_ext ?_
    rw [c2_r]
    unfold F_ref05Mail.l1
    rw [bind_eq lenT_v, bind_eq lss_r]
    by_cases h : 64 ∈ f
    · have hl := tw_len h
      have x1 := ixs_v (tw_end h) .i64 X
      have q1 : bop .int .neq (u8v 64) (.int .u8 64) X = some (.bool false, X) := by rw [neq_r]; rfl
      rw [decide_eq_true (by omega), b_g_in, b_assoc, bind_eq x1, b_assoc, bind_eq q1, b_ret, c4_r, bind_eq pick_r]
      simp only [cond_true]
      rw [cnd_b, if_neg (by simp)]
      rfl
    · have hl := tw_all h
      rw [decide_eq_false (by omega), bind_eq (g_r.trans (if_neg (by simp)))]
      simp only [List.replicate]
      rw [c4_r, bind_eq pick_r]
      simp only [cond_false]
      rw [cnd_b, if_neg (by simp)]
      rfl
  | t + 1, k, ht, hk => by
    have hkt : k < (f.takeWhile (· != 64)).length := by omega
    have hle : (f.takeWhile (· != 64)).length ≤ f.length := (List.takeWhile_prefix _).length_le
    obtain ⟨x, hx, hne⟩ := tw_at hkt
    have x1 := ixs_v hx .i64 X
    have q1 : bop .int .neq (u8v x) (.int .u8 64) X = some (.bool true, X) := by
      have := u8_beq (a := x) (b := 64)
      have h2 : (x == 64) = false := beq_eq_false_iff_ne.2 hne
      rw [h2] at this
      rw [neq_r]
      have h3 : ((x.toNat : Int) == 64) = false := this
      simp only [bne, h3]; rfl
    refine (loop_next ?_).trans (at_do hf t (k + 1) (by omega) (by omega))
    rw [c2_r]
    unfold F_ref05Mail.l1
    rw [bind_eq lenT_v, bind_eq lss_r, decide_eq_true (by omega), b_g_in, b_assoc, bind_eq x1, b_assoc, bind_eq q1, b_ret, c4_r, bind_eq pick_r]
    simp only [cond_true]
    rw [cnd_b, if_pos rfl, bind_eq add_r, wsuc (by omega)]
    rfl

theorem scan_do (hf : f.length ≤ 1000000) : ∀ (t k st lg : Nat), f.length - k = t → k ≤ f.length → st ≤ k → lg ≤ k →
    loopM (c4 (F_ref05Mail.l2 (R (n + 1)))) [strv f, iv st, iv lg, iv k] X = some (match scanM (f.drop k) st lg with | some (a, b) => .ext 2 [strv f, iv a, iv b] | none => .ret (.tuple #[strv [], .bool false]), X)
  | 0, k, st, lg, ht, hk, h1, h2 => by
    have : k = f.length := by omega
    subst this
    rw [List.drop_length]
    refine loop_ext ?_
    rw [c4_r]
    unfold F_ref05Mail.l2
    rw [bind_eq lenT_v, bind_eq lss_r, cnd_b, if_neg (by simp)]
    rfl
  | t + 1, k, st, lg, ht, hk, h1, h2 => by
    have hkl : k < f.length := by omega
    have hlt : (k : Int) < f.length := by omega
    have hg := List.getElem?_eq_getElem hkl
    have hd := List.drop_eq_getElem_cons hkl
    generalize f[k] = x at hg hd
    have x1 := ixs_v hg .i64 X
    have q1 : bop .int .eql (u8v x) (.int .u8 46) X = some (.bool (x == 46), X) := by
      rw [eql_r]
      congr 2
      exact congrArg Value.bool (u8_beq (a := x) (b := 46))
    have e1 : R (n + 1) n_ref05In [u8v x, .string ⟨#[97, 98, 99, 100, 101, 102, 103, 104, 105, 106, 107, 108, 109, 110, 111, 112, 113, 114, 115, 116, 117, 118, 119, 120, 121, 122, 48, 49, 50, 51, 52, 53, 54, 55, 56, 57]⟩] X = some (.bool (alnumB x), X) := by
      rw [← alnum_eq]
      exact r_in (t := alnumL) (by decide)
    rw [hd]
    by_cases hx : x = 46
    · subst hx
      by_cases hl : lg = 0
      · subst hl
        refine (loop_ret (v := .tuple #[strv [], .bool false]) (H' := X) ?_).trans (by simp [scanM])
        rw [c4_r]
        unfold F_ref05Mail.l2
        rw [bind_eq lenT_v, bind_eq lss_r, cnd_b, if_pos (by simpa using hlt), bind_eq x1, bind_eq q1]
        refine (jn_ret (v := .tuple #[strv [], .bool false]) (H' := X) ?_).trans rfl
        rw [cnd_b, if_pos (by simp), bind_eq eql_r, cnd_b, if_pos (by rfl)]
        rfl
      · have hs : scanM (46 :: f.drop (k + 1)) st lg = scanM (f.drop (k + 1)) (st + 1) 0 := by simp [scanM, hl]
        rw [hs]
        refine (loop_next ?_).trans (scan_do hf t (k + 1) (st + 1) 0 (by omega) (by omega) (by omega) (by omega))
        rw [c4_r]
        unfold F_ref05Mail.l2
        rw [bind_eq lenT_v, bind_eq lss_r, cnd_b, if_pos (by simpa using hlt), bind_eq x1, bind_eq q1]
        refine (jn_nrm (vs := [strv f, iv ((st + 1 : Nat) : Int), iv (0 : Nat), iv k]) (H' := X) ?_).trans ?_
        · rw [cnd_b, if_pos (by simp), bind_eq eql_r, cnd_b, if_neg (by simp; omega), bind_eq add_r, wsuc (by omega)]; rfl
        · rw [c4_r, bind_eq add_r, wsuc (by omega)]; rfl
    · have hxf : (x == 46) = false := beq_eq_false_iff_ne.2 hx
      rw [hxf] at q1
      cases ha : alnumB x
      · rw [ha] at e1
        refine (loop_ret (v := .tuple #[strv [], .bool false]) (H' := X) ?_).trans (by simp [scanM, hx, ha])
        rw [c4_r]
        unfold F_ref05Mail.l2
        rw [bind_eq lenT_v, bind_eq lss_r, cnd_b, if_pos (by simpa using hlt), bind_eq x1, bind_eq q1]
        refine (jn_ret (v := .tuple #[strv [], .bool false]) (H' := X) ?_).trans rfl
        rw [cnd_b, if_neg (by simp), bind_eq x1, bind_eq e1, bind_eq not_r, cnd_b, if_pos (by rfl)]
        rfl
      · rw [ha] at e1
        have hs : scanM (x :: f.drop (k + 1)) st lg = scanM (f.drop (k + 1)) st (lg + 1) := by simp [scanM, hx, ha]
        rw [hs]
        refine (loop_next ?_).trans (scan_do hf t (k + 1) st (lg + 1) (by omega) (by omega) (by omega) (by omega))
        rw [c4_r]
        unfold F_ref05Mail.l2
        rw [bind_eq lenT_v, bind_eq lss_r, cnd_b, if_pos (by simpa using hlt), bind_eq x1, bind_eq q1]
        refine (jn_nrm (vs := [strv f, iv st, iv ((lg + 1 : Nat) : Int), iv k]) (H' := X) ?_).trans ?_
        · rw [cnd_b, if_neg (by simp), bind_eq x1, bind_eq e1, bind_eq not_r, cnd_b, if_neg (by simp), bind_eq add_r, wsuc (by omega)]; rfl
        · rw [c4_r, bind_eq add_r, wsuc (by omega)]; rfl

theorem r_refMail : R (n + 4) n_ref05Mail [strv s] X = some (.tuple #[strv (if mailB s then foldL s else []), .bool (mailB s)], X) := by
  have f1 : ∀ r, F_ref05Mail (R (n + 3)) (strv s) X = r → R (n + 4) n_ref05Mail [strv s] X = r := fun r hr => by rw [R, run_ref05Mail rfl]; exact hr
  refine f1 _ ?_
  unfold mailB F_ref05Mail
  by_cases h20 : s.length ≤ 20
  · have q1 : bop .int .gtr (iv s.length) (.int .i64 20) X = some (.bool false, X) := by rw [gtr_r, decide_eq_false (by omega)]
    have e1 : R (n + 3) n_ref05Fold [strv s] X = some (strv (foldL s), X) := r_refFold (n := n + 2) (by omega)
    have hfl : (foldL s).length ≤ 20 := by rw [foldL_len]; exact h20
    generalize foldL s = f at e1 hfl
    have e2 := at_do (n := n + 3) (X := X) (f := f) (by omega) (f.takeWhile (· != 64)).length 0 (by omega) (by omega)
    have e2 : loopM (c2 (F_ref05Mail.l1 (R (n + 3)))) [strv f, .int .i64 0] X = _ := e2
    have hle : (f.takeWhile (· != 64)).length ≤ f.length := (List.takeWhile_prefix _).length_le
    rw [bind_eq lenT_v, bind_eq q1, cnd_b, if_neg (by simp), bind_eq e1, jn_ext e2, xk_hit, c2_r, bind_eq lenT_v, bind_eq eql_r, decide_eq_true h20]
    unfold okM
    by_cases h : 64 ∈ f
    · have hl := tw_len h
      have hne : (((f.takeWhile (· != 64)).length : Int) == (f.length : Int)) = false := by rw [beq_eq_false_iff_ne]; omega
      have e3 : R (n + 3) n_ref05Name [strv (f.takeWhile (· != 64))] X = some (.bool (nameB (f.takeWhile (· != 64))), X) := r_refName0
      rw [hne, b_g_in, b_assoc, bind_eq (sls_v (by omega)), tw_take, b_assoc, bind_eq e3, b_assoc, bind_eq not_r, b_ret, c5_r, bind_eq pick_r, decide_eq_true h]
      simp only [cond_false, Bool.true_and]
      cases nameB (f.takeWhile (· != 64))
      · rw [cnd_b, if_pos (by rfl)]; rfl
      · have hdm : domM f = f.drop ((f.takeWhile (· != 64)).length + 1) := by unfold domM; rw [if_pos h]
        have e4 := scan_do (n := n + 2) (X := X) (f := f) (by omega) (f.length - ((f.takeWhile (· != 64)).length + 1)) ((f.takeWhile (· != 64)).length + 1) 0 0 rfl (by omega) (by omega) (by omega)
        have e4 : loopM (c4 (F_ref05Mail.l2 (R (n + 3)))) [strv f, .int .i64 0, .int .i64 0, iv (((f.takeWhile (· != 64)).length + 1 : Nat) : Int)] X = _ := e4
        rw [← hdm] at e4
        rw [cnd_b, if_neg (by simp), bind_eq add_r, wsuc (by omega), Bool.true_and, ← scan_all]
        unfold scanOk
        cases hsc : scanM (domM f) 0 0 with
        | none =>
          rw [hsc] at e4
          rw [jn_ret e4]
          rfl
        | some p =>
          obtain ⟨a, b⟩ := p
          rw [hsc] at e4
          rw [jn_ext e4, xk_hit, c3_r, bind_eq eql_r]
          by_cases ha : a = 0
          · subst ha
            have q2 : (((0 : Nat) : Int) == 0) = true := rfl
            rw [q2, bind_eq (g_r.trans (if_neg (by simp)))]
            simp only [List.replicate]
            rw [c2_r, bind_eq pick_r]
            simp only [cond_true]
            rw [cnd_b, if_pos rfl]
            rfl
          · have q2 : (((a : Nat) : Int) == 0) = false := by rw [beq_eq_false_iff_ne]; omega
            rw [q2, b_g_in, b_assoc, bind_eq eql_r, b_ret, c2_r, bind_eq pick_r]
            simp only [cond_false]
            by_cases hb : b = 0
            · subst hb
              rw [cnd_b, if_pos (by rfl)]
              simp [ret]
              rfl
            · have q3 : (((b : Nat) : Int) == 0) = false := by rw [beq_eq_false_iff_ne]; omega
              rw [q3, cnd_b, if_neg (by simp)]
              simp [ret, ha, hb]
    · have hl := tw_all h
      have hne : (((f.takeWhile (· != 64)).length : Int) == (f.length : Int)) = true := by rw [hl]; simp
      rw [hne, bind_eq (g_r.trans (if_neg (by simp))), decide_eq_false h]
      simp only [List.replicate]
      rw [c5_r, bind_eq pick_r]
      simp only [cond_true]
      rw [cnd_b, if_pos rfl]
      rfl
  · have q1 : bop .int .gtr (iv s.length) (.int .i64 20) X = some (.bool true, X) := by rw [gtr_r, decide_eq_true (by omega)]
    rw [bind_eq lenT_v, bind_eq q1, cnd_b, if_pos rfl, decide_eq_false h20]
    rfl

end

end Go.Proofs.YtmacmlpiheimhaaDoor.A
