/- The document's bytes: numbers, texts, what is read. -/
import Derived.Test.YtlpibiaokpbhbaaGreatDoorShotLaw
namespace Go.Proofs.YtlpibiaokpbhbaaGreatDoor.A
set_option linter.unusedVariables false
set_option linter.unusedSimpArgs false
open Go.Proofs Go.Proofs.YtlpibiaokpbhbaaGreatDoor

section
variable {H0 H X : Heap} {n p d b : Nat} {a c v : Value} {bs s : List UInt8} {β : Type} {K : Value → M β}

theorem HLe.put {H0 X : Heap} (h : HLe H0 X) {b : Nat} {o : AObj} (hb : H0.length ≤ b) : HLe H0 (X.set b o) := fun i v hi => by
  have := get_lt hi
  rw [List.getElem?_set_ne (by omega)]
  exact h i v hi

/-- A new struct. -/
theorem bx {vs : List Value} (h1 : vs.all oneCell = true) : alc 1 (.agg vs.toArray) X = some (pt X.length, X ++ [.cells vs 1 false false]) := alc_a h1

/-- A result is stored, and loaded. -/
theorem fin_box {vs cs : List Value} {es : Nat} (hc : X[p]? = some (.cells cs es false false)) (h2 : cs.length = n) (hv : vs.length = n) (h1 : vs.all oneCell = true) :
    bind (stA n (pt p) (.agg vs.toArray)) (fun _ => bind (ldA n (pt p)) K) X = K (.agg vs.toArray) (X.set p (.cells vs es false false)) := by
  rw [bind_eq (stA_at hc h2 hv h1), bind_eq (ldA_at (set_get hc) hv)]

/-! a number's bytes; a text -/

theorem le_snoc_do {N : Nat} (hN : N ≤ 8) : ∀ (t k x : Nat) (s : List UInt8) (H : Heap), N - k = t → k ≤ N → x < 18446744073709551616 → s.length + t ≤ 1000 →
    ∃ H', loopM (c4 (F_ref01Num.l1 (R n))) [.int .u64 x, strv s, iv N, iv k] H = some (.ext 0 [strv (s ++ le x t)], H') ∧ HLe H H'
  | 0, k, x, s, H, ht, hk, hx, hs => by
    refine ⟨H, loop_ext ?_, .refl _⟩
    rw [c4_r]
    unfold F_ref01Num.l1
    rw [bind_eq lss_r, cnd_b, if_neg (by simp; omega)]
    unfold le
    rw [List.append_nil]
    rfl
  | t + 1, k, x, s, H, ht, hk, hx, hs => by
    have hlt : (k : Int) < N := by omega
    have c1 : bop .int .rem (.int .u64 x) (.int .u64 256) H = some (.int .u64 ((x % 256 : Nat) : Int), H) := by
      rw [rem_r, if_neg (by decide)]
      have : (x : Int).tmod 256 = ((x % 256 : Nat) : Int) := by rw [Int.tmod_eq_emod_of_nonneg (by omega)]; omega
      rw [this]
    have c2 : cvi .u8 (.int .u64 ((x % 256 : Nat) : Int)) H = some (.int .u8 ((UInt8.ofNat (x % 256)).toNat), H) := by
      rw [cvi_r, wu8, u8of_toNat]
      have : ((x % 256 : Nat) : Int) % 256 = (x : Int) % 256 := by omega
      rw [this]
    have e1 : bsl 1 1 (.int .u8 0) [(0, 1, .int .u8 ((UInt8.ofNat (x % 256)).toNat))] H = some (.slice (some ⟨H.length, 0, none⟩) 1 1, H ++ [.cells [.int .u8 ((UInt8.ofNat (x % 256)).toNat)] 1 false false]) := bsl1 rfl rfl rfl
    have k1 : HLe H (H ++ [AObj.cells [.int .u8 ((UInt8.ofNat (x % 256)).toNat)] 1 false false]) := .app _ _
    have s1 : Sl (H ++ [AObj.cells [.int .u8 ((UInt8.ofNat (x % 256)).toNat)] 1 false false]) (.slice (some ⟨H.length, 0, none⟩) 1 1) (u8s [UInt8.ofNat (x % 256)]) := Sl.one (vs := [.int .u8 ((UInt8.ofNat (x % 256)).toNat)]) app_new
    generalize H ++ [AObj.cells [.int .u8 ((UInt8.ofNat (x % 256)).toNat)] 1 false false] = X1 at e1 k1 s1
    have c3 : bop .str .add (strv s) (strv [UInt8.ofNat (x % 256)]) X1 = some (strv (s ++ [UInt8.ofNat (x % 256)]), X1) := adds_v (by rw [List.length_singleton]; omega)
    have c4' : bop .int .quo (.int .u64 x) (.int .u64 256) X1 = some (.int .u64 ((x / 256 : Nat) : Int), X1) := by
      rw [quo_r, if_neg (by decide)]
      have : (x : Int).tdiv 256 = ((x / 256 : Nat) : Int) := by rw [Int.tdiv_eq_ediv_of_nonneg (by omega)]; omega
      rw [this, wu64, Int.emod_eq_of_lt (by omega) (by omega)]
    have hx2 : x / 256 < 18446744073709551616 := by omega
    obtain ⟨H', e4, k4⟩ := le_snoc_do hN t (k + 1) (x / 256) (s ++ [UInt8.ofNat (x % 256)]) X1 (by omega) (by omega) hx2 (by rw [List.length_append, List.length_singleton]; omega)
    rw [List.append_assoc] at e4
    refine ⟨H', (loop_next ?_).trans e4, k1.trans k4⟩
    rw [c4_r]
    unfold F_ref01Num.l1
    rw [bind_eq lss_r, cnd_b, if_pos (by simpa using hlt), bind_eq c1, bind_eq c2, bind_eq e1, bind_eq (b2s_v s1), bind_eq c3, bind_eq c4', bind_eq add_r, wsuc (by omega)]
    rfl

theorem r_num1 {N x : Nat} (hN : N ≤ 8) (hx : x < 18446744073709551616) : ∃ H', R (n + 1) n_ref01Num [.int .u64 x, iv N] H = some (strv (le x N), H') ∧ HLe H H' := by
  obtain ⟨H', e, k⟩ := le_snoc_do (n := n) hN N 0 x [] H (by omega) (by omega) hx (by rw [List.length_nil]; omega)
  have e : loopM (c4 (F_ref01Num.l1 (R n))) [.int .u64 x, .string ⟨#[]⟩, iv N, .int .i64 0] H = some (.ext 0 [strv (le x N)], H') := e
  refine ⟨H', ?_, k⟩
  rw [R, run_ref01Num rfl]
  unfold F_ref01Num
  rw [jn_ext e, xk_hit]
  rfl

theorem cv64 {k : Nat} (h : k < 9223372036854775808) : cvi .u64 (iv k) H = some (.int .u64 k, H) := by rw [cvi_r, wu64, Int.emod_eq_of_lt (by omega) (by omega)]

theorem r_text1 (hs : s.length ≤ 1000000000) : ∃ H', R (n + 2) n_ref01Text [strv s] H = some (strv (txt s), H') ∧ HLe H H' := by
  obtain ⟨H', e, k⟩ := r_num1 (n := n) (N := 2) (x := s.length) (H := H) (by omega) (by omega)
  have e : R (n + 1) n_ref01Num [.int .u64 s.length, .int .i64 2] H = _ := e
  have c3 : bop .str .add (strv (le s.length 2)) (strv s) H' = some (strv (txt s), H') := adds_v (by rw [le_len]; omega)
  refine ⟨H', ?_, k⟩
  rw [R, run_ref01Text rfl]
  unfold F_ref01Text
  rw [bind_eq lenT_v, bind_eq (cv64 (by omega)), bind_eq e, bind_eq c3]
  rfl

/-! a user, all users -/

theorem r_text6 {e : Ent} (h1 : e.1.length ≤ 1000000) (h2 : e.2.length ≤ 1000000) {u : UsrA} (hu : pairU u = e) (ho : oneCell u.gv = true) : ∃ H', R (n + 3) n_ref06Text [iv 1, .agg u.cells.toArray] H = some (strv (entB e), H') ∧ HLe H H' := by
  have z1 := alc_ug (X := H) ho
  have k1 : HLe H (H ++ [AObj.cells u.cells 1 false false]) := .app _ _
  have c1 : (H ++ [AObj.cells u.cells 1 false false])[H.length]? = some (.cells u.cells 1 false false) := app_new
  generalize H ++ [AObj.cells u.cells 1 false false] = X1 at z1 k1 c1
  have hnm : u.nm = e.1 := by rw [← hu]; rfl
  have hhs : u.hs = e.2 := by rw [← hu]; rfl
  obtain ⟨X2, e2, k2⟩ := r_text1 (n := n) (s := e.1) (H := X1) (by omega)
  obtain ⟨X3, e3, k3⟩ := r_text1 (n := n) (s := e.2) (H := X2) (by omega)
  have a0 : ld1 (pa H.length 0) X1 = some (strv e.1, X1) := ld1_at c1 (by rw [← hnm]; rfl)
  have a1 : ld1 (pa H.length 1) X1 = some (strv e.2, X1) := ld1_at c1 (by rw [← hhs]; rfl)
  have b1 : ld1 (pa H.length 1) X2 = some (strv e.2, X2) := ld1_at (k2 _ _ c1) (by rw [← hhs]; rfl)
  have c3 : bop .str .add (strv (txt e.1)) (strv (txt e.2)) X3 = some (strv (entB e), X3) := adds_v (by rw [txt_len, txt_len]; omega)
  have q2 : bop .int .eql (iv 1) (.int .i64 2) X3 = some (.bool false, X3) := by rw [eql_r]; rfl
  refine ⟨X3, ?_, (k1.trans k2).trans k3⟩
  rw [R, run_ref06Text rfl]
  unfold F_ref06Text
  rw [bind_eq z1, bind_eq fa_z, bind_eq a0, bind_eq fa_z, bind_eq a1, bind_eq e2, bind_eq b1, same_self, bind_eq e3, bind_eq c3, bind_eq q2]
  refine (jn_nrm (vs := [strv (entB e)]) (H' := X3) ?_).trans ?_
  · rw [cnd_b, if_neg (by simp)]; rfl
  · rfl

theorem users8_do {us : List UsrA} {sl z : Value} (hn : us.length ≤ 1000) (hA : Users H0 sl us) (hE : ∀ u ∈ us, errE (pairU u) = 0) : ∀ (t k : Nat) (s : List UInt8) (X : Heap), us.length - k = t → k ≤ us.length → s.length + t * 28 ≤ 1000000 → HLe H0 X →
    ∃ X', loopM (c5 (F_ref08Users.l1 (R (n + 3)))) [iv 1, strv s, sl, iv us.length, iv k] X = some (.ext 0 [strv (s ++ entsB ((us.drop k).map pairU))], X') ∧ HLe H0 X'
  | 0, k, s, X, ht, hk, hs, hle => by
    have : k = us.length := by omega
    subst this
    rw [List.drop_length]
    refine ⟨X, loop_ext ?_, hle⟩
    rw [c5_r]
    unfold F_ref08Users.l1
    rw [bind_eq lss_r, cnd_b, if_neg (by simp)]
    simp [entsB]
    rfl
  | t + 1, k, s, X, ht, hk, hs, hle => by
    have hkl : k < us.length := by omega
    have hlt : (k : Int) < us.length := by omega
    have hg := List.getElem?_eq_getElem hkl
    have hd := List.drop_eq_getElem_cons hkl
    generalize us[k] = u at hg hd
    have hm := List.mem_of_getElem? hg
    have he := hE u hm
    have hel := entB_len he
    have h1 := name_len (errE_0.1 he).1
    have h2 := sum_len (errE_0.1 he).2
    have hf := fun {K : Value → M Out} => (hA.mono hle).fetch (k := K) hg
    have g1 : (X ++ [AObj.cells u.cells 1 false false])[X.length]? = some (.cells u.cells 1 false false) := app_new
    have k1 : HLe X (X ++ [AObj.cells u.cells 1 false false]) := .app _ _
    generalize X ++ [AObj.cells u.cells 1 false false] = X1 at g1 k1 hf
    have d1 : ldA 5 (pt X.length) X1 = some (.agg u.cells.toArray, X1) := ldA_at (n := 5) g1 rfl
    obtain ⟨X2, e2, k2⟩ := r_text6 (n := n) (H := X1) (e := pairU u) (u := u) (by omega) (by omega) rfl (GV.one (hA.2 u hm))
    have c3 : bop .str .add (strv s) (strv (entB (pairU u))) X2 = some (strv (s ++ entB (pairU u)), X2) := adds_v (by omega)
    obtain ⟨X3, e3, k3⟩ := users8_do (z := z) hn hA hE t (k + 1) (s ++ entB (pairU u)) X2 (by omega) (by omega) (by rw [List.length_append]; omega) ((hle.trans k1).trans k2)
    refine ⟨X3, (loop_next ?_).trans (e3.trans ?_), k3⟩
    · rw [c5_r]
      unfold F_ref08Users.l1
      rw [bind_eq lss_r, cnd_b, if_pos (by simpa using hlt), hf, bind_eq d1, bind_eq e2, bind_eq c3, bind_eq add_r, wsuc (by omega)]
      rfl
    · rw [hd]
      simp [entsB]

theorem r_text8 {us : List UsrA} {sl : Value} (hn : us.length ≤ 1000) (hA : Users H sl us) (hE : ∀ u ∈ us, errE (pairU u) = 0) : ∃ H', R (n + 5) n_ref08Text [sl] H = some (strv (encB (us.map pairU)), H') ∧ HLe H H' := by
  obtain ⟨X1, e1, k1⟩ := r_num1 (n := n + 2) (N := 2) (x := us.length) (H := H) (by omega) (by omega)
  have e1 : R (n + 3) n_ref01Num [.int .u64 us.length, .int .i64 2] H = _ := e1
  obtain ⟨X2, e2, k2⟩ := users8_do (z := .bool true) (n := n) hn (hA.mono k1) hE us.length 0 (le us.length 2) X1 (by omega) (by omega) (by rw [le_len]; omega) (.refl _)
  have e2 : loopM (c5 (F_ref08Users.l1 (R (n + 3)))) [iv 1, strv (le us.length 2), sl, iv us.length, .int .i64 0] X1 = _ := e2
  rw [List.drop_zero] at e2
  have e3 : R (n + 4) n_ref08Users [iv 1, sl] H = some (strv (le us.length 2 ++ entsB (us.map pairU)), X2) := by
    rw [R, run_ref08Users rfl]
    unfold F_ref08Users
    rw [bind_eq hA.len, bind_eq (cv64 (by omega)), bind_eq e1, bind_eq hA.len, jn_ext e2, xk_hit]
    rfl
  have hb : (entsB (us.map pairU)).length ≤ us.length * 28 := by
    have : ∀ (l : List Ent), (∀ e ∈ l, errE e = 0) → (entsB l).length ≤ l.length * 28 := by
      intro l
      induction l with
      | nil => intro _; exact Nat.zero_le _
      | cons a l ih =>
        intro hh
        have h1 := entB_len (hh a (by simp))
        have h2 := ih fun e he => hh e (by simp [he])
        unfold entsB at h2 ⊢
        rw [List.map_cons, List.flatten_cons, List.length_append, List.length_cons]; omega
    have := this (us.map pairU) (fun e he => by obtain ⟨u, hu, rfl⟩ := List.mem_map.1 he; exact hE u hu)
    rwa [List.length_map] at this
  have c3 : bop .str .add (strv [1]) (strv (le us.length 2 ++ entsB (us.map pairU))) X2 = some (strv ([1] ++ (le us.length 2 ++ entsB (us.map pairU))), X2) := adds_v (by rw [List.length_append, le_len, List.length_singleton]; omega)
  have c3 : bop .str .add (.string ⟨#[1]⟩) (strv (le us.length 2 ++ entsB (us.map pairU))) X2 = _ := c3
  refine ⟨X2, ?_, k1.trans k2⟩
  rw [R, run_ref08Text rfl]
  unfold F_ref08Text
  rw [bind_eq e3, bind_eq c3]
  unfold encB
  rw [List.length_map]
  rfl

end

end Go.Proofs.YtlpibiaokpbhbaaGreatDoor.A
