/- There is room for just so many users; one that goes makes room for one. -/
import Derived.Test.YtmacmlpiheimhaaEldActs
namespace Go.Proofs.Ytmacmlpiheimhaa.A
set_option linter.unusedVariables false
set_option linter.unusedSimpArgs false
open Go.Proofs Go.Proofs.Ytmacmlpiheimhaa

section
variable {α : Type} {k k' : List UInt8} {v : α} {m : List (List UInt8 × α)}

theorem aget_append : ∀ {m m' : List (List UInt8 × α)}, aget k (m ++ m') = (aget k m).or (aget k m')
  | [], m' => rfl
  | p :: m, m' => by
    simp only [List.cons_append, aget]
    split
    · rfl
    · exact aget_append

theorem aget_aput_ne (h : k' ≠ k) : aget k' (aput k v m) = aget k' m := by
  unfold aput
  split
  · have : ∀ m : List (List UInt8 × α), aget k' (m.map fun p => if p.1 = k then (k, v) else p) = aget k' m := by
      intro m
      induction m with
      | nil => rfl
      | cons p m ih =>
        simp only [List.map_cons, aget]
        by_cases hp : p.1 = k
        · rw [if_pos hp, if_neg (Ne.symm h), if_neg (fun e => h (e.symm.trans hp)), ih]
        · rw [if_neg hp, ih]
    exact this m
  · rw [aget_append]
    have : aget k' [(k, v)] = none := by simp [aget, Ne.symm h]
    rw [this]; cases aget k' m <;> rfl

theorem aget_aput : aget k (aput k v m) = some v := by
  unfold aput
  split
  · rename_i hs
    have : ∀ m : List (List UInt8 × α), (aget k m).isSome = true → aget k (m.map fun p => if p.1 = k then (k, v) else p) = some v := by
      intro m
      induction m with
      | nil => intro h; cases h
      | cons p m ih =>
        intro h
        simp only [List.map_cons, aget] at h ⊢
        by_cases hp : p.1 = k
        · simp [hp]
        · rw [if_neg hp] at h
          rw [if_neg hp, if_neg hp]; exact ih h
    exact this m hs
  · rename_i hs
    rw [aget_append]
    have : aget k m = none := by cases e : aget k m <;> simp_all
    rw [this]; simp [aget]

theorem aget_adel : aget k (adel k m) = none := by
  rw [aget_none]
  intro p hp
  simpa [adel] using (List.mem_filter.1 hp).2

theorem aget_adel_ne (h : k' ≠ k) : aget k' (adel k m) = aget k' m := by
  unfold adel
  induction m with
  | nil => rfl
  | cons p m ih =>
    rw [List.filter_cons]
    by_cases hp : p.1 = k
    · rw [if_neg (by simp [hp]), ih]
      simp only [aget]
      rw [if_neg (fun e => h (e.symm.trans hp))]
    · rw [if_pos (by simpa using hp)]
      simp only [aget]
      rw [ih]

theorem adel_len (hn : (m.map (·.1)).Nodup) (h : (aget k m).isSome = true) : (adel k m).length = m.length - 1 := by
  obtain ⟨v, hv⟩ := Option.isSome_iff_exists.1 h
  obtain ⟨j, hj⟩ := aget_idx hv
  rw [← erase_eq_del hn hj, List.length_eraseIdx, if_pos (List.getElem?_eq_some_iff.1 hj).1]

end

def nmL (i : Nat) : List UInt8 := [UInt8.ofNat (97 + i)]
def mL (h : List UInt8) (k : Nat) : SMap := (List.range k).map fun i => (nmL i, h)

theorem nmL_inj : ∀ i < 13, ∀ j < 13, nmL i = nmL j → i = j := by decide
theorem nmL_ok : ∀ i < 13, nameB (nmL i) = true := by decide

section
variable {H H' : Heap} {n d b : Nat} {h : List UInt8}

theorem mL_get {i k : Nat} (hi : i < 13) (hk : k ≤ 13) : aget (nmL i) (mL h k) = if i < k then some h else none := by
  induction k with
  | zero => rfl
  | succ k ih =>
    have : mL h (k + 1) = mL h k ++ [(nmL k, h)] := by simp [mL, List.range_succ]
    rw [this, aget_append, ih (by omega)]
    by_cases h1 : i < k
    · rw [if_pos h1, if_pos (by omega)]; rfl
    · rw [if_neg h1]
      by_cases h2 : i = k
      · subst h2; simp [aget]
      · rw [if_neg (by omega)]
        have : ¬ nmL k = nmL i := fun e => h2 (nmL_inj _ (by omega) _ (by omega) e.symm)
        simp [aget, this]

theorem mL_len {k : Nat} : (mL h k).length = k := by simp [mL]

theorem mL_succ {k : Nat} (hk : k < 13) : aput (nmL k) h (mL h k) = mL h (k + 1) := by
  unfold aput
  rw [mL_get hk (by omega), if_neg (Nat.lt_irrefl k)]
  simp [mL, List.range_succ]

theorem mL_create {k : Nat} (hk : k < 12) (hs : sumB h = true) : errCreate (nmL k) h (mL h k) = 0 ∧ createM (nmL k) h (mL h k) = mL h (k + 1) := by
  have h0 : errCreate (nmL k) h (mL h k) = 0 := by
    unfold errCreate
    rw [firstE_0]
    refine ⟨errName_0.2 (nmL_ok k (by omega)), fun a ha => ?_⟩
    simp only [List.mem_cons, List.not_mem_nil, or_false] at ha
    rcases ha with rfl | rfl
    · exact errSum_0.2 hs
    · rw [errRoom_0, mL_get (by omega) (by omega), mL_len, if_neg (Nat.lt_irrefl k)]
      exact ⟨rfl, hk⟩
  refine ⟨h0, ?_⟩
  unfold createM
  rw [if_pos h0, mL_succ (by omega)]

theorem full_do {a z1 z2 : Value} (hs : sumB h = true) (hl : h.length ≤ 50) (ha : Sl H a ((List.range 12).map fun i => strv (nmL i))) (hab : ∀ j, own1 a = some j → j < H.length ∧ j ≠ b) : ∀ (t k : Nat) (X : Heap), 12 - k = t → k ≤ 12 → Step [b] H [b] X → Dir X d b (mL h k) →
    ∃ X', loopM (c7 (F_law07ElderFull.l1 (R (n + 7)))) [strv h, z1, pt d, z2, a, iv 12, iv k] X = some (.ext 0 [strv h, z1, pt d, z2], X') ∧ Dir X' d b (mL h 12) ∧ Step [b] H [b] X'
  | 0, k, X, ht, hk, hle, hD => by
    have : k = 12 := by omega
    subst this
    refine ⟨X, loop_ext ?_, hD, hle⟩
    rw [c7_r]
    unfold F_law07ElderFull.l1
    rw [bind_eq lss_r, cnd_b, if_neg (by decide)]
    rfl
  | t + 1, k, X, ht, hk, hle, hD => by
    have hk12 : k < 12 := by omega
    have hlt : (k : Int) < 12 := by omega
    have haX : Sl X a ((List.range 12).map fun i => strv (nmL i)) := ha.keep fun j hj => hle.keep j (hab j hj).1 (by simp [(hab j hj).2])
    have x1 := haX.ix (i := k) (by simpa using hk12) .i64 X
    have x2 := haX.ldx (i := k) (v := strv (nmL k)) (by rw [List.getElem?_map, List.getElem?_range hk12]; rfl)
    obtain ⟨c0, c1⟩ := mL_create hk12 hs
    obtain ⟨X1, e1, D1, s1⟩ := r_create (n := n) (k := nmL k) (s := h) hD (by show 1 ≤ _; omega) (by omega)
    rw [c0] at e1
    rw [c1] at D1
    obtain ⟨X2, e2, r⟩ := full_do (z1 := z1) (z2 := z2) hs hl ha hab t (k + 1) X1 (by omega) (by omega) (hle.trans s1) D1
    refine ⟨X2, (loop_next ?_).trans e2, r⟩
    have z4 : bop .int .eql (iv 0) (.int .i64 4) X1 = some (.bool false, X1) := by rw [eql_r]; rfl
    have z0 : bop .int .neq (iv 0) (.int .i64 0) X1 = some (.bool false, X1) := by rw [neq_r]; rfl
    rw [c7_r]
    unfold F_law07ElderFull.l1
    rw [bind_eq lss_r, cnd_b, if_pos (by simpa using hlt), bind_eq x1, bind_eq x2, bind_eq e1, bind_eq z4, cnd_b, if_neg (by simp), bind_eq z0, cnd_b, if_neg (by simp), bind_eq add_r, wsuc (by omega)]
    rfl

theorem eN {k : Nat} (hk : k < 13) : errName (nmL k) = 0 := errName_0.2 (nmL_ok k hk)

theorem full1 (hs : sumB h = true) : errCreate (nmL 12) h (mL h 12) = 7 := by
  unfold errCreate errRoom
  rw [mL_get (by omega) (by omega), mL_len, eN (by omega), errSum_0.2 hs]
  rfl
theorem full2 {i : Nat} (hi : i < 12) (hs : sumB h = true) : errCreate (nmL i) h (mL h 12) = 9 := by
  unfold errCreate errRoom
  rw [mL_get (by omega) (by omega), if_pos hi, eN (by omega), errSum_0.2 hs]
  rfl
theorem full3 {i : Nat} (hi : i < 12) : errDelete (nmL i) (mL h 12) = 0 := by
  unfold errDelete errThere
  rw [mL_get (by omega) (by omega), if_pos hi, eN (by omega)]
  rfl
theorem mL_nod : ((mL h 12).map (·.1)).Nodup := by
  unfold mL
  rw [List.map_map]
  show ((List.range 12).map nmL).Nodup
  decide
theorem full4 {i : Nat} (hi : i < 12) (hs : sumB h = true) : errCreate (nmL 12) h (adel (nmL i) (mL h 12)) = 0 := by
  have hne : nmL 12 ≠ nmL i := fun e => by have := nmL_inj _ (by omega) _ (by omega) e; omega
  unfold errCreate errRoom
  rw [aget_adel_ne hne, mL_get (by omega) (by omega), adel_len mL_nod (by rw [mL_get (by omega) (by omega), if_pos hi]; rfl), mL_len, eN (by omega), errSum_0.2 hs]
  rfl
theorem full5 {i : Nat} (hi : i < 12) : (aput (nmL 12) h (adel (nmL i) (mL h 12))).length = 12 := by
  have hne : nmL 12 ≠ nmL i := fun e => by have := nmL_inj _ (by omega) _ (by omega) e; omega
  rw [aput_len, aget_adel_ne hne, mL_get (by omega) (by omega), adel_len mL_nod (by rw [mL_get (by omega) (by omega), if_pos hi]; rfl), mL_len]
  rfl
theorem full6 {i : Nat} (hi : i < 12) (hs : sumB h = true) : errSet (nmL i) h (aput (nmL 12) h (adel (nmL i) (mL h 12))) = 8 := by
  have hne : nmL i ≠ nmL 12 := fun e => by have := nmL_inj _ (by omega) _ (by omega) e; omega
  unfold errSet errThere
  rw [aget_aput_ne hne, aget_adel, eN (by omega), errSum_0.2 hs]
  rfl

/-- What is asked behind the twelve. -/
noncomputable def fullTail (Γ : Funs) (q25_0 q25_1 q25_2 q25_3 : Value) : M Value :=
  bind (cvi .i64 q25_1) fun v47x26 =>
  bind (bop .int .rem v47x26 (Value.int .i64 12)) fun v48x27 =>
  bind (ixa 1 q25_3 v48x27) fun v49x28 =>
  bind (ld1 v49x28) fun v50x29 =>
  bind (Γ n_elderDirCreate [q25_2, (Value.string ⟨#[109]⟩), q25_0]) fun v53x30 =>
  bind (bop .int .eql v53x30 (Value.int .i64 7)) fun v54x31 =>
  bind (gate v54x31 true 5 (bind (Γ n_elderDirCreate [q25_2, v50x29, q25_0]) fun v59x32 =>
  bind (bop .int .eql v59x32 (Value.int .i64 9)) fun v60x33 =>
  ret [q25_2, v50x29, q25_0, v59x32, v60x33])) (c5 fun _ _ _ _ q34_4 =>
  bind (pick v54x31 q34_4 (Value.bool false)) fun v61x35 =>
  bind (gate v61x35 true 4 (bind (Γ n_elderDirDelete [q25_2, v50x29]) fun v65x36 =>
  bind (bop .int .eql v65x36 (Value.int .i64 0)) fun v66x37 =>
  ret [q25_2, v50x29, v65x36, v66x37])) (c4 fun _ _ _ q38_3 =>
  bind (pick v61x35 q38_3 (Value.bool false)) fun v67x39 =>
  bind (gate v67x39 true 4 (bind (Γ n_elderDirCreate [q25_2, (Value.string ⟨#[109]⟩), q25_0]) fun v71x40 =>
  bind (bop .int .eql v71x40 (Value.int .i64 0)) fun v72x41 =>
  ret [q25_2, q25_0, v71x40, v72x41])) (c4 fun _ _ _ q42_3 =>
  bind (pick v67x39 q42_3 (Value.bool false)) fun v73x43 =>
  bind (gate v73x43 true 3 (bind (Γ n_elderDirLen [q25_2]) fun v76x44 =>
  bind (bop .int .eql v76x44 (Value.int .i64 12)) fun v77x45 =>
  ret [q25_2, v76x44, v77x45])) (c3 fun _ _ q46_2 =>
  bind (pick v73x43 q46_2 (Value.bool false)) fun v78x47 =>
  bind (gate v78x47 true 5 (bind (Γ n_elderDirSetHash [q25_2, v50x29, q25_0]) fun v83x48 =>
  bind (bop .int .eql v83x48 (Value.int .i64 8)) fun v84x49 =>
  ret [q25_2, v50x29, q25_0, v83x48, v84x49])) (c5 fun _ _ _ _ q50_4 =>
  bind (pick v78x47 q50_4 (Value.bool false)) fun v85x51 =>
  ret v85x51)))))

theorem bsl13 (H : Heap) : bsl 1 13 (.string ⟨#[]⟩) [(0, 1, (Value.string ⟨#[97]⟩)), (1, 1, (Value.string ⟨#[98]⟩)), (2, 1, (Value.string ⟨#[99]⟩)), (3, 1, (Value.string ⟨#[100]⟩)), (4, 1, (Value.string ⟨#[101]⟩)), (5, 1, (Value.string ⟨#[102]⟩)), (6, 1, (Value.string ⟨#[103]⟩)), (7, 1, (Value.string ⟨#[104]⟩)), (8, 1, (Value.string ⟨#[105]⟩)), (9, 1, (Value.string ⟨#[106]⟩)), (10, 1, (Value.string ⟨#[107]⟩)), (11, 1, (Value.string ⟨#[108]⟩)), (12, 1, (Value.string ⟨#[109]⟩))] H
    = some (.slice (some ⟨H.length, 0, none⟩) 13 13, H ++ [.cells ((List.range 13).map fun i => strv (nmL i)) 1 false false]) := rfl

theorem full_core {g : Nat} (hg : g ≤ 255) : ∃ H', R (n + 9) n_law07ElderFull [strv h, .int .u8 g] H = some (.bool true, H') := by
  obtain ⟨H1, e1, l1⟩ := r_lives (n := n) (H := H)
  obtain ⟨H1', e1', l1'⟩ := r_lives (n := n) (H := H1)
  have e1 : R (n + 8) n_law07Lives [] H = _ := e1
  have e1' : R (n + 8) n_law07Lives [] H1 = _ := e1'
  have f1 : ∀ r H', F_law07ElderFull (R (n + 8)) (strv h) (.int .u8 g) H = some (r, H') → R (n + 9) n_law07ElderFull [strv h, .int .u8 g] H = some (r, H') := fun r H' hr => by
    rw [R, run_law07ElderFull rfl]; exact hr
  by_cases hl : h.length ≤ 50
  · obtain ⟨H2, d, b, e2, D2, l2, o1, o2⟩ := r_eldNew (n := n + 7) (H := H1)
    have e2 : R (n + 8) n_elderNew [] H1 = _ := e2
    have q1 : bop .int .gtr (iv h.length) (.int .i64 50) H1 = some (.bool false, H1) := by rw [gtr_r, decide_eq_false (by omega)]
    have e3 := bsl13 H2
    have l3 : HLe H2 (H2 ++ [AObj.cells ((List.range 13).map fun i => strv (nmL i)) 1 false false]) := .app _ _
    have c3 : (H2 ++ [AObj.cells ((List.range 13).map fun i => strv (nmL i)) 1 false false])[H2.length]? = some (.cells ((List.range 13).map fun i => strv (nmL i)) 1 false false) := app_new
    have g3 : (H2 ++ [AObj.cells ((List.range 13).map fun i => strv (nmL i)) 1 false false]).length = H2.length + 1 := by simp
    generalize H2 ++ [AObj.cells ((List.range 13).map fun i => strv (nmL i)) 1 false false] = H3 at e3 l3 c3 g3
    have g2 := l2.len
    generalize hni : H2.length = ni at e3 c3 g3 g2
    have D3 := D2.hle l3
    have e4 : slv 1 (.slice (some ⟨ni, 0, none⟩) 13 13) none (some (.int .i64 12)) none H3 = some (.slice (some ⟨ni, 0, none⟩) 12 13, H3) := by
      have b1 : bnd (some (.int .i64 12)) 13 = some 12 := rfl
      have b2 : ∀ k, bnd none k = some k := fun _ => rfl
      simp [slv, c3, b1, b2]
    have s4 : Sl H3 (.slice (some ⟨ni, 0, none⟩) 12 13) ((List.range 12).map fun i => strv (nmL i)) := by
      refine ⟨some ⟨ni, 0, none⟩, 13, rfl, (fun e => by cases e), ?_⟩
      simp only [fcells, c3]
      rfl
    have S13 : Sl H3 (.slice (some ⟨ni, 0, none⟩) 13 13) ((List.range 13).map fun i => strv (nmL i)) := Sl.one (c := 13) c3
    have hown : own1 (.slice (some ⟨ni, 0, none⟩) 12 13) = some ni := rfl
    generalize (Value.slice (some ⟨ni, 0, none⟩) 12 13) = a at e4 s4 hown
    have hown2 : own1 (.slice (some ⟨ni, 0, none⟩) 13 13) = some ni := rfl
    generalize (Value.slice (some ⟨ni, 0, none⟩) 13 13) = nv at e3 e4 S13 hown2
    have ea : lenS a H3 = some (iv 12, H3) := by have := s4.len (H' := H3); simpa using this
    have hD3 := D3.lt
    have hab : ∀ j, own1 a = some j → j < H3.length ∧ j ≠ b := fun j hj => by
      rw [hown] at hj; cases hj
      exact ⟨get_lt c3, by have := D2.lt.2; omega⟩
    have pre : ∀ r H', jn (loopM (c7 (F_law07ElderFull.l1 (R (n + 8)))) [strv h, .int .u8 g, pt d, nv, a, iv 12, .int .i64 0]) noN (xk 0 (c4 fun q25_0 q25_1 q25_2 q25_3 => fullTail (R (n + 8)) q25_0 q25_1 q25_2 q25_3) noX) ret H3 = some (r, H') → R (n + 9) n_law07ElderFull [strv h, .int .u8 g] H = some (r, H') := fun r H' hr => by
      refine f1 _ _ ?_
      unfold F_law07ElderFull
      rw [bind_eq e1, bind_eq not_r]
      simp only [Bool.not_true]
      rw [b_g_in, b_assoc, bind_eq lenT_v, b_assoc, bind_eq q1, b_ret, c3_r, bind_eq pick_r]
      simp only [cond_false]
      rw [cnd_b, if_neg (by simp), bind_eq e2, bind_eq e3, bind_eq e4, bind_eq ea]
      exact hr
    by_cases hs : sumB h = true
    · obtain ⟨H4, e5, D5, s5⟩ := full_do (n := n + 1) (z1 := .int .u8 g) (z2 := nv) hs hl s4 hab 12 0 H3 (by omega) (by omega) (.refl _ _) D3
      have S5 : Sl H4 nv ((List.range 13).map fun i => strv (nmL i)) := S13.keep fun j hj => s5.keep j (by rw [hown2] at hj; cases hj; exact get_lt c3) (by rw [hown2] at hj; cases hj; have := D2.lt.2; simp; omega)
      have hi12 : g % 12 < 12 := Nat.mod_lt _ (by omega)
      have hmod : (g : Int).tmod 12 = ((g % 12 : Nat) : Int) := by rw [Int.tmod_eq_emod_of_nonneg (by omega)]; omega
      generalize g % 12 = i at hi12 hmod
      have w1 : IntKind.i64.wrap (g : Int) = (g : Int) := w64 (by omega) (by omega)
      have x0 : bop .int .rem (iv g) (.int .i64 12) H4 = some (iv i, H4) := by rw [rem_r, if_neg (by omega), hmod]
      have x1 := S5.ix (i := i) (by simp; omega) .i64 H4
      have x2 := S5.ldx (i := i) (v := strv (nmL i)) (by rw [List.getElem?_map, List.getElem?_range (by omega)]; rfl)
      have k1 : ∀ i, (nmL i).length ≤ 1000000000 := fun i => by show 1 ≤ _; omega
      have k2 : h.length ≤ 1000000000 := by omega
      obtain ⟨H5, e6, D6, _⟩ := r_create (n := n + 1) (k := nmL 12) (s := h) D5 (k1 _) k2
      rw [full1 hs] at e6
      have d1 : createM (nmL 12) h (mL h 12) = mL h 12 := by unfold createM; rw [full1 hs]; rfl
      rw [d1] at D6
      obtain ⟨H6, e7, D7, _⟩ := r_create (n := n + 1) (k := nmL i) (s := h) D6 (k1 _) k2
      rw [full2 hi12 hs] at e7
      have d2 : createM (nmL i) h (mL h 12) = mL h 12 := by unfold createM; rw [full2 hi12 hs]; rfl
      rw [d2] at D7
      obtain ⟨H7, e8, D8, _⟩ := r_delete (n := n + 1) (k := nmL i) D7 (k1 _)
      rw [full3 hi12] at e8
      have d3 : deleteM (nmL i) (mL h 12) = adel (nmL i) (mL h 12) := by unfold deleteM; rw [full3 hi12]; rfl
      rw [d3] at D8
      obtain ⟨H8, e9, D9, _⟩ := r_create (n := n + 1) (k := nmL 12) (s := h) D8 (k1 _) k2
      rw [full4 hi12 hs] at e9
      have d4 : createM (nmL 12) h (adel (nmL i) (mL h 12)) = aput (nmL 12) h (adel (nmL i) (mL h 12)) := by unfold createM; rw [full4 hi12 hs]; rfl
      rw [d4] at D9
      have e10 := r_len (n := n + 7) D9
      rw [full5 hi12] at e10
      obtain ⟨H9, e11, D10, _⟩ := r_setHash (n := n + 1) (k := nmL i) (s := h) D9 (k1 _) k2
      rw [full6 hi12 hs] at e11
      have e6 : R (n + 8) n_elderDirCreate [pt d, .string ⟨#[109]⟩, strv h] H4 = some (iv 7, H5) := e6
      have e7 : R (n + 8) n_elderDirCreate [pt d, strv (nmL i), strv h] H5 = some (iv 9, H6) := e7
      have e8 : R (n + 8) n_elderDirDelete [pt d, strv (nmL i)] H6 = some (iv 0, H7) := e8
      have e9 : R (n + 8) n_elderDirCreate [pt d, .string ⟨#[109]⟩, strv h] H7 = some (iv 0, H8) := e9
      have e10 : R (n + 8) n_elderDirLen [pt d] H8 = some (iv 12, H8) := e10
      have e11 : R (n + 8) n_elderDirSetHash [pt d, strv (nmL i), strv h] H8 = some (iv 8, H9) := e11
      have zz : ∀ (z : Int) (X : Heap), bop .int .eql (iv z) (.int .i64 z) X = some (.bool true, X) := fun z X => by rw [eql_r]; simp
      have hrun : fullTail (R (n + 8)) (strv h) (.int .u8 g) (pt d) nv H4 = some (.bool true, H9) := by
        unfold fullTail
        rw [bind_eq cvi_r, w1, bind_eq x0, bind_eq x1, bind_eq x2, bind_eq e6, bind_eq (zz _ _), b_g_in, b_assoc, bind_eq e7, b_assoc, bind_eq (zz _ _), b_ret, c5_r, bind_eq pick_r]
        simp only [cond_true]
        rw [b_g_in, b_assoc, bind_eq e8, b_assoc, bind_eq (zz _ _), b_ret, c4_r, bind_eq pick_r]
        simp only [cond_true]
        rw [b_g_in, b_assoc, bind_eq e9, b_assoc, bind_eq (zz _ _), b_ret, c4_r, bind_eq pick_r]
        simp only [cond_true]
        rw [b_g_in, b_assoc, bind_eq e10, b_assoc, bind_eq (zz _ _), b_ret, c3_r, bind_eq pick_r]
        simp only [cond_true]
        rw [b_g_in, b_assoc, bind_eq e11, b_assoc, bind_eq (zz _ _), b_ret, c5_r, bind_eq pick_r]
        rfl
      have e5 : loopM (c7 (F_law07ElderFull.l1 (R (n + 8)))) [strv h, .int .u8 g, pt d, nv, a, iv 12, .int .i64 0] H3 = _ := e5
      refine ⟨H9, pre _ _ ?_⟩
      rw [jn_ext e5, xk_hit, c4_r]
      exact hrun
    · have k2 : h.length ≤ 1000000000 := by omega
      have hne : errCreate (nmL 0) h [] = 4 := by
        unfold errCreate
        rw [eN (by omega)]
        have : errSum h = 4 := by unfold errSum; rw [if_neg hs]
        rw [this]; rfl
      obtain ⟨H4, e5, D5, _⟩ := r_create (n := n + 1) (k := nmL 0) (s := h) D3 (by decide) k2
      rw [hne] at e5
      have d1 : createM (nmL 0) h [] = [] := by unfold createM; rw [hne]; rfl
      rw [d1] at D5
      have e6 := r_len (n := n + 7) D5
      have e6 : R (n + 8) n_elderDirLen [pt d] H4 = some (iv 0, H4) := e6
      have e5 : R (n + 8) n_elderDirCreate [pt d, strv (nmL 0), strv h] H3 = some (iv 4, H4) := e5
      have x1 : ixa 1 a (.int .i64 0) H3 = some (ixp a 0, H3) := s4.ix (i := 0) (by simp) .i64 H3
      have x2 := s4.ldx (i := 0) (v := strv (nmL 0)) rfl
      have zz : ∀ (z : Int) (X : Heap), bop .int .eql (iv z) (.int .i64 z) X = some (.bool true, X) := fun z X => by rw [eql_r]; simp
      refine ⟨H4, pre _ _ ?_⟩
      refine (jn_ret (v := .bool true) (H' := H4) (loop_ret ?_)).trans rfl
      rw [c7_r]
      unfold F_law07ElderFull.l1
      rw [bind_eq lss_r, cnd_b, if_pos (by decide), bind_eq x1, bind_eq x2, bind_eq e5, bind_eq (zz _ _), cnd_b, if_pos rfl, bind_eq (zz 0 _), b_g_in, b_assoc, bind_eq e6, b_assoc, bind_eq (zz 0 _), b_ret, c3_r, bind_eq pick_r]
      rfl
  · have q1 : bop .int .gtr (iv h.length) (.int .i64 50) H1 = some (.bool true, H1) := by rw [gtr_r, decide_eq_true (by omega)]
    refine ⟨H1', f1 _ _ ?_⟩
    unfold F_law07ElderFull
    rw [bind_eq e1, bind_eq not_r]
    simp only [Bool.not_true]
    rw [b_g_in, b_assoc, bind_eq lenT_v, b_assoc, bind_eq q1, b_ret, c3_r, bind_eq pick_r]
    simp only [cond_false]
    rw [cnd_b, if_pos rfl, bind_eq e1']
    rfl

theorem law_ElderFull : ∀ (xs : Ins [.str, .int .u8]) (H : Heap) (vs : List Value), InsWf [.str, .int .u8] xs → InsRd [.str, .int .u8] xs H vs → ∃ n H', R n n_law07ElderFull vs H = some (.bool true, H') := by
  intro xs H vs hwf hrd
  obtain ⟨s, M, _⟩ := xs
  obtain ⟨_, hM, _⟩ := hwf
  obtain ⟨c1, _, rfl, hc1, h1, c2, _, rfl, hc2, h2, rfl⟩ := hrd
  have hM := wf_u8 hM
  have h1 : c1 = [.string s] := h1
  have h2 : c2 = [.int .u8 M] := h2
  subst h1
  subst h2
  have hM0 : (0 : Int) ≤ M := hM.1
  obtain ⟨m, hm⟩ : ∃ m : Nat, M = (m : Int) := ⟨Int.toNat M, (Int.toNat_of_nonneg hM0).symm⟩
  subst hm
  have hm : m ≤ 255 := by have := hM.2; exact Int.ofNat_le.1 this
  have hs : Value.string s = strv (ByteArray.data s).toList := strv_of s
  obtain ⟨H', e⟩ := full_core (n := 0) (H := H) (h := (ByteArray.data s).toList) hm
  refine ⟨9, H', ?_⟩
  rw [← hs] at e
  exact e

end

end Go.Proofs.Ytmacmlpiheimhaa.A
