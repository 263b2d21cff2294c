/- A list has just those names of the directory that begin so, rising, each with its sum; of two prefixes the longer one has no more. -/
import Derived.Test.YtmacmlpiheimhaaEldActs
namespace Go.Proofs.Ytmacmlpiheimhaa.A
set_option linter.unusedVariables false
set_option linter.unusedSimpArgs false
open Go.Proofs Go.Proofs.Ytmacmlpiheimhaa

section
variable {α : Type} {l : List α} {p : α → Bool} {k : Nat} {x : α}

theorem take_at (h : l[k]? = some x) : l.take (k + 1) = l.take k ++ [x] := by
  have hk := (List.getElem?_eq_some_iff.1 h).1
  rw [List.take_succ_eq_append_getElem hk, (List.getElem?_eq_some_iff.1 h).2]

theorem filt_split (h : l[k]? = some x) : l.filter p = (l.take k).filter p ++ ((if p x then [x] else []) ++ (l.drop (k + 1)).filter p) := by
  have hk := (List.getElem?_eq_some_iff.1 h).1
  have hd := List.drop_eq_getElem_cons hk
  rw [(List.getElem?_eq_some_iff.1 h).2] at hd
  conv => lhs; rw [← List.take_append_drop k l, hd]
  rw [List.filter_append, List.filter_cons]
  by_cases hp : p x <;> simp [hp]

theorem filt_at (h : l[k]? = some x) (hp : p x = true) : (l.filter p)[((l.take k).filter p).length]? = some x := by
  rw [filt_split h, if_pos hp, List.getElem?_append_right (Nat.le_refl _)]
  simp

theorem filt_succ (h : l[k]? = some x) : ((l.take (k + 1)).filter p).length = ((l.take k).filter p).length + if p x then 1 else 0 := by
  rw [take_at h, List.filter_append, List.length_append]
  by_cases hp : p x <;> simp [hp]

theorem filt_le : ((l.take k).filter p).length ≤ (l.filter p).length := by
  conv => rhs; rw [← List.take_append_drop k l, List.filter_append, List.length_append]
  omega

end

theorem prefB_app {p q : List UInt8} (h : prefB (p ++ q) = true) : prefB p = true := by
  unfold prefB at *
  simp only [Bool.and_eq_true, decide_eq_true_eq, List.all_append, List.length_append] at *
  exact ⟨by omega, h.2.1⟩

theorem preB_app {p q s : List UInt8} (h : preB (p ++ q) s = true) : preB p s = true := by
  unfold preB at *
  simp only [Bool.and_eq_true, decide_eq_true_eq, List.length_append, beq_iff_eq] at *
  refine ⟨by omega, ?_⟩
  have := congrArg (List.take p.length) h.2
  rw [List.take_take, Nat.min_eq_left (by omega), List.take_left] at this
  exact this

section
variable {H0 H X : Heap} {n d b : Nat} {m : SMap} {pre more : List UInt8} {ac : List EAct} {sl : Value}

/-- Those are created. -/
theorem lists1_do {z1 z2 : Value} (hA : EActs H0 sl ac) (hn : ac.length ≤ 60) (hp : ∀ a ∈ ac, fewA a = true) (hb : H0.length ≤ b) : ∀ (t k : Nat) (m : SMap) (X : Heap), ac.length - k = t → k ≤ ac.length → HLe H0 X → Dir X d b m →
    ∃ X' m', loopM (c6 (F_law07ElderLists.l1 (R (n + 7)))) [z1, z2, pt d, sl, iv ac.length, iv k] X = some (.ext 0 [z1, z2, pt d], X') ∧ Dir X' d b m' ∧ HLe H0 X'
  | 0, k, m, X, ht, hk, hle, hD => by
    have : k = ac.length := by omega
    subst this
    refine ⟨X, m, loop_ext ?_, hD, hle⟩
    rw [c6_r]
    unfold F_law07ElderLists.l1
    rw [bind_eq lss_r, cnd_b, if_neg (by simp)]
    rfl
  | t + 1, k, m, X, ht, hk, hle, hD => by
    have hkl : k < ac.length := by omega
    have hlt : (k : Int) < ac.length := by omega
    have hja := List.getElem?_eq_getElem hkl
    have hma := List.getElem_mem hkl
    generalize ac[k] = a at hja hma
    have g1 : (X ++ [AObj.cells a.cells 1 false false])[X.length]? = some (.cells a.cells 1 false false) := app_new
    have l1 : ld1 (pa X.length 1) (X ++ [.cells a.cells 1 false false]) = some (strv a.nm, X ++ [.cells a.cells 1 false false]) := ld1_at g1 rfl
    have l2 : ld1 (pa X.length 2) (X ++ [.cells a.cells 1 false false]) = some (strv a.hs, X ++ [.cells a.cells 1 false false]) := ld1_at g1 rfl
    have hf := fun {K : Value → M Out} => (hA.mono hle).fetch (k := K) hja
    have k1 : HLe X (X ++ [AObj.cells a.cells 1 false false]) := .app _ _
    generalize X ++ [AObj.cells a.cells 1 false false] = X1 at g1 l1 l2 k1 hf
    have hfa := hp a hma
    unfold fewA at hfa
    simp only [Bool.and_eq_true, decide_eq_true_eq] at hfa
    obtain ⟨X2, e2, D2, s2⟩ := r_create (n := n) (k := a.nm) (s := a.hs) (hD.hle k1) (by omega) (by omega)
    have hm := (hle.trans k1).more s2 (by simpa using hb)
    obtain ⟨X3, m3, e3, r3⟩ := lists1_do (z1 := z1) (z2 := z2) hA hn hp hb t (k + 1) _ X2 (by omega) (by omega) hm.1 D2
    refine ⟨X3, m3, (loop_next ?_).trans e3, r3⟩
    rw [c6_r]
    unfold F_law07ElderLists.l1
    rw [bind_eq lss_r, cnd_b, if_pos (by simpa using hlt), hf, bind_eq fa_r, bind_eq l1, bind_eq fa_r, bind_eq l2, bind_eq e2, bind_eq add_r, wsuc (by omega)]
    rfl

theorem preB_run {s : List UInt8} {β : Type} {K : List Value → M β} {p : Value} (h1 : ld1 p X = some (strv s, X)) (hp : p = pt d) {R0 : Option (β × Heap)}
    (hK : ∀ w0 w1 w2 w3 w4 w5 w6, (∃ q, pick (.bool (decide ((s.length : Int) ≥ pre.length))) w6 (.bool false) X = some (.bool q, X) ∧ q = preB pre s) → K [w0, w1, w2, w3, w4, w5, w6] X = R0) :
    bind (gate (.bool (decide ((s.length : Int) ≥ pre.length))) true 7 (bind (fa 0 p) fun v97x58 => bind (ld1 v97x58) fun v98x59 => bind (lenT (strv pre)) fun v100x60 => bind (sls v98x59 none (some v100x60)) fun v101x61 => bind (bop .str .eql v101x61 (strv pre)) fun v103x62 => ret [v97x58, v98x59, strv pre, v100x60, v101x61, strv pre, v103x62])) K X = R0 := by
  subst hp
  by_cases h : pre.length ≤ s.length
  · rw [decide_eq_true (show (s.length : Int) ≥ pre.length by omega)] at hK ⊢
    rw [b_g_in, b_assoc, bind_eq fa_z, b_assoc, bind_eq h1, b_assoc, bind_eq lenT_v, b_assoc, bind_eq (sls_v h), b_assoc, bind_eq eqs_v, b_ret]
    exact hK _ _ _ _ _ _ _ ⟨_, pick_r, by unfold preB; rw [decide_eq_true h]; rfl⟩
  · rw [decide_eq_false (show ¬ (s.length : Int) ≥ pre.length by omega)] at hK ⊢
    rw [bind_eq (g_r.trans (if_neg (by simp)))]
    exact hK _ _ _ _ _ _ _ ⟨_, pick_r, by unfold preB; rw [decide_eq_false h]; rfl⟩

/-- A user is fetched into a variable of its own. -/
theorem ufetch {β : Type} {k : Value → M β} {us : SMap} {j : Nat} {u : List UInt8 × List UInt8} (h : SlN 5 H sl (us.map usr)) (hj : us[j]? = some u) :
    bind (ixa 5 sl (iv j)) (fun p => bind (ldA 5 p) fun v => bind (alc 1 (.agg #[.string ⟨#[]⟩, .string ⟨#[]⟩, .string ⟨#[]⟩, .bool false, .slice none 0 0])) fun q => bind (stA 5 q v) fun _ => k q) H = k (pt H.length) (H ++ [.cells (usr u) 1 false false]) := by
  have hr : (us.map usr)[j]? = some (usr u) := by rw [List.getElem?_map, hj]; rfl
  rw [h.fetch hr (by omega) .i64]
  exact box_a (n := 5) (zs := [.string ⟨#[]⟩, .string ⟨#[]⟩, .string ⟨#[]⟩, .bool false, .slice none 0 0]) (r := usr u) rfl rfl rfl rfl

/-- Each that begins so is in the list. -/
theorem lists2_do {us : SMap} {got long : Value} (hu : us.length ≤ 1000) (hA : SlN 5 H sl (us.map usr)) (hg : Sl H got (((us.map (·.1)).filter (preB pre)).map strv)) : ∀ (t k : Nat) (X : Heap), us.length - k = t → k ≤ us.length → HLe H X →
    ∃ X', loopM (c7 (F_law07ElderLists.l2 (R n))) [strv pre, got, long, iv (((us.map (·.1)).take k).filter (preB pre)).length, sl, iv us.length, iv k] X = some (.ext 2 [got, long, iv ((us.map (·.1)).filter (preB pre)).length], X') ∧ HLe H X'
  | 0, k, X, ht, hk, hle => by
    have : k = us.length := by omega
    subst this
    have : (us.map (·.1)).take us.length = us.map (·.1) := by rw [List.take_of_length_le (by simp)]
    rw [this]
    refine ⟨X, loop_ext ?_, hle⟩
    rw [c7_r]
    unfold F_law07ElderLists.l2
    rw [bind_eq lss_r, cnd_b, if_neg (by simp)]
    rfl
  | t + 1, k, X, ht, hk, hle => by
    have hkl : k < us.length := by omega
    have hlt : (k : Int) < us.length := by omega
    have hg0 := List.getElem?_eq_getElem hkl
    generalize us[k] = u at hg0
    have hgn : (us.map (·.1))[k]? = some u.1 := by rw [List.getElem?_map, hg0]; rfl
    have hf := fun {K : Value → M Out} => ufetch (k := K) (hA.mono hle) hg0
    have g1 : (X ++ [AObj.cells (usr u) 1 false false])[X.length]? = some (.cells (usr u) 1 false false) := app_new
    have l1 : ld1 (pt X.length) (X ++ [.cells (usr u) 1 false false]) = some (strv u.1, X ++ [.cells (usr u) 1 false false]) := ld1_at g1 rfl
    have k1 : HLe X (X ++ [AObj.cells (usr u) 1 false false]) := .app _ _
    generalize X ++ [AObj.cells (usr u) 1 false false] = X1 at g1 l1 k1 hf
    obtain ⟨X2, e2, k2⟩ := lists2_do (long := long) hu hA hg t (k + 1) X1 (by omega) (by omega) (hle.trans k1)
    have hsucc := filt_succ (p := preB pre) hgn
    have hb : c7 (F_law07ElderLists.l2 (R n)) [strv pre, got, long, iv (((us.map (·.1)).take k).filter (preB pre)).length, sl, iv us.length, iv k] X = some (.nrm [strv pre, got, long, iv (((us.map (·.1)).take (k + 1)).filter (preB pre)).length, sl, iv us.length, iv ((k + 1 : Nat) : Int)], X1) := by
      rw [c7_r]
      unfold F_law07ElderLists.l2
      rw [bind_eq lss_r, cnd_b, if_pos (by simpa using hlt)]
      refine (jn_nrm (vs := [strv pre, got, long, iv (((us.map (·.1)).take (k + 1)).filter (preB pre)).length, sl, iv us.length, iv k]) (H' := X1) ?_).trans ?_
      · rw [hf, bind_eq fa_z, bind_eq l1, bind_eq lenT_v, bind_eq lenT_v, bind_eq geq_r]
        refine preB_run (s := u.1) (d := X.length) l1 rfl fun w0 w1 w2 w3 w4 w5 w6 ⟨q, hp, hq⟩ => ?_
        subst hq
        rw [c7_r, bind_eq hp, bind_eq not_r, cnd_b]
        cases hpre : preB pre u.1
        · rw [hsucc, hpre, if_pos (by rfl)]
          rfl
        · rw [if_neg (by simp)]
          have hat := filt_at hgn hpre
          have hlat := (List.getElem?_eq_some_iff.1 hat).1
          have hgX := hg.mono (hle.trans k1)
          have x1 := hgX.len (H' := X1)
          rw [List.length_map] at x1
          have x2 := hgX.ix (i := (((us.map (·.1)).take k).filter (preB pre)).length) (by simpa using hlat) .i64 X1
          have x3 := hgX.ldx (i := (((us.map (·.1)).take k).filter (preB pre)).length) (row_at hat)
          have q1 : bop .int .geq (iv (((us.map (·.1)).take k).filter (preB pre)).length) (iv ((us.map (·.1)).filter (preB pre)).length) X1 = some (.bool false, X1) := by rw [geq_r, decide_eq_false (by omega)]
          have q2 : bop .str .neq (strv u.1) (strv u.1) X1 = some (.bool false, X1) := by rw [nes_v]; simp
          have hl60 : ((us.map (·.1)).filter (preB pre)).length ≤ 1000 := Nat.le_trans (List.length_filter_le _ _) (by simpa using hu)
          rw [bind_eq x1, bind_eq q1, b_gv_in, b_ret, b_gv_in, b_ret, b_gv_in, bind_eq x2, b_gv_in, bind_eq x3, b_gv_in, bind_eq fa_z, b_gv_in, bind_eq l1, b_gv_in, bind_eq q2, bind_eq pick_r]
          simp only [cond_false]
          rw [cnd_b, if_neg (by simp), bind_eq add_r, wsuc (by omega), hsucc, hpre]
          rfl
      · rw [c7_r, bind_eq add_r, wsuc (by omega)]; rfl
    exact ⟨X2, (loop_next hb).trans e2, k2⟩

/-- Of those just what the longer list has. -/
theorem lists3_do {g : List (List UInt8)} {p : List UInt8 → Bool} {got long z : Value} (hu : g.length ≤ 1000) (hg : Sl X got (g.map strv)) (hl : Sl X long ((g.filter p).map strv)) : ∀ (t k : Nat), g.length - k = t → k ≤ g.length →
    loopM (c7 (F_law07ElderLists.l3 (R n))) [got, long, z, iv ((g.take k).filter p).length, got, iv g.length, iv k] X = some (.ext 4 [got, long, z, iv (g.filter p).length], X)
  | 0, k, ht, hk => by
    have : k = g.length := by omega
    subst this
    rw [List.take_length]
    refine loop_ext ?_
    rw [c7_r]
    unfold F_law07ElderLists.l3
    rw [bind_eq lss_r, cnd_b, if_neg (by simp)]
    rfl
  | t + 1, k, ht, hk => by
    have hkl : k < g.length := by omega
    have hlt : (k : Int) < g.length := by omega
    have hg0 := List.getElem?_eq_getElem hkl
    generalize g[k] = x at hg0
    have x1 := hg.ix (i := k) (by simpa using hkl) .i64 X
    have x2 := hg.ldx (row_at hg0)
    have x3 := hl.len (H' := X)
    rw [List.length_map] at x3
    have hsucc := filt_succ (p := p) hg0
    have hfl : (g.filter p).length ≤ g.length := List.length_filter_le _ _
    refine (loop_next ?_).trans (lists3_do hu hg hl t (k + 1) (by omega) (by omega))
    rw [c7_r]
    unfold F_law07ElderLists.l3
    rw [bind_eq lss_r, cnd_b, if_pos (by simpa using hlt), bind_eq x1, bind_eq x2, bind_eq x3, bind_eq lss_r]
    have hfin : ∀ b : Bool, b = p x → jn (cnd (.bool b) (bind (bop .int .add (iv ((g.take k).filter p).length) (Value.int .i64 1)) fun v142x93 => ret (.nrm [got, long, z, v142x93, got, iv g.length, iv k])) (ret (.nrm [got, long, z, iv ((g.take k).filter p).length, got, iv g.length, iv k]))) (c7 fun q94_0 q94_1 q94_2 q94_3 q94_4 q94_5 q94_6 => bind (bop .int .add q94_6 (Value.int .i64 1)) fun v143x95 => ret (.nrm [q94_0, q94_1, q94_2, q94_3, q94_4, q94_5, v143x95])) noX retR X = some (.nrm [got, long, z, iv ((g.take (k + 1)).filter p).length, got, iv g.length, iv ((k + 1 : Nat) : Int)], X) := fun b hb => by
      refine (jn_nrm (vs := [got, long, z, iv ((g.take (k + 1)).filter p).length, got, iv g.length, iv k]) (H' := X) ?_).trans ?_
      · rw [cnd_b, hsucc, ← hb]
        have := filt_le (l := g) (p := p) (k := k)
        cases b
        · rw [if_neg (by simp)]; rfl
        · rw [if_pos rfl, bind_eq add_r, wsuc (by omega)]; rfl
      · rw [c7_r, bind_eq add_r, wsuc (by omega)]; rfl
    by_cases hin : ((g.take k).filter p).length < (g.filter p).length
    · obtain ⟨y, hy⟩ : ∃ y, (g.filter p)[((g.take k).filter p).length]? = some y := ⟨_, List.getElem?_eq_getElem hin⟩
      have hpy : p y = true := (List.mem_filter.1 (List.mem_of_getElem? hy)).2
      have x4 := hl.ix (i := ((g.take k).filter p).length) (by simpa using hin) .i64 X
      have x5 := hl.ldx (row_at hy)
      have hq : (y == x) = p x := by
        cases hpx : p x
        · rw [beq_eq_false_iff_ne]; rintro rfl; rw [hpy] at hpx; cases hpx
        · have := filt_at hg0 hpx
          rw [hy] at this; cases this; simp
      rw [decide_eq_true (by omega), b_g_in, b_assoc, bind_eq x4, b_assoc, bind_eq x5, b_assoc, bind_eq eqs_v, b_ret, c6_r, bind_eq pick_r]
      exact hfin _ hq
    · have hpx : p x = false := by
        cases h : p x
        · rfl
        · exact absurd (List.getElem?_eq_some_iff.1 (filt_at hg0 h)).1 hin
      rw [decide_eq_false (by omega), bind_eq (g_r.trans (if_neg (by simp)))]
      simp only [List.replicate]
      rw [c6_r, bind_eq pick_r]
      exact hfin _ hpx.symm

/-- What a law of directories asks first. -/
theorem guard {β : Type} {Γ : Funs} {H1 H2 : Heap} {x0 : Value} {ok : Bool} {p q : List UInt8} (K : Value → M β) (e2 : Γ n_law07Few [x0] H1 = some (.bool ok, H2)) :
    bind (gate (.bool false) false 3 (bind (Γ n_law07Few [x0]) fun v26x3 => bind (uop .not v26x3) fun v27x4 => ret [x0, v26x3, v27x4])) (c3 fun _ _ q5_2 =>
    bind (pick (.bool false) (Value.bool true) q5_2) fun v28x6 =>
    bind (gate v28x6 false 3 (bind (lenT (strv p)) fun v31x7 => bind (bop .int .gtr v31x7 (Value.int .i64 50)) fun v32x8 => ret [strv p, v31x7, v32x8])) (c3 fun _ _ q9_2 =>
    bind (pick v28x6 (Value.bool true) q9_2) fun v33x10 =>
    bind (gate v33x10 false 3 (bind (lenT (strv q)) fun v36x11 => bind (bop .int .gtr v36x11 (Value.int .i64 50)) fun v37x12 => ret [strv q, v36x11, v37x12])) (c3 fun _ _ q13_2 =>
    bind (pick v33x10 (Value.bool true) q13_2) K))) H1 = K (.bool (!(ok && decide (p.length ≤ 50) && decide (q.length ≤ 50)))) H2 := by
  have hp : decide ((p.length : Int) > 50) = !decide (p.length ≤ 50) := by by_cases h : p.length ≤ 50 <;> simp [h] <;> omega
  have hq : decide ((q.length : Int) > 50) = !decide (q.length ≤ 50) := by by_cases h : q.length ≤ 50 <;> simp [h] <;> omega
  rw [b_g_in, b_assoc, bind_eq e2, b_assoc, bind_eq not_r, b_ret, c3_r, bind_eq pick_r]
  simp only [cond_false]
  cases ok
  · simp only [Bool.not_false]
    rw [bind_eq (g_r.trans (if_neg (by simp)))]
    simp only [List.replicate]
    rw [c3_r, bind_eq pick_r]
    simp only [cond_true]
    rw [bind_eq (g_r.trans (if_neg (by simp)))]
    simp only [List.replicate]
    rw [c3_r, bind_eq pick_r]
    rfl
  · simp only [Bool.not_true]
    rw [b_g_in, b_assoc, bind_eq lenT_v, b_assoc, bind_eq gtr_r, b_ret, c3_r, bind_eq pick_r, hp]
    simp only [cond_false]
    cases decide (p.length ≤ 50)
    · simp only [Bool.not_false]
      rw [bind_eq (g_r.trans (if_neg (by simp)))]
      simp only [List.replicate]
      rw [c3_r, bind_eq pick_r]
      rfl
    · simp only [Bool.not_true]
      rw [b_g_in, b_assoc, bind_eq lenT_v, b_assoc, bind_eq gtr_r, b_ret, c3_r, bind_eq pick_r, hq]
      simp only [cond_false, Bool.true_and]

theorem sortM_keys {m : SMap} : (sortM m).map (·.1) = ksort (m.map (·.1)) := by
  unfold sortM
  rw [List.map_map]
  exact (List.map_congr_left fun a _ => rfl).trans (List.map_id _)

theorem lists_core (hA : EActs H sl ac) (hn : ac.length ≤ 9223372036854775807) : ∃ H', R (n + 9) n_law07ElderLists [sl, strv pre, strv more] H = some (.bool true, H') := by
  obtain ⟨H1, e1, l1⟩ := r_lives (n := n) (H := H)
  obtain ⟨H2, e2, l2⟩ := r_few (n := n + 7) (hA.mono l1) hn
  obtain ⟨H3, e3, l3⟩ := r_lives (n := n) (H := H2)
  have e1 : R (n + 8) n_law07Lives [] H = _ := e1
  have e2 : R (n + 8) n_law07Few [sl] H1 = _ := e2
  have e3 : R (n + 8) n_law07Lives [] H2 = _ := e3
  have f1 : ∀ r H', F_law07ElderLists (R (n + 8)) sl (strv pre) (strv more) H = some (r, H') → R (n + 9) n_law07ElderLists [sl, strv pre, strv more] H = some (r, H') := fun r H' hr => by
    rw [R, run_law07ElderLists rfl]; exact hr
  cases hok : ac.all fewA && decide (ac.length ≤ 60) && decide (pre.length ≤ 50) && decide (more.length ≤ 50)
  · refine ⟨H3, f1 _ _ ?_⟩
    unfold F_law07ElderLists
    rw [bind_eq e1, bind_eq not_r]
    simp only [Bool.not_true]
    refine (guard _ e2).trans ?_
    rw [hok, cnd_b, if_pos (by rfl), bind_eq e3]
    rfl
  · simp only [Bool.and_eq_true, decide_eq_true_eq] at hok
    obtain ⟨⟨⟨hfew, h60⟩, hp50⟩, hm50⟩ := hok
    have hfew' : ∀ a ∈ ac, fewA a = true := List.all_eq_true.1 hfew
    have hk12 := hA.mono (l1.trans l2)
    obtain ⟨H4, d, b, e4, D4, l4, o1, o2⟩ := r_eldNew (n := n + 7) (H := H2)
    obtain ⟨H5, m, e5, D5, l5⟩ := lists1_do (n := n + 1) (z1 := strv pre) (z2 := strv more) hk12 h60 hfew' o2 ac.length 0 [] H4 (by omega) (by omega) l4 D4
    obtain ⟨all, q1, H6, e6, r6, l6, o6⟩ := r_eldAll (n := n + 5) D5
    obtain ⟨got, q2, H7, e7, r7, l7, o7⟩ := r_eldList (n := n + 2) (pre := pre) (D5.hle l6) (by omega)
    obtain ⟨long, q3, H8, e8, r8, l8, o8⟩ := r_eldList (n := n + 2) (pre := pre ++ more) ((D5.hle l6).hle l7) (by simp; omega)
    have e4 : R (n + 8) n_elderNew [] H2 = _ := e4
    have e5 : loopM (c6 (F_law07ElderLists.l1 (R (n + 8)))) [strv pre, strv more, pt d, sl, iv ac.length, .int .i64 0] H4 = _ := e5
    have e6 : R (n + 8) n_elderDirAll [pt d] H5 = _ := e6
    have e7 : R (n + 8) n_elderDirList [pt d, strv pre] H6 = _ := e7
    have e8 : R (n + 8) n_elderDirList [pt d, strv (pre ++ more)] H7 = _ := e8
    have ea := adds_v (a := pre) (b := more) (H := H7) (by omega)
    have el := hA.len (H' := H4)
    have r7' : Sl H8 got _ := (r7.rd.mono l8)
    have r8' := r8.rd
    have r6' := (r6.rd.mono l7).mono l8
    by_cases hpre : prefB pre = true
    · have hep : errPref pre = 0 := by unfold errPref; rw [if_pos hpre]
      rw [if_pos hpre] at r7'
      have hlong : (if prefB (pre ++ more) then (ksort (m.map (·.1))).filter (preB (pre ++ more)) else []) = ((ksort (m.map (·.1))).filter (preB pre)).filter fun s => prefB (pre ++ more) && preB (pre ++ more) s := by
        rw [List.filter_filter]
        cases h : prefB (pre ++ more)
        · simp
        · simp only [if_true, Bool.true_and]
          refine List.filter_congr fun s _ => ?_
          cases h2 : preB (pre ++ more) s
          · simp
          · rw [preB_app h2]; rfl
      rw [hlong] at r8'
      rw [← sortM_keys] at r7' r8'
      have hlen : (sortM m).length ≤ 1000 := by
        have := keys_few D5
        rw [← sortM_keys, List.length_map] at this
        omega
      obtain ⟨H9, e9, l9⟩ := lists2_do (n := n + 8) (long := long) hlen r6' r7' (sortM m).length 0 H8 (by omega) (by omega) (.refl _)
      have r7'' := r7'.mono l9
      have r8'' := r8'.mono l9
      have hgl : (((sortM m).map (·.1)).filter (preB pre)).length ≤ 1000 := Nat.le_trans (List.length_filter_le _ _) (by simpa using hlen)
      have e10 := lists3_do (n := n + 8) (z := iv (((sortM m).map (·.1)).filter (preB pre)).length) hgl r7'' r8'' _ 0 rfl (by omega)
      refine ⟨H9, f1 _ _ ?_⟩
      have x6 := r6.rd.len (H' := H8)
      rw [List.length_map] at x6
      have x7 := r7''.len (H' := H9)
      rw [List.length_map] at x7
      have x8 := r8''.len (H' := H9)
      rw [List.length_map] at x8
      have e9 : loopM (c7 (F_law07ElderLists.l2 (R (n + 8)))) [strv pre, got, long, .int .i64 0, all, iv (sortM m).length, .int .i64 0] H8 = _ := e9
      have e10 : loopM (c7 (F_law07ElderLists.l3 (R (n + 8)))) [got, long, iv (((sortM m).map (·.1)).filter (preB pre)).length, .int .i64 0, got, iv (((sortM m).map (·.1)).filter (preB pre)).length, .int .i64 0] H9 = _ := e10
      have zz : ∀ (z : Int) (X : Heap), bop .int .eql (iv z) (iv z) X = some (.bool true, X) := fun z X => by rw [eql_r]; simp
      unfold F_law07ElderLists
      rw [bind_eq e1, bind_eq not_r]
      simp only [Bool.not_true]
      refine (guard _ e2).trans ?_
      rw [hfew, decide_eq_true h60, decide_eq_true hp50, decide_eq_true hm50, cnd_b, if_neg (by simp), bind_eq e4, bind_eq el, jn_ext e5, xk_hit, c3_r, bind_eq e6, bind_eq e7, bind_eq extr_p0, bind_eq extr_p1, bind_eq ea, bind_eq e8, bind_eq extr_p0, bind_eq extr_p1, bind_eq neq_r, hep, cnd_b, if_neg (by simp), bind_eq x6, jn_ext e9, xk_hit, c3_r, bind_eq x7, jn_ext e10, xk_hit, c4_r, bind_eq x7, bind_eq (zz _ _), b_g_in, b_assoc, bind_eq x8, b_assoc, bind_eq (zz _ _), b_ret, c4_r, bind_eq pick_r]
      rfl
    · have hpm : ¬ prefB (pre ++ more) = true := fun h => hpre (prefB_app h)
      have hep : errPref pre = 10 := by unfold errPref; rw [if_neg hpre]
      have hem : errPref (pre ++ more) = 10 := by unfold errPref; rw [if_neg hpm]
      rw [if_neg hpre] at r7'
      rw [if_neg hpm] at r8'
      have x7 := r7'.len (H' := H8)
      have x8 := r8'.len (H' := H8)
      have x7 : lenS got H8 = some (iv 0, H8) := x7
      have x8 : lenS long H8 = some (iv 0, H8) := x8
      have zz : ∀ (z : Int) (X : Heap), bop .int .eql (iv z) (iv z) X = some (.bool true, X) := fun z X => by rw [eql_r]; simp
      have zn : ∀ X : Heap, bop .int .neq (iv 10) (.int .i64 0) X = some (.bool true, X) := fun X => by rw [neq_r]; rfl
      refine ⟨H8, f1 _ _ ?_⟩
      unfold F_law07ElderLists
      rw [bind_eq e1, bind_eq not_r]
      simp only [Bool.not_true]
      refine (guard _ e2).trans ?_
      rw [hep] at e7
      rw [hem] at e8
      rw [hfew, decide_eq_true h60, decide_eq_true hp50, decide_eq_true hm50, cnd_b, if_neg (by simp), bind_eq e4, bind_eq el, jn_ext e5, xk_hit, c3_r, bind_eq e6, bind_eq e7, bind_eq extr_p0, bind_eq extr_p1, bind_eq ea, bind_eq e8, bind_eq extr_p0, bind_eq extr_p1, bind_eq (zn _), cnd_b, if_pos rfl, bind_eq (zn _), b_g_in, b_assoc, bind_eq x7, b_assoc, bind_eq (zz 0 _), b_ret, c3_r, bind_eq pick_r]
      simp only [cond_true]
      rw [b_g_in, b_assoc, bind_eq x8, b_assoc, bind_eq (zz 0 _), b_ret, c3_r, bind_eq pick_r]
      rfl

theorem law_ElderLists : ∀ (xs : Ins [.slc eldActT, .str, .str]) (H : Heap) (vs : List Value), InsWf [.slc eldActT, .str, .str] xs → InsRd [.slc eldActT, .str, .str] xs H vs → ∃ n H', R n n_law07ElderLists vs H = some (.bool true, H') := by
  intro xs H vs hwf hrd
  obtain ⟨l, s, t, _⟩ := xs
  obtain ⟨hl, _, _, _⟩ := hwf
  obtain ⟨c1, _, rfl, hc1, h1, c2, _, rfl, hc2, h2, c3, _, rfl, hc3, h3, rfl⟩ := hrd
  have h2 : c2 = [.string s] := h2
  have h3 : c3 = [.string t] := h3
  subst h2
  subst h3
  obtain ⟨a, rfl⟩ : ∃ a, c1 = [a] := by
    match c1, hc1 with
    | [a], _ => exact ⟨a, rfl⟩
  obtain ⟨ac, hA, hn⟩ := rd_eldActs hl h1
  have hs : Value.string s = strv (ByteArray.data s).toList := strv_of s
  have ht : Value.string t = strv (ByteArray.data t).toList := strv_of t
  obtain ⟨H', e⟩ := lists_core (n := 0) (pre := (ByteArray.data s).toList) (more := (ByteArray.data t).toList) hA hn
  refine ⟨9, H', ?_⟩
  rw [← hs, ← ht] at e
  exact e

end

end Go.Proofs.Ytmacmlpiheimhaa.A
