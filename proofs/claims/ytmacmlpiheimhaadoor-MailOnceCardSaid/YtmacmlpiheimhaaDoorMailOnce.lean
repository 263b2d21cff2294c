/- MailOnce: each address has one name. -/
import Derived.Test.YtmacmlpiheimhaaDoorMail8
import Derived.Test.YtmacmlpiheimhaaDoorOfA
namespace Go.Proofs.YtmacmlpiheimhaaDoor.A
set_option linter.unusedVariables false
set_option linter.unusedSimpArgs false
open Go.Proofs Go.Proofs.YtmacmlpiheimhaaDoor

theorem Fr.hle {s c : Nat} {B X X' : Heap} (h : Fr s c B X) (hl : HLe X X') : Fr s c B X' := ⟨Nat.le_trans h.len hl.len, fun j hj h1 h2 => (hl.step.keep j (Nat.lt_of_lt_of_le hj h.len) (by simp)).trans (h.keep j hj h1 h2)⟩
theorem Fr.step {s : Nat} {B X X' : Heap} {o1 o2 : List Nat} (h : Fr s s B X) (hs : Step o1 X o2 X') (ho : ∀ j ∈ o1, j = s ∨ B.length ≤ j) : Fr s s B X' := ⟨Nat.le_trans h.len hs.len, fun j hj h1 h2 => (hs.keep j (Nat.lt_of_lt_of_le hj h.len) fun hm => by rcases ho j hm with h | h <;> omega).trans (h.keep j hj h1 h2)⟩

theorem foldB_down : ∀ b : UInt8, (decide (97 ≤ b.toNat) && decide (b.toNat ≤ 122)) = true → ∃ u : UInt8, IntKind.u8.wrap (IntKind.u8.wrap ((b.toNat : Int) - 97) + 65) = (u.toNat : Int) ∧ foldB u = foldB b := fun b h => ⟨UInt8.ofNat (b.toNat - 32), u8_all (p := fun b => (decide (97 ≤ b.toNat) && decide (b.toNat ≤ 122)) = true → IntKind.u8.wrap (IntKind.u8.wrap ((b.toNat : Int) - 97) + 65) = ((UInt8.ofNat (b.toNat - 32)).toNat : Int) ∧ foldB (UInt8.ofNat (b.toNat - 32)) = foldB b) (by decide +kernel) b h⟩

section
variable {X : Heap} {n : Nat}

/-- Some of the small letters are made great. -/
theorem up_do {v z3 z6 z7 z9 z24 z25 z26 z56 z57 z58 : Value} {q : List Nat} {i : Nat} (hi : i ≤ 1000) {len : Nat} (hlen : len ≤ 1000) : ∀ (t j : Nat) (cs : List UInt8) (X : Heap), len - j = t → j ≤ len → cs.length = len → RowS X v (u8s cs) q →
    ∃ X' cs', loopM (c15 (F_law09MailOnce.l3 (R n))) [z3, z6, z7, iv i, z9, v, z24, z25, z26, z56, z57, z58, v, iv len, iv j] X = some (.ext 5 [z3, z6, z7, iv i, z9, v, z24, z25, z26, z56, z57, z58], X') ∧ RowS X' v (u8s cs') q ∧ foldL cs' = foldL cs ∧ cs'.length = len ∧ Step q X q X'
  | 0, j, cs, X, ht, hj, hl, hr => by
    refine ⟨X, cs, loop_ext ?_, hr, rfl, hl, .refl _ _⟩
    rw [c15_r, show j = len by omega]
    unfold F_law09MailOnce.l3
    rw [bind_eq lss_r, cnd_b, if_neg (by simp)]
    rfl
  | t + 1, j, cs, X, ht, hj, hl, hr => by
    have hkl : j < cs.length := by omega
    have hlt : (j : Int) < len := by omega
    have hg := List.getElem?_eq_getElem hkl
    generalize cs[j] = b at hg
    have hul : (u8s cs).length = len := by rw [u8s_length, hl]
    have x1 := hr.ix (i := j) (by omega) .i64 X
    have x2 := hr.ldx (u8s_at hg)
    obtain ⟨par, r1, r2, hpar⟩ : ∃ (par : Bool) (r1 r2 : Value), (bind (bop .int .add (iv i) (iv j)) fun v82x53 => bind (bop .int .rem v82x53 (Value.int .i64 2)) fun v83x54 => bind (bop .int .eql v83x54 (Value.int .i64 0)) fun v84x55 => ret [iv i, iv j, v82x53, v83x54, v84x55]) X = some ([iv i, iv j, r1, r2, .bool par], X) := by
      refine ⟨(IntKind.i64.wrap ((i : Int) + (j : Int))).tmod 2 == 0, .int .i64 (IntKind.i64.wrap ((i : Int) + (j : Int))), .int .i64 ((IntKind.i64.wrap ((i : Int) + (j : Int))).tmod 2), ?_⟩
      rw [bind_eq add_r, bind_eq (rem_r.trans (if_neg (by decide))), bind_eq eql_r]
      rfl
    have hpk : ∃ w : Bool, (w = true → (decide (97 ≤ b.toNat) && decide (b.toNat ≤ 122)) = true) ∧ ∀ (K : Value → M Out), bind (bop .int .geq (u8v b) (Value.int .u8 97)) (fun v74x49 =>
        bind (gate v74x49 true 2 (bind (bop .int .leq (u8v b) (Value.int .u8 122)) fun v77x50 => ret [u8v b, v77x50])) (c2 fun _ q51_1 =>
        bind (pick v74x49 q51_1 (Value.bool false)) fun v78x52 =>
        bind (gate v78x52 true 5 (bind (bop .int .add (iv i) (iv j)) fun v82x53 => bind (bop .int .rem v82x53 (Value.int .i64 2)) fun v83x54 => bind (bop .int .eql v83x54 (Value.int .i64 0)) fun v84x55 => ret [iv i, iv j, v82x53, v83x54, v84x55])) (c5 fun _ _ _ _ q56_4 =>
        bind (pick v78x52 q56_4 (Value.bool false)) K))) X = K (.bool w) X := by
      have e1 : decide ((b.toNat : Int) ≥ 97) = decide (97 ≤ b.toNat) := by rw [decide_eq_decide]; omega
      have e2 : decide ((b.toNat : Int) ≤ 122) = decide (b.toNat ≤ 122) := by rw [decide_eq_decide]; omega
      refine ⟨decide (97 ≤ b.toNat) && decide (b.toNat ≤ 122) && par, fun h => by simp only [Bool.and_eq_true] at h ⊢; exact h.1, fun K => ?_⟩
      rw [bind_eq geq_r, e1]
      cases decide (97 ≤ b.toNat)
      · rw [bind_eq (g_r.trans (if_neg (by simp)))]
        simp only [List.replicate]
        rw [c2_r, bind_eq pick_r]
        simp only [cond_false]
        rw [bind_eq (g_r.trans (if_neg (by simp)))]
        simp only [List.replicate]
        rw [c5_r, bind_eq pick_r]
        rfl
      · rw [b_g_in, b_assoc, bind_eq leq_r, b_ret, c2_r, bind_eq pick_r, e2]
        simp only [cond_true]
        cases decide (b.toNat ≤ 122)
        · rw [bind_eq (g_r.trans (if_neg (by simp)))]
          simp only [List.replicate]
          rw [c5_r, bind_eq pick_r]
          rfl
        · rw [b_g_in, bind_eq hpar, c5_r, bind_eq pick_r]
          rfl
    obtain ⟨w, hw, hK⟩ := hpk
    cases w
    · obtain ⟨X', cs', e, r'⟩ := up_do hi hlen t (j + 1) cs X (by omega) (by omega) hl hr
      refine ⟨X', cs', (loop_next ?_).trans e, r'⟩
      rw [c15_r]
      unfold F_law09MailOnce.l3
      rw [bind_eq lss_r, cnd_b, if_pos (by simpa using hlt), bind_eq x1, bind_eq x2]
      refine (hK _).trans ?_
      refine (jn_nrm (vs := [z3, z6, z7, iv i, z9, v, z24, z25, z26, z56, z57, z58, v, iv len, iv j]) (H' := X) ?_).trans ?_
      · rw [cnd_b, if_neg (by simp)]; rfl
      · rw [c15_r, bind_eq add_r, wsuc (by omega)]; rfl
    · obtain ⟨u, hu, hfu⟩ := foldB_down b (hw rfl)
      obtain ⟨X1, x3, r1, s1, _⟩ := hr.stx (i := j) (u := u8v u) (by omega) rfl
      rw [u8s_set] at r1
      obtain ⟨X', cs', e, r', hf', hl', s'⟩ := up_do hi hlen t (j + 1) (cs.set j u) X1 (by omega) (by omega) (by simpa using hl) r1
      refine ⟨X', cs', (loop_next ?_).trans e, r', ?_, hl', s1.trans s'⟩
      · rw [c15_r]
        unfold F_law09MailOnce.l3
        rw [bind_eq lss_r, cnd_b, if_pos (by simpa using hlt), bind_eq x1, bind_eq x2]
        refine (hK _).trans ?_
        refine (jn_nrm (vs := [z3, z6, z7, iv i, z9, v, z24, z25, z26, z56, z57, z58, v, iv len, iv j]) (H' := X1) ?_).trans ?_
        · rw [cnd_b, if_pos rfl, bind_eq sub_r, bind_eq add_r, hu, bind_eq x1, bind_eq x3]; rfl
        · rw [c15_r, bind_eq add_r, wsuc (by omega)]; rfl
      · rw [hf']
        unfold foldL
        rw [List.map_set, hfu]
        have : (cs.map foldB)[j]? = some (foldB b) := by rw [List.getElem?_map, hg]; rfl
        exact List.ext_getElem? fun k => by
          by_cases hk : k = j
          · subst hk; rw [List.getElem?_set_self (by rw [List.length_map]; omega), this]
          · rw [List.getElem?_set_ne (Ne.symm hk)]

theorem pfetch {β : Type} {H : Heap} {sl : Value} {k : Value → M β} {us : SMap} {j : Nat} {u : Ent} (h : SlN 2 H sl (us.map prc)) (hj : us[j]? = some u) :
    bind (ixa 2 sl (iv j)) (fun p => bind (ldA 2 p) fun v => bind (alc 1 (.agg #[.string ⟨#[]⟩, .string ⟨#[]⟩])) fun q => bind (stA 2 q v) fun _ => k q) H = k (pt H.length) (H ++ [.cells (prc u) 1 false false]) := by
  have hr : (us.map prc)[j]? = some (prc u) := by rw [List.getElem?_map, hj]; rfl
  rw [h.fetch hr (by omega) .i64]
  exact box_a (n := 2) (zs := [.string ⟨#[]⟩, .string ⟨#[]⟩]) (r := prc u) rfl rfl rfl rfl

abbrev ivE (c : Int) : Value := iv c

/-- Each pair's address is found again, and has not been seen. -/
theorem once2_do {B : Heap} {x o a sm : Nat} {OW OF : SMap} {vp z24 z25 z26 : Value} {q : List Nat} (hI : Idx B x o a OW OF) (hg : Good OF) (hl : OF.length ≤ 60) (hr : RowN 2 B vp ((sortM OF).map prc) q) (hsm : sm < B.length) (hne : x ≠ sm ∧ o ≠ sm ∧ a ≠ sm ∧ sm ∉ q) : ∀ (t k : Nat) (cnt : List (List UInt8 × Int)) (X : Heap), (sortM OF).length - k = t → k ≤ (sortM OF).length → Fr sm sm B X → MapG ivE X sm cnt → (∀ v, v ∉ ((sortM OF).take k).map (·.2) → aget v cnt = none) →
    ∃ X', loopM (c9 (F_law09MailOnce.l2 (R (n + 9)))) [pt x, .map (some sm), vp, z24, z25, z26, vp, iv (sortM OF).length, iv k] X = some (.ext 3 [pt x, vp, z24, z25, z26], X') ∧ Fr sm sm B X'
  | 0, k, cnt, X, ht, hk, hF, hm, hc => by
    refine ⟨X, loop_ext ?_, hF⟩
    rw [c9_r, show k = (sortM OF).length by omega]
    unfold F_law09MailOnce.l2
    rw [bind_eq lss_r, cnd_b, if_neg (by simp)]
    rfl
  | t + 1, k, cnt, X, ht, hk, hF, hm, hc => by
    have hsl : (sortM OF).length = OF.length := sortM_len
    have hkl : k < (sortM OF).length := by omega
    have hlt : (k : Int) < (sortM OF).length := by omega
    have hjk := List.getElem?_eq_getElem hkl
    have hmem := List.getElem_mem hkl
    have hdk := List.drop_eq_getElem_cons hkl
    have htk := List.take_succ_eq_append_getElem hkl
    generalize (sortM OF)[k] = u at hjk hmem hdk htk
    obtain ⟨nm, ml⟩ := u
    have hnd := hI.of.nod
    have hag : aget nm OF = some ml := (mem_sortM hnd).1 hmem
    obtain ⟨g1, g2, g3⟩ := hg nm ml hag
    have hml : ml.length ≤ 20 := by have := (mail_ne g2).2; rwa [g3] at this
    have hrise : ∀ y ∈ (sortM OF).take k, y.1 < nm := by
      have h := rise_sortM hnd
      unfold Rise at h
      rw [← List.take_append_drop k (sortM OF), hdk] at h
      exact fun y hy => (List.pairwise_append.1 h).2.2 y hy (nm, ml) (by simp)
    have hnew : ml ∉ ((sortM OF).take k).map (·.2) := fun hin => by
      obtain ⟨y, hy, he⟩ := List.mem_map.1 hin
      have h1 : aget y.1 OF = some y.2 := (mem_sortM hnd).1 (List.mem_of_mem_take hy)
      rw [he] at h1
      have h2 := (hI.inv.inv _ _).1 h1
      rw [(hI.inv.inv _ _).1 hag] at h2
      have h3 := hrise y hy
      rw [← Option.some.inj h2] at h3
      exact List.lt_irrefl _ h3
    have keepI : ∀ Y, Fr sm sm B Y → Idx Y x o a OW OF := fun Y hY => ⟨(hY.keep x (get_lt hI.c) hne.1 hne.1).trans hI.c, hI.ow.keep (hY.keep o hI.ow.lt hne.2.1 hne.2.1), hI.of.keep (hY.keep a hI.of.lt hne.2.2.1 hne.2.2.1), hI.ne, hI.inv⟩
    have keepR : ∀ Y, Fr sm sm B Y → RowN 2 Y vp ((sortM OF).map prc) q := fun Y hY => hr.keep fun j hj => hY.keep j (hr.lt j hj) (fun e => hne.2.2.2 (e ▸ hj)) (fun e => hne.2.2.2 (e ▸ hj))
    have bx : (X ++ [AObj.cells (prc (nm, ml)) 1 false false])[X.length]? = some (.cells (prc (nm, ml)) 1 false false) := app_new
    have hf := fun {K : Value → M Out} => pfetch (k := K) (keepR X hF).rd hjk
    have k1 : HLe X (X ++ [AObj.cells (prc (nm, ml)) 1 false false]) := .app _ _
    generalize X ++ [AObj.cells (prc (nm, ml)) 1 false false] = X1 at bx k1 hf
    have l1 : ld1 (pa X.length 1) X1 = some (strv ml, X1) := ld1_at bx rfl
    have e1 := s2b_v (s := ml) (H := X1)
    have k2 : HLe X1 (X1 ++ [.cells (u8s ml) 1 true false]) := .app _ _
    have r1 : RowS (X1 ++ [.cells (u8s ml) 1 true false]) (.slice (some ⟨X1.length, 0, none⟩) ml.length ml.length) (u8s ml) [X1.length] := .inr ⟨X1.length, [], true, by rw [u8s_length]; rfl, rfl, by rw [app_new, List.append_nil]⟩
    generalize X1 ++ [AObj.cells (u8s ml) 1 true false] = X2 at e1 k2 r1
    have hel : lenS (.slice (some ⟨X1.length, 0, none⟩) ml.length ml.length) X2 = some (iv ml.length, X2) := rfl
    obtain ⟨X3, cs, e2, r2, hfc, hcl, s2⟩ := up_do (n := n + 9) (z3 := pt x) (z6 := .map (some sm)) (z7 := vp) (z9 := pt X.length) (z24 := z24) (z25 := z25) (z26 := z26) (z56 := vp) (z57 := iv (sortM OF).length) (z58 := iv k) (i := k) (len := ml.length) (by omega) (by omega) ml.length 0 ml X2 (by omega) (by omega) rfl r1
    rw [show iv ((0 : Nat) : Int) = .int .i64 0 from rfl] at e2
    have hX1 := k1.len
    have hXl : X.length < X1.length := get_lt bx
    have hBX := hF.len
    have F3 : Fr sm sm B X3 := ((hF.hle k1).hle k2).step s2 (fun j hj => .inr (by simp only [List.mem_singleton] at hj; omega))
    have e3 := b2s_v r2.rd
    obtain ⟨X4, e4, k4⟩ := r_mfind (n := n) (m := cs) (keepI X3 F3)
    have hmc : mailB cs = true := by
      unfold mailB at g2 ⊢
      rw [hfc, hcl]
      exact g2
    have hfo : foldL cs = ml := hfc.trans g3
    have hft : findT cs OW = nm := by
      unfold findT
      rw [if_pos hmc, hfo, (hI.inv.inv _ _).1 hag]; rfl
    have hfe : errFindI cs OW = 0 := by
      unfold errFindI
      rw [if_pos hmc, hfo, (hI.inv.inv _ _).1 hag]; rfl
    rw [hft, hfe] at e4
    have F4 := F3.hle k4
    have b4 : X4[X.length]? = some (.cells (prc (nm, ml)) 1 false false) := k4 _ _ (s2.get (k2 _ _ bx) (by simp; omega))
    have m4 : MapG ivE X4 sm cnt := (((hm.hle k1).hle k2).step s2 (by simp; omega)).hle k4
    have l4 : ld1 (pa X.length 1) X4 = some (strv ml, X4) := ld1_at b4 rfl
    have e5 : lkp .str (.int .i64 0) false (.map (some sm)) (strv ml) X4 = some (iv 0, X4) := by rw [m4.lkp, hc ml hnew]; rfl
    have e6 : bop .int .add (iv 0) (.int .i64 1) X4 = some (ivE 1, X4) := by rw [add_r]; rfl
    obtain ⟨X5, e7, m5, s5, _⟩ := m4.mup (k := ml) (v := 1)
    have F5 := F4.step s5 (fun j hj => .inl (by simpa using hj))
    have b5 := s5.get b4 (by simp; omega)
    have l5 : ld1 (pa X.length 1) X5 = some (strv ml, X5) := ld1_at b5 rfl
    have l6 : ld1 (pa X.length 0) X5 = some (strv nm, X5) := ld1_at b5 rfl
    have e8 : lkp .str (.int .i64 0) false (.map (some sm)) (strv ml) X5 = some (iv 1, X5) := by rw [m5.lkp, aget_aput]; rfl
    have q1 : bop .int .neq (iv 1) (.int .i64 1) X5 = some (.bool false, X5) := by rw [neq_r]; rfl
    have q0 : bop .int .neq (iv 0) (.int .i64 0) X5 = some (.bool false, X5) := by rw [neq_r]; rfl
    have q2 : bop .str .neq (strv nm) (strv nm) X5 = some (.bool false, X5) := by rw [nes_v]; simp
    obtain ⟨X6, e9, F6⟩ := once2_do hI hg hl hr hsm hne t (k + 1) _ X5 (by omega) (by omega) F5 m5 (fun v hv => by
      rw [htk, List.map_append, List.mem_append, not_or] at hv
      have h1 : v ≠ ml := fun e => hv.2 (by simp [e])
      rw [aget_aput_ne h1]
      exact hc v hv.1)
    refine ⟨X6, (loop_next ?_).trans e9, F6⟩
    rw [c9_r]
    unfold F_law09MailOnce.l2
    rw [bind_eq lss_r, cnd_b, if_pos (by simpa using hlt), hf, bind_eq fa_z, bind_eq l1, bind_eq e1, bind_eq hel, jn_ext e2, xk_hit, c12_r, bind_eq e3, bind_eq e4, bind_eq extr_p0, bind_eq extr_p1, bind_eq fa_z, bind_eq l4, bind_eq e5, bind_eq e6, bind_eq e7, bind_eq fa_z, bind_eq l5, bind_eq e8, bind_eq q1, b_gv_in, b_ret, b_gv_in, bind_eq q0, bind_eq pick_r]
    simp only [cond_false]
    rw [b_gv_in, b_ret, b_gv_in, bind_eq fa_z, b_gv_in, bind_eq l6, b_gv_in, bind_eq q2, bind_eq pick_r]
    simp only [cond_false]
    rw [b_gv_in, b_ret, b_gv_in, bind_eq gtr_r, b_gv_in, b_ret]
    by_cases h0 : k = 0
    · subst h0
      rw [show decide (((0 : Nat) : Int) > 0) = false by decide, b_gv_out (by rfl), b_gv_out (by rfl), b_gv_out (by rfl), b_gv_out (by rfl), b_gv_out (by rfl), b_gv_out (by rfl), b_gv_out (by rfl), b_gv_out (by rfl), b_gv_out (by rfl), b_gv_in, bind_eq pick_r, bind_eq pick_r]
      simp only [cond_false]
      rw [cnd_b, if_neg (by simp), bind_eq add_r, wsuc (by omega)]
      rfl
    · have hk1 : k - 1 < (sortM OF).length := by omega
      have hj1 := List.getElem?_eq_getElem hk1
      have hin : (sortM OF)[k - 1] ∈ (sortM OF).take k := List.mem_take_iff_getElem.2 ⟨k - 1, by omega, rfl⟩
      generalize (sortM OF)[k - 1] = y at hj1 hin
      have hy := hrise y hin
      have hr5 : ((sortM OF).map prc)[k - 1]? = some (prc y) := by rw [List.getElem?_map, hj1]; rfl
      obtain ⟨id, oo, cc, es, gg, ro, x1, x2, x3, x4, _⟩ := (keepR X5 F5).rd.at hr5 (by omega) .i64
      have x5 : cc[oo]? = some (strv y.1) := by
        have := congrArg (·[0]?) x3
        simpa [prc] using this
      have x6 : ld1 (pa id oo) X5 = some (strv y.1, X5) := ld1_at x2 x5
      have x7 : bop .int .sub (iv k) (.int .i64 1) X5 = some (iv ((k - 1 : Nat) : Int), X5) := by
        rw [sub_r, wpred (by omega) (by omega)]
      have x8 : bop .str .geq (strv y.1) (strv nm) X5 = some (.bool false, X5) := by rw [ges_v, decide_eq_true hy]; rfl
      have x9 : fa 0 (pa id oo) X5 = some (pa id oo, X5) := fa_r
      rw [show decide ((k : Int) > 0) = true from decide_eq_true (by omega), b_gv_in, b_ret, b_gv_in, b_ret, b_gv_in, bind_eq x7, b_gv_in, bind_eq (x1 _), b_gv_in, bind_eq x9, b_gv_in, bind_eq x6, b_gv_in, bind_eq fa_z, b_gv_in, bind_eq l6, b_gv_in, bind_eq x8, b_gv_in, bind_eq pick_r, bind_eq pick_r]
      simp only [cond_false, cond_true]
      rw [cnd_b, if_neg (by simp), bind_eq add_r, wsuc (by omega)]
      rfl

theorem Good.drop {OF : SMap} {k : List UInt8} (h : Good OF) : Good (dropF k OF) := fun j v hj => by
  by_cases hk : j = k
  · rw [hk, aget_dropF] at hj; cases hj
  · rw [aget_dropF_ne hk] at hj; exact h j v hj

theorem Good.ren {OF : SMap} {s t : List UInt8} (h : Good OF) : Good (renF s t OF) := by
  by_cases hE : errRenI s t OF = 0
  · obtain ⟨m, ha, hb, _⟩ := ren_ok hE
    intro j v hj
    by_cases hjt : j = t
    · rw [hjt, ren_at hE, ha] at hj
      cases hj
      exact ⟨hjt ▸ hb, (h s m ha).2⟩
    · by_cases hjs : j = s
      · rw [hjs, ren_old hE (fun e => hjt (hjs.trans e))] at hj; cases hj
      · rw [ren_ne hE hjs hjt] at hj; exact h j v hj
  · unfold renF; rw [if_neg hE]; exact h

theorem renF_few {OF : SMap} {s t : List UInt8} : (renF s t OF).length ≤ OF.length + 1 := by
  have h1 := dropF_few (k := s) (OF := OF)
  have h2 := aput_le (k := t) (v := (aget s OF).getD []) (m := dropF s OF)
  unfold renF
  split <;> omega

variable {H : Heap} {sl : Value} {ac : List EAct}

/-- After each act. -/
theorem once1_do {x o a : Nat} (hA : EActs H sl ac) (hn : ac.length ≤ 60) (hb : H.length ≤ o ∧ H.length ≤ a) : ∀ (t j : Nat) (OW OF : SMap) (X : Heap), ac.length - j = t → j ≤ ac.length → HLe H X → Idx X x o a OW OF → Good OF → OF.length ≤ j →
    ∃ X', loopM (c4 (F_law09MailOnce.l1 (R (n + 10)))) [pt x, sl, iv ac.length, iv j] X = some (.ext 0 [], X')
  | 0, j, OW, OF, X, ht, hj, hle, hI, hg, hl => by
    refine ⟨X, loop_ext ?_⟩
    rw [c4_r, show j = ac.length by omega]
    unfold F_law09MailOnce.l1
    rw [bind_eq lss_r, cnd_b, if_neg (by simp)]
    rfl
  | t + 1, j, OW, OF, X, ht, hj, hle, hI, hg, hl => by
    have hkl : j < ac.length := by omega
    have hlt : (j : Int) < ac.length := by omega
    have hja := List.getElem?_eq_getElem hkl
    generalize ac[j] = u at hja
    have g1 : (X ++ [AObj.cells u.cells 1 false false])[X.length]? = some (.cells u.cells 1 false false) := app_new
    have l0 : ld1 (pa X.length 0) (X ++ [.cells u.cells 1 false false]) = some (.int .u8 u.kd, X ++ [.cells u.cells 1 false false]) := ld1_at g1 rfl
    have l1 : ld1 (pa X.length 1) (X ++ [.cells u.cells 1 false false]) = some (strv u.nm, X ++ [.cells u.cells 1 false false]) := ld1_at g1 rfl
    have l2 : ld1 (pa X.length 2) (X ++ [.cells u.cells 1 false false]) = some (strv u.hs, X ++ [.cells u.cells 1 false false]) := ld1_at g1 rfl
    have hf := fun {K : Value → M Out} => (hA.mono hle).fetch (k := K) hja
    have k1 : HLe X (X ++ [AObj.cells u.cells 1 false false]) := .app _ _
    generalize X ++ [AObj.cells u.cells 1 false false] = X1 at g1 l0 l1 l2 k1 hf
    have act : ∀ b2 b3 : Bool, ∃ X2 OW' OF', ((cnd (.bool b2)
        (bind (fa 1 (pt X.length)) fun v42x18 => bind (ld1 v42x18) fun v43x19 => bind (R (n + 10) n_mailIndexDrop [pt x, v43x19]) fun v44x20 => ret (.nrm [pt x, sl, iv ac.length, iv j]))
        (jn (cnd (.bool b3)
          (bind (fa 1 (pt X.length)) fun v48x22 => bind (ld1 v48x22) fun v49x23 => bind (fa 2 (pt X.length)) fun v50x24 => bind (ld1 v50x24) fun v51x25 => bind (R (n + 10) n_mailIndexRename [pt x, v49x23, v51x25]) fun v52x26 => ret (.nrm [pt x, sl, iv ac.length, iv j]))
          (bind (fa 1 (pt X.length)) fun v34x27 => bind (ld1 v34x27) fun v35x28 => bind (fa 2 (pt X.length)) fun v36x29 => bind (ld1 v36x29) fun v37x30 => bind (R (n + 10) n_mailIndexSet [pt x, v35x28, v37x30]) fun v38x31 => ret (.nrm [pt x, sl, iv ac.length, iv j]))) (c4 fun q32_0 q32_1 q32_2 q32_3 => ret (.nrm [q32_0, q32_1, q32_2, q32_3])) noX retR)) : M Out) X1 = some (.nrm [pt x, sl, iv ac.length, iv j], X2) ∧ Idx X2 x o a OW' OF' ∧ Good OF' ∧ OF'.length ≤ OF.length + 1 ∧ Step [o, a] X1 [o, a] X2 := fun b2 b3 => by
      cases b2
      · cases b3
        · obtain ⟨X2, e2, I2, s2⟩ := r_mset (n := n + 1) (k := u.nm) (m := u.hs) (hI.hle k1)
          refine ⟨X2, _, _, ?_, I2, hg.set, setF_le, s2⟩
          rw [cnd_b, if_neg (by simp)]
          refine (jn_nrm (vs := [pt x, sl, iv ac.length, iv j]) (H' := X2) ?_).trans rfl
          rw [cnd_b, if_neg (by simp), bind_eq fa_z, bind_eq l1, bind_eq fa_z, bind_eq l2, bind_eq e2]
          rfl
        · obtain ⟨X2, e2, I2, s2⟩ := r_mren (n := n + 4) (old := u.nm) (next := u.hs) (hI.hle k1)
          refine ⟨X2, _, _, ?_, I2, hg.ren, renF_few, s2⟩
          rw [cnd_b, if_neg (by simp)]
          refine (jn_nrm (vs := [pt x, sl, iv ac.length, iv j]) (H' := X2) ?_).trans rfl
          rw [cnd_b, if_pos rfl, bind_eq fa_z, bind_eq l1, bind_eq fa_z, bind_eq l2, bind_eq e2]
          rfl
      · obtain ⟨X2, e2, I2, s2⟩ := r_mdrop (n := n + 9) (k := u.nm) (hI.hle k1)
        refine ⟨X2, _, _, ?_, I2, hg.drop, by have := dropF_few (k := u.nm) (OF := OF); omega, s2⟩
        rw [cnd_b, if_pos rfl, bind_eq fa_z, bind_eq l1, bind_eq e2]
        rfl
    obtain ⟨X2, OW2, OF2, e2, I2, g2, n2, s2⟩ := act (((u.kd : Int).tmod 4) == 2) (((u.kd : Int).tmod 4) == 3)
    have hm2 := ((hle.trans k1).more s2 (by simpa using hb)).1
    obtain ⟨X3, e3, m3, k3, len3⟩ : ∃ X3, mkm X2 = some (.map (some X2.length), X3) ∧ MapG ivE X3 X2.length ([] : List (List UInt8 × Int)) ∧ HLe X2 X3 ∧ X3.length = X2.length + 1 := by
      obtain ⟨X3, e, m, k, l⟩ := mkm_d (α := Int) (enc := ivE) X2
      exact ⟨X3, e, m.g, k, l⟩
    obtain ⟨vp, q, X4, e4, r4, k4, o4⟩ := r_pairs (n := n + 6) (most := 100) (I2.hle k3) (by omega)
    have e4 : R (n + 10) n_law09Pairs [pt x, .int .i64 100] X3 = _ := e4
    have htk : (sortM OF2).take (100 : Int).toNat = sortM OF2 := List.take_of_length_le (by rw [sortM_len]; show _ ≤ 100; omega)
    rw [htk] at r4
    have I4 := (I2.hle k3).hle k4
    have hx2 := get_lt I2.c
    have ho2 := I2.ow.lt
    have ha2 := I2.of.lt
    have hl4 := k4.len
    have el : lenS vp X4 = some (iv (sortM OF2).length, X4) := by
      have := r4.rd.len (H' := X4)
      rwa [List.length_map] at this
    obtain ⟨X5, e5, F5⟩ := once2_do (n := n + 1) (z24 := sl) (z25 := iv ac.length) (z26 := iv j) (sm := X2.length) I4 g2 (by omega) r4 (by omega) ⟨by omega, by omega, by omega, fun hin => by have := o4 _ hin; omega⟩ (sortM OF2).length 0 [] X4 (by omega) (by omega) ⟨Nat.le_refl _, fun _ _ _ _ => rfl⟩ (m3.hle k4) (fun _ _ => rfl)
    rw [show iv ((0 : Nat) : Int) = .int .i64 0 from rfl] at e5
    have I5 : Idx X5 x o a OW2 OF2 := ⟨(F5.keep x (get_lt I4.c) (by omega) (by omega)).trans I4.c, I4.ow.keep (F5.keep o I4.ow.lt (by omega) (by omega)), I4.of.keep (F5.keep a I4.of.lt (by omega) (by omega)), I4.ne, I4.inv⟩
    have hle5 : HLe H X5 := fun i v hi => by
      have h4 := ((hm2.trans k3).trans k4) _ _ hi
      have := get_lt hi
      have := hm2.len
      rw [F5.keep i (get_lt h4) (by omega) (by omega)]
      exact h4
    have e6 : R (n + 10) n_mailIndexLen [pt x] X5 = _ := r_mlen (n := n + 9) I5
    have el5 : lenS vp X5 = some (iv (sortM OF2).length, X5) := by
      have := r4.rd.len (H' := X5)
      rwa [List.length_map] at this
    have q0 : bop .int .neq (iv OF2.length) (iv (sortM OF2).length) X5 = some (.bool false, X5) := by rw [neq_r, sortM_len]; simp
    obtain ⟨X6, e7⟩ := once1_do hA hn hb t (j + 1) OW2 OF2 X5 (by omega) (by omega) hle5 I5 g2 (by omega)
    refine ⟨X6, (loop_next ?_).trans e7⟩
    rw [c4_r]
    unfold F_law09MailOnce.l1
    rw [bind_eq lss_r, cnd_b, if_pos (by simpa using hlt), hf, bind_eq fa_z, bind_eq l0, bind_eq (rem_r.trans (if_neg (by decide))), bind_eq eql_r]
    refine (jn_nrm (vs := [pt x, sl, iv ac.length, iv j]) (H' := X2) ?_).trans ?_
    · refine Eq.trans ?_ e2
      by_cases h2 : (((u.kd : Int).tmod 4) == 2) = true
      · rw [cnd_b, if_pos h2, h2, cnd_b, if_pos rfl]
      · rw [cnd_b, if_neg h2, bind_eq eql_r, cnd_b, if_neg h2]
    · rw [c4_r, bind_eq e3, bind_eq e4, bind_eq el, jn_ext e5, xk_hit, c5_r, bind_eq e6, bind_eq el5, bind_eq q0, cnd_b, if_neg (by simp), bind_eq add_r, wsuc (by omega)]
      rfl

theorem once_core (hA : EActs H sl ac) (hn : ac.length ≤ 9223372036854775807) : ∃ H', R (n + 11) n_law09MailOnce [sl] H = some (.bool true, H') := by
  have f1 : ∀ r X', F_law09MailOnce (R (n + 10)) sl H = some (r, X') → R (n + 11) n_law09MailOnce [sl] H = some (r, X') := fun r X' hr => by rw [R, run_law09MailOnce rfl]; exact hr
  obtain ⟨H1, e1, l1⟩ := r_mlives (n := n) (H := H)
  obtain ⟨H2, e2, l2⟩ := r_few (n := n + 9) (hA.mono l1) hn
  have e2 : R (n + 10) n_law09Few [sl] H1 = _ := e2
  obtain ⟨H2', e2', l2'⟩ := r_mlives (n := n) (H := H2)
  generalize hq : (ac.all fewA && decide (ac.length ≤ 60)) = fw at e2
  cases fw
  · refine ⟨H2', f1 _ _ ?_⟩
    unfold F_law09MailOnce
    rw [bind_eq e1, bind_eq not_r]
    simp only [Bool.not_true]
    rw [b_g_in, b_assoc, bind_eq e2, b_assoc, bind_eq not_r, b_ret, c3_r, bind_eq pick_r]
    simp only [cond_false, Bool.not_false]
    rw [cnd_b, if_pos rfl, bind_eq e2']
    rfl
  · simp only [Bool.and_eq_true, decide_eq_true_eq] at hq
    obtain ⟨H3, x, o, a, e3, I3, l3, b1, b2, b3⟩ := r_mnew (n := n + 9) (X := H2)
    have e3 : R (n + 10) n_mailNew [] H2 = _ := e3
    have hA2 := hA.mono ((l1.trans l2).trans l3)
    obtain ⟨H4, e4⟩ := once1_do (n := n) (hA.mono (l1.trans l2)) hq.2 ⟨b2, b3⟩ ac.length 0 [] [] H3 (by omega) (by omega) l3 I3 (fun k v h => by cases h) (by simp)
    rw [show iv ((0 : Nat) : Int) = .int .i64 0 from rfl] at e4
    refine ⟨H4, f1 _ _ ?_⟩
    unfold F_law09MailOnce
    rw [bind_eq e1, bind_eq not_r]
    simp only [Bool.not_true]
    rw [b_g_in, b_assoc, bind_eq e2, b_assoc, bind_eq not_r, b_ret, c3_r, bind_eq pick_r]
    simp only [cond_false, Bool.not_true]
    rw [cnd_b, if_neg (by simp), bind_eq e3, bind_eq hA2.len, jn_ext e4, xk_hit]
    rfl

theorem law_MailOnce : ∀ (xs : Ins [.slc eldActT]) (H : Heap) (vs : List Value), InsWf [.slc eldActT] xs → InsRd [.slc eldActT] xs H vs → ∃ n H', R n n_law09MailOnce vs H = some (.bool true, H') := by
  intro xs H vs hwf hrd
  obtain ⟨l, _⟩ := xs
  obtain ⟨hl, _⟩ := hwf
  obtain ⟨c1, _, rfl, hc1, h1, rfl⟩ := hrd
  obtain ⟨v, rfl⟩ : ∃ v, c1 = [v] := by
    match c1, hc1 with
    | [v], _ => exact ⟨v, rfl⟩
  obtain ⟨ac, hA, hn⟩ := rd_eldActs hl h1
  obtain ⟨H', e⟩ := once_core (n := 0) hA hn
  exact ⟨11, H', e⟩

end

end Go.Proofs.YtmacmlpiheimhaaDoor.A
