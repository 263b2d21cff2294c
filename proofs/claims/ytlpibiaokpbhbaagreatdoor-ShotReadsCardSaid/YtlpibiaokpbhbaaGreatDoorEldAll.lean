/- All users of a directory, and its lists. -/
import Derived.Test.YtlpibiaokpbhbaaGreatDoorEldList
namespace Go.Proofs.YtlpibiaokpbhbaaGreatDoor.A
set_option linter.unusedVariables false
set_option linter.unusedSimpArgs false
open Go.Proofs Go.Proofs.YtlpibiaokpbhbaaGreatDoor

/-- A user of the first schema. -/
def usr (u : List UInt8 × List UInt8) : List Value := [strv u.1, strv u.2, strv [], .bool false, .slice none 0 0]

/-- All, rising. -/
def sortM (m : SMap) : SMap := (ksort (m.map (·.1))).map fun k => (k, (aget k m).getD [])

section
variable {H H' : Heap} {n d b : Nat} {m : SMap} {pre : List UInt8}

theorem keys_mem {k : List UInt8} (hk : k ∈ ksort (m.map (·.1))) : k ∈ m.map (·.1) := (List.mem_mergeSort).1 hk

theorem keys_len (h : Dir H d b m) {k : List UInt8} (hk : k ∈ ksort (m.map (·.1))) : k.length ≤ 12 := by
  obtain ⟨p, hp, rfl⟩ := List.mem_map.1 (keys_mem hk)
  exact h.len p hp

theorem keys_few (h : Dir H d b m) : (ksort (m.map (·.1))).length ≤ 12 := by
  rw [ksort_len, List.length_map]; exact h.few

/-! all -/

theorem bld_usr {k s : List UInt8} {H : Heap} : bld (.agg #[.string ⟨#[]⟩, .string ⟨#[]⟩, .string ⟨#[]⟩, .bool false, .slice none 0 0]) [(0, 1, strv k), (1, 1, strv s)] H = some (.agg (usr (k, s)).toArray, H) := by
  simp [↓bind_andk, andk_some, ↓jn_outk, outk_nrm, outk_ext, outk_ret, ↓cnd_b, ret_r, nilc_r, fa_r, ldOne_r, ldA_r, stOne_r, stA_r, rdk_r, rdkA_r, wrk_r, wrkA_r, alc_r, lenS_r, lenT_r, cvi_r, pick_r, not_r, mx_r, mn_r, ixa_r, ixaA_r, bld_r, add_r, sub_r, mul_r, quo_r, rem_r, eql_r, neq_r, lss_r, leq_r, gtr_r, geq_r, eqb_r, neb_r, eqp_r, nep_r, ↓gv_r, gvn_r, ↓g_r, gn_r, isTup, bldC, splice, Value.cells, strv, usr, oneCell]

theorem usr_len (u : List UInt8 × List UInt8) : (usr u).length = 5 := rfl
theorem usr_one (u : List UInt8 × List UInt8) : (usr u).all oneCell = true := rfl

theorem eall_do {v : Value} {q0 : List Nat} {ks : List (List UInt8)} (h : Dir H d b m) (hr : RowS H v (ks.map strv) q0) (hk : ks.length ≤ 1000) (hH0 : ∀ j ∈ q0, j < H.length) : ∀ (t k : Nat) (sl : Value) (q : List Nat) (X : Heap), ks.length - k = t → k ≤ ks.length → HLe H X → (∀ j ∈ q, H.length ≤ j) → RowN 5 X sl ((ks.take k).map fun k => usr (k, (aget k m).getD [])) q →
    ∃ X' sl' q', loopM (c5 (F_elderDirAll.l1 (R n))) [pt d, sl, v, iv ks.length, iv k] X = some (.ext 0 [sl'], X') ∧ RowN 5 X' sl' (ks.map fun k => usr (k, (aget k m).getD [])) q' ∧ HLe H X' ∧ (∀ j ∈ q', H.length ≤ j)
  | 0, k, sl, q, X, ht, hkl, hl, hq, hn => by
    have : k = ks.length := by omega
    subst this
    rw [List.take_length] at hn
    refine ⟨X, sl, q, loop_ext ?_, hn, hl, hq⟩
    rw [c5_r]
    unfold F_elderDirAll.l1
    rw [bind_eq lss_r, cnd_b, if_neg (by simp)]
    rfl
  | t + 1, k, sl, q, X, ht, hkl, hl, hq, hn => by
    have hlt : k < ks.length := by omega
    have hlt' : (k : Int) < ks.length := by omega
    have hg := List.getElem?_eq_getElem hlt
    have htk := List.take_succ_eq_append_getElem hlt
    generalize ks[k] = x at hg htk
    have hX := h.hle hl
    have hrx : RowS X v (ks.map strv) q0 := hr.keep fun j hj => hl.step.keep j (hH0 j hj) (by simp)
    have x1 := hrx.ix (i := k) (by simpa using hlt) .i64 X
    have x2 := hrx.ldx (row_at hg)
    have x3 := hX.g.lkp (k := x) (z := .string ⟨#[]⟩) (ok := false)
    have x3 : lkp .str (.string ⟨#[]⟩) false (.map (some b)) (strv x) X = some (strv ((aget x m).getD []), X) := by
      rw [x3]; cases aget x m <;> rfl
    have x4 := bsl_a (es := 5) (z := .agg #[.string ⟨#[]⟩, .string ⟨#[]⟩, .string ⟨#[]⟩, .bool false, .slice none 0 0]) (H := X) rfl (usr_len (x, (aget x m).getD [])) (usr_one _)
    have l1 : HLe X (X ++ [AObj.cells (usr (x, (aget x m).getD [])) 5 false false]) := .app _ _
    have s1 : SlN 5 (X ++ [AObj.cells (usr (x, (aget x m).getD [])) 5 false false]) (.slice (some ⟨X.length, 0, none⟩) 1 1) [usr (x, (aget x m).getD [])] := SlN.whole (rows := [usr (x, (aget x m).getD [])]) (c := 1) (e := 5) (g := false) (ro := false) (by rw [app_new]; simp) (by simp [usr_len])
    generalize X ++ [AObj.cells (usr (x, (aget x m).getD [])) 5 false false] = X1 at x4 l1 s1
    have hn1 : RowN 5 X1 sl _ q := hn.keep fun j hj => l1.step.keep j (hn.lt j hj) (by simp)
    obtain ⟨sl', X2, q', x5, hn2, s2⟩ := hn1.push (b := 80) s1 (usr_len _) (by simp; omega) (by simp; omega)
    have hm := (hl.trans l1).more s2 hq
    rw [← List.map_singleton (f := fun k => usr (k, (aget k m).getD [])), ← List.map_append, ← htk] at hn2
    obtain ⟨X', sl2, q2, e, r⟩ := eall_do h hr hk hH0 t (k + 1) sl' q' X2 (by omega) (by omega) hm.1 hm.2 hn2
    refine ⟨X', sl2, q2, (loop_next ?_).trans e, r⟩
    rw [c5_r]
    unfold F_elderDirAll.l1
    rw [bind_eq lss_r, cnd_b, if_pos (by simpa using hlt'), bind_eq x1, bind_eq x2, bind_eq nilc_r, bind_eq fa_z, bind_eq (ld_s hX.c), bind_eq x3, bind_eq bld_usr, bind_eq x4, bind_eq x5, bind_eq add_r, wsuc (by omega)]
    rfl

theorem r_eldAll (h : Dir H d b m) : ∃ v q H', R (n + 3) n_elderDirAll [pt d] H = some (v, H') ∧ RowN 5 H' v ((sortM m).map usr) q ∧ HLe H H' ∧ ∀ j ∈ q, H.length ≤ j := by
  obtain ⟨v, q, H1, e1, r1, l1, o1⟩ := r_names (n := n) h
  have hfew := keys_few h
  obtain ⟨H2, sl, q2, e2, r2, l2, o2⟩ := eall_do (n := n + 2) (h.hle l1) r1 (by omega) (fun j hj => r1.lt j hj) (ksort (m.map (·.1))).length 0 (.slice none 0 0) [] H1 rfl (by omega) (.refl _) (by simp) RowN.nil
  have e2 : loopM (c5 (F_elderDirAll.l1 (R (n + 2)))) [pt d, .slice none 0 0, v, iv (ksort (m.map (·.1))).length, .int .i64 0] H1 = _ := e2
  have hlen : lenS v H1 = some (iv (ksort (m.map (·.1))).length, H1) := by have := r1.rd.len (H' := H1); simpa using this
  refine ⟨sl, q2, H2, ?_, by unfold sortM; rw [List.map_map]; exact r2, l1.trans l2, fun j hj => Nat.le_trans l1.len (o2 j hj)⟩
  rw [R, run_elderDirAll rfl]
  unfold F_elderDirAll
  refine (bind_eq e1).trans ?_
  rw [bind_eq hlen, jn_ext e2, xk_hit]
  rfl

end

end Go.Proofs.YtlpibiaokpbhbaaGreatDoor.A
