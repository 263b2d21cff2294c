/- Users, as a law is given them. -/
import Derived.Test.YtlpibiaokpbhbaaGreatDoorRefLaw
namespace Go.Proofs.YtlpibiaokpbhbaaGreatDoor.A
set_option linter.unusedVariables false
set_option linter.unusedSimpArgs false
open Go.Proofs Go.Proofs.YtlpibiaokpbhbaaGreatDoor

abbrev userT : Ty := .struct (.pair .str (.pair .str (.pair .str (.pair .bool (.pair (.slc .str) .unit)))))

/-- A row of texts that came in. -/
def GV (H : Heap) (gv : Value) (gs : List (List UInt8)) : Prop :=
  (gs = [] ∧ (gv = .slice none 0 0 ∨ gv = .slice (some ⟨0, 0, some 1⟩) 0 0)) ∨
  ∃ id rest, gv = .slice (some ⟨id, 0, none⟩) gs.length (gs.length + rest.length) ∧ H[id]? = some (.cells (gs.map strv ++ rest) 1 false true)

theorem rd_texts {x : (Ty.slc .str).den} {H : Heap} {v : Value} (h : Rd (.slc .str) x H [v]) : ∃ gs, GV H v gs := by
  cases x with
  | none =>
    have h : [v] = [.slice none 0 0] := h
    exact ⟨[], .inl ⟨rfl, .inl (by simpa using h)⟩⟩
  | some p =>
    obtain ⟨a, b⟩ := p
    rcases h with ⟨_, _, h⟩ | ⟨id, cells, h1, h2, h3, h4⟩
    · exact ⟨[], .inl ⟨rfl, .inr (by simpa using h)⟩⟩
    · have a' : List ByteArray := a
      have hcells : cells = ((a : List ByteArray).map fun s => strv s.data.toList) ++ ((b : List ByteArray).map fun s => strv s.data.toList) := by
        rw [← List.map_append]
        have hl : cells.length = ((a ++ b : List ByteArray)).length := by
          have : cells.length = (a.length + b.length) * 1 := h3
          rw [List.length_append, this, Nat.mul_one]
        apply List.ext_getElem (by rw [List.length_map]; exact hl)
        intro i h5 h6
        have hi : i < (a ++ b : List ByteArray).length := by omega
        have := h4 i _ (List.getElem?_eq_getElem hi)
        have : (cells.drop (i * 1)).take 1 = [.string ((a ++ b : List ByteArray)[i])] := this
        rw [Nat.mul_one] at this
        have h7 : ((cells.drop i).take 1)[0]? = some (.string ((a ++ b : List ByteArray)[i])) := by rw [this]; rfl
        rw [List.getElem?_take, if_pos (by omega), List.getElem?_drop, Nat.add_zero, List.getElem?_eq_getElem h5] at h7
        have h8 := Option.some.inj h7
        rw [h8, List.getElem_map]
        exact strv_of _
      refine ⟨(a : List ByteArray).map fun s => s.data.toList, .inr ⟨id, (b : List ByteArray).map fun s => strv s.data.toList, ?_, ?_⟩⟩
      · have h1 : [v] = [.slice (some ⟨id, 0, none⟩) a.length (a.length + b.length)] := h1
        have h1 : v = .slice (some ⟨id, 0, none⟩) a.length (a.length + b.length) := by simpa using h1
        rw [h1, List.length_map, List.length_map]
      · rw [h2, hcells, List.map_map]
        rfl

section
variable {H H' X : Heap} {n p : Nat} {gv : Value} {gs : List (List UInt8)}

theorem GV.mono (h : GV H gv gs) (hl : HLe H H') : GV H' gv gs := by
  rcases h with h | ⟨id, rest, h1, h2⟩
  · exact .inl h
  · exact .inr ⟨id, rest, h1, hl _ _ h2⟩

theorem GV.sl (h : GV H gv gs) : Sl H gv (gs.map strv) := by
  rcases h with ⟨rfl, rfl | rfl⟩ | ⟨id, rest, rfl, h2⟩
  · exact Sl.nil
  · exact ⟨_, _, rfl, (fun e => by cases e), rfl⟩
  · refine ⟨some ⟨id, 0, none⟩, gs.length + rest.length, by rw [List.length_map], (fun e => by cases e), ?_⟩
    simp only [fcells, h2]
    rw [if_pos (by simp)]
    simp

theorem GV.len (h : GV H gv gs) : lenS gv H' = some (iv gs.length, H') := by
  have := h.sl.len (H' := H')
  rwa [List.length_map] at this

theorem GV.one (h : GV H gv gs) : oneCell gv = true := by
  rcases h with ⟨_, rfl | rfl⟩ | ⟨id, rest, rfl, _⟩ <;> rfl

theorem GV.cut (h : GV H gv gs) {k : Nat} (hk : k ≤ gs.length) : ∃ sv, slv 1 gv none (some (iv k)) none H = some (sv, H) ∧ Sl H sv ((gs.take k).map strv) := by
  have b1 : ∀ d, bnd (some (iv k)) d = some k := fun d => by simp [bnd]
  have b2 : ∀ d, bnd none d = some d := fun _ => rfl
  rcases h with ⟨rfl, h⟩ | ⟨id, rest, rfl, h2⟩
  · have hk0 : k = 0 := by simpa using hk
    subst hk0
    rcases h with rfl | rfl
    · exact ⟨_, rfl, Sl.nil⟩
    · exact ⟨_, rfl, ⟨_, _, rfl, (fun e => by cases e), rfl⟩⟩
  · by_cases h0 : gs.length + rest.length = 0
    · have hk0 : k = 0 := by omega
      subst hk0
      refine ⟨.slice (some ⟨id, 0, some (bif false then 1 else 0)⟩) 0 0, ?_, ⟨_, _, rfl, (fun e => by cases e), rfl⟩⟩
      simp only [slv, h2, b1, b2]
      rw [if_pos ⟨trivial, by omega, by omega, Nat.le_refl _⟩, if_pos (by omega)]
    · refine ⟨.slice (some ⟨id, 0, none⟩) k (gs.length + rest.length), ?_, ?_⟩
      · simp only [slv, h2, b1, b2]
        rw [if_pos ⟨trivial, by omega, by omega, Nat.le_refl _⟩, if_neg (by omega)]
        simp
      · have hl : ((gs.take k).map strv).length = k := by simp; omega
        refine ⟨some ⟨id, 0, none⟩, gs.length + rest.length, by rw [hl], (fun e => by cases e), ?_⟩
        simp only [fcells, h2]
        rw [if_pos (by simp; omega), List.drop_zero, Nat.mul_one, List.take_append_of_le_length (by simpa using hk), List.map_take]

/-- A user. -/
structure UsrA where
  nm : List UInt8
  hs : List UInt8
  ml : List UInt8
  ds : Bool
  gv : Value
  gs : List (List UInt8)

abbrev UsrA.cells (u : UsrA) : List Value := [strv u.nm, strv u.hs, strv u.ml, .bool u.ds, u.gv]
def UsrA.ok (H : Heap) (u : UsrA) : Prop := GV H u.gv u.gs

theorem UsrA.all {u : UsrA} (h : u.ok H) : u.cells.all oneCell = true := by
  have := GV.one h
  simp only [UsrA.cells, List.all_cons, this]; rfl

theorem rd_slc_nil (g : (Ty.slc .str).den) : ¬ Rd (.slc .str) g H [] := by
  intro h
  cases g with
  | none =>
    have h : ([] : List Value) = [.slice none 0 0] := h
    cases h
  | some p =>
    obtain ⟨a, b⟩ := p
    rcases h with ⟨_, _, h⟩ | ⟨id, cells, h1, _⟩
    · cases h
    · cases h1

theorem rd_user {x : userT.den} {H : Heap} {cs : List Value} (h : Rd userT x H cs) : ∃ u : UsrA, cs = u.cells ∧ u.ok H := by
  obtain ⟨s, t, m, d, g, u⟩ := x
  obtain ⟨h1, h2, h3, h4, h5, h6⟩ := h
  have h1 : cs.take 1 = [.string s] := h1
  have h2 : (cs.drop 1).take 1 = [.string t] := h2
  have h3 : ((cs.drop 1).drop 1).take 1 = [.string m] := h3
  have h4 : (((cs.drop 1).drop 1).drop 1).take 1 = [.bool d] := h4
  have h5 : Rd (.slc .str) g H (((((cs.drop 1).drop 1).drop 1).drop 1).take 1) := h5
  have h6 : ((((cs.drop 1).drop 1).drop 1).drop 1).drop 1 = [] := h6
  match cs, h1, h2, h3, h4, h5, h6 with
  | [c1, c2, c3, c4, c5], h1, h2, h3, h4, h5, _ =>
    have h5 : Rd (.slc .str) g H [c5] := h5
    obtain ⟨gs, hg⟩ := rd_texts h5
    have e1 : c1 = .string s := by simpa using h1
    have e2 : c2 = .string t := by simpa using h2
    have e3 : c3 = .string m := by simpa using h3
    have e4 : c4 = .bool d := by simpa using h4
    refine ⟨⟨(ByteArray.data s).toList, (ByteArray.data t).toList, (ByteArray.data m).toList, d, c5, gs⟩, ?_, hg⟩
    have e1 : c1 = strv (ByteArray.data s).toList := e1.trans (strv_of s)
    have e2 : c2 = strv (ByteArray.data t).toList := e2.trans (strv_of t)
    have e3 : c3 = strv (ByteArray.data m).toList := e3.trans (strv_of m)
    rw [e1, e2, e3, e4]
  | [c1, c2, c3, c4], _, _, _, _, h5, _ =>
    have h5 : Rd (.slc .str) g H [] := h5
    exact absurd h5 (rd_slc_nil g)

/-- A slice of users. -/
def Users (H : Heap) (sl : Value) (us : List UsrA) : Prop := SlN 5 H sl (us.map UsrA.cells) ∧ ∀ u ∈ us, u.ok H

theorem rd_users {x : (Ty.slc userT).den} {H : Heap} {v : Value} (hwf : (Ty.slc userT).wf x) (h : Rd (.slc userT) x H [v]) : ∃ us, Users H v us ∧ us.length ≤ 9223372036854775807 := by
  obtain ⟨rows, h1, h2, h3, h4⟩ := rd_rows hwf h
  obtain ⟨us, h5, h6⟩ := choose_map (f := UsrA.cells) (Q := fun _ u => u.ok H) (rows := rows) fun r hr => by
    obtain ⟨y, _, hr⟩ := h2 r hr
    exact rd_user hr
  subst h5
  exact ⟨us, ⟨h1, h6⟩, by simpa using h3⟩

variable {sl : Value} {us : List UsrA}

theorem Users.mono (h : Users H sl us) (hl : HLe H H') : Users H' sl us := ⟨h.1.mono hl, fun u hu => (h.2 u hu).mono hl⟩

theorem Users.len (h : Users H sl us) : lenS sl H' = some (iv us.length, H') := by
  have := h.1.len (H' := H')
  rwa [List.length_map] at this

theorem Users.fetch {β : Type} {k : Value → M β} (h : Users H sl us) {j : Nat} {u : UsrA} (hj : us[j]? = some u) :
    bind (ixa 5 sl (iv j)) (fun p => bind (ldA 5 p) fun v => bind (alc 1 (.agg #[.string ⟨#[]⟩, .string ⟨#[]⟩, .string ⟨#[]⟩, .bool false, .slice none 0 0])) fun q => bind (stA 5 q v) fun _ => k q) H = k (pt H.length) (H ++ [.cells u.cells 1 false false]) := by
  have hr : (us.map UsrA.cells)[j]? = some u.cells := by rw [List.getElem?_map, hj]; rfl
  rw [h.1.fetch hr (by omega) .i64]
  exact box_a (n := 5) (zs := [.string ⟨#[]⟩, .string ⟨#[]⟩, .string ⟨#[]⟩, .bool false, .slice none 0 0]) (r := u.cells) rfl rfl rfl (UsrA.all (h.2 u (List.mem_of_getElem? hj)))

theorem alc_u {u : UsrA} (h : u.ok X) : alc 1 (.agg u.cells.toArray) X = some (pt X.length, X ++ [.cells u.cells 1 false false]) := by
  rw [alc_r]
  exact if_pos (show u.cells.toArray.toList.all oneCell = true by simpa using UsrA.all h)

/-! is a user little? -/

theorem few6_do {b : Value} {sv : Value} (hl : gs.length ≤ 30) (hs : Sl X sv (gs.map strv)) : ∀ (t k : Nat) (z : Int), gs.length - k = t → k ≤ gs.length →
    ∃ z', loopM (c5 (F_law06Few.l1 (R n))) [b, iv z, sv, iv gs.length, iv k] X = some (.ext 0 [b, iv z'], X)
  | 0, k, z, ht, hk => by
    have : k = gs.length := by omega
    subst this
    refine ⟨z, loop_ext ?_⟩
    rw [c5_r]
    unfold F_law06Few.l1
    rw [bind_eq lss_r, cnd_b, if_neg (by simp)]
    rfl
  | t + 1, k, z, ht, hk => by
    have hkl : k < gs.length := by omega
    have hlt : (k : Int) < gs.length := by omega
    have hg := List.getElem?_eq_getElem hkl
    generalize gs[k] = x at hg
    have x1 := hs.ix (i := k) (by simpa using hkl) .i64 X
    have x2 := hs.ldx (row_at hg)
    obtain ⟨z', e⟩ := few6_do (b := b) hl hs t (k + 1) (IntKind.i64.wrap (z + if (1000 : Int) < x.length then 1000 else (x.length : Int))) (by omega) (by omega)
    refine ⟨z', (loop_next ?_).trans e⟩
    rw [c5_r]
    unfold F_law06Few.l1
    rw [bind_eq lss_r, cnd_b, if_pos (by simpa using hlt), bind_eq x1, bind_eq x2, bind_eq lenT_v, bind_eq mn_r, bind_eq add_r, bind_eq add_r, wsuc (by omega)]
    rfl

theorem r_few6 {u : UsrA} (h : u.ok X) : ∃ b X', R (n + 1) n_law06Few [.agg u.cells.toArray] X = some (.bool b, X') ∧ HLe X X' := by
  have e1 := alc_u h
  have k1 : HLe X (X ++ [.cells u.cells 1 false false]) := .app _ _
  have c1 : (X ++ [AObj.cells u.cells 1 false false])[X.length]? = some (.cells u.cells 1 false false) := app_new
  generalize X ++ [AObj.cells u.cells 1 false false] = X1 at e1 k1 c1
  generalize X.length = p at e1 c1
  have hg : GV X1 u.gv u.gs := GV.mono h k1
  have a0 : ∀ f x, u.cells[f]? = some x → ld1 (pa p f) X1 = some (x, X1) := fun f x h => ld1_at c1 h
  have hk : ∃ k : Nat, (if (30 : Int) < u.gs.length then 30 else (u.gs.length : Int)) = k ∧ k ≤ u.gs.length ∧ k ≤ 30 := by
    split
    · exact ⟨30, rfl, by omega, by omega⟩
    · exact ⟨u.gs.length, rfl, by omega, by omega⟩
  obtain ⟨k, hk1, hk2, hk3⟩ := hk
  obtain ⟨sv, e2, s2⟩ := hg.cut hk2
  have hm : mxi false (iv u.gs.length) (.int .i64 30) X1 = some (iv k, X1) := by rw [mn_r, hk1]
  have hl : (u.gs.take k).length = k := by simp; omega
  have e3 : lenS sv X1 = some (iv (u.gs.take k).length, X1) := by have := s2.len (H' := X1); rwa [List.length_map] at this
  obtain ⟨z, e4⟩ := few6_do (n := n) (b := pt p) (by omega) s2 (u.gs.take k).length 0 (IntKind.i64.wrap (IntKind.i64.wrap ((u.nm.length : Int) + u.hs.length) + u.ml.length)) (by omega) (by omega)
  have e4 : loopM (c5 (F_law06Few.l1 (R n))) [pt p, iv (IntKind.i64.wrap (IntKind.i64.wrap ((u.nm.length : Int) + u.hs.length) + u.ml.length)), sv, iv (u.gs.take k).length, .int .i64 0] X1 = _ := e4
  refine ⟨decide (z ≤ 400) && decide ((u.gs.length : Int) ≤ 20), X1, ?_, k1⟩
  rw [R, run_law06Few rfl]
  unfold F_law06Few
  rw [bind_eq e1, bind_eq fa_z, bind_eq (a0 0 _ rfl), bind_eq lenT_v, bind_eq fa_z, bind_eq (a0 1 _ rfl), bind_eq lenT_v, bind_eq add_r, bind_eq fa_z, bind_eq (a0 2 _ rfl), bind_eq lenT_v, bind_eq add_r, bind_eq fa_z, bind_eq (a0 4 _ rfl), bind_eq fa_z, bind_eq (a0 4 _ rfl), bind_eq hg.len, bind_eq hm, bind_eq e2, bind_eq e3, jn_ext e4, xk_hit, c2_r, bind_eq leq_r]
  by_cases hz : z ≤ 400
  · rw [decide_eq_true hz, b_g_in, b_assoc, bind_eq fa_z, b_assoc, bind_eq (a0 4 _ rfl), b_assoc, bind_eq hg.len, b_assoc, bind_eq leq_r, b_ret, c4_r, bind_eq pick_r]
    rfl
  · rw [decide_eq_false hz, bind_eq (g_r.trans (if_neg (by simp)))]
    simp only [List.replicate]
    rw [c4_r, bind_eq pick_r]
    rfl

end

end Go.Proofs.YtlpibiaokpbhbaaGreatDoor.A
