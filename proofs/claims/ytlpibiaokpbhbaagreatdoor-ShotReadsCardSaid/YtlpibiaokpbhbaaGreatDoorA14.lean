/- Operations: which of their operands count, which of them read or turn the heap. -/
import Derived.Test.YtlpibiaokpbhbaaGreatDoorA12
namespace Go.Proofs.YtlpibiaokpbhbaaGreatDoor.A
set_option linter.unusedVariables false
set_option linter.unusedSimpArgs false
section
variable {P : Program} {Γ : Funs} {H H1 : Heap} {v : Value}

theorem exCall_congr {ρ ρ' : Operand → Value} {c : Call} (h : ∀ y ∈ c.operands.toList, ρ y = ρ' y) : exCall P Γ ρ c = exCall P Γ ρ' c := by
  have ha : ∀ y ∈ c.args.toList, ρ y = ρ' y := fun y hy => h y (by
    simp only [Call.operands, Array.toList_append, List.mem_append]; exact .inr hy)
  unfold exCall
  split
  · rename_i f hf
    rw [h f (by simp [Call.operands, hf]), List.map_congr_left ha]
  all_goals first
    | rfl
    | (simp_all; done)

theorem opM_congr {ρ ρ' : Operand → Value} {op : Op} (h : ∀ y ∈ op.operands.toList, ρ y = ρ' y) : opM P Γ ρ op = opM P Γ ρ' op := by
  cases op with
  | call c => exact exCall_congr h
  | build t ps =>
    have hp : ∀ p ∈ ps.toList, ρ p.2 = ρ' p.2 := fun p hp => h p.2 (by simp only [Op.operands, List.mem_map]; exact ⟨p, hp, rfl⟩)
    have e : partsOf P t ps.toList ρ = partsOf P t ps.toList ρ' := by
      unfold partsOf
      split
      · generalize ps.toList = l at hp
        induction l with
        | nil => rfl
        | cons p l ih => simp only [List.mapM_cons, hp p (by simp), ih fun q hq => hp q (by simp [hq])]
      · congr 1; exact List.map_congr_left fun p hpm => by rw [hp p hpm]
      · rfl
    simp only [opM, e]
  | buildSlice t n ps =>
    have hp : ∀ p ∈ ps.toList, ρ p.2 = ρ' p.2 := fun p hp => h p.2 (by simp only [Op.operands, List.mem_map]; exact ⟨p, hp, rfl⟩)
    have e : ∀ e : TypeId, (ps.toList.map fun p => (p.1 * szT P e, szT P e, ρ p.2)) = ps.toList.map fun p => (p.1 * szT P e, szT P e, ρ' p.2) := fun e => List.map_congr_left fun p hpm => by rw [hp p hpm]
    simp only [opM, e]
  | makeFunc fn fs cs =>
    have e1 : fs.map ρ = fs.map ρ' := Array.map_congr_left fun x hx => h x (by simp [Op.operands, hx])
    have e2 : cs.map ρ = cs.map ρ' := Array.map_congr_left fun x hx => h x (by simp [Op.operands, hx])
    simp only [opM, e1, e2]
  | slice t x lo hi mx =>
    have hx := h x (by simp [Op.operands])
    have hlo : lo.map ρ = lo.map ρ' := by cases lo with | none => rfl | some y => simp [h y (by simp [Op.operands])]
    have hhi : hi.map ρ = hi.map ρ' := by cases hi with | none => rfl | some y => simp [h y (by simp [Op.operands])]
    have hmx : mx.map ρ = mx.map ρ' := by cases mx with | none => rfl | some y => simp [h y (by simp [Op.operands])]
    simp only [opM, hx, hlo, hhi, hmx]
  | select cs b => rfl
  | _ => first | rfl | (simp [Op.operands] at h; simp only [opM, h]; done)

def PureM (m : M Value) : Prop := ∀ H v H1, m H = some (v, H1) → H1 = H ∧ ∀ H2, m H2 = some (v, H2)
def ReadM (m : M Value) : Prop := ∀ H v H1, m H = some (v, H1) → H1 = H

theorem PureM.read {m : M Value} (h : PureM m) : ReadM m := fun H v H1 e => (h H v H1 e).1

theorem pure_fail : PureM fail := fun _ _ _ h => by cases h
theorem pure_ret (v : Value) : PureM (ret v) := fun _ _ _ h => by cases h; exact ⟨rfl, fun _ => rfl⟩
/-- What only looks at its operands. -/
theorem pure_of {m : M Value} {o : Option Value} (h : ∀ H, m H = o.map (·, H)) : PureM m := by
  intro H v H1 e
  rw [h] at e
  simp only [Option.map_eq_some_iff, Prod.mk.injEq] at e
  obtain ⟨u, rfl, rfl, rfl⟩ := e
  exact ⟨rfl, fun H2 => by rw [h]; rfl⟩

theorem pure_pick (c a b : Value) : PureM (pick c a b) := by
  cases c <;> first | exact pure_of (o := some _) fun _ => rfl | exact fun _ _ _ h => by cases h
theorem pure_extr (t : Value) (i : Nat) : PureM (extr t i) := by
  cases t with
  | tuple vs =>
    cases hs : Nat.beq vs.size 1 with
    | true => exact pure_of (o := none) fun H => by simp [extr, hs]
    | false => exact pure_of (o := vs[i]?) fun H => by simp [extr, hs]
  | _ => exact fun _ _ _ h => by cases h
theorem pure_nilc (x : Value) : PureM (nilc x) := by
  intro H v H1 h
  unfold nilc at h
  split at h
  · cases h; exact ⟨rfl, fun _ => rfl⟩
  · cases h; exact ⟨rfl, fun _ => rfl⟩
  · cases h
theorem pure_bop (tk : TK) (op : BinOp) (x y : Value) : PureM (bop tk op x y) := by
  intro H v H1 h
  unfold bop at h ⊢
  split at h
  · simp only [Option.map_eq_some_iff, Prod.mk.injEq] at h; obtain ⟨u, hu, rfl, rfl⟩ := h; exact ⟨rfl, fun H2 => by simp [hu]⟩
  · simp only [Option.map_eq_some_iff, Prod.mk.injEq] at h; obtain ⟨u, hu, rfl, rfl⟩ := h; exact ⟨rfl, fun H2 => by simp [hu]⟩
  · rename_i k a k' b h1 h2
    by_cases hk : k = k'
    · simp only [hk, decide_true, cond_true, Option.map_eq_some_iff, Prod.mk.injEq] at h
      obtain ⟨u, hu, rfl, rfl⟩ := h
      refine ⟨rfl, fun H2 => ?_⟩
      first | (simp [hu, hk]; done) | simp_all
    · simp [hk] at h
  · simp only [Option.map_eq_some_iff, Prod.mk.injEq] at h; obtain ⟨u, hu, rfl, rfl⟩ := h
    refine ⟨rfl, fun H2 => ?_⟩
    first | (simp [hu]; done) | simp_all
  · simp only [Option.map_eq_some_iff, Prod.mk.injEq] at h; obtain ⟨u, hu, rfl, rfl⟩ := h
    refine ⟨rfl, fun H2 => ?_⟩
    first | (simp [hu]; done) | simp_all
  · simp only [Option.map_eq_some_iff, Prod.mk.injEq] at h; obtain ⟨u, hu, rfl, rfl⟩ := h
    refine ⟨rfl, fun H2 => ?_⟩
    first | (simp [hu]; done) | simp_all
  · cases h
theorem pure_uop (op : UnOp) (x : Value) : PureM (uop op x) := by
  intro H v H1 h
  unfold uop at h ⊢
  split at h
  · cases h; exact ⟨rfl, fun _ => rfl⟩
  · simp only [Option.map_eq_some_iff, Prod.mk.injEq] at h; obtain ⟨u, hu, rfl, rfl⟩ := h; exact ⟨rfl, fun H2 => by simp [hu]⟩
  · cases h; exact ⟨rfl, fun _ => rfl⟩
  · cases h
theorem pure_cvi (k : IntKind) (x : Value) : PureM (cvi k x) := by
  cases x <;> first | exact pure_of (o := some _) fun _ => rfl | exact fun _ _ _ h => by cases h
theorem pure_cvs (x : Value) : PureM (cvs x) := by
  cases x <;> first | exact pure_of (o := some _) fun _ => rfl | exact fun _ _ _ h => by cases h
theorem pure_lenS (x : Value) : PureM (lenS x) := by
  cases x <;> first | exact pure_of (o := some _) fun _ => rfl | exact fun _ _ _ h => by cases h
theorem pure_lenT (x : Value) : PureM (lenT x) := by
  cases x <;> first | exact pure_of (o := some _) fun _ => rfl | exact fun _ _ _ h => by cases h
theorem pure_mxi (b : Bool) (x y : Value) : PureM (mxi b x y) := by
  cases x <;> first | (cases y <;> first | exact pure_of (o := some _) fun _ => rfl | exact fun _ _ _ h => by cases h) | exact fun _ _ _ h => by cases h
theorem pure_fa (n : Nat) (x : Value) : PureM (fa n x) := by
  intro H v H1 h
  unfold fa at h
  split at h
  · cases h; exact ⟨rfl, fun _ => rfl⟩
  · cases h
theorem pure_ixa (n : Nat) (x y : Value) : PureM (ixa n x y) := by
  intro H v H1 h
  unfold ixa at h
  split at h
  · split at h
    · rename_i hc; cases h; exact ⟨rfl, fun _ => by simp only [ixa, if_pos hc]⟩
    · cases h
  · cases h
theorem pure_ixaA (n m : Nat) (x y : Value) : PureM (ixaA n m x y) := by
  intro H v H1 h
  unfold ixaA at h
  split at h
  · split at h
    · rename_i hc; cases h; exact ⟨rfl, fun _ => by simp only [ixaA, if_pos hc]⟩
    · cases h
  · cases h
theorem pure_ixs (x y : Value) : PureM (ixs x y) := by
  intro H v H1 h
  unfold ixs at h
  split at h
  · split at h
    · rename_i h0
      split at h
      · rename_i hb; cases h; exact ⟨rfl, fun _ => by simp only [ixs, if_pos h0, hb]⟩
      · cases h
    · cases h
  · cases h
theorem pure_prt (g : Bool) (n : Nat) (x : Value) (o : Nat) : PureM (prt g n x o) := by
  cases x with
  | agg cs =>
    cases g with
    | true => exact pure_of (o := some _) fun _ => rfl
    | false => exact pure_of (o := cs[o]?) fun _ => rfl
  | _ => exact fun _ _ _ h => by cases h
theorem pure_ixv (g : Bool) (n m : Nat) (x i : Value) : PureM (ixv g n m x i) := by
  cases i with
  | int k i =>
    by_cases hc : 0 ≤ i ∧ i < n
    · intro H v H1 h
      simp only [ixv, if_pos hc] at h ⊢
      exact pure_prt _ _ _ _ H v H1 h
    · exact fun _ _ _ h => by simp only [ixv, if_neg hc] at h; cases h
  | _ => exact fun _ _ _ h => by cases h
theorem pure_bld (z : Value) (ps : List (Nat × Nat × Value)) : PureM (bld z ps) :=
  pure_of (o := (bldC z.cells.toList ps).map fun cs => .agg cs.toArray) fun H => by simp [bld, Function.comp_def]
theorem pure_mkif (t : TypeId) (x : Value) : PureM (mkif t x) := pure_of (o := some _) fun _ => rfl
theorem pure_sls (x : Value) (lo hi : Option Value) : PureM (sls x lo hi) := by
  intro H v H1 h
  unfold sls at h
  split at h
  · split at h
    · rename_i h1 h2
      split at h
      · rename_i hc; cases h; exact ⟨rfl, fun _ => by simp only [sls, h1, h2, if_pos hc]⟩
      · cases h
    · cases h
  · cases h

theorem read_ld1 (x : Value) : ReadM (ld1 x) := by
  intro H v H1 h
  unfold ld1 at h
  split at h
  · split at h
    · simp only [Option.map_eq_some_iff, Prod.mk.injEq] at h; obtain ⟨u, _, _, rfl⟩ := h; rfl
    · split at h
      · generalize headsL _ _ = bb at h
        cases bb with
        | false => cases h
        | true =>
          simp only [cond_true, Option.map_eq_some_iff, Prod.mk.injEq] at h
          obtain ⟨u, _, _, rfl⟩ := h; rfl
      · cases h
    · cases h
  · cases h
theorem read_ldA (n : Nat) (x : Value) : ReadM (ldA n x) := by
  intro H v H1 h
  unfold ldA at h
  split at h
  · split at h
    · split at h
      · cases h; rfl
      · cases h
    · cases h
  · cases h
theorem read_lenM (x : Value) : ReadM (lenM x) := by
  intro H v H1 h
  unfold lenM at h
  split at h
  · cases h; rfl
  · split at h
    · cases h; rfl
    · cases h; rfl
    · cases h
  · cases h
theorem read_lkp (tk : TK) (z : Value) (ok : Bool) (m k : Value) : ReadM (lkp tk z ok m k) := by
  intro H v H1 h
  unfold lkp at h
  simp only at h
  split at h
  · cases hk : okK tk k with
    | false => simp [hk] at h
    | true => simp [hk] at h; exact h.2.symm
  · split at h
    · cases hk : okK tk k with
      | false => simp [hk] at h
      | true =>
        simp only [hk, cond_true] at h
        split at h
        · simp at h; exact h.2.symm
        · simp at h; exact h.2.symm
        · cases h
    · cases hk : okK tk k with
      | false => simp [hk] at h
      | true =>
        simp only [hk, cond_true] at h
        split at h
        · simp at h; exact h.2.symm
        · simp at h; exact h.2.symm
        · cases h
    · cases h
  · cases h
theorem read_b2s (x : Value) : ReadM (b2s x) := by
  intro H v H1 h
  unfold b2s at h
  split at h
  · split at h
    · simp only [Option.map_eq_some_iff, Prod.mk.injEq] at h; obtain ⟨u, _, _, rfl⟩ := h; rfl
    · cases h
  · cases h
theorem read_slv (n : Nat) (x : Value) (lo hi mx : Option Value) : ReadM (slv n x lo hi mx) := by
  intro H v H1 h
  unfold slv at h
  split at h
  · split at h
    · cases h; rfl
    · cases h
  · split at h
    · cases h; rfl
    · cases h
  · split at h
    · split at h
      · split at h
        · split at h
          · cases h; rfl
          · cases h; rfl
        · cases h
      · cases h
    · cases h
  · cases h

/-- What is known of an operation's answer by its kind. -/
theorem cls_zero {ρ : Operand → Value} {op : Op} (h : cls P op = 0) : PureM (toM (opM P Γ ρ op)) := by
  cases op with
  | move x => exact pure_ret _
  | assign x => exact pure_ret _
  | pick c a b => exact pure_pick _ _ _
  | extract t i => exact pure_extr _ _
  | nilCheck x => exact pure_nilc _
  | binOp op t x y t2 => exact pure_bop _ _ _ _
  | unOp op t x => exact pure_uop _ _
  | makeFunc fn fs cs => cases fn <;> first | exact pure_ret _ | exact pure_fail
  | fieldAddr s x f =>
    simp only [opM]
    split
    · split
      · rename_i fd _
        cases hz : Nat.beq (szT P fd.type) 0 with
        | true => simpa [hz, toM] using pure_fail
        | false => simpa [hz, toM] using pure_fa _ _
      · exact pure_fail
    · exact pure_fail
  | field s x f =>
    simp only [opM]
    split
    · split
      · split
        · exact pure_prt _ _ _ _
        · exact pure_fail
      · exact pure_fail
    · exact pure_fail
  | indexAddr t x i =>
    simp only [opM]
    split
    · split
      · exact pure_ixa _ _ _
      · exact pure_fail
    · split
      · exact pure_ixaA _ _ _ _
      · exact pure_fail
    · exact pure_fail
  | index t x i =>
    simp only [opM]
    split
    · exact pure_ixs _ _
    · split
      · exact pure_ixv _ _ _ _ _
      · exact pure_fail
    · exact pure_fail
  | build t ps =>
    simp only [opM]
    cases hb : hasT P t && okFields P t with
    | false => simpa [hb, toM] using pure_fail
    | true =>
      simp only [cond_true]
      split
      · exact pure_bld _ _
      · exact pure_fail
  | makeInterface t x =>
    simp only [opM]
    split
    · exact pure_fail
    · exact pure_mkif _ _
    · exact pure_fail
  | convert s d x =>
    simp only [cls] at h
    simp only [opM]
    split
    · exact pure_cvi _ _
    · exact pure_cvs _
    · rename_i h1 h2; simp [h1, h2] at h
    · rename_i h1 h2; simp [h1, h2] at h
    · rename_i h1 h2; simp [h1, h2] at h
    · exact pure_fail
  | slice t x lo hi mx =>
    simp only [cls] at h
    simp only [opM]
    split
    · split
      · exact pure_sls _ _ _
      · exact pure_fail
    · rename_i h1; simp [h1] at h
    · exact pure_fail
  | call c =>
    simp only [cls] at h
    simp only [opM, exCall]
    split
    · rename_i hf; simp [hf] at h
    · rename_i hf ha ht
      simp only [hf, ht] at h
      split
      · exact pure_lenT _
      · exact pure_lenS _
      · rename_i hu; simp [hu] at h
      · exact pure_fail
    · rename_i hf ha ht; simp [hf] at h
    · exact pure_mxi _ _ _
    · exact pure_mxi _ _ _
    · rename_i hf ha ht; simp [hf] at h
    · rename_i hf ha ht; simp [hf] at h
    · rename_i hf ha ht; simp [hf] at h
    · exact pure_fail
  | _ => simp [cls] at h

theorem cls_one {ρ : Operand → Value} {op : Op} (h : cls P op = 1) : ReadM (toM (opM P Γ ρ op)) := by
  cases op with
  | load t a =>
    simp only [opM]
    split
    · exact read_ldA _ _
    · exact read_ld1 _
    · exact pure_fail.read
  | lookup t m k ok =>
    simp only [opM]
    split
    · rename_i kt e _
      cases hb : hasT P e with
      | false => simpa [hb, toM] using pure_fail.read
      | true => simpa [hb, toM] using read_lkp _ _ _ _ _
    · exact pure_fail.read
  | convert s d x =>
    simp only [cls] at h
    simp only [opM]
    split
    · rename_i h1 h2; simp [h1, h2] at h
    · rename_i h1 h2; simp [h1, h2] at h
    · rename_i h1 h2; simp [h1, h2] at h
    · split
      · exact read_b2s _
      · exact pure_fail.read
    · rename_i h1 h2; simp [h1, h2] at h
    · exact pure_fail.read
  | slice t x lo hi mx =>
    simp only [cls] at h
    simp only [opM]
    split
    · rename_i h1; simp [h1] at h
    · split
      · exact pure_fail.read
      · split
        · exact read_slv _ _ _ _ _
        · exact pure_fail.read
    · exact pure_fail.read
  | call c =>
    simp only [cls] at h
    simp only [opM, exCall]
    split
    · rename_i hf; simp [hf] at h
    · rename_i hf ha ht
      simp only [hf, ht] at h
      split
      · rename_i hu; simp [hu] at h
      · rename_i hu; simp [hu] at h
      · exact read_lenM _
      · exact pure_fail.read
    · rename_i hf ha ht; simp [hf] at h
    · rename_i hf ha; simp [hf] at h
    · rename_i hf ha; simp [hf] at h
    · rename_i hf ha ht; simp [hf] at h
    · rename_i hf ha ht; simp [hf] at h
    · rename_i hf ha ht; simp [hf] at h
    · exact pure_fail.read
  | _ => simp [cls] at h

end
end Go.Proofs.YtlpibiaokpbhbaaGreatDoor.A
