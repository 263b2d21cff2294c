/- A row of operations in the text's order: where the abstract machine goes on, the model goes on alike. -/
import Derived.Test.YtlpibiaokpbhbaaGreatDoorA10
namespace Go.Proofs.YtlpibiaokpbhbaaGreatDoor.A
set_option linter.unusedVariables false
set_option linter.unusedSimpArgs false
section
variable {P : Program} {Γ : Funs} {w0 : Base} {N : Nat} {ι : Nat → Option Loc} {r : Regs} {H : Heap} {a : Act} {w : World} {rd : Option Nat}

theorem appM_some {β : Type} {m : OpR} {k : Value → M β} {x : β × Heap} (h : appM m k H = some x) :
    ∃ v H1, k v H1 = some x ∧ ∀ (γ : Type) (k' : Value → M γ), appM m k' H = k' v H1 := by
  cases m with
  | val v => exact ⟨v, H, h, fun _ _ => rfl⟩
  | cmp m =>
    obtain ⟨v, H1, h1, h2⟩ := bind_some (m := m) (k := k) h
    exact ⟨v, H1, h2, fun γ k' => by simp [appM, A.bind, h1]⟩

/-- One operation as the machine has it: it answers, and the registers stand to each other as before. -/
theorem op_sound {o : Oper} {v : Value} {H1 : Heap} {ρ : Operand → Value} (hS : Sim P.globals.size w0 ι H w) (hΓ : ∀ g, SoundF P P.globals.size w0 g (Γ g))
    (hρ : ∀ y ∈ o.op.operands.toList, RV ι (ρ y) (a.eval y)) (h : ∀ (γ : Type) (k' : Value → M γ), appM (opM P Γ ρ o.op) k' H = k' v H1)
    {next : Act → World → Prop} {Q : Exit → Act → World → Prop} (hn : ∀ ι1 v' w1, Le ι ι1 → RV ι1 v v' → Sim P.globals.size w0 ι1 H1 w1 → next (a.put o.dst v') w1) : o.wpIn (FR rd) 0 P a w next Q := by
  refine wpX_in (fun c hc => ?_) ?_
  · have h2 := h Value (fun u => ret u)
    rw [hc] at h2
    cases h2
  refine exOp_sound (k := fun v => ret v) (x := (v, H1)) hS hΓ rfl hρ (by rw [exOp, h]; rfl) ?_
  intro ι1 u v' H2 w1 hl hv hs hk
  cases hk
  exact hn ι1 v' w1 hl hv hs

/-- What goes on behind a row of operations. -/
def GoesR {β : Type} (P : Program) (w0 : Base) (N : Nat) (ι : Nat → Option Loc) (k : Regs → M β) (x : β × Heap) (next : Act → World → Prop) : Prop :=
  ∀ ι1 r1 H1 a1 w1, Le ι ι1 → St P.globals.size w0 N ι1 r1 H1 a1 w1 → k r1 H1 = some x → next a1 w1

theorem rget_rput {d : Option Nat} {v : Value} {t : Nat} (h : d ≠ some t) : rget (rput r d v) t = rget r t := by
  cases d with
  | none => rfl
  | some d =>
    have : Nat.beq d t = false := by
      cases e : Nat.beq d t with
      | false => rfl
      | true => exact absurd (by rw [Nat.eq_of_beq_eq_true e]) h
    simp [rput, rget, this]

structure OpsOK (P : Program) (N : Nat) (o : Oper) : Prop where
  consts : ∀ y ∈ o.op.operands.toList, constsOK P y = true
  dst : ∀ d, o.dst = some d → d < N

theorem opsOK_mem {ops : List Oper} (h : opsOK P N ops = true) {o : Oper} (ho : o ∈ ops) : OpsOK P N o := by
  unfold opsOK at h
  have := List.all_eq_true.1 h o ho
  simp only [Bool.and_eq_true] at this
  refine ⟨List.all_eq_true.1 this.1, fun d hd => ?_⟩
  have h2 := this.2
  rw [hd] at h2
  simpa using h2

theorem yielded_put {ops : Array Oper} {j : Nat} {d : Option Tmp} {v : Value} (h : ∀ e, (ops[j]?).bind (·.dst) = some e → d ≠ some e) :
    yielded ops (a.put d v).tmps j = yielded ops a.tmps j := by
  unfold yielded
  cases he : (ops[j]?).bind (·.dst) with
  | none => rfl
  | some e =>
    have hne := h e he
    cases d with
    | none => rfl
    | some d =>
      have : d ≠ e := fun x => hne (by rw [x])
      simp [Act.put, Array.getElem?_setIfInBounds_ne this]

/-- Operations behind a guard that is met. -/
theorem exRow_sound {ops : Array Oper} {Q : Exit → Act → World → Prop} {rest : List Oper} {j : Nat} {wt : Bool} (hΓ : ∀ g, SoundF P P.globals.size w0 g (Γ g)) {β : Type} {x : β × Heap} :
    ∀ (l : List Oper) {r : Regs} {H : Heap} {ι : Nat → Option Loc} {a : Act} {w : World} {k : Regs → M β}, (∀ p ∈ l, OpsOK P N p ∧ p.guard = some (j, wt) ∧ ∀ e, (ops[j]?).bind (·.dst) = some e → p.dst ≠ some e) →
      St P.globals.size w0 N ι r H a w → yielded ops a.tmps j = some wt → exRow P Γ l r k H = some x →
      (∀ ι1 r1 H1 a1 w1, Le ι ι1 → St P.globals.size w0 N ι1 r1 H1 a1 w1 → (∀ t, (∀ p ∈ l, p.dst ≠ some t) → rget r1 t = rget r t) → (∀ t, (∀ p ∈ l, p.dst ≠ some t) → a1.tmps.getD t undef = a.tmps.getD t undef) →
        k r1 H1 = some x → wpListIn (FR rd) 0 P ops Q rest a1 w1) →
      wpListIn (FR rd) 0 P ops Q (l ++ rest) a w
  | [], r, H, ι, a, w, k, _, hSt, _, h, hk => hk ι r H a w (.refl ι) hSt (fun _ _ => rfl) (fun _ _ => rfl) h
  | p :: l, r, H, ι, a, w, k, hl, hSt, hy, h, hk => by
    obtain ⟨hok, hg, hd⟩ := hl p (by simp)
    simp only [exRow, exOp] at h
    obtain ⟨v, H1, h1, h2⟩ := appM_some h
    simp only [List.cons_append, wpListIn]
    rw [if_pos (by simp [Region.wanted, hg, hy])]
    refine (op_sound hSt.sim hΓ (fun y hy => hSt.ev (hok.consts y hy)) h2 fun ι1 v' w1 hle hv hs => ?_)
    have hSt1 := hSt.put hle hs hv hok.dst
    refine exRow_sound hΓ l (fun q hq => hl q (by simp [hq])) hSt1 (by rw [yielded_put hd]; exact hy) h1 ?_
    intro ι2 r2 H2 a2 w2 hle2 hSt2 hr2 ha2 hk2
    refine hk ι2 r2 H2 a2 w2 (hle.trans hle2) hSt2 (fun t ht => ?_) (fun t ht => ?_) hk2
    · rw [hr2 t fun q hq => ht q (by simp [hq]), rget_rput (ht p (by simp))]
    · rw [ha2 t fun q hq => ht q (by simp [hq])]
      have := ht p (by simp)
      cases hdst : p.dst with
      | none => rfl
      | some d =>
        have hne : d ≠ t := fun e => this (by rw [hdst, e])
        simp [Act.put, Array.getElem?_setIfInBounds_ne hne]

theorem rget_app {L : List Nat} {vs : List Value} {t : Nat} (h : ∀ d ∈ L, d ≠ t) : rget (mk L vs ++ r) t = rget r t := by
  induction L generalizing vs with
  | nil => rfl
  | cons d L ih =>
    have : Nat.beq d t = false := by
      cases e : Nat.beq d t with
      | false => rfl
      | true => exact absurd (Nat.eq_of_beq_eq_true e) (h d (by simp))
    simp only [mk, List.cons_append, rget, this, cond_false]
    exact ih fun e he => h e (by simp [he])

theorem rget_mk_proj {L : List Nat} {r1 : Regs} {t : Nat} (h : t ∈ L) : rget (mk L (proj L r1) ++ r) t = rget r1 t := by
  induction L with
  | nil => cases h
  | cons d L ih =>
    simp only [proj, List.map_cons, mk, List.cons_append, rget, List.headD_cons, List.tail_cons]
    cases e : Nat.beq d t with
    | true => rw [Nat.eq_of_beq_eq_true e]; rfl
    | false =>
      simp only [cond_false]
      refine ih ?_
      cases h with
      | head => simp at e
      | tail _ h => exact h

theorem rget_mk_rep {L : List Nat} {n : Nat} {u : Value} {t : Nat} (h : t ∈ L) (hn : L.length ≤ n) : rget (mk L (List.replicate n u) ++ r) t = u := by
  induction L generalizing n with
  | nil => cases h
  | cons d L ih =>
    cases n with
    | zero => simp at hn
    | succ n =>
    simp only [List.replicate_succ, mk, List.cons_append, rget, List.headD_cons, List.tail_cons]
    cases e : Nat.beq d t with
    | true => rfl
    | false =>
      simp only [cond_false]
      refine ih ?_ (by simp at hn; omega)
      cases h with
      | head => simp at e
      | tail _ h => exact h

/-- Operations behind a guard that is not met. -/
theorem skip_sound {ops : Array Oper} {Q : Exit → Act → World → Prop} {rest : List Oper} {j : Nat} {wt : Bool} :
    ∀ (l : List Oper) {a : Act} {w : World}, (∀ p ∈ l, OpsOK P N p ∧ p.guard = some (j, wt) ∧ ∀ e, (ops[j]?).bind (·.dst) = some e → p.dst ≠ some e) →
      yielded ops a.tmps j ≠ some wt → a.tmps.size = N → a.defers = marks w0.own →
      (∀ a1, a1.tmps.size = N → a1.defers = marks w0.own → (∀ t, (∀ p ∈ l, p.dst ≠ some t) → a1.tmps.getD t undef = a.tmps.getD t undef) → (∀ t, (∃ p ∈ l, p.dst = some t) → a1.tmps.getD t undef = undef) → wpListIn (FR rd) 0 P ops Q rest a1 w) →
      wpListIn (FR rd) 0 P ops Q (l ++ rest) a w
  | [], a, w, _, _, hs, hd, hk => hk a hs hd (fun _ _ => rfl) (by simp)
  | p :: l, a, w, hl, hy, hs, hdf, hk => by
    obtain ⟨hok, hg, hd⟩ := hl p (by simp)
    simp only [List.cons_append, wpListIn]
    rw [if_neg (by simp [Region.wanted, hg, hy])]
    refine ⟨fun _ _ => trivial, skip_sound l (fun q hq => hl q (by simp [hq])) (by rw [yielded_put hd]; exact hy) (by cases p.dst <;> simp [Act.put, hs]) (by cases p.dst <;> exact hdf) ?_⟩
    intro a1 h1 h2 h3 h4
    have hput : ∀ t, p.dst ≠ some t → (a.put p.dst undef).tmps.getD t undef = a.tmps.getD t undef := by
      intro t ht
      cases hdst : p.dst with
      | none => rfl
      | some d =>
        have hne : d ≠ t := fun e => ht (by rw [hdst, e])
        simp [Act.put, Array.getElem?_setIfInBounds_ne hne]
    refine hk a1 h1 h2 (fun t ht => ?_) (fun t ht => ?_)
    · rw [h3 t fun q hq => ht q (by simp [hq]), hput t (ht p (by simp))]
    · obtain ⟨q, hq, hqt⟩ := ht
      by_cases hex : ∃ q ∈ l, q.dst = some t
      · exact h4 t hex
      · have : q = p := by
          cases hq with
          | head => rfl
          | tail _ hq => exact absurd ⟨q, hq, hqt⟩ hex
        subst this
        rw [h3 t fun q' hq' e => hex ⟨q', hq', e⟩, hqt]
        have := hok.dst t hqt
        simp [Act.put, hs, this]

end
end Go.Proofs.YtlpibiaokpbhbaaGreatDoor.A
