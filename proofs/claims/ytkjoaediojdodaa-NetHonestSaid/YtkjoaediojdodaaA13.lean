/- Code, functions, programs: where the abstract machine comes to an answer, the model comes to it. -/
import Derived.Test.YtkjoaediojdodaaA12
import Derived.Test.YtkjoaediojdodaaA17
import Derived.LoopN
namespace Go.Proofs.Ytkjoaediojdodaa.A
set_option linter.unusedVariables false
set_option linter.unusedSimpArgs false
section
variable {P : Program} {Γ : Funs} {w0 : World} {N : Nat} {ι : Nat → Option Loc} {r : Regs} {H : Heap} {a : Act} {w : World}

theorem exReg_sound {id : Nat} {ops : Array Oper} {draw : Bool} {Q : Exit → Act → World → Prop} (hm : P.follows .mixedOrders = true) (hΓ : ∀ g, SoundF P P.globals.size w0 g (Γ g))
    (hok : opsOK P N ops.toList = true) (hgd : guardOK ops.toList = true) {β : Type} {x : β × Heap} {k : Regs → M β} (hSt : St P.globals.size w0 N ι r H a w)
    (h : exReg P Γ ops.toList draw r k H = some x) (hk : GoesR P w0 N ι k x (fun a1 w1 => Q .normal a1 w1)) : (Code.region id ops draw).wp P Q a w := by
  unfold exReg at h
  cases draw with
  | true =>
    simp only [cond_true] at h
    cases hd : drawOK ops.toList (ops.toList.map fun o => cls P o.op) (ancAll ops.toList) (eagerGo (ops.toList.map fun o => cls P o.op) (ancAll ops.toList) ops.toList.length ops.toList.length []) with
    | false => rw [hd] at h; cases h
    | true =>
      rw [hd] at h
      simp only [cond_true] at h
      exact draw_sound hm hΓ hok (drawOK_spec hd) hSt h hk
  | false =>
    simp only [cond_false] at h
    exact wp_region_list (exOps_sound (Q := Q) hΓ hgd _ (fun p hp => ⟨opsOK_mem hok hp, hp⟩) hSt h hk)

theorem St.proj (hSt : St P.globals.size w0 N ι r H a w) (L : List Nat) : St P.globals.size w0 N ι (A.mk L (A.proj L r)) H a w := by
  refine ⟨hSt.sim, fun t => ?_, hSt.size, hSt.defers⟩
  by_cases ht : t ∈ L
  · have := rget_mk_proj (r := []) (r1 := r) ht
    rw [List.append_nil] at this
    rw [this]; exact hSt.regs t
  · have := rget_app (r := []) (L := L) (vs := A.proj L r) (t := t) fun d hd e => ht (e ▸ hd)
    rw [List.append_nil] at this
    rw [this]; exact .un

/-- What the code's end leaves: results that read as the machine's. -/
def RetR (P : Program) (w0 : World) (fn : Func) (ι : Nat → Option Loc) (v : Value) (H : Heap) (a : Act) (w : World) : Prop :=
  Sim P.globals.size w0 ι H w ∧ a.defers = [] ∧ ∃ v', (results fn a.tmps).run P w = .ok v' w ∧ RV ι v v'

def resOne (a : Act) : ResultVar → Sem Value
  | .tmp t => pure (a.tmps.getD t undef)
  | .cell b t => do loadVar t (← asAddr (a.tmps.getD b undef))

theorem resM_sound {β : Type} {x : β × Heap} (hSt : St P.globals.size w0 N ι r H a w) : ∀ (l : List ResultVar) {k : List Value → M β}, resM P r l k H = some x →
    ∃ vs vs', k vs H = some x ∧ RVs ι vs vs' ∧ (l.mapM (m := Sem) (resOne a)).run P w = .ok vs' w
  | [], k, h => ⟨[], [], h, .nil, rfl⟩
  | .tmp t :: l, k, h => by
    simp only [resM] at h
    obtain ⟨vs, vs', h1, h2, h3⟩ := resM_sound hSt l h
    refine ⟨_, a.tmps.getD t undef :: vs', h1, .cons (hSt.regs t) h2, ?_⟩
    rw [List.mapM_cons, Sem.run_bind]
    simp only [resOne, Sem.run_pure, Result.andThen_ok, Sem.run_bind, h3]
  | .cell b t :: l, k, h => by
    have hb := hSt.regs b
    have fin : ∀ {v : Value} {ad : Addr} {v' : Value}, a.tmps.getD b undef = .pointer (some ad) → RV ι v v' → (loadVar t ad).run P w = .ok v' w →
        resM P r l (fun vs => k (v :: vs)) H = some x → ∃ vs vs', k vs H = some x ∧ RVs ι vs vs' ∧ ((ResultVar.cell b t :: l).mapM (m := Sem) (resOne a)).run P w = .ok vs' w := by
      intro v ad v' hp hv hr h
      obtain ⟨vs, vs', h1, h2, h3⟩ := resM_sound hSt l h
      refine ⟨_, v' :: vs', h1, .cons hv h2, ?_⟩
      rw [List.mapM_cons, Sem.run_bind]
      simp only [resOne, hp, asAddr, Sem.run_pure, Result.andThen_ok, Sem.run_bind, hr, h3]
    simp only [resM] at h
    generalize hm : aggT P t = m at h
    cases m with
    | none => cases h
    | some g =>
      cases g with
      | true =>
        simp only at h
        obtain ⟨v, H1, h1, h2⟩ := bind_some h
        obtain ⟨rfl, ad, v', hp, hv, hr⟩ := ldA_run (P := P) hSt.sim hm hb h1
        exact fin hp hv hr h2
      | false =>
        simp only at h
        obtain ⟨v, H1, h1, h2⟩ := bind_some h
        obtain ⟨rfl, ad, v', hp, hv, hr⟩ := ldOne_run (P := P) hSt.sim hm hb h1
        exact fin hp hv hr h2

theorem retM_sound {β : Type} {x : β × Heap} {fn : Func} {kr : Value → M β} (hSt : St P.globals.size w0 N ι r H a w) (h : retM P fn r kr H = some x) :
    ∃ v, kr v H = some x ∧ RetR P w0 fn ι v H a w := by
  unfold retM at h
  obtain ⟨vs, vs', h1, h2, h3⟩ := resM_sound hSt _ h
  have hm : (fn.results.mapM (m := Sem) (resOne a)).run P w = .ok vs'.toArray w := by
    rw [Array.mapM_eq_mapM_toList, Sem.run_map, h3]; rfl
  have hres : ∀ v', (if h : vs'.toArray.size = 1 then vs'.toArray[0] else .tuple vs'.toArray) = v' → (results fn a.tmps).run P w = .ok v' w := by
    intro v' hv
    unfold results
    rw [Sem.run_bind]
    show ((Sem.run P (fn.results.mapM (m := Sem) (resOne a)) w).andThen _) = _
    rw [hm]
    simp only [Result.andThen_ok, Sem.run_pure]
    rw [hv]
  match vs, h1, h2 with
  | [], h1, h2 =>
    have := h2.nil_inv; subst this
    exact ⟨_, h1, hSt.sim, hSt.defers, _, hres (.tuple #[]) rfl, .un⟩
  | [v], h1, h2 =>
    obtain ⟨v', r', rfl, hv, hr⟩ := h2.cons_inv
    have := hr.nil_inv; subst this
    exact ⟨_, h1, hSt.sim, hSt.defers, _, hres v' rfl, hv⟩
  | v :: u :: vs, h1, h2 =>
    refine ⟨_, h1, hSt.sim, hSt.defers, .tuple vs'.toArray, hres _ ?_, .tupL h2⟩
    have := h2.1
    rw [dif_neg (by simp at this ⊢; omega)]

theorem iterN_some {body : List Value → M Out} {vs : List Value} {x : Out × Heap} (h : loopM body vs H = some x) : ∃ n, iterN body n vs H = some x := by
  unfold loopM at h
  split at h
  · exact ⟨_, h⟩
  · cases h

theorem jn_some {β : Type} {m : M Out} {kn : List Value → M β} {kx : Nat → List Value → M β} {kr : Value → M β} {x : β × Heap} (h : jn m kn kx kr H = some x) :
    ∃ o H1, m H = some (o, H1) ∧ ((∃ vs, o = .nrm vs ∧ kn vs H1 = some x) ∨ (∃ j vs, o = .ext j vs ∧ kx j vs H1 = some x) ∨ (∃ v, o = .ret v ∧ kr v H1 = some x)) := by
  obtain ⟨o, H1, h1, h2⟩ := bind_some h
  refine ⟨o, H1, h1, ?_⟩
  cases o with
  | nrm vs => exact .inl ⟨vs, rfl, h2⟩
  | ext j vs => exact .inr (.inl ⟨j, vs, rfl, h2⟩)
  | ret v => exact .inr (.inr ⟨v, rfl, h2⟩)

theorem extK_no {β : Type} {c : Code} {kx : Nat → Regs → M β} {j : Nat} {vs : List Value} : ∀ (X : List (Nat × List Nat)), falls.xto j c = false → extK c X kx j vs H = none
  | [], _ => rfl
  | p :: X, hj => by
    simp only [extK]
    cases hp : falls.xto p.1 c with
    | false => exact extK_no X hj
    | true =>
      simp only [cond_true]
      cases e : Nat.beq j p.1 with
      | true =>
        have := Nat.eq_of_beq_eq_true e
        subst this
        rw [hj] at hp; cases hp
      | false => exact extK_no X hj

theorem extK_some {β : Type} {c : Code} {kx : Nat → Regs → M β} {j : Nat} {vs : List Value} {x : β × Heap} : ∀ (X : List (Nat × List Nat)), extK c X kx j vs H = some x → kx j (mk (lkX X j) vs) H = some x
  | [], h => by cases h
  | p :: X, h => by
    simp only [extK] at h
    simp only [lkX]
    cases hp : falls.xto p.1 c with
    | false =>
      rw [hp] at h
      simp only [cond_false] at h
      cases e : Nat.beq p.1 j with
      | true =>
        have := Nat.eq_of_beq_eq_true e
        subst this
        rw [extK_no X hp] at h; cases h
      | false => exact extK_some X h
    | true =>
      rw [hp] at h
      simp only [cond_true] at h
      cases e : Nat.beq j p.1 with
      | true =>
        have := Nat.eq_of_beq_eq_true e
        subst this
        rw [e] at h
        simpa using h
      | false =>
        rw [e] at h
        have e' : Nat.beq p.1 j = false := by
          cases e2 : Nat.beq p.1 j with
          | false => rfl
          | true => have := Nat.eq_of_beq_eq_true e2; subst this; simp at e
        rw [e']
        exact extK_some X h

/-- What goes on behind code. -/
structure Goes3 {β : Type} (P : Program) (w0 : World) (N : Nat) (fn : Func) (ι : Nat → Option Loc) (kn : Regs → M β) (kx : Nat → Regs → M β) (kr : Value → M β) (x : β × Heap) (Q : Exit → Act → World → Prop) : Prop where
  nrm : GoesR P w0 N ι kn x (fun a w => Q .normal a w)
  ext : ∀ j, GoesR P w0 N ι (kx j) x (fun a w => Q (.exit j) a w)
  ret : ∀ ι1 v H1 a1 w1, Le ι ι1 → RetR P w0 fn ι1 v H1 a1 w1 → kr v H1 = some x → Q .ret a1 w1

theorem GoesR.mono {β : Type} {k : Regs → M β} {x : β × Heap} {next : Act → World → Prop} {ι1 : Nat → Option Loc} (h : GoesR P w0 N ι k x next) (hl : Le ι ι1) : GoesR P w0 N ι1 k x next :=
  fun ι2 r2 H2 a2 w2 hle hSt hk => h ι2 r2 H2 a2 w2 (hl.trans hle) hSt hk

theorem Goes3.mono {β : Type} {fn : Func} {kn : Regs → M β} {kx : Nat → Regs → M β} {kr : Value → M β} {x : β × Heap} {Q : Exit → Act → World → Prop} {ι1 : Nat → Option Loc}
    (h : Goes3 P w0 N fn ι kn kx kr x Q) (hl : Le ι ι1) : Goes3 P w0 N fn ι1 kn kx kr x Q :=
  ⟨h.nrm.mono hl, fun j => (h.ext j).mono hl, fun ι2 v H2 a2 w2 hle hR hk => h.ret ι2 v H2 a2 w2 (hl.trans hle) hR hk⟩

theorem E_sound (hm : P.follows .mixedOrders = true) (hΓ : ∀ g, SoundF P P.globals.size w0 g (Γ g)) (fn : Func) (lv : List (Nat × List Nat)) : ∀ (c : Code) {β : Type} {p : Nat} {X : List (Nat × List Nat)} {r : Regs} {kn : Regs → M β} {kx : Nat → Regs → M β} {kr : Value → M β}
    {H : Heap} {x : β × Heap} {ι : Nat → Option Loc} {a : Act} {w : World} {Q : Exit → Act → World → Prop}, St P.globals.size w0 fn.ntmps ι r H a w → E P Γ fn lv c p X r kn kx kr H = some x →
    Goes3 P w0 fn.ntmps fn ι kn kx kr x Q → c.wp P Q a w := by
  intro c
  induction c with
  | skip => intro β p X r kn kx kr H x ι a w Q hSt h hG; exact wp_skip (hG.nrm ι r H a w (.refl ι) hSt h)
  | region id ops draw =>
    intro β p X r kn kx kr H x ι a w Q hSt h hG
    simp only [E] at h
    cases hok : opsOK P fn.ntmps ops.toList && guardOK ops.toList with
    | false => rw [hok] at h; cases h
    | true =>
      rw [hok] at h
      simp only [Bool.and_eq_true] at hok
      exact exReg_sound hm hΓ hok.1 hok.2 hSt h hG.nrm
  | seq c d ihc ihd =>
    intro β p X r kn kx kr H x ι a w Q hSt h hG
    simp only [E] at h
    refine wp_seq (ihc hSt h ⟨?_, hG.ext, hG.ret⟩)
    intro ι1 r1 H1 a1 w1 hle hSt1 h1
    exact ihd hSt1 h1 (hG.mono hle)
  | cond c t e iht ihe =>
    intro β p X r kn kx kr H x ι a w Q hSt h hG
    simp only [E] at h
    cases hcok : constsOK P c with
    | false => rw [hcok] at h; cases h
    | true =>
    rw [hcok] at h
    simp only [Bool.not_true, cond_false] at h
    have hc := hSt.ev hcok
    cases hf : falls t && falls e with
    | false =>
      rw [hf] at h
      simp only [cond_false] at h
      unfold cnd at h
      generalize A.ev r c = g at h hc
      cases g with
      | bool b =>
        refine wp_cond hc.bool_inv ?_
        cases b
        · exact ihe hSt h hG
        · exact iht hSt h hG
      | _ => cases h
    | true =>
      rw [hf] at h
      simp only [cond_true] at h
      obtain ⟨o, H1, h1, h2⟩ := jn_some h
      have hG2 : Goes3 P w0 fn.ntmps fn ι (fun r' => ret (Out.nrm (A.proj (lkX lv p) r'))) (fun j r' => ret (Out.ext j (A.proj (lkX X j) r'))) (fun v => ret (Out.ret v)) (o, H1) Q := by
        refine ⟨?_, ?_, ?_⟩
        · intro ι1 r1 H2 a1 w1 hle hSt1 hk
          cases hk
          rcases h2 with ⟨vs, he, hk⟩ | ⟨j, vs, he, hk⟩ | ⟨v, he, hk⟩ <;> cases he
          exact hG.nrm ι1 _ H1 a1 w1 hle (hSt1.proj _) hk
        · intro j ι1 r1 H2 a1 w1 hle hSt1 hk
          cases hk
          rcases h2 with ⟨vs, he, hk⟩ | ⟨j, vs, he, hk⟩ | ⟨v, he, hk⟩ <;> cases he
          exact hG.ext _ ι1 _ H1 a1 w1 hle (hSt1.proj _) (extK_some _ hk)
        · intro ι1 v H2 a1 w1 hle hR hk
          cases hk
          rcases h2 with ⟨vs, he, hk⟩ | ⟨j, vs, he, hk⟩ | ⟨v, he, hk⟩ <;> cases he
          exact hG.ret ι1 _ H1 a1 w1 hle hR hk
      unfold cnd at h1
      generalize A.ev r c = g at h1 hc
      cases g with
      | bool b =>
        refine wp_cond hc.bool_inv ?_
        cases b
        · exact ihe hSt h1 hG2
        · exact iht hSt h1 hG2
      | _ => cases h1
  | block id c ih =>
    intro β p X r kn kx kr H x ι a w Q hSt h hG
    simp only [E] at h
    refine wp_block ?_
    cases hb : Nat.ble (xcount id c + (bif falls c then 1 else 0)) 1 with
    | true =>
      rw [hb] at h
      simp only [cond_true] at h
      refine ih hSt h ⟨hG.nrm, ?_, hG.ret⟩
      intro j ι1 r1 H1 a1 w1 hle hSt1 hk
      simp only [Exit.inBlock]
      cases hj : Nat.beq j id with
      | true =>
        rw [hj] at hk
        rw [if_pos (Nat.eq_of_beq_eq_true hj)]
        exact hG.nrm ι1 r1 H1 a1 w1 hle hSt1 hk
      | false =>
        rw [hj] at hk
        rw [if_neg (fun e => by subst e; simp at hj)]
        exact hG.ext j ι1 r1 H1 a1 w1 hle hSt1 hk
    | false =>
      rw [hb] at h
      simp only [cond_false] at h
      obtain ⟨o, H1, h1, h2⟩ := jn_some h
      refine ih hSt h1 ⟨?_, ?_, ?_⟩
      · intro ι1 r1 H2 a1 w1 hle hSt1 hk
        cases hk
        rcases h2 with ⟨vs, he, hk⟩ | ⟨j, vs, he, hk⟩ | ⟨v, he, hk⟩ <;> cases he
        exact hG.nrm ι1 _ H1 a1 w1 hle (hSt1.proj _) hk
      · intro j ι1 r1 H2 a1 w1 hle hSt1 hk
        simp only [Exit.inBlock]
        cases hj : Nat.beq j id with
        | true =>
          rw [hj] at hk
          rw [if_pos (Nat.eq_of_beq_eq_true hj)]
          cases hk
          rcases h2 with ⟨vs, he, hk⟩ | ⟨j, vs, he, hk⟩ | ⟨v, he, hk⟩ <;> cases he
          exact hG.nrm ι1 _ H1 a1 w1 hle (hSt1.proj _) hk
        | false =>
          rw [hj] at hk
          rw [if_neg (fun e => by subst e; simp at hj)]
          cases hk
          rcases h2 with ⟨vs, he, hk⟩ | ⟨j, vs, he, hk⟩ | ⟨v, he, hk⟩ <;> cases he
          exact hG.ext _ ι1 _ H1 a1 w1 hle (hSt1.proj _) (extK_some _ hk)
      · intro ι1 v H2 a1 w1 hle hR hk
        cases hk
        rcases h2 with ⟨vs, he, hk⟩ | ⟨j, vs, he, hk⟩ | ⟨v, he, hk⟩ <;> cases he
        exact hG.ret ι1 _ H1 a1 w1 hle hR hk
  | loop c ih =>
    intro β p X r kn kx kr H x ι a w Q hSt h hG
    simp only [E] at h
    obtain ⟨o, H1, h1, h2⟩ := jn_some h
    obtain ⟨n, hn⟩ := iterN_some h1
    refine wp_loop_rounds n ?_
    have key : ∀ (n : Nat) {r : Regs} {H : Heap} {ι1 : Nat → Option Loc} {a : Act} {w : World}, Le ι ι1 → St P.globals.size w0 fn.ntmps ι1 r H a w →
        iterN (fun vs => E P Γ fn lv c (2 * p) X (A.mk (lkX lv p) vs) (fun r' => ret (Out.nrm (A.proj (lkX lv p) r'))) (fun j r' => ret (Out.ext j (A.proj (lkX X j) r'))) (fun v => ret (Out.ret v))) n (A.proj (lkX lv p) r) H = some (o, H1) →
        Code.rounds P c Q n a w := by
      intro n
      induction n with
      | zero => intro r H ι1 a w _ _ h; cases h
      | succ n ihn =>
        intro r H ι1 a w hle hSt1 hit
        simp only [iterN] at hit
        split at hit
        · cases hit
        · rename_i vs' H' he
          refine ih (hSt1.proj _) he ⟨?_, ?_, ?_⟩
          · intro ι2 r2 H2 a2 w2 hle2 hSt2 hk
            cases hk
            exact ihn (hle.trans hle2) hSt2 hit
          · intro j ι2 r2 H2 a2 w2 hle2 hSt2 hk
            cases hk
          · intro ι2 v H2 a2 w2 hle2 hR hk
            cases hk
        · rename_i o' H' hno he
          cases hit
          refine ih (hSt1.proj _) he ⟨?_, ?_, ?_⟩
          · intro ι2 r2 H2 a2 w2 hle2 hSt2 hk
            cases hk
            exact (hno _ rfl).elim
          · intro j ι2 r2 H2 a2 w2 hle2 hSt2 hk
            cases hk
            rcases h2 with ⟨vs, he, hk⟩ | ⟨j, vs, he, hk⟩ | ⟨v, he, hk⟩ <;> cases he
            exact hG.ext _ ι2 _ H1 a2 w2 (hle.trans hle2) (hSt2.proj _) (extK_some _ hk)
          · intro ι2 v H2 a2 w2 hle2 hR hk
            cases hk
            rcases h2 with ⟨vs, he, hk⟩ | ⟨j, vs, he, hk⟩ | ⟨v, he, hk⟩ <;> cases he
            exact hG.ret ι2 _ H1 a2 w2 (hle.trans hle2) hR hk
    exact key n (.refl ι) hSt hn
  | exit id => intro β p X r kn kx kr H x ι a w Q hSt h hG; exact wp_exit (hG.ext id ι r H a w (.refl ι) hSt h)
  | ret =>
    intro β p X r kn kx kr H x ι a w Q hSt h hG
    obtain ⟨v, h1, h2⟩ := retM_sound hSt h
    exact wp_ret (hG.ret ι v H a w (.refl ι) h2 h1)
  | _ => intro β p X r kn kx kr H x ι a w Q hSt h hG; cases h

theorem rget_number : ∀ (vs : List Value) (i t : Nat), rget (number i vs) t = if i ≤ t ∧ t < i + vs.length then vs.getD (t - i) undef else undef
  | [], i, t => by simp [number, rget]
  | v :: vs, i, t => by
    simp only [number, rget]
    cases e : Nat.beq i t with
    | true =>
      have := Nat.eq_of_beq_eq_true e
      subst this
      simp
    | false =>
      have hne : i ≠ t := fun h => by subst h; simp at e
      rw [cond_false, rget_number vs (i + 1) t]
      by_cases h1 : i + 1 ≤ t ∧ t < i + 1 + vs.length
      · rw [if_pos h1, if_pos (by simp; omega)]
        have : t - i = (t - (i + 1)) + 1 := by omega
        rw [this]; simp
      · rw [if_neg h1, if_neg (by simp; omega)]

theorem runF_sound (hm : P.follows .mixedOrders = true) (hΓ : ∀ g, SoundF P P.globals.size w0 g (Γ g)) {g : FuncId} {fn : Func} {lv : List (Nat × List Nat)} (hfn : P.funcs[g]? = some fn) (hcall : callable fn = true) : SoundF P P.globals.size w0 g (runF P Γ fn lv) := by
  intro args H v H1 h
  unfold runF at h
  cases hb : fn.body with
  | none => rw [hb] at h; cases h
  | some c =>
    rw [hb] at h
    simp only at h
    cases hle : Nat.ble args.length fn.ntmps with
    | false => rw [hle] at h; cases h
    | true =>
      rw [hle] at h
      simp only [cond_true] at h
      have hlen := Nat.le_of_ble_eq_true hle
      have hcl : callableF P g := by
        refine ⟨fn, hfn, ?_, by simp [hb]⟩
        unfold callable at hcall
        simp only [Bool.and_eq_true] at hcall
        simpa using hcall.1
      refine .inl ⟨hcl, fun ι w args' hS hr => calls_of_wp hfn hb ?_⟩
      have hsz : args'.toArray.size = args.length := by have := hr.1; simp; omega
      refine E_sound hm hΓ fn lv c (ι := ι) ?_ h ⟨?_, ?_, ?_⟩
      · refine ⟨hS, fun t => ?_, by simp at hsz ⊢; omega, rfl⟩
        rw [rget_number]
        split
        · rename_i ht
          have h1 := hr.2 t (by omega)
          have ht' : t < args'.length := by have := hr.1; omega
          simp only [Nat.sub_zero]
          simpa [Array.getElem?_append, ht', List.getD_eq_getElem?_getD] using h1
        · exact .un
      · intro ι1 r1 H2 a1 w1 hle1 hSt1 hk
        obtain ⟨v', h1, hs, hd, v2, hres, hv⟩ := retM_sound hSt1 hk
        cases h1
        exact ⟨hd, v2, hres, ι1, v2, hle1, rfl, hv, hs⟩
      · intro j ι1 r1 H2 a1 w1 hle1 hSt1 hk; cases hk
      · intro ι1 v' H2 a1 w1 hle1 hR hk
        cases hk
        obtain ⟨hs, hd, v2, hres, hv⟩ := hR
        exact ⟨hd, v2, hres, ι1, v2, hle1, rfl, hv, hs⟩

theorem run_sound (hm : P.follows .mixedOrders = true) {prim : FuncId → Option (List Value → M Value)} {lvs : FuncId → List (Nat × List Nat)} (hprim : ∀ g m, prim g = some m → SoundF P P.globals.size w0 g m) : ∀ (n : Nat) (g : FuncId), SoundF P P.globals.size w0 g (run P prim lvs n g)
  | 0, g => by intro args H v H1 h; cases h
  | n + 1, g => by
    intro args H v H1 h
    simp only [run] at h
    cases hp : prim g with
    | some m => rw [hp] at h; exact hprim g m hp args H v H1 h
    | none =>
      rw [hp] at h
      simp only at h
      cases hf : P.funcs[g]? with
      | none => rw [hf] at h; cases h
      | some fn =>
        rw [hf] at h
        simp only at h
        cases hc : callable fn with
        | false => rw [hc] at h; cases h
        | true =>
          rw [hc] at h
          exact runF_sound hm (run_sound hm hprim n) hf hc args H v H1 h

end
end Go.Proofs.Ytkjoaediojdodaa.A
