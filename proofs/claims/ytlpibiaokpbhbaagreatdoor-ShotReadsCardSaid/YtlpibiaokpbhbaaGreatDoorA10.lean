/- One operation: where the abstract machine goes on, the model goes on alike. -/
import Derived.Test.YtlpibiaokpbhbaaGreatDoorA9
import Derived.CallsIn
import Derived.TacticsIn
import Derived.OrdersIn
import Derived.LoopNIn
import Derived.Laws.Externs
namespace Go.Proofs.YtlpibiaokpbhbaaGreatDoor.A
set_option linter.unusedVariables false
set_option linter.unusedSimpArgs false

/-- Every function, of whatever depth; in a round of a range over a function, or in none. -/
def FR (rd : Option Nat) : Fence := { Fence.wide with round := rd }

/-- What an operation leads to, whether a round's or not. -/
def _root_.Go.Oper.wpX (rd : Option Nat) (P : Program) (o : Oper) (a : Act) (w : World) (next : Act → World → Prop) (Q : Exit → Act → World → Prop) : Prop :=
  o.uponIn (FR rd) 0 P a next Q ((execOp a.eval o).run P w)

theorem wpX_in {rd : Option Nat} {P : Program} {o : Oper} {a : Act} {w : World} {next : Act → World → Prop} {Q : Exit → Act → World → Prop} (hd : ∀ c, o.op ≠ .defer c) (h : o.wpX rd P a w next Q) : o.wpIn (FR rd) 0 P a w next Q := by
  refine ⟨fun _ _ => trivial, ?_⟩
  rw [Oper.semAt_eq _ _ _ hd]
  exact h

theorem callsIn_FR {rd : Option Nat} {n : Nat} {P : Program} {g : FuncId} {args : Array Value} {w : World} {R : Ending → World → Prop} (h : Calls P g args w R) : CallsIn (FR rd) n P g args w R :=
  show CallsIn Fence.wide n P g args w R from callsIn_wide.2 h

theorem roundIn_FR {rd : Option Nat} {n : Nat} {P : Program} {l : Nat} {f : FuncId} {tmps : Array Value} {assign body : Code} {w : World} {R : Ending → World → Prop} (h : RoundIn Fence.wide n P l f tmps assign body w R) : RoundIn (FR rd) n P l f tmps assign body w R := h

def marks (l : List Nat) : List Deferred := l.map fun b => { target := .collected b, args := #[] }

structure St (G : Nat) (w0 : Base) (N : Nat) (ι : Nat → Option Loc) (r : Regs) (H : Heap) (a : Act) (w : World) : Prop where
  sim : Sim G w0 ι H w
  regs : ∀ t, RV ι (rget r t) (a.tmps.getD t undef)
  size : a.tmps.size = N
  defers : a.defers = marks w0.own

def callableF (P : Program) (g : FuncId) : Prop := ∃ fn, P.funcs[g]? = some fn ∧ (fn.name == "runtime.NumGoroutine") = false ∧ fn.body.isNone = false

/-- A function without a body, for which the model stands in. -/
def externF (P : Program) (g : FuncId) (e : Array Value → Sem Value) : Prop :=
  ∃ fn, P.funcs[g]? = some fn ∧ (fn.name == "runtime.NumGoroutine") = false ∧ fn.body.isNone = true ∧ Extern.findNext fn = none ∧ Extern.find fn = some e

def SoundC (P : Program) (G : Nat) (w0 : Base) (g : FuncId) (v : Value) (args : List Value) (H H1 : Heap) : Prop :=
  callableF P g ∧ ∀ ι w args', Sim G w0 ι H w → RVs ι args args' →
    Calls P g args'.toArray w fun e w' => ∃ ι1 v', Le ι ι1 ∧ e = .returned v' ∧ RV ι1 v v' ∧ Sim G w0 ι1 H1 w'

def SoundX (P : Program) (G : Nat) (w0 : Base) (g : FuncId) (v : Value) (args : List Value) (H H1 : Heap) : Prop :=
  ∃ e, externF P g e ∧ ∀ ι w args', Sim G w0 ι H w → RVs ι args args' → Res G w0 ι v H1 ((e args'.toArray).run P w)

/-- A round of the range over a function that is the heap's object L. -/
def SoundY (P : Program) (G : Nat) (w0 : Base) (L : Nat) (v : Value) (args : List Value) (H H1 : Heap) : Prop :=
  ∀ ι w args' l, ι L = some l → Sim G w0 ι H w → RVs ι args args' → ∃ f tmps asg bd, (Instr.yield l.blk args'.toArray).run P w = .ok (.round l.blk f tmps asg bd) w ∧
    RoundIn Fence.wide 0 P l.blk f tmps asg bd w fun e w' => ∃ ι1 v', Le ι ι1 ∧ e = .returned v' ∧ RV ι1 v v' ∧ Sim G w0 ι1 H1 w'

def SoundF (P : Program) (G : Nat) (w0 : Base) (g : FuncId) (m : List Value → M Value) : Prop :=
  ∀ args H v H1, m args H = some (v, H1) → (g < yoff ∧ (SoundC P G w0 g v args H H1 ∨ SoundX P G w0 g v args H H1)) ∨ (yoff ≤ g ∧ SoundY P G w0 (g - yoff) v args H H1)

section
variable {P : Program} {Γ : Funs} {w0 : Base} {N : Nat} {ι : Nat → Option Loc} {r : Regs} {H : Heap} {a : Act} {w : World} {ρ : Operand → Value} {rd : Option Nat}

theorem St.put {G : Nat} (h : St G w0 N ι r H a w) {ι1 : Nat → Option Loc} {H1 : Heap} {w1 : World} (hl : Le ι ι1) (hs : Sim G w0 ι1 H1 w1) {v v' : Value} (hv : RV ι1 v v') {d : Option Nat}
    (hd : ∀ x, d = some x → x < N) : St G w0 N ι1 (rput r d v) H1 (a.put d v') w1 := by
  cases d with
  | none => exact ⟨hs, fun t => (h.regs t).mono hl, h.size, h.defers⟩
  | some d =>
    have hlt := hd d rfl
    refine ⟨hs, fun t => ?_, by simp [Act.put, h.size], h.defers⟩
    simp only [rput, rget, Act.put]
    by_cases e : d = t
    · subst e
      simpa [h.size, hlt] using hv
    · have e1 : Nat.beq d t = false := by
        cases h : Nat.beq d t with
        | false => rfl
        | true => exact absurd (Nat.eq_of_beq_eq_true h) e
      have := (h.regs t).mono hl
      simpa [e1, Array.getElem?_setIfInBounds_ne e] using this

theorem St.ev (h : St P.globals.size w0 N ι r H a w) {x : Operand} (hx : constsOK P x = true) : RV ι (A.ev r x) (a.eval x) := by
  cases x with
  | tmp t => exact h.regs t
  | const v => exact .const hx
  | global g =>
    obtain ⟨l, h1, h2, h3⟩ := h.sim.glob g (by simpa [constsOK] using hx)
    have := RV.ptr (o := 0) h1
    rwa [h2, h3] at this
  | func f => exact .fn (fun l e => by cases e) rfl (by simp) rfl (by simp)

theorem bind_some {α β : Type} {m : M α} {k : α → M β} {H : Heap} {x : β × Heap} (h : A.bind m k H = some x) : ∃ v H1, m H = some (v, H1) ∧ k v H1 = some x := by
  unfold A.bind at h
  split at h
  · cases h
  · exact ⟨_, _, by assumption, h⟩

theorem fail_some {β : Type} {H : Heap} {x : β × Heap} (h : (fail : M β) H = some x) : False := by cases h

theorem bfail_some {β : Type} {k : Value → M β} {H : Heap} {x : β × Heap} (h : appM (.cmp fail) k H = some x) : False := by cases h

/-- What goes on behind an operation. -/
def Goes {β : Type} (P : Program) (w0 : Base) (ι : Nat → Option Loc) (a : Act) (dst : Option Tmp) (k : Value → M β) (x : β × Heap) (next : Act → World → Prop) : Prop :=
  ∀ ι1 v v' H1 w1, Le ι ι1 → RV ι1 v v' → Sim P.globals.size w0 ι1 H1 w1 → k v H1 = some x → next (a.put dst v') w1

theorem wp_res {β : Type} {o : Oper} {k : Value → M β} {x : β × Heap} {next : Act → World → Prop} {Q : Exit → Act → World → Prop} {s : Sem Value} {v : Value} {H1 : Heap}
    (hx : (execOp a.eval o).run P w = (s.run P w).andThen fun v w => .ok (.value v) w) (hr : Res P.globals.size w0 ι v H1 (s.run P w)) (hk : k v H1 = some x)
    (hn : Goes P w0 ι a o.dst k x next) : o.wpX rd P a w next Q := by
  obtain ⟨ι1, v', w1, h1, h2, h3, h4⟩ := hr
  unfold Oper.wpX
  rw [hx, h4]
  exact hn ι1 v v' H1 w1 h1 h3 h2 hk

theorem wp_resU {β : Type} {o : Oper} {k : Value → M β} {x : β × Heap} {next : Act → World → Prop} {Q : Exit → Act → World → Prop} {s : Sem Unit} {v : Value} {H1 : Heap}
    (hx : (execOp a.eval o).run P w = (s.run P w).andThen fun _ w => .ok .skip w) (hr : v = undef ∧ ResU P.globals.size w0 ι H1 (s.run P w)) (hk : k v H1 = some x)
    (hn : Goes P w0 ι a o.dst k x next) : o.wpX rd P a w next Q := by
  obtain ⟨rfl, ι1, w1, h1, h2, h4⟩ := hr
  unfold Oper.wpX
  rw [hx, h4]
  exact hn ι1 undef undef H1 w1 h1 .un h2 hk

theorem wp_val {β : Type} {o : Oper} {k : Value → M β} {x : β × Heap} {next : Act → World → Prop} {Q : Exit → Act → World → Prop} {v v' : Value}
    (hS : Sim P.globals.size w0 ι H w) (hx : (execOp a.eval o).run P w = .ok (.value v') w) (hv : RV ι v v') (hk : k v H = some x)
    (hn : Goes P w0 ι a o.dst k x next) : o.wpX rd P a w next Q := by
  unfold Oper.wpX
  rw [hx]
  exact hn ι v v' H w (.refl ι) hv hS hk

theorem run_map_val (s : Sem Value) : (do pure (Next.value (← s)) : Sem Next).run P w = (s.run P w).andThen fun v w => .ok (.value v) w := by
  simp only [Sem.run_bind, Sem.run_pure]

theorem run_map_unit (s : Sem Unit) : (do s; pure Next.skip : Sem Next).run P w = (s.run P w).andThen fun _ w => .ok .skip w := by
  simp only [Sem.run_bind, Sem.run_pure]

theorem callv_sound {β : Type} {o : Oper} {c : Call} {f : Operand} {k : Value → M β} {x : β × Heap} {next : Act → World → Prop} {Q : Exit → Act → World → Prop}
    (hS : Sim P.globals.size w0 ι H w) (hΓ : ∀ g, SoundF P P.globals.size w0 g (Γ g)) (ho : o.op = .call c) (hf : c.callee = .value f)
    (hcf : RV ι (ρ f) (a.eval f)) (hca : ∀ y ∈ c.args.toList, RV ι (ρ y) (a.eval y)) (h : A.bind (callv Γ (ρ f) (c.args.toList.map ρ)) k H = some x)
    (hn : Goes P w0 ι a o.dst k x next) : o.wpX rd P a w next Q := by
  obtain ⟨v, H1, h1, hk⟩ := bind_some h
  generalize hm : callv Γ (ρ f) (c.args.toList.map ρ) = m at h1
  unfold callv at hm
  split at hm
  · rename_i g first captured hev
    cases hgy : Nat.blt g yoff with
    | false => rw [hgy] at hm; simp only [cond_false] at hm; subst hm; exact (fail_some h1).elim
    | true =>
    rw [hgy] at hm
    subst hm
    have hgy' : g < yoff := by simpa using hgy
    simp only [cond_true] at h1
    have hvf := hcf
    rw [hev] at hvf
    obtain ⟨first', captured', hev', hr1, hr2⟩ := hvf.fn_inv
    have hargs : ∀ l : List Operand, (∀ y ∈ l, RV ι (ρ y) (a.eval y)) → RVs ι (l.map ρ) (l.map a.eval) := by
      intro l
      induction l with
      | nil => intro _; exact .nil
      | cons y l ih => intro hl; exact .cons (hl y (by simp)) (ih fun z hz => hl z (by simp [hz]))
    have e : ∀ X : Sem Next, (execOp a.eval o) = (do let d ← resolve a.eval c o.type; invoke d.target d.args) := by
      intro _; unfold execOp; rw [ho]
    rcases hΓ g _ _ _ _ h1 with ⟨_, ⟨⟨fn, hfn, hname, hbody⟩, hcalls⟩ | ⟨ex, ⟨fn, hfn, hname, hbody, hfnx, hfe⟩, hres⟩⟩ | ⟨hno, _⟩
    · have hc := hcalls ι w _ hS (hr1.append ((hargs _ hca).append hr2))
      have hrun : (execOp a.eval o).run P w = .ok (.enter g (first'.toList ++ (c.args.toList.map a.eval ++ captured'.toList)).toArray) w := by
        rw [e (pure .skip)]
        simp only [resolve, hf, hev', Deferred.ofValue, Sem.run_bind, Sem.run_pure, Result.andThen_ok, invoke, callFunc, run_program, hfn, hname, hbody, Bool.false_eq_true, if_false]
        congr 2
        apply Array.ext'
        simp
      unfold Oper.wpX
      rw [hrun, Oper.uponIn_enter]
      refine ⟨(fun h => by cases h), callsIn_FR (hc.mono fun e w' he => ?_)⟩
      obtain ⟨ι1, v', hle, rfl, hv, hs⟩ := he
      exact hn ι1 v v' H1 w' hle hv hs hk
    · refine wp_res (s := ex (first'.toList ++ (c.args.toList.map a.eval ++ captured'.toList)).toArray) ?_ (hres ι w _ hS (hr1.append ((hargs _ hca).append hr2))) hk hn
      rw [e (pure .skip)]
      have harr : (first' ++ c.args.map a.eval ++ captured') = (first'.toList ++ (c.args.toList.map a.eval ++ captured'.toList)).toArray := by
        apply Array.ext'; simp
      simp only [resolve, hf, hev', Deferred.ofValue, Sem.run_bind, Sem.run_pure, Result.andThen_ok, invoke, run_callFunc_extern hfn hname hbody hfnx hfe]
      first | rw [harr] | (congr 3; apply Array.ext'; simp)
    · exact absurd hgy' (Nat.not_lt_of_le hno)
  · rename_i L ca cb hev
    subst hm
    have hvf := hcf
    rw [hev] at hvf
    obtain ⟨rfl, rfl, l, hl, hev'⟩ := hvf.yl_inv
    have hargs : ∀ l : List Operand, (∀ y ∈ l, RV ι (ρ y) (a.eval y)) → RVs ι (l.map ρ) (l.map a.eval) := by
      intro l
      induction l with
      | nil => intro _; exact .nil
      | cons y l ih => intro hl; exact .cons (hl y (by simp)) (ih fun z hz => hl z (by simp [hz]))
    rcases hΓ _ _ _ _ _ h1 with ⟨hno, _⟩ | ⟨_, hY⟩
    · exact absurd hno (Nat.not_lt_of_le (Nat.le_add_right _ _))
    rw [Nat.add_sub_cancel_left] at hY
    obtain ⟨f', tmps, asg, bd, hy, hr⟩ := hY ι w _ l hl hS (hargs _ hca)
    have hrun : (execOp a.eval o).run P w = .ok (.round l.blk f' tmps asg bd) w := by
      have e : (execOp a.eval o) = (do let d ← resolve a.eval c o.type; invoke d.target d.args) := by unfold execOp; rw [ho]
      rw [e]
      rw [← hy]
      simp only [resolve, hf, hev', Deferred.ofValue, Sem.run_bind, Sem.run_pure, Result.andThen_ok, invoke]
      congr 2
      apply Array.ext'
      simp
    unfold Oper.wpX
    rw [hrun, Oper.uponIn_round]
    refine ⟨(fun h => by cases h), roundIn_FR (hr.mono fun e w' he => ?_)⟩
    obtain ⟨ι1, v', hle, rfl, hv, hs⟩ := he
    exact hn ι1 v v' H1 w' hle hv hs hk
  · subst hm; exact (fail_some h1).elim

theorem run_builtin {o : Oper} {c : Call} {b : Builtin} (ho : o.op = .call c) (hf : c.callee = .builtin b) :
    ∃ consts, ∀ w, (execOp a.eval o).run P w = (builtin b c.argTypes o.type consts (c.args.map a.eval)).run P w := by
  have e : (execOp a.eval o) = (do let d ← resolve a.eval c o.type; invoke d.target d.args) := by unfold execOp; rw [ho]
  refine ⟨c.args.map fun | .const _ => true | _ => false, fun w => ?_⟩
  rw [e]
  simp only [resolve, hf, Sem.run_bind, Sem.run_pure, Result.andThen_ok, invoke]
  rfl

theorem toList_one {α : Type} {c : Array α} {x : α} (h : c.toList = [x]) : c = #[x] := by
  apply Array.ext'; simpa using h
theorem toList_two {α : Type} {c : Array α} {x y : α} (h : c.toList = [x, y]) : c = #[x, y] := by
  apply Array.ext'; simpa using h

theorem exCall_sound {β : Type} {o : Oper} {c : Call} {k : Value → M β} {x : β × Heap} {next : Act → World → Prop} {Q : Exit → Act → World → Prop}
    (hS : Sim P.globals.size w0 ι H w) (hΓ : ∀ g, SoundF P P.globals.size w0 g (Γ g)) (ho : o.op = .call c)
    (hc : ∀ y ∈ c.operands.toList, RV ι (ρ y) (a.eval y)) (h : appM (exCall P Γ ρ c) k H = some x) (hn : Goes P w0 ι a o.dst k x next) : o.wpX rd P a w next Q := by
  have hargs : ∀ y ∈ c.args.toList, RV ι (ρ y) (a.eval y) := fun y hy => hc y (by
    simp only [Call.operands, Array.toList_append, List.mem_append]
    exact .inr hy)
  generalize hm : exCall P Γ ρ c = m at h
  unfold exCall at hm
  split at hm
  · rename_i f hf
    subst hm
    exact callv_sound hS hΓ ho hf (hc f (by simp [Call.operands, hf])) hargs h hn
  · -- len
    rename_i y t hf ha ht
    have hy := hargs y (by simp [ha])
    obtain ⟨consts, hrun⟩ := run_builtin (P := P) (a := a) ho hf
    rw [toList_one ha, toList_one ht] at hrun
    split at hm
    · subst hm
      obtain ⟨v, H1, h1, hk⟩ := bind_some h
      exact wp_res (s := Builtin.len_ #[t] o.type #[a.eval y]) (by rw [hrun]; simp [builtin]) (lenT_sim hS (by assumption) hy h1 _) hk hn
    · subst hm
      obtain ⟨v, H1, h1, hk⟩ := bind_some h
      exact wp_res (s := Builtin.len_ #[t] o.type #[a.eval y]) (by rw [hrun]; simp [builtin]) (lenS_sim hS (by assumption) hy h1 _) hk hn
    · subst hm
      obtain ⟨v, H1, h1, hk⟩ := bind_some h
      exact wp_res (s := Builtin.len_ #[t] o.type #[a.eval y]) (by rw [hrun]; simp [builtin]) (lenM_sim hS (by assumption) hy h1) hk hn
    · subst hm; exact (bfail_some h).elim
  · -- append
    rename_i s y t u hf ha ht
    have hs := hargs s (by simp [ha])
    have hy := hargs y (by simp [ha])
    obtain ⟨consts, hrun⟩ := run_builtin (P := P) (a := a) ho hf
    rw [toList_two ha, toList_two ht] at hrun
    split at hm
    · rename_i e d hue hud
      cases he : okE P e with
      | false => rw [he] at hm; subst hm; exact (bfail_some h).elim
      | true =>
        rw [he] at hm; subst hm
        obtain ⟨v, H1, h1, hk⟩ := bind_some h
        exact wp_res (s := Builtin.append_ #[t, u] o.type #[a.eval s, a.eval y]) (by rw [hrun]; simp [builtin]) (app_sim hS hue (.inl ⟨_, hud⟩) he hs hy h1) hk hn
    · rename_i e hue hud
      cases he : okE P e with
      | false => rw [he] at hm; subst hm; exact (bfail_some h).elim
      | true =>
        rw [he] at hm; subst hm
        obtain ⟨v, H1, h1, hk⟩ := bind_some h
        exact wp_res (s := Builtin.append_ #[t, u] o.type #[a.eval s, a.eval y]) (by rw [hrun]; simp [builtin]) (app_sim hS hue (.inr hud) he hs hy h1) hk hn
    · subst hm; exact (bfail_some h).elim
  · -- max
    rename_i ts y z hf ha
    have hy := hargs y (by simp [ha])
    have hz := hargs z (by simp [ha])
    obtain ⟨consts, hrun⟩ := run_builtin (P := P) (a := a) ho hf
    rw [toList_two ha] at hrun
    subst hm
    obtain ⟨v, H1, h1, hk⟩ := bind_some h
    exact wp_res (s := Builtin.max_ c.argTypes o.type #[a.eval y, a.eval z]) (by rw [hrun]; simp [builtin]) (mxi_sim (mx := true) (tys := c.argTypes) (ty := o.type) hS hy hz h1) hk hn
  · -- min
    rename_i ts y z hf ha
    have hy := hargs y (by simp [ha])
    have hz := hargs z (by simp [ha])
    obtain ⟨consts, hrun⟩ := run_builtin (P := P) (a := a) ho hf
    rw [toList_two ha] at hrun
    subst hm
    obtain ⟨v, H1, h1, hk⟩ := bind_some h
    exact wp_res (s := Builtin.min_ c.argTypes o.type #[a.eval y, a.eval z]) (by rw [hrun]; simp [builtin]) (mxi_sim (mx := false) (tys := c.argTypes) (ty := o.type) hS hy hz h1) hk hn
  · -- copy
    rename_i d y t u hf ha ht
    have hd := hargs d (by simp [ha])
    have hy := hargs y (by simp [ha])
    obtain ⟨consts, hrun⟩ := run_builtin (P := P) (a := a) ho hf
    rw [toList_two ha, toList_two ht] at hrun
    split at hm
    · rename_i e hue
      cases he : okE P e with
      | false => rw [he] at hm; subst hm; exact (bfail_some h).elim
      | true =>
        rw [he] at hm; subst hm
        obtain ⟨v, H1, h1, hk⟩ := bind_some h
        exact wp_res (s := Builtin.copy_ #[t, u] o.type #[a.eval d, a.eval y]) (by rw [hrun]; simp [builtin]) (cpy_sim hS hue he hd hy h1) hk hn
    · subst hm; exact (bfail_some h).elim
  · -- clear
    rename_i y t hf ha ht
    have hy := hargs y (by simp [ha])
    obtain ⟨consts, hrun⟩ := run_builtin (P := P) (a := a) ho hf
    rw [toList_one ha, toList_one ht] at hrun
    split at hm
    · rename_i e hue
      cases he : okE P e with
      | false => rw [he] at hm; subst hm; exact (bfail_some h).elim
      | true =>
        rw [he] at hm; subst hm
        obtain ⟨v, H1, h1, hk⟩ := bind_some h
        exact wp_res (s := Builtin.clear_ #[t] o.type #[a.eval y]) (by rw [hrun]; simp [builtin]) (clr_sim_slice hS hue he hy h1) hk hn
    · rename_i kt e hue
      subst hm
      obtain ⟨v, H1, h1, hk⟩ := bind_some h
      exact wp_res (s := Builtin.clear_ #[t] o.type #[a.eval y]) (by rw [hrun]; simp [builtin]) (clr_sim_map hS hue hy h1) hk hn
    · subst hm; exact (bfail_some h).elim
  · -- delete
    rename_i m1 y t u hf ha ht
    have hm1 := hargs m1 (by simp [ha])
    have hy := hargs y (by simp [ha])
    obtain ⟨consts, hrun⟩ := run_builtin (P := P) (a := a) ho hf
    rw [toList_two ha, toList_two ht] at hrun
    split at hm
    · rename_i kt e hue
      subst hm
      obtain ⟨v, H1, h1, hk⟩ := bind_some h
      exact wp_res (s := Builtin.delete_ #[t, u] o.type #[a.eval m1, a.eval y]) (by rw [hrun]; simp [builtin]) (mde_sim hS hue hm1 hy h1) hk hn
    · subst hm; exact (bfail_some h).elim
  · subst hm; exact (bfail_some h).elim

theorem info_of {t : TypeId} (h : szT P t ≠ 0) : ∃ i, P.info? t = some i := by
  unfold szT at h
  cases e : P.info? t with
  | none => simp [e] at h
  | some i => exact ⟨i, rfl⟩

theorem RO.map {x : Option Operand} (h : ∀ y, x = some y → RV ι (ρ y) (a.eval y)) : RO ι (x.map ρ) (x.map a.eval) := by
  cases x with
  | none => trivial
  | some y => exact h y rfl

theorem RVs.map {l : List Operand} (h : ∀ y ∈ l, RV ι (ρ y) (a.eval y)) : RVs ι (l.map ρ) (l.map a.eval) := by
  induction l with
  | nil => exact .nil
  | cons y l ih => exact .cons (h y (by simp)) (ih fun z hz => h z (by simp [hz]))

theorem PR.struct {fs : Array Field} : ∀ {ps : List (Nat × Operand)} {l : List (Nat × Nat × Value)}, (∀ p ∈ ps, RV ι (ρ p.2) (a.eval p.2)) →
    (ps.mapM fun p => match fs[p.1]? with | some f => some (f.offset, szT P f.type, ρ p.2) | none => none) = some l →
    PR ι (fun i => (fs[i]?).map fun f => (f.offset, szT P f.type)) l (ps.map fun p => (p.1, a.eval p.2))
  | [], l, _, h => by simp at h; subst h; exact .nil
  | p :: ps, l, hr, h => by
    simp only [List.mapM_cons] at h
    cases hf : fs[p.1]? with
    | none => simp [hf] at h
    | some f =>
      simp only [hf] at h
      simp only [Option.bind_eq_bind, Option.bind_some] at h
      cases hl : (ps.mapM fun p => match fs[p.1]? with | some f => some (f.offset, szT P f.type, ρ p.2) | none => none) with
      | none => rw [hl] at h; simp at h
      | some l' =>
        rw [hl] at h
        simp at h
        subst h
        exact .cons (by simp [hf]) (hr p (by simp)) (PR.struct (fun q hq => hr q (by simp [hq])) hl)

theorem PR.arr {n : Nat} : ∀ {ps : List (Nat × Operand)}, (∀ p ∈ ps, RV ι (ρ p.2) (a.eval p.2)) →
    PR ι (fun i => some (i * n, n)) (ps.map fun p => (p.1 * n, n, ρ p.2)) (ps.map fun p => (p.1, a.eval p.2))
  | [], _ => .nil
  | p :: ps, hr => .cons rfl (hr p (by simp)) (PR.arr fun q hq => hr q (by simp [hq]))

theorem exOp_sound {β : Type} {o : Oper} {op : Op} {k : Value → M β} {x : β × Heap} {next : Act → World → Prop} {Q : Exit → Act → World → Prop}
    (hS : Sim P.globals.size w0 ι H w) (hΓ : ∀ g, SoundF P P.globals.size w0 g (Γ g)) (ho : o.op = op)
    (hc : ∀ y ∈ op.operands.toList, RV ι (ρ y) (a.eval y)) (h : exOp P Γ ρ op k H = some x) (hn : Goes P w0 ι a o.dst k x next) : o.wpX rd P a w next Q := by
  cases op with
  | move y =>
    exact wp_val hS (by unfold execOp; rw [ho]; rfl) (hc y (by simp [Op.operands])) h hn
  | assign y =>
    exact wp_val hS (by unfold execOp; rw [ho]; rfl) (hc y (by simp [Op.operands])) h hn
  | pick c y z =>
    obtain ⟨v, H1, h1, hk⟩ := bind_some h
    exact wp_res (s := do pure (if ← asBool (a.eval c) then a.eval y else a.eval z)) (by simp only [execOp, ho, Sem.run_bind, Sem.run_pure]; cases (asBool (a.eval c)).run P w <;> rfl)
      (pick_sim hS (hc c (by simp [Op.operands])) (hc y (by simp [Op.operands])) (hc z (by simp [Op.operands])) h1) hk hn
  | extract t i =>
    obtain ⟨v, H1, h1, hk⟩ := bind_some h
    exact wp_res (s := Instr.extract (a.eval t) i) (by unfold execOp; rw [ho]; exact run_map_val _) (extr_sim hS (hc t (by simp [Op.operands])) h1) hk hn
  | nilCheck y =>
    obtain ⟨v, H1, h1, hk⟩ := bind_some h
    have hy := hc y (by simp [Op.operands])
    unfold nilc at h1
    split at h1
    · rename_i b hev
      cases h1
      rw [hev] at hy
      obtain ⟨b', hb', hb2⟩ := hy.ptr_none
      cases b' with
      | none => simp at hb2
      | some b' =>
        exact wp_val hS (v' := .pointer (some b')) (by unfold execOp; rw [ho]; simp only [hb']; rfl) (by rw [← hb']; exact hy) hk hn
    · rename_i f p q hev
      cases h1
      rw [hev] at hy
      obtain ⟨p', q', hb', _⟩ := hy.fn_inv
      exact wp_val hS (v' := .func (.func f) p' q') (by unfold execOp; rw [ho]; simp only [hb']; rfl) (by rw [← hb']; exact hy) hk hn
    · cases h1
  | binOp bo t y z t2 =>
    obtain ⟨v, H1, h1, hk⟩ := bind_some h
    exact wp_res (s := do eqGuard bo t y z (a.eval y) (a.eval z); binOp bo t (a.eval y) (a.eval z)) (by unfold execOp; rw [ho]; exact run_map_val (P := P) (w := w) _)
      (bop_sim hS (hc y (by simp [Op.operands])) (hc z (by simp [Op.operands])) h1) hk hn
  | unOp uo t y =>
    obtain ⟨v, H1, h1, hk⟩ := bind_some h
    exact wp_res (s := Op.unary uo (a.eval y)) (by unfold execOp; rw [ho]; exact run_map_val _) (uop_sim hS (hc y (by simp [Op.operands])) h1) hk hn
  | convert s d y =>
    have hy := hc y (by simp [Op.operands])
    unfold exOp at h
    generalize hm : opM P Γ ρ (.convert s d y) = m at h
    unfold opM at hm
    simp only at hm
    have hx : ∀ w, (execOp a.eval o).run P w = ((convert s d (a.eval y)).run P w).andThen fun v w => .ok (.value v) w := fun w => by unfold execOp; rw [ho]; exact run_map_val _
    split at hm
    · subst hm
      obtain ⟨v, H1, h1, hk⟩ := bind_some h
      exact wp_res (hx w) (cvi_sim hS (by assumption) (by assumption) hy h1) hk hn
    · subst hm
      obtain ⟨v, H1, h1, hk⟩ := bind_some h
      exact wp_res (hx w) (cvs_sim hS (by assumption) (by assumption) hy h1) hk hn
    · split at hm
      · subst hm
        obtain ⟨v, H1, h1, hk⟩ := bind_some h
        exact wp_res (hx w) (s2b_sim hS (by assumption) (by assumption) (by assumption) hy h1) hk hn
      · subst hm; exact (bfail_some h).elim
    · split at hm
      · subst hm
        obtain ⟨v, H1, h1, hk⟩ := bind_some h
        exact wp_res (hx w) (b2s_sim hS (by assumption) (by assumption) (by assumption) hy h1) hk hn
      · subst hm; exact (bfail_some h).elim
    · rename_i hu1 hu2
      split at hm
      · rename_i hu3
        cases hb : Nat.beq s d with
        | false => rw [hb] at hm; subst hm; exact (bfail_some h).elim
        | true =>
          rw [hb] at hm
          have := Nat.eq_of_beq_eq_true hb
          subst this
          subst hm
          obtain ⟨v, H1, h1, hk⟩ := bind_some h
          exact wp_res (hx w) (mrk_sim hS hu1 hu2 hu3 hy h1) hk hn
      · subst hm; exact (bfail_some h).elim
    · subst hm; exact (bfail_some h).elim
  | fieldAddr s y f =>
    have hy := hc y (by simp [Op.operands])
    unfold exOp at h
    generalize hm : opM P Γ ρ (.fieldAddr s y f) = m at h
    unfold opM at hm
    simp only at hm
    split at hm
    · split at hm
      · rename_i fd hfd
        cases hz : Nat.beq (szT P fd.type) 0 with
        | true => rw [hz] at hm; subst hm; exact (bfail_some h).elim
        | false =>
          rw [hz] at hm; subst hm
          obtain ⟨v, H1, h1, hk⟩ := bind_some h
          exact wp_res (s := Instr.fieldAt s (a.eval y) f) (by unfold execOp; rw [ho]; exact run_map_val _)
            (fa_sim hS (by assumption) hfd (fun e => by rw [e] at hz; cases hz) hy h1) hk hn
      · subst hm; exact (bfail_some h).elim
    · subst hm; exact (bfail_some h).elim
  | field s y f =>
    have hy := hc y (by simp [Op.operands])
    unfold exOp at h
    generalize hm : opM P Γ ρ (.field s y f) = m at h
    unfold opM at hm
    simp only at hm
    split at hm
    · split at hm
      · split at hm
        · subst hm
          obtain ⟨v, H1, h1, hk⟩ := bind_some h
          exact wp_res (s := Instr.field s (a.eval y) f) (by unfold execOp; rw [ho]; exact run_map_val _) (prt_sim hS (by assumption) (by assumption) (by assumption) hy h1) hk hn
        · subst hm; exact (bfail_some h).elim
      · subst hm; exact (bfail_some h).elim
    · subst hm; exact (bfail_some h).elim
  | indexAddr t y i =>
    have hy := hc y (by simp [Op.operands])
    have hi := hc i (by simp [Op.operands])
    unfold exOp at h
    generalize hm : opM P Γ ρ (.indexAddr t y i) = m at h
    unfold opM at hm
    simp only at hm
    have hx : ∀ w, (execOp a.eval o).run P w = ((Instr.indexAt t (a.eval y) (a.eval i)).run P w).andThen fun v w => .ok (.value v) w := fun w => by unfold execOp; rw [ho]; exact run_map_val _
    split at hm
    · rename_i e hu
      cases he : P.info? e with
      | none => rw [he] at hm; subst hm; exact (bfail_some h).elim
      | some ie =>
        rw [he] at hm; subst hm
        obtain ⟨v, H1, h1, hk⟩ := bind_some h
        exact wp_res (hx w) (ixa_sim hS hu he hy hi h1) hk hn
    · rename_i n e hu
      cases he : P.info? e with
      | none => rw [he] at hm; subst hm; exact (bfail_some h).elim
      | some ie =>
        rw [he] at hm; subst hm
        obtain ⟨v, H1, h1, hk⟩ := bind_some h
        exact wp_res (hx w) (ixaA_sim hS hu he hy hi h1) hk hn
    · subst hm; exact (bfail_some h).elim
  | index t y i =>
    have hy := hc y (by simp [Op.operands])
    have hi := hc i (by simp [Op.operands])
    unfold exOp at h
    generalize hm : opM P Γ ρ (.index t y i) = m at h
    unfold opM at hm
    simp only at hm
    have hx : ∀ w, (execOp a.eval o).run P w = ((Instr.index t (a.eval y) (a.eval i)).run P w).andThen fun v w => .ok (.value v) w := fun w => by unfold execOp; rw [ho]; exact run_map_val _
    split at hm
    · subst hm
      obtain ⟨v, H1, h1, hk⟩ := bind_some h
      exact wp_res (hx w) (ixs_sim hS (by assumption) hy hi h1) hk hn
    · split at hm
      · subst hm
        obtain ⟨v, H1, h1, hk⟩ := bind_some h
        exact wp_res (hx w) (ixv_sim hS (by assumption) (by assumption) hy hi h1) hk hn
      · subst hm; exact (bfail_some h).elim
    · subst hm; exact (bfail_some h).elim
  | load t y =>
    have hy := hc y (by simp [Op.operands])
    unfold exOp at h
    generalize hm : opM P Γ ρ (.load t y) = m at h
    unfold opM at hm
    simp only at hm
    have hx : ∀ w, (execOp a.eval o).run P w = ((Instr.loadAt t (a.eval y)).run P w).andThen fun v w => .ok (.value v) w := fun w => by unfold execOp; rw [ho]; exact run_map_val _
    split at hm
    · subst hm
      obtain ⟨v, H1, h1, hk⟩ := bind_some h
      exact wp_res (hx w) (ldA_sim hS (by assumption) hy h1) hk hn
    · subst hm
      obtain ⟨v, H1, h1, hk⟩ := bind_some h
      exact wp_res (hx w) (ldOne_sim hS (by assumption) hy h1) hk hn
    · subst hm; exact (bfail_some h).elim
  | store t y z =>
    have hy := hc y (by simp [Op.operands])
    have hz := hc z (by simp [Op.operands])
    unfold exOp at h
    generalize hm : opM P Γ ρ (.store t y z) = m at h
    unfold opM at hm
    simp only at hm
    have hx : ∀ w, (execOp a.eval o).run P w = ((Instr.storeAt t (a.eval y) (a.eval z)).run P w).andThen fun _ w => .ok .skip w := fun w => by unfold execOp; rw [ho]; exact run_map_unit _
    split at hm
    · subst hm
      obtain ⟨v, H1, h1, hk⟩ := bind_some h
      exact wp_resU (hx w) (stA_sim hS (by assumption) hy hz h1) hk hn
    · cases hb : Nat.beq (szT P t) 1 with
      | false => rw [hb] at hm; subst hm; exact (bfail_some h).elim
      | true =>
        rw [hb] at hm; subst hm
        obtain ⟨v, H1, h1, hk⟩ := bind_some h
        exact wp_resU (hx w) (stOne_sim hS (by assumption) (Nat.eq_of_beq_eq_true hb) hy hz h1) hk hn
    · subst hm; exact (bfail_some h).elim
  | alloc t =>
    unfold exOp at h
    generalize hm : opM P Γ ρ (.alloc t) = m at h
    unfold opM at hm
    simp only at hm
    cases hb : hasT P t with
    | false => rw [hb] at hm; subst hm; exact (bfail_some h).elim
    | true =>
      rw [hb] at hm; subst hm
      obtain ⟨v, H1, h1, hk⟩ := bind_some h
      exact wp_res (s := Instr.alloc t true (.tuple #[])) (by unfold execOp; rw [ho]; exact run_map_val _) (alloc_sim hS hb h1) hk hn
  | box t y =>
    obtain ⟨v, H1, h1, hk⟩ := bind_some h
    exact wp_res (s := Instr.box t (a.eval y)) (by unfold execOp; rw [ho]; exact run_map_val _) (box_sim hS (hc y (by simp [Op.operands])) h1) hk hn
  | call c =>
    exact exCall_sound hS hΓ ho hc h hn
  | slice t y lo hi mx =>
    have hop : ∀ z, z ∈ ([y] ++ lo.toList ++ hi.toList ++ mx.toList) → RV ι (ρ z) (a.eval z) := fun z hz => hc z (by simpa [Op.operands] using hz)
    have hy := hop y (by simp)
    have hlo : RO ι (lo.map ρ) (lo.map a.eval) := RO.map fun z hz => hop z (by simp [hz])
    have hhi : RO ι (hi.map ρ) (hi.map a.eval) := RO.map fun z hz => hop z (by simp [hz])
    have hmx : RO ι (mx.map ρ) (mx.map a.eval) := RO.map fun z hz => hop z (by simp [hz])
    unfold exOp at h
    generalize hm : opM P Γ ρ (.slice t y lo hi mx) = m at h
    unfold opM at hm
    simp only at hm
    have hx : ∀ w, (execOp a.eval o).run P w = ((Instr.sliceAt t (a.eval y) (lo.map a.eval) (hi.map a.eval) (mx.map a.eval)).run P w).andThen fun v w => .ok (.value v) w := fun w => by unfold execOp; rw [ho]; exact run_map_val _
    split at hm
    · split at hm
      · subst hm
        obtain ⟨v, H1, h1, hk⟩ := bind_some h
        exact wp_res (hx w) (sls_sim hS (by assumption) hy hlo hhi h1) hk hn
      · subst hm; exact (bfail_some h).elim
    · rename_i e hu
      cases he : P.info? e with
      | none => 
        split at hm
        · subst hm; exact (bfail_some h).elim
        · rw [he] at hm; subst hm; exact (bfail_some h).elim
      | some ie =>
        split at hm
        · subst hm; exact (bfail_some h).elim
        · rename_i hne
          rw [he] at hm; subst hm
          obtain ⟨v, H1, h1, hk⟩ := bind_some h
          exact wp_res (hx w) (slv_sim hS hu he hy hlo hhi hmx (by cases mx <;> cases hi <;> simp at hne ⊢) h1) hk hn
    · subst hm; exact (bfail_some h).elim
  | build t ps =>
    have hop : ∀ p ∈ ps.toList, RV ι (ρ p.2) (a.eval p.2) := fun p hp => hc p.2 (by
      simp only [Op.operands, List.mem_map]
      exact ⟨p, hp, rfl⟩)
    unfold exOp at h
    generalize hm : opM P Γ ρ (.build t ps) = m at h
    unfold opM at hm
    simp only at hm
    have hx : ∀ w, (execOp a.eval o).run P w = ((Instr.build t (ps.map fun p => (p.1, a.eval p.2))).run P w).andThen fun v w => .ok (.value v) w := fun w => by unfold execOp; rw [ho]; exact run_map_val _
    cases hb : hasT P t && okFields P t with
    | false => rw [hb] at hm; subst hm; exact (bfail_some h).elim
    | true =>
      rw [hb] at hm
      simp only [Bool.and_eq_true] at hb
      simp only [cond_true] at hm
      split at hm
      · rename_i l hl
        subst hm
        obtain ⟨v, H1, h1, hk⟩ := bind_some h
        unfold partsOf at hl
        split at hl
        · rename_i fs hu
          refine wp_res (hx w) (bld_sim hS hb.1 hb.2 (.inl ⟨fs, hu, rfl⟩) ?_ h1) hk hn
          have := PR.struct (P := P) (ι := ι) (a := a) (fs := fs) hop hl
          simpa using this
        · rename_i n e hu
          cases hl
          refine wp_res (hx w) (bld_sim hS hb.1 hb.2 (.inr ⟨n, e, hu, rfl⟩) ?_ h1) hk hn
          have := PR.arr (ι := ι) (a := a) (n := szT P e) hop
          simpa using this
        · cases hl
      · subst hm; exact (bfail_some h).elim
  | buildSlice t len ps =>
    have hop : ∀ p ∈ ps.toList, RV ι (ρ p.2) (a.eval p.2) := fun p hp => hc p.2 (by
      simp only [Op.operands, List.mem_map]
      exact ⟨p, hp, rfl⟩)
    unfold exOp at h
    generalize hm : opM P Γ ρ (.buildSlice t len ps) = m at h
    unfold opM at hm
    simp only at hm
    have hx : ∀ w, (execOp a.eval o).run P w = ((Instr.buildSlice t len (ps.map fun p => (p.1, a.eval p.2))).run P w).andThen fun v w => .ok (.value v) w := fun w => by unfold execOp; rw [ho]; exact run_map_val _
    split at hm
    · rename_i e hu
      cases hb : okE P e && Nat.ble (len * szT P e) 16777216 with
      | false => rw [hb] at hm; subst hm; exact (bfail_some h).elim
      | true =>
        rw [hb] at hm; subst hm
        simp only [Bool.and_eq_true] at hb
        obtain ⟨v, H1, h1, hk⟩ := bind_some h
        refine wp_res (hx w) (bsl_sim hS hu hb.1 (Nat.le_of_ble_eq_true hb.2) ?_ h1) hk hn
        have := PR.arr (ι := ι) (a := a) (n := szT P e) hop
        simpa using this
    · subst hm; exact (bfail_some h).elim
  | makeSlice t y z =>
    have hy := hc y (by simp [Op.operands])
    have hz := hc z (by simp [Op.operands])
    unfold exOp at h
    generalize hm : opM P Γ ρ (.makeSlice t y z) = m at h
    unfold opM at hm
    simp only at hm
    have hx : ∀ w, (execOp a.eval o).run P w = ((Instr.makeSlice t (a.eval y) (a.eval z)).run P w).andThen fun v w => .ok (.value v) w := fun w => by unfold execOp; rw [ho]; exact run_map_val _
    split at hm
    · rename_i e hu
      cases hb : okE P e with
      | false => rw [hb] at hm; subst hm; exact (bfail_some h).elim
      | true =>
        rw [hb] at hm; subst hm
        obtain ⟨v, H1, h1, hk⟩ := bind_some h
        exact wp_res (hx w) (mks_sim hS hu hb hy hz h1) hk hn
    · subst hm; exact (bfail_some h).elim
  | makeMap t rs =>
    unfold exOp at h
    generalize hm : opM P Γ ρ (.makeMap t rs) = m at h
    unfold opM at hm
    simp only at hm
    split at hm
    · subst hm
      obtain ⟨v, H1, h1, hk⟩ := bind_some (m := mkm) (k := k) h
      exact wp_res (s := Instr.makeMap t none) (by unfold execOp; rw [ho]; exact run_map_val _) (mkm_sim hS h1) hk hn
    · subst hm; exact (bfail_some h).elim
  | lookup t y z ok =>
    have hy := hc y (by simp [Op.operands])
    have hz := hc z (by simp [Op.operands])
    unfold exOp at h
    generalize hm : opM P Γ ρ (.lookup t y z ok) = m at h
    unfold opM at hm
    simp only at hm
    split at hm
    · rename_i kt e hu
      cases hb : hasT P e with
      | false => rw [hb] at hm; subst hm; exact (bfail_some h).elim
      | true =>
        rw [hb] at hm; subst hm
        obtain ⟨v, H1, h1, hk⟩ := bind_some h
        exact wp_res (s := Instr.lookup t (a.eval y) (a.eval z) ok) (by unfold execOp; rw [ho]; exact run_map_val _) (lkp_sim hS hu hb hy hz h1) hk hn
    · subst hm; exact (bfail_some h).elim
  | mapUpdate t y z u =>
    have hy := hc y (by simp [Op.operands])
    have hz := hc z (by simp [Op.operands])
    have hu := hc u (by simp [Op.operands])
    unfold exOp at h
    generalize hm : opM P Γ ρ (.mapUpdate t y z u) = m at h
    unfold opM at hm
    simp only at hm
    split at hm
    · subst hm
      obtain ⟨v, H1, h1, hk⟩ := bind_some h
      exact wp_resU (s := Instr.mapUpdate t (a.eval y) (a.eval z) (a.eval u)) (by unfold execOp; rw [ho]; exact run_map_unit _) (mup_sim hS (by assumption) hy hz hu h1) hk hn
    · subst hm; exact (bfail_some h).elim
  | insert t y z u =>
    have hy := hc y (by simp [Op.operands])
    have hz := hc z (by simp [Op.operands])
    have hu := hc u (by simp [Op.operands])
    unfold exOp at h
    generalize hm : opM P Γ ρ (.insert t y z u) = m at h
    unfold opM at hm
    simp only at hm
    split at hm
    · subst hm
      obtain ⟨v, H1, h1, hk⟩ := bind_some h
      exact wp_resU (s := Instr.mapUpdate t (a.eval y) (a.eval z) (a.eval u)) (by unfold execOp; rw [ho]; exact run_map_unit _) (mup_sim hS (by assumption) hy hz hu h1) hk hn
    · subst hm; exact (bfail_some h).elim
  | mapEntry t y z =>
    have hy := hc y (by simp [Op.operands])
    have hz := hc z (by simp [Op.operands])
    unfold exOp at h
    generalize hm : opM P Γ ρ (.mapEntry t y z) = m at h
    unfold opM at hm
    simp only at hm
    split at hm
    · rename_i kt e hu
      cases hb : hasT P e with
      | false => rw [hb] at hm; subst hm; exact (bfail_some h).elim
      | true =>
        rw [hb] at hm; subst hm
        obtain ⟨v, H1, h1, hk⟩ := bind_some h
        exact wp_res (s := Instr.mapEntry t (a.eval y) (a.eval z)) (by unfold execOp; rw [ho]; exact run_map_val _) (men_sim hS hu hb hy hz h1) hk hn
    · subst hm; exact (bfail_some h).elim
  | entryStore t y z u =>
    obtain ⟨v, H1, h1, hk⟩ := bind_some h
    exact wp_resU (s := Instr.entryStore t (a.eval y) (a.eval z) (a.eval u)) (by unfold execOp; rw [ho]; exact run_map_unit _)
      (ens_sim hS (hc y (by simp [Op.operands])) (hc z (by simp [Op.operands])) (hc u (by simp [Op.operands])) h1) hk hn
  | makeFunc fn fs cs =>
    have hop : ∀ z, z ∈ (fs ++ cs).toList → RV ι (ρ z) (a.eval z) := fun z hz => hc z (by simpa [Op.operands] using hz)
    cases fn with
    | func gf => ?_
    | _ => exact (bfail_some h).elim
    refine wp_val hS (v' := .func (.func gf) (fs.map a.eval) (cs.map a.eval)) (by unfold execOp; rw [ho]; rfl) ?_ h hn
    have h1 := RVs.map (ι := ι) (a := a) (l := fs.toList) fun z hz => hop z (by simp at hz ⊢; exact .inl hz)
    have h2 := RVs.map (ι := ι) (a := a) (l := cs.toList) fun z hz => hop z (by simp at hz ⊢; exact .inr hz)
    obtain ⟨e1, e2⟩ := RVs.to_arr (a := fs.map ρ) (a' := fs.map a.eval) (by simpa using h1)
    obtain ⟨e3, e4⟩ := RVs.to_arr (a := cs.map ρ) (a' := cs.map a.eval) (by simpa using h2)
    exact .fn (fun l e => by cases e) e1 e2 e3 e4
  | makeInterface t y =>
    have hy := hc y (by simp [Op.operands])
    unfold exOp at h
    generalize hm : opM P Γ ρ (.makeInterface t y) = m at h
    unfold opM at hm
    simp only at hm
    split at hm
    · subst hm; exact (bfail_some h).elim
    · rename_i d hne hu
      subst hm
      obtain ⟨v, H1, h1, hk⟩ := bind_some (m := mkif t (ρ y)) (k := k) h
      exact wp_res (s := Instr.makeInterface t (a.eval y)) (by unfold execOp; rw [ho]; exact run_map_val _) (mkif_sim hS hu hne hy h1) hk hn
    · subst hm; exact (bfail_some h).elim
  | _ => exact (bfail_some h).elim

end
end Go.Proofs.YtlpibiaokpbhbaaGreatDoor.A
