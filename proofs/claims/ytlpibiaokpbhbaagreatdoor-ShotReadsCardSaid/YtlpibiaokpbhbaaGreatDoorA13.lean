/- Code, functions, programs: where the abstract machine comes to an answer, the model comes to it. -/
import Derived.Test.YtlpibiaokpbhbaaGreatDoorA12
import Derived.Test.YtlpibiaokpbhbaaGreatDoorA17
import Derived.LoopNIn
import Derived.RangeFuncIn
import Derived.RangeFuncRecord
import Derived.RangeFuncLeaves
namespace Go.Proofs.YtlpibiaokpbhbaaGreatDoor.A
set_option linter.unusedVariables false
set_option linter.unusedSimpArgs false
section
variable {P : Program} {Γ : Funs} {w0 : Base} {N : Nat} {ι : Nat → Option Loc} {r : Regs} {H : Heap} {a : Act} {w : World} {rd : Option Nat}

theorem exReg_sound {id : Nat} {ops : Array Oper} {draw : Bool} {Q : Exit → Act → World → Prop} (hm : P.follows .mixedOrders = true) (hΓ : ∀ g, SoundF P P.globals.size w0 g (Γ g))
    (hok : opsOK P N ops.toList = true) (hgd : guardOK ops.toList = true) {β : Type} {x : β × Heap} {k : Regs → M β} (hSt : St P.globals.size w0 N ι r H a w)
    (h : exReg P Γ ops.toList draw r k H = some x) (hk : GoesR P w0 N ι k x (fun a1 w1 => Q .normal a1 w1)) : (Code.region id ops draw).wpIn (FR rd) 0 P Q a w := by
  unfold exReg at h
  cases draw with
  | true =>
    simp only [cond_true] at h
    cases hd : drawOK ops.toList (ops.toList.map fun o => cls P o.op) (ancAll ops.toList) (eagerGo (ops.toList.map fun o => cls P o.op) (ancAll ops.toList) ops.toList.length ops.toList.length []) with
    | false => rw [hd] at h; cases h
    | true =>
      rw [hd] at h
      simp only [cond_true] at h
      exact draw_sound hm hΓ hok (drawOK_spec hd) hSt h hk
  | false =>
    simp only [cond_false] at h
    exact wpIn_region_list (exOps_sound (Q := Q) hΓ hgd _ (fun p hp => ⟨opsOK_mem hok hp, hp⟩) hSt h hk)

theorem St.proj (hSt : St P.globals.size w0 N ι r H a w) (L : List Nat) : St P.globals.size w0 N ι (A.mk L (A.proj L r)) H a w := by
  refine ⟨hSt.sim, fun t => ?_, hSt.size, hSt.defers⟩
  by_cases ht : t ∈ L
  · have := rget_mk_proj (r := []) (r1 := r) ht
    rw [List.append_nil] at this
    rw [this]; exact hSt.regs t
  · have := rget_app (r := []) (L := L) (vs := A.proj L r) (t := t) fun d hd e => ht (e ▸ hd)
    rw [List.append_nil] at this
    rw [this]; exact .un

def resOne (a : Act) : ResultVar → Sem Value
  | .tmp t => pure (a.tmps.getD t undef)
  | .cell b t => do loadVar t (← asAddr (a.tmps.getD b undef))

theorem resM_sound {β : Type} {x : β × Heap} (hSt : St P.globals.size w0 N ι r H a w) : ∀ (l : List ResultVar) {k : List Value → M β}, resM P r l k H = some x →
    ∃ vs, k vs H = some x ∧ ∀ (b : Base) (w' : World), Sim P.globals.size b ι H w' → ∃ vs', RVs ι vs vs' ∧ (l.mapM (m := Sem) (resOne a)).run P w' = .ok vs' w'
  | [], k, h => ⟨[], h, fun _ _ _ => ⟨[], .nil, rfl⟩⟩
  | .tmp t :: l, k, h => by
    simp only [resM] at h
    obtain ⟨vs, h1, h2⟩ := resM_sound hSt l h
    refine ⟨_, h1, fun b w' hw => ?_⟩
    obtain ⟨vs', h3, h4⟩ := h2 b w' hw
    refine ⟨a.tmps.getD t undef :: vs', .cons (hSt.regs t) h3, ?_⟩
    rw [List.mapM_cons, Sem.run_bind]
    simp only [resOne, Sem.run_pure, Result.andThen_ok, Sem.run_bind, h4]
  | .cell b t :: l, k, h => by
    have hb := hSt.regs b
    have fin : ∀ {v : Value}, (∀ (b' : Base) (w' : World), Sim P.globals.size b' ι H w' → ∃ ad v', a.tmps.getD b undef = .pointer (some ad) ∧ RV ι v v' ∧ (loadVar t ad).run P w' = .ok v' w') →
        resM P r l (fun vs => k (v :: vs)) H = some x → ∃ vs, k vs H = some x ∧ ∀ (b' : Base) (w' : World), Sim P.globals.size b' ι H w' → ∃ vs', RVs ι vs vs' ∧ ((ResultVar.cell b t :: l).mapM (m := Sem) (resOne a)).run P w' = .ok vs' w' := by
      intro v hp h
      obtain ⟨vs, h1, h2⟩ := resM_sound hSt l h
      refine ⟨_, h1, fun b' w' hw => ?_⟩
      obtain ⟨vs', h3, h4⟩ := h2 b' w' hw
      obtain ⟨ad, v', hp, hv, hr⟩ := hp b' w' hw
      refine ⟨v' :: vs', .cons hv h3, ?_⟩
      rw [List.mapM_cons, Sem.run_bind]
      simp only [resOne, hp, asAddr, Sem.run_pure, Result.andThen_ok, Sem.run_bind, hr, h4]
    simp only [resM] at h
    generalize hm : aggT P t = m at h
    cases m with
    | none => cases h
    | some g =>
      cases g with
      | true =>
        simp only at h
        obtain ⟨v, H1, h1, h2⟩ := bind_some h
        obtain ⟨rfl, _⟩ := ldA_run (P := P) hSt.sim hm hb h1
        refine fin (fun b' w' hw => ?_) h2
        obtain ⟨_, ad, v', hp, hv, hr⟩ := ldA_run (P := P) hw hm hb h1
        exact ⟨ad, v', hp, hv, hr⟩
      | false =>
        simp only at h
        obtain ⟨v, H1, h1, h2⟩ := bind_some h
        obtain ⟨rfl, _⟩ := ldOne_run (P := P) hSt.sim hm hb h1
        refine fin (fun b' w' hw => ?_) h2
        obtain ⟨_, ad, v', hp, hv, hr⟩ := ldOne_run (P := P) hw hm hb h1
        exact ⟨ad, v', hp, hv, hr⟩

theorem retM_sound {β : Type} {x : β × Heap} {fn : Func} {kr : Value → M β} (hSt : St P.globals.size w0 N ι r H a w) (h : retM P fn r kr H = some x) :
    ∃ v, kr v H = some x ∧ ∀ (b : Base) (w' : World), Sim P.globals.size b ι H w' → ∃ v', (results fn a.tmps).run P w' = .ok v' w' ∧ RV ι v v' := by
  unfold retM at h
  obtain ⟨vs, h1, h2⟩ := resM_sound hSt _ h
  have hm : ∀ {w' : World} {vs' : List Value}, (fn.results.toList.mapM (m := Sem) (resOne a)).run P w' = .ok vs' w' → (fn.results.mapM (m := Sem) (resOne a)).run P w' = .ok vs'.toArray w' := by
    intro w' vs' h3
    rw [Array.mapM_eq_mapM_toList, Sem.run_map, h3]; rfl
  have hres : ∀ {w' : World} {vs' : List Value}, (fn.results.toList.mapM (m := Sem) (resOne a)).run P w' = .ok vs' w' → ∀ v', (if h : vs'.toArray.size = 1 then vs'.toArray[0] else .tuple vs'.toArray) = v' → (results fn a.tmps).run P w' = .ok v' w' := by
    intro w' vs' h3 v' hv
    unfold results
    rw [Sem.run_bind]
    show ((Sem.run P (fn.results.mapM (m := Sem) (resOne a)) w').andThen _) = _
    rw [hm h3]
    simp only [Result.andThen_ok, Sem.run_pure]
    rw [hv]
  match vs, h1, h2 with
  | [], h1, h2 =>
    refine ⟨_, h1, fun b w' hw => ?_⟩
    obtain ⟨vs', h3, h4⟩ := h2 b w' hw
    have := h3.nil_inv; subst this
    exact ⟨_, hres h4 (.tuple #[]) rfl, .un⟩
  | [v], h1, h2 =>
    refine ⟨_, h1, fun b w' hw => ?_⟩
    obtain ⟨vs', h3, h4⟩ := h2 b w' hw
    obtain ⟨v', r', rfl, hv, hr⟩ := h3.cons_inv
    have := hr.nil_inv; subst this
    exact ⟨_, hres h4 v' rfl, hv⟩
  | v :: u :: vs, h1, h2 =>
    refine ⟨_, h1, fun b w' hw => ?_⟩
    obtain ⟨vs', h3, h4⟩ := h2 b w' hw
    refine ⟨.tuple vs'.toArray, hres h4 _ ?_, .tupL h3⟩
    have := h3.1
    rw [dif_neg (by simp at this ⊢; omega)]

/-- A base, and what a range over a function has laid upon it. -/
inductive Ext : Base → Base → Prop
  | refl (b : Base) : Ext b b
  | push {b c : Base} (D : Nat) : Ext b c → D ∉ c.prot → Ext b { c with prot := D :: c.prot, own := D :: c.own }

theorem Ext.trans {a b c : Base} (h : Ext a b) (h' : Ext b c) : Ext a c := by
  induction h' with
  | refl => exact h
  | push D _ hn ih => exact .push D ih hn

/-- The same, but for the blocks that are kept as they are. -/
theorem Sim.base {G : Nat} {b c : Base} (h : Sim G b ι H w) (hb : c.toWorld = b.toWorld) (hp : ∀ x ∈ c.prot, x ∈ b.prot) : Sim G c ι H w := by
  obtain ⟨cw, cp, co⟩ := c
  simp only at hb
  subst hb
  refine ⟨fun id o ho => ?_, h.inj, h.size, h.old, h.dom, h.glob, h.rest, fun x hx => h.prot x (hp x hx), h.views⟩
  have := h.obj id o ho
  cases o <;> exact this

theorem Ext.sim {G : Nat} {b c : Base} (hE : Ext b c) : ∀ {ι : Nat → Option Loc} {H : Heap} {w : World}, Sim G c ι H w → Sim G b ι H w := by
  induction hE with
  | refl => exact fun h => h
  | push D _ hn ih => exact fun h => ih (h.base rfl fun x hx => List.mem_cons_of_mem _ hx)

/-- The blocks of deferred calls are given up, one by one. -/
theorem leavesM {F : Fence} {n : Nat} {fn : Func} {tmps : Array Value} {R : Ending → World → Prop} {b c : Base} (hE : Ext b c) (hb : b.own = []) : ∀ {ι : Nat → Option Loc} {H : Heap} {w : World}, Sim P.globals.size c ι H w →
    (∀ w', Sim P.globals.size b ι H w' → ∃ v, (results fn tmps).run P w' = .ok v w' ∧ R (.returned v) w') → LeavesInM F n P fn tmps R (marks c.own) .returning w := by
  induction hE with
  | refl => 
    intro ι H w h hR
    rw [hb]
    exact hR w h
  | @push c D hc hn ih =>
    intro ι H w h hR
    obtain ⟨p1, p2, p3⟩ := h.prot D (by simp)
    refine ⟨by simp, .inl ⟨D, _, rfl, run_takeDeferred p1, ih (ι := ι) (H := H) ?_ hR⟩⟩
    exact (h.base (c := c) rfl fun x hx => List.mem_cons_of_mem _ hx).put _ p2 hn (fun i o l h1 h2 _ h3 => p3 i o l h1 h2 h3) (fun j cs es nx lj hj hlj hbe => absurd hbe (p3 j _ lj hj (by simp) hlj))

/-- What the code's end leaves: results that read as the machine's. -/
def RetR (rnd : Bool) (P : Program) (w0 : Base) (fn : Func) (ι : Nat → Option Loc) (v : Value) (H : Heap) (a : Act) (w : World) : Prop :=
  Sim P.globals.size w0 ι H w ∧ a.defers = marks w0.own ∧ (rnd = false → ∀ (b : Base) (w' : World), Sim P.globals.size b ι H w' → ∃ v', (results fn a.tmps).run P w' = .ok v' w' ∧ RV ι v v')

theorem iterN_some {body : List Value → M Out} {vs : List Value} {x : Out × Heap} (h : loopM body vs H = some x) : ∃ n, iterN body n vs H = some x := by
  unfold loopM at h
  split at h
  · exact ⟨_, h⟩
  · cases h

theorem jn_some {β : Type} {m : M Out} {kn : List Value → M β} {kx : Nat → List Value → M β} {kr : Value → M β} {x : β × Heap} (h : jn m kn kx kr H = some x) :
    ∃ o H1, m H = some (o, H1) ∧ ((∃ vs, o = .nrm vs ∧ kn vs H1 = some x) ∨ (∃ j vs, o = .ext j vs ∧ kx j vs H1 = some x) ∨ (∃ v, o = .ret v ∧ kr v H1 = some x)) := by
  obtain ⟨o, H1, h1, h2⟩ := bind_some h
  refine ⟨o, H1, h1, ?_⟩
  cases o with
  | nrm vs => exact .inl ⟨vs, rfl, h2⟩
  | ext j vs => exact .inr (.inl ⟨j, vs, rfl, h2⟩)
  | ret v => exact .inr (.inr ⟨v, rfl, h2⟩)

theorem extK_no {β : Type} {c : Code} {kx : Nat → Regs → M β} {j : Nat} {vs : List Value} : ∀ (X : List (Nat × List Nat)), falls.xto j c = false → extK c X kx j vs H = none
  | [], _ => rfl
  | p :: X, hj => by
    simp only [extK]
    cases hp : falls.xto p.1 c with
    | false => exact extK_no X hj
    | true =>
      simp only [cond_true]
      cases e : Nat.beq j p.1 with
      | true =>
        have := Nat.eq_of_beq_eq_true e
        subst this
        rw [hj] at hp; cases hp
      | false => exact extK_no X hj

theorem extK_some {β : Type} {c : Code} {kx : Nat → Regs → M β} {j : Nat} {vs : List Value} {x : β × Heap} : ∀ (X : List (Nat × List Nat)), extK c X kx j vs H = some x → kx j (mk (lkX X j) vs) H = some x
  | [], h => by cases h
  | p :: X, h => by
    simp only [extK] at h
    simp only [lkX]
    cases hp : falls.xto p.1 c with
    | false =>
      rw [hp] at h
      simp only [cond_false] at h
      cases e : Nat.beq p.1 j with
      | true =>
        have := Nat.eq_of_beq_eq_true e
        subst this
        rw [extK_no X hp] at h; cases h
      | false => exact extK_some X h
    | true =>
      rw [hp] at h
      simp only [cond_true] at h
      cases e : Nat.beq j p.1 with
      | true =>
        have := Nat.eq_of_beq_eq_true e
        subst this
        rw [e] at h
        simpa using h
      | false =>
        rw [e] at h
        have e' : Nat.beq p.1 j = false := by
          cases e2 : Nat.beq p.1 j with
          | false => rfl
          | true => have := Nat.eq_of_beq_eq_true e2; subst this; simp at e
        rw [e']
        exact extK_some X h

theorem extR_some {β : Type} {c : Code} {kx : Nat → Regs → M β} {j : Nat} {r : Regs} {x : β × Heap} : ∀ (X : List (Nat × List Nat)), extR c X kx j r H = some x → kx j r H = some x
  | [], h => by cases h
  | p :: X, h => by
    simp only [extR] at h
    cases hp : falls.xto p.1 c with
    | false => rw [hp] at h; exact extR_some X h
    | true =>
      rw [hp] at h
      simp only [cond_true] at h
      cases e : Nat.beq j p.1 with
      | true =>
        have := Nat.eq_of_beq_eq_true e
        subst this
        rw [e] at h
        exact h
      | false =>
        rw [e] at h
        exact extR_some X h

/-- What goes on behind code. -/
structure Goes3 {β : Type} (rnd : Bool) (P : Program) (w0 : Base) (N : Nat) (fn : Func) (ι : Nat → Option Loc) (kn : Regs → M β) (kx : Nat → Regs → M β) (kr : Value → M β) (x : β × Heap) (Q : Exit → Act → World → Prop) : Prop where
  nrm : ∀ b, Ext w0 b → GoesR P b N ι kn x (fun a w => Q .normal a w)
  ext : ∀ b, Ext w0 b → ∀ j, GoesR P b N ι (kx j) x (fun a w => Q (.exit j) a w)
  ret : ∀ b, Ext w0 b → ∀ ι1 v H1 a1 w1, Le ι ι1 → RetR rnd P b fn ι1 v H1 a1 w1 → kr v H1 = some x → Q .ret a1 w1

theorem GoesR.mono {β : Type} {k : Regs → M β} {x : β × Heap} {next : Act → World → Prop} {ι1 : Nat → Option Loc} (h : GoesR P w0 N ι k x next) (hl : Le ι ι1) : GoesR P w0 N ι1 k x next :=
  fun ι2 r2 H2 a2 w2 hle hSt hk => h ι2 r2 H2 a2 w2 (hl.trans hle) hSt hk

theorem Goes3.mono {β : Type} {rnd : Bool} {fn : Func} {kn : Regs → M β} {kx : Nat → Regs → M β} {kr : Value → M β} {x : β × Heap} {Q : Exit → Act → World → Prop} {ι1 : Nat → Option Loc} {b : Base}
    (h : Goes3 rnd P w0 N fn ι kn kx kr x Q) (hb : Ext w0 b) (hl : Le ι ι1) : Goes3 rnd P b N fn ι1 kn kx kr x Q :=
  ⟨fun c hc => (h.nrm c (hb.trans hc)).mono hl, fun c hc j => (h.ext c (hb.trans hc) j).mono hl, fun c hc ι2 v H2 a2 w2 hle hR hk => h.ret c (hb.trans hc) ι2 v H2 a2 w2 (hl.trans hle) hR hk⟩

theorem rangeM_some {β : Type} {ok : FuncId → Bool} {v : Value} {fn : Func} {lv : List (Nat × List Nat)} {p : Nat} {xs : List Nat} {cd : Array Tmp × Code × Code} {regs : Regs} {k : Option Code → M β} {x : β × Heap}
    (h : rangeM ok Γ v fn lv p xs cd regs k H = some x) : ∃ gf first captured u H1, v = .func (.func gf) first captured ∧ gf < yoff ∧ ok gf = true ∧
      Γ gf (first.toList ++ ([.func (.yield H.length) #[] #[]] ++ captured.toList)) (H ++ [.loop fn lv p xs cd regs .ready none]) = some (u, H1) ∧ endLoopM H.length k H1 = some x := by
  cases v with
  | func f first captured =>
    cases f with
    | func gf =>
      simp only [rangeM] at h
      cases hok : Nat.blt gf yoff && ok gf with
      | false => rw [hok] at h; cases h
      | true =>
        rw [hok] at h
        simp only [Bool.and_eq_true] at hok
        simp only [cond_true] at h
        generalize hm : Γ gf (first.toList ++ ([.func (.yield H.length) #[] #[]] ++ captured.toList)) (H ++ [.loop fn lv p xs cd regs .ready none]) = m at h
        cases m with
        | none => cases h
        | some q => exact ⟨gf, first, captured, q.1, q.2, rfl, by simpa using hok.1, hok.2, hm, h⟩
    | _ => cases h
  | _ => cases h

/-- A range over a function: the function is called with yield. -/
theorem rangeM_sound {β : Type} {g : Operand} {ps : Array Tmp} {asg bd : Code} {Q : Exit → Act → World → Prop} {fn : Func} {lv : List (Nat × List Nat)} {p : Nat} {xs : List Nat} {L : List Nat} {k : Option Code → M β} {x : β × Heap}
    (hΓ : ∀ (b : Base) g, SoundF P P.globals.size b g (Γ g)) (hSt : St P.globals.size w0 fn.ntmps ι r H a w) (hg : constsOK P g = true)
    (h : rangeM (callG P) Γ (A.ev r g) fn lv p xs (ps, asg, bd) (A.mk L (A.proj L r)) k H = some x)
    (hk : ∀ pd b ι1 H1 a1 w1, Ext w0 b → Le ι ι1 → St P.globals.size b fn.ntmps ι1 r H1 a1 w1 → k pd H1 = some x → (match pd with | none => Q .normal a1 w1 | some c => c.wpIn (FR none) 0 P Q a1 w1)) :
    (Code.rangeFunc g ps asg bd).wpIn (FR none) 0 P Q a w := by
  have hv := hSt.ev hg
  obtain ⟨gf, first, captured, v, H1, hev, hgy', hcg, hcall, h⟩ := rangeM_some h
  rw [hev] at hv
  obtain ⟨first', captured', hev', hr1, hr2⟩ := hv.fn_inv
  -- the block for deferred calls, and the loop
  refine wpIn_rangeFunc fun fid hfid => ?_
  generalize hD : w.heap.size = D
  have hS1 := hSt.sim.push (.deferred (some []))
  let b1 : Base := { w0 with prot := D :: w0.prot, own := D :: w0.own }
  have hnp : D ∉ w0.prot := by
    intro hm
    have p1 := (hSt.sim.prot D hm).1
    rw [Array.getElem?_eq_none (by omega)] at p1; cases p1
  have hS2 : Sim P.globals.size b1 ι H (pushO w (.deferred (some []))) := by
    refine ⟨fun id o ho => ?_, hS1.inj, hS1.size, hS1.old, hS1.dom, hS1.glob, hS1.rest, fun y hy => ?_, hS1.views⟩
    · have := hS1.obj id o ho
      cases o <;> exact this
    · cases hy with
      | head =>
        refine ⟨by rw [← hD]; exact pushO_new w _, by rw [← hD]; exact hSt.sim.size, fun id o l ho hd hl e => ?_⟩
        obtain ⟨l', hl', hlt⟩ := (hSt.sim.obj id o ho).loc hd
        rw [hl] at hl'; cases hl'
        omega
      | tail _ hy => exact hS1.prot y hy
  let rec0 : Loop := { state := .ready, pending := none, fn := fid, tmps := a.tmps, params := ps, assign := asg, body := bd, defers := D }
  let l0 : Loc := ⟨D + 1, 0, 0, 0, false⟩
  have hsz2 : (pushO w (.deferred (some []))).heap.size = D + 1 := by simp [pushO, hD]
  have hle1 : Le ι (extι ι H.length l0) := le_ext hSt.sim _
  have hS3 : Sim P.globals.size b1 (extι ι H.length l0) (H ++ [.loop fn lv p xs (ps, asg, bd) (A.mk L (A.proj L r)) .ready none]) (pushO (pushO w (.deferred (some []))) (.loop rec0)) := by
    refine hS2.new (.loop rec0) hsz2.symm ⟨l0, fid, a.tmps, D, ext_self _ _ _, ?_, ?_, hSt.size, fun t => ?_⟩
    · have := pushO_new (pushO w (.deferred (some []))) (.loop rec0)
      rw [hsz2] at this
      exact this
    · have := hSt.sim.size
      show w0.heap.size ≤ D + 1
      omega
    · exact ((hSt.proj L).regs t).mono hle1
  have hRV : RVs (extι ι H.length l0) (first.toList ++ ([.func (.yield H.length) #[] #[]] ++ captured.toList)) (first'.toList ++ ([.func (.yield (D + 1)) #[] #[]] ++ captured'.toList)) :=
    (hr1.mono hle1).append ((RVs.cons (.yl (l := l0) (ext_self _ _ _)) .nil).append (hr2.mono hle1))
  unfold callG at hcg
  split at hcg
  case h_2 => cases hcg
  rename_i gfn hgfn
  unfold callable at hcg
  simp only [Bool.and_eq_true] at hcg
  have hname : (gfn.name == "runtime.NumGoroutine") = false := by simpa using hcg.1
  have hbody : gfn.body.isNone = false := by
    have := hcg.2
    cases hb : gfn.body <;> simp_all
  rcases hΓ b1 gf _ _ _ _ hcall with ⟨_, ⟨_, hcalls⟩ | ⟨ex, ⟨fn', hfn', _, hbody', _⟩, _⟩⟩ | ⟨hno, _⟩
  · have hc := hcalls _ _ _ hS3 hRV
    refine ⟨D + 1, marks [D], pushO (pushO w (.deferred (some []))) (.loop rec0), { target := .fn (.func gf) captured', args := first' ++ #[Value.func (.yield (D + 1)) #[] #[]] }, pushO (pushO w (.deferred (some []))) (.loop rec0), gf,
      (first'.toList ++ ([Value.func (.yield (D + 1)) #[] #[]] ++ captured'.toList)).toArray, pushO (pushO w (.deferred (some []))) (.loop rec0), ?_, ?_, fun _ _ => trivial, ?_, (fun h => by cases h), ?_⟩
    · have := run_enterLoop_outer (P := P) (w := w) fid a.tmps ps asg bd
      rw [hD] at this
      exact this
    · simp only [resolve, hev', Deferred.ofValue, Sem.run_bind, Sem.run_pure, Result.andThen_ok]
      simp [Act.eval]
    · simp only [invoke, callFunc, Sem.run_bind, run_program, Result.andThen_ok, hgfn, hname, hbody, Bool.false_eq_true, if_false, Sem.run_pure]
      congr 2
      apply Array.ext'
      simp
    · refine callsIn_FR (hc.mono fun e w' he => ?_)
      obtain ⟨ι1, v', hle, rfl, hv', hs⟩ := he
      unfold endLoopM at h
      split at h
      case h_2 => cases h
      rename_i fn2 lv2 p2 xs2 cd2 regs2 st2 pd2 hget
      obtain ⟨l, rf, tmps2, D2, hl, hheap, hnew, hsz, hregs⟩ := hs.obj _ _ hget
      have hl0 := hle _ _ (ext_self ι H.length l0)
      rw [hl] at hl0
      cases hl0
      have hst : st2 ≠ .busy := by
        rintro rfl
        cases h
      have hk' : k pd2 (H1.set H.length (.loop fn2 lv2 p2 xs2 cd2 regs2 .exhausted pd2)) = some x := by
        cases st2 with
        | busy => exact absurd rfl hst
        | _ => exact h
      refine ⟨pd2, _, run_endLoop hheap hst, ?_⟩
      have hS4 := hs.set (new := .loop fn2 lv2 p2 xs2 cd2 regs2 .exhausted pd2) (o' := .loop { state := .exhausted, pending := pd2, fn := rf, tmps := tmps2, params := cd2.1, assign := cd2.2.1, body := cd2.2.2, defers := D2 }) hget rfl hl rfl
        fun w' hw' => ⟨l0, rf, tmps2, D2, hl, hw', hnew, hsz, hregs⟩
      refine hk pd2 b1 ι1 _ _ _ (.push D (.refl w0) hnp) (hle1.trans hle) ⟨hS4, fun t => (hSt.regs t).mono (hle1.trans hle), hSt.size, ?_⟩ hk'
      show marks [D] ++ a.defers = marks (D :: w0.own)
      rw [hSt.defers]
      rfl
  · rw [hgfn] at hfn'
    cases hfn'
    rw [hbody] at hbody'; cases hbody'
  · exact absurd hgy' (Nat.not_lt_of_le hno)

theorem E_sound {rnd : Bool} (hrd : rnd = false → rd = none) (hm : P.follows .mixedOrders = true) (hΓ : ∀ (b : Base) g, SoundF P P.globals.size b g (Γ g)) (fn : Func) (lv : List (Nat × List Nat)) : ∀ (c : Code) {β : Type} {p : Nat} {X : List (Nat × List Nat)} {r : Regs} {kn : Regs → M β} {kx : Nat → Regs → M β} {kr : Value → M β}
    {w0 : Base} {H : Heap} {x : β × Heap} {ι : Nat → Option Loc} {a : Act} {w : World} {Q : Exit → Act → World → Prop}, St P.globals.size w0 fn.ntmps ι r H a w → E P Γ rnd fn lv c p X r kn kx kr H = some x →
    Goes3 rnd P w0 fn.ntmps fn ι kn kx kr x Q → c.wpIn (FR rd) 0 P Q a w := by
  intro c
  induction c with
  | skip => intro β p X r kn kx kr w0 H x ι a w Q hSt h hG; exact wpIn_skip (hG.nrm w0 (.refl w0) ι r H a w (.refl ι) hSt h)
  | region id ops draw =>
    intro β p X r kn kx kr w0 H x ι a w Q hSt h hG
    simp only [E] at h
    cases hok : opsOK P fn.ntmps ops.toList && guardOK ops.toList with
    | false => rw [hok] at h; cases h
    | true =>
      rw [hok] at h
      simp only [Bool.and_eq_true] at hok
      exact exReg_sound hm (hΓ w0) hok.1 hok.2 hSt h (hG.nrm w0 (.refl w0))
  | seq c d ihc ihd =>
    intro β p X r kn kx kr w0 H x ι a w Q hSt h hG
    simp only [E] at h
    refine wpIn_seq (ihc hSt h ⟨?_, hG.ext, hG.ret⟩)
    intro b hb ι1 r1 H1 a1 w1 hle hSt1 h1
    exact ihd hSt1 h1 (hG.mono hb hle)
  | cond c t e iht ihe =>
    intro β p X r kn kx kr w0 H x ι a w Q hSt h hG
    simp only [E] at h
    cases hcok : constsOK P c with
    | false => rw [hcok] at h; cases h
    | true =>
    rw [hcok] at h
    simp only [Bool.not_true, cond_false] at h
    have hc := hSt.ev hcok
    cases hf : falls t && falls e with
    | false =>
      rw [hf] at h
      simp only [cond_false] at h
      unfold cnd at h
      generalize A.ev r c = g at h hc
      cases g with
      | bool b =>
        refine wpIn_cond hc.bool_inv ?_
        cases b
        · exact ihe hSt h hG
        · exact iht hSt h hG
      | _ => cases h
    | true =>
      rw [hf] at h
      simp only [cond_true] at h
      obtain ⟨o, H1, h1, h2⟩ := jn_some h
      have hG2 : Goes3 rnd P w0 fn.ntmps fn ι (fun r' => ret (Out.nrm (A.proj (lkX lv p) r'))) (fun j r' => ret (Out.ext j (A.proj (lkX X j) r'))) (fun v => ret (Out.ret v)) (o, H1) Q := by
        refine ⟨?_, ?_, ?_⟩
        · intro b hb ι1 r1 H2 a1 w1 hle hSt1 hk
          cases hk
          rcases h2 with ⟨vs, he, hk⟩ | ⟨j, vs, he, hk⟩ | ⟨v, he, hk⟩ <;> cases he
          exact hG.nrm b hb ι1 _ H1 a1 w1 hle (hSt1.proj _) hk
        · intro b hb j ι1 r1 H2 a1 w1 hle hSt1 hk
          cases hk
          rcases h2 with ⟨vs, he, hk⟩ | ⟨j, vs, he, hk⟩ | ⟨v, he, hk⟩ <;> cases he
          exact hG.ext b hb _ ι1 _ H1 a1 w1 hle (hSt1.proj _) (extK_some _ hk)
        · intro b hb ι1 v H2 a1 w1 hle hR hk
          cases hk
          rcases h2 with ⟨vs, he, hk⟩ | ⟨j, vs, he, hk⟩ | ⟨v, he, hk⟩ <;> cases he
          exact hG.ret b hb ι1 _ H1 a1 w1 hle hR hk
      unfold cnd at h1
      generalize A.ev r c = g at h1 hc
      cases g with
      | bool b =>
        refine wpIn_cond hc.bool_inv ?_
        cases b
        · exact ihe hSt h1 hG2
        · exact iht hSt h1 hG2
      | _ => cases h1
  | block id c ih =>
    intro β p X r kn kx kr w0 H x ι a w Q hSt h hG
    simp only [E] at h
    refine wpIn_block ?_
    cases hb : Nat.ble (xcount id c + (bif falls c then 1 else 0)) 1 with
    | true =>
      rw [hb] at h
      simp only [cond_true] at h
      refine ih hSt h ⟨hG.nrm, ?_, hG.ret⟩
      intro b hb j ι1 r1 H1 a1 w1 hle hSt1 hk
      simp only [Exit.inBlock]
      cases hj : Nat.beq j id with
      | true =>
        rw [hj] at hk
        rw [if_pos (Nat.eq_of_beq_eq_true hj)]
        exact hG.nrm b hb ι1 r1 H1 a1 w1 hle hSt1 hk
      | false =>
        rw [hj] at hk
        rw [if_neg (fun e => by subst e; simp at hj)]
        exact hG.ext b hb j ι1 r1 H1 a1 w1 hle hSt1 hk
    | false =>
      rw [hb] at h
      simp only [cond_false] at h
      obtain ⟨o, H1, h1, h2⟩ := jn_some h
      refine ih hSt h1 ⟨?_, ?_, ?_⟩
      · intro b hb ι1 r1 H2 a1 w1 hle hSt1 hk
        cases hk
        rcases h2 with ⟨vs, he, hk⟩ | ⟨j, vs, he, hk⟩ | ⟨v, he, hk⟩ <;> cases he
        exact hG.nrm b hb ι1 _ H1 a1 w1 hle (hSt1.proj _) hk
      · intro b hb j ι1 r1 H2 a1 w1 hle hSt1 hk
        simp only [Exit.inBlock]
        cases hj : Nat.beq j id with
        | true =>
          rw [hj] at hk
          rw [if_pos (Nat.eq_of_beq_eq_true hj)]
          cases hk
          rcases h2 with ⟨vs, he, hk⟩ | ⟨j, vs, he, hk⟩ | ⟨v, he, hk⟩ <;> cases he
          exact hG.nrm b hb ι1 _ H1 a1 w1 hle (hSt1.proj _) hk
        | false =>
          rw [hj] at hk
          rw [if_neg (fun e => by subst e; simp at hj)]
          cases hk
          rcases h2 with ⟨vs, he, hk⟩ | ⟨j, vs, he, hk⟩ | ⟨v, he, hk⟩ <;> cases he
          exact hG.ext b hb _ ι1 _ H1 a1 w1 hle (hSt1.proj _) (extK_some _ hk)
      · intro b hb ι1 v H2 a1 w1 hle hR hk
        cases hk
        rcases h2 with ⟨vs, he, hk⟩ | ⟨j, vs, he, hk⟩ | ⟨v, he, hk⟩ <;> cases he
        exact hG.ret b hb ι1 _ H1 a1 w1 hle hR hk
  | loop c ih =>
    intro β p X r kn kx kr w0 H x ι a w Q hSt h hG
    simp only [E] at h
    obtain ⟨o, H1, h1, h2⟩ := jn_some h
    obtain ⟨n, hn⟩ := iterN_some h1
    refine wpIn_loop_rounds n ?_
    have key : ∀ (n : Nat) {b : Base} {r : Regs} {H : Heap} {ι1 : Nat → Option Loc} {a : Act} {w : World}, Ext w0 b → Le ι ι1 → St P.globals.size b fn.ntmps ι1 r H a w →
        iterN (fun vs => E P Γ rnd fn lv c (2 * p) X (A.mk (lkX lv p) vs) (fun r' => ret (Out.nrm (A.proj (lkX lv p) r'))) (fun j r' => ret (Out.ext j (A.proj (lkX X j) r'))) (fun v => ret (Out.ret v))) n (A.proj (lkX lv p) r) H = some (o, H1) →
        Code.roundsIn (FR rd) 0 P c Q n a w := by
      intro n
      induction n with
      | zero => intro b r H ι1 a w _ _ _ h; cases h
      | succ n ihn =>
        intro b r H ι1 a w hb hle hSt1 hit
        simp only [iterN] at hit
        split at hit
        · cases hit
        · rename_i vs' H' he
          refine ih (hSt1.proj _) he ⟨?_, ?_, ?_⟩
          · intro b2 hb2 ι2 r2 H2 a2 w2 hle2 hSt2 hk
            cases hk
            exact ihn (hb.trans hb2) (hle.trans hle2) hSt2 hit
          · intro b2 hb2 j ι2 r2 H2 a2 w2 hle2 hSt2 hk
            cases hk
          · intro b2 hb2 ι2 v H2 a2 w2 hle2 hR hk
            cases hk
        · rename_i o' H' hno he
          cases hit
          refine ih (hSt1.proj _) he ⟨?_, ?_, ?_⟩
          · intro b2 hb2 ι2 r2 H2 a2 w2 hle2 hSt2 hk
            cases hk
            exact (hno _ rfl).elim
          · intro b2 hb2 j ι2 r2 H2 a2 w2 hle2 hSt2 hk
            cases hk
            rcases h2 with ⟨vs, he, hk⟩ | ⟨j, vs, he, hk⟩ | ⟨v, he, hk⟩ <;> cases he
            exact hG.ext b2 (hb.trans hb2) _ ι2 _ H1 a2 w2 (hle.trans hle2) (hSt2.proj _) (extK_some _ hk)
          · intro b2 hb2 ι2 v H2 a2 w2 hle2 hR hk
            cases hk
            rcases h2 with ⟨vs, he, hk⟩ | ⟨j, vs, he, hk⟩ | ⟨v, he, hk⟩ <;> cases he
            exact hG.ret b2 (hb.trans hb2) ι2 _ H1 a2 w2 (hle.trans hle2) hR hk
    exact key n (.refl w0) (.refl ι) hSt hn
  | exit id => intro β p X r kn kx kr w0 H x ι a w Q hSt h hG; exact wpIn_exit (hG.ext w0 (.refl w0) id ι r H a w (.refl ι) hSt h)
  | ret =>
    intro β p X r kn kx kr w0 H x ι a w Q hSt h hG
    simp only [E] at h
    cases rnd with
    | true => exact wpIn_ret (hG.ret w0 (.refl w0) ι _ H a w (.refl ι) ⟨hSt.sim, hSt.defers, fun h => by cases h⟩ h)
    | false =>
      obtain ⟨v, h1, h2⟩ := retM_sound hSt h
      exact wpIn_ret (hG.ret w0 (.refl w0) ι v H a w (.refl ι) ⟨hSt.sim, hSt.defers, fun _ => h2⟩ h1)
  | rangeFunc g ps asg bd _ _ =>
    intro β p X r kn kx kr w0 H x ι a w Q hSt h hG
    simp only [E] at h
    cases hc : rnd || !constsOK P g with
    | true => rw [hc] at h; cases h
    | false =>
      rw [hc] at h
      simp only [Bool.or_eq_false_iff, Bool.not_eq_false'] at hc
      obtain ⟨rfl, hg⟩ := hc
      obtain rfl := hrd rfl
      simp only [cond_false] at h
      refine rangeM_sound hΓ hSt hg h fun pd b ι1 H1 a1 w1 hb hle hSt1 hk => ?_
      cases pd with
      | none => exact hG.nrm b hb ι1 r H1 a1 w1 hle hSt1 hk
      | some c =>
        cases c with
        | exit j => exact wpIn_exit (hG.ext b hb j ι1 r H1 a1 w1 hle hSt1 (extR_some _ hk))
        | ret =>
          obtain ⟨v, h1, h2⟩ := retM_sound hSt1 hk
          exact wpIn_ret (hG.ret b hb ι1 v H1 a1 w1 hle ⟨hSt1.sim, hSt1.defers, fun _ => h2⟩ h1)
        | _ => cases hk
  | _ => intro β p X r kn kx kr w0 H x ι a w Q hSt h hG; cases h

theorem rget_number : ∀ (vs : List Value) (i t : Nat), rget (number i vs) t = if i ≤ t ∧ t < i + vs.length then vs.getD (t - i) undef else undef
  | [], i, t => by simp [number, rget]
  | v :: vs, i, t => by
    simp only [number, rget]
    cases e : Nat.beq i t with
    | true =>
      have := Nat.eq_of_beq_eq_true e
      subst this
      simp
    | false =>
      have hne : i ≠ t := fun h => by subst h; simp at e
      rw [cond_false, rget_number vs (i + 1) t]
      by_cases h1 : i + 1 ≤ t ∧ t < i + 1 + vs.length
      · rw [if_pos h1, if_pos (by simp; omega)]
        have : t - i = (t - (i + 1)) + 1 := by omega
        rw [this]; simp
      · rw [if_neg h1, if_neg (by simp; omega)]

theorem runF_sound (hm : P.follows .mixedOrders = true) (hΓ : ∀ (b : Base) g, SoundF P P.globals.size b g (Γ g)) {g : FuncId} {fn : Func} {lv : List (Nat × List Nat)} (hfn : P.funcs[g]? = some fn) (hcall : callable fn = true)
    {args : List Value} {H H1 : Heap} {v : Value} (h : runF P Γ fn lv args H = some (v, H1)) : SoundC P P.globals.size w0 g v args H H1 := by
  unfold runF at h
  cases hb : fn.body with
  | none => rw [hb] at h; cases h
  | some c =>
    rw [hb] at h
    simp only at h
    cases hle : Nat.ble args.length fn.ntmps with
    | false => rw [hle] at h; cases h
    | true =>
      rw [hle] at h
      simp only [cond_true] at h
      have hlen := Nat.le_of_ble_eq_true hle
      have hcl : callableF P g := by
        refine ⟨fn, hfn, ?_, by simp [hb]⟩
        unfold callable at hcall
        simp only [Bool.and_eq_true] at hcall
        simpa using hcall.1
      refine ⟨hcl, fun ι w args' hS hr => callsIn_wide.1 (callsIn_of_wp_marks (F := Fence.wide) (n := 0) hfn hb trivial ?_)⟩
      have hsz : args'.toArray.size = args.length := by have := hr.1; simp; omega
      have hret : ∀ b, Ext { w0 with own := [] } b → ∀ ι1 v' H2 a1 w1, Le ι ι1 → RetR false P b fn ι1 v' H2 a1 w1 → v' = v → H2 = H1 →
          LeavesInM Fence.wide 0 P fn a1.tmps (fun e w' => ∃ ι1 v', Le ι ι1 ∧ e = .returned v' ∧ RV ι1 v v' ∧ Sim P.globals.size w0 ι1 H1 w') a1.defers .returning w1 := by
        rintro b hb ι1 v' H2 a1 w1 hle1 ⟨hs, hd, hres⟩ rfl rfl
        rw [hd]
        refine leavesM hb rfl hs fun w' hw' => ?_
        obtain ⟨v2, h2, hv2⟩ := hres rfl _ w' hw'
        exact ⟨v2, h2, ι1, v2, hle1, rfl, hv2, hw'.base rfl fun x hx => hx⟩
      refine E_sound (rnd := false) (rd := none) (fun _ => rfl) hm hΓ fn lv c (ι := ι) (w0 := { w0 with own := [] }) ?_ h ⟨?_, ?_, ?_⟩
      · refine ⟨hS.base rfl fun x hx => hx, fun t => ?_, by simp at hsz ⊢; omega, rfl⟩
        rw [rget_number]
        split
        · rename_i ht
          have h1 := hr.2 t (by omega)
          have ht' : t < args'.length := by have := hr.1; omega
          simp only [Nat.sub_zero]
          simpa [Array.getElem?_append, ht', List.getD_eq_getElem?_getD] using h1
        · exact .un
      · intro b hb ι1 r1 H2 a1 w1 hle1 hSt1 hk
        obtain ⟨v', h1, hres⟩ := retM_sound hSt1 hk
        cases h1
        exact hret b hb ι1 _ _ a1 w1 hle1 ⟨hSt1.sim, hSt1.defers, fun _ => hres⟩ rfl rfl
      · intro b hb j ι1 r1 H2 a1 w1 hle1 hSt1 hk; cases hk
      · intro b hb ι1 v' H2 a1 w1 hle1 hR hk
        cases hk
        exact hret b hb ι1 _ _ a1 w1 hle1 hR rfl rfl

theorem putPs_sound {N : Nat} : ∀ {ps : List Nat} {vs vs' : List Value} {r : Regs} {T : Array Value}, RVs ι vs vs' → (∀ t ∈ ps, t < N) → T.size = N → (∀ t, RV ι (rget r t) (T.getD t undef)) →
    ((ps.zip vs').foldl (fun tmps (t, a) => tmps.setIfInBounds t a) T).size = N ∧ ∀ t, RV ι (rget (putPs ps vs r) t) (((ps.zip vs').foldl (fun tmps (t, a) => tmps.setIfInBounds t a) T).getD t undef)
  | [], vs, vs', r, T, _, _, hT, hr => ⟨hT, hr⟩
  | p :: ps, [], vs', r, T, hv, _, hT, hr => by
    have := hv.nil_inv; subst this
    exact ⟨hT, hr⟩
  | p :: ps, v :: vs, vs', r, T, hv, hp, hT, hr => by
    obtain ⟨v', b', rfl, hv1, hv2⟩ := hv.cons_inv
    refine putPs_sound (ps := ps) (r := (p, v) :: r) (T := T.setIfInBounds p v') hv2 (fun t ht => hp t (by simp [ht])) (by simpa using hT) fun t => ?_
    simp only [rget]
    by_cases e : p = t
    · subst e
      have := hp p (by simp)
      simpa [hT, this] using hv1
    · have e1 : Nat.beq p t = false := by
        cases h : Nat.beq p t with
        | false => rfl
        | true => exact absurd (Nat.eq_of_beq_eq_true h) e
      have := hr t
      simpa [e1, Array.getElem?_setIfInBounds_ne e] using this

theorem zip_toArray_foldl {ps : Array Tmp} {vs : List Value} {T : Array Value} : (ps.zip vs.toArray).foldl (fun tmps (x : Tmp × Value) => tmps.setIfInBounds x.1 x.2) T = (ps.toList.zip vs).foldl (fun tmps (x : Tmp × Value) => tmps.setIfInBounds x.1 x.2) T := by
  rw [← Array.foldl_toList]
  simp

theorem roundF_sound (hm : P.follows .mixedOrders = true) (hΓ : ∀ (b : Base) g, SoundF P P.globals.size b g (Γ g)) {L : Nat} {args : List Value} {H H1 : Heap} {v : Value} (h : roundF P Γ L args H = some (v, H1)) : SoundY P P.globals.size w0 L v args H H1 := by
  unfold roundF at h
  split at h
  case h_2 => cases h
  rename_i fn lv p xs cd regs pd hget
  obtain ⟨ps, asg, bd⟩ := cd
  simp only at h
  cases hok : Nat.beq args.length ps.size && ps.toList.all (fun t => Nat.blt t fn.ntmps) with
  | false => rw [hok] at h; cases h
  | true =>
  rw [hok] at h
  simp only [Bool.and_eq_true, List.all_eq_true] at hok
  obtain ⟨hlen, hps⟩ := hok
  have hlen := Nat.eq_of_beq_eq_true hlen
  simp only [cond_true] at h
  intro ι w args' l hl hS hr
  obtain ⟨l', rf, tmps, D, hl', hheap, hnew, hsz, hregs⟩ := hS.obj _ _ hget
  rw [hl] at hl'; cases hl'
  have hlen' : args'.length = ps.size := by rw [← hr.1]; exact hlen
  have hy := run_yield (P := P) (args := args'.toArray) hheap (by simpa using hlen')
  refine ⟨_, _, _, _, hy, ?_⟩
  simp only
  rw [zip_toArray_foldl]
  obtain ⟨hsz2, hregs2⟩ := putPs_sound (ps := ps.toList) (r := regs) hr (fun t ht => by simpa using hps t ht) hsz hregs
  have endS : ∀ (jump : Option Code) {b : Base} {ι1 : Nat → Option Loc} {H2 : Heap} {w2 : World}, Ext { w0 with own := [] } b → Le ι ι1 → Sim P.globals.size b ι1 H2 w2 → endR L jump H2 = some (v, H1) →
      ∃ u w', (Instr.endRound l.blk jump).run P w2 = .ok u w' ∧ ∃ ι1 v', Le ι ι1 ∧ Ending.returned u = .returned v' ∧ RV ι1 v v' ∧ Sim P.globals.size w0 ι1 H1 w' := by
    intro jump b ι1 H2 w2 hb hle hs he
    unfold endR at he
    split at he
    case h_2 => cases he
    rename_i fn2 lv2 p2 xs2 cd2 regs2 st2 pd2 hget2
    cases he
    obtain ⟨l2, rf2, tmps2, D2, hl2, hheap2, hnew2, hsz2, hregs2⟩ := hs.obj _ _ hget2
    rw [hle _ _ hl] at hl2; cases hl2
    have hS4 := hs.set (new := .loop fn2 lv2 p2 xs2 cd2 regs2 (if jump.isNone then .ready else .done) jump) (o' := .loop { state := if jump.isNone then .ready else .done, pending := jump, fn := rf2, tmps := tmps2, params := cd2.1, assign := cd2.2.1, body := cd2.2.2, defers := D2 }) hget2 rfl (hle _ _ hl) rfl
      fun w' hw' => ⟨l, rf2, tmps2, D2, hle _ _ hl, hw', hnew2, hsz2, hregs2⟩
    exact ⟨_, _, run_endRound jump hheap2, ι1, _, hle, rfl, .sc rfl, (hb.sim hS4).base rfl fun x hx => hx⟩
  refine roundIn_of_wpIn trivial ?_
  refine E_sound (rnd := true) (rd := some l.blk) (fun h => by cases h) hm hΓ fn lv asg (ι := ι) (w0 := { w0 with own := [] }) ⟨hS.base rfl fun x hx => hx, hregs2, hsz2, rfl⟩ h ⟨?_, ?_, ?_⟩
  · intro b hb ι1 r1 H2 a1 w1 hle hSt1 hk
    simp only [Exit.then]
    simp only [begM] at hk
    split at hk
    case h_2 => cases hk
    rename_i fn2 lv2 p2 xs2 cd2 regs2 pd2 hget2
    obtain ⟨l2, rf2, tmps2, D2, hl2, hheap2, hnew2, hsz2, hregs2⟩ := hSt1.sim.obj _ _ hget2
    rw [hle _ _ hl] at hl2; cases hl2
    have hS4 := hSt1.sim.set (new := .loop fn2 lv2 p2 xs2 cd2 regs2 .busy pd2) (o' := .loop { state := .busy, pending := pd2, fn := rf2, tmps := tmps2, params := cd2.1, assign := cd2.2.1, body := cd2.2.2, defers := D2 }) hget2 rfl (hle _ _ hl) rfl
      fun w' hw' => ⟨l, rf2, tmps2, D2, hle _ _ hl, hw', hnew2, hsz2, hregs2⟩
    refine ⟨_, run_beginRound hheap2 rfl, ?_⟩
    refine E_sound (rnd := true) (rd := some l.blk) (fun h => by cases h) hm hΓ fn lv bd (ι := ι1) (w0 := b) ⟨hS4, hSt1.regs, hSt1.size, hSt1.defers⟩ hk ⟨?_, ?_, ?_⟩
    · intro c hc ι2 r2 H3 a2 w2 hle2 hSt2 hk2
      exact endS none (hb.trans hc) (hle.trans hle2) hSt2.sim hk2
    · intro c hc j ι2 r2 H3 a2 w2 hle2 hSt2 hk2
      exact endS (some (.exit j)) (hb.trans hc) (hle.trans hle2) hSt2.sim hk2
    · intro c hc ι2 v2 H3 a2 w2 hle2 hR hk2
      exact endS (some .ret) (hb.trans hc) (hle.trans hle2) hR.1 hk2
  · intro b hb j ι1 r1 H2 a1 w1 hle1 hSt1 hk; cases hk
  · intro b hb ι1 v' H2 a1 w1 hle1 hR hk; cases hk

def SoundP (P : Program) (G : Nat) (w0 : Base) (g : FuncId) (m : List Value → M Value) : Prop :=
  ∀ args H v H1, m args H = some (v, H1) → SoundC P G w0 g v args H H1 ∨ SoundX P G w0 g v args H H1

theorem run_sound (hm : P.follows .mixedOrders = true) {prim : FuncId → Option (List Value → M Value)} {lvs : FuncId → List (Nat × List Nat)} (hprim : ∀ (b : Base) g m, prim g = some m → SoundP P P.globals.size b g m) : ∀ (n : Nat) (w0 : Base) (g : FuncId), SoundF P P.globals.size w0 g (run P prim lvs n g)
  | 0, w0, g => by intro args H v H1 h; cases h
  | n + 1, w0, g => by
    intro args H v H1 h
    simp only [run] at h
    cases hy : Nat.blt g yoff with
    | false =>
      rw [hy] at h
      exact .inr ⟨Nat.le_of_not_lt fun hlt => (by rw [show Nat.blt g yoff = true by simpa using hlt] at hy; cases hy), roundF_sound hm (run_sound hm hprim n) h⟩
    | true =>
    rw [hy] at h
    simp only [cond_true] at h
    refine .inl ⟨by simpa using hy, ?_⟩
    cases hp : prim g with
    | some m => rw [hp] at h; exact hprim w0 g m hp args H v H1 h
    | none =>
      rw [hp] at h
      simp only at h
      cases hf : P.funcs[g]? with
      | none => rw [hf] at h; cases h
      | some fn =>
        rw [hf] at h
        simp only at h
        cases hc : callable fn with
        | false => rw [hc] at h; cases h
        | true =>
          rw [hc] at h
          exact .inl (runF_sound hm (run_sound hm hprim n) hf hc h)

end
end Go.Proofs.YtlpibiaokpbhbaaGreatDoor.A
