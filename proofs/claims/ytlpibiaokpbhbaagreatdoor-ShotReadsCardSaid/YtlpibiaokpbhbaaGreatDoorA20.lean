/- Rules for reading functions: calls, loops. -/
import Derived.Test.YtlpibiaokpbhbaaGreatDoorA19
namespace Go.Proofs.YtlpibiaokpbhbaaGreatDoor.A
set_option linter.unusedVariables false
set_option linter.unusedSimpArgs false

theorem run_fn {P : Program} {prim : FuncId → Option (List Value → M Value)} {lvs : FuncId → List (Nat × List Nat)} {g : FuncId} {fn : Func} {lv : List (Nat × List Nat)} {n : Nat} {args : List Value} (hp : prim g = none) (hl : lvs g = lv) (hf : P.funcs[g]? = some fn) (hc : callable fn = true) (hy : Nat.blt g yoff = true := by rfl) :
    run P prim lvs (n + 1) g args = runF P (run P prim lvs n) fn lv args := by
  simp only [run, hp, hf, hc, hy, cond_true, hl]

/-- A round. -/
theorem run_round {P : Program} {prim : FuncId → Option (List Value → M Value)} {lvs : FuncId → List (Nat × List Nat)} {n L : Nat} {args : List Value} : run P prim lvs (n + 1) (yoff + L) args = roundF P (run P prim lvs n) L args := by
  have h : Nat.blt (yoff + L) yoff = false := by
    cases h : Nat.blt (yoff + L) yoff with
    | false => rfl
    | true => exact absurd (by simpa using h : yoff + L < yoff) (Nat.not_lt_of_le (Nat.le_add_right _ _))
  simp only [run, h, cond_false, Nat.add_sub_cancel_left]

theorem begM_at {β : Type} {L : Nat} {m : M β} {H : Heap} {fn : Func} {lv : List (Nat × List Nat)} {p : Nat} {xs : List Nat} {cd : Array Tmp × Code × Code} {regs : List (Nat × Value)} {pd : Option Code}
    (h : H[L]? = some (.loop fn lv p xs cd regs .ready pd)) : begM L m H = m (H.set L (.loop fn lv p xs cd regs .busy pd)) := by
  simp only [begM, h]

theorem endR_at {L : Nat} {j : Option Code} {H : Heap} {fn : Func} {lv : List (Nat × List Nat)} {p : Nat} {xs : List Nat} {cd : Array Tmp × Code × Code} {regs : List (Nat × Value)} {st : LoopState} {pd : Option Code}
    (h : H[L]? = some (.loop fn lv p xs cd regs st pd)) : endR L j H = some (.bool j.isNone, H.set L (.loop fn lv p xs cd regs (if j.isNone then .ready else .done) j)) := by
  simp only [endR, h]

theorem endLoopM_at {β : Type} {L : Nat} {k : Option Code → M β} {H : Heap} {fn : Func} {lv : List (Nat × List Nat)} {p : Nat} {xs : List Nat} {cd : Array Tmp × Code × Code} {regs : List (Nat × Value)} {st : LoopState} {pd : Option Code}
    (h : H[L]? = some (.loop fn lv p xs cd regs st pd)) (hs : st ≠ .busy) : endLoopM L k H = k pd (H.set L (.loop fn lv p xs cd regs .exhausted pd)) := by
  unfold endLoopM
  rw [h]
  cases st <;> first | rfl | exact absurd rfl hs

theorem rangeM_at {β : Type} {ok : FuncId → Bool} {Γ : Funs} {g : FuncId} {first captured : Array Value} {fn : Func} {lv : List (Nat × List Nat)} {p : Nat} {xs : List Nat} {cd : Array Tmp × Code × Code} {regs : List (Nat × Value)} {k : Option Code → M β} {H H1 : Heap} {u : Value}
    (hg : Nat.blt g yoff = true) (ho : ok g = true) (h : Γ g (first.toList ++ ([.func (.yield H.length) #[] #[]] ++ captured.toList)) (H ++ [.loop fn lv p xs cd regs .ready none]) = some (u, H1)) :
    rangeM ok Γ (.func (.func g) first captured) fn lv p xs cd regs k H = endLoopM H.length k H1 := by
  simp only [rangeM, hg, ho, Bool.and_self, cond_true, h]

theorem iterN_mono {body : List Value → M Out} {x : Out × Heap} : ∀ {n m : Nat} {vs : List Value} {H : Heap}, iterN body n vs H = some x → n ≤ m → iterN body m vs H = some x
  | 0, _, _, _, h, _ => by cases h
  | n + 1, 0, _, _, _, hm => by omega
  | n + 1, m + 1, vs, H, h, hm => by
    simp only [iterN] at h ⊢
    cases hb : body vs H with
    | none => rw [hb] at h; cases h
    | some q =>
      obtain ⟨o, H'⟩ := q
      rw [hb] at h
      cases o with
      | nrm vs' => exact iterN_mono h (by omega)
      | ext j vs' => exact h
      | ret v => exact h

theorem loopM_iff {body : List Value → M Out} {vs : List Value} {H : Heap} {x : Out × Heap} : loopM body vs H = some x ↔ ∃ n, iterN body n vs H = some x := by
  constructor
  · exact iterN_some
  · rintro ⟨n, hn⟩
    have hex : ∃ n, (iterN body n vs H).isSome := ⟨n, by rw [hn]; rfl⟩
    unfold loopM
    rw [dif_pos hex]
    have hc := Classical.choose_spec hex
    obtain ⟨y, hy⟩ := Option.isSome_iff_exists.1 hc
    rw [hy]
    have h1 := iterN_mono hn (Nat.le_max_left n (Classical.choose hex))
    have h2 := iterN_mono hy (Nat.le_max_right n (Classical.choose hex))
    rw [h1] at h2; exact h2.symm

/-- One round of a loop. -/
theorem loopM_eq (body : List Value → M Out) (vs : List Value) (H : Heap) : loopM body vs H =
    match body vs H with
    | none => none
    | some (.nrm vs', H') => loopM body vs' H'
    | some (o, H') => some (o, H') := by
  apply Option.ext
  intro x
  rw [show (loopM body vs H = some x) = (∃ n, iterN body n vs H = some x) from propext loopM_iff]
  constructor
  · rintro ⟨n, hn⟩
    cases n with
    | zero => cases hn
    | succ n =>
      simp only [iterN] at hn
      cases hb : body vs H with
      | none => rw [hb] at hn; cases hn
      | some q =>
        obtain ⟨o, H'⟩ := q
        rw [hb] at hn
        cases o with
        | nrm vs' => exact loopM_iff.2 ⟨n, hn⟩
        | ext j vs' => exact hn
        | ret v => exact hn
  · intro h
    cases hb : body vs H with
    | none => rw [hb] at h; cases h
    | some q =>
      obtain ⟨o, H'⟩ := q
      rw [hb] at h
      cases o with
      | nrm vs' =>
        obtain ⟨n, hn⟩ := loopM_iff.1 h
        exact ⟨n + 1, by simp only [iterN, hb]; exact hn⟩
      | ext j vs' => exact ⟨1, by simp only [iterN, hb]; exact h⟩
      | ret v => exact ⟨1, by simp only [iterN, hb]; exact h⟩

theorem bind_eq {α β : Type} {m : M α} {k : α → M β} {H H' : Heap} {a : α} (h : m H = some (a, H')) : bind m k H = k a H' := by
  simp only [bind, h]

theorem loop_next {body : List Value → M Out} {vs vs' : List Value} {H H' : Heap} (h : body vs H = some (.nrm vs', H')) : loopM body vs H = loopM body vs' H' := by
  rw [loopM_eq, h]

theorem loop_ext {body : List Value → M Out} {vs vs' : List Value} {j : Nat} {H H' : Heap} (h : body vs H = some (.ext j vs', H')) : loopM body vs H = some (.ext j vs', H') := by
  rw [loopM_eq, h]

theorem loop_ret {body : List Value → M Out} {vs : List Value} {v : Value} {H H' : Heap} (h : body vs H = some (.ret v, H')) : loopM body vs H = some (.ret v, H') := by
  rw [loopM_eq, h]

theorem same_self {β : Type} (v : Value) (m : M β) : same v v m = m := by
  funext H; simp [same]

theorem jn_nrm {β : Type} {m : M Out} {kn : List Value → M β} {kx : Nat → List Value → M β} {kr : Value → M β} {H H' : Heap} {vs : List Value} (h : m H = some (.nrm vs, H')) : jn m kn kx kr H = kn vs H' := by
  simp only [jn, bind, h]
theorem jn_ext {β : Type} {m : M Out} {kn : List Value → M β} {kx : Nat → List Value → M β} {kr : Value → M β} {H H' : Heap} {j : Nat} {vs : List Value} (h : m H = some (.ext j vs, H')) : jn m kn kx kr H = kx j vs H' := by
  simp only [jn, bind, h]
theorem jn_ret {β : Type} {m : M Out} {kn : List Value → M β} {kx : Nat → List Value → M β} {kr : Value → M β} {H H' : Heap} {v : Value} (h : m H = some (.ret v, H')) : jn m kn kx kr H = kr v H' := by
  simp only [jn, bind, h]

end Go.Proofs.YtlpibiaokpbhbaaGreatDoor.A
