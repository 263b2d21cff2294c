/- Functions of package sync/atomic, for which the model stands in: where the abstract machine goes on, the model goes on alike. -/
import Derived.Test.YtlpibiaokpbhbaaGreatDoorA22
import Derived.Laws.LoneSync
namespace Go.Proofs.YtlpibiaokpbhbaaGreatDoor.A
set_option linter.unusedVariables false
set_option linter.unusedSimpArgs false

def atLoad (k : IntKind) (args : List Value) : M Value := fun H =>
  match args with
  | [p] => match ld1 p H with
    | some (.int k' n, _) => if k' = k then some (.int k n, H) else none
    | _ => none
  | _ => none

def atStore (args : List Value) : M Value := fun H =>
  match args with
  | [p, .int k n] => match st1 p (.int k n) H with
    | some (_, H1) => some (.tuple #[], H1)
    | none => none
  | _ => none

def atAdd (k : IntKind) (args : List Value) : M Value := fun H =>
  match args with
  | [p, .int _ y] => match ld1 p H with
    | some (.int k' n, _) => if k' = k then (match st1 p (.int k (k.wrap (n + y))) H with
      | some (_, H1) => some (.int k (k.wrap (n + y)), H1)
      | none => none) else none
    | _ => none
  | _ => none

def atCas (k : IntKind) (args : List Value) : M Value := fun H =>
  match args with
  | [p, .int _ o, .int k2 y] => match ld1 p H with
    | some (.int k' n, _) => if k' = k then (match st1 p (.int k2 y) H with
      | some (_, H1) => if n = o then some (.bool true, H1) else some (.bool false, H)
      | none => none) else none
    | _ => none
  | _ => none

section
variable {P : Program} {G : Nat} {w0 : Base} {ι : Nat → Option Loc} {H H1 : Heap} {w : World} {v : Value}

theorem ld1_cell (hS : Sim G w0 ι H w) {x x' : Value} {k : IntKind} {n : Int} (hx : RV ι x x') (h : ld1 x H = some (.int k n, H1)) :
    ∃ a, x' = .pointer (some a) ∧ w.cell? a = some (.int k n) := by
  unfold ld1 at h
  split at h
  · split at h
    · rename_i id o _ cs es g ro hid
      simp only [Option.map_eq_some_iff, Prod.mk.injEq] at h
      obtain ⟨u, hu, rfl, rfl⟩ := h
      obtain ⟨l, hl, rfl⟩ := hx.ptr_inv
      obtain ⟨c, el, fr, _, _, hb, _, _, hr, _⟩ := hS.cellsR hid hl
      have ho : o < cs.length := by
        rcases Nat.lt_or_ge o cs.length with h | h
        · exact h
        · rw [List.getElem?_eq_none h] at hu; cases hu
      obtain ⟨u', hu', hru⟩ := hr.at ho
      have : cs.getD o undef = .int k n := by simp [List.getD_eq_getElem?_getD, hu]
      rw [this] at hru
      exact ⟨_, rfl, by rw [cellW hb, hu', hru.int_inv]⟩
    · rename_i id o _ cs es nx hid
      split at h
      · rename_i ds es2 g2 hnx
        cases hh : headsL cs ds with
        | false => rw [hh] at h; cases h
        | true =>
          rw [hh] at h
          simp only [cond_true, Option.map_eq_some_iff, Prod.mk.injEq] at h
          obtain ⟨u, hu, rfl, rfl⟩ := h
          obtain ⟨l, hl, rfl⟩ := hx.ptr_inv
          have ho : o < cs.length := by
            rcases Nat.lt_or_ge o cs.length with h | h
            · exact h
            · rw [List.getElem?_eq_none h] at hu; cases hu
          rcases hS.views id cs es nx l hid hl with ⟨l', k1, k2, k3⟩ | ⟨⟨c, el, fr, hb, _, hr⟩, _⟩
          · obtain ⟨c, el, fr, _, _, hb, _, _, hr, _⟩ := hS.cellsR hnx k1
            have hd := headsL_get hh hu
            have ho2 : o < ds.length := by
              rcases Nat.lt_or_ge o ds.length with h | h
              · exact h
              · rw [List.getElem?_eq_none h] at hd; cases hd
            obtain ⟨u', hu', hru⟩ := hr.at ho2
            have : ds.getD o undef = .int k n := by simp [List.getD_eq_getElem?_getD, hd]
            rw [this] at hru
            rw [k2] at hb
            rw [k3] at hu'
            exact ⟨_, rfl, by rw [cellW hb, hu', hru.int_inv]⟩
          · obtain ⟨u', hu', hru⟩ := hr.at ho
            have : cs.getD o undef = .int k n := by simp [List.getD_eq_getElem?_getD, hu]
            rw [this] at hru
            exact ⟨_, rfl, by rw [cellW hb, hu', hru.int_inv]⟩
      · cases h
    · cases h
  · cases h

theorem st1_cell (P : Program) (hS : Sim G w0 ι H w) {x x' : Value} {k : IntKind} {n : Int} (hx : RV ι x x') (h : st1 x (.int k n) H = some (v, H1)) :
    ∃ a u, x' = .pointer (some a) ∧ w.cell? a = some u ∧ w.frozen? a = false ∧ Sim G w0 ι H1 (w.setCell a (.int k n)) := by
  unfold st1 at h
  split at h
  · split at h
    · rename_i id o _ cs es g hid
      split at h
      · rename_i hc
        cases h
        obtain ⟨l, hl, rfl⟩ := hx.ptr_inv
        obtain ⟨c, el, fr, _, _, hb, h5, h6, hr, h7, _⟩ := hS.cellsR hid hl
        obtain ⟨w1, hw1, hS1⟩ := hS.store (P := P) hid hl (new := [.int k n]) (new' := [.int k n]) (o := o) (by simp; omega) (.cons (.sc rfl) .nil) (by simpa using hc.2)
        have hlt : l.base + o < c.size := by omega
        have hfz : w.frozen? ⟨l.blk, l.base + o, none⟩ = false := by
          have := (h7 rfl).2.1.not (i := l.base + o) (by omega)
          simp only [World.frozen?, hb]
          simp only [Bool.and_eq_false_iff, decide_eq_false_iff_not]
          omega
        refine ⟨_, _, rfl, by rw [cellW hb]; exact Array.getElem?_eq_getElem hlt, hfz, ?_⟩
        rw [splice_one hc.1] at hS1
        have hst := run_stores (P := P) [.int k n] 0 (l.base + o) c w hb (by simp; omega) (by simp [Value.oneCell']) (fun j hj1 hj2 => (h7 rfl).2.1.not (by simp at hj2; omega))
        rw [hw1] at hst
        have hw : w1 = setB w l.blk (.cells (aspl c [.int k n] (l.base + o + 0)) el fr) := by injection hst
        rw [setCell_eq hb]
        rw [hw] at hS1
        have : aspl c [.int k n] (l.base + o + 0) = c.setIfInBounds (l.base + o) (.int k n) := by
          unfold aspl
          rw [Nat.add_zero, splice_one (by simpa using hlt)]
          apply Array.ext'; simp
        rwa [this] at hS1
      · cases h
    · cases h
  · cases h

theorem arr_args {x : Value} {l l' : List Value} : (x :: l).toArray = (x :: l).toArray := rfl

theorem atLoad_sound {g : FuncId} {k : IntKind} (he : externF P g (Extern.Atomic.loadT (.int k))) : SoundP P G w0 g (atLoad k) := by
  intro args H v H1 h
  refine .inr ⟨_, he, fun ι w args' hS hr => ?_⟩
  unfold atLoad at h
  split at h
  · split at h
    · rename_i p k' n H2 hp
      split at h
      · rename_i hk
        subst hk
        cases h
        obtain ⟨p', r', rfl, hp', hr'⟩ := hr.cons_inv
        have := hr'.nil_inv; subst this
        obtain ⟨a, rfl, hc⟩ := ld1_cell hS hp' hp
        refine ⟨ι, .int k' n, w, .refl ι, hS, .sc rfl, ?_⟩
        change (Sem.run P (do Extern.Atomic.read (.int k') (← asAddr (.pointer (some a)))) w) = _
        simp [Extern.Atomic.read, asAddr, hc, Result.andThen]
      · cases h
    · cases h
  · cases h

theorem atStore_sound {g : FuncId} (he : externF P g Extern.Atomic.storeT) : SoundP P G w0 g atStore := by
  intro args H v H1 h
  refine .inr ⟨_, he, fun ι w args' hS hr => ?_⟩
  unfold atStore at h
  split at h
  · split at h
    · rename_i p k n _ x H2 hp
      cases h
      obtain ⟨p', r', rfl, hp', hr'⟩ := hr.cons_inv
      obtain ⟨y', r2, rfl, hy', hr2⟩ := hr'.cons_inv
      have := hr2.nil_inv; subst this
      have := hy'.int_inv; subst this
      obtain ⟨a, u, rfl, hc, hz, hS1⟩ := st1_cell P hS hp' hp
      refine ⟨ι, .tuple #[], _, .refl ι, hS1, .un, ?_⟩
      change (Sem.run P (do
        store (← asAddr (.pointer (some a))) (.int k n) .atomic
        pure Extern.Atomic.none_) w) = _
      simp [asAddr, hc, hz, run_store P w a (.int k n) .atomic rfl, Result.andThen, Extern.Atomic.none_]
    · cases h
  · cases h

theorem atAdd_sound {g : FuncId} {k : IntKind} (he : externF P g (Extern.Atomic.update (Op.intArith .add) k true)) : SoundP P G w0 g (atAdd k) := by
  intro args H v H1 h
  refine .inr ⟨_, he, fun ι w args' hS hr => ?_⟩
  unfold atAdd at h
  split at h
  · split at h
    · rename_i p k0 y _ k' n H2 hp
      split at h
      · rename_i hk
        subst hk
        split at h
        · rename_i x H3 hst
          cases h
          obtain ⟨p', r', rfl, hp', hr'⟩ := hr.cons_inv
          obtain ⟨y', r2, rfl, hy', hr2⟩ := hr'.cons_inv
          have := hr2.nil_inv; subst this
          have := hy'.int_inv; subst this
          obtain ⟨a, rfl, hc⟩ := ld1_cell hS hp' hp
          obtain ⟨a2, u, e, hc2, hz, hS1⟩ := st1_cell P hS hp' hst
          cases e
          refine ⟨ι, _, _, .refl ι, hS1, .sc rfl, ?_⟩
          change (Sem.run P (do
            let a' ← asAddr (.pointer (some a))
            let old ← Extern.Atomic.read (.int k') a'
            let new ← Op.intArith .add k' (← asInt old) (← asInt (.int k0 y))
            store a' new .atomic
            pure (if true = true then new else old)) w) = _
          simp [Extern.Atomic.read, asAddr, asInt, asIntOf, hc, hz, Op.intArith, run_store P w a (.int k' (k'.wrap (n + y))) .atomic rfl, Result.andThen]
        · cases h
      · cases h
    · cases h
  · cases h

theorem atCas_sound {g : FuncId} {k : IntKind} (he : externF P g (Extern.Atomic.casT (.int k))) : SoundP P G w0 g (atCas k) := by
  intro args H v H1 h
  refine .inr ⟨_, he, fun ι w args' hS hr => ?_⟩
  unfold atCas at h
  split at h
  · split at h
    · rename_i p k0 o k2 y _ k' n H2 hp
      split at h
      · rename_i hk
        subst hk
        split at h
        · rename_i x H3 hst
          obtain ⟨p', r', rfl, hp', hr'⟩ := hr.cons_inv
          obtain ⟨o', r2, rfl, ho', hr2⟩ := hr'.cons_inv
          obtain ⟨y', r3, rfl, hy', hr3⟩ := hr2.cons_inv
          have := hr3.nil_inv; subst this
          have := ho'.int_inv; subst this
          have := hy'.int_inv; subst this
          obtain ⟨a, rfl, hc⟩ := ld1_cell hS hp' hp
          obtain ⟨a2, u, e, hc2, hz, hS1⟩ := st1_cell P hS hp' hst
          cases e
          have key : ((Extern.Atomic.casT (.int k')) #[.pointer (some a), .int k0 o, .int k2 y]).run P w = (Sem.run P (do
            let a' ← asAddr (.pointer (some a))
            if ← Extern.Atomic.touchesFrozen a' then unsupported (.unsafePointer "a write to bytes that a string shares")
            let eq ← match Extern.Atomic.T.int k', ← Extern.Atomic.read (.int k') a', Value.int k0 o with
              | _, .int _ x, .int _ y => pure (x == y)
              | .ptr, .pointer x, .pointer y => samePointer x y
              | .int _, .pointer (some _), .int _ 0 | .int _, .int _ 0, .pointer (some _) => pure false
              | .int _, .pointer (some _), _ | .int _, _, .pointer (some _) => unsupported .addressObserved
              | _, _, _ => stuck "atomic.CompareAndSwap: old is no T"
            if eq then store a' (.int k2 y) .atomic
            pure (Value.bool eq)) w) := rfl
          split at h
          · rename_i hno
            cases h
            subst hno
            refine ⟨ι, .bool true, _, .refl ι, hS1, .sc rfl, ?_⟩
            rw [key]
            simp [Extern.Atomic.touchesFrozen, Extern.Atomic.read, asAddr, viewAt, World.shape?_isSome_of_cell? hc, hc, hz, run_store P w a (.int k2 y) .atomic rfl, Result.andThen]
          · rename_i hno
            cases h
            refine ⟨ι, .bool false, _, .refl ι, hS, .sc rfl, ?_⟩
            rw [key]
            simp [Extern.Atomic.touchesFrozen, Extern.Atomic.read, asAddr, viewAt, World.shape?_isSome_of_cell? hc, hc, hz, hno, Result.andThen]
        · cases h
      · cases h
    · cases h
  · cases h

end
end Go.Proofs.YtlpibiaokpbhbaaGreatDoor.A
