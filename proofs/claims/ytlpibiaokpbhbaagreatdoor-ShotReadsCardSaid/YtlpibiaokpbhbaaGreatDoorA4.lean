/- The operations that leave the heap alone: what the abstract machine answers, the model answers. -/
import Derived.Test.YtlpibiaokpbhbaaGreatDoorA3
import GoSem.Dispatch
import Derived.Laws.Sem
import Derived.Laws.Entries
namespace Go.Proofs.YtlpibiaokpbhbaaGreatDoor.A
set_option linter.unusedVariables false
set_option linter.unusedSimpArgs false

def Res (G : Nat) (w0 : Base) (ι : Nat → Option Loc) (v : Value) (H1 : Heap) (r : Result Value) : Prop :=
  ∃ ι1 v' w1, Le ι ι1 ∧ Sim G w0 ι1 H1 w1 ∧ RV ι1 v v' ∧ r = .ok v' w1

def ResU (G : Nat) (w0 : Base) (ι : Nat → Option Loc) (H1 : Heap) (r : Result Unit) : Prop :=
  ∃ ι1 w1, Le ι ι1 ∧ Sim G w0 ι1 H1 w1 ∧ r = .ok () w1

section
variable {P : Program} {G : Nat} {w0 : Base} {ι : Nat → Option Loc} {H H1 : Heap} {w : World} {v : Value}

theorem Res.same (hS : Sim G w0 ι H w) {v v' : Value} (hv : RV ι v v') {r : Result Value} (hr : r = .ok v' w) : Res G w0 ι v H r :=
  ⟨ι, v', w, .refl ι, hS, hv, hr⟩

theorem Res.sc (hS : Sim G w0 ι H w) {v : Value} (hv : Scalar v = true) {r : Result Value} (hr : r = .ok v w) : Res G w0 ι v H r :=
  .same hS (.sc hv) hr

theorem eqGuard_int (op : BinOp) (t : TypeId) (x y : Operand) (k k' : IntKind) (a b : Int) : (eqGuard op t x y (.int k a) (.int k' b)).run P w = .ok () w := by
  unfold eqGuard; split <;> simp

theorem eqGuard_string (op : BinOp) (t : TypeId) (x y : Operand) (a b : ByteArray) : (eqGuard op t x y (.string a) (.string b)).run P w = .ok () w := by
  unfold eqGuard; split <;> simp

theorem iarith_sim {op : BinOp} {k : IntKind} {a b : Int} {t : TypeId} (h : iarith op k a b = some v) :
    Scalar v = true ∧ (binOp op t (.int k a) (.int k b)).run P w = .ok v w := by
  cases op <;> simp only [iarith, Option.some.injEq, reduceCtorEq] at h <;>
    first
      | (subst h; refine ⟨rfl, ?_⟩; simp [binOp, Op.intArith, Op.intBits, Op.intCmp])
      | skip
  all_goals
    by_cases hb : b = 0
    · subst hb; simp at h
    · have hb' : (b == 0) = false := by simpa using hb
      simp [hb'] at h
      subst h
      refine ⟨rfl, ?_⟩
      simp [binOp, Op.intDiv, hb]

theorem ishift_sim {op : BinOp} {k k' : IntKind} {a b : Int} {t : TypeId} (hop : op = .shl ∨ op = .shr) (h : ishift op k a b = some v) :
    Scalar v = true ∧ (binOp op t (.int k a) (.int k' b)).run P w = .ok v w := by
  unfold ishift at h
  by_cases hb : b < 0
  · simp [hb] at h
  · rcases hop with rfl | rfl <;>
    · simp [hb] at h
      subst h
      refine ⟨rfl, ?_⟩
      simp [binOp, Op.shift, hb]

theorem sop_sim {op : BinOp} {a b : ByteArray} {t : TypeId} (h : sop op a b = some v) :
    Scalar v = true ∧ (binOp op t (.string a) (.string b)).run P w = .ok v w := by
  cases op <;> simp only [sop, Option.some.injEq, reduceCtorEq] at h <;>
    first
      | (subst h; refine ⟨rfl, ?_⟩; simp [binOp, Op.stringOp])
      | skip
  by_cases hb : a.size + b.size ≤ 9223372036854775807
  · simp [hb] at h
    subst h
    refine ⟨rfl, ?_⟩
    have : ¬ ((a.size + b.size : Nat) : Int) > IntKind.i64.max := by
      have : IntKind.i64.max = 9223372036854775807 := by decide
      rw [this]; omega
    simp only [binOp, Op.stringOp]
    rw [if_neg this]; rfl
  · simp [hb] at h

theorem equal_of {t : TypeId} {x y : Value} {r : Result Bool} (h : ∀ d, (Op.equalIn (d + 1) t x y).run P w = r) : (Op.equal t x y).run P w = r := h 9999

theorem equal_of2 {t : TypeId} {x y : Value} {r : Result Bool} (h : ∀ d, (Op.equalIn (d + 2) t x y).run P w = r) : (Op.equal t x y).run P w = r := h 9998

theorem tk_bool {t : TypeId} (h : tkT P t = .bool) : P.underlying t = some .bool := by
  unfold tkT at h; split at h <;> first | assumption | (cases h; done) | (exfalso; revert h; cases twoB P t _ <;> intro h <;> cases h)
theorem tk_str {t : TypeId} (h : tkT P t = .str) : P.underlying t = some .string := by
  unfold tkT at h; split at h <;> first | assumption | (cases h; done) | (exfalso; revert h; cases twoB P t _ <;> intro h <;> cases h)
theorem tk_int {t : TypeId} (h : tkT P t = .int) : ∃ k, P.underlying t = some (.int k) := by
  unfold tkT at h; split at h <;> first | exact ⟨_, by assumption⟩ | (cases h; done) | (exfalso; revert h; cases twoB P t _ <;> intro h <;> cases h)
theorem tk_ptr {t : TypeId} (h : tkT P t = .ptr) : ∃ e, P.underlying t = some (.pointer e) := by
  unfold tkT at h; split at h <;> first | exact ⟨_, by assumption⟩ | (cases h; done) | (exfalso; revert h; cases twoB P t _ <;> intro h <;> cases h)
theorem tk_slc {t : TypeId} (h : tkT P t = .slc) : ∃ e, P.underlying t = some (.slice e) := by
  unfold tkT at h; split at h <;> first | exact ⟨_, by assumption⟩ | (cases h; done) | (exfalso; revert h; cases twoB P t _ <;> intro h <;> cases h)
theorem tk_map {t : TypeId} (h : tkT P t = .map) : ∃ k e, P.underlying t = some (.map k e) := by
  unfold tkT at h; split at h <;> first | exact ⟨_, _, by assumption⟩ | (cases h; done) | (exfalso; revert h; cases twoB P t _ <;> intro h <;> cases h)
theorem tk_fn {t : TypeId} (h : tkT P t = .fn) : ∃ a b c, P.underlying t = some (.func a b c) := by
  unfold tkT at h; split at h <;> first | exact ⟨_, _, _, by assumption⟩ | (cases h; done) | (exfalso; revert h; cases twoB P t _ <;> intro h <;> cases h)
theorem isStr_u {t : TypeId} (h : isStr P t = true) : P.underlying t = some .string := by
  unfold isStr at h; split at h <;> first | assumption | cases h
theorem tk_two {t : TypeId} (h : tkT P t = .two) : ∃ f g, P.underlying t = some (.struct #[f, g]) ∧ f.name ≠ "_" ∧ g.name ≠ "_" ∧ f.offset = 0 ∧ g.offset = 1 ∧ P.underlying f.type = some .string ∧ P.underlying g.type = some .string ∧ P.stoodInHeld t = false ∧ P.eqGuardType P.depth t = false := by
  unfold tkT at h
  split at h <;> first | (cases h; done) | skip
  rename_i fs hu
  cases hb : twoB P t fs.toList
  · rw [hb] at h; cases h
  · obtain ⟨l⟩ := fs
    match l, hb with
    | [f, g], hb =>
      simp only [twoB, Bool.and_eq_true, bne_iff_ne, ne_eq, Bool.not_eq_true'] at hb
      obtain ⟨h1, h2, h3, h4, h5, h6, h7, h8⟩ := hb
      exact ⟨f, g, hu, h1, h2, Nat.eq_of_beq_eq_true h3, Nat.eq_of_beq_eq_true h4, isStr_u h5, isStr_u h6, h7, h8⟩
theorem tk_ifc {t : TypeId} (h : tkT P t = .ifc) : ∃ a, P.underlying t = some (.interface a) := by
  unfold tkT at h; split at h <;> first | exact ⟨_, by assumption⟩ | (cases h; done) | (exfalso; revert h; cases twoB P t _ <;> intro h <;> cases h)

/-- What may be held against nil: its shape is that of its abstract reading. -/
theorem RV.ptr_none {a : Option Addr} {v' : Value} (h : RV ι (.pointer a) v') : ∃ a', v' = .pointer a' ∧ a'.isNone = a.isNone := by
  cases h with
  | sc h => exact ⟨_, rfl, rfl⟩
  | ptr h => exact ⟨_, rfl, rfl⟩
theorem RV.slc_none {a : Option Addr} {n c : Nat} {v' : Value} (h : RV ι (.slice a n c) v') : ∃ a' c', v' = .slice a' n c' ∧ a'.isNone = a.isNone := by
  cases h with
  | sc h => exact ⟨_, _, rfl, rfl⟩
  | slc => exact ⟨_, _, rfl, rfl⟩
  | slcE => exact ⟨_, _, rfl, rfl⟩
theorem RV.map_none {a : Option Nat} {v' : Value} (h : RV ι (.map a) v') : ∃ a', v' = .map a' ∧ a'.isNone = a.isNone := by
  cases h with
  | sc h => exact ⟨_, rfl, rfl⟩
  | mp h => exact ⟨_, rfl, rfl⟩

theorem equalIn_str {d : Nat} {t : TypeId} {a b : ByteArray} (hu : P.underlying t = some .string) : (Op.equalIn (d + 1) t (.string a) (.string b)).run P w = .ok (a == b) w := by
  simp [Op.equalIn, run_underlying hu]

theorem part_str {t : TypeId} {cs : Array Value} {o : Nat} {v : Value} (hu : P.underlying t = some .string) (hv : cs[o]? = some v) : (part t cs o).run P w = .ok v w := by
  simp [part, isAgg, run_underlying hu, hv]

theorem equalIn_two {d : Nat} {t : TypeId} {f g : Field} {s1 s2 s3 s4 : ByteArray} (hu : P.underlying t = some (.struct #[f, g])) (hf : f.name ≠ "_") (hg : g.name ≠ "_") (of : f.offset = 0) (og : g.offset = 1) (uf : P.underlying f.type = some .string) (ug : P.underlying g.type = some .string) (hs : P.stoodInHeld t = false) :
    (Op.equalIn (d + 2) t (.agg #[.string s1, .string s2]) (.agg #[.string s3, .string s4])).run P w = .ok (s1 == s3 && s2 == s4) w := by
  have p1 := part_str (P := P) (w := w) (cs := #[.string s1, .string s2]) (o := 0) (v := .string s1) uf rfl
  have p2 := part_str (P := P) (w := w) (cs := #[.string s3, .string s4]) (o := 0) (v := .string s3) uf rfl
  have p3 := part_str (P := P) (w := w) (cs := #[.string s1, .string s2]) (o := 1) (v := .string s2) ug rfl
  have p4 := part_str (P := P) (w := w) (cs := #[.string s3, .string s4]) (o := 1) (v := .string s4) ug rfl
  have q1 := equalIn_str (P := P) (w := w) (d := d) (a := s1) (b := s3) uf
  have q2 := equalIn_str (P := P) (w := w) (d := d) (a := s2) (b := s4) ug
  rw [← of] at p1 p2
  rw [← og] at p3 p4
  rw [Op.equalIn.eq_2]
  generalize Op.equalIn (d + 1) = E at q1 q2 ⊢
  simp only [Sem.run_bind, run_underlying hu, Result.andThen_ok]
  have hpr : Sem.run P program w = .ok P w := by simp
  rw [hpr, Result.andThen_ok, if_neg (by rw [hs]; decide)]
  simp only [List.forIn_toArray, List.forIn_cons, List.forIn_nil, Sem.run_bind, if_pos hf, if_pos hg, p1, p2, Result.andThen_ok, q1]
  cases s1 == s3
  · simp
  · simp only [Bool.not_true, Bool.false_eq_true, if_false, Sem.run_pure, Result.andThen_ok, Sem.run_bind, p3, p4, q2]
    cases s2 == s4 <;> simp

theorem eqGuard_two {op : BinOp} {t : TypeId} {ox oy : Operand} {a b : Array Value} (hq : P.eqGuardType P.depth t = false) : (eqGuard op t ox oy (.agg a) (.agg b)).run P w = .ok () w := by
  unfold eqGuard
  split <;> simp [hq]

theorem eqv_sim {t : TypeId} {x y x' y' : Value} {b : Bool} (hx : RV ι x x') (hy : RV ι y y') (h : eqv (tkT P t) x y = some b) :
    (Op.equal t x' y').run P w = .ok b w ∧ ∀ op ox oy, (eqGuard op t ox oy x' y').run P w = .ok () w := by
  generalize htk : tkT P t = tk at h
  unfold eqv at h
  split at h
  · rw [hx.bool_inv, hy.bool_inv]
    have hu := tk_bool htk
    cases h
    refine ⟨equal_of fun d => by simp [Op.equalIn, run_underlying hu], fun op ox oy => ?_⟩
    unfold eqGuard; split <;> simp
  · obtain ⟨e, hu⟩ := tk_ptr htk
    obtain ⟨a', rfl, ha⟩ := hy.ptr_none
    obtain ⟨z, rfl, hz⟩ := hx.ptr_none
    cases z with
    | some _ => simp at hz
    | none =>
    cases h
    refine ⟨equal_of fun d => by simp [Op.equalIn, run_underlying hu, ha], fun op ox oy => ?_⟩
    unfold eqGuard; split <;> simp
  · obtain ⟨e, hu⟩ := tk_ptr htk
    obtain ⟨a', rfl, ha⟩ := hx.ptr_none
    obtain ⟨z, rfl, hz⟩ := hy.ptr_none
    cases z with
    | some _ => simp at hz
    | none =>
    cases h
    refine ⟨equal_of fun d => ?_, fun op ox oy => by unfold eqGuard; split <;> simp⟩
    cases a' <;> simp [Op.equalIn, run_underlying hu, ← ha]
  · obtain ⟨e, hu⟩ := tk_slc htk
    obtain ⟨a', c', rfl, ha⟩ := hy.slc_none
    obtain ⟨z, c'', rfl, hz⟩ := hx.slc_none
    cases z with
    | some _ => simp at hz
    | none =>
    cases h
    refine ⟨equal_of fun d => by simp [Op.equalIn, run_underlying hu, ha], fun op ox oy => ?_⟩
    unfold eqGuard; split <;> simp
  · obtain ⟨e, hu⟩ := tk_slc htk
    obtain ⟨a', c', rfl, ha⟩ := hx.slc_none
    obtain ⟨z, c'', rfl, hz⟩ := hy.slc_none
    cases z with
    | some _ => simp at hz
    | none =>
    cases h
    refine ⟨equal_of fun d => ?_, fun op ox oy => by unfold eqGuard; split <;> simp⟩
    cases a' <;> simp [Op.equalIn, run_underlying hu, ← ha]
  · obtain ⟨k, e, hu⟩ := tk_map htk
    obtain ⟨a', rfl, ha⟩ := hy.map_none
    obtain ⟨z, rfl, hz⟩ := hx.map_none
    cases z with
    | some _ => simp at hz
    | none =>
    cases h
    refine ⟨equal_of fun d => by simp [Op.equalIn, run_underlying hu, ha], fun op ox oy => ?_⟩
    unfold eqGuard; split <;> simp
  · obtain ⟨k, e, hu⟩ := tk_map htk
    obtain ⟨a', rfl, ha⟩ := hx.map_none
    obtain ⟨z, rfl, hz⟩ := hy.map_none
    cases z with
    | some _ => simp at hz
    | none =>
    cases h
    refine ⟨equal_of fun d => ?_, fun op ox oy => by unfold eqGuard; split <;> simp⟩
    cases a' <;> simp [Op.equalIn, run_underlying hu, ← ha]
  · obtain ⟨a, b, c, hu⟩ := tk_fn htk
    rw [hx.scalar_inv rfl, hy.scalar_inv rfl]
    cases h
    refine ⟨equal_of fun d => by simp [Op.equalIn, run_underlying hu], fun op ox oy => by unfold eqGuard; split <;> simp⟩
  · obtain ⟨a, b, c, hu⟩ := tk_fn htk
    obtain ⟨_, _, _, rfl⟩ := hy.fn_any
    rw [hx.scalar_inv rfl]
    cases h
    refine ⟨equal_of fun d => by simp [Op.equalIn, run_underlying hu], fun op ox oy => by unfold eqGuard; split <;> simp⟩
  · obtain ⟨a, b, c, hu⟩ := tk_fn htk
    obtain ⟨_, _, _, rfl⟩ := hx.fn_any
    rw [hy.scalar_inv rfl]
    cases h
    refine ⟨equal_of fun d => by simp [Op.equalIn, run_underlying hu], fun op ox oy => by unfold eqGuard; split <;> simp⟩
  · obtain ⟨a, hu⟩ := tk_ifc htk
    obtain ⟨_, rfl, _⟩ := hy.ifc_inv
    rw [hx.scalar_inv rfl]
    cases h
    refine ⟨equal_of fun d => by simp [Op.equalIn, run_underlying hu], fun op ox oy => by unfold eqGuard; split <;> simp⟩
  · obtain ⟨a, hu⟩ := tk_ifc htk
    obtain ⟨_, rfl, _⟩ := hx.ifc_inv
    rw [hy.scalar_inv rfl]
    cases h
    refine ⟨equal_of fun d => by simp [Op.equalIn, run_underlying hu], fun op ox oy => by unfold eqGuard; split <;> simp⟩
  · rename_i xs ys
    obtain ⟨f, g, hu, hf, hg, of, og, uf, ug, hs, hq⟩ := tk_two htk
    obtain ⟨a', rfl, ha⟩ := hx.agg_inv
    obtain ⟨b', rfl, hb⟩ := hy.agg_inv
    unfold eq2 at h
    split at h
    · rename_i s1 s2 s3 s4 h1 h2
      cases h
      rw [h1] at ha
      rw [h2] at hb
      have e1 : a'.toList = [.string s1, .string s2] := by
        obtain ⟨p, r, e, hp, hr⟩ := ha.cons_inv
        obtain ⟨p2, r2, e2, hp2, hr2⟩ := hr.cons_inv
        have := hr2.nil_inv; subst this
        rw [e, e2, hp.scalar_inv rfl, hp2.scalar_inv rfl]
      have e2 : b'.toList = [.string s3, .string s4] := by
        obtain ⟨p, r, e, hp, hr⟩ := hb.cons_inv
        obtain ⟨p2, r2, e2, hp2, hr2⟩ := hr.cons_inv
        have := hr2.nil_inv; subst this
        rw [e, e2, hp.scalar_inv rfl, hp2.scalar_inv rfl]
      have e1 : a' = #[.string s1, .string s2] := by apply Array.ext'; exact e1
      have e2 : b' = #[.string s3, .string s4] := by apply Array.ext'; exact e2
      subst e1
      subst e2
      exact ⟨equal_of2 fun d => equalIn_two hu hf hg of og uf ug hs, fun op ox oy => eqGuard_two hq⟩
    · cases h
  · cases h

/-- Operands that an '==' of values that are no numbers, no texts takes up. -/
theorem binOp_eql {t : TypeId} {x y x' y' : Value} {b : Bool} (hx : RV ι x x') (hy : RV ι y y') (h : eqv (tkT P t) x y = some b) :
    (binOp .eql t x' y').run P w = .ok (.bool b) w ∧ (binOp .neq t x' y').run P w = .ok (.bool !b) w := by
  have he := (eqv_sim (P := P) (w := w) hx hy h).1
  have hs : (∀ k n, x' ≠ .int k n) ∧ (∀ k n, x' ≠ .float k n) ∧ (∀ k n m, x' ≠ .complex k n m) ∧ (∀ s, x' ≠ .string s) := by
    generalize tkT P t = tk at h
    unfold eqv at h
    split at h <;> (try (cases h; done)) <;> refine ⟨?_, ?_, ?_, ?_⟩ <;> intros <;> rintro rfl <;> cases hx
  obtain ⟨h1, h2, h3, h4⟩ := hs
  constructor
  · unfold binOp
    split <;> first | (exfalso; first | exact h1 _ _ rfl | exact h2 _ _ rfl | exact h3 _ _ _ rfl | exact h4 _ rfl) | (simp_all; done) | skip
  · unfold binOp
    split <;> first | (exfalso; first | exact h1 _ _ rfl | exact h2 _ _ rfl | exact h3 _ _ _ rfl | exact h4 _ rfl) | (simp_all; done) | skip

theorem bop_sim (hS : Sim G w0 ι H w) {op : BinOp} {t : TypeId} {x y x' y' : Value} {ox oy : Operand} (hx : RV ι x x') (hy : RV ι y y')
    (h : bop (tkT P t) op x y H = some (v, H1)) : Res G w0 ι v H1 ((do eqGuard op t ox oy x' y'; binOp op t x' y').run P w) := by
  unfold bop at h
  split at h
  · rw [hx.int_inv, hy.int_inv]
    simp only [Option.map_eq_some_iff, Prod.mk.injEq] at h
    obtain ⟨u, hu, rfl, rfl⟩ := h
    obtain ⟨h1, h2⟩ := ishift_sim (P := P) (w := w) (t := t) (.inl rfl) hu
    exact .sc hS h1 (by rw [Sem.run_bind, eqGuard_int]; simpa using h2)
  · rw [hx.int_inv, hy.int_inv]
    simp only [Option.map_eq_some_iff, Prod.mk.injEq] at h
    obtain ⟨u, hu, rfl, rfl⟩ := h
    obtain ⟨h1, h2⟩ := ishift_sim (P := P) (w := w) (t := t) (.inr rfl) hu
    exact .sc hS h1 (by rw [Sem.run_bind, eqGuard_int]; simpa using h2)
  · rw [hx.int_inv, hy.int_inv]
    rename_i k a k' b _ _
    by_cases hk : k = k'
    · subst hk
      simp only [decide_true, cond_true, Option.map_eq_some_iff, Prod.mk.injEq] at h
      obtain ⟨u, hu, rfl, rfl⟩ := h
      obtain ⟨h1, h2⟩ := iarith_sim (P := P) (w := w) (t := t) hu
      exact .sc hS h1 (by rw [Sem.run_bind, eqGuard_int]; simpa using h2)
    · simp [hk] at h
  · rw [hx.string_inv, hy.string_inv]
    simp only [Option.map_eq_some_iff, Prod.mk.injEq] at h
    obtain ⟨u, hu, rfl, rfl⟩ := h
    obtain ⟨h1, h2⟩ := sop_sim (P := P) (w := w) (t := t) hu
    exact .sc hS h1 (by rw [Sem.run_bind, eqGuard_string]; simpa using h2)
  · simp only [Option.map_eq_some_iff, Prod.mk.injEq] at h
    obtain ⟨u, hu, rfl, rfl⟩ := h
    exact .sc hS rfl (by rw [Sem.run_bind, (eqv_sim hx hy hu).2]; simpa using (binOp_eql hx hy hu).1)
  · simp only [Option.map_eq_some_iff, Prod.mk.injEq] at h
    obtain ⟨u, hu, rfl, rfl⟩ := h
    exact .sc hS rfl (by rw [Sem.run_bind, (eqv_sim hx hy hu).2]; simpa using (binOp_eql hx hy hu).2)
  · cases h

theorem uop_sim (hS : Sim G w0 ι H w) {op : UnOp} {x x' : Value} (hx : RV ι x x') (h : uop op x H = some (v, H1)) :
    Res G w0 ι v H1 ((Op.unary op x').run P w) := by
  unfold uop at h
  split at h
  · rw [hx.int_inv]; cases h; exact .sc hS rfl (by simp [Op.unary, Op.intArith])
  · rw [hx.int_inv]
    simp only [Option.map_eq_some_iff, Prod.mk.injEq, iarith, Option.some.injEq] at h
    obtain ⟨u, rfl, rfl, rfl⟩ := h
    exact .sc hS rfl (by simp [Op.unary, Op.intBits])
  · rw [hx.bool_inv]; cases h; exact .sc hS rfl (by simp [Op.unary])
  · cases h

theorem cvi_sim (hS : Sim G w0 ι H w) {k k' : IntKind} {s d : TypeId} {x x' : Value} (hs : P.underlying s = some (.int k')) (hd : P.underlying d = some (.int k))
    (hx : RV ι x x') (h : cvi k x H = some (v, H1)) : Res G w0 ι v H1 ((convert s d x').run P w) := by
  unfold cvi at h
  split at h
  · rw [hx.int_inv]; cases h
    exact .sc hS rfl (by simp [convert, run_underlying hs, run_underlying hd, Conv.intToInt])
  · cases h

theorem cvs_sim (hS : Sim G w0 ι H w) {s d : TypeId} {x x' : Value} (hs : P.underlying s = some .string) (hd : P.underlying d = some .string)
    (hx : RV ι x x') (h : cvs x H = some (v, H1)) : Res G w0 ι v H1 ((convert s d x').run P w) := by
  unfold cvs at h
  split at h
  · rw [hx.string_inv]; cases h
    exact .sc hS rfl (by simp [convert, run_underlying hs, run_underlying hd])
  · cases h

theorem pick_sim (hS : Sim G w0 ι H w) {c a b c' a' b' : Value} (hc : RV ι c c') (ha : RV ι a a') (hb : RV ι b b') (h : pick c a b H = some (v, H1)) :
    Res G w0 ι v H1 ((do pure (if ← asBool c' then a' else b')).run P w) := by
  unfold pick at h
  split at h
  · rename_i t
    rw [hc.bool_inv]; cases h
    cases t
    · exact .same hS hb (by simp [asBool])
    · exact .same hS ha (by simp [asBool])
  · cases h

theorem extr_sim (hS : Sim G w0 ι H w) {t t' : Value} {i : Nat} (ht : RV ι t t') (h : extr t i H = some (v, H1)) :
    Res G w0 ι v H1 ((Instr.extract t' i).run P w) := by
  unfold extr at h
  split at h
  · rename_i vs
    cases hs1 : Nat.beq vs.size 1 with
    | true => rw [hs1] at h; cases h
    | false =>
    rw [hs1] at h
    simp only [cond_false, Option.map_eq_some_iff, Prod.mk.injEq] at h
    obtain ⟨u, hu, rfl, rfl⟩ := h
    cases ht with
    | sc h => simp [Scalar] at h
    | nw => cases hs1
    | un => simp at hu
    | tup h1 h2 =>
      rename_i a'
      have hi : i < vs.size := by
        rcases Nat.lt_or_ge i vs.size with h | h
        · exact h
        · rw [Array.getElem?_eq_none h] at hu; cases hu
      have h3 := h2 i hi
      have hi' : i < a'.size := h1 ▸ hi
      have e1 : vs.getD i undef = u := by
        rw [Array.getElem?_eq_getElem hi] at hu; cases hu; simp [hi]
      rw [e1] at h3
      exact .same hS h3 (by simp [Instr.extract, hi'])
  · cases h

theorem lenS_sim (hS : Sim G w0 ι H w) {t e : TypeId} {x x' : Value} (ht : P.underlying t = some (.slice e)) (hx : RV ι x x') (h : lenS x H = some (v, H1)) (ty : TypeId) :
    Res G w0 ι v H1 ((Builtin.len_ #[t] ty #[x']).run P w) := by
  unfold lenS at h
  split at h
  · obtain ⟨a', c', rfl, _⟩ := hx.slc_none
    cases h
    exact .sc hS rfl (by simp [Builtin.len_, run_underlying ht, goInt])
  · cases h

theorem lenT_sim (hS : Sim G w0 ι H w) {t : TypeId} {x x' : Value} (ht : P.underlying t = some .string) (hx : RV ι x x') (h : lenT x H = some (v, H1)) (ty : TypeId) :
    Res G w0 ι v H1 ((Builtin.len_ #[t] ty #[x']).run P w) := by
  unfold lenT at h
  split at h
  · rw [hx.string_inv]
    cases h
    exact .sc hS rfl (by simp [Builtin.len_, run_underlying ht, goInt])
  · cases h

end
end Go.Proofs.YtlpibiaokpbhbaaGreatDoor.A
