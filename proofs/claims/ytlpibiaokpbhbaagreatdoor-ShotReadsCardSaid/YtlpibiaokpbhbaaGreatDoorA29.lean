/- Functions of rows of values, by names. -/
import Derived.Test.YtlpibiaokpbhbaaGreatDoorA28
namespace Go.Proofs.YtlpibiaokpbhbaaGreatDoor.A
set_option linter.unusedVariables false
set_option linter.unusedSimpArgs false

section
variable {β : Type}
def c0 (k : β) (vs : List Value) : β := k
def c1 (k : Value → β) (vs : List Value) : β := k (vs.headD undef)
def c2 (k : Value → Value → β) (vs : List Value) : β := c1 (k (vs.headD undef)) vs.tail
def c3 (k : Value → Value → Value → β) (vs : List Value) : β := c2 (k (vs.headD undef)) vs.tail
def c4 (k : Value → Value → Value → Value → β) (vs : List Value) : β := c3 (k (vs.headD undef)) vs.tail
def c5 (k : Value → Value → Value → Value → Value → β) (vs : List Value) : β := c4 (k (vs.headD undef)) vs.tail
def c6 (k : Value → Value → Value → Value → Value → Value → β) (vs : List Value) : β := c5 (k (vs.headD undef)) vs.tail
def c7 (k : Value → Value → Value → Value → Value → Value → Value → β) (vs : List Value) : β := c6 (k (vs.headD undef)) vs.tail
def c8 (k : Value → Value → Value → Value → Value → Value → Value → Value → β) (vs : List Value) : β := c7 (k (vs.headD undef)) vs.tail
def c9 (k : Value → Value → Value → Value → Value → Value → Value → Value → Value → β) (vs : List Value) : β := c8 (k (vs.headD undef)) vs.tail
def c10 (k : Value → Value → Value → Value → Value → Value → Value → Value → Value → Value → β) (vs : List Value) : β := c9 (k (vs.headD undef)) vs.tail
def c11 (k : Value → Value → Value → Value → Value → Value → Value → Value → Value → Value → Value → β) (vs : List Value) : β := c10 (k (vs.headD undef)) vs.tail
def c12 (k : Value → Value → Value → Value → Value → Value → Value → Value → Value → Value → Value → Value → β) (vs : List Value) : β := c11 (k (vs.headD undef)) vs.tail
def c13 (k : Value → Value → Value → Value → Value → Value → Value → Value → Value → Value → Value → Value → Value → β) (vs : List Value) : β := c12 (k (vs.headD undef)) vs.tail
def c14 (k : Value → Value → Value → Value → Value → Value → Value → Value → Value → Value → Value → Value → Value → Value → β) (vs : List Value) : β := c13 (k (vs.headD undef)) vs.tail
def c15 (k : Value → Value → Value → Value → Value → Value → Value → Value → Value → Value → Value → Value → Value → Value → Value → β) (vs : List Value) : β := c14 (k (vs.headD undef)) vs.tail
def c16 (k : Value → Value → Value → Value → Value → Value → Value → Value → Value → Value → Value → Value → Value → Value → Value → Value → β) (vs : List Value) : β := c15 (k (vs.headD undef)) vs.tail
def c17 (k : Value → Value → Value → Value → Value → Value → Value → Value → Value → Value → Value → Value → Value → Value → Value → Value → Value → β) (vs : List Value) : β := c16 (k (vs.headD undef)) vs.tail
def c18 (k : Value → Value → Value → Value → Value → Value → Value → Value → Value → Value → Value → Value → Value → Value → Value → Value → Value → Value → β) (vs : List Value) : β := c17 (k (vs.headD undef)) vs.tail
def c19 (k : Value → Value → Value → Value → Value → Value → Value → Value → Value → Value → Value → Value → Value → Value → Value → Value → Value → Value → Value → β) (vs : List Value) : β := c18 (k (vs.headD undef)) vs.tail
def c20 (k : Value → Value → Value → Value → Value → Value → Value → Value → Value → Value → Value → Value → Value → Value → Value → Value → Value → Value → Value → Value → β) (vs : List Value) : β := c19 (k (vs.headD undef)) vs.tail
def noN {α : Type} (vs : List Value) : M α := fail
def noX {α : Type} (j : Nat) (vs : List Value) : M α := fail
def retR (v : Value) : M Out := ret (.ret v)
def xk {α : Type} (i : Nat) (k : List Value → M α) (r : Nat → List Value → M α) (j : Nat) (vs : List Value) : M α := bif Nat.beq j i then k vs else r j vs

variable {v0 v1 v2 v3 v4 v5 v6 v7 v8 v9 v10 v11 v12 v13 v14 v15 v16 v17 v18 v19 : Value}
theorem c0_r {k : β} {vs : List Value} : c0 k vs = k := rfl
theorem c1_r {k : Value → β} : c1 k [v0] = k v0 := rfl
theorem c2_r {k : Value → Value → β} : c2 k [v0, v1] = k v0 v1 := rfl
theorem c3_r {k : Value → Value → Value → β} : c3 k [v0, v1, v2] = k v0 v1 v2 := rfl
theorem c4_r {k : Value → Value → Value → Value → β} : c4 k [v0, v1, v2, v3] = k v0 v1 v2 v3 := rfl
theorem c5_r {k : Value → Value → Value → Value → Value → β} : c5 k [v0, v1, v2, v3, v4] = k v0 v1 v2 v3 v4 := rfl
theorem c6_r {k : Value → Value → Value → Value → Value → Value → β} : c6 k [v0, v1, v2, v3, v4, v5] = k v0 v1 v2 v3 v4 v5 := rfl
theorem c7_r {k : Value → Value → Value → Value → Value → Value → Value → β} : c7 k [v0, v1, v2, v3, v4, v5, v6] = k v0 v1 v2 v3 v4 v5 v6 := rfl
theorem c8_r {k : Value → Value → Value → Value → Value → Value → Value → Value → β} : c8 k [v0, v1, v2, v3, v4, v5, v6, v7] = k v0 v1 v2 v3 v4 v5 v6 v7 := rfl
theorem c9_r {k : Value → Value → Value → Value → Value → Value → Value → Value → Value → β} : c9 k [v0, v1, v2, v3, v4, v5, v6, v7, v8] = k v0 v1 v2 v3 v4 v5 v6 v7 v8 := rfl
theorem c10_r {k : Value → Value → Value → Value → Value → Value → Value → Value → Value → Value → β} : c10 k [v0, v1, v2, v3, v4, v5, v6, v7, v8, v9] = k v0 v1 v2 v3 v4 v5 v6 v7 v8 v9 := rfl
theorem c11_r {k : Value → Value → Value → Value → Value → Value → Value → Value → Value → Value → Value → β} : c11 k [v0, v1, v2, v3, v4, v5, v6, v7, v8, v9, v10] = k v0 v1 v2 v3 v4 v5 v6 v7 v8 v9 v10 := rfl
theorem c12_r {k : Value → Value → Value → Value → Value → Value → Value → Value → Value → Value → Value → Value → β} : c12 k [v0, v1, v2, v3, v4, v5, v6, v7, v8, v9, v10, v11] = k v0 v1 v2 v3 v4 v5 v6 v7 v8 v9 v10 v11 := rfl
theorem c13_r {k : Value → Value → Value → Value → Value → Value → Value → Value → Value → Value → Value → Value → Value → β} : c13 k [v0, v1, v2, v3, v4, v5, v6, v7, v8, v9, v10, v11, v12] = k v0 v1 v2 v3 v4 v5 v6 v7 v8 v9 v10 v11 v12 := rfl
theorem c14_r {k : Value → Value → Value → Value → Value → Value → Value → Value → Value → Value → Value → Value → Value → Value → β} : c14 k [v0, v1, v2, v3, v4, v5, v6, v7, v8, v9, v10, v11, v12, v13] = k v0 v1 v2 v3 v4 v5 v6 v7 v8 v9 v10 v11 v12 v13 := rfl
theorem c15_r {k : Value → Value → Value → Value → Value → Value → Value → Value → Value → Value → Value → Value → Value → Value → Value → β} : c15 k [v0, v1, v2, v3, v4, v5, v6, v7, v8, v9, v10, v11, v12, v13, v14] = k v0 v1 v2 v3 v4 v5 v6 v7 v8 v9 v10 v11 v12 v13 v14 := rfl
theorem c16_r {k : Value → Value → Value → Value → Value → Value → Value → Value → Value → Value → Value → Value → Value → Value → Value → Value → β} : c16 k [v0, v1, v2, v3, v4, v5, v6, v7, v8, v9, v10, v11, v12, v13, v14, v15] = k v0 v1 v2 v3 v4 v5 v6 v7 v8 v9 v10 v11 v12 v13 v14 v15 := rfl
theorem c17_r {k : Value → Value → Value → Value → Value → Value → Value → Value → Value → Value → Value → Value → Value → Value → Value → Value → Value → β} : c17 k [v0, v1, v2, v3, v4, v5, v6, v7, v8, v9, v10, v11, v12, v13, v14, v15, v16] = k v0 v1 v2 v3 v4 v5 v6 v7 v8 v9 v10 v11 v12 v13 v14 v15 v16 := rfl
theorem c18_r {k : Value → Value → Value → Value → Value → Value → Value → Value → Value → Value → Value → Value → Value → Value → Value → Value → Value → Value → β} : c18 k [v0, v1, v2, v3, v4, v5, v6, v7, v8, v9, v10, v11, v12, v13, v14, v15, v16, v17] = k v0 v1 v2 v3 v4 v5 v6 v7 v8 v9 v10 v11 v12 v13 v14 v15 v16 v17 := rfl
theorem c19_r {k : Value → Value → Value → Value → Value → Value → Value → Value → Value → Value → Value → Value → Value → Value → Value → Value → Value → Value → Value → β} : c19 k [v0, v1, v2, v3, v4, v5, v6, v7, v8, v9, v10, v11, v12, v13, v14, v15, v16, v17, v18] = k v0 v1 v2 v3 v4 v5 v6 v7 v8 v9 v10 v11 v12 v13 v14 v15 v16 v17 v18 := rfl
theorem c20_r {k : Value → Value → Value → Value → Value → Value → Value → Value → Value → Value → Value → Value → Value → Value → Value → Value → Value → Value → Value → Value → β} : c20 k [v0, v1, v2, v3, v4, v5, v6, v7, v8, v9, v10, v11, v12, v13, v14, v15, v16, v17, v18, v19] = k v0 v1 v2 v3 v4 v5 v6 v7 v8 v9 v10 v11 v12 v13 v14 v15 v16 v17 v18 v19 := rfl
theorem xk_hit {α : Type} {i : Nat} {k : List Value → M α} {r : Nat → List Value → M α} {vs : List Value} : xk i k r i vs = k vs := by
  unfold xk
  rw [Nat.beq_refl, cond_true]
theorem xk_miss {α : Type} {i j : Nat} {k : List Value → M α} {r : Nat → List Value → M α} {vs : List Value} (h : j ≠ i) : xk i k r j vs = r j vs := by
  unfold xk
  cases e : Nat.beq j i
  · rfl
  · exact absurd (Nat.eq_of_beq_eq_true e) h
end

/-! a row's element, by its place -/

/-- The address of an element of one cell. -/
def ixp (sl : Value) (i : Nat) : Value :=
  match sl with
  | .slice (some ⟨id, o, none⟩) _ _ => pa id (o + i)
  | _ => undef

section
variable {H H' : Heap} {sl v u : Value} {vs : List Value} {own : List Nat} {i : Nat}

theorem Sl.ix (h : Sl H sl vs) (hi : i < vs.length) (q : IntKind) (H' : Heap) : ixa 1 sl (.int q i) H' = some (ixp sl i, H') := by
  obtain ⟨id, o, cs, es, g, ro, e1, _, _, e4⟩ := h.at (List.getElem?_eq_getElem hi) q
  obtain ⟨a, c, rfl, _⟩ := h
  unfold own1 at e4
  split at e4
  · rename_i id' o' _ _ e
    cases e
    rw [ixa_r, if_pos (by omega)]
    simp [ixp]
  · cases e4

theorem Sl.ldx (h : Sl H sl vs) (hi : vs[i]? = some v) : ld1 (ixp sl i) H = some (v, H) := by
  obtain ⟨id, o, cs, es, g, ro, e1, e2, e3, _⟩ := h.at hi .i64
  have hlt : i < vs.length := (List.getElem?_eq_some_iff.1 hi).1
  have := (h.ix hlt .i64 H).symm.trans (e1 H)
  have e : ixp sl i = pa id o := by simpa using this
  rw [e, ldOne_r, e2, rdk_r, e3]; rfl

theorem RowS.ix (h : RowS H sl vs own) (hi : i < vs.length) (q : IntKind) (H' : Heap) : ixa 1 sl (.int q i) H' = some (ixp sl i, H') := h.rd.ix hi q H'
theorem RowS.ldx (h : RowS H sl vs own) (hi : vs[i]? = some v) : ld1 (ixp sl i) H = some (v, H) := h.rd.ldx hi
theorem RowS.stx (h : RowS H sl vs own) (hi : i < vs.length) (hu : oneCell u = true) : ∃ H', st1 (ixp sl i) u H = some (undef, H') ∧ RowS H' sl (vs.set i u) own ∧ Step own H own H' ∧ H'.length = H.length := by
  obtain ⟨id, o, H', a1, a2, a3, a4, _, a5⟩ := h.put (List.getElem?_eq_getElem hi) hu .i64
  have := (h.ix hi .i64 H).symm.trans (a1 H)
  have e : ixp sl i = pa id o := by simpa using this
  exact ⟨H', by rw [e]; exact a2, a3, a4, a5⟩

end

theorem RowS.one {H : Heap} {sl : Value} {vs : List Value} {own : List Nat} (h : RowS H sl vs own) : oneCell sl = true ∧ sl.cells = #[sl] := by
  rcases h with ⟨_, _, rfl⟩ | ⟨_, _, _, rfl, _, _⟩ <;> exact ⟨rfl, rfl⟩

theorem mks_1 {k b : Nat} {z : Value} {H : Heap} (hz : z.cells = #[z]) (h1 : k * b ≤ 140737488355328) (h2 : k ≤ 140737488355328) : mks 1 b z (iv k) (iv k) H = some (.slice (some ⟨H.length, 0, none⟩) k k, H ++ [.cells (List.replicate k z) 1 false false]) := by
  have hr : ∀ m, reps m z.cells.toList = List.replicate m z := fun m => by
    rw [hz]
    induction m with
    | zero => rfl
    | succ m ih =>
      unfold reps at ih ⊢
      rw [List.replicate_succ, List.flatten_cons, ih]; rfl
  unfold mks
  simp only []
  rw [if_pos (by omega)]
  simp only [Int.toNat_natCast, hr]

theorem RowS.new {k : Nat} {z : Value} {H : Heap} {id : Nat} (h : H[id]? = some (.cells (List.replicate k z) 1 false false)) : RowS H (.slice (some ⟨id, 0, none⟩) k k) (List.replicate k z) [id] :=
  .inr ⟨id, [], false, by simp, rfl, by simpa using h⟩

theorem b_assoc {α β γ : Type} {m : M α} {f : α → M β} {k : β → M γ} {H : Heap} : bind (bind m f) k H = bind m (fun a => bind (f a) k) H := by
  unfold bind
  cases m H <;> rfl

/-! numbers -/

theorem wsuc {k : Nat} (h : k < 9223372036854775807) : IntKind.i64.wrap ((k : Int) + 1) = ((k + 1 : Nat) : Int) := by rw [w64 (by omega) (by omega)]; simp
theorem wpred {k : Nat} (h : 0 < k) (h2 : k ≤ 9223372036854775807) : IntKind.i64.wrap ((k : Int) - 1) = ((k - 1 : Nat) : Int) := by rw [w64 (by omega) (by omega)]; omega

end Go.Proofs.YtlpibiaokpbhbaaGreatDoor.A
