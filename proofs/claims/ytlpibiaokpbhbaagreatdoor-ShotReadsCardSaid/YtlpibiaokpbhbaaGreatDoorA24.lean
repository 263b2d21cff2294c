/- More rules for reading functions; what arguments hold. -/
import Derived.Test.YtlpibiaokpbhbaaGreatDoorA23
namespace Go.Proofs.YtlpibiaokpbhbaaGreatDoor.A
set_option linter.unusedVariables false
set_option linter.unusedSimpArgs false

abbrev iv (n : Int) : Value := .int .i64 n
abbrev pa (id o : Nat) : Value := .pointer (some ⟨id, o, none⟩)
abbrev pt (id : Nat) : Value := .pointer (some ⟨id, 0, none⟩)

/-- All objects but one are as they were. -/
def But (id : Nat) (H H' : Heap) : Prop := ∀ j, j ≠ id → H'[j]? = H[j]?
theorem But.set {id : Nat} {H : Heap} {o : AObj} : But id H (H.set id o) := fun j hj => List.getElem?_set_ne (Ne.symm hj)

theorem set_new {H : Heap} {a b : AObj} : (H ++ [a]).set H.length b = H ++ [b] := by simp
theorem fr_get {H l : Heap} {n : Nat} : (H ++ l)[H.length + n]? = l[n]? := by
  rw [List.getElem?_append_right (by omega)]; congr 1; omega
theorem fr_get0 {H l : Heap} : (H ++ l)[H.length]? = l[0]? := by
  rw [List.getElem?_append_right (by omega)]; congr 1; omega
theorem fr_set {H l : Heap} {n : Nat} {b : AObj} : (H ++ l).set (H.length + n) b = H ++ l.set n b := by
  rw [List.set_append_right _ _ (by omega)]; congr 2; omega
theorem fr_set0 {H l : Heap} {b : AObj} : (H ++ l).set H.length b = H ++ l.set 0 b := by
  rw [List.set_append_right _ _ (by omega)]; congr 2; omega

theorem extr_p0 {a b : Value} {H : Heap} : extr (.tuple #[a, b]) 0 H = some (a, H) := rfl
theorem extr_p1 {a b : Value} {H : Heap} : extr (.tuple #[a, b]) 1 H = some (b, H) := rfl

/-- A slice's element is fetched into a variable of its own. -/
theorem fetch {β : Type} {k : Value → M β} {sz lid n c i es : Nat} {g ro : Bool} {zs cells xs : List Value} {H : Heap} (h : H[lid]? = some (.cells cells es g ro)) (hi : i < n) (hx : (cells.drop (i * sz)).take sz = xs) (hl : i * sz + sz ≤ cells.length)
    (hz : zs.length = sz) (hz1 : zs.all oneCell = true) (h1 : xs.all oneCell = true) :
    bind (ixa sz (.slice (some ⟨lid, 0, none⟩) n c) (iv i)) (fun p => bind (ldA sz p) fun v => bind (alc 1 (.agg zs.toArray)) fun q => bind (stA sz q v) fun _ => k q) H = k (pt H.length) (H ++ [.cells xs 1 false false]) := by
  have hxl : xs.length = sz := by rw [← hx]; simp; omega
  have e1 : ixa sz (.slice (some ⟨lid, 0, none⟩) n c) (iv i) H = some (.pointer (some ⟨lid, i * sz, none⟩), H) := by
    rw [ixa_r, if_pos (by omega)]; simp
  have e2 : ldA sz (.pointer (some ⟨lid, i * sz, none⟩)) H = some (.agg xs.toArray, H) := by
    rw [ldA_r, h, rdkA_r, if_pos hl, hx]
  have e3 : alc 1 (.agg zs.toArray) H = some (pt H.length, H ++ [.cells zs 1 false false]) := by
    rw [alc_r]; simp only [Value.cells, List.all_eq_true] at *; rw [if_pos (by simpa using hz1)]
  have e4 : stA sz (pt H.length) (.agg xs.toArray) (H ++ [.cells zs 1 false false]) = some (undef, H ++ [.cells xs 1 false false]) := by
    rw [stA_r, app_new, wrkA_r, if_pos ⟨by omega, by simpa using hxl, by simpa using h1⟩]
    have : splice zs xs.toArray.toList 0 = xs := by unfold splice; simp [List.drop_eq_nil_of_le (show zs.length ≤ xs.length by omega)]
    rw [this]
    simp
  rw [bind_eq e1, bind_eq e2, bind_eq e3, bind_eq e4]

/-- A slice that is read: nil, empty, or its cells. -/
theorem rd_slc {e : Ty} {x : (Ty.slc e).den} {H : Heap} {cs : List Value} (h : Rd (.slc e) x H cs) :
    cs = [.slice none 0 0] ∨ cs = [.slice (some ⟨0, 0, some 1⟩) 0 0] ∨ ∃ (l : List e.den) (n c id : Nat) (cells : List Value), cs = [.slice (some ⟨id, 0, none⟩) n c] ∧ n ≤ l.length ∧ H[id]? = some (.cells cells e.size false true) ∧ cells.length = l.length * e.size ∧
      (∀ i x, l[i]? = some x → Rd e x H ((cells.drop (i * e.size)).take e.size)) ∧ (∃ a b, x = some (a, b) ∧ l = a ++ b ∧ n = a.length) := by
  cases x with
  | none => exact .inl h
  | some p =>
    obtain ⟨a, b⟩ := p
    rcases h with ⟨_, _, h⟩ | ⟨id, cells, h1, h2, h3, h4⟩
    · exact .inr (.inl h)
    · exact .inr (.inr ⟨a ++ b, a.length, _, id, cells, h1, by simp, h2, by simpa using h3, h4, a, b, rfl, rfl, rfl⟩)


theorem HLe.len {H H' : Heap} (h : HLe H H') : H.length ≤ H'.length := by
  rcases Nat.lt_or_ge H'.length H.length with h1 | h1
  · have := h H'.length _ (List.getElem?_eq_getElem h1)
    simp at this
  · exact h1
theorem get_lt {H : Heap} {id : Nat} {o : AObj} (h : H[id]? = some o) : id < H.length := (List.getElem?_eq_some_iff.1 h).1

section
variable {H : Heap} {p : IntKind} {a b : Int}
theorem nenn_r : bop .ptr .neq (.pointer none) (.pointer none) H = some (.bool false, H) := by simp [bop, eqv]
theorem eqnn_r : bop .ptr .eql (.pointer none) (.pointer none) H = some (.bool true, H) := by simp [bop, eqv]
theorem and_r : bop .int .and (.int p a) (.int p b) H = some (.int p (p.wrap (BitVec.ofInt p.bits a &&& BitVec.ofInt p.bits b).toNat), H) := by simp [bop, iarith]
theorem or_r : bop .int .or (.int p a) (.int p b) H = some (.int p (p.wrap (BitVec.ofInt p.bits a ||| BitVec.ofInt p.bits b).toNat), H) := by simp [bop, iarith]
theorem xor_r : bop .int .xor (.int p a) (.int p b) H = some (.int p (p.wrap (BitVec.ofInt p.bits a ^^^ BitVec.ofInt p.bits b).toNat), H) := by simp [bop, iarith]
theorem shl_r {q : IntKind} : bop .int .shl (.int p a) (.int q b) H = if b < 0 then none else some (.int p (p.wrap (a * 2 ^ (min b.toNat p.bits))), H) := by
  by_cases h : b < 0 <;> simp [bop, ishift, h]
theorem shr_r {q : IntKind} : bop .int .shr (.int p a) (.int q b) H = if b < 0 then none else some (.int p (a.fdiv (2 ^ (min b.toNat p.bits))), H) := by
  by_cases h : b < 0 <;> simp [bop, ishift, h]
theorem eqs_r {s t : ByteArray} : bop .str .eql (.string s) (.string t) H = some (.bool (s.toList == t.toList), H) := by simp [bop, sop]
theorem nes_r {s t : ByteArray} : bop .str .neq (.string s) (.string t) H = some (.bool (!(s.toList == t.toList)), H) := by simp [bop, sop]
theorem ixv_r {cs : Array Value} {n : Nat} {q : IntKind} {i : Int} : ixv false n 1 (.agg cs) (.int q i) H = if 0 ≤ i ∧ i < n then (cs[i.toNat]?).map (·, H) else none := by
  simp [ixv, prt]
theorem prt_r {cs : Array Value} {n o : Nat} : prt false n (.agg cs) o H = (cs[o]?).map (·, H) := rfl
theorem prtA_r {cs : Array Value} {n o : Nat} : prt true n (.agg cs) o H = some (.agg (cs.extract o (o + n)), H) := rfl
end

theorem extr_q0 {a b c : Value} {H : Heap} : extr (.tuple #[a, b, c]) 0 H = some (a, H) := rfl
theorem extr_q1 {a b c : Value} {H : Heap} : extr (.tuple #[a, b, c]) 1 H = some (b, H) := rfl
theorem extr_q2 {a b c : Value} {H : Heap} : extr (.tuple #[a, b, c]) 2 H = some (c, H) := rfl

/-- Cells of one cell each. -/
theorem cells_one {α : Type} {f : α → Value} {l : List α} {cells : List Value} (h : ∀ i x, l[i]? = some x → (cells.drop (i * 1)).take 1 = [f x]) (hl : cells.length = l.length * 1) : cells = l.map f := by
  apply List.ext_getElem?
  intro i
  rcases Nat.lt_or_ge i l.length with hi | hi
  · have := h i l[i] (List.getElem?_eq_getElem hi)
    have hc : i < cells.length := by omega
    rw [Nat.mul_one, List.drop_eq_getElem_cons hc] at this
    simp only [List.take_succ_cons, List.take_zero, List.cons.injEq, and_true] at this
    rw [List.getElem?_eq_getElem hc, this]
    simp [hi]
  · rw [List.getElem?_eq_none (by omega), List.getElem?_eq_none (by simpa using hi)]

end Go.Proofs.YtlpibiaokpbhbaaGreatDoor.A
