/- Steps of the abstract machine, as rewrite rules. -/
import Derived.Test.YtlpibiaokpbhbaaGreatDoorA20
namespace Go.Proofs.YtlpibiaokpbhbaaGreatDoor.A
set_option linter.unusedVariables false
set_option linter.unusedSimpArgs false

theorem w64 {n : Int} (h1 : -9223372036854775808 ≤ n) (h2 : n ≤ 9223372036854775807) : IntKind.i64.wrap n = n := by
  have e : IntKind.i64.wrap n = if (n % 18446744073709551616 : Int) ≥ 9223372036854775808 then n % 18446744073709551616 - 18446744073709551616 else n % 18446744073709551616 := by
    simp [IntKind.wrap, IntKind.bits, IntKind.signed]
  rw [e]
  split <;> omega

theorem wu64 (n : Int) : IntKind.u64.wrap n = n % 18446744073709551616 := by simp [IntKind.wrap, IntKind.bits, IntKind.signed]
theorem wu32 (n : Int) : IntKind.u32.wrap n = n % 4294967296 := by simp [IntKind.wrap, IntKind.bits, IntKind.signed]
theorem wu8 (n : Int) : IntKind.u8.wrap n = n % 256 := by simp [IntKind.wrap, IntKind.bits, IntKind.signed]

section
variable {β : Type} {H : Heap} {id o es n : Nat} {cs : List Value} {g ro : Bool} {v x y : Value} {k : Value → M β}

theorem b_ret {α : Type} {a : α} {k : α → M β} : bind (ret a) k H = k a H := rfl
theorem b_nilc {a : Addr} : bind (nilc (.pointer (some a))) k H = k (.pointer (some a)) H := rfl
theorem b_fa {off : Nat} : bind (fa off (.pointer (some ⟨id, o, none⟩))) k H = k (.pointer (some ⟨id, o + off, none⟩)) H := rfl
theorem b_ld1 (h : H[id]? = some (.cells cs es g ro)) (h2 : cs[o]? = some v) : bind (ld1 (.pointer (some ⟨id, o, none⟩))) k H = k v H := by
  simp [bind, ld1, h, h2]
theorem b_ldA (h : H[id]? = some (.cells cs es g ro)) (h2 : o + n ≤ cs.length) : bind (ldA n (.pointer (some ⟨id, o, none⟩))) k H = k (.agg ((cs.drop o).take n).toArray) H := by
  simp [bind, ldA, h, h2]
theorem b_st1 (h : H[id]? = some (.cells cs es g false)) (h2 : o < cs.length) (h3 : oneCell v = true) : bind (st1 (.pointer (some ⟨id, o, none⟩)) v) k H = k undef (H.set id (.cells (cs.set o v) es g false)) := by
  simp [bind, st1, h, h2, h3]
theorem b_stA {vs : List Value} (h : H[id]? = some (.cells cs es g false)) (h2 : o + n ≤ cs.length) (h4 : vs.length = n) (h3 : vs.all oneCell = true) :
    bind (stA n (.pointer (some ⟨id, o, none⟩)) (.agg vs.toArray)) k H = k undef (H.set id (.cells (splice cs vs o) es g false)) := by
  simp only [List.all_eq_true] at h3
  simp [bind, stA, h, h2, h4]
  rw [if_pos h3]
theorem b_alc1 (h : oneCell v = true) : bind (alc es v) k H = k (.pointer (some ⟨H.length, 0, none⟩)) (H ++ [.cells [v] es false false]) := by
  cases v <;> simp_all [bind, alc, newc, Value.cells, oneCell]
theorem b_alcA {vs : List Value} (h : vs.all oneCell = true) : bind (alc es (.agg vs.toArray)) k H = k (.pointer (some ⟨H.length, 0, none⟩)) (H ++ [.cells vs es false false]) := by
  simp only [List.all_eq_true] at h
  simp [bind, alc, newc, Value.cells]
  rw [if_pos h]
theorem b_lenS {a : Option Addr} {c : Nat} : bind (lenS (.slice a n c)) k H = k (.int .i64 n) H := rfl
theorem b_lenT {s : ByteArray} : bind (lenT (.string s)) k H = k (.int .i64 s.size) H := rfl
theorem b_cvi {q p : IntKind} {n : Int} : bind (cvi q (.int p n)) k H = k (.int q (q.wrap n)) H := rfl
theorem b_pick {t : Bool} : bind (pick (.bool t) x y) k H = k (bif t then x else y) H := rfl
theorem b_not {t : Bool} : bind (uop .not (.bool t)) k H = k (.bool (!t)) H := rfl
theorem b_mx {p : IntKind} {a b : Int} : bind (mxi true (.int p a) (.int p b)) k H = k (.int p (if b > a then b else a)) H := rfl
theorem b_mn {p : IntKind} {a b : Int} : bind (mxi false (.int p a) (.int p b)) k H = k (.int p (if b < a then b else a)) H := rfl
theorem b_ixa {c sz : Nat} {q : IntKind} {i : Int} (h : 0 ≤ i ∧ i < n) : bind (ixa sz (.slice (some ⟨id, o, none⟩) n c) (.int q i)) k H = k (.pointer (some ⟨id, o + i.toNat * sz, none⟩)) H := by
  simp [bind, ixa, h]

section
variable {p : IntKind} {a b : Int}
theorem b_add : bind (bop .int .add (.int p a) (.int p b)) k H = k (.int p (p.wrap (a + b))) H := by simp [bind, bop, iarith]
theorem b_sub : bind (bop .int .sub (.int p a) (.int p b)) k H = k (.int p (p.wrap (a - b))) H := by simp [bind, bop, iarith]
theorem b_mul : bind (bop .int .mul (.int p a) (.int p b)) k H = k (.int p (p.wrap (a * b))) H := by simp [bind, bop, iarith]
theorem b_quo (h : b ≠ 0) : bind (bop .int .quo (.int p a) (.int p b)) k H = k (.int p (p.wrap (a.tdiv b))) H := by
  have : (b == 0) = false := by simpa using h
  simp [bind, bop, iarith, this]
theorem b_rem (h : b ≠ 0) : bind (bop .int .rem (.int p a) (.int p b)) k H = k (.int p (a.tmod b)) H := by
  have : (b == 0) = false := by simpa using h
  simp [bind, bop, iarith, this]
theorem b_eql : bind (bop .int .eql (.int p a) (.int p b)) k H = k (.bool (a == b)) H := by simp [bind, bop, iarith]
theorem b_neq : bind (bop .int .neq (.int p a) (.int p b)) k H = k (.bool (a != b)) H := by simp [bind, bop, iarith]
theorem b_lss : bind (bop .int .lss (.int p a) (.int p b)) k H = k (.bool (decide (a < b))) H := by simp [bind, bop, iarith]
theorem b_leq : bind (bop .int .leq (.int p a) (.int p b)) k H = k (.bool (decide (a ≤ b))) H := by simp [bind, bop, iarith]
theorem b_gtr : bind (bop .int .gtr (.int p a) (.int p b)) k H = k (.bool (decide (a > b))) H := by simp [bind, bop, iarith]
theorem b_geq : bind (bop .int .geq (.int p a) (.int p b)) k H = k (.bool (decide (a ≥ b))) H := by simp [bind, bop, iarith]
end
theorem b_eqb {a b : Bool} : bind (bop .bool .eql (.bool a) (.bool b)) k H = k (.bool (a == b)) H := by simp [bind, bop, eqv]
theorem b_neb {a b : Bool} : bind (bop .bool .neq (.bool a) (.bool b)) k H = k (.bool (!(a == b))) H := by simp [bind, bop, eqv]
theorem b_eqp {a : Addr} : bind (bop .ptr .eql (.pointer (some a)) (.pointer none)) k H = k (.bool false) H := by simp [bind, bop, eqv]
theorem b_nep {a : Addr} : bind (bop .ptr .neq (.pointer (some a)) (.pointer none)) k H = k (.bool true) H := by simp [bind, bop, eqv]

theorem b_gv_in {t : Bool} {m : M Value} : bind (gateV (.bool t) t m) k H = bind m k H := by simp [gateV]
theorem b_gv_out {t u : Bool} {m : M Value} (h : (t == u) = false) : bind (gateV (.bool t) u m) k H = k notW H := by simp [gateV, h, bind, ret]
theorem b_gv_no {u : Bool} {m : M Value} : bind (gateV notW u m) k H = k notW H := rfl
theorem b_g_in {t : Bool} {m : M (List Value)} {k : List Value → M β} : bind (gate (.bool t) t n m) k H = bind m k H := by simp [gate]
theorem b_g_out {t u : Bool} {m : M (List Value)} {k : List Value → M β} (h : (t == u) = false) : bind (gate (.bool t) u n m) k H = k (List.replicate n notW) H := by simp [gate, h, bind, ret]
theorem b_g_no {u : Bool} {m : M (List Value)} {k : List Value → M β} : bind (gate notW u n m) k H = k (List.replicate n notW) H := rfl
theorem c_true {a b : M β} : cnd (.bool true) a b = a := rfl
theorem c_false {a b : M β} : cnd (.bool false) a b = b := rfl
theorem c_bool {t : Bool} {a b : M β} : cnd (.bool t) a b = bif t then a else b := rfl
end

theorem set_get {H : Heap} {id : Nat} {a b : AObj} (h : H[id]? = some a) : (H.set id b)[id]? = some b :=
  List.getElem?_set_self (List.getElem?_eq_some_iff.1 h).1
theorem set_get_ne {H : Heap} {id j : Nat} {b : AObj} (h : id ≠ j) : (H.set id b)[j]? = H[j]? := List.getElem?_set_ne h
theorem app_get {H l : Heap} {id : Nat} {a : AObj} (h : H[id]? = some a) : (H ++ l)[id]? = some a := by
  rw [List.getElem?_append_left (List.getElem?_eq_some_iff.1 h).1]; exact h
theorem app_new {H : Heap} {a : AObj} : (H ++ [a])[H.length]? = some a := by simp

end Go.Proofs.YtlpibiaokpbhbaaGreatDoor.A
