/- Reading by rewriting: what goes on behind a step is not looked at before the step is done. -/
import Derived.Test.YtlpibiaokpbhbaaGreatDoorA21
namespace Go.Proofs.YtlpibiaokpbhbaaGreatDoor.A
set_option linter.unusedVariables false
set_option linter.unusedSimpArgs false

def andk {α β : Type} (x : Option (α × Heap)) (k : α → M β) : Option (β × Heap) :=
  match x with
  | none => none
  | some (a, H) => k a H

def outk {β : Type} (x : Option (Out × Heap)) (kn : List Value → M β) (kx : Nat → List Value → M β) (kr : Value → M β) : Option (β × Heap) :=
  match x with
  | none => none
  | some (.nrm vs, H) => kn vs H
  | some (.ext j vs, H) => kx j vs H
  | some (.ret v, H) => kr v H

/-- What a cell's read answers, where the object is o. -/
def rdk (o : Option AObj) (i : Nat) (H : Heap) : Option (Value × Heap) :=
  match o with
  | some (.cells cs _ _ _) => (cs[i]?).map (·, H)
  | some (.view cs _ nx) => match H[nx]? with
    | some (.cells ds _ _ false) => bif headsL cs ds then (cs[i]?).map (·, H) else none
    | _ => none
  | _ => none
def rdkA (o : Option AObj) (i n : Nat) (H : Heap) : Option (Value × Heap) :=
  match o with
  | some (.cells cs _ _ _) => if i + n ≤ cs.length then some (.agg ((cs.drop i).take n).toArray, H) else none
  | _ => none
def wrk (o : Option AObj) (id i : Nat) (v : Value) (H : Heap) : Option (Value × Heap) :=
  match o with
  | some (.cells cs es g false) => if i < cs.length ∧ oneCell v then some (undef, H.set id (.cells (cs.set i v) es g false)) else none
  | _ => none
def wrkA (o : Option AObj) (id i n : Nat) (vs : Array Value) (H : Heap) : Option (Value × Heap) :=
  match o with
  | some (.cells cs es g false) => if i + n ≤ cs.length ∧ vs.size = n ∧ vs.toList.all oneCell then some (undef, H.set id (.cells (splice cs vs.toList i) es g false)) else none
  | _ => none

section
variable {α β : Type} {k : α → M β} {H : Heap}
theorem bind_andk {m : M α} : bind m k H = andk (m H) k := by unfold bind andk; rfl
@[congr] theorem andk_congr {x x' : Option (α × Heap)} {k : α → M β} (h : x = x') : andk x k = andk x' k := by rw [h]
theorem andk_some {a : α} : andk (some (a, H)) k = k a H := rfl
theorem andk_none : andk none k = none := rfl
theorem andk_ite {c : Prop} [Decidable c] {x y : Option (α × Heap)} : andk (if c then x else y) k = if c then andk x k else andk y k := by split <;> rfl
theorem jn_outk {m : M Out} {kn : List Value → M β} {kx : Nat → List Value → M β} {kr : Value → M β} : jn m kn kx kr H = outk (m H) kn kx kr := by
  unfold jn bind outk
  cases m H with
  | none => rfl
  | some p => obtain ⟨o, H'⟩ := p; cases o <;> rfl
@[congr] theorem outk_congr {x x' : Option (Out × Heap)} {kn : List Value → M β} {kx : Nat → List Value → M β} {kr : Value → M β} (h : x = x') : outk x kn kx kr = outk x' kn kx kr := by rw [h]
section
variable {kn : List Value → M β} {kx : Nat → List Value → M β} {kr : Value → M β}
theorem outk_nrm {vs : List Value} : outk (some (.nrm vs, H)) kn kx kr = kn vs H := rfl
theorem outk_ext {j : Nat} {vs : List Value} : outk (some (.ext j vs, H)) kn kx kr = kx j vs H := rfl
theorem outk_ret {v : Value} : outk (some (.ret v, H)) kn kx kr = kr v H := rfl
theorem outk_none : outk none kn kx kr = none := rfl
theorem outk_ite {c : Prop} [Decidable c] {x y : Option (Out × Heap)} : outk (if c then x else y) kn kx kr = if c then outk x kn kx kr else outk y kn kx kr := by split <;> rfl
end
theorem cnd_b {t : Bool} {a b : M β} : cnd (.bool t) a b H = if t = true then a H else b H := by cases t <;> rfl
theorem ret_r {a : α} : ret a H = some (a, H) := rfl
end

section
variable {H : Heap} {id o : Nat}
theorem nilc_r {a : Addr} : nilc (.pointer (some a)) H = some (.pointer (some a), H) := rfl
theorem fa_r {off : Nat} : fa off (.pointer (some ⟨id, o, none⟩)) H = some (.pointer (some ⟨id, o + off, none⟩), H) := rfl
theorem ldOne_r : ld1 (.pointer (some ⟨id, o, none⟩)) H = rdk H[id]? o H := by unfold ld1 rdk; rfl
theorem ldA_r {n : Nat} : ldA n (.pointer (some ⟨id, o, none⟩)) H = rdkA H[id]? o n H := by unfold ldA rdkA; rfl
theorem stOne_r {v : Value} : st1 (.pointer (some ⟨id, o, none⟩)) v H = wrk H[id]? id o v H := by unfold st1 wrk; rfl
theorem stA_r {n : Nat} {vs : Array Value} : stA n (.pointer (some ⟨id, o, none⟩)) (.agg vs) H = wrkA H[id]? id o n vs H := by unfold stA wrkA; rfl
theorem rdk_r {cs : List Value} {es : Nat} {g ro : Bool} {i : Nat} : rdk (some (.cells cs es g ro)) i H = (cs[i]?).map (·, H) := rfl
theorem rdkA_r {cs : List Value} {es n : Nat} {g ro : Bool} {i : Nat} : rdkA (some (.cells cs es g ro)) i n H = if i + n ≤ cs.length then some (.agg ((cs.drop i).take n).toArray, H) else none := rfl
theorem wrk_r {cs : List Value} {es : Nat} {g : Bool} {i : Nat} {v : Value} : wrk (some (.cells cs es g false)) id i v H = if i < cs.length ∧ oneCell v then some (undef, H.set id (.cells (cs.set i v) es g false)) else none := rfl
theorem wrkA_r {cs : List Value} {es n : Nat} {g : Bool} {i : Nat} {vs : Array Value} : wrkA (some (.cells cs es g false)) id i n vs H =
    if i + n ≤ cs.length ∧ vs.size = n ∧ vs.toList.all oneCell then some (undef, H.set id (.cells (splice cs vs.toList i) es g false)) else none := rfl
theorem alc_r {es : Nat} {v : Value} : alc es v H = if v.cells.toList.all oneCell then some (.pointer (some ⟨H.length, 0, none⟩), H ++ [.cells v.cells.toList es false false]) else none := rfl
theorem lenS_r {a : Option Addr} {n c : Nat} : lenS (.slice a n c) H = some (.int .i64 n, H) := rfl
theorem lenT_r {s : ByteArray} : lenT (.string s) H = some (.int .i64 s.size, H) := rfl
theorem cvi_r {q p : IntKind} {n : Int} : cvi q (.int p n) H = some (.int q (q.wrap n), H) := rfl
theorem pick_r {t : Bool} {x y : Value} : pick (.bool t) x y H = some (bif t then x else y, H) := rfl
theorem not_r {t : Bool} : uop .not (.bool t) H = some (.bool (!t), H) := rfl
theorem mx_r {p : IntKind} {a b : Int} : mxi true (.int p a) (.int p b) H = some (.int p (if b > a then b else a), H) := rfl
theorem mn_r {p : IntKind} {a b : Int} : mxi false (.int p a) (.int p b) H = some (.int p (if b < a then b else a), H) := rfl
theorem ixa_r {n c sz : Nat} {q : IntKind} {i : Int} : ixa sz (.slice (some ⟨id, o, none⟩) n c) (.int q i) H = if 0 ≤ i ∧ i < n then some (.pointer (some ⟨id, o + i.toNat * sz, none⟩), H) else none := rfl
theorem ixaA_r {n sz : Nat} {q : IntKind} {i : Int} : ixaA n sz (.pointer (some ⟨id, o, none⟩)) (.int q i) H = if 0 ≤ i ∧ i < n then some (.pointer (some ⟨id, o + i.toNat * sz, none⟩), H) else none := rfl
theorem extr_r {vs : Array Value} {i : Nat} : extr (.tuple vs) i H = bif Nat.beq vs.size 1 then none else (vs[i]?).map (·, H) := rfl
theorem bld_r {z : Value} {ps : List (Nat × Nat × Value)} : bld z ps H = (bldC z.cells.toList ps).map fun cs => (.agg cs.toArray, H) := rfl
section
variable {p : IntKind} {a b : Int}
theorem add_r : bop .int .add (.int p a) (.int p b) H = some (.int p (p.wrap (a + b)), H) := by simp [bop, iarith]
theorem sub_r : bop .int .sub (.int p a) (.int p b) H = some (.int p (p.wrap (a - b)), H) := by simp [bop, iarith]
theorem mul_r : bop .int .mul (.int p a) (.int p b) H = some (.int p (p.wrap (a * b)), H) := by simp [bop, iarith]
theorem quo_r : bop .int .quo (.int p a) (.int p b) H = if b = 0 then none else some (.int p (p.wrap (a.tdiv b)), H) := by
  by_cases h : b = 0
  · simp [bop, iarith, h]
  · have e : (b == 0) = false := by simpa using h
    simp [bop, iarith, h, e]
theorem rem_r : bop .int .rem (.int p a) (.int p b) H = if b = 0 then none else some (.int p (a.tmod b), H) := by
  by_cases h : b = 0
  · simp [bop, iarith, h]
  · have e : (b == 0) = false := by simpa using h
    simp [bop, iarith, h, e]
theorem eql_r : bop .int .eql (.int p a) (.int p b) H = some (.bool (a == b), H) := by simp [bop, iarith]
theorem neq_r : bop .int .neq (.int p a) (.int p b) H = some (.bool (a != b), H) := by simp [bop, iarith]
theorem lss_r : bop .int .lss (.int p a) (.int p b) H = some (.bool (decide (a < b)), H) := by simp [bop, iarith]
theorem leq_r : bop .int .leq (.int p a) (.int p b) H = some (.bool (decide (a ≤ b)), H) := by simp [bop, iarith]
theorem gtr_r : bop .int .gtr (.int p a) (.int p b) H = some (.bool (decide (a > b)), H) := by simp [bop, iarith]
theorem geq_r : bop .int .geq (.int p a) (.int p b) H = some (.bool (decide (a ≥ b)), H) := by simp [bop, iarith]
end
theorem eqb_r {a b : Bool} : bop .bool .eql (.bool a) (.bool b) H = some (.bool (a == b), H) := by simp [bop, eqv]
theorem neb_r {a b : Bool} : bop .bool .neq (.bool a) (.bool b) H = some (.bool (!(a == b)), H) := by simp [bop, eqv]
theorem eqp_r {a : Addr} : bop .ptr .eql (.pointer (some a)) (.pointer none) H = some (.bool false, H) := by simp [bop, eqv]
theorem nep_r {a : Addr} : bop .ptr .neq (.pointer (some a)) (.pointer none) H = some (.bool true, H) := by simp [bop, eqv]
theorem gv_r {t u : Bool} {m : M Value} : gateV (.bool t) u m H = if t = u then m H else some (notW, H) := by
  cases t <;> cases u <;> rfl
theorem gvn_r {u : Bool} {m : M Value} : gateV notW u m H = some (notW, H) := rfl
theorem g_r {t u : Bool} {n : Nat} {m : M (List Value)} : gate (.bool t) u n m H = if t = u then m H else some (List.replicate n notW, H) := by
  cases t <;> cases u <;> rfl
theorem gn_r {u : Bool} {n : Nat} {m : M (List Value)} : gate notW u n m H = some (List.replicate n notW, H) := rfl
end
end Go.Proofs.YtlpibiaokpbhbaaGreatDoor.A
