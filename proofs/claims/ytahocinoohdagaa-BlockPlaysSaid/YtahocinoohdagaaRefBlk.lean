/- The document's device. -/
import Derived.Test.YtahocinoohdagaaBlkActs
namespace Go.Proofs.Ytahocinoohdagaa.A
set_option linter.unusedVariables false
set_option linter.unusedSimpArgs false
open Go.Proofs Go.Proofs.Ytahocinoohdagaa

structure RW where
  i : Nat
  b : List UInt8
  k : Bool

structure RS where
  n : Nat
  l : List RW
  down : Bool
  fuse : Int
  mask : Nat

def wcell (w : RW) : List Value := [iv w.i, strv w.b, .bool w.k]
def RS.cells (w : RS) (sl : Value) : List Value := [iv w.n, sl, .bool w.down, iv w.fuse, .int .u64 w.mask]
abbrev RS.val (w : RS) (sl : Value) : Value := .agg (w.cells sl).toArray

def lastR (i : Nat) : List RW → Option (List UInt8)
  | [] => none
  | w :: l => match lastR i l with
    | some b => some b
    | none => if w.i = i then some (pad w.b) else none

def RS.blk (w : RS) (i : Nat) : List UInt8 := (lastR i w.l).getD zeroB
def RS.waits (w : RS) : Nat := (w.l.filter fun x => !x.k).length

def rcutL (m : Nat) : Nat → List RW → List RW
  | _, [] => []
  | k, w :: l => if w.k then w :: rcutL m k l else if cbit m k then { w with k := true } :: rcutL m (k + 1) l else rcutL m (k + 1) l

def RS.cut (w : RS) (m : Nat) : RS := if w.down then w else { w with l := rcutL m 0 w.l, down := true, fuse := -1 }
def RS.burn (w : RS) : RS × Int := if w.fuse < 0 then (w, 0) else if w.fuse = 0 then (w.cut w.mask, 15) else ({ w with fuse := w.fuse - 1 }, 0)
def RS.put (w : RS) (i : Int) (b : List UInt8) : RS × Int :=
  if w.down then (w, 15) else if i < 0 ∨ i ≥ w.n then (w, 1) else if b.length > 128 then (w, 3) else
    if w.burn.2 = 0 then ({ w.burn.1 with l := w.l ++ [⟨i.toNat, b, false⟩] }, 0) else w.burn
def RS.flush (w : RS) : RS × Int := if w.down then (w, 15) else if w.burn.2 = 0 then ({ w.burn.1 with l := w.l.map fun x => { x with k := true } }, 0) else w.burn

/-- As it lies: its row. -/
structure Ref (H : Heap) (sl : Value) (w : RS) : Prop where
  row : SlN 3 H sl (w.l.map wcell)
  few : w.l.length ≤ 100000
  sz : ∀ x ∈ w.l, x.b.length ≤ 128
  f : w.fuse ≤ 9223372036854775807

section
variable {H H' : Heap} {sl : Value} {w : RS} {n : Nat}

theorem Ref.mono (h : Ref H sl w) (hl : HLe H H') : Ref H' sl w := ⟨h.row.mono hl, h.few, h.sz, h.f⟩
theorem Ref.len (h : Ref H sl w) (H' : Heap) : lenS sl H' = some (iv w.l.length, H') := by
  have := h.row.len (H' := H'); rwa [List.length_map] at this
theorem Ref.all (h : Ref H sl w) : (w.cells sl).all oneCell = true := by
  have := h.row.one.1
  simp only [RS.cells, List.all_cons, this]
  rfl

/-- The row's element. -/
theorem Ref.fetch {β : Type} {K : Value → M β} (h : Ref H sl w) {k : Nat} {x : RW} (hk : w.l[k]? = some x) :
    bind (ixa 3 sl (iv k)) (fun p => bind (ldA 3 p) fun v => bind (alc 1 (.agg #[.int .i64 0, .string ⟨#[]⟩, .bool false])) fun q => bind (stA 3 q v) fun _ => K q) H = K (pt H.length) (H ++ [.cells (wcell x) 1 false false]) := by
  have hr : (w.l.map wcell)[k]? = some (wcell x) := by rw [List.getElem?_map, hk]; rfl
  rw [h.row.fetch hr (by omega) .i64]
  exact box_a (n := 3) (zs := [.int .i64 0, .string ⟨#[]⟩, .bool false]) (r := wcell x) rfl rfl rfl rfl

theorem r_refNew (m : Int) (H : Heap) : ∃ H', R (n + 1) n_ref21New [iv m] H = some (RS.val { n := m.toNat, l := [], down := false, fuse := -1, mask := 0 } (.slice none 0 0), H') ∧ HLe H H' := by
  rw [R, run_ref21New rfl]
  unfold F_ref21New
  have hm : (if m > 0 then m else 0) = ((m.toNat : Nat) : Int) := by split <;> omega
  generalize hH1 : H ++ [AObj.cells [.int .i64 0, .slice none 0 0, .bool false, .int .i64 0, .int .u64 0] 1 false false] = H1
  have a1 : alc 1 (.agg #[.int .i64 0, .slice none 0 0, .bool false, .int .i64 0, .int .u64 0]) H = some (pt H.length, H1) := by
    rw [← hH1]; exact alc_a (vs := [.int .i64 0, .slice none 0 0, .bool false, .int .i64 0, .int .u64 0]) rfl
  have hc : H1[H.length]? = some (.cells [.int .i64 0, .slice none 0 0, .bool false, .int .i64 0, .int .u64 0] 1 false false) := by rw [← hH1]; exact app_new
  have le1 : HLe H H1 := by rw [← hH1]; exact .app _ _
  have a2 : bld (.agg #[.int .i64 0, .slice none 0 0, .bool false, .int .i64 0, .int .u64 0]) [(0, 1, iv m.toNat), (3, 1, (Value.int .i64 (-1)))] H1 = some (.agg #[iv m.toNat, .slice none 0 0, .bool false, iv (-1), .int .u64 0], H1) := by
    simp [bld, bldC, Value.cells, isTup, splice]
  have a3 := stA_at (n := 5) (vs := [iv m.toNat, .slice none 0 0, .bool false, iv (-1), .int .u64 0]) hc rfl rfl rfl
  generalize hH2 : H1.set H.length (.cells [iv m.toNat, .slice none 0 0, .bool false, iv (-1), .int .u64 0] 1 false false) = H2 at a3
  have hc2 : H2[H.length]? = some (.cells [iv m.toNat, .slice none 0 0, .bool false, iv (-1), .int .u64 0] 1 false false) := by rw [← hH2]; exact set_get hc
  have a4 := ldA_at (n := 5) hc2 rfl
  refine ⟨H2, ?_, fun j o ho => ?_⟩
  · rw [bind_eq a1, bind_eq mx_r, hm, bind_eq a2, bind_eq a3, bind_eq a4]
    rfl
  · have := get_lt ho
    rw [← hH2, List.getElem?_set_ne (by omega)]
    exact le1 _ _ ho

theorem bit_do {m : Nat} (hm : m < 18446744073709551616) : ∀ (t r k : Nat) {H : Heap}, r - k = t → k ≤ r → r ≤ 64 →
    loopM (fun vs => F_ref21Bit.l1 (R n) (vs.headD undef) (vs.tail.headD undef) (vs.tail.tail.headD undef)) [.int .u64 ((m / 2 ^ k : Nat) : Int), iv r, iv k] H = some (.ext 0 [.int .u64 ((m / 2 ^ r : Nat) : Int)], H)
  | 0, r, k, H, ht, hk, hr => by
    have : k = r := by omega
    subst this
    refine loop_ext ?_
    simp only [F_ref21Bit.l1, List.headD_cons, List.tail_cons]
    rw [bind_eq lss_r, cnd_b, if_neg (by simp)]
    rfl
  | t + 1, r, k, H, ht, hk, hr => by
    have hlt : (k : Int) < r := by omega
    have w1 : IntKind.i64.wrap ((k : Int) + 1) = ((k + 1 : Nat) : Int) := by rw [w64 (by omega) (by omega)]; simp
    have hq : ∀ x : Nat, x < 18446744073709551616 → IntKind.u64.wrap ((x : Int).tdiv 2) = ((x / 2 : Nat) : Int) := fun x hx => by
      rw [wu64, Int.tdiv_eq_ediv_of_nonneg (by omega)]; omega
    have hmk : m / 2 ^ k < 18446744073709551616 := Nat.lt_of_le_of_lt (Nat.div_le_self _ _) hm
    have hdd : m / 2 ^ k / 2 = m / 2 ^ (k + 1) := by rw [Nat.div_div_eq_div_mul, Nat.pow_succ]
    have hb : F_ref21Bit.l1 (R n) (.int .u64 ((m / 2 ^ k : Nat) : Int)) (iv r) (iv k) H = some (.nrm [.int .u64 ((m / 2 ^ (k + 1) : Nat) : Int), iv r, iv ((k + 1 : Nat) : Int)], H) := by
      unfold F_ref21Bit.l1
      rw [bind_eq lss_r, cnd_b, if_pos (by simpa using hlt), bind_eq (quo_r.trans (if_neg (by omega))), hq _ hmk, hdd, bind_eq add_r, w1]
      rfl
    exact (loop_next (by simp only [List.headD_cons, List.tail_cons]; exact hb)).trans (bit_do hm t r (k + 1) (by omega) (by omega) hr)

theorem ext_hit0 {β : Type} {j : Nat} {a b : M β} {H : Heap} : (bif Nat.beq j j then a else b) H = a H := by
  rw [Nat.beq_refl, cond_true]

theorem r_refBit {m k : Nat} (hm : m < 18446744073709551616) (H : Heap) : R (n + 1) n_ref21Bit [.int .u64 m, iv k] H = some (.bool (cbit m k), H) := by
  rw [R, run_ref21Bit rfl]
  unfold F_ref21Bit
  have h64 : (k : Int).tmod 64 = ((k % 64 : Nat) : Int) := by rw [Int.tmod_eq_emod_of_nonneg (by omega)]; omega
  have h2 : ∀ x : Nat, (x : Int).tmod 2 = ((x % 2 : Nat) : Int) := fun x => by rw [Int.tmod_eq_emod_of_nonneg (by omega)]; omega
  have e := bit_do (n := n) hm (k % 64) (k % 64) 0 (H := H) rfl (Nat.zero_le _) (by omega)
  rw [show ((0 : Nat) : Int) = 0 from rfl, Nat.pow_zero, Nat.div_one] at e
  rw [bind_eq (rem_r.trans (if_neg (by omega))), h64, jn_ext e, ext_hit0]
  simp only [List.headD_cons]
  rw [bind_eq (rem_r.trans (if_neg (by omega))), h2, bind_eq eql_r, testBit_mod]
  unfold cbit
  cases m.testBit (k % 64) <;> rfl

/-! how many wait -/

theorem waits_do (h : Ref H sl w) : ∀ (t k c : Nat) {X : Heap}, w.l.length - k = t → k ≤ w.l.length → c ≤ k → HLe H X →
    ∃ X', loopM (fun vs => F_ref21Waiting.l1 (R n) (vs.headD undef) (vs.tail.headD undef) (vs.tail.tail.headD undef) (vs.tail.tail.tail.headD undef)) [iv c, sl, iv w.l.length, iv k] X = some (.ext 0 [iv ((c + ((w.l.drop k).filter fun x => !x.k).length : Nat) : Int)], X') ∧ HLe H X'
  | 0, k, c, X, ht, hk, hc, hle => by
    have : k = w.l.length := by omega
    subst this
    refine ⟨X, loop_ext ?_, hle⟩
    simp only [F_ref21Waiting.l1, List.headD_cons, List.tail_cons]
    rw [bind_eq lss_r, cnd_b, if_neg (by simp)]
    simp [ret]
  | t + 1, k, c, X, ht, hk, hc, hle => by
    have hkl : k < w.l.length := by omega
    have hlt : (k : Int) < w.l.length := by omega
    have hfew := h.few
    have w1 : IntKind.i64.wrap ((k : Int) + 1) = ((k + 1 : Nat) : Int) := by rw [w64 (by omega) (by omega)]; simp
    have w2 : IntKind.i64.wrap ((c : Int) + 1) = ((c + 1 : Nat) : Int) := by rw [w64 (by omega) (by omega)]; simp
    have hx := List.getElem?_eq_getElem hkl
    have hd := List.drop_eq_getElem_cons hkl
    generalize w.l[k] = x at hx hd
    have hb0 : (X ++ [AObj.cells (wcell x) 1 false false])[X.length]? = some (.cells (wcell x) 1 false false) := app_new
    have l2 : ld1 (pa X.length 2) (X ++ [.cells (wcell x) 1 false false]) = some (.bool x.k, X ++ [.cells (wcell x) 1 false false]) := ld1_at hb0 rfl
    have hle' := hle.trans (HLe.app X [.cells (wcell x) 1 false false])
    cases hxk : x.k
    · obtain ⟨X', e, r⟩ := waits_do h t (k + 1) (c + 1) (by omega) (by omega) (by omega) hle'
      rw [hxk] at l2
      have hb : F_ref21Waiting.l1 (R n) (iv c) sl (iv w.l.length) (iv k) X = some (.nrm [iv ((c + 1 : Nat) : Int), sl, iv w.l.length, iv ((k + 1 : Nat) : Int)], X ++ [.cells (wcell x) 1 false false]) := by
        unfold F_ref21Waiting.l1
        rw [bind_eq lss_r, cnd_b, if_pos (by simpa using hlt), (h.mono hle).fetch hx, bind_eq fa_z, bind_eq l2, bind_eq not_r]
        refine (jn_nrm (vs := [iv ((c + 1 : Nat) : Int), sl, iv w.l.length, iv k]) (H' := X ++ [.cells (wcell x) 1 false false]) ?_).trans ?_
        · rw [cnd_b, if_pos (by simp), bind_eq add_r, w2]
          rfl
        · simp only [List.headD_cons, List.tail_cons]
          rw [bind_eq add_r, w1]
          rfl
      refine ⟨X', ((loop_next (by simp only [List.headD_cons, List.tail_cons]; exact hb)).trans e).trans ?_, r⟩
      rw [hd, List.filter_cons, hxk]
      simp only [Bool.not_false, if_true, List.length_cons]
      congr 6; omega
    · obtain ⟨X', e, r⟩ := waits_do h t (k + 1) c (by omega) (by omega) (by omega) hle'
      rw [hxk] at l2
      have hb : F_ref21Waiting.l1 (R n) (iv c) sl (iv w.l.length) (iv k) X = some (.nrm [iv c, sl, iv w.l.length, iv ((k + 1 : Nat) : Int)], X ++ [.cells (wcell x) 1 false false]) := by
        unfold F_ref21Waiting.l1
        rw [bind_eq lss_r, cnd_b, if_pos (by simpa using hlt), (h.mono hle).fetch hx, bind_eq fa_z, bind_eq l2, bind_eq not_r]
        refine (jn_nrm (vs := [iv c, sl, iv w.l.length, iv k]) (H' := X ++ [.cells (wcell x) 1 false false]) ?_).trans ?_
        · rw [cnd_b, if_neg (by simp)]
          rfl
        · simp only [List.headD_cons, List.tail_cons]
          rw [bind_eq add_r, w1]
          rfl
      refine ⟨X', ((loop_next (by simp only [List.headD_cons, List.tail_cons]; exact hb)).trans e).trans ?_, r⟩
      rw [hd, List.filter_cons, hxk]
      rfl

/-- The argument, boxed. -/
theorem Ref.box (h : Ref H sl w) : alc 1 (w.val sl) H = some (pt H.length, H ++ [.cells (w.cells sl) 1 false false]) := alc_a h.all

theorem r_refWaiting (h : Ref H sl w) : ∃ H', R (n + 1) n_ref21Waiting [w.val sl] H = some (iv w.waits, H') ∧ HLe H H' := by
  have a1 := h.box
  generalize hH1 : H ++ [AObj.cells (w.cells sl) 1 false false] = H1 at a1
  have le1 : HLe H H1 := by rw [← hH1]; exact .app _ _
  have hc : H1[H.length]? = some (.cells (w.cells sl) 1 false false) := by rw [← hH1]; exact app_new
  have a2 : ld1 (pa H.length 1) H1 = some (sl, H1) := ld1_at hc rfl
  obtain ⟨H2, e2, le2⟩ := waits_do (n := n) (h.mono le1) w.l.length 0 0 rfl (by omega) (by omega) (.refl _)
  rw [show ((0 : Nat) : Int) = 0 from rfl] at e2
  refine ⟨H2, ?_, le1.trans le2⟩
  rw [R, run_ref21Waiting rfl]
  unfold F_ref21Waiting
  rw [bind_eq a1, bind_eq fa_z, bind_eq a2, bind_eq (h.len H1), jn_ext e2, ext_hit0]
  simp only [List.drop_zero, Nat.zero_add, List.headD_cons]
  rfl

/-! a block -/

theorem lastR_take (i : Nat) (x : RW) : ∀ l : List RW, lastR i (l ++ [x]) = if x.i = i then some (pad x.b) else lastR i l
  | [] => by simp [lastR]
  | y :: l => by
    simp only [List.cons_append, lastR, lastR_take i x l]
    by_cases h : x.i = i <;> simp [h]

theorem block_do (h : Ref H sl w) (i : Nat) : ∀ (t k : Nat) {X : Heap}, w.l.length - k = t → k ≤ w.l.length → HLe H X →
    ∃ X', loopM (fun vs => F_ref21Block.l1 (R n) (vs.headD undef) (vs.tail.headD undef) (vs.tail.tail.headD undef) (vs.tail.tail.tail.headD undef) (vs.tail.tail.tail.tail.headD undef)) [iv i, strv ((lastR i (w.l.take k)).getD zeroB), sl, iv w.l.length, iv k] X = some (.ext 0 [strv (w.blk i)], X') ∧ HLe H X'
  | 0, k, X, ht, hk, hle => by
    have : k = w.l.length := by omega
    subst this
    refine ⟨X, loop_ext ?_, hle⟩
    simp only [F_ref21Block.l1, List.headD_cons, List.tail_cons]
    rw [bind_eq lss_r, cnd_b, if_neg (by simp), List.take_length]
    rfl
  | t + 1, k, X, ht, hk, hle => by
    have hkl : k < w.l.length := by omega
    have hlt : (k : Int) < w.l.length := by omega
    have hfew := h.few
    have w1 : IntKind.i64.wrap ((k : Int) + 1) = ((k + 1 : Nat) : Int) := by rw [w64 (by omega) (by omega)]; simp
    have hx := List.getElem?_eq_getElem hkl
    have hsz := h.sz _ (List.getElem_mem hkl)
    have htk : w.l.take (k + 1) = w.l.take k ++ [w.l[k]] := by rw [List.take_add_one, hx]; rfl
    generalize w.l[k] = x at hx htk hsz
    generalize hX1 : X ++ [AObj.cells (wcell x) 1 false false] = X1
    have le1 : HLe X X1 := by rw [← hX1]; exact .app _ _
    have hc : X1[X.length]? = some (.cells (wcell x) 1 false false) := by rw [← hX1]; exact app_new
    have l0 : ld1 (pa X.length 0) X1 = some (iv x.i, X1) := ld1_at hc rfl
    have l1 : ld1 (pa X.length 1) X1 = some (strv x.b, X1) := ld1_at hc rfl
    by_cases hxi : x.i = i
    · have hxi' : ((x.i : Int) == (i : Int)) = true := by rw [beq_iff_eq]; omega
      have w3 : IntKind.i64.wrap ((128 : Int) - (x.b.length : Int)) = ((128 - x.b.length : Nat) : Int) := by rw [w64 (by omega) (by omega)]; omega
      have e1 := mks_z (H := X1) (l := 128 - x.b.length) (by omega)
      generalize hX2 : X1 ++ [AObj.cells (u8s (List.replicate (128 - x.b.length) 0)) 1 false false] = X2 at e1
      have le2 : HLe X1 X2 := by rw [← hX2]; exact .app _ _
      have hz : Sl X2 (.slice (some ⟨X1.length, 0, none⟩) (128 - x.b.length) (128 - x.b.length)) (u8s (List.replicate (128 - x.b.length) 0)) := by
        have := Sl.one (vs := u8s (List.replicate (128 - x.b.length) 0)) (c := 128 - x.b.length) (H := X2) (id := X1.length) (by rw [← hX2]; exact app_new)
        rw [u8s_length, List.length_replicate] at this
        exact this
      have f5 := b2s_v hz
      have f6 := ld1_mono l1 le2
      have e2 : bop .str .add (strv x.b) (strv (List.replicate (128 - x.b.length) 0)) X2 = some (strv (pad x.b), X2) := adds_v (by rw [List.length_replicate]; omega)
      obtain ⟨X', e, r⟩ := block_do h i t (k + 1) (by omega) (by omega) (hle.trans (le1.trans le2))
      rw [htk, lastR_take, if_pos hxi, Option.getD_some] at e
      refine ⟨X', (loop_next (H' := X2) (vs' := [iv i, strv (pad x.b), sl, iv w.l.length, iv ((k + 1 : Nat) : Int)]) ?_).trans e, r⟩
      simp only [List.headD_cons, List.tail_cons]
      unfold F_ref21Block.l1
      rw [bind_eq lss_r, cnd_b, if_pos (by simpa using hlt), (h.mono hle).fetch hx, hX1, bind_eq fa_z, bind_eq l0, bind_eq eql_r, hxi']
      refine (jn_nrm (vs := [iv i, strv (pad x.b), sl, iv w.l.length, iv k]) (H' := X2) ?_).trans ?_
      · rw [cnd_b, if_pos rfl, bind_eq fa_z, bind_eq l1, bind_eq fa_z, bind_eq l1, bind_eq lenT_v, bind_eq sub_r, w3, bind_eq e1, bind_eq f6, same_self, bind_eq f5, bind_eq e2]
        rfl
      · simp only [List.headD_cons, List.tail_cons]
        rw [bind_eq add_r, w1]
        rfl
    · have hxi' : ((x.i : Int) == (i : Int)) = false := by rw [beq_eq_false_iff_ne]; omega
      obtain ⟨X', e, r⟩ := block_do h i t (k + 1) (by omega) (by omega) (hle.trans le1)
      rw [htk, lastR_take, if_neg hxi] at e
      refine ⟨X', (loop_next (H' := X1) (vs' := [iv i, strv ((lastR i (w.l.take k)).getD zeroB), sl, iv w.l.length, iv ((k + 1 : Nat) : Int)]) ?_).trans e, r⟩
      simp only [List.headD_cons, List.tail_cons]
      unfold F_ref21Block.l1
      rw [bind_eq lss_r, cnd_b, if_pos (by simpa using hlt), (h.mono hle).fetch hx, hX1, bind_eq fa_z, bind_eq l0, bind_eq eql_r, hxi']
      refine (jn_nrm (vs := [iv i, strv ((lastR i (w.l.take k)).getD zeroB), sl, iv w.l.length, iv k]) (H' := X1) rfl).trans ?_
      simp only [List.headD_cons, List.tail_cons]
      rw [bind_eq add_r, w1]
      rfl

theorem r_refBlock (h : Ref H sl w) (i : Nat) : ∃ H', R (n + 1) n_ref21Block [w.val sl, iv i] H = some (strv (w.blk i), H') ∧ HLe H H' := by
  have a1 := h.box
  generalize hH1 : H ++ [AObj.cells (w.cells sl) 1 false false] = H1 at a1
  have le1 : HLe H H1 := by rw [← hH1]; exact .app _ _
  have hc : H1[H.length]? = some (.cells (w.cells sl) 1 false false) := by rw [← hH1]; exact app_new
  have e1 : mks 1 1 (.int .u8 0) (iv 128) (iv 128) H1 = some (.slice (some ⟨H1.length, 0, none⟩) 128 128, H1 ++ [.cells (u8s zeroB) 1 false false]) := mks_z (l := 128) (by omega)
  generalize hH2 : H1 ++ [AObj.cells (u8s zeroB) 1 false false] = H2 at e1
  have le2 : HLe H1 H2 := by rw [← hH2]; exact .app _ _
  have hz : Sl H2 (.slice (some ⟨H1.length, 0, none⟩) 128 128) (u8s zeroB) := by
    have := Sl.one (vs := u8s zeroB) (c := 128) (H := H2) (id := H1.length) (by rw [← hH2]; exact app_new)
    rw [u8s_length, show zeroB.length = 128 from List.length_replicate] at this
    exact this
  have f1 := b2s_v hz
  have a2 : ld1 (pa H.length 1) H2 = some (sl, H2) := ld1_at (le2 _ _ hc) rfl
  obtain ⟨H3, e3, le3⟩ := block_do (n := n) (h.mono (le1.trans le2)) i w.l.length 0 rfl (by omega) (.refl _)
  rw [show ((0 : Nat) : Int) = 0 from rfl] at e3
  refine ⟨H3, ?_, (le1.trans le2).trans le3⟩
  rw [R, run_ref21Block rfl]
  unfold F_ref21Block
  have e3' : loopM (fun vs => F_ref21Block.l1 (R n) (vs.headD undef) (vs.tail.headD undef) (vs.tail.tail.headD undef) (vs.tail.tail.tail.headD undef) (vs.tail.tail.tail.tail.headD undef)) [iv i, strv zeroB, sl, iv w.l.length, iv 0] H2 = some (.ext 0 [strv (w.blk i)], H3) := e3
  rw [bind_eq a1, bind_eq e1, bind_eq f1, bind_eq fa_z, bind_eq a2, bind_eq (h.len H2), jn_ext e3', ext_hit0]
  rfl

/-- The answer's number. -/
def RS.there (w : RS) (i : Int) : Int := if w.down then 15 else if i < 0 ∨ i ≥ w.n then 1 else 0
def RS.got (w : RS) (i : Int) : List UInt8 := if w.there i = 0 then w.blk i.toNat else []

theorem r_refGet (h : Ref H sl w) (i : Int) : ∃ H', R (n + 2) n_ref21Get [w.val sl, iv i] H = some (.tuple #[strv (w.got i), iv (w.there i)], H') ∧ HLe H H' := by
  have a1 := h.box
  generalize hH1 : H ++ [AObj.cells (w.cells sl) 1 false false] = H1 at a1
  have le1 : HLe H H1 := by rw [← hH1]; exact .app _ _
  have hc : H1[H.length]? = some (.cells (w.cells sl) 1 false false) := by rw [← hH1]; exact app_new
  have a2 : ld1 (pa H.length 2) H1 = some (.bool w.down, H1) := ld1_at hc rfl
  have a3 : ld1 (pa H.length 0) H1 = some (iv w.n, H1) := ld1_at hc rfl
  rw [R, run_ref21Get rfl]
  unfold F_ref21Get
  rw [bind_eq a1, bind_eq fa_z, bind_eq a2]
  cases hd : w.down
  · rw [cnd_b, if_neg (by simp), bind_eq lss_r]
    by_cases h1 : i < 0
    · have ht : w.there i = 1 := by unfold RS.there; rw [hd]; simp [h1]
      have hg : w.got i = [] := by unfold RS.got; rw [ht]; rfl
      refine ⟨H1, ?_, le1⟩
      rw [decide_eq_true h1, bind_eq (g_r.trans (if_neg (by simp))), bind_eq pick_r]
      simp only [cond_true]
      rw [cnd_b, if_pos rfl, ht, hg]
      rfl
    · have eg : gate (.bool false) false 4 (bind (fa 0 (pt H.length)) fun v12x5 => bind (ld1 v12x5) fun v13x6 => bind (bop .int .geq (iv i) v13x6) fun v14x7 => ret [iv i, v12x5, v13x6, v14x7]) H1 = some ([iv i, pa H.length 0, iv w.n, .bool (decide (i ≥ (w.n : Int)))], H1) := by
        rw [g_r, if_pos rfl, bind_eq fa_z, bind_eq a3, bind_eq geq_r]
        rfl
      rw [decide_eq_false h1, bind_eq eg]
      simp only [List.headD_cons, List.tail_cons]
      rw [bind_eq pick_r]
      simp only [cond_false]
      by_cases h2 : i ≥ (w.n : Int)
      · have ht : w.there i = 1 := by unfold RS.there; rw [hd]; simp; omega
        have hg : w.got i = [] := by unfold RS.got; rw [ht]; rfl
        refine ⟨H1, ?_, le1⟩
        rw [cnd_b, if_pos (by simpa using h2), ht, hg]
        rfl
      · have ht : w.there i = 0 := by unfold RS.there; rw [hd]; simp; omega
        have hg : w.got i = w.blk i.toNat := by unfold RS.got; rw [if_pos ht]
        have a4 := ldA_at (n := 5) hc rfl
        obtain ⟨H2, e2, le2⟩ := r_refBlock (n := n) (h.mono le1) i.toNat
        rw [show ((i.toNat : Nat) : Int) = i by omega] at e2
        refine ⟨H2, ?_, le1.trans le2⟩
        rw [cnd_b, if_neg (by simpa using h2), bind_eq a4, bind_eq e2, ht, hg]
        rfl
  · have ht : w.there i = 15 := by unfold RS.there; rw [hd]; rfl
    have hg : w.got i = [] := by unfold RS.got; rw [ht]; rfl
    refine ⟨H1, ?_, le1⟩
    rw [cnd_b, if_pos rfl, ht, hg]
    rfl

end

end Go.Proofs.Ytahocinoohdagaa.A
