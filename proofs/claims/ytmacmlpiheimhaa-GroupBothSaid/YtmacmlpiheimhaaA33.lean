/- A struct that holds a map of maps, copied: each of the maps too. The abstract machine does it at once. -/
import Derived.Test.YtmacmlpiheimhaaA31
namespace Go.Proofs.Ytmacmlpiheimhaa.A
set_option linter.unusedVariables false
set_option linter.unusedSimpArgs false

/-- A row that is, mapped, another one in another order. -/
theorem perm_lift {α β : Type} {f : α → β} {m m' : List β} (h : m.Perm m') : ∀ {l : List α}, l.map f = m → ∃ l' : List α, l'.Perm l ∧ l'.map f = m' := by
  induction h with
  | nil => intro l h; exact ⟨l, .refl _, h⟩
  | cons x _ ih =>
    intro l h
    cases l with
    | nil => cases h
    | cons a l =>
      simp only [List.map_cons, List.cons.injEq] at h
      obtain ⟨l', h1, h2⟩ := ih h.2
      exact ⟨a :: l', h1.cons a, by simp [h.1, h2]⟩
  | swap x y l =>
    intro q h
    match q, h with
    | a :: b :: q, h =>
      simp only [List.map_cons, List.cons.injEq] at h
      exact ⟨b :: a :: q, .swap a b q, by simp [h.1, h.2.1, h.2.2]⟩
  | trans _ _ ih1 ih2 =>
    intro l h
    obtain ⟨l1, h1, h2⟩ := ih1 h
    obtain ⟨l2, h3, h4⟩ := ih2 h2
    exact ⟨l2, h3.trans h1, h4⟩

def isMapO : AObj → Bool
  | .map _ _ => true
  | .mapU _ => true
  | _ => false

/-- The maps that lie in a map. -/
def setsOf (H : Heap) : List (Value × Value × Nat) → Option (List AObj)
  | [] => some []
  | e :: es => match e.2.1, setsOf H es with
    | .map (some s), some l => match H[s]? with
      | some x => if isMapO x then some (x :: l) else none
      | none => none
    | _, _ => none

/-- A map's entries, with maps that lie one behind the other. -/
def outE (base : Nat) : List (Value × Value × Nat) → List (Value × Value × Nat)
  | [] => []
  | e :: es => (e.1, .map (some base), 0) :: outE (base + 1) es

open Classical in
noncomputable def entsAt (H : Heap) (o : Nat) : Option (List (Value × Value × Nat)) :=
  match H[o]? with
  | some (.map es clk) => if StampL es clk then some es else none
  | some (.mapU es) => some es
  | _ => none

open Classical in
noncomputable def copyGM (args : List Value) : M Value := fun H =>
  match args with
  | [.pointer (some ⟨g, 0, none⟩)] => match H[g]? with
    | some (.cells [.map (some o)] _ false false) => match entsAt H o with
      | some es => match setsOf H es with
        | some l => if ∃ ks, KeysOk es ks then some (pt (H.length + l.length + 1), H ++ l ++ [.mapU (outE H.length es)] ++ [.cells [.map (some (H.length + l.length))] 1 false false]) else none
        | none => none
      | none => none
    | _ => none
  | _ => none

section
variable {P : Program} {w0 : Base} {ι : Nat → Option Loc} {H H1 : Heap} {w w' : World} {v : Value} {G : Nat}

theorem copyG_inv {args : List Value} (h : copyGM args H = some (v, H1)) : ∃ g o e es ks l, args = [pt g] ∧ H[g]? = some (.cells [.map (some o)] e false false) ∧ entsAt H o = some es ∧ KeysOk es ks ∧ setsOf H es = some l ∧ v = pt (H.length + l.length + 1) ∧ H1 = H ++ l ++ [.mapU (outE H.length es)] ++ [.cells [.map (some (H.length + l.length))] 1 false false] := by
  unfold copyGM at h
  split at h
  · rename_i g
    split at h
    · rename_i o e hg
      split at h
      · rename_i es hes
        split at h
        · rename_i l hl
          split at h
          · rename_i hk
            obtain ⟨ks, hk⟩ := hk
            cases h
            exact ⟨g, o, e, es, ks, l, rfl, hg, hes, hk, hl, rfl, rfl⟩
          · cases h
        · cases h
      · cases h
    · cases h
  · cases h

/-- What the model's run of such a copy comes to. -/
structure CopyCon (P : Program) (g : FuncId) : Prop where
  c : callableF P g
  run : ∀ (w : World) (gb b : Nat) (es : Array MapEntry) (clock : Nat), gb < w.heap.size → w.cell? ⟨gb, 0, none⟩ = some (.map (some b)) → w.heap[b]? = some (.map es clock) → Go.MapKept.Stamped es clock →
    (∀ x ∈ es.toList, ∃ k : List UInt8, x.key = strv k) → (∀ x ∈ es.toList, ∃ sb ses sclk, x.val = .map (some sb) ∧ w.heap[sb]? = some (.map ses sclk)) →
    Calls P g #[.pointer (some ⟨gb, 0, none⟩)] w fun e w' => ∃ (gb' ob : Nat) (el : TypeId) (en : Array MapEntry) (ck : Nat) (L : List (MapEntry × Nat)), e = .returned (.pointer (some ⟨gb', 0, none⟩)) ∧
      w'.heap[gb']? = some (.cells #[.map (some ob)] el (0, 0)) ∧ w'.heap[ob]? = some (.map en ck) ∧ Go.MapKept.Stamped en ck ∧
      en.toList.map (fun x => (x.key, x.val)) = L.map (fun p => (p.1.key, Value.map (some p.2))) ∧ (L.map (·.1)).Perm es.toList ∧
      (∀ p ∈ L, ∃ sb, p.1.val = .map (some sb) ∧ w'.heap[p.2]? = w.heap[sb]?) ∧ (gb' :: ob :: L.map (·.2)).Nodup ∧ (∀ q ∈ gb' :: ob :: L.map (·.2), w.heap.size ≤ q) ∧ Go.RowKit.Below w.heap.size w w'

/-- No object that may be written lies there. -/
def Free (ι : Nat → Option Loc) (H : Heap) (b : Nat) : Prop := (∀ i oi li, H[i]? = some oi → oi.wr = true → ι i = some li → li.blk ≠ b) ∧
  ∀ j cs es nx lj, H[j]? = some (.view cs es nx) → ι j = some lj → lj.blk = b → ∃ l', ι nx = some l' ∧ l'.blk = lj.blk ∧ l'.base = lj.base

theorem Free.add {o : AObj} {l : Loc} {b : Nat} (h : Free ι H b) (hS : Sim G w0 ι H w) (hb : l.blk ≠ b) (hov : o.isV = false := by rfl) : Free (extι ι H.length l) (H ++ [o]) b := by
  refine ⟨?_, fun j cs es nx lj hj hlj hbe => ?_⟩
  rotate_left
  · rcases Nat.lt_trichotomy j H.length with hlt | rfl | hgt
    · rw [List.getElem?_append_left hlt] at hj
      have : extι ι H.length l j = ι j := by unfold extι; simp [Nat.ne_of_lt hlt]
      rw [this] at hlj
      obtain ⟨l', k1, k2⟩ := h.2 j cs es nx lj hj hlj hbe
      exact ⟨l', le_ext hS _ _ _ k1, k2⟩
    · rw [app_new] at hj
      rw [Option.some.inj hj] at hov; cases hov
    · rw [List.getElem?_eq_none (by simp; omega)] at hj; cases hj
  intro i oi li hi hw hl
  rcases Nat.lt_trichotomy i H.length with hlt | rfl | hgt
  · rw [List.getElem?_append_left hlt] at hi
    have : extι ι H.length l i = ι i := by unfold extι; simp [Nat.ne_of_lt hlt]
    rw [this] at hl
    exact h.1 i oi li hi hw hl
  · have : extι ι H.length l H.length = some l := ext_self _ _ _
    rw [this] at hl
    cases hl
    exact hb
  · rw [List.getElem?_eq_none (by simp; omega)] at hi; cases hi

abbrev mloc (b : Nat) : Loc := ⟨b, 0, 0, 0, false⟩

/-- What a map's element is in the world. -/
def valW (ι : Nat → Option Loc) : Value → Value
  | .map (some s) => .map ((ι s).map (·.blk))
  | v => v

theorem addAll {H : Heap} {w' : World} (hS : Sim G w0 ι H w) : ∀ (es : List (Value × Value × Nat)) (L : List (MapEntry × Nat)) (l : List AObj) (ι0 : Nat → Option Loc) (H0 : Heap), Sim G w0 ι0 H0 w' → Le ι ι0 → setsOf H es = some l →
    L.map (fun p => (p.1.key, p.1.val)) = es.map (fun e => (e.1, valW ι e.2.1)) → (∀ p ∈ L, ∃ sb, p.1.val = .map (some sb) ∧ w'.heap[p.2]? = w.heap[sb]?) → (L.map (·.2)).Nodup → (∀ p ∈ L, Free ι0 H0 p.2 ∧ w0.heap.size ≤ p.2 ∧ ∀ b ∈ w0.prot, p.2 ≠ b) →
    ∃ ι1, Le ι0 ι1 ∧ Sim G w0 ι1 (H0 ++ l) w' ∧ l.length = es.length ∧ (∀ i p, L[i]? = some p → ι1 (H0.length + i) = some (mloc p.2)) ∧ (∀ b, Free ι0 H0 b → b ∉ L.map (·.2) → Free ι1 (H0 ++ l) b)
  | [], L, l, ι0, H0, h0, hle, hl, hm, _, _, _ => by
    cases hl
    have : L = [] := by simpa using hm
    subst this
    exact ⟨ι0, .refl _, by rw [List.append_nil]; exact h0, rfl, fun i p h => by simp at h, fun b h _ => by rw [List.append_nil]; exact h⟩
  | e :: es, L, l, ι0, H0, h0, hle, hl, hm, hc, hn, hf => by
    cases L with
    | nil => simp at hm
    | cons p L =>
      simp only [List.map_cons, List.cons.injEq, Prod.mk.injEq] at hm
      unfold setsOf at hl
      split at hl
      · rename_i _ _ s l' he hl'
        split at hl
        · rename_i x hx
          split at hl
          · rename_i hmp
            cases hl
            obtain ⟨sb, hsb, hcp⟩ := hc p (by simp)
            obtain ⟨hfp, hgp, hpp⟩ := hf p (by simp)
            rw [he] at hm
            have hv := hm.1.2
            rw [hsb] at hv
            have hsl : ∃ ls, ι s = some ls ∧ ls.blk = sb := by
              simp only [valW] at hv
              cases hs : ι s with
              | none => rw [hs] at hv; simp at hv
              | some ls => rw [hs] at hv; exact ⟨ls, rfl, by simpa using hv.symm⟩
            obtain ⟨ls, hls, rfl⟩ := hsl
            have hR : ObjR w0 (extι ι0 H0.length (mloc p.2)) H0.length x w' := by
              have hle2 : Le ι (extι ι0 H0.length (mloc p.2)) := hle.trans (le_ext h0 _)
              cases x with
              | map es' clk =>
                obtain ⟨en, hb, hge, hE⟩ := hS.mapR hx hls
                exact ⟨_, en, ext_self _ _ _, hcp.trans hb, hgp, hE.mono hle2⟩
              | mapU es' =>
                obtain ⟨en, clk, es2, hb, hge, hE, hp⟩ := hS.mapUR hx hls
                exact ⟨_, en, clk, es2, ext_self _ _ _, hcp.trans hb, hgp, hE.mono hle2, hp⟩
              | _ => simp [isMapO] at hmp
            have hov : x.isV = false := by cases x <;> first | rfl | simp [isMapO] at hmp
            have h1 := h0.add hR hfp.1 hpp (fun _ => hfp.2) hov
            simp only [List.map_cons, List.nodup_cons] at hn
            obtain ⟨ι1, a1, a2, a3, a4, a5⟩ := addAll hS es L l' _ _ h1 (hle.trans (le_ext h0 _)) hl' hm.2 (fun q hq => hc q (by simp [hq])) hn.2 (fun q hq => by
              obtain ⟨b1, b2⟩ := hf q (by simp [hq])
              exact ⟨b1.add h0 (fun e => hn.1 (List.mem_map.2 ⟨q, hq, e.symm⟩)) hov, b2⟩)
            refine ⟨ι1, (le_ext h0 _).trans a1, by rw [List.append_assoc, List.singleton_append] at a2; exact a2, by simp [a3], fun i q hi => ?_, fun b hb hnb => ?_⟩
            · cases i with
              | zero =>
                have : p = q := by simpa using hi
                subst this
                exact a1 _ _ (ext_self _ _ _)
              | succ i =>
                have := a4 i q (by simpa using hi)
                rwa [List.length_append, List.length_singleton, Nat.add_assoc, Nat.add_comm 1 i] at this
            · simp only [List.map_cons, List.mem_cons, not_or] at hnb
              have := a5 b (hb.add h0 (Ne.symm hnb.1) hov) hnb.2
              rwa [List.append_assoc, List.singleton_append] at this
          · cases hl
        · cases hl
      · cases hl

theorem Free.sim (h : Sim G w0 ι H w) {b : Nat} (hb : w.heap.size ≤ b) : Free ι H b := ⟨fun i oi li hi hw hl => by
  have := ((h.obj i oi hi).newer hw li hl).2
  omega, fun j cs es nx lj hj hlj hbe => by
  rcases h.views j cs es nx lj hj hlj with ⟨l', k1, k2⟩ | ⟨⟨c, el, fr, k1, _⟩, _⟩
  · exact ⟨l', k1, k2⟩
  · have := (Array.getElem?_eq_some_iff.1 k1).1
    omega⟩

theorem prot_lt (h : Sim G w0 ι H w) {b : Nat} (hb : w.heap.size ≤ b) : ∀ c ∈ w0.prot, b ≠ c := fun c hc e => by
  have p1 := (h.prot c hc).1
  subst e
  rw [Array.getElem?_eq_none hb] at p1; cases p1

/-- The entries of the new map, as the abstract machine has them, in the world's order. -/
def zipE (B : List ((MapEntry × Nat) × Nat)) (en : List MapEntry) : List (Value × Value × Nat) := List.zipWith (fun b x => (b.1.1.key, Value.map (some b.2), x.born)) B en

theorem zipE_ent : ∀ (B : List ((MapEntry × Nat) × Nat)) (en : List MapEntry), en.map (fun x => (x.key, x.val)) = B.map (fun b => (b.1.1.key, Value.map (some b.1.2))) → (∀ b ∈ B, Scalar b.1.1.key = true ∧ ι b.2 = some (mloc b.1.2)) →
    EntL ι (zipE B en) en ∧ (zipE B en).map kv = B.map (fun b => (b.1.1.key, Value.map (some b.2))) ∧ (zipE B en).map (·.2.2) = en.map (·.born)
  | [], [], _, _ => ⟨trivial, rfl, rfl⟩
  | [], _ :: _, h, _ => by simp at h
  | _ :: _, [], h, _ => by simp at h
  | b :: B, x :: en, h, hb => by
    simp only [List.map_cons, List.cons.injEq, Prod.mk.injEq] at h
    obtain ⟨h1, h2, h3⟩ := zipE_ent B en h.2 (fun c hc => hb c (by simp [hc]))
    obtain ⟨g1, g2⟩ := hb b (by simp)
    have hm : RV ι (.map (some b.2)) (.map (some b.1.2)) := .mp (l := mloc b.1.2) g2
    refine ⟨⟨⟨g1, h.1.1, by rw [h.1.2]; exact hm, rfl⟩, h1⟩, ?_, ?_⟩
    · simp only [List.map_cons]
      rw [← h2]; rfl
    · simp only [List.map_cons]
      rw [← h3]; rfl

theorem outE_kv : ∀ (es : List (Value × Value × Nat)) (L : List (MapEntry × Nat)) (base : Nat), L.map (fun p => p.1.key) = es.map (·.1) →
    (outE base es).map kv = (L.zipIdx base).map (fun b => (b.1.1.key, Value.map (some b.2))) ∧ (outE base es).map (·.1) = es.map (·.1)
  | [], L, base, h => by
    have : L = [] := by simpa using h
    subst this
    exact ⟨rfl, rfl⟩
  | e :: es, [], base, h => by simp at h
  | e :: es, p :: L, base, h => by
    simp only [List.map_cons, List.cons.injEq] at h
    obtain ⟨h1, h2⟩ := outE_kv es L (base + 1) h.2
    refine ⟨?_, ?_⟩
    · simp only [outE, List.map_cons, List.zipIdx_cons]
      rw [h1, ← h.1]; rfl
    · simp only [outE, List.map_cons]
      rw [h2]

theorem setsOf_mem : ∀ {es : List (Value × Value × Nat)} {l : List AObj}, setsOf H es = some l → ∀ e ∈ es, ∃ s x, e.2.1 = .map (some s) ∧ H[s]? = some x ∧ isMapO x = true
  | [], l, h, e, he => by cases he
  | e0 :: es, l, h, e, he => by
    unfold setsOf at h
    split at h
    · rename_i _ _ s l' hv hl'
      split at h
      · rename_i x hx
        split at h
        · rename_i hm
          rcases List.mem_cons.1 he with rfl | he
          · exact ⟨s, x, hv, hx, hm⟩
          · exact setsOf_mem hl' e he
        · cases h
      · cases h
    · cases h

theorem entL_valW (hle : ∀ e : Value × Value × Nat, ∀ n, RV ι e.2.1 n → (∃ s, e.2.1 = .map (some s)) → n = valW ι e.2.1) : ∀ (es : List (Value × Value × Nat)) (en : List MapEntry), EntL ι es en → (∀ e ∈ es, ∃ s, e.2.1 = .map (some s)) → en.map (fun x => (x.key, x.val)) = es.map (fun e => (e.1, valW ι e.2.1))
  | [], [], _, _ => rfl
  | [], _ :: _, h, _ => h.elim
  | _ :: _, [], h, _ => h.elim
  | e :: es, n :: ns, h, hs => by
    simp only [List.map_cons]
    rw [entL_valW hle es ns h.2 (fun e he => hs e (by simp [he])), h.1.2.1, hle e _ h.1.2.2.1 (hs e (by simp))]

theorem valW_rv {e : Value × Value × Nat} {n : Value} (h : RV ι e.2.1 n) (hs : ∃ s, e.2.1 = .map (some s)) : n = valW ι e.2.1 := by
  obtain ⟨s, hs⟩ := hs
  rw [hs] at h ⊢
  obtain ⟨l, hl, rfl⟩ := h.map_inv
  simp [valW, hl]

theorem copy_sound {g : FuncId} (hC : CopyCon P g) : SoundP P G w0 g copyGM := by
  intro args H v H1 h
  refine .inl ⟨hC.c, fun ι w args' hS hr => ?_⟩
  obtain ⟨gi, o, e1, es, ks, l, rfl, hg, hes, hk, hl, rfl, rfl⟩ := copyG_inv h
  obtain ⟨x, r, rfl, hx, hr2⟩ := hr.cons_inv
  rw [hr2.nil_inv]
  obtain ⟨lc, hlc, rfl⟩ := hx.ptr_inv
  obtain ⟨cc, el, fr, _, hgrow, hbc, hb5, hb6, hrc, hro, _⟩ := hS.cellsR hg hlc
  have hbase : lc.base = 0 := (hro rfl).2.2 hgrow
  have hbl : lc.blk < w.heap.size := by
    rcases Nat.lt_or_ge lc.blk w.heap.size with h1 | h1
    · exact h1
    · rw [Array.getElem?_eq_none h1] at hbc; cases hbc
  obtain ⟨u, hu1, hu2⟩ := hrc.at (o := 0) (by simp)
  obtain ⟨lm, hlm, hu3⟩ := RV.map_inv (id := o) hu2
  subst hu3
  have hcell : w.cell? ⟨lc.blk, 0, none⟩ = some (.map (some lm.blk)) := by
    rw [cellW hbc]
    simpa [hbase] using hu1
  have hsets := setsOf_mem hl
  have hismap : ∀ e ∈ es, ∃ s, e.2.1 = .map (some s) := fun e he => by obtain ⟨s, _, h1, _⟩ := hsets e he; exact ⟨s, h1⟩
  -- the outer map in the world
  obtain ⟨en, clock, es2, hmb, hE, hperm, hst⟩ : ∃ (en : Array MapEntry) (clock : Nat) (es2 : List (Value × Value × Nat)), w.heap[lm.blk]? = some (.map en clock) ∧ EntR ι es2 en ∧ (es2.map kv).Perm (es.map kv) ∧ StampL es2 clock := by
    unfold entsAt at hes
    split at hes
    · rename_i es0 clk hid
      split at hes
      · rename_i hst
        cases hes
        obtain ⟨en, hb, _, hE⟩ := hS.mapR hid hlm
        exact ⟨en, _, _, hb, hE, .refl _, hst⟩
      · cases hes
    · rename_i es0 hid
      cases hes
      obtain ⟨en, clk, es2, hb, _, hE, hp⟩ := hS.mapUR hid hlm
      exact ⟨en, clk, es2, hb, hE, hp.perm, hp.st⟩
    · cases hes
  have hmem2 : ∀ e ∈ es2, ∃ f ∈ es, f.1 = e.1 ∧ f.2.1 = e.2.1 := fun e he => by
    have : kv e ∈ es.map kv := hperm.mem_iff.1 (List.mem_map.2 ⟨e, he, rfl⟩)
    obtain ⟨f, hf, h1⟩ := List.mem_map.1 this
    unfold kv at h1
    simp only [Prod.mk.injEq] at h1
    exact ⟨f, hf, h1.1, h1.2⟩
  have hismap2 : ∀ e ∈ es2, ∃ s, e.2.1 = .map (some s) := fun e he => by
    obtain ⟨f, hf, _, h2⟩ := hmem2 e he
    rw [← h2]; exact hismap f hf
  obtain ⟨k1, k2⟩ := EntL.keys hE
  have hkv := entL_valW (fun e n h hs => valW_rv h hs) es2 en.toList hE hismap2
  have hkeyp : (es2.map (·.1)).Perm (ks.map strv) := by
    have h3 := hperm.map (·.1)
    rw [kv_key, kv_key] at h3
    rw [← hk.keys]; exact h3
  have hstr : ∀ x ∈ en.toList, ∃ k : List UInt8, x.key = strv k := fun x hx => by
    have h3 : x.key ∈ es2.map (·.1) := by rw [← k1]; exact List.mem_map.2 ⟨x, hx, rfl⟩
    obtain ⟨k, _, h4⟩ := List.mem_map.1 (hkeyp.mem_iff.1 h3)
    exact ⟨k, h4.symm⟩
  have hsets2 : ∀ x ∈ en.toList, ∃ sb ses sclk, x.val = .map (some sb) ∧ w.heap[sb]? = some (.map ses sclk) := fun x hx => by
    have h3 : (x.key, x.val) ∈ es2.map (fun e => (e.1, valW ι e.2.1)) := by rw [← hkv]; exact List.mem_map.2 ⟨x, hx, rfl⟩
    obtain ⟨e, he, h4⟩ := List.mem_map.1 h3
    obtain ⟨f, hf, _, hf2⟩ := hmem2 e he
    obtain ⟨s, y, hy1, hy2, hy3⟩ := hsets f hf
    simp only [Prod.mk.injEq] at h4
    rw [← hf2, hy1] at h4
    have hd : y ≠ .dead := by rintro rfl; simp [isMapO] at hy3
    obtain ⟨ls, hls, _⟩ := (hS.obj s y hy2).loc hd
    have h5 : x.val = .map (some ls.blk) := by rw [← h4.2]; simp [valW, hls]
    cases y with
    | map es' clk =>
      obtain ⟨en', hb, _, _⟩ := hS.mapR hy2 hls
      exact ⟨_, _, _, h5, hb⟩
    | mapU es' =>
      obtain ⟨en', clk, _, hb, _, _⟩ := hS.mapUR hy2 hls
      exact ⟨_, _, _, h5, hb⟩
    | _ => simp [isMapO] at hy3
  have hstamp : Go.MapKept.Stamped en clock := by
    refine ⟨fun x hx => ?_, by rw [k2]; exact hst.nod, by rw [k1]; exact hkeyp.nodup_iff.2 (nodup_strv hk.nod)⟩
    have h3 : x.born ∈ en.toList.map (·.born) := List.mem_map.2 ⟨x, hx, rfl⟩
    rw [k2] at h3
    obtain ⟨e', h1, h2⟩ := List.mem_map.1 h3
    rw [← h2]; exact hst.lt e' h1
  simp only [Nat.add_zero, hbase]
  refine (hC.run w lc.blk lm.blk en clock hbl hcell hmb hstamp hstr hsets2).mono fun ee w' ⟨gb', ob, el', en', ck, L, he, hgb, hob, hst', hen', hL, hcp, hnd, hge, hb⟩ => ?_
  have hS' := hS.below hb
  -- in the abstract order
  have hLkv : (L.map fun p => (p.1.key, p.1.val)).Perm (es.map fun e => (e.1, valW ι e.2.1)) := by
    have h3 := hL.map (fun x : MapEntry => (x.key, x.val))
    rw [List.map_map, hkv] at h3
    have h4 := hperm.map (fun q : Value × Value => (q.1, valW ι q.2))
    rw [List.map_map, List.map_map] at h4
    exact h3.trans h4
  obtain ⟨L', hL', hLm⟩ := perm_lift hLkv rfl
  simp only [List.nodup_cons, List.mem_cons, not_or] at hnd
  obtain ⟨⟨n1, n2⟩, n3, n4⟩ := hnd
  have hnod' : (L'.map (·.2)).Nodup := (hL'.map _).nodup_iff.2 n4
  have hgeL : ∀ p ∈ L', w.heap.size ≤ p.2 := fun p hp => hge _ (by simp only [List.mem_cons, List.mem_map]; exact .inr (.inr ⟨p, hL'.mem_iff.1 hp, rfl⟩))
  obtain ⟨ι1, a1, a2, a3, a4, a5⟩ := addAll hS es L' l ι H hS' (.refl _) hl hLm (fun p hp => hcp p (hL'.mem_iff.1 hp)) hnod' (fun p hp => ⟨Free.sim hS (hgeL p hp), Nat.le_trans hS.size (hgeL p hp), prot_lt hS (hgeL p hp)⟩)
  have hobge := hge ob (by simp)
  have hgbge := hge gb' (by simp)
  have hobF : Free ι1 (H ++ l) ob := a5 ob (Free.sim hS hobge) fun hm => n3 ((hL'.map (·.2)).mem_iff.1 hm)
  have hgbF : Free ι1 (H ++ l) gb' := a5 gb' (Free.sim hS hgbge) fun hm => n2 ((hL'.map (·.2)).mem_iff.1 hm)
  -- the outer map
  obtain ⟨B, hB, hBm⟩ := perm_lift (f := Prod.fst) (l := L'.zipIdx H.length) (m' := L) (by rw [List.zipIdx_map_fst]; exact hL') rfl
  have hBi : ∀ b ∈ B, Scalar b.1.1.key = true ∧ ι1 b.2 = some (mloc b.1.2) := fun b hb => by
    have hb' := hB.mem_iff.1 hb
    obtain ⟨i, hi⟩ := List.getElem?_of_mem hb'
    rw [List.getElem?_zipIdx] at hi
    cases hq : L'[i]? with
    | none => rw [hq] at hi; cases hi
    | some q =>
      rw [hq] at hi
      have hi : (q, H.length + i) = b := by simpa using hi
      subst hi
      refine ⟨?_, a4 i q hq⟩
      have hqL : q.1 ∈ L.map (·.1) := List.mem_map.2 ⟨q, hL'.mem_iff.1 (List.mem_of_getElem? hq), rfl⟩
      obtain ⟨k, hk⟩ := hstr q.1 (hL.mem_iff.1 hqL)
      show Scalar q.1.key = true
      rw [hk]; rfl
  have hen2 : en'.toList.map (fun x => (x.key, x.val)) = B.map (fun b => (b.1.1.key, Value.map (some b.1.2))) := by
    rw [hen', ← hBm, List.map_map]; rfl
  obtain ⟨z1, z2, z3⟩ := zipE_ent B en'.toList hen2 hBi
  have hkeysL : L'.map (fun p => p.1.key) = es.map (·.1) := by
    have := congrArg (List.map Prod.fst) hLm
    simpa [List.map_map, Function.comp_def] using this
  obtain ⟨y1, y2⟩ := outE_kv es L' H.length hkeysL
  have hle1 : Le ι ι1 := a1
  have hlen : (H ++ l).length = H.length + l.length := List.length_append
  have hPU : PermU (zipE B en'.toList) ck (outE H.length es) := by
    refine ⟨?_, ⟨fun e he => ?_, ?_⟩, ⟨fun e he => ?_, ?_⟩⟩
    · rw [z2, y1]
      exact hB.map _
    · have : e.1 ∈ (outE H.length es).map (·.1) := List.mem_map.2 ⟨e, he, rfl⟩
      rw [y2, hk.keys] at this
      obtain ⟨k, _, h4⟩ := List.mem_map.1 this
      exact ⟨_, h4.symm⟩
    · rw [y2, hk.keys]; exact nodup_strv hk.nod
    · have : e.2.2 ∈ (zipE B en'.toList).map (·.2.2) := List.mem_map.2 ⟨e, he, rfl⟩
      rw [z3] at this
      obtain ⟨x, hx, h4⟩ := List.mem_map.1 this
      rw [← h4]; exact hst'.1 x hx
    · rw [z3]; exact hst'.2.1
  have hO := a2.add (o := .mapU (outE H.length es)) (l := mloc ob) ⟨mloc ob, en', ck, _, ext_self _ _ _, hob, Nat.le_trans hS.size hobge, z1.mono (le_ext a2 _), hPU⟩ hobF.1 (prot_lt hS hobge) (fun _ => hobF.2)
  have hgbF2 : Free (extι ι1 (H ++ l).length (mloc ob)) (H ++ l ++ [.mapU (outE H.length es)]) gb' := hgbF.add a2 (Ne.symm n1)
  have hN := hO.add (o := .cells [.map (some (H.length + l.length))] 1 false false) (l := ⟨gb', 0, 1, 1, false⟩) (by
    refine ⟨⟨gb', 0, 1, 1, false⟩, _, _, _, ext_self _ _ _, rfl, rfl, hgb, by simp, by simp, ?_, fun _ => ⟨Nat.le_trans hS.size hgbge, .inl rfl, fun _ => rfl⟩, by simp, by simp [oneCell]⟩
    refine ⟨rfl, fun i hi => ?_⟩
    have : i = 0 := by simpa using hi
    subst this
    refine .mp (l := mloc ob) (le_ext hO _ _ _ ?_)
    rw [← hlen]
    exact ext_self _ _ _) hgbF2.1 (prot_lt hS hgbge) (fun _ => hgbF2.2)
  refine ⟨_, _, (hle1.trans (le_ext a2 _)).trans (le_ext hO _), he, ?_, hN⟩
  have hp := RV.ptr (ι := extι (extι ι1 (H ++ l).length (mloc ob)) (H ++ l ++ [AObj.mapU (outE H.length es)]).length ⟨gb', 0, 1, 1, false⟩) (o := 0) (ext_self _ _ _)
  have hlen2 : (H ++ l ++ [AObj.mapU (outE H.length es)]).length = H.length + l.length + 1 := by rw [List.length_append, List.length_append, List.length_singleton]
  rw [hlen2] at hp ⊢
  exact hp

end

end Go.Proofs.Ytmacmlpiheimhaa.A
