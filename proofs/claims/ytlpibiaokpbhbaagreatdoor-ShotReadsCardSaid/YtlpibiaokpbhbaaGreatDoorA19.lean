/- From the abstract machine's answer to a row: the law's bridge. -/
import Derived.Test.YtlpibiaokpbhbaaGreatDoorA18
namespace Go.Proofs.YtlpibiaokpbhbaaGreatDoor.A
set_option linter.unusedVariables false
set_option linter.unusedSimpArgs false

def Ty.val : Ty → List Value → Value
  | .struct _, cs => .agg cs.toArray
  | _, cs => cs.headD undef

def Ins : List Ty → Type
  | [] => Unit
  | t :: ts => t.den × Ins ts

def InsWf : (ts : List Ty) → Ins ts → Prop
  | [], _ => True
  | t :: ts, (x, xs) => t.wf x ∧ InsWf ts xs

def InsRd : (ts : List Ty) → Ins ts → Heap → List Value → Prop
  | [], _, _, vs => vs = []
  | t :: ts, (x, xs), H, vs => ∃ cs rest, vs = t.val cs :: rest ∧ cs.length = t.size ∧ Rd t x H cs ∧ InsRd ts xs H rest

theorem InsRd.mono : ∀ (ts : List Ty) {xs : Ins ts} {H H' : Heap} {vs : List Value}, InsRd ts xs H vs → HLe H H' → InsRd ts xs H' vs
  | [], _, _, _, _, h, _ => h
  | t :: ts, (_, _), _, _, _, ⟨cs, rest, h1, h2, h3, h4⟩, hl => ⟨cs, rest, h1, h2, h3.mono t hl, InsRd.mono ts h4 hl⟩

def fitsAll (P : Program) : List Ty → List TypeId → Bool
  | [], [] => true
  | t :: ts, u :: us => t.fits P (.inl u) && P.readableRec u && Nat.blt u P.types.size && fitsAll P ts us
  | _, _ => false

theorem wf_u8 {n : Int} (h : (Lit.int .u8 n).wf = true) : 0 ≤ n ∧ n ≤ 255 := by simpa [Lit.wf, IntKind.min, IntKind.max, IntKind.signed, IntKind.bits] using h
theorem wf_u32 {n : Int} (h : (Lit.int .u32 n).wf = true) : 0 ≤ n ∧ n ≤ 4294967295 := by simpa [Lit.wf, IntKind.min, IntKind.max, IntKind.signed, IntKind.bits] using h
theorem wf_u64 {n : Int} (h : (Lit.int .u64 n).wf = true) : 0 ≤ n ∧ n ≤ 18446744073709551615 := by simpa [Lit.wf, IntKind.min, IntKind.max, IntKind.signed, IntKind.bits] using h
theorem wf_i64 {n : Int} (h : (Lit.int .i64 n).wf = true) : -9223372036854775808 ≤ n ∧ n ≤ 9223372036854775807 := by simpa [Lit.wf, IntKind.min, IntKind.max, IntKind.signed, IntKind.bits] using h

section
variable {P : Program} {H0 : Type} {enc : TypeId × Value → H0} {W : World} {G base : Nat}

theorem okWide_val {t : Ty} {u : TypeId} {v : Value} (hf : t.fits P (.inl u) = true) (hv : Value.okWide P W .any base u v) : t.val v.cells.toList = v := by
  unfold Value.okWide at hv
  cases t with
  | struct r =>
    simp only [Ty.fits] at hf
    split at hf
    · rename_i fs hu
      rw [hu] at hv
      obtain ⟨cs, rfl, _⟩ := hv
      simp [Ty.val, Value.cells]
    · cases hf
  | unit => simp [Ty.fits] at hf
  | pair f r => simp [Ty.fits] at hf
  | _ =>
    simp only [Ty.fits] at hf
    split at hf
    · rename_i hu
      rw [hu] at hv
      simp only at hv
      cases v <;> first | rfl | (simp [Cell.okWide, hu, Cell.ok] at hv)
    · cases hf

theorem rvs_val {t : Ty} {u : TypeId} {ι : Nat → Option Loc} {cs : List Value} {v : Value} (hf : t.fits P (.inl u) = true) (hv : t.val v.cells.toList = v) (h : RVs ι cs v.cells.toList) (hl : cs.length = t.size) : RV ι (t.val cs) v := by
  rw [← hv]
  cases t with
  | struct r => exact .aggL h
  | unit => simp [Ty.fits] at hf
  | pair f r => simp [Ty.fits] at hf
  | _ =>
    match cs, hl with
    | [c], _ =>
      obtain ⟨c', r', he, hc, _⟩ := h.cons_inv
      rw [he]; exact hc

theorem args_in : ∀ (tys : List Ty) {ts : List TypeId} {vs : List Value} {ds : List (DataW H0)} {ps : List MemPlace} {ι : Nat → Option Loc} {H : Heap}, fitsAll P tys ts = true →
    DataW.TrodAll enc P W 0 (fun _ => true) true ts vs ds ps → (∀ (j : Nat) t v, ts[j]? = some t → vs[j]? = some v → Value.okWide P W .any base t v) → Sim G (b0 W) ι H W →
    ∃ xs ι' H' vs', InsWf tys xs ∧ Le ι ι' ∧ Sim G (b0 W) ι' H' W ∧ HLe H H' ∧ RVs ι' vs' vs ∧ InsRd tys xs H' vs' ∧ ds.length = tys.length
  | [], ts, vs, ds, ps, ι, H, hf, h, hv, hS => by
    cases ts with
    | nil => cases vs <;> cases ds <;> simp [DataW.TrodAll] at h <;> exact ⟨(), ι, H, [], trivial, .refl _, hS, .refl _, .nil, rfl, rfl⟩
    | cons => simp [fitsAll] at hf
  | t :: tys, ts, vs, ds, ps, ι, H, hf, h, hv, hS => by
    cases ts with
    | nil => simp [fitsAll] at hf
    | cons u ts =>
      cases vs with
      | nil => cases ds <;> simp [DataW.TrodAll] at h
      | cons v vs =>
        cases ds with
        | nil => simp [DataW.TrodAll] at h
        | cons d ds =>
          obtain ⟨p, q, ⟨fuel, h1⟩, h2, _⟩ := h
          simp only [fitsAll, Bool.and_eq_true] at hf
          obtain ⟨⟨x, ι1, H1, cs1, hwx, hle1, hS1, hHl1, hrv1, hrd1⟩, hl1⟩ := (read_in t).1 hf.1.1.1 h1 hS
          obtain ⟨xs, ι2, H2, vs2, hw2, hle2, hS2, hHl2, hrv2, hrd2, hl2⟩ := args_in tys hf.2 h2 (fun j t' v' ht' hv' => hv (j + 1) t' v' (by simpa using ht') (by simpa using hv')) hS1
          have hval := okWide_val hf.1.1.1 (hv 0 u v rfl rfl)
          have hc1 : cs1.length = t.size := by rw [hrv1.1, hl1]
          exact ⟨(x, xs), ι2, H2, t.val cs1 :: vs2, ⟨hwx, hw2⟩, hle1.trans hle2, hS2, hHl1.trans hHl2, .cons ((rvs_val hf.1.1.1 hval hrv1 hc1).mono hle2) hrv2,
            ⟨cs1, vs2, rfl, hc1, hrd1.mono t hHl2, hrd2⟩, by simp [hl2]⟩

def ι0 (G : Nat) : Nat → Option Loc := fun g => if g < G then some ⟨g, 0, 0, 1, false⟩ else none

theorem sim0 : Sim G (b0 W) (ι0 G) (List.replicate G AObj.dead) W := by
  have hd : ∀ (i : Nat) (o : AObj), (List.replicate G AObj.dead)[i]? = some o → o = .dead := by
    intro i o h
    rw [List.getElem?_replicate] at h
    split at h
    · exact (Option.some.inj h).symm
    · cases h
  refine ⟨fun i o h => ?_, fun i j o1 o2 l1 l2 h1 _ w1 => ?_, Nat.le_refl _, fun _ _ => rfl, fun i l h => ?_, fun g hg => ⟨⟨g, 0, 0, 1, false⟩, by simp [ι0, hg], rfl, rfl⟩, ⟨rfl, rfl, rfl⟩, fun b hb => (by cases hb), fun j cs es nx l hj _ => by have := hd j _ hj; cases this⟩
  · rw [hd i o h]; trivial
  · rw [hd i o1 h1] at w1; simp [AObj.wr] at w1
  · unfold ι0 at h
    split at h
    · simpa using ‹i < G›
    · cases h

theorem trodAll_below {ts : List TypeId} (hl : laidOutB P = true) {W' : World} (hb : Go.RowKit.Below W.heap.size W W') : ∀ (tys : List Ty) {ts : List TypeId} {vs : List Value} {ds : List (DataW H0)} {ps : List MemPlace}, fitsAll P tys ts = true →
    DataW.TrodAll enc P W 0 (fun _ => true) true ts vs ds ps → (∀ x ∈ ps, x.block < W.heap.size) → DataW.TrodAll enc P W' 0 (fun b => decide (b < W.heap.size)) true ts vs ds ps
  | [], ts, vs, ds, ps, hf, h, _ => by
    cases ts with
    | nil => cases vs <;> cases ds <;> simp [DataW.TrodAll] at h ⊢ <;> exact h
    | cons => simp [fitsAll] at hf
  | t :: tys, ts, vs, ds, ps, hf, h, hlt => by
    cases ts with
    | nil => simp [fitsAll] at hf
    | cons u ts =>
      cases vs with
      | nil => cases ds <;> simp [DataW.TrodAll] at h
      | cons v vs =>
        cases ds with
        | nil => simp [DataW.TrodAll] at h
        | cons d ds =>
          obtain ⟨p, q, h1, h2, rfl⟩ := h
          simp only [fitsAll, Bool.and_eq_true] at hf
          exact ⟨p, q, Go.RowKit.Below.trod hl hf.1.1.2 (by simpa using hf.1.2) h1 hb (fun x hx => hlt x (by simp [hx])), trodAll_below (ts := ts) hl hb tys hf.2 h2 (fun x hx => hlt x (by simp [hx])), rfl⟩

/-- What a law's row asks of a call: the abstract machine says true. -/
theorem law_calls (hm : P.follows .mixedOrders = true) (hlo : laidOutB P = true) {prim : FuncId → Option (List Value → M Value)} {lvs : FuncId → List (Nat × List Nat)} {tys : List Ty} {g : FuncId} {fn : Func} {s : ChangeSpec} {args : Array Value} {ds gs : List (DataW H0)} {before : List MemPlace} {base : Nat} {tb : TypeId} {apart fresh handsOn : Bool}
    (hprim : ∀ (b : Base) g m, prim g = some m → SoundP P P.globals.size b g m)
    (hlaw : ∀ (xs : Ins tys) (H : Heap) (vs : List Value), InsWf tys xs → InsRd tys xs H vs → ∃ n H', run P prim lvs n g vs H = some (.bool true, H'))
    (hfn : P.funcs[g]? = some fn) (hbody : fn.body.isNone = false) (hgy : g < yoff) (hf : fitsAll P tys fn.params.toList = true) (hres : fn.resultTypes = #[tb]) (htb : P.underlying tb = some .bool)
    (hvars : s.vars = []) (hs : ∀ ds : List (DataW H0), ds.length = tys.length → s.fn H0 ds = { results := [.lit (.bool true)], args := ds })
    (hval : ∀ (j : Nat) t v, fn.params[j]? = some t → args[j]? = some v → Value.okWide P W .any base t v)
    (hW : DataW.Whole enc P fn.params.toList s.vars apart W args.toList ds gs before) :
    Calls P g args W fun e W' => ∃ v, e = .returned v ∧ s.post enc P fn apart fresh handsOn false W args v W' := by
  have hlt := hW.lt
  obtain ⟨p, q, hA, hV, rfl, hfz, hnd⟩ := id hW
  rw [hvars] at hV
  obtain ⟨rfl, rfl⟩ := Go.ChangeShapes.trodVars_none hV
  obtain ⟨xs, ι, H, vs, hwf, hle, hS, hHl, hrv, hrd, hlen⟩ := args_in (G := P.globals.size) tys hf hA (fun j t v ht hv => hval j t v (by simpa using ht) (by simpa using hv)) sim0
  obtain ⟨n, H', hrun⟩ := hlaw xs H vs hwf hrd
  have hcc : SoundC P P.globals.size (b0 W) g (.bool true) vs H H' := by
    rcases run_sound hm hprim n (b0 W) g vs H _ H' hrun with ⟨_, hc | ⟨e, ⟨fn', h1, _, h2, _⟩, _⟩⟩ | ⟨hno, _⟩
    · exact hc
    · rw [hfn] at h1; cases h1
      rw [hbody] at h2; cases h2
    · exact absurd hgy (Nat.not_lt_of_le hno)
  obtain ⟨_, hc⟩ := hcc
  refine (hc ι W args.toList hS hrv).mono fun e W' ⟨ι1, v', hle1, he, hv', hS'⟩ => ?_
  have := hv'.bool_inv
  subst this
  refine ⟨_, he, ?_⟩
  have hb : Go.RowKit.Below W.heap.size W W' := ⟨hS'.rest.1, hS'.rest.2.1, hS'.rest.2.2, hS'.size, hS'.old⟩
  have hsp := hs (ds ++ []) (by simpa using hlen)
  refine ⟨ds, [], p ++ [], [], p ++ [], [], hW, ?_, ?_, ?_, hb.frame _, fun h => by cases h⟩
  · rw [hsp, hres]
    exact Go.ChangeShapes.trodAll_mk1 (Go.RowKit.shut_bool htb true)
  · rw [hsp, List.append_nil, List.append_nil]
    exact trodAll_below (ts := []) hlo hb tys hf hA (fun x hx => hlt x (by simpa using hx))
  · rw [hsp, hvars]; rfl
end
end Go.Proofs.YtlpibiaokpbhbaaGreatDoor.A
