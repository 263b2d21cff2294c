/- Maps copied, and their keys, sorted: functions of Go's library whose contracts the kit has; the abstract machine does them at once. -/
import Derived.Test.YtlpibiaokpbhbaaGreatDoorA29
import Derived.Maps.Own
import Derived.Sort.KeysCollected
namespace Go.Proofs.YtlpibiaokpbhbaaGreatDoor.A
set_option linter.unusedVariables false
set_option linter.unusedSimpArgs false
open Go.Sort

section
variable {P : Program} {w0 : Base} {ι : Nat → Option Loc} {H H1 : Heap} {w w' : World} {v : Value} {G : Nat}

/-! a copy of a map -/

def cloneM (args : List Value) : M Value := fun H =>
  match args with
  | [.map none] => some (.map none, H)
  | [.map (some id)] => match H[id]? with
    | some (.map es clk) => some (.map (some H.length), H ++ [.map es clk])
    | some (.mapU es) => some (.map (some H.length), H ++ [.mapU es])
    | _ => none
  | _ => none

/-- What the kit's contract says of maps.Clone. -/
structure CloneCon (P : Program) (g : FuncId) : Prop where
  c : callableF P g
  nil : ∀ w, Calls P g #[.map none] w fun e w' => e = .returned (.map none) ∧ w' = w
  some : ∀ b es clock w, w.heap[b]? = some (.map es clock) → Calls P g #[.map (some b)] w fun e w' => e = .returned (.map (some w.heap.size)) ∧ w' = w.alloc (.map es clock)

theorem clone_sound {g : FuncId} (hC : CloneCon P g) : SoundP P G w0 g cloneM := by
  intro args H v H1 h
  refine .inl ⟨hC.c, fun ι w args' hS hr => ?_⟩
  unfold cloneM at h
  split at h
  · cases h
    obtain ⟨x, r, rfl, hx, hr2⟩ := hr.cons_inv
    rw [hr2.nil_inv, hx.scalar_inv rfl]
    refine (hC.nil w).mono fun e w' ⟨he, hw⟩ => ⟨ι, _, .refl ι, he, .sc rfl, by rw [hw]; exact hS⟩
  · obtain ⟨x, r, rfl, hx, hr2⟩ := hr.cons_inv
    obtain ⟨l, hl, rfl⟩ := hx.map_inv
    rw [hr2.nil_inv]
    split at h
    · rename_i id _ es clk hid
      cases h
      obtain ⟨en, hb, hge, hE⟩ := hS.mapR hid hl
      refine (hC.some l.blk en clk w hb).mono fun e w' ⟨he, hw⟩ => ?_
      have hnew := hS.new (x := .map es clk) (l := ⟨w.heap.size, 0, 0, 0, false⟩) (.map en clk) rfl ⟨_, en, ext_self _ _ _, pushO_new w _, hS.size, hE.mono (le_ext hS _)⟩
      exact ⟨_, _, le_ext hS _, he, .mp (ext_self _ _ _), by rw [hw]; exact hnew⟩
    · rename_i id _ es hid
      cases h
      obtain ⟨en, clk, es2, hb, hge, hE, hp⟩ := hS.mapUR hid hl
      refine (hC.some l.blk en clk w hb).mono fun e w' ⟨he, hw⟩ => ?_
      have hnew := hS.new (x := .mapU es) (l := ⟨w.heap.size, 0, 0, 0, false⟩) (.map en clk) rfl ⟨_, en, clk, es2, ext_self _ _ _, pushO_new w _, hS.size, hE.mono (le_ext hS _), hp⟩
      exact ⟨_, _, le_ext hS _, he, .mp (ext_self _ _ _), by rw [hw]; exact hnew⟩
    · cases h
  · cases h

/-! the keys of a map, sorted -/

abbrev ksort (ks : List (List UInt8)) : List (List UInt8) := ks.mergeSort leB

structure KeysOk (es : List (Value × Value × Nat)) (ks : List (List UInt8)) : Prop where
  keys : es.map (·.1) = ks.map strv
  nod : ks.Nodup
  few : ks.length ≤ 1000000
  len : ∀ k ∈ ks, k.length ≤ 1000000

theorem strv_inj {a b : List UInt8} (h : strv a = strv b) : a = b := by simpa [strv] using h

theorem map_strv_inj {a b : List (List UInt8)} (h : a.map strv = b.map strv) : a = b := by
  have : Function.Injective strv := fun _ _ h => strv_inj h
  exact (List.map_inj_right (fun _ _ h => strv_inj h)).1 h

def keysOut (ks : List (List UInt8)) (H : Heap) : Option (Value × Heap) :=
  if ks = [] then some (.slice none 0 0, H)
  else some (.slice (some ⟨H.length, 0, none⟩) ks.length ks.length, H ++ [.cells ((ksort ks).map strv) 1 true false])

open Classical in
noncomputable def skeysM (gks : List FuncId) (gc : FuncId) (args : List Value) : M Value := fun H =>
  if h : ∃ gk c id es ks, gk ∈ gks ∧ args = [.func (.func gk) #[] #[pt c], .func (.func gc) #[] #[]] ∧ (∃ e, H[c]? = some (.cells [.map (some id)] e false false)) ∧ KeysOk es ks ∧ ((∃ clk, H[id]? = some (.map es clk) ∧ StampL es clk) ∨ H[id]? = some (.mapU es)) then
    keysOut (Classical.choose (Classical.choose_spec (Classical.choose_spec (Classical.choose_spec (Classical.choose_spec h))))) H
  else none

theorem skeys_eq {gks : List FuncId} {gc gk : FuncId} {c id e : Nat} {es : List (Value × Value × Nat)} {ks : List (List UInt8)} (hg : gk ∈ gks) (hc : H[c]? = some (.cells [.map (some id)] e false false)) (hk : KeysOk es ks)
    (hm : (∃ clk, H[id]? = some (.map es clk) ∧ StampL es clk) ∨ H[id]? = some (.mapU es)) : skeysM gks gc [.func (.func gk) #[] #[pt c], .func (.func gc) #[] #[]] H = keysOut ks H := by
  have hex : ∃ gk' c' id' es' ks', gk' ∈ gks ∧ [Value.func (.func gk) #[] #[pt c], .func (.func gc) #[] #[]] = [.func (.func gk') #[] #[pt c'], .func (.func gc) #[] #[]] ∧ (∃ e, H[c']? = some (.cells [.map (some id')] e false false)) ∧ KeysOk es' ks' ∧ ((∃ clk, H[id']? = some (.map es' clk) ∧ StampL es' clk) ∨ H[id']? = some (.mapU es')) :=
    ⟨gk, c, id, es, ks, hg, rfl, ⟨e, hc⟩, hk, hm⟩
  unfold skeysM
  rw [dif_pos hex]
  congr 1
  obtain ⟨_, h2, ⟨e', h3⟩, h4, h5⟩ := Classical.choose_spec (Classical.choose_spec (Classical.choose_spec (Classical.choose_spec (Classical.choose_spec hex))))
  generalize Classical.choose (Classical.choose_spec (Classical.choose_spec (Classical.choose_spec (Classical.choose_spec hex)))) = ks' at h4 ⊢
  generalize Classical.choose (Classical.choose_spec (Classical.choose_spec (Classical.choose_spec hex))) = es' at h4 h5
  generalize Classical.choose (Classical.choose_spec (Classical.choose_spec hex)) = id' at h3 h5
  generalize Classical.choose (Classical.choose_spec hex) = c' at h2 h3
  have ec : c = c' := by simp at h2; exact h2.2
  subst ec
  rw [hc] at h3
  have ei : id = id' := by simp at h3; exact h3.1
  subst ei
  have ees : es' = es := by
    rcases hm with ⟨clk, h6, _⟩ | h6 <;> rcases h5 with ⟨clk', h7, _⟩ | h7 <;> rw [h6] at h7 <;> cases h7 <;> rfl
  subst ees
  exact map_strv_inj (h4.keys.symm.trans hk.keys)

theorem skeys_inv {gks : List FuncId} {gc : FuncId} {args : List Value} (h : skeysM gks gc args H = some (v, H1)) :
    ∃ gk c id e es ks, gk ∈ gks ∧ args = [.func (.func gk) #[] #[pt c], .func (.func gc) #[] #[]] ∧ H[c]? = some (.cells [.map (some id)] e false false) ∧ KeysOk es ks ∧ ((∃ clk, H[id]? = some (.map es clk) ∧ StampL es clk) ∨ H[id]? = some (.mapU es)) ∧ keysOut ks H = some (v, H1) := by
  have h0 := h
  unfold skeysM at h
  split at h
  · rename_i hex
    obtain ⟨gk, c, id, es, ks, h1, rfl, ⟨e, h3⟩, h4, h5⟩ := hex
    rw [skeys_eq h1 h3 h4 h5] at h0
    exact ⟨gk, c, id, e, es, ks, h1, rfl, h3, h4, h5, h0⟩
  · cases h

/-- What the kit's contracts say of the keys of a map, sorted. -/
structure KeysCon (P : Program) (g gk gc : FuncId) : Prop where
  c : callableF P g
  run : ∀ (w : World) (Bm b : Nat) (es : Array MapEntry) (clock : Nat) (ks : List (List UInt8)), Bm < w.heap.size → w.cell? ⟨Bm, 0, none⟩ = some (.map (some b)) → w.heap[b]? = some (.map es clock) → es.toList.map (·.key) = ks.map strv → Go.MapKept.Stamped es clock →
    (∀ k ∈ ks, k.length ≤ 1000000) → ks.length ≤ 1000000 →
    Calls P g #[.func (.func gk) #[] #[.pointer (some ⟨Bm, 0, none⟩)], .func (.func gc) #[] #[]] w fun e w' => ∃ (v : Value) (t : TypeId), e = .returned v ∧ w'.ownsRow w.heap.size t 1 v ks.length ((ksort ks).map strv) ∧ (v = .slice none 0 0 ↔ ks = []) ∧ Go.RowKit.Below w.heap.size w w'

theorem Sim.below (h : Sim G w0 ι H w) (hb : Go.RowKit.Below w.heap.size w w') : Sim G w0 ι H w' := by
  refine ⟨fun i x hx => (h.obj i x hx).blk fun l hl hd => ?_, h.inj, Nat.le_trans h.size hb.size, fun b hlt => by rw [hb.block b (Nat.lt_of_lt_of_le hlt h.size)]; exact h.old b hlt, h.dom, h.glob, ?_, fun b hbp => ?_, fun j cs es nx l hj hl => (h.views j cs es nx l hj hl).to (.refl ι) fun h1 ⟨c0, el0, fr0, hc0⟩ => ⟨fun c el fr hc => ⟨fr, by rw [hb.block _ (Array.getElem?_eq_some_iff.1 hc0).1]; exact hc⟩, h1⟩⟩
  · obtain ⟨l', hl', hlt⟩ := (h.obj i x hx).loc hd
    rw [hl] at hl'; cases hl'
    exact hb.block _ hlt
  · rw [hb.os, hb.tape, hb.output]; exact h.rest
  · obtain ⟨p1, p2, p3⟩ := h.prot b hbp
    have hlt : b < w.heap.size := by
      rcases Nat.lt_or_ge b w.heap.size with h1 | h1
      · exact h1
      · rw [Array.getElem?_eq_none h1] at p1; cases p1
    exact ⟨by rw [hb.block b hlt]; exact p1, p2, p3⟩

theorem EntL.keys {ι : Nat → Option Loc} : ∀ {es : List (Value × Value × Nat)} {en : List MapEntry}, EntL ι es en → en.map (·.key) = es.map (·.1) ∧ en.map (·.born) = es.map (·.2.2)
  | [], [], _ => ⟨rfl, rfl⟩
  | e :: es, n :: ns, h => by
    obtain ⟨h1, h2⟩ := EntL.keys h.2
    exact ⟨by rw [List.map_cons, List.map_cons, h1, h.1.2.1], by rw [List.map_cons, List.map_cons, h2, h.1.2.2.2]⟩
  | [], _ :: _, h => h.elim
  | _ :: _, [], h => h.elim

theorem ksort_perm {a b : List (List UInt8)} (h : a.Perm b) : ksort a = ksort b := mergeSort_of_perm h

theorem ksort_len (ks : List (List UInt8)) : (ksort ks).length = ks.length := List.length_mergeSort ks

theorem nodup_strv {ks : List (List UInt8)} (h : ks.Nodup) : (ks.map strv).Nodup := by
  rw [List.nodup_iff_pairwise_ne] at h ⊢
  rw [List.pairwise_map]
  exact h.imp fun h e => h (strv_inj e)

theorem skeys_sound {gks : List FuncId} {g gc : FuncId} (hgks : gks ≠ []) (hC : ∀ gk ∈ gks, KeysCon P g gk gc) : SoundP P G w0 g (skeysM gks gc) := by
  intro args H v H1 h
  have hcall : callableF P g := by
    cases gks with
    | nil => exact absurd rfl hgks
    | cons a l => exact (hC a (by simp)).c
  refine .inl ⟨hcall, fun ι w args' hS hr => ?_⟩
  obtain ⟨gk, c, id, e, es, ks, hg, rfl, hc, hk, hm, ho⟩ := skeys_inv h
  obtain ⟨x, r, rfl, hx, hr2⟩ := hr.cons_inv
  obtain ⟨y, r, rfl, hy, hr3⟩ := hr2.cons_inv
  rw [hr3.nil_inv]
  obtain ⟨a1, b1, rfl, ha1, hb1⟩ := hx.fn_inv
  obtain ⟨a2, b2, rfl, ha2, hb2⟩ := hy.fn_inv
  have ea1 : a1 = #[] := by have := ha1.nil_inv; simpa using this
  have ea2 : a2 = #[] := by have := ha2.nil_inv; simpa using this
  have eb2 : b2 = #[] := by have := hb2.nil_inv; simpa using this
  obtain ⟨p', q', eb1, hp', hq'⟩ := hb1.cons_inv
  have := hq'.nil_inv
  subst this
  obtain ⟨lc, hlc, rfl⟩ := hp'.ptr_inv
  have eb1 : b1 = #[.pointer (some ⟨lc.blk, lc.base + 0, none⟩)] := by
    apply Array.ext'
    simpa using eb1
  subst ea1
  subst ea2
  subst eb2
  subst eb1
  -- the box
  obtain ⟨cc, el, fr, _, hgrow, hbc, hb5, hb6, hrc, hro, _⟩ := hS.cellsR hc hlc
  have hbase : lc.base = 0 := (hro rfl).2.2 hgrow
  have hbl : lc.blk < w.heap.size := by
    rcases Nat.lt_or_ge lc.blk w.heap.size with h1 | h1
    · exact h1
    · rw [Array.getElem?_eq_none h1] at hbc; cases hbc
  obtain ⟨u, hu1, hu2⟩ := hrc.at (o := 0) (by simp)
  obtain ⟨lm, hlm, hu3⟩ := RV.map_inv (id := id) hu2
  subst hu3
  have hcell : w.cell? ⟨lc.blk, 0, none⟩ = some (.map (some lm.blk)) := by
    rw [cellW hbc]
    simpa [hbase] using hu1
  -- the map
  obtain ⟨en, clock, ks', hmb, hkeys, hst, hperm⟩ : ∃ (en : Array MapEntry) (clock : Nat) (ks' : List (List UInt8)), w.heap[lm.blk]? = some (.map en clock) ∧ en.toList.map (·.key) = ks'.map strv ∧ Go.MapKept.Stamped en clock ∧ ks'.Perm ks := by
    rcases hm with ⟨clk, hid, hst⟩ | hid
    · obtain ⟨en, hb, _, hE⟩ := hS.mapR hid hlm
      obtain ⟨k1, k2⟩ := EntL.keys hE
      refine ⟨en, clk, ks, hb, k1.trans hk.keys, ⟨fun x hx => ?_, by rw [k2]; exact hst.nod, by rw [k1, hk.keys]; exact nodup_strv hk.nod⟩, .refl _⟩
      have : x.born ∈ en.toList.map (·.born) := List.mem_map.2 ⟨x, hx, rfl⟩
      rw [k2] at this
      obtain ⟨e', h1, h2⟩ := List.mem_map.1 this
      rw [← h2]; exact hst.lt e' h1
    · obtain ⟨en, clk, es2, hb, _, hE, hp⟩ := hS.mapUR hid hlm
      obtain ⟨k1, k2⟩ := EntL.keys hE
      have hpk : (es2.map (·.1)).Perm (es.map (·.1)) := by
        have := hp.perm.map (·.1)
        rwa [kv_key, kv_key] at this
      obtain ⟨ks2, hks2⟩ : ∃ ks2 : List (List UInt8), es2.map (·.1) = ks2.map strv := by
        refine ⟨es2.map fun e => match e.1 with | .string s => s.data.toList | _ => [], ?_⟩
        rw [List.map_map]
        refine List.map_congr_left fun e he => ?_
        obtain ⟨s, hs⟩ := hp.strs e he
        simp [hs, strv]
      rw [hks2, hk.keys] at hpk
      have hpk2 : ks2.Perm ks := by
        have h3 := hpk.map fun v : Value => match v with | .string s => s.data.toList | _ => ([] : List UInt8)
        simpa [List.map_map, Function.comp_def, strv] using h3
      refine ⟨en, clk, ks2, hb, k1.trans hks2, ⟨fun x hx => ?_, by rw [k2]; exact hp.st.nod, by rw [k1]; exact hp.nod2⟩, hpk2⟩
      have : x.born ∈ en.toList.map (·.born) := List.mem_map.2 ⟨x, hx, rfl⟩
      rw [k2] at this
      obtain ⟨e', h1, h2⟩ := List.mem_map.1 this
      rw [← h2]; exact hp.st.lt e' h1
  have hfew := hk.few
  have hcon := (hC gk hg).run w lc.blk lm.blk en clock ks' hbl hcell hmb hkeys hst (fun k hm => hk.len k (hperm.mem_iff.1 hm)) (by rw [hperm.length_eq]; exact hfew)
  rw [ksort_perm hperm, hperm.length_eq] at hcon
  simp only [Nat.add_zero, hbase]
  refine hcon.mono fun ee w' ⟨v', t, he, hrow, hnil, hb⟩ => ?_
  have hnil2 : v' = .slice none 0 0 ↔ ks = [] := by
    rw [hnil]
    constructor
    · rintro rfl; exact List.eq_nil_of_length_eq_zero (by rw [← hperm.length_eq]; rfl)
    · rintro rfl; exact List.eq_nil_of_length_eq_zero (by rw [hperm.length_eq]; rfl)
  have hS' := hS.below hb
  unfold keysOut at ho
  by_cases h0 : ks = []
  · rw [if_pos h0] at ho
    cases ho
    exact ⟨ι, _, .refl ι, he, by rw [hnil2.2 h0]; exact .sc rfl, hS'⟩
  · rw [if_neg h0] at ho
    cases ho
    rcases hrow.2 with ⟨hv, _⟩ | ⟨gb, cap, cur, rfl, hge, hgb, r1, r2, r3, r4⟩
    · exact absurd (hnil2.1 hv) h0
    have hlen : ((ksort ks).map strv).length = ks.length := by rw [List.length_map, ksort_len]
    rw [Nat.mul_one] at r3 r4
    have hadd := hS'.add (o := .cells ((ksort ks).map strv) 1 true false) (l := ⟨gb, 0, cap, 1, true⟩) ⟨⟨gb, 0, cap, 1, true⟩, cur, t, (0, 0), ext_self _ _ _, rfl, rfl, hgb, by show 0 + _ ≤ cap; omega, by show cap ≤ cur.size; omega, by
      show RVs _ _ ((cur.toList.drop 0).take _)
      rw [List.drop_zero, hlen, r4]
      refine ⟨rfl, fun i hi => ?_⟩
      rw [List.getD_eq_getElem?_getD, List.getElem?_eq_getElem hi]
      simp only [List.getElem_map, Option.getD_some]
      exact .sc rfl, fun _ => ⟨Nat.le_trans hS.size hge, .inl rfl, fun h => by cases h⟩, by simp, fun x hx => by
      obtain ⟨k, _, rfl⟩ := List.mem_map.1 hx
      rfl⟩ (fun i oi li hi hw hl => by
      have := ((hS.obj i oi hi).newer hw li hl).2
      show li.blk ≠ gb
      omega) (fun b hbp => by
      have p1 := (hS.prot b hbp).1
      show gb ≠ b
      rintro rfl
      rw [Array.getElem?_eq_none hge] at p1; cases p1) (fun _ j cs es nx lj hj hlj hbe => by
      rcases hS.views j cs es nx lj hj hlj with ⟨l', k1, k2⟩ | ⟨⟨c, el, fr, k1, _⟩, _⟩
      · exact ⟨l', k1, k2⟩
      · have := (Array.getElem?_eq_some_iff.1 k1).1
        have hbe : lj.blk = gb := hbe
        omega)
    refine ⟨_, _, le_ext hS' _, he, ?_, hadd⟩
    have := RV.slc (ι := extι ι H.length ⟨gb, 0, cap, 1, true⟩) (id := H.length) (o := 0) (n := ks.length) (c := ks.length) (c' := cap) (ext_self _ _ _) (Nat.le_refl _) r1 (fun h => by cases h) (by simp)
    simpa using this

end

end Go.Proofs.YtlpibiaokpbhbaaGreatDoor.A
