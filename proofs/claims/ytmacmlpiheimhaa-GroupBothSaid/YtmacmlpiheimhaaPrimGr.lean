/- (*group.Groups).Copy: what the model's run of it comes to. -/
import Derived.Test.YtmacmlpiheimhaaProg
import Derived.Test.YtmacmlpiheimhaaA33
import Derived.WalkKit
import Derived.Maps.RangeWalk
import Derived.Deep.RegionWith
import Derived.Deep.Cut
namespace Go.Proofs.Ytmacmlpiheimhaa.A
set_option linter.unusedVariables false
set_option linter.unusedSimpArgs false
open Go.RowKit Go.Maps Go.ChangeMaps Go.MapKept

section
variable {P : Program} (w : World) {ops : Array Oper} {rest : List Oper} {o : Oper} {a : Act} {Q : Exit → Act → World → Prop}

theorem wpList_range_raw (hg : o.guard = none) (m : Operand) (t : TypeId) (hop : o.op = Op.range t m) (k e : TypeId) (ht : P.underlying t = some (.map k e)) (b : Nat) (es : Array MapEntry) (clock : Nat)
    (hm : a.eval m = .map (some b)) (hb : w.heap[b]? = some (.map es clock))
    (hK : wpList P ops Q rest (a.put o.dst (.pointer (some ⟨w.heap.size, 0, none⟩))) (w.alloc (.mapIter (some b) clock #[] clock))) :
    wpList P ops Q (o :: rest) a w := by
  refine wpList_plain hg fun K' hK' => ?_
  have hrun := run_range_map (P := P) w t k e b es clock ht hb
  unfold Oper.wp
  simp [execOp, hop, hm, hrun, Result.andThen]
  exact hK' _ _ hK

/-- The step. -/
theorem wpList_next_raw (hg : o.guard = none) (it : Operand) (hop : o.op = Op.next it false) (b r since c0 clock : Nat) (seen : Array Nat) (es : Array MapEntry)
    (hit : a.eval it = .pointer (some ⟨r, 0, none⟩)) (hr : w.heap[r]? = some (.mapIter (some b) since seen c0)) (hb : w.heap[b]? = some (.map es clock)) (hst : Go.MapKept.Stamped es clock) (hsince : since = clock) (hsc : since ≤ c0)
    (hDone : (∀ x ∈ es.toList, x.born ∈ seen) → wpList P ops Q rest (a.put o.dst (.tuple #[.bool false])) w)
    (hMore : ∀ (e : MapEntry) (w' : World), e ∈ es.toList → e.born ∉ seen → w'.heap[r]? = some (.mapIter (some b) since (seen.push e.born) clock) → (leftOf es (seen.push e.born)).size < (leftOf es seen).size →
      w.grownBy w' (some r) → w'.heap.size = w.heap.size → (Instr.entry (.pointer (some ⟨r, 0, none⟩))).run P w' = .ok (.tuple #[e.key, e.val]) w' → wpList P ops Q rest (a.put o.dst (.tuple #[.bool true, e.key, e.val])) w') :
    wpList P ops Q (o :: rest) a w := by
  refine wpList_plain hg fun K' hK' => ?_
  unfold Oper.wp
  have hold : ∀ x ∈ es.toList, x.born < since := by rw [hsince]; exact hst.1
  rcases run_next_at (P := P) w o.type r b since c0 seen es clock hr hb hold hsc with ⟨h0, hrun⟩ | ⟨e, he, w1, hal, hrun⟩
  · simp [execOp, hop, hit, hrun, Result.andThen]
    refine hK' _ _ (hDone fun x hx => ?_)
    have := all_seen es seen h0 x hx
    simpa using this
  · obtain ⟨hem, hes⟩ := mem_left he
    have hr1 : w1.heap[r]? = some (.mapIter (some b) since seen c0) := by rcases hal with rfl | rfl <;> exact hr
    have hb1 : w1.heap[b]? = some (.map es clock) := by rcases hal with rfl | rfl <;> exact hb
    have hset := heap_set (o' := .mapIter (some b) since (seen.push e.born) clock) hr1
    have hne : r ≠ b := by
      intro e1
      rw [e1, hb] at hr
      cases hr
    have hb' : (setBlock w1 r (.mapIter (some b) since (seen.push e.born) clock)).heap[b]? = some (.map es clock) := (hset.2 b (fun e1 => hne e1.symm)).trans hb1
    simp [execOp, hop, hit, hrun, Result.andThen]
    refine hK' _ _ (hMore e _ hem (by simpa using hes) hset.1 (left_shrinks es seen e he) ?_ ?_ (run_entry_at _ r b since seen es clock e hset.1 hb' hem ((stamped_iff es clock).1 hst).2.1))
    · rcases hal with rfl | rfl <;> exact ⟨rfl, rfl, rfl, by simp [setBlock], fun i _ hi => hset.2 i (fun e1 => hi (by rw [e1]))⟩
    · rcases hal with rfl | rfl <;> simp [setBlock]

end

theorem heap_alloc_lt {w : World} {o : Obj} {b : Nat} (h : b < w.heap.size) : (w.alloc o).heap[b]? = w.heap[b]? := (MapKept.heap_alloc w o).2 b h

/-- A map with texts as keys takes a new key. -/
theorem run_mup_raw {P : Program} {t kt e : TypeId} {k : List UInt8} {en : Array MapEntry} {ck ob : Nat} {W : World} (ht : P.underlying t = some (.map kt e)) (htk : tkT P kt = .str) (hb : W.heap[ob]? = some (.map en ck)) (hkeys : ∀ x ∈ en.toList, ∃ k', x.key = strv k' ∧ k' ≠ k) (v : Value) :
    ∃ W2, (Instr.mapUpdate t (.map (some ob)) (strv k) v).run P W = .ok () W2 ∧ W2 = setB W ob (.map (en.push { key := strv k, val := v, born := ck }) (ck + 1)) := by
  have hok : okK (tkT P kt) (strv k) = true := by rw [htk]; rfl
  obtain ⟨d, hd, hsk, hchk⟩ := ok_under hok
  have hE : ∀ l : List MapEntry, (∀ x ∈ l, ∃ k', x.key = strv k' ∧ k' ≠ k) → EntL (fun _ => none) (l.map fun x => (x.key, Value.tuple #[], x.born)) l ∧ ∀ i, findA .str (strv k) (l.map fun x => (x.key, Value.tuple #[], x.born)) i = some none := by
    intro l
    induction l with
    | nil => intro _; exact ⟨trivial, fun _ => rfl⟩
    | cons x l ih =>
      intro h
      obtain ⟨k', hk1, hk2⟩ := h x (by simp)
      obtain ⟨h1, h2⟩ := ih fun y hy => h y (by simp [hy])
      refine ⟨⟨⟨by show Scalar x.key = true; rw [hk1]; rfl, rfl, .un, rfl⟩, h1⟩, fun i => ?_⟩
      have hs : sameK .str (strv k) x.key = some (k == k') := by rw [hk1]; simp only [sameK, strv, ba_beq]
      simp only [List.map_cons, findA, hs]
      rw [show (k == k') = false by rw [beq_eq_false_iff_ne]; exact Ne.symm hk2]
      exact h2 _
  obtain ⟨h1, h2⟩ := hE en.toList hkeys
  obtain ⟨r', h3, h4⟩ := find_run (k := strv k) hd 0 h1 (by rw [htk]; exact h2 0)
  cases r' with
  | some p => exact h4.elim
  | none =>
    refine ⟨_, ?_, rfl⟩
    simp only [Instr.mapUpdate, Sem.run_bind, run_underlying ht, Result.andThen_ok, run_getMap hb, hchk, run_findKey hd h3, run_setMap hb]

/-- What has been copied so far. -/
structure CpR (w : World) (b r gb' ob : Nat) (es : Array MapEntry) (clock : Nat) (seen : Array Nat) (c0 : Nat) (en : Array MapEntry) (ck : Nat) (L : List (MapEntry × Nat)) (el : TypeId) (wr : World) : Prop where
  it : wr.heap[r]? = some (.mapIter (some b) clock seen c0)
  c0 : clock ≤ c0
  g : wr.heap[gb']? = some (.cells #[.map (some ob)] el (0, 0))
  o : wr.heap[ob]? = some (.map en ck)
  st : Go.MapKept.Stamped en ck
  ent : en.toList.map (fun x => (x.key, x.val)) = L.map (fun p => (p.1.key, Value.map (some p.2)))
  sn : L.map (·.1.born) = seen.toList
  mem : ∀ p ∈ L, p.1 ∈ es.toList ∧ ∃ sb ses sclk, p.1.val = .map (some sb) ∧ w.heap[sb]? = some (.map ses sclk) ∧ wr.heap[p.2]? = some (.map ses sclk)
  nod : (r :: gb' :: ob :: L.map (·.2)).Nodup
  ge : ∀ q ∈ r :: gb' :: ob :: L.map (·.2), w.heap.size ≤ q
  snod : seen.toList.Nodup
  bel : Below w.heap.size w wr

section
variable {w wr w1 : World} {b r g o : Nat} {es : Array MapEntry} {clock : Nat} {seen : Array Nat} {c0 : Nat} {en : Array MapEntry} {ck : Nat} {L : List (MapEntry × Nat)} {el : TypeId}

theorem CpR.lts (h : CpR w b r g o es clock seen c0 en ck L el wr) : r < wr.heap.size ∧ g < wr.heap.size ∧ o < wr.heap.size := ⟨(Array.getElem?_eq_some_iff.1 h.it).1, (Array.getElem?_eq_some_iff.1 h.g).1, (Array.getElem?_eq_some_iff.1 h.o).1⟩

theorem CpR.keys (h : CpR w b r g o es clock seen c0 en ck L el wr) (hst : Go.MapKept.Stamped es clock) {e : MapEntry} (he1 : e ∈ es.toList) (he2 : e.born ∉ seen) : ∀ x ∈ en.toList, x.key ≠ e.key := fun x hx e4 => by
  have h3 : (x.key, x.val) ∈ L.map (fun p => (p.1.key, Value.map (some p.2))) := by rw [← h.ent]; exact List.mem_map.2 ⟨x, hx, rfl⟩
  obtain ⟨p, hp, h4⟩ := List.mem_map.1 h3
  simp only [Prod.mk.injEq] at h4
  obtain ⟨hm, _⟩ := h.mem p hp
  have h5 : p.1 = e := entry_eq_of_key ((stamped_iff es clock).1 hst).2.2 hm he1 (h4.1.trans e4)
  have : p.1.born ∈ seen.toList := by rw [← h.sn]; exact List.mem_map.2 ⟨p, hp, rfl⟩
  rw [h5] at this
  exact he2 (by simpa using this)

theorem CpR.next (h : CpR w b r g o es clock seen c0 en ck L el wr) (hst : Go.MapKept.Stamped es clock) {e : MapEntry} {sb sclk : Nat} {ses : Array MapEntry} (he1 : e ∈ es.toList) (he2 : e.born ∉ seen) (hev : e.val = .map (some sb)) (hsb : w.heap[sb]? = some (.map ses sclk))
    (hit : w1.heap[r]? = some (.mapIter (some b) clock (seen.push e.born) clock)) (hgr : wr.grownBy w1 (some r)) (hsz : w1.heap.size = wr.heap.size) :
    CpR w b r g o es clock (seen.push e.born) clock (en.push { key := e.key, val := .map (some wr.heap.size), born := ck }) (ck + 1) (L ++ [(e, wr.heap.size)]) el
      (setB (w1.alloc (.map ses sclk)).drew o (.map (en.push { key := e.key, val := .map (some wr.heap.size), born := ck }) (ck + 1))) := by
  obtain ⟨l1, l2, l3⟩ := h.lts
  have hnod := h.nod
  simp only [List.nodup_cons, List.mem_cons, not_or] at hnod
  obtain ⟨⟨n1, n2, n3⟩, ⟨n4, n5⟩, n6, n7⟩ := hnod
  generalize hX : Obj.map (en.push { key := e.key, val := .map (some wr.heap.size), born := ck }) (ck + 1) = X
  have hge := h.ge
  have hLlt : ∀ p ∈ L, p.2 < wr.heap.size := fun p hp => by
    obtain ⟨_, sb', ses', sclk', h1, h2, h3⟩ := h.mem p hp
    exact (Array.getElem?_eq_some_iff.1 h3).1
  have keep : ∀ c, c < wr.heap.size → c ≠ o → c ≠ r → (setB (w1.alloc (.map ses sclk)).drew o X).heap[c]? = wr.heap[c]? := fun c hc h1 h2 => by
    rw [setB_other h1]
    show (w1.alloc (.map ses sclk)).heap[c]? = _
    rw [heap_alloc_lt (by omega), hgr.block c hc (by simpa using h2)]
  have hk := h.keys hst he1 he2
  have hst2 := (stamped_iff en ck).1 h.st
  refine ⟨?_, Nat.le_refl _, by rw [keep g l2 n4 (Ne.symm n1)]; exact h.g, ?_, ?_, ?_, ?_, ?_, ?_, ?_, ?_, ?_⟩
  · rw [setB_other n2]
    show (w1.alloc (.map ses sclk)).heap[r]? = _
    rw [heap_alloc_lt (by omega)]; exact hit
  · rw [setB_same (by show o < (w1.alloc (.map ses sclk)).heap.size; simp; omega), hX]
  · refine (stamped_iff _ _).2 ⟨fun x hx => ?_, ?_, ?_⟩
    · rw [Array.toList_push, List.mem_append] at hx
      rcases hx with hx | hx
      · exact Nat.lt_succ_of_lt (hst2.1 x hx)
      · have : x = { key := e.key, val := .map (some wr.heap.size), born := ck } := by simpa using hx
        rw [this]; exact Nat.lt_succ_self _
    · rw [Array.toList_push, List.map_append, List.nodup_append]
      refine ⟨hst2.2.1, by simp, fun a ha c hc => ?_⟩
      have hc : c = ck := by simpa using hc
      obtain ⟨x, hx, rfl⟩ := List.mem_map.1 ha
      have := hst2.1 x hx
      omega
    · rw [Array.toList_push, List.pairwise_append]
      refine ⟨hst2.2.2, by simp, fun x hx y hy => ?_⟩
      have : y = { key := e.key, val := .map (some wr.heap.size), born := ck } := by simpa using hy
      rw [this]; exact hk x hx
  · rw [Array.toList_push, List.map_append, List.map_append, h.ent]; rfl
  · rw [List.map_append, h.sn, Array.toList_push]; rfl
  · intro p hp
    rcases List.mem_append.1 hp with hp | hp
    · obtain ⟨h1, sb', ses', sclk', h2, h4, h3⟩ := h.mem p hp
      have hp2 : p.2 ∈ L.map (·.2) := List.mem_map.2 ⟨p, hp, rfl⟩
      exact ⟨h1, sb', ses', sclk', h2, h4, by rw [keep p.2 (hLlt p hp) (fun e1 => n6 (e1 ▸ hp2)) (fun e1 => n3 (e1 ▸ hp2))]; exact h3⟩
    · have : p = (e, wr.heap.size) := by simpa using hp
      subst this
      refine ⟨he1, sb, ses, sclk, hev, hsb, ?_⟩
      rw [setB_other (by show wr.heap.size ≠ o; omega)]
      show (w1.alloc (.map ses sclk)).heap[wr.heap.size]? = _
      rw [← hsz]
      exact (MapKept.heap_alloc w1 _).1
  · have hnew : ∀ q ∈ r :: g :: o :: L.map (·.2), q ≠ wr.heap.size := fun q hq => by
      simp only [List.mem_cons] at hq
      rcases hq with rfl | rfl | rfl | hq
      · omega
      · omega
      · omega
      · obtain ⟨p, hp, rfl⟩ := List.mem_map.1 hq
        exact Nat.ne_of_lt (hLlt p hp)
    have : r :: g :: o :: (L ++ [(e, wr.heap.size)]).map (·.2) = (r :: g :: o :: L.map (·.2)) ++ [wr.heap.size] := by simp
    rw [this, List.nodup_append]
    refine ⟨h.nod, by simp, fun a ha c hc => ?_⟩
    have hc : c = wr.heap.size := by simpa using hc
    rw [hc]; exact hnew a ha
  · intro q hq
    have : r :: g :: o :: (L ++ [(e, wr.heap.size)]).map (·.2) = (r :: g :: o :: L.map (·.2)) ++ [wr.heap.size] := by simp
    rw [this] at hq
    rcases List.mem_append.1 hq with hq | hq
    · exact hge q hq
    · have : q = wr.heap.size := by simpa using hq
      rw [this]; exact h.bel.size
  · rw [Array.toList_push, List.nodup_append]
    refine ⟨h.snod, by simp, fun a ha c hc => ?_⟩
    have hc : c = e.born := by simpa using hc
    rw [hc]; rintro rfl; exact he2 (by simpa using ha)
  · refine ⟨(show w1.os = _ from hgr.os.trans h.bel.os), (show w1.tape = _ from hgr.tape.trans h.bel.tape), (show w1.output = _ from hgr.output.trans h.bel.output), ?_, fun i hi => ?_⟩
    · rw [setB_size]
      show _ ≤ (w1.alloc (.map ses sclk)).heap.size
      have := h.bel.size
      simp; omega
    · have ho := hge o (by simp)
      have hr := hge r (by simp)
      rw [keep i (Nat.lt_of_lt_of_le hi h.bel.size) (by omega) (by omega)]
      exact h.bel.block i hi

theorem CpR.left (h : CpR w b r g o es clock seen c0 en ck L el wr) (hb : w.heap[b]? = some (.map es clock)) : wr.heap[b]? = some (.map es clock) ∧ wr.rangeLeft b r = (leftOf es seen).size := by
  have hbl : b < w.heap.size := (Array.getElem?_eq_some_iff.1 hb).1
  have h1 : wr.heap[b]? = some (.map es clock) := (h.bel.block b hbl).trans hb
  refine ⟨h1, ?_⟩
  simp only [World.rangeLeft, h1, h.it]

theorem CpR.perm (h : CpR w b r g o es clock seen c0 en ck L el wr) (hst : Go.MapKept.Stamped es clock) (hall : ∀ x ∈ es.toList, x.born ∈ seen) : (L.map (·.1)).Perm es.toList := by
  have hst2 := (stamped_iff es clock).1 hst
  have n1 : (L.map (·.1)).Nodup := by
    have : ((L.map (·.1)).map (·.born)).Nodup := by rw [List.map_map]; exact h.sn ▸ h.snod
    exact List.Pairwise.of_map _ (fun a b h e => h (congrArg _ e)) this
  have n2 : es.toList.Nodup := List.Pairwise.of_map _ (fun a b h e => h (congrArg _ e)) hst2.2.1
  refine (List.perm_ext_iff_of_nodup n1 n2).2 fun x => ⟨fun hx => ?_, fun hx => ?_⟩
  · obtain ⟨p, hp, rfl⟩ := List.mem_map.1 hx
    exact (h.mem p hp).1
  · have h1 : x.born ∈ L.map (·.1.born) := by rw [h.sn]; simpa using hall x hx
    obtain ⟨p, hp, h2⟩ := List.mem_map.1 h1
    have : p.1 = x := born_inj hst2.2.1 (h.mem p hp).1 hx h2
    exact List.mem_map.2 ⟨p, hp, this⟩

end

set_option maxRecDepth 100000 in
theorem grCopy (hCl : CloneCon Try.prog 93) : CopyCon Try.prog 65 where
  c := ⟨Try.f65, Try.func65, by kernel_rfl, by kernel_rfl⟩
  run := fun w gb b es clock hgb hcell hb hst hks hvs => by
    have hmm := @run_makeMap Try.prog
    have hbl : b < w.heap.size := (Array.getElem?_eq_some_iff.1 hb).1
    go_enter Try.func65, Try.ntmps65
    go_wp2_with (first
      | (at_range; refine wpList_range_raw _ rfl _ 87 rfl _ _ Try.underlying87 b es clock rfl ?_ ?_)
      | go_in)
    · rw [heap_alloc_lt (by simp; omega), heap_alloc_lt hbl]; exact hb
    · go_frame
      have e1 : ((w.alloc (.map #[] 0)).alloc (.cells #[.map (some w.heap.size)] 89)).heap.size = w.heap.size + 2 := by simp
      have e2 : (w.alloc (.map #[] 0)).heap.size = w.heap.size + 1 := by simp
      rw [e1]
      try rw [e2]
      go_loopw [4, 5] (fun _ _ wr => ∃ seen c0 en ck L, CpR w b (w.heap.size + 2) (w.heap.size + 1) w.heap.size es clock seen c0 en ck L 89 wr) (fun _ _ wr => wr.rangeLeft b (w.heap.size + 2))
      case atStart =>
        refine ⟨#[], clock, #[], 0, [], ?_⟩
        have hA := fun (w : World) (o : Obj) => (MapKept.heap_alloc w o).1
        refine ⟨?_, Nat.le_refl _, ?_, ?_, ⟨by simp, by simp, by simp⟩, rfl, rfl, by simp, by simp, ?_, by simp, ?_⟩
        · rw [← e1]; exact hA _ _
        · rw [heap_alloc_lt (by rw [e1]; omega), ← e2]; exact hA _ _
        · rw [heap_alloc_lt (by rw [e1]; omega), heap_alloc_lt (by rw [e2]; omega)]; exact hA _ _
        · intro q hq
          simp only [List.map_nil, List.mem_cons, List.not_mem_nil, or_false] at hq
          omega
        · exact (((Below.refl _ _).alloc (Nat.le_refl _) _).alloc (by rw [e2]; omega) _).alloc (by rw [e1]; omega) _
      case round =>
        obtain ⟨seen, c0, en, ck, L, hR⟩ := hrel
        go_wp2_with (first
          | (at_next; refine wpList_next_raw _ rfl _ rfl b (w.heap.size + 2) clock c0 clock seen es rfl hR.it ?_ hst rfl hR.c0 ?_ ?_)
          | go_in)
        · exact (hR.left hb).1
        · intro hdone
          go_wp2
          go_ret
          have hp := hR.perm hst (by simpa using hdone)
          have hnod := hR.nod
          have hge := hR.ge
          exact ⟨_, _, _, _, _, _, rfl, hR.g, hR.o, hR.st, hR.ent, hp, fun p hp => (by obtain ⟨_, sb, ses, sclk, h1, h2, h3⟩ := hR.mem p hp; exact ⟨sb, h1, h3.trans h2.symm⟩), (List.nodup_cons.1 hnod).2, fun q hq => hge q (List.mem_cons_of_mem _ hq), hR.bel⟩
        · intro e w1 he1 he2 hit1 hlt hgr hsz hen
          go_upto_region 5 with fail
          have he1 : e ∈ es.toList := by simpa using he1
          obtain ⟨sb, ses, sclk, hev, hsb⟩ := hvs e he1
          obtain ⟨k, hek⟩ := hks e he1
          obtain ⟨W2, hcg, hcg2, hsz1, hsb1, hmu, hW2⟩ : ∃ W2, w1.cell? ⟨w.heap.size + 1, 0, none⟩ = some (.map (some w.heap.size)) ∧ (w1.alloc (.map ses sclk)).cell? ⟨w.heap.size + 1, 0, none⟩ = some (.map (some w.heap.size)) ∧ w.heap.size + 1 < wr.heap.size ∧ w1.heap[sb]? = some (.map ses sclk) ∧
              (Instr.mapUpdate 87 (.map (some w.heap.size)) (strv k) (.map (some wr.heap.size))).run Try.prog (w1.alloc (.map ses sclk)).drew = .ok () W2 ∧ W2 = setB (w1.alloc (.map ses sclk)).drew w.heap.size (.map (en.push { key := strv k, val := .map (some wr.heap.size), born := ck }) (ck + 1)) := by
            have hw : w.heap.size < wr.heap.size := (Array.getElem?_eq_some_iff.1 hR.o).1
            have hg1 : w1.heap[w.heap.size + 1]? = some (.cells #[.map (some w.heap.size)] 89 (0, 0)) := by
              rw [hgr.block _ (Array.getElem?_eq_some_iff.1 hR.g).1 (by simp)]; exact hR.g
            have ho1 : w1.heap[w.heap.size]? = some (.map en ck) := by
              rw [hgr.block _ hw (by simp)]; exact hR.o
            have hcg : w1.cell? ⟨w.heap.size + 1, 0, none⟩ = some (.map (some w.heap.size)) := by
              rw [cellW hg1]; rfl
            have hsbl : sb < w.heap.size := (Array.getElem?_eq_some_iff.1 hsb).1
            have hsb1 : w1.heap[sb]? = some (.map ses sclk) := by
              rw [hgr.block _ (by omega) (by simp; omega), hR.bel.block sb hsbl]; exact hsb
            have hoD : (w1.alloc (.map ses sclk)).drew.heap[w.heap.size]? = some (.map en ck) := by
              show (w1.alloc (.map ses sclk)).heap[w.heap.size]? = _
              rw [heap_alloc_lt (by omega)]; exact ho1
            have hkn : ∀ x ∈ en.toList, ∃ k', x.key = strv k' ∧ k' ≠ k := fun x hx => by
              have h3 : (x.key, x.val) ∈ L.map (fun p => (p.1.key, Value.map (some p.2))) := by rw [← hR.ent]; exact List.mem_map.2 ⟨x, hx, rfl⟩
              obtain ⟨p, hp, h4⟩ := List.mem_map.1 h3
              simp only [Prod.mk.injEq] at h4
              obtain ⟨hm, _⟩ := hR.mem p hp
              obtain ⟨k', hk'⟩ := hks p.1 hm
              refine ⟨k', by rw [← h4.1]; exact hk', fun e4 => he2 ?_⟩
              have h5 : p.1 = e := entry_eq_of_key ((stamped_iff es clock).1 hst).2.2 hm he1 (by rw [hk', hek, e4])
              have : p.1.born ∈ seen.toList := by rw [← hR.sn]; exact List.mem_map.2 ⟨p, hp, rfl⟩
              rw [h5] at this
              simpa using this
            obtain ⟨W2, hmu, hW2⟩ := run_mup_raw (P := Try.prog) (t := 87) (k := k) (v := .map (some wr.heap.size)) Try.underlying87 (by kernel_rfl) hoD hkn
            have hs1 : w.heap.size + 1 < wr.heap.size := (Array.getElem?_eq_some_iff.1 hR.g).1
            have hg2 : (w1.alloc (.map ses sclk)).heap[w.heap.size + 1]? = some (.cells #[.map (some w.heap.size)] 89 (0, 0)) := by
              rw [heap_alloc_lt (by omega)]; exact hg1
            exact ⟨W2, hcg, by rw [cellW hg2]; rfl, hs1, hsb1, hmu, hW2⟩
          rw [hev, hek]
          go_region_with (first
            | (go_at_call 93; refine (hCl.some sb ses sclk _ ?_).mono ?_; exact hsb1; rintro e w' ⟨rfl, rfl⟩)
            | fail)
          · have hN := hR.next hst he1 he2 hev hsb hit1 hgr hsz
            rw [hek] at hN
            go_roundw
            case rel => (repeat apply Exists.intro); exact ⟨⟨_, _, _, _, _, hN⟩, rfl⟩
            case measure => rw [(hN.left hb).2, (hR.left hb).2]; exact hlt
          · have hN := hR.next hst he1 he2 hev hsb hit1 hgr hsz
            rw [hek] at hN
            go_roundw
            case rel => (repeat apply Exists.intro); exact ⟨⟨_, _, _, _, _, hN⟩, rfl⟩
            case measure => rw [(hN.left hb).2, (hR.left hb).2]; exact hlt

end Go.Proofs.Ytmacmlpiheimhaa.A
