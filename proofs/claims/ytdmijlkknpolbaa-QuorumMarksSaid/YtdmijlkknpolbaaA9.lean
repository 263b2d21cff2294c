/- Maps, clearing, lengths, interfaces: what the abstract machine does, the model does. -/
import Derived.Test.YtdmijlkknpolbaaA8
namespace Go.Proofs.Ytdmijlkknpolbaa.A
set_option linter.unusedVariables false
set_option linter.unusedSimpArgs false
section
variable {P : Program} {G : Nat} {w0 : Base} {ι : Nat → Option Loc} {H H1 : Heap} {w : World} {v : Value}

theorem Sim.mapR (h : Sim G w0 ι H w) {id : Nat} {es : List (Value × Value × Nat)} {clk : Nat} {l : Loc} (hid : H[id]? = some (.map es clk)) (hl : ι id = some l) :
    ∃ en, w.heap[l.blk]? = some (.map en clk) ∧ w0.heap.size ≤ l.blk ∧ EntR ι es en := by
  obtain ⟨l', en, h1, h2, h3, h4⟩ := h.obj id _ hid
  rw [hl] at h1; cases h1
  exact ⟨en, h2, h3, h4⟩

theorem lenM_sim (hS : Sim G w0 ι H w) {t k e ty : TypeId} {x x' : Value} (ht : P.underlying t = some (.map k e)) (hx : RV ι x x') (h : lenM x H = some (v, H1)) :
    Res G w0 ι v H1 ((Builtin.len_ #[t] ty #[x']).run P w) := by
  unfold lenM at h
  split at h
  · cases h
    rw [hx.scalar_inv rfl]
    exact .sc hS rfl (by simp [Builtin.len_, run_underlying ht, goInt])
  · split at h
    · rename_i hid
      cases h
      obtain ⟨l, hl, rfl⟩ := hx.map_inv
      obtain ⟨en, hb, _, hr⟩ := hS.mapR hid hl
      refine .sc hS rfl ?_
      have := hr.length
      simp only [Array.length_toList] at this
      simp [Builtin.len_, run_underlying ht, goInt, getObj, Sem.run, hb, this]
    · cases h
  · cases h

theorem sameK_now {kt : TypeId} {d : TypeDesc} (hu : P.underlying kt = some d) {k u : Value} {b : Bool} (h : sameK (tkT P kt) k u = some b) : Instr.sameNow d k u = some b := by
  unfold tkT at h
  rw [hu] at h
  unfold sameK at h
  split at h
  · split at h
    · cases d <;> simp at * 
      simp_all [Instr.sameNow]
    · cases h
  · cases d <;> simp at *
    simp_all [Instr.sameNow]
  · cases d <;> simp at *
    simp_all [Instr.sameNow]
  · cases h

theorem find_run {kt : TypeId} {d : TypeDesc} (hu : P.underlying kt = some d) {k : Value} : ∀ {es : List (Value × Value × Nat)} {en : List MapEntry} (i : Nat) {r : Option (Nat × Value)}, EntL ι es en →
    findA (tkT P kt) k es i = some r → ∃ r', Instr.findNow d k en i = some r' ∧ (match r, r' with
      | none, none => True
      | some (j, u), some (j', u') => j = j' ∧ RV ι u u' ∧ i ≤ j ∧ ∃ e, es[j - i]? = some e ∧ e.2.1 = u ∧ sameK (tkT P kt) k e.1 = some true
      | _, _ => False)
  | [], [], i, r, _, h => by cases h; exact ⟨none, rfl, trivial⟩
  | e :: es, n :: ns, i, r, hr, h => by
    simp only [findA] at h
    split at h
    · rename_i hk
      cases h
      refine ⟨some (i, n.val), ?_, rfl, hr.1.2.2.1, Nat.le_refl _, e, by simp, rfl, hk⟩
      simp [Instr.findNow, hr.1.2.1, sameK_now hu hk]
    · rename_i hk
      obtain ⟨r', h1, h2⟩ := find_run hu (i + 1) hr.2 h
      refine ⟨r', ?_, ?_⟩
      · simp [Instr.findNow, hr.1.2.1, sameK_now hu hk, h1]
      · cases r with
        | none =>
          cases r' with
          | none => trivial
          | some _ => exact h2.elim
        | some p =>
          cases r' with
          | none => exact h2.elim
          | some p' =>
            obtain ⟨h3, h4, h5, e', h6, h7⟩ := h2
            refine ⟨h3, h4, by omega, e', ?_, h7⟩
            have : p.1 - i = (p.1 - (i + 1)) + 1 := by omega
            rw [this]; simpa using h6
    · cases h
  | [], _ :: _, _, _, hr, _ => hr.elim
  | _ :: _, [], _, _, hr, _ => hr.elim

theorem run_findKey {kt : TypeId} {d : TypeDesc} (hu : P.underlying kt = some d) {k : Value} {es : List MapEntry} {r : Option (Nat × Value)} (h : Instr.findNow d k es 0 = some r) :
    (Instr.findKey kt k es).run P w = .ok r w := by
  simp [Instr.findKey, run_underlying hu, h]

theorem ok_under {kt : TypeId} {k : Value} (h : okK (tkT P kt) k = true) : ∃ d, P.underlying kt = some d ∧ Scalar k = true ∧ ∀ b w, (Instr.checkKey b 10000 kt k).run P w = .ok () w := by
  have key : ∀ d, P.underlying kt = some d → okK (tkT P kt) k = true → Scalar k = true ∧ ∀ n b w, (Instr.checkKey b (n + 1) kt k).run P w = .ok () w := by
    intro d hd h
    unfold tkT at h
    rw [hd] at h
    unfold okK at h
    cases d <;> simp at h <;> cases k <;> simp at h <;> exact ⟨rfl, fun n b w => by simp [Instr.checkKey, run_underlying hd]⟩
  cases hd : P.underlying kt with
  | none => unfold tkT at h; rw [hd] at h; simp [okK] at h
  | some d =>
    obtain ⟨h1, h2⟩ := key d hd h
    exact ⟨d, rfl, h1, fun b w => h2 9999 b w⟩

theorem run_getMap {b : Nat} {en : Array MapEntry} {clk : Nat} (h : w.heap[b]? = some (.map en clk)) : (getObj b).run P w = .ok (.map en clk) w := by
  simp [getObj, Sem.run, h]

theorem run_setMap {b : Nat} {en : Array MapEntry} {clk : Nat} {o : Obj} (h : w.heap[b]? = some (.map en clk)) : (setObj b o).run P w = .ok () (setB w b o) := by
  simp [setObj, Sem.run, h, setB]

theorem lkp_sim (hS : Sim G w0 ι H w) {t kt e : TypeId} {ok : Bool} {m m' k k' : Value} (ht : P.underlying t = some (.map kt e)) (he : hasT P e = true)
    (hm : RV ι m m') (hk : RV ι k k') (h : lkp (tkT P kt) (zeT P e) ok m k H = some (v, H1)) : Res G w0 ι v H1 ((Instr.lookup t m' k' ok).run P w) := by
  obtain ⟨ie, hie, hz, hc, hzr⟩ := hasT_zero he
  have hback : ∀ {u u' : Value} {is : Bool}, RV ι u u' → (some (bif ok then .tuple #[u, .bool is] else u, H) : Option (Value × Heap)) = some (v, H1) →
      Res G w0 ι v H1 (.ok (if ok then .tuple #[u', .bool is] else u') w) := by
    intro u u' is hu h
    cases ok with
    | true => cases h; exact .same hS (.tupL (a := [u, .bool is]) (a' := [u', .bool is]) (.cons hu (.cons (.sc rfl) .nil))) rfl
    | false => cases h; exact .same hS hu rfl
  unfold lkp at h
  simp only at h
  split at h
  · cases hok : okK (tkT P kt) k with
    | false => simp [hok] at h
    | true =>
      obtain ⟨d, hd, hsk, hchk⟩ := ok_under hok
      simp only [hok, cond_true] at h
      have := hback (.const hc) h
      have hk2 := hk.scalar_inv hsk
      subst hk2
      rw [hm.scalar_inv rfl]
      simpa [Instr.lookup, run_underlying ht, hchk, run_findKey hd (es := []) rfl, hzr] using this
  · split at h
    · rename_i hid
      cases hok : okK (tkT P kt) k with
      | false => simp [hok] at h
      | true =>
        obtain ⟨d, hd, hsk, hchk⟩ := ok_under hok
        simp only [hok, cond_true] at h
        have hk2 := hk.scalar_inv hsk
        subst hk2
        obtain ⟨l, hl, rfl⟩ := hm.map_inv
        obtain ⟨en, hb, _, hr⟩ := hS.mapR hid hl
        split at h
        · rename_i j u hf
          obtain ⟨r', h1, h2⟩ := find_run hd 0 hr hf
          cases r' with
          | none => exact h2.elim
          | some p =>
            have := hback h2.2.1 h
            simpa [Instr.lookup, run_underlying ht, run_getMap hb, hchk, run_findKey hd h1] using this
        · rename_i hf
          obtain ⟨r', h1, h2⟩ := find_run hd 0 hr hf
          cases r' with
          | some p => exact h2.elim
          | none =>
            have := hback (.const hc) h
            simpa [Instr.lookup, run_underlying ht, run_getMap hb, hchk, run_findKey hd h1, hzr] using this
        · cases h
    · cases h
  · cases h

theorem ba_data (a b : ByteArray) : (a == b) = (a.data == b.data) := rfl
theorem ba_eq {a b : ByteArray} (h : (a == b) = true) : a = b := by
  rw [ba_data] at h; cases a; cases b; simpa using h
theorem ba_self (a : ByteArray) : (a == a) = true := by rw [ba_data]; simp

theorem sameK_eq {tk : TK} {k u : Value} (h : sameK tk k u = some true) : k = u := by
  unfold sameK at h
  split at h
  · split at h
    · rename_i hk; subst hk; simp at h; subst h; rfl
    · cases h
  · simp only [Option.some.injEq] at h; rw [ba_eq h]
  · simp at h; subst h; rfl
  · cases h

theorem EntL.get {ι : Nat → Option Loc} : ∀ {es : List (Value × Value × Nat)} {en : List MapEntry} {i : Nat} {e : Value × Value × Nat}, EntL ι es en → es[i]? = some e →
    ∃ n, en[i]? = some n ∧ Scalar e.1 = true ∧ n.key = e.1 ∧ RV ι e.2.1 n.val ∧ n.born = e.2.2
  | [], [], i, e, _, h => by simp at h
  | a :: es, n :: ns, 0, e, hr, h => by simp at h; subst h; exact ⟨n, by simp, hr.1⟩
  | a :: es, n :: ns, i + 1, e, hr, h => by simpa using EntL.get hr.2 (by simpa using h)
  | [], _ :: _, _, _, hr, _ => hr.elim
  | _ :: _, [], _, _, hr, _ => hr.elim

theorem EntL.modify {ι : Nat → Option Loc} {u u' : Value} (hu : RV ι u u') (f : MapEntry → MapEntry) (hf : ∀ n, (f n).val = u' ∧ (f n).born = n.born) : ∀ {es : List (Value × Value × Nat)} {en : List MapEntry} {i : Nat}, EntL ι es en →
    (∀ n, en[i]? = some n → (f n).key = n.key) → EntL ι (setV es i u) (en.modify i f)
  | [], [], i, _, _ => by simp [setV]; trivial
  | a :: es, n :: ns, 0, hr, hk => by
    simp only [setV, List.modify_zero_cons]
    exact ⟨⟨hr.1.1, by rw [hk n (by simp)]; exact hr.1.2.1, by rw [(hf n).1]; exact hu, by rw [(hf n).2]; exact hr.1.2.2.2⟩, hr.2⟩
  | a :: es, n :: ns, i + 1, hr, hk => by
    simp only [setV, List.modify_succ_cons]
    exact ⟨hr.1, EntL.modify hu f hf hr.2 fun n hn => hk n (by simpa using hn)⟩
  | [], _ :: _, _, hr, _ => hr.elim
  | _ :: _, [], _, hr, _ => hr.elim

theorem EntL.snoc {ι : Nat → Option Loc} {k u : Value} {u' : Value} {b : Nat} (hk : Scalar k = true) (hu : RV ι u u') : ∀ {es : List (Value × Value × Nat)} {en : List MapEntry}, EntL ι es en →
    EntL ι (es ++ [(k, u, b)]) (en ++ [{ key := k, val := u', born := b }])
  | [], [], _ => ⟨⟨hk, rfl, hu, rfl⟩, trivial⟩
  | _ :: _, _ :: _, h => ⟨h.1, EntL.snoc hk hu h.2⟩
  | [], _ :: _, h => h.elim
  | _ :: _, [], h => h.elim

theorem EntL.erase {ι : Nat → Option Loc} : ∀ {es : List (Value × Value × Nat)} {en : List MapEntry} (i : Nat), EntL ι es en → EntL ι (es.eraseIdx i) (en.eraseIdx i)
  | [], [], _, _ => trivial
  | _ :: _, _ :: _, 0, h => h.2
  | _ :: _, _ :: _, i + 1, h => ⟨h.1, EntL.erase i h.2⟩
  | [], _ :: _, _, h => h.elim
  | _ :: _, [], _, h => h.elim

theorem same_bits {tk : TK} {k : Value} (h : okK tk k = true) : Instr.sameBits 10000 k k = true := by
  have : ∀ n, Instr.sameBits n k k = true := by
    intro n
    unfold okK at h
    split at h <;> first | (cases n <;> simp [Instr.sameBits, ba_self]; done) | cases h
  exact this 10000

/-- A map object is turned. -/
theorem Sim.setMap (hS : Sim G w0 ι H w) {id : Nat} {es es' : List (Value × Value × Nat)} {clk clk' : Nat} {l : Loc} {en' : Array MapEntry} (hid : H[id]? = some (.map es clk)) (hl : ι id = some l)
    (hr : EntR ι es' en') : Sim G w0 ι (H.set id (.map es' clk')) (setB w l.blk (.map en' clk')) := by
  obtain ⟨en, hb, hge, _⟩ := hS.mapR hid hl
  exact hS.set hid rfl hl rfl fun w' hw' => ⟨l, en', hl, hw', hge, hr⟩

theorem mup_sim (hS : Sim G w0 ι H w) {t kt e : TypeId} {m m' k k' u u' : Value} (ht : P.underlying t = some (.map kt e))
    (hm : RV ι m m') (hk : RV ι k k') (hu : RV ι u u') (h : mup (tkT P kt) m k u H = some (v, H1)) : v = undef ∧ ResU G w0 ι H1 ((Instr.mapUpdate t m' k' u').run P w) := by
  unfold mup at h
  split at h
  · split at h
    · rename_i id _ es clk hid
      cases hok : okK (tkT P kt) k with
      | false => simp [hok] at h
      | true =>
        obtain ⟨d, hd, hsk, hchk⟩ := ok_under hok
        simp only [hok, cond_true] at h
        have hk2 := hk.scalar_inv hsk
        subst hk2
        obtain ⟨l, hl, rfl⟩ := hm.map_inv
        obtain ⟨en, hb, _, hr⟩ := hS.mapR hid hl
        split at h
        · rename_i j u0 hf
          cases h
          obtain ⟨r', h1, h2⟩ := find_run hd 0 hr hf
          cases r' with
          | none => exact h2.elim
          | some p =>
            obtain ⟨h3, _, _, e0, h6, _, h8⟩ := h2
            subst h3
            rw [Nat.sub_zero] at h6
            obtain ⟨n, hn, _, hnk, _⟩ := EntL.get hr h6
            have hke : n.key = k' := by rw [hnk]; exact (sameK_eq h8).symm
            have hn2 : en[p.1]? = some n := by simpa using hn
            refine ⟨rfl, ι, _, .refl ι, hS.setMap (es' := setV es p.1 u) (clk' := clk) (en' := en.modify p.1 fun e => { e with key := k', val := u' }) hid hl ?_, ?_⟩
            · unfold EntR
              rw [Array.toList_modify]
              exact EntL.modify hu (fun e => { e with key := k', val := u' }) (fun n => ⟨rfl, rfl⟩) hr (fun n' hn' => by rw [hn] at hn'; cases hn'; exact hke.symm)
            · have hkts : (Instr.keyThatStays (((en[p.1]?).map (·.key)).getD k') k').run P w = .ok k' w := by
                rw [hn2]
                simp only [Option.map_some, Option.getD_some, hke, Instr.keyThatStays, same_bits hok, if_true]
                rfl
              simp only [Instr.mapUpdate, Sem.run_bind, run_underlying ht, Result.andThen_ok, run_getMap hb, hchk, run_findKey hd h1, hkts, run_setMap hb]
        · rename_i hf
          cases h
          obtain ⟨r', h1, h2⟩ := find_run hd 0 hr hf
          cases r' with
          | some p => exact h2.elim
          | none =>
            refine ⟨rfl, ι, _, .refl ι, hS.setMap (es' := es ++ [(k', u, clk)]) (clk' := clk + 1) (en' := en.push { key := k', val := u', born := clk }) hid hl ?_, ?_⟩
            · unfold EntR
              rw [Array.toList_push]
              exact EntL.snoc hsk hu hr
            · simp only [Instr.mapUpdate, Sem.run_bind, run_underlying ht, Result.andThen_ok, run_getMap hb, hchk, run_findKey hd h1, run_setMap hb]
        · cases h
    · cases h
  · cases h

theorem setB_twice {b : Nat} {o : Obj} (h : w.heap[b]? = some o) : setB w b o = w := setB_self h

theorem modify_key {en : Array MapEntry} {i : Nat} {k : Value} (h : ∀ n, en[i]? = some n → n.key = k) : (en.modify i fun e => { e with key := k }) = en := by
  apply Array.ext
  · simp
  · intro j h1 h2
    rw [Array.getElem_modify]
    split
    · rename_i e; subst e
      have := h en[i] (by simp [h2])
      cases hx : en[i]
      rw [hx] at this
      simp at this ⊢
      exact this.symm
    · rfl

theorem men_sim (hS : Sim G w0 ι H w) {t kt e : TypeId} {m m' k k' : Value} (ht : P.underlying t = some (.map kt e)) (he : hasT P e = true)
    (hm : RV ι m m') (hk : RV ι k k') (h : men (tkT P kt) (zeT P e) m k H = some (v, H1)) : Res G w0 ι v H1 ((Instr.mapEntry t m' k').run P w) := by
  obtain ⟨ie, hie, hz, hc, hzr⟩ := hasT_zero he
  unfold men at h
  split at h
  · split at h
    · rename_i id _ es clk hid
      cases hok : okK (tkT P kt) k with
      | false => simp [hok] at h
      | true =>
        obtain ⟨d, hd, hsk, hchk⟩ := ok_under hok
        simp only [hok, cond_true] at h
        have hk2 := hk.scalar_inv hsk
        subst hk2
        obtain ⟨l, hl, rfl⟩ := hm.map_inv
        obtain ⟨en, hb, _, hr⟩ := hS.mapR hid hl
        split at h
        · rename_i j u0 hf
          cases h
          obtain ⟨r', h1, h2⟩ := find_run hd 0 hr hf
          cases r' with
          | none => exact h2.elim
          | some p =>
            obtain ⟨h3, h4, _, e0, h6, h7, h8⟩ := h2
            subst h3
            rw [Nat.sub_zero] at h6
            obtain ⟨n, hn, _, hnk, _, hnb⟩ := EntL.get hr h6
            have hke : n.key = k' := by rw [hnk]; exact (sameK_eq h8).symm
            have hn2 : en[p.1]? = some n := by simpa using hn
            have hkts : (Instr.keyThatStays (((en[p.1]?).map (·.key)).getD k') k').run P w = .ok k' w := by
              rw [hn2]
              simp only [Option.map_some, Option.getD_some, hke, Instr.keyThatStays, same_bits hok, if_true]
              rfl
            have hmod : (en.modify p.1 fun e => { e with key := k' }) = en := modify_key fun n' hn' => by rw [hn2] at hn'; cases hn'; exact hke
            refine ⟨ι, .tuple #[p.2, .int .i64 ((es.getD p.1 (undef, undef, 0)).2.2 : Nat)], w, .refl ι, hS, .tupL (a := [u0, _]) (a' := [p.2, _]) (.cons h4 (.cons (.sc rfl) .nil)), ?_⟩
            simp only [Instr.mapEntry, Sem.run_bind, run_underlying ht, Result.andThen_ok, run_getMap hb, hchk, run_findKey hd h1, hkts, run_setMap hb, hmod, setB_twice hb, Sem.run_pure, goInt]
            rw [List.getD_eq_getElem?_getD, h6, hn2]
            simp [hnb]
        · rename_i hf
          cases h
          obtain ⟨r', h1, h2⟩ := find_run hd 0 hr hf
          cases r' with
          | some p => exact h2.elim
          | none =>
            refine ⟨ι, .tuple #[zeT P e, .int .i64 (clk : Nat)], _, .refl ι, hS.setMap (es' := es ++ [(k', zeT P e, clk)]) (clk' := clk + 1) (en' := en.push { key := k', val := zeT P e, born := clk }) hid hl ?_,
              .tupL (a := [zeT P e, _]) (a' := [zeT P e, _]) (.cons (.const hc) (.cons (.sc rfl) .nil)), ?_⟩
            · unfold EntR
              rw [Array.toList_push]
              exact EntL.snoc hsk (.const hc) hr
            · simp only [Instr.mapEntry, Sem.run_bind, run_underlying ht, Result.andThen_ok, run_getMap hb, hchk, run_findKey hd h1, hzr, run_setMap hb, Sem.run_pure, goInt]
        · cases h
    · cases h
  · cases h

theorem findIdx_born {n : Int} : ∀ {es : List (Value × Value × Nat)} {en : List MapEntry}, EntL ι es en →
    en.findIdx? (fun e => (e.born : Int) == n) = es.findIdx? (fun e => (e.2.2 : Int) == n)
  | [], [], _ => rfl
  | e :: es, a :: en, h => by simp only [List.findIdx?_cons, h.1.2.2.2, findIdx_born h.2]
  | [], _ :: _, h => h.elim
  | _ :: _, [], h => h.elim

theorem ens_sim (hS : Sim G w0 ι H w) {t : TypeId} {m m' s s' u u' : Value}
    (hm : RV ι m m') (hs : RV ι s s') (hu : RV ι u u') (h : ens m s u H = some (v, H1)) : v = undef ∧ ResU G w0 ι H1 ((Instr.entryStore t m' s' u').run P w) := by
  unfold ens at h
  split at h
  · split at h
    · rename_i id _ n _ es clk hid
      obtain ⟨l, hl, rfl⟩ := hm.map_inv
      obtain ⟨en, hb, _, hr⟩ := hS.mapR hid hl
      rw [hs.int_inv]
      split at h
      · rename_i i hi
        cases h
        have hi2 : en.findIdx? (fun e => (e.born : Int) == n) = some i := by
          rw [← Array.toArray_toList (xs := en), List.findIdx?_toArray, findIdx_born hr]; exact hi
        refine ⟨rfl, ι, _, .refl ι, hS.setMap (es' := setV es i u) (clk' := clk) (en' := en.modify i fun e => { e with val := u' }) hid hl ?_, ?_⟩
        · unfold EntR
          rw [Array.toList_modify]
          exact EntL.modify hu (fun e => { e with val := u' }) (fun n => ⟨rfl, rfl⟩) hr (fun n' _ => rfl)
        · simp only [Instr.entryStore, Sem.run_bind, run_getMap hb, Result.andThen_ok, asInt, asIntOf, Sem.run_pure, hi2, run_setMap hb]
      · cases h
    · cases h
  · cases h

theorem mde_sim (hS : Sim G w0 ι H w) {t u kt e ty : TypeId} {m m' k k' : Value} (ht : P.underlying t = some (.map kt e))
    (hm : RV ι m m') (hk : RV ι k k') (h : mde (tkT P kt) m k H = some (v, H1)) : Res G w0 ι v H1 ((Builtin.delete_ #[t, u] ty #[m', k']).run P w) := by
  unfold mde at h
  split at h
  · cases hok : okK (tkT P kt) k with
    | false => simp [hok] at h
    | true =>
      obtain ⟨d, hd, hsk, hchk⟩ := ok_under hok
      simp only [hok, cond_true] at h
      cases h
      have hk2 := hk.scalar_inv hsk
      subst hk2
      rw [hm.scalar_inv rfl]
      exact .same hS (v' := .tuple #[]) .un (by simp [Builtin.delete_, run_underlying ht, hchk])
  · split at h
    · rename_i id _ es clk hid
      cases hok : okK (tkT P kt) k with
      | false => simp [hok] at h
      | true =>
        obtain ⟨d, hd, hsk, hchk⟩ := ok_under hok
        simp only [hok, cond_true] at h
        have hk2 := hk.scalar_inv hsk
        subst hk2
        obtain ⟨l, hl, rfl⟩ := hm.map_inv
        obtain ⟨en, hb, _, hr⟩ := hS.mapR hid hl
        split at h
        · rename_i j u0 hf
          cases h
          obtain ⟨r', h1, h2⟩ := find_run hd 0 hr hf
          cases r' with
          | none => exact h2.elim
          | some p =>
            obtain ⟨h3, _, _, e0, h6, _, _⟩ := h2
            subst h3
            rw [Nat.sub_zero] at h6
            obtain ⟨n, hn, _⟩ := EntL.get hr h6
            have hlt : p.1 < en.size := by
              rcases Nat.lt_or_ge p.1 en.size with h | h
              · exact h
              · rw [List.getElem?_eq_none (by simpa using h)] at hn; cases hn
            refine ⟨ι, .tuple #[], _, .refl ι, hS.setMap (es' := es.eraseIdx p.1) (clk' := clk) (en' := en.eraseIdxIfInBounds p.1) hid hl ?_, .un, ?_⟩
            · unfold EntR
              have : (en.eraseIdxIfInBounds p.1).toList = en.toList.eraseIdx p.1 := by
                unfold Array.eraseIdxIfInBounds
                rw [dif_pos hlt, Array.toList_eraseIdx]
              rw [this]; exact EntL.erase _ hr
            · simp only [Builtin.delete_, List.getElem?_toArray, List.getElem?_cons_zero, List.getElem?_cons_succ, Sem.run_bind, run_underlying ht, Result.andThen_ok, run_getMap hb, hchk, run_findKey hd h1, run_setMap hb, Sem.run_pure]
        · rename_i hf
          cases h
          obtain ⟨r', h1, h2⟩ := find_run hd 0 hr hf
          cases r' with
          | some p => exact h2.elim
          | none =>
            refine .same hS (v' := .tuple #[]) .un ?_
            simp only [Builtin.delete_, List.getElem?_toArray, List.getElem?_cons_zero, List.getElem?_cons_succ, Sem.run_bind, run_underlying ht, Result.andThen_ok, run_getMap hb, hchk, run_findKey hd h1, run_setMap hb, Sem.run_pure, setB_twice hb]
        · cases h
    · cases h
  · cases h

theorem mkm_sim (hS : Sim G w0 ι H w) {t : TypeId} (h : mkm H = some (v, H1)) : Res G w0 ι v H1 ((Instr.makeMap t none).run P w) := by
  unfold mkm at h
  cases h
  have hnew := hS.new (x := .map [] 0) (l := ⟨w.heap.size, 0, 0, 0, false⟩) (.map #[] 0) rfl ⟨_, #[], ext_self _ _ _, pushO_new w _, hS.size, trivial⟩
  exact ⟨_, _, _, le_ext hS _, hnew, .mp (ext_self _ _ _), by simp [Instr.makeMap, pushO]⟩

theorem clr_sim_map (hS : Sim G w0 ι H w) {t kt e ty : TypeId} {x x' : Value} (ht : P.underlying t = some (.map kt e)) (hx : RV ι x x')
    (h : clrM x H = some (v, H1)) : Res G w0 ι v H1 ((Builtin.clear_ #[t] ty #[x']).run P w) := by
  unfold clrM at h
  split at h
  · cases h
    rw [hx.scalar_inv rfl]
    exact .same hS (v' := .tuple #[]) .un (by simp [Builtin.clear_, run_underlying ht])
  · split at h
    · rename_i hid
      cases h
      obtain ⟨l, hl, rfl⟩ := hx.map_inv
      obtain ⟨en, hb, _, hr⟩ := hS.mapR hid hl
      refine ⟨ι, .tuple #[], _, .refl ι, hS.setMap (es' := []) (clk' := _) (en' := #[]) hid hl trivial, .un, ?_⟩
      simp only [Builtin.clear_, List.getElem?_toArray, List.getElem?_cons_zero, Sem.run_bind, run_underlying ht, Result.andThen_ok, run_getMap hb, run_setMap hb, Sem.run_pure]
    · cases h
  · cases h

theorem clr_sim_slice (hS : Sim G w0 ι H w) {t e ty : TypeId} {x x' : Value} (ht : P.underlying t = some (.slice e)) (he : okE P e = true) (hx : RV ι x x')
    (h : clr (zeT P e) (szT P e) x H = some (v, H1)) : Res G w0 ι v H1 ((Builtin.clear_ #[t] ty #[x']).run P w) := by
  obtain ⟨i, hi, hz, hzr⟩ := okE_info he
  obtain ⟨hh, htup⟩ := okE_hasT he
  obtain ⟨_, _, _, hcst, _⟩ := hasT_zero hh
  obtain ⟨hsc, hzc⟩ := const_cells (ι := ι) hcst htup
  unfold clr at h
  split at h
  · cases h
    obtain ⟨_, _, rfl⟩ := hx.nils_inv
    exact .same hS (v' := .tuple #[]) .un (by simp [Builtin.clear_, run_underlying ht])
  · cases h
    obtain ⟨_, _, a', c', _, rfl⟩ := hx.slcE_inv
    exact .same hS (v' := .tuple #[]) .un (by simp [Builtin.clear_, run_underlying ht])
  · rename_i id o n c
    obtain ⟨l, c', hl, hlc, hcc, hex, hroom, rfl⟩ := hx.slc_inv
    split at h
    · rename_i hn
      cases h
      subst hn
      exact .same hS (v' := .tuple #[]) .un (by simp [Builtin.clear_, run_underlying ht])
    · rename_i hn
      split at h
      · rename_i cs es' g hid
        split at h
        · rename_i hc
          obtain ⟨rfl, hc2⟩ := hc
          cases h
          have hlen : (reps n (zeT P e).cells.toList).length = n * szT P e := by rw [reps_length]; simp [hz]
          obtain ⟨w1, hw1, hS1⟩ := hS.store (P := P) hid hl (o := o) (by rw [hlen]; exact hc2) (hzc.reps n) (fun u hu => scalar_one (hsc u (mem_reps hu)))
          refine ⟨ι, .tuple #[], w1, .refl ι, hS1, .un, ?_⟩
          have hzc2 : (Builtin.zeroCells (zeT P e).cells n).toList = reps n (zeT P e).cells.toList := by unfold Builtin.zeroCells; exact range_reps
          cases n with
          | zero => exact absurd rfl hn
          | succ n =>
            simp only [Builtin.clear_, List.getElem?_toArray, List.getElem?_cons_zero, Sem.run_bind, run_underlying ht, Result.andThen_ok, hzr, hzc2, hw1, Sem.run_pure]
        · cases h
      · cases h
  · cases h

theorem mkif_sim (hS : Sim G w0 ι H w) {t : TypeId} {d : TypeDesc} {x x' : Value} (ht : P.underlying t = some d) (hd : ∀ ms, d ≠ .interface ms) (hx : RV ι x x') (h : mkif t x H = some (v, H1)) :
    Res G w0 ι v H1 ((Instr.makeInterface t x').run P w) := by
  unfold mkif at h
  cases h
  refine .same hS (.ifc hx) ?_
  simp only [Instr.makeInterface, Sem.run_bind, run_underlying ht, Result.andThen_ok]
  cases d <;> first | rfl | exact absurd rfl (hd _)

theorem mxi_sim (hS : Sim G w0 ι H w) {mx : Bool} {x x' y y' : Value} {tys : Array TypeId} {ty : TypeId} (hx : RV ι x x') (hy : RV ι y y') (h : mxi mx x y H = some (v, H1)) :
    Res G w0 ι v H1 ((bif mx then Builtin.max_ tys ty #[x', y'] else Builtin.min_ tys ty #[x', y']).run P w) := by
  unfold mxi at h
  split at h
  · cases h
    rw [hx.int_inv, hy.int_inv]
    cases mx
    · refine .sc hS rfl ?_
      simp [Builtin.min_, Builtin.min2]
    · refine .sc hS rfl ?_
      simp [Builtin.max_, Builtin.max2]
  · cases h

end
end Go.Proofs.Ytdmijlkknpolbaa.A
