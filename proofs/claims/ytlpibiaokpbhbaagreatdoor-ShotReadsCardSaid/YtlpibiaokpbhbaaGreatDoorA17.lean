/- A region that draws its order: it comes to what the machine's order comes to. -/
import Derived.Test.YtlpibiaokpbhbaaGreatDoorA16
namespace Go.Proofs.YtlpibiaokpbhbaaGreatDoor.A
set_option linter.unusedVariables false
set_option linter.unusedSimpArgs false
section
variable {P : Program} {Γ : Funs} {w0 : Base} {N : Nat} {ι : Nat → Option Loc} {H : Heap} {a : Act} {w : World} {rd : Option Nat}

theorem evF_rel {f : Nat → Value} (hS : Sim P.globals.size w0 ι H w) {y : Operand} (hc : constsOK P y = true) (hf : ∀ t ∈ otmp y, RV ι (f t) (a.tmps.getD t undef)) : RV ι (evF f y) (a.eval y) := by
  cases y with
  | tmp t => exact hf t (by simp [otmp])
  | const v => exact .const hc
  | global g =>
    obtain ⟨l, h1, h2, h3⟩ := hS.glob g (by simpa [constsOK] using hc)
    have := RV.ptr (o := 0) h1
    rwa [h2, h3] at this
  | func f => exact .fn (fun l e => by cases e) rfl (by simp) rfl (by simp)

theorem un_cmp {X : OpR} {H H1 : Heap} {v : Value} (h : ∀ (γ : Type) (k : Value → M γ), appM (.cmp (toM X)) k H = k v H1) : ∀ (γ : Type) (k : Value → M γ), appM X k H = k v H1 := by
  cases X <;> exact h

/-- One operation of a region that draws its order. -/
theorem wpOp_sound {ops : Array Oper} {Q : Exit → Act → World → Prop} {i : Nat} {o : Oper} {f : Nat → Value} {v : Value} {H1 : Heap} (hΓ : ∀ g, SoundF P P.globals.size w0 g (Γ g)) (ho : ops[i]? = some o)
    (hS : Sim P.globals.size w0 ι H w) (hok : OpsOK P N o) (hf : ∀ t ∈ looks ops.toList o, RV ι (f t) (a.tmps.getD t undef)) (hst : StepG P Γ ops.toList f o H v H1)
    {K : Act → World → Prop} (hn : ∀ ι1 v' w1, Le ι ι1 → RV ι1 v v' → Sim P.globals.size w0 ι1 H1 w1 → K (a.put o.dst v') w1) : wpOpIn (FR rd) 0 P ops Q i K a w := by
  unfold wpOpIn
  rw [ho]
  simp only
  have hρ : ∀ y ∈ o.op.operands.toList, RV ι (evF f y) (a.eval y) := fun y hy => evF_rel hS (hok.consts y hy) fun t ht => hf t (by
    unfold looks otmps
    exact List.mem_append_left _ (List.mem_flatMap.2 ⟨y, hy, ht⟩))
  unfold StepG opG at hst
  cases hg : o.guard with
  | none =>
    rw [hg] at hst
    rw [if_pos (by simp [Region.wanted, hg])]
    exact (op_sound hS hΓ hρ hst hn)
  | some g =>
    obtain ⟨j, wt⟩ := g
    rw [hg] at hst
    simp only at hst
    cases hd : dstOf ops.toList j with
    | none =>
      rw [hd] at hst
      have := hst (Value) (fun u => ret u)
      cases this
    | some d =>
      rw [hd] at hst
      simp only at hst
      have hd' : (ops[j]?).bind (·.dst) = some d := by simpa [dstOf] using hd
      have hfd := hf d (by unfold looks; rw [hg]; simp [hd])
      have hskip : yielded ops a.tmps j ≠ some wt → v = notW → H1 = H → (if Region.wanted o (yielded ops a.tmps) = true then o.wpIn (FR rd) 0 P a w K Q else (∀ f, o.about P w a.eval = some f → (FR rd).fn f) ∧ K (a.put o.dst undef) w) := by
        intro hy hv hH
        subst hv; subst hH
        rw [if_neg (by simp [Region.wanted, hg, hy])]
        exact ⟨fun _ _ => trivial, hn ι undef w (.refl ι) .nw hS⟩
      unfold gateV at hst
      generalize hgv : f d = gv at hst hfd
      cases gv with
      | bool b =>
        simp only at hst
        have hc := hfd.bool_inv
        have hy : yielded ops a.tmps j = some b := by
          unfold yielded
          rw [hd']
          simp only [Option.bind_some]
          rw [Array.getD_eq_getD_getElem?] at hc
          cases e : a.tmps[d]? with
          | none => rw [e] at hc; cases hc
          | some u => rw [e] at hc; simp only [Option.getD_some] at hc; subst hc; rfl
        cases hbw : b == wt with
        | true =>
          rw [hbw] at hst
          simp only [cond_true] at hst
          have hbe : b = wt := by simpa using hbw
          subst hbe
          rw [if_pos (by simp [Region.wanted, hg, hy])]
          exact (op_sound hS hΓ hρ (un_cmp hst) hn)
        | false =>
          rw [hbw] at hst
          simp only [cond_false] at hst
          have := hst (Value) (fun u => ret u)
          cases this
          exact hskip (by rw [hy]; intro e; cases e; simp at hbw) rfl rfl
      | tuple us =>
        simp only at hst
        cases hus : Nat.beq us.size 1 with
        | false =>
          rw [hus] at hst
          have := hst (Value) (fun u => ret u)
          cases this
        | true =>
          rw [hus] at hst
          have := hst (Value) (fun u => ret u)
          cases this
          refine hskip ?_ rfl rfl
          have hnb : ∀ b, a.tmps.getD d undef ≠ .bool b := by
            intro b hb
            rw [hb] at hfd
            cases hfd with
            | un => cases hus
          unfold yielded
          rw [hd']
          simp only [Option.bind_some]
          intro hh
          split at hh
          · rename_i b hb
            exact hnb b (by rw [Array.getD_eq_getD_getElem?, hb]; rfl)
          · cases hh
      | _ =>
        have := hst (Value) (fun u => ret u)
        cases this

theorem count_flip {p q : Nat → Bool} {i : Nat} (h : ∀ j, j ≠ i → q j = p j) (hp : p i = true) (hq : q i = false) : ∀ {l : List Nat}, l.Nodup → i ∈ l → l.countP p = l.countP q + 1
  | [], _, hm => by cases hm
  | j :: l, hnd, hm => by
    obtain ⟨h1, h2⟩ := List.nodup_cons.1 hnd
    by_cases e : j = i
    · subst e
      have : l.countP p = l.countP q := by
        apply List.countP_congr
        intro x hx
        rw [h x fun e => h1 (e ▸ hx)]
      simp [List.countP_cons, hp, hq, this]
    · have hm' : i ∈ l := by
        cases hm with
        | head => exact absurd rfl e
        | tail _ hm => exact hm
      have := count_flip h hp hq h2 hm'
      simp only [List.countP_cons, h j e, this]
      omega

theorem draw_any {ops : Array Oper} {cl : List Nat} {an : List (List Nat)} {ord : List Nat} {Q : Exit → Act → World → Prop} (hΓ : ∀ g, SoundF P P.globals.size w0 g (Γ g)) (hok : opsOK P N ops.toList = true)
    (hO : OrdOK ops.toList cl an ord) {r0 rf : Regs} {hs : Nat → Heap} {m : Nat} (hm : m = cE cl ord)
    (hF : ∀ i, i < ops.size → ∃ o v, ops[i]? = some o ∧ Fact P Γ ops.toList cl an ord r0 rf hs m i o v)
    (hrf : ∀ t, (∀ j, ¬ Wrt ops.toList j t) → rget rf t = rget r0 t)
    {ι : Nat → Option Loc} (hQ : ∀ ι1 a1 w1, Le ι ι1 → St P.globals.size w0 N ι1 rf (hs m) a1 w1 → Q .normal a1 w1) :
    ∀ (fuel : Nat) (listed : Array Bool) (j : Nat) (ι1 : Nat → Option Loc) (a : Act) (w : World), Le ι ι1 → Sim P.globals.size w0 ι1 (hs j) w → a.tmps.size = N → a.defers = marks w0.own → listed.size = ops.size →
      (∀ t, ((∃ i, Wrt ops.toList i t ∧ listed.getD i false = true) → RV ι1 (rget rf t) (a.tmps.getD t undef)) ∧ ((∀ i, Wrt ops.toList i t → listed.getD i false = false) → RV ι1 (rget r0 t) (a.tmps.getD t undef))) →
      (∀ i, listed.getD i false = true → ∀ x ∈ an.getD i [], listed.getD x false = true) →
      (∀ e, e < ops.size → cl.getD e 0 = 2 → (listed.getD e false = true ↔ levN cl ord e < j)) → j ≤ m →
      (List.range ops.size).countP (fun i => !listed.getD i false) = fuel → wpAnyIn (FR rd) 0 P .any ops Q fuel listed a w := by
  have hlen : ops.toList.length = ops.size := by simp
  have hget : ∀ (listed : Array Bool), listed.size = ops.size → ∀ i, i < ops.size → listed.getD i true = listed.getD i false := by
    intro listed hsz i hi
    simp [hsz, hi]
  -- whoever is not listed comes up at last
  have hready : ∀ (listed : Array Bool), listed.size = ops.size → Region.ready .any ops listed = [] → ∀ i, i < ops.size → listed.getD i false = true := by
    intro listed hsz hr
    have : ∀ q i, i < ops.size → posN ord i < q → listed.getD i false = true := by
      intro q
      induction q with
      | zero => intro i _ h; omega
      | succ q ih =>
        intro i hi hp
        refine Classical.byContradiction fun hno => ?_
        have hno' : listed.getD i false = false := by simpa using hno
        obtain ⟨o, v, ho, _⟩ := hF i hi
        have hol : ops.toList[i]? = some o := by simpa using ho
        have hmem : i ∈ Region.ready .any ops listed := mem_ready.2 ⟨by rw [hget listed hsz i hi]; exact hno', o, ho, fun e he hb => by
          have hee : e.on ∈ edgeOns o := List.mem_map.2 ⟨e, List.mem_filter.2 ⟨by simpa using he, hb⟩, rfl⟩
          obtain ⟨h1, h2⟩ := hO.edge i o hol e.on hee
          rw [hlen] at h2
          have h3 := (hO.trans i (by rw [hlen]; exact hi) e.on h1).2
          exact ih e.on h2 (by omega)⟩
        rw [hr] at hmem; cases hmem
    exact fun i hi => this (posN ord i + 1) i hi (Nat.lt_succ_self _)
  have hdone : ∀ (listed : Array Bool) (j : Nat) (ι1 : Nat → Option Loc) (a : Act) (w : World), Le ι ι1 → Sim P.globals.size w0 ι1 (hs j) w → a.tmps.size = N → a.defers = marks w0.own → listed.size = ops.size →
      (∀ t, ((∃ i, Wrt ops.toList i t ∧ listed.getD i false = true) → RV ι1 (rget rf t) (a.tmps.getD t undef)) ∧ ((∀ i, Wrt ops.toList i t → listed.getD i false = false) → RV ι1 (rget r0 t) (a.tmps.getD t undef))) →
      (∀ e, e < ops.size → cl.getD e 0 = 2 → (listed.getD e false = true ↔ levN cl ord e < j)) → j ≤ m → Region.ready .any ops listed = [] → Q .normal a w := by
    intro listed j ι1 a w hle hS hsz hdf hls hreg heff hjm hr
    have hall := hready listed hls hr
    have hjm2 : j = m := by
      rcases Nat.lt_or_ge j m with h | h
      · exfalso
        obtain ⟨p, e, q, h1, h2, h3⟩ := cE_split (cl := cl) (l := ord) (j := j) (by omega)
        have hnd := hO.nodup
        rw [h1] at hnd
        have hep : e ∉ p := fun hmm => (List.nodup_append.1 hnd).2.2 e hmm e (by simp) rfl
        have hle2 : levN cl ord e = j := by rw [h1, lev_at hep]; exact h3
        have hen : e < ops.size := by have := hO.inn e (by rw [h1]; simp); rw [hlen] at this; exact this
        have := (heff e hen h2).1 (hall e hen)
        omega
      · omega
    subst hjm2
    refine hQ ι1 a w hle ⟨hS, fun t => ?_, hsz, hdf⟩
    by_cases ht : ∃ i, Wrt ops.toList i t
    · obtain ⟨i, hi⟩ := ht
      refine (hreg t).1 ⟨i, hi, hall i ?_⟩
      obtain ⟨q, hq, _⟩ := hi
      rcases Nat.lt_or_ge i ops.size with h | h
      · exact h
      · rw [List.getElem?_eq_none (by simpa using h)] at hq; cases hq
    · rw [hrf t fun i hi => ht ⟨i, hi⟩]
      exact (hreg t).2 fun i hi => absurd ⟨i, hi⟩ ht
  intro fuel
  induction fuel with
  | zero =>
    intro listed j ι1 a w hle hS hsz hdf hls hreg hclo heff hjm hcnt
    have hall : ∀ i, i < ops.size → listed.getD i false = true := by
      intro i hi
      have := List.countP_eq_zero.1 hcnt i (List.mem_range.2 hi)
      simpa using this
    have hr : Region.ready .any ops listed = [] := by
      cases hr : Region.ready .any ops listed with
      | nil => rfl
      | cons i l =>
        exfalso
        have hmem : i ∈ Region.ready .any ops listed := by rw [hr]; simp
        obtain ⟨h1, o, ho, _⟩ := mem_ready.1 hmem
        have hi : i < ops.size := (Array.getElem?_eq_some_iff.1 ho).1
        rw [hget listed hls i hi, hall i hi] at h1; cases h1
    exact ⟨hr, hdone listed j ι1 a w hle hS hsz hdf hls hreg heff hjm hr⟩
  | succ fuel ih =>
    intro listed j ι1 a w hle hS hsz hdf hls hreg hclo heff hjm hcnt
    refine ⟨fun hr => hdone listed j ι1 a w hle hS hsz hdf hls hreg heff hjm hr, fun i hi => ?_⟩
    obtain ⟨hun, o, ho, hedges⟩ := mem_ready.1 hi
    have hin : i < ops.size := (Array.getElem?_eq_some_iff.1 ho).1
    have hun' : listed.getD i false = false := by rw [← hget listed hls i hin]; exact hun
    have hol : ops.toList[i]? = some o := by simpa using ho
    obtain ⟨o', v, ho', hfact⟩ := hF i hin
    rw [ho] at ho'; cases ho'
    have hinl : i < ops.toList.length := by rw [hlen]; exact hin
    -- what must be ahead of it is
    have hanc : ∀ x ∈ an.getD i [], listed.getD x false = true := by
      intro x hx
      obtain ⟨e, he, h⟩ := hO.back i o hol x hx
      have hel : listed.getD e false = true := by
        unfold edgeOns at he
        obtain ⟨ed, hed, rfl⟩ := List.mem_map.1 he
        obtain ⟨h1, h2⟩ := List.mem_filter.1 hed
        exact hedges ed (by simpa using h1) h2
      rcases h with rfl | h
      · exact hel
      · exact hclo e hel x h
    have hnotin : ∀ e, listed.getD e false = true → i ∉ an.getD e [] := fun e he hie => by
      have := hclo e he i hie
      rw [hun'] at this; cases this
    have hlooks : ∀ t ∈ looks ops.toList o, RV ι1 (fA ops.toList an r0 rf i t) (a.tmps.getD t undef) := by
      intro t ht
      unfold fA
      split
      · rename_i hw
        obtain ⟨q, hq, hwq⟩ := hw
        exact (hreg t).1 ⟨q, hwq, hanc q hq⟩
      · rename_i hw
        refine (hreg t).2 fun q hwq => ?_
        cases hl : listed.getD q false with
        | false => rfl
        | true =>
          exfalso
          obtain ⟨oq, hoq, hdq⟩ := hwq
          have hne : q ≠ i := fun e => by subst e; rw [hun'] at hl; cases hl
          rcases (hO.tmps q oq i o t hoq hol hne hdq (.inl ht)).1 with h | h
          · exact hw ⟨q, h, oq, hoq, hdq⟩
          · exact hnotin q hl h
    -- the state behind it
    have hset : ∀ e, (listed.setIfInBounds i true).getD e false = true ↔ (e = i ∨ listed.getD e false = true) := by
      intro e
      by_cases he : i = e
      · subst he; simp [hls, hin]
      · rw [getD_set_ne false he]
        simp [Ne.symm he]
    have hfin : ∀ (j' : Nat) (ι2 : Nat → Option Loc) (v' : Value) (w' : World), Le ι1 ι2 → RV ι2 v v' → Sim P.globals.size w0 ι2 (hs j') w' → j' ≤ m →
        (∀ e, e < ops.size → cl.getD e 0 = 2 → ((e = i ∨ listed.getD e false = true) ↔ levN cl ord e < j')) → wpAnyIn (FR rd) 0 P .any ops Q fuel (listed.setIfInBounds i true) (a.put o.dst v') w' := by
      intro j' ι2 v' w' hle2 hv hS2 hjm2 heff2
      refine ih _ j' ι2 _ w' (hle.trans hle2) hS2 (by cases o.dst <;> simp [Act.put, hsz]) (by cases o.dst <;> exact hdf) (by simpa using hls) (fun t => ?_) (fun e he x hx => ?_) (fun e he hce => ?_) hjm2 ?_
      · have hput : o.dst ≠ some t → (a.put o.dst v').tmps.getD t undef = a.tmps.getD t undef := by
          intro hne
          cases hd : o.dst with
          | none => rfl
          | some d =>
            have : d ≠ t := fun e => hne (by rw [hd, e])
            simp [Act.put, Array.getElem?_setIfInBounds_ne this]
        by_cases hdt : o.dst = some t
        · have hself : RV ι2 (rget rf t) ((a.put o.dst v').tmps.getD t undef) := by
            rw [hfact.dst t hdt]
            have hlt := (opsOK_mem hok (List.mem_of_getElem? hol)).dst t hdt
            rw [hdt]
            simpa [Act.put, hsz, hlt] using hv
          refine ⟨fun _ => hself, fun hno => ?_⟩
          have := hno i ⟨o, hol, hdt⟩
          rw [(hset i).2 (.inl rfl)] at this; cases this
        · rw [hput hdt]
          refine ⟨fun ⟨q, hwq, hlq⟩ => ((hreg t).1 ⟨q, hwq, ?_⟩).mono hle2, fun hno => ((hreg t).2 fun q hwq => ?_).mono hle2⟩
          · rcases (hset q).1 hlq with rfl | h
            · obtain ⟨oq, hoq, hdq⟩ := hwq
              rw [hol] at hoq; cases hoq
              exact absurd hdq hdt
            · exact h
          · cases hl : listed.getD q false with
            | false => rfl
            | true =>
              have := hno q hwq
              rw [(hset q).2 (.inr hl)] at this; cases this
      · rcases (hset e).1 he with rfl | h
        · exact (hset x).2 (.inr (hanc x hx))
        · exact (hset x).2 (.inr (hclo e h x hx))
      · rw [hset e]; exact heff2 e he hce
      · have hc := count_flip (p := fun i => !listed.getD i false) (q := fun e => !(listed.setIfInBounds i true).getD e false) (i := i)
          (fun e hne => by rw [getD_set_ne false (Ne.symm hne)]) (by simp only [hun']; rfl) (by rw [(hset i).2 (.inl rfl)]; rfl) (List.nodup_range (n := ops.size)) (List.mem_range.2 hin)
        omega
    by_cases hef : cl.getD i 0 = 2
    · -- an operation that may turn the heap
      have hlev : levN cl ord i = j := by
        have h1 : ¬ levN cl ord i < j := fun h => by
          have := (heff i hin hef).2 h
          rw [hun'] at this; cases this
        rcases Nat.lt_or_ge j (levN cl ord i) with h | h
        · exfalso
          obtain ⟨e, he, hce, hle2⟩ := hO.full i hinl j h
          rw [hlen] at he
          have hne : e ≠ i := fun x => by subst x; omega
          have hea := (hO.chain i hinl hef e (by rw [hlen]; exact he) hce hne).1 (by omega)
          have := (heff e he hce).1 (hanc e hea)
          omega
        · omega
      have hst := hfact.eff hef
      rw [hlev] at hst
      have hjm1 : j + 1 ≤ m := by
        obtain ⟨s, t, hst2⟩ := List.append_of_mem (hO.cover i hinl)
        have hnd := hO.nodup
        rw [hst2] at hnd
        have his : i ∉ s := fun hmm => (List.nodup_append.1 hnd).2.2 i hmm i (by simp) rfl
        have h1 : levN cl ord i = cE cl s := by rw [hst2]; exact lev_at his
        rw [hm, hst2, cE_app]
        simp only [cE, hef, Nat.beq_refl, cond_true]
        omega
      refine wpOp_sound hΓ ho hS (opsOK_mem hok (List.mem_of_getElem? hol)) hlooks hst fun ι2 v' w' hle2 hv hS2 => ?_
      refine hfin (j + 1) ι2 v' w' hle2 hv hS2 hjm1 fun e he hce => ?_
      constructor
      · rintro (rfl | h)
        · omega
        · have := (heff e he hce).1 h; omega
      · intro h
        by_cases hei : e = i
        · exact .inl hei
        · refine .inr ((heff e he hce).2 ?_)
          have := (hO.chain i hinl hef e (by rw [hlen]; exact he) hce hei).2
          omega
    · -- one that leaves it alone
      have hle1 : levN cl ord i ≤ j := by
        rcases hO.eager i hinl hef with h | ⟨e, he, hce, h1, h2⟩
        · omega
        · rw [hlen] at he
          have := (heff e he hce).1 (hanc e h2)
          omega
      have hst := hfact.non hef j hle1 hjm fun e he hce _ hlt => by
        rw [hlen] at he
        exact hnotin e ((heff e he hce).2 hlt)
      refine wpOp_sound hΓ ho hS (opsOK_mem hok (List.mem_of_getElem? hol)) hlooks hst fun ι2 v' w' hle2 hv hS2 => ?_
      refine hfin j ι2 v' w' hle2 hv hS2 hjm fun e he hce => ?_
      constructor
      · rintro (rfl | h)
        · exact absurd hce hef
        · exact (heff e he hce).1 h
      · intro h; exact .inr ((heff e he hce).2 h)

theorem draw_sound {id : Nat} {ops : Array Oper} {an : List (List Nat)} {ord : List Nat} {Q : Exit → Act → World → Prop} (hm : P.follows .mixedOrders = true) (hΓ : ∀ g, SoundF P P.globals.size w0 g (Γ g))
    (hok : opsOK P N ops.toList = true) (hO : OrdOK ops.toList (ops.toList.map fun o => cls P o.op) an ord) {β : Type} {x : β × Heap} {k : Regs → M β} {r : Regs} (hSt : St P.globals.size w0 N ι r H a w)
    (h : exD P Γ an ops.toList (pick2 ops.toList ord) [] r k H = some x) (hk : GoesR P w0 N ι k x (fun a1 w1 => Q .normal a1 w1)) : (Code.region id ops true).wpIn (FR rd) 0 P Q a w := by
  obtain ⟨rf, hl, Hf, h1, h2⟩ := exD_tr (by simp) h
  have hlen : ops.toList.length = ops.size := by simp
  have hhl := Tr_len (fun i hi => hO.inn i hi) h2
  obtain ⟨f1, _⟩ := facts (r0 := r) (hs := fun j => (H :: hl).getD j []) (m := cE (ops.toList.map fun o => cls P o.op) ord) rfl hO rfl ord [] rfl h2 (fun _ _ => rfl) (fun q _ => by simp [cE])
  have hlast := Tr_last h2
  rw [hhl] at hlast
  have hrep : ∀ i, (Array.replicate ops.size false).getD i false = false := fun i => by
    rw [Array.getD_eq_getD_getElem?, Array.getElem?_replicate]; split <;> rfl
  refine wpIn_region_any hm (draw_any (ι := ι) (r0 := r) (rf := rf) (hs := fun j => (H :: hl).getD j []) hΓ hok hO rfl (fun i hi => ?_) (fun t ht => ?_) (fun ι1 a1 w1 hle hSt1 => ?_)
    ops.size (Array.replicate ops.size false) 0 ι a _ (.refl ι) (hSt.sim.congr rfl) hSt.size hSt.defers (by simp) (fun t => ⟨fun ⟨i, _, hi⟩ => ?_, fun _ => hSt.regs t⟩) (fun i hi => ?_) (fun e he hce => ?_) (Nat.zero_le _) ?_)
  · obtain ⟨o, v, ho, hf⟩ := f1 i (hO.cover i (by rw [hlen]; exact hi))
    exact ⟨o, v, by simpa using ho, hf⟩
  · refine Tr_regs h2 t fun p hp hpt => ?_
    unfold pick2 at hp
    obtain ⟨i, hi, hp⟩ := List.mem_filterMap.1 hp
    simp only [Option.map_eq_some_iff] at hp
    obtain ⟨q, hq, rfl⟩ := hp
    exact ht i ⟨q, hq, hpt⟩
  · refine hk ι1 rf Hf a1 w1 hle ?_ h1
    rw [← hlast]; exact hSt1
  · rw [hrep i] at hi; cases hi
  · rw [hrep i] at hi; cases hi
  · rw [hrep e]; simp
  · rw [List.countP_eq_length.2 fun i hi => by rw [hrep i]; rfl]
    simp

end
end Go.Proofs.YtlpibiaokpbhbaaGreatDoor.A
