/- A region that draws its order: what the machine's run says of each operation. -/
import Derived.Test.YtlpibiaokpbhbaaGreatDoorA15
namespace Go.Proofs.YtlpibiaokpbhbaaGreatDoor.A
set_option linter.unusedVariables false
set_option linter.unusedSimpArgs false
section
variable {P : Program} {Γ : Funs}

def Wrt (all : List Oper) (j t : Nat) : Prop := ∃ q, all[j]? = some q ∧ q.dst = some t

open Classical in
noncomputable def fA (all : List Oper) (an : List (List Nat)) (r0 rf : Regs) (i t : Nat) : Value :=
  if ∃ j, j ∈ an.getD i [] ∧ Wrt all j t then rget rf t else rget r0 t

def cE (cl : List Nat) : List Nat → Nat
  | [] => 0
  | j :: l => (bif Nat.beq (cl.getD j 0) 2 then 1 else 0) + cE cl l

theorem cE_app {cl : List Nat} : ∀ (a b : List Nat), cE cl (a ++ b) = cE cl a + cE cl b
  | [], b => by simp [cE]
  | j :: a, b => by simp only [List.cons_append, cE, cE_app a b]; omega

theorem lev_at {cl : List Nat} {i : Nat} {tl : List Nat} : ∀ {dn : List Nat}, i ∉ dn → levN cl (dn ++ i :: tl) i = cE cl dn
  | [], _ => by simp [levN, cE, Nat.beq_refl]
  | j :: dn, h => by
    have hne : i ≠ j := fun e => h (by simp [e])
    simp only [List.cons_append, levN, cE, beq_of_ne hne, cond_false]
    rw [lev_at fun hm => h (by simp [hm])]

theorem pos_at {i : Nat} {tl : List Nat} : ∀ {dn : List Nat}, i ∉ dn → posN (dn ++ i :: tl) i = dn.length
  | [], _ => by simp [posN, Nat.beq_refl]
  | j :: dn, h => by
    have hne : i ≠ j := fun e => h (by simp [e])
    simp only [List.cons_append, posN, beq_of_ne hne, cond_false, List.length_cons]
    rw [pos_at fun hm => h (by simp [hm])]

theorem pos_in {j : Nat} {l : List Nat} : ∀ {dn : List Nat}, j ∈ dn → posN (dn ++ l) j < dn.length
  | k :: dn, h => by
    simp only [List.cons_append, posN]
    cases e : Nat.beq j k with
    | true => simp
    | false =>
      simp only [cond_false, List.length_cons]
      have : j ∈ dn := by
        cases h with
        | head => simp at e
        | tail _ h => exact h
      have := pos_in (l := l) this
      omega

theorem pos_out {j : Nat} {l : List Nat} : ∀ {dn : List Nat}, j ∉ dn → dn.length ≤ posN (dn ++ l) j
  | [], _ => by simp
  | k :: dn, h => by
    have hne : j ≠ k := fun e => h (by simp [e])
    simp only [List.cons_append, posN, beq_of_ne hne, cond_false, List.length_cons]
    have := pos_out (j := j) (l := l) (dn := dn) fun hm => h (List.mem_cons_of_mem _ hm)
    omega

theorem cE_split {cl : List Nat} : ∀ {l : List Nat} {j : Nat}, j < cE cl l → ∃ a e b, l = a ++ e :: b ∧ cl.getD e 0 = 2 ∧ cE cl a = j
  | [], j, h => by simp [cE] at h
  | k :: l, j, h => by
    simp only [cE] at h
    cases hk : Nat.beq (cl.getD k 0) 2 with
    | true =>
      rw [hk, cond_true] at h
      cases j with
      | zero => exact ⟨[], k, l, rfl, Nat.eq_of_beq_eq_true hk, rfl⟩
      | succ j =>
        obtain ⟨a, e, b, h1, h2, h3⟩ := cE_split (cl := cl) (l := l) (j := j) (by omega)
        exact ⟨k :: a, e, b, by simp [h1], h2, by simp only [cE, hk, cond_true, h3]; omega⟩
    | false =>
      rw [hk, cond_false, Nat.zero_add] at h
      obtain ⟨a, e, b, h1, h2, h3⟩ := cE_split h
      exact ⟨k :: a, e, b, by simp [h1], h2, by simp only [cE, hk, cond_false, h3]; omega⟩

theorem Tr_last {an : List (List Nat)} {all : List Oper} : ∀ {l : List (Nat × Oper)} {rs : Reads} {r : Regs} {H : Heap} {rf : Regs} {hl : List Heap} {Hf : Heap}, Tr P Γ an all l rs r H rf hl Hf →
    (H :: hl).getD hl.length [] = Hf
  | [], rs, r, H, rf, hl, Hf, h => by obtain ⟨_, rfl, rfl⟩ := h; rfl
  | p :: l, rs, r, H, rf, hl, Hf, h => by
    obtain ⟨v, H1, _, h⟩ := h
    rcases h with ⟨_, h⟩ | ⟨_, h⟩ | ⟨_, hl', rfl, _, h⟩
    · exact Tr_last h
    · exact Tr_last h
    · simpa using Tr_last h

theorem Tr_len {an : List (List Nat)} {all : List Oper} : ∀ {l : List Nat} {rs : Reads} {r : Regs} {H : Heap} {rf : Regs} {hl : List Heap} {Hf : Heap}, (∀ i ∈ l, i < all.length) →
    Tr P Γ an all (pick2 all l) rs r H rf hl Hf → hl.length = cE (all.map fun o => cls P o.op) l
  | [], rs, r, H, rf, hl, Hf, _, h => by obtain ⟨_, rfl, _⟩ := h; rfl
  | i :: l, rs, r, H, rf, hl, Hf, hi, h => by
    have hlt := hi i (by simp)
    have ho : all[i]? = some all[i] := List.getElem?_eq_getElem hlt
    have e : pick2 all (i :: l) = (i, all[i]) :: pick2 all l := by simp [pick2, ho]
    rw [e] at h
    obtain ⟨v, H1, _, h⟩ := h
    have hcl : (all.map fun o => cls P o.op).getD i 0 = cls P all[i].op := by simp [hlt]
    simp only [cE, hcl]
    rcases h with ⟨hc, h⟩ | ⟨hc, h⟩ | ⟨⟨hc0, hc1⟩, hl', rfl, _, h⟩
    · rw [Tr_len (fun j hj => hi j (by simp [hj])) h]
      simp only at hc
      rw [hc]; simp [Nat.beq]
    · rw [Tr_len (fun j hj => hi j (by simp [hj])) h]
      simp only at hc
      rw [hc]; simp [Nat.beq]
    · have h2 := Tr_len (fun j hj => hi j (by simp [hj])) h
      have hc2 : cls P all[i].op = 2 := by
        have : ∀ op, cls P op = 0 ∨ cls P op = 1 ∨ cls P op = 2 := by
          intro op
          unfold cls
          split <;> first | simp | (split <;> simp) | skip
          split <;> first | simp | (split <;> simp)
        rcases this all[i].op with h | h | h
        · exact absurd h hc0
        · exact absurd h hc1
        · exact h
      rw [hc2]
      simp [h2, Nat.beq]; omega

/-- What the machine's run says of operation 'i'. -/
structure Fact (P : Program) (Γ : Funs) (all : List Oper) (cl : List Nat) (an : List (List Nat)) (ord : List Nat) (r0 rf : Regs) (hs : Nat → Heap) (m : Nat) (i : Nat) (o : Oper) (v : Value) : Prop where
  dst : ∀ d, o.dst = some d → rget rf d = v
  eff : cl.getD i 0 = 2 → StepG P Γ all (fA all an r0 rf i) o (hs (levN cl ord i)) v (hs (levN cl ord i + 1))
  non : cl.getD i 0 ≠ 2 → ∀ j, levN cl ord i ≤ j → j ≤ m → (∀ e, e < all.length → cl.getD e 0 = 2 → levN cl ord i ≤ levN cl ord e → levN cl ord e < j → i ∉ an.getD e []) →
    StepG P Γ all (fA all an r0 rf i) o (hs j) v (hs j)

theorem facts {all : List Oper} {cl : List Nat} {an : List (List Nat)} {ord : List Nat} (hcl : cl = all.map fun o => cls P o.op) (hO : OrdOK all cl an ord) {r0 rf : Regs} {hs : Nat → Heap} {m : Nat} {Hf : Heap} (hm : m = cE cl ord) :
    ∀ (l dn : List Nat) {rs : Reads} {r : Regs} {H : Heap} {hl : List Heap}, dn ++ l = ord → Tr P Γ an all (pick2 all l) rs r H rf hl Hf → (∀ t, (∀ j ∈ dn, ¬ Wrt all j t) → rget r t = rget r0 t) →
      (∀ q, q ≤ hl.length → hs (cE cl dn + q) = (H :: hl).getD q []) →
      (∀ i ∈ l, ∃ o v, all[i]? = some o ∧ Fact P Γ all cl an ord r0 rf hs m i o v) ∧
      (∀ q ∈ rs, ∀ e ∈ l, cl.getD e 0 = 2 → q.1 ∉ an.getD e [] → q.2.1 (hs (levN cl ord e + 1)) = some (q.2.2, hs (levN cl ord e + 1)))
  | [], dn, rs, r, H, hl, _, _, _, _ => ⟨by simp, by simp⟩
  | i :: l, dn, rs, r, H, hl, hord, htr, hI2, hHS => by
    have hiord : i ∈ ord := by rw [← hord]; simp
    have hlt := hO.inn i hiord
    have ho : all[i]? = some all[i] := List.getElem?_eq_getElem hlt
    generalize all[i] = o at ho
    have e : pick2 all (i :: l) = (i, o) :: pick2 all l := by simp [pick2, ho]
    have hnd := hO.nodup
    rw [← hord] at hnd
    have hidn : i ∉ dn := fun hm => by
      have := (List.nodup_append.1 hnd).2.2 i hm i (by simp)
      exact this rfl
    have hil : i ∉ l := (List.nodup_cons.1 (List.nodup_append.1 hnd).2.1).1
    have hdl : ∀ j ∈ dn, j ∉ l := fun j hj hm => (List.nodup_append.1 hnd).2.2 j hj j (by simp [hm]) rfl
    have hlev : levN cl ord i = cE cl dn := by rw [← hord]; exact lev_at hidn
    have hcli : cl.getD i 0 = cls P o.op := by rw [hcl]; simp [ho]
    have hpick : ∀ p ∈ pick2 all (i :: l), p.1 ∈ i :: l ∧ all[p.1]? = some p.2 := by
      intro p hp
      unfold pick2 at hp
      obtain ⟨k, hk, hp⟩ := List.mem_filterMap.1 hp
      simp only [Option.map_eq_some_iff] at hp
      obtain ⟨q, hq, rfl⟩ := hp
      exact ⟨hk, hq⟩
    have hregs : ∀ t ∈ looks all o, rget r t = fA all an r0 rf i t := by
      intro t ht
      unfold fA
      split
      · rename_i hw
        obtain ⟨j, hj, q, hq, hqd⟩ := hw
        refine (Tr_regs htr t fun p hp hpt => ?_).symm
        obtain ⟨hp1, hp2⟩ := hpick p hp
        have hjn : j < all.length := by
          rcases Nat.lt_or_ge j all.length with h | h
          · exact h
          · rw [List.getElem?_eq_none h] at hq; cases hq
        have hjdn : j ∈ dn := by
          have h1 := (hO.trans i hlt j hj).2
          rw [← hord, pos_at hidn] at h1
          refine Classical.byContradiction fun hno => ?_
          have := pos_out (l := i :: l) hno
          omega
        have hne : j ≠ p.1 := fun he => by
          rw [← he] at hp1
          cases hp1 with
          | head => exact hidn hjdn
          | tail _ h => exact hdl j hjdn h
        exact (hO.tmps j q p.1 p.2 t hq hp2 hne hqd (.inr hpt)).2 hpt
      · rename_i hw
        refine hI2 t fun j hj hwr => hw ?_
        obtain ⟨q, hq, hqd⟩ := hwr
        have hne : j ≠ i := fun he => hidn (he ▸ hj)
        rcases (hO.tmps j q i o t hq ho hne hqd (.inl ht)).1 with h | h
        · exact ⟨j, h, q, hq, hqd⟩
        · exfalso
          have hjn : j < all.length := by
            rcases Nat.lt_or_ge j all.length with h | h
            · exact h
            · rw [List.getElem?_eq_none h] at hq; cases hq
          have h1 := (hO.trans j hjn i h).2
          rw [← hord, pos_at hidn] at h1
          have := pos_in (l := i :: l) hj
          omega
    rw [e] at htr
    obtain ⟨v, H1, hst, htr⟩ := htr
    have hst' : StepG P Γ all (fA all an r0 rf i) o H v H1 := by
      intro γ k
      rw [← opG_congr hregs]; exact hst γ k
    have hH : hs (cE cl dn) = H := by have := hHS 0 (Nat.zero_le _); simpa using this
    have hI2' : ∀ t, (∀ j ∈ dn ++ [i], ¬ Wrt all j t) → rget (rput r o.dst v) t = rget r0 t := by
      intro t ht
      rw [rget_rput (fun hd => ht i (by simp) ⟨o, ho, hd⟩)]
      exact hI2 t fun j hj => ht j (by simp [hj])
    have hdstl : ∀ {rs' : Reads} {H' : Heap} {hl' : List Heap}, Tr P Γ an all (pick2 all l) rs' (rput r o.dst v) H' rf hl' Hf → ∀ d, o.dst = some d → rget rf d = v := by
      intro rs' H' hl' ht d hd
      rw [Tr_regs ht d fun p hp hpt => ?_]
      · simp [rput, hd, rget, Nat.beq_refl]
      · obtain ⟨hp1, hp2⟩ := hpick p (by rw [e]; simp [hp])
        have hpl : p.1 ∈ l := by
          unfold pick2 at hp
          obtain ⟨k, hk, hp⟩ := List.mem_filterMap.1 hp
          simp only [Option.map_eq_some_iff] at hp
          obtain ⟨q, hq, rfl⟩ := hp
          exact hk
        have hne : i ≠ p.1 := fun he => hil (he ▸ hpl)
        exact (hO.tmps i o p.1 p.2 d ho hp2 hne hd (.inr hpt)).2 hpt
    have hord' : (dn ++ [i]) ++ l = ord := by simpa using hord
    -- an operation that leaves the heap alone
    have hnon : cl.getD i 0 ≠ 2 → ∀ {rs' : Reads}, H1 = H → Tr P Γ an all (pick2 all l) rs' (rput r o.dst v) H rf hl Hf → (∀ q ∈ rs, q ∈ rs') →
        (PureM (toM (opG P Γ all (rget r) o)) ∨ (i, toM (opG P Γ all (rget r) o), v) ∈ rs') → ReadM (toM (opG P Γ all (rget r) o)) →
        (∀ i' ∈ i :: l, ∃ o v, all[i']? = some o ∧ Fact P Γ all cl an ord r0 rf hs m i' o v) ∧
        (∀ q ∈ rs, ∀ e ∈ i :: l, cl.getD e 0 = 2 → q.1 ∉ an.getD e [] → q.2.1 (hs (levN cl ord e + 1)) = some (q.2.2, hs (levN cl ord e + 1))) := by
      intro hne rs' hHH ht hsub hpr hrd
      subst hHH
      have hce : cE cl (dn ++ [i]) = cE cl dn := by rw [cE_app]; simp only [cE, beq_of_ne hne, cond_false]; omega
      obtain ⟨ih1, ih2⟩ := facts hcl hO hm l (dn ++ [i]) hord' ht hI2' (by rw [hce]; exact hHS)
      refine ⟨fun i' hi' => ?_, fun q hq e' he' hce' hqe => ?_⟩
      · cases hi' with
        | tail _ h => exact ih1 i' h
        | head =>
          refine ⟨o, v, ho, hdstl ht, fun h => absurd h hne, fun _ j hj1 hj2 hanc => ?_⟩
          obtain ⟨_, hval⟩ := step_read hrd hst
          have hfin : ∀ j, toM (opG P Γ all (rget r) o) (hs j) = some (v, hs j) → StepG P Γ all (fA all an r0 rf i) o (hs j) v (hs j) := by
            intro j hj γ k
            rw [← opG_congr hregs]
            exact read_step hj γ k
          rw [hlev] at hj1
          rcases Nat.lt_or_ge (cE cl dn) j with hjj | hjj
          · refine hfin j ?_
            rcases hpr with hp | hin
            · have h3 := (hp _ _ _ hval).2 (hs j); exact h3
            · obtain ⟨a, e', b, h1, h2, h3⟩ := cE_split (cl := cl) (l := ord) (j := j - 1) (by rw [← hm]; omega)
              have hnd2 := hO.nodup
              rw [h1] at hnd2
              have hea : e' ∉ a := fun hmm => (List.nodup_append.1 hnd2).2.2 e' hmm e' (by simp) rfl
              have hle : levN cl ord e' = j - 1 := by rw [h1, lev_at hea]; exact h3
              have heo : e' ∈ ord := by rw [h1]; simp
              have hel : e' ∈ l := by
                have hmem : e' ∈ dn ++ i :: l := by rw [hord]; exact heo
                rcases List.mem_append.1 hmem with h | h
                · exfalso
                  obtain ⟨s, t, hst2⟩ := List.append_of_mem h
                  have hnd3 := hnd
                  rw [hst2] at hnd3
                  have hes : e' ∉ s := fun hmm => by
                    have h4 := (List.nodup_append.1 (List.nodup_append.1 hnd3).1).2.2 e' hmm e' (by simp)
                    exact h4 rfl
                  have hle2 : levN cl ord e' = cE cl s := by
                    rw [← hord, hst2, List.append_assoc, List.cons_append]; exact lev_at hes
                  have hce2 : cE cl dn = cE cl s + (1 + cE cl t) := by
                    rw [hst2, cE_app]; simp only [cE, h2, Nat.beq_refl, cond_true]
                  omega
                · cases h with
                  | head => exact absurd h2 hne
                  | tail _ h => exact h
              have := ih2 _ hin e' hel h2 (hanc e' (hO.inn e' heo) h2 (by rw [hlev]; omega) (by omega))
              rw [hle, show j - 1 + 1 = j by omega] at this
              exact this
          · have : j = cE cl dn := by omega
            subst this
            refine hfin _ ?_
            rw [hH]; exact hval
      · cases he' with
        | head => exact absurd hce' hne
        | tail _ h => exact ih2 q (hsub q hq) e' h hce' hqe
    rcases htr with ⟨hc, ht⟩ | ⟨hc, ht⟩ | ⟨⟨hc0, hc1⟩, hl', rfl, hrk, ht⟩
    · have hp := opG_zero (P := P) (Γ := Γ) (all := all) (f := rget r) hc
      exact hnon (by rw [hcli]; simp only at hc; omega) (step_read hp.read hst).1 ht (fun q hq => hq) (.inl hp) hp.read
    · have hp := opG_one (P := P) (Γ := Γ) (all := all) (f := rget r) hc
      exact hnon (by rw [hcli]; simp only at hc; omega) (step_read hp hst).1 ht (fun q hq => by simp [hq]) (.inr (by simp)) hp
    · have hc2 : cl.getD i 0 = 2 := by
        rw [hcli]
        have : ∀ op, cls P op = 0 ∨ cls P op = 1 ∨ cls P op = 2 := by
          intro op
          unfold cls
          split <;> first | simp | (split <;> simp) | skip
          split <;> first | simp | (split <;> simp)
        rcases this o.op with h | h | h
        · exact absurd h hc0
        · exact absurd h hc1
        · exact h
      have hce : cE cl (dn ++ [i]) = cE cl dn + 1 := by rw [cE_app]; simp only [cE, hc2, Nat.beq_refl, cond_true]
      have hHS' : ∀ q, q ≤ hl'.length → hs (cE cl (dn ++ [i]) + q) = (H1 :: hl').getD q [] := by
        intro q hq
        have := hHS (q + 1) (by simp; omega)
        rw [hce, show cE cl dn + 1 + q = cE cl dn + (q + 1) by omega, this]; simp
      have hH1 : hs (cE cl dn + 1) = H1 := by have := hHS 1 (by simp); simpa using this
      obtain ⟨ih1, ih2⟩ := facts hcl hO hm l (dn ++ [i]) hord' ht hI2' hHS'
      refine ⟨fun i' hi' => ?_, fun q hq e' he' hce' hqe => ?_⟩
      · cases hi' with
        | tail _ h => exact ih1 i' h
        | head =>
          refine ⟨o, v, ho, hdstl ht, fun _ => ?_, fun h => absurd hc2 h⟩
          rw [hlev, hH, hH1]; exact hst'
      · cases he' with
        | head =>
          rw [hlev, hH1]
          refine hrk q hq ?_
          cases hmm : memN (an.getD i []) q.1 with
          | false => rfl
          | true => exact absurd (memN_iff.1 hmm) hqe
        | tail _ h => exact ih2 q hq e' h hce' hqe

end
end Go.Proofs.YtlpibiaokpbhbaaGreatDoor.A
