/- A region in the text's order. -/
import Derived.Test.YtlpibiaokpbhbaaGreatDoorA11
namespace Go.Proofs.YtlpibiaokpbhbaaGreatDoor.A
set_option linter.unusedVariables false
set_option linter.unusedSimpArgs false
section
variable {P : Program} {Γ : Funs} {w0 : Base} {N : Nat} {ι : Nat → Option Loc} {r : Regs} {H : Heap} {a : Act} {w : World} {rd : Option Nat}

theorem spanG_spec {j : Nat} {wt : Bool} : ∀ (l : List Oper), (spanG j wt l).1 ++ (spanG j wt l).2 = l ∧ ∀ p ∈ (spanG j wt l).1, p.guard = some (j, wt)
  | [] => ⟨rfl, by simp [spanG]⟩
  | p :: l => by
    obtain ⟨h1, h2⟩ := spanG_spec (j := j) (wt := wt) l
    unfold spanG
    cases hs : sameGuard p.guard j wt with
    | false => exact ⟨rfl, by simp⟩
    | true =>
      simp only [cond_true]
      refine ⟨by simp [h1], fun q hq => ?_⟩
      cases hq with
      | head =>
        unfold sameGuard at hs
        split at hs
        · rename_i i v hg
          simp only [Bool.and_eq_true, beq_iff_eq] at hs
          rw [hg, Nat.eq_of_beq_eq_true hs.1, hs.2]
        · cases hs
      | tail _ hq => exact h2 q hq

theorem guardOK_dst {ops : Array Oper} (h : guardOK ops.toList = true) {o q : Oper} (ho : o ∈ ops.toList) (hq : q ∈ ops.toList) {j : Nat} {wt wt' : Bool} (hg : o.guard = some (j, wt)) (hgq : q.guard = some (j, wt')) :
    ∀ e, (ops[j]?).bind (·.dst) = some e → q.dst ≠ some e := by
  intro e he hqe
  unfold guardOK at h
  have h1 := List.all_eq_true.1 h o ho
  simp only [hg] at h1
  have hd : dstOf ops.toList j = some e := by simpa [dstOf] using he
  rw [hd] at h1
  have h2 := List.all_eq_true.1 h1 q hq
  simp [hgq, hqe] at h2

/-- Registers that are joined behind a guard. -/
theorem St.join {ι1 : Nat → Option Loc} {H1 : Heap} {w1 : World} {a1 : Act} (hSt : St P.globals.size w0 N ι r H a w) (hle : Le ι ι1) (hs : Sim P.globals.size w0 ι1 H1 w1) (hsz : a1.tmps.size = N) (hdf : a1.defers = marks w0.own)
    {ds : List Nat} {r' : Regs} (h1 : ∀ t, t ∈ ds → RV ι1 (rget (r' ++ r) t) (a1.tmps.getD t undef)) (h2 : ∀ t, t ∉ ds → rget (r' ++ r) t = rget r t) (h3 : ∀ t, t ∉ ds → a1.tmps.getD t undef = a.tmps.getD t undef) :
    St P.globals.size w0 N ι1 (r' ++ r) H1 a1 w1 := by
  refine ⟨hs, fun t => ?_, hsz, hdf⟩
  by_cases ht : t ∈ ds
  · exact h1 t ht
  · rw [h2 t ht, h3 t ht]; exact (hSt.regs t).mono hle

theorem exOps_sound {ops : Array Oper} {Q : Exit → Act → World → Prop} (hΓ : ∀ g, SoundF P P.globals.size w0 g (Γ g)) (hgd : guardOK ops.toList = true) {β : Type} {x : β × Heap} :
    ∀ (n : Nat) {l : List Oper} {r : Regs} {H : Heap} {ι : Nat → Option Loc} {a : Act} {w : World} {k : Regs → M β}, (∀ p ∈ l, OpsOK P N p ∧ p ∈ ops.toList) →
      St P.globals.size w0 N ι r H a w → exOps P Γ ops.toList n l r k H = some x →
      GoesR P w0 N ι k x (fun a1 w1 => Q .normal a1 w1) → wpListIn (FR rd) 0 P ops Q l a w
  | 0, l, r, H, ι, a, w, k, _, _, h, _ => by simp [exOps, fail] at h
  | n + 1, [], r, H, ι, a, w, k, _, hSt, h, hk => hk ι r H a w (.refl ι) hSt h
  | n + 1, o :: os, r, H, ι, a, w, k, hl, hSt, h, hk => by
    obtain ⟨hok, hmem⟩ := hl o (by simp)
    simp only [exOps] at h
    cases hg : o.guard with
    | none =>
      rw [hg] at h
      simp only [exOp] at h
      obtain ⟨v, H1, h1, h2⟩ := appM_some h
      simp only [wpListIn]
      rw [if_pos (by simp [Region.wanted, hg])]
      refine (op_sound hSt.sim hΓ (fun y hy => hSt.ev (hok.consts y hy)) h2 fun ι1 v' w1 hle hv hs => ?_)
      exact exOps_sound hΓ hgd n (fun p hp => hl p (by simp [hp])) (hSt.put hle hs hv hok.dst) h1 fun ι2 r2 H2 a2 w2 hle2 hSt2 hk2 => hk ι2 r2 H2 a2 w2 (hle.trans hle2) hSt2 hk2
    | some g =>
      obtain ⟨j, wt⟩ := g
      rw [hg] at h
      simp only at h
      cases hd : dstOf ops.toList j with
      | none => simp [hd, fail] at h
      | some d =>
        rw [hd] at h
        simp only at h
        obtain ⟨hsp, hspg⟩ := spanG_spec (j := j) (wt := wt) os
        generalize spanG j wt os = p at h hsp hspg
        obtain ⟨p1, p2⟩ := p
        simp only at h hsp hspg
        subst hsp
        obtain ⟨vs, H1, hgate, hK⟩ := bind_some h
        have hd' : (ops[j]?).bind (·.dst) = some d := by simpa [dstOf] using hd
        have hgrp : ∀ q ∈ o :: p1, OpsOK P N q ∧ q.guard = some (j, wt) ∧ ∀ e, (ops[j]?).bind (·.dst) = some e → q.dst ≠ some e := by
          intro q hq
          obtain ⟨h1, h2⟩ := hl q (by cases hq with | head => simp | tail _ hq => exact List.mem_cons_of_mem _ (List.mem_append_left _ hq))
          have hqg : q.guard = some (j, wt) := by cases hq with | head => exact hg | tail _ hq => exact hspg q hq
          exact ⟨h1, hqg, guardOK_dst hgd hmem h2 hg hqg⟩
        have hrest : ∀ q ∈ p2, OpsOK P N q ∧ q ∈ ops.toList := fun q hq => hl q (by simp [hq])
        have hin : ∀ t, t ∉ (o :: p1).filterMap (·.dst) ↔ ∀ q ∈ o :: p1, q.dst ≠ some t := by
          intro t
          simp only [List.mem_filterMap, not_exists, not_and]
        have hreg := hSt.regs d
        have e0 : o :: (p1 ++ p2) = (o :: p1) ++ p2 := rfl
        rw [e0]
        have hskip : yielded ops a.tmps j ≠ some wt → vs = List.replicate ((o :: p1).filterMap (·.dst)).length notW → H1 = H → wpListIn (FR rd) 0 P ops Q ((o :: p1) ++ p2) a w := by
          intro hy hvs hH1
          subst hvs; subst hH1
          refine skip_sound (o :: p1) hgrp hy hSt.size hSt.defers fun a1 h1 h2 h3 h4 => ?_
          refine exOps_sound hΓ hgd n hrest (hSt.join (ds := (o :: p1).filterMap (·.dst)) (.refl ι) hSt.sim h1 h2 (fun t ht => ?_) (fun t ht => ?_) (fun t ht => ?_)) hK hk
          · rw [rget_mk_rep ht (Nat.le_refl _)]
            have : ∃ q ∈ o :: p1, q.dst = some t := by simpa only [List.mem_filterMap] using ht
            rw [h4 t this]; exact .nw
          · exact rget_app fun e he hee => ht (hee ▸ he)
          · exact h3 t ((hin t).1 ht)
        unfold gate at hgate
        generalize hgv : rget r d = gv at hgate hreg
        cases gv with
        | bool b =>
          simp only at hgate
          have hc := hreg.bool_inv
          have hy : yielded ops a.tmps j = some b := by
            unfold yielded
            rw [hd']
            simp only [Option.bind_some]
            rw [Array.getD_eq_getD_getElem?] at hc
            cases e : a.tmps[d]? with
            | none => rw [e] at hc; cases hc
            | some u => rw [e] at hc; simp only [Option.getD_some] at hc; subst hc; rfl
          cases hbw : b == wt with
          | true =>
            rw [hbw] at hgate
            simp only [cond_true] at hgate
            have hbe : b = wt := by simpa using hbw
            subst hbe
            refine exRow_sound hΓ (o :: p1) hgrp hSt hy hgate ?_
            intro ι1 r1 H2 a1 w1 hle hSt1 hr1 ha1 hk1
            cases hk1
            refine exOps_sound hΓ hgd n hrest (hSt.join (ds := (o :: p1).filterMap (·.dst)) hle hSt1.sim hSt1.size hSt1.defers (fun t ht => ?_) (fun t ht => ?_) (fun t ht => ?_)) hK
              fun ι2 r2 H2 a2 w2 hle2 hSt2 hk2 => hk ι2 r2 H2 a2 w2 (hle.trans hle2) hSt2 hk2
            · rw [rget_mk_proj ht]; exact hSt1.regs t
            · exact rget_app fun e he hee => ht (hee ▸ he)
            · exact ha1 t ((hin t).1 ht)
          | false =>
            rw [hbw] at hgate
            simp only [cond_false] at hgate
            cases hgate
            exact hskip (by rw [hy]; intro e; cases e; simp at hbw) rfl rfl
        | tuple us =>
          simp only at hgate
          cases hus : Nat.beq us.size 1 with
          | false => rw [hus] at hgate; cases hgate
          | true =>
            rw [hus] at hgate
            simp only [cond_true] at hgate
            cases hgate
            refine hskip ?_ rfl rfl
            have hnb : ∀ b, a.tmps.getD d undef ≠ .bool b := by
              intro b hb
              rw [hb] at hreg
              cases hreg with
              | un => cases hus
            unfold yielded
            rw [hd']
            simp only [Option.bind_some]
            intro hh
            split at hh
            · rename_i b hb
              exact hnb b (by rw [Array.getD_eq_getD_getElem?, hb]; rfl)
            · cases hh
        | _ => cases hgate

end
end Go.Proofs.YtlpibiaokpbhbaaGreatDoor.A
