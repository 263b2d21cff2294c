/- What a block may be: the law, with no program in sight. -/
import Derived.Test.YtahocinoohdagaaBlkLives
namespace Go.Proofs.Ytahocinoohdagaa.A
set_option linter.unusedVariables false
set_option linter.unusedSimpArgs false

theorem kp_in (is : Nat → Bool) : ∀ (ws : List (Nat × List UInt8)) (k : Nat) (ks : List (List UInt8)) {i : Nat} {b : List UInt8}, (kp is k ws ks)[i]? = some b → ks[i]? = some b ∨ (i, b) ∈ ws
  | [], k, ks, i, b, h => .inl h
  | w :: ws, k, ks, i, b, h => by
    simp only [kp] at h
    rcases kp_in is ws (k + 1) _ h with h | h
    · split at h
      · rw [List.getElem?_set] at h
        split at h
        · rename_i e
          split at h
          · refine .inr ?_
            have : w.2 = b := by simpa using h
            rw [← e, ← this]
            simp
          · cases h
        · exact .inl h
      · exact .inl h
    · exact .inr (by simp [h])

theorem kp_true : ∀ (ws : List (Nat × List UInt8)) (k : Nat) (ks : List (List UInt8)) {i : Nat}, i < ks.length → (kp (fun _ => true) k ws ks)[i]? = some ((lastW i ws).getD (ks.getD i []))
  | [], k, ks, i, h => by
    simp only [kp, lastW, Option.getD_none, List.getD_eq_getElem?_getD, List.getElem?_eq_getElem h, Option.getD_some]
  | w :: ws, k, ks, i, h => by
    simp only [kp, if_true]
    rw [kp_true ws (k + 1) (ks.set w.1 w.2) (by simpa using h)]
    simp only [lastW]
    cases lastW i ws with
    | some b => rfl
    | none =>
      simp only [Option.getD_none, List.getD_eq_getElem?_getD]
      by_cases e : w.1 = i
      · rw [if_pos e, e, List.getElem?_set_self h]; rfl
      · rw [if_neg e, List.getElem?_set_ne e]; rfl

structure KInv (d : DevS) (L : List (List (List UInt8))) : Prop where
  ok : d.Ok
  k8 : d.kept.length = 8
  l8 : L.length = 8
  kin : ∀ (i : Nat) b l, d.kept[i]? = some b → L[i]? = some l → b ∈ l
  win : ∀ (i : Nat) b l, (i, b) ∈ d.wait → L[i]? = some l → b ∈ l
  last : d.down = false → ∀ (i : Nat) l, L[i]? = some l → l.getLast? = some (d.blk i)
  dn : d.down = true → d.wait = []

section
variable {d : DevS} {L : List (List (List UInt8))}

theorem KInv.cut (h : KInv d L) (m : Nat) : KInv (d.cut m) L := by
  have hok := h.ok.cut m
  have hk := cut_klen d m
  unfold DevS.cut at hok hk ⊢
  split
  · exact h
  · rename_i hd
    rw [if_neg hd] at hok hk
    refine ⟨hok, hk.trans h.k8, h.l8, fun i b l hb hl => ?_, fun i b l hb => ?_, fun hd => ?_, fun _ => rfl⟩
    · rcases kp_in _ _ _ _ hb with h1 | h1
      · exact h.kin i b l h1 hl
      · exact h.win i b l h1 hl
    · cases hb
    · cases hd

theorem burn_cases (d : DevS) : (d.burn.2 = 0 ∧ d.burn.1.kept = d.kept ∧ d.burn.1.wait = d.wait ∧ d.burn.1.down = d.down) ∨ (d.burn.2 = 15 ∧ d.burn.1 = d.cut d.mask) := by
  unfold DevS.burn
  split
  · exact .inl ⟨rfl, rfl, rfl, rfl⟩
  · split
    · exact .inl ⟨rfl, rfl, rfl, rfl⟩
    · exact .inr ⟨rfl, rfl⟩

theorem blk_congr {d d' : DevS} (hk : d'.kept = d.kept) (hw : d'.wait = d.wait) (i : Nat) : d'.blk i = d.blk i := by
  unfold DevS.blk; rw [hk, hw]

theorem KInv.same {d' : DevS} (h : KInv d L) (hok : d'.Ok) (hk : d'.kept = d.kept) (hw : d'.wait = d.wait) (hd : d'.down = d.down) : KInv d' L :=
  ⟨hok, by rw [hk]; exact h.k8, h.l8, by rw [hk]; exact h.kin, by rw [hw]; exact h.win, fun h1 i l hl => by rw [blk_congr hk hw]; exact h.last (hd ▸ h1) i l hl, fun h1 => by rw [hw]; exact h.dn (hd ▸ h1)⟩

theorem KInv.arm (h : KInv d L) (a : Int) (m : Nat) : KInv (d.arm a m) L := by
  have hok := h.ok.arm a m
  unfold DevS.arm at hok ⊢
  split
  · exact h
  · rename_i hd
    rw [if_neg hd] at hok
    exact h.same hok rfl rfl rfl

theorem KInv.flush (h : KInv d L) : (d.flush.2 = 0 → KInv d.flush.1 (L.map fun l => l.drop (l.length - 1))) ∧ (d.flush.2 ≠ 0 → KInv d.flush.1 L) := by
  have hok := h.ok.flush
  unfold DevS.flush at hok ⊢
  by_cases hd : d.down = true
  · rw [if_pos hd] at hok ⊢
    exact ⟨fun h => (by cases h), fun _ => h⟩
  · rw [if_neg hd] at hok ⊢
    rcases burn_cases d with ⟨h1, h2, h3, h4⟩ | ⟨h1, h2⟩
    · rw [if_pos h1] at hok ⊢
      refine ⟨fun _ => ?_, fun hn => absurd rfl hn⟩
      have hkk : (d.burn.1.keep fun _ => true).kept = kp (fun _ => true) 0 d.wait d.kept := by simp only [DevS.keep, h2, h3]
      have hlast : ∀ (i : Nat) (l : List (List UInt8)), (L.map fun l => l.drop (l.length - 1))[i]? = some l → ∃ b, l = [b] ∧ b = d.blk i ∧ i < d.kept.length := by
        intro i l hl
        rw [List.getElem?_map] at hl
        cases hLi : L[i]? with
        | none => rw [hLi] at hl; cases hl
        | some l0 =>
          rw [hLi] at hl
          have hl : l0.drop (l0.length - 1) = l := by simpa using hl
          have h5 := h.last (by simpa using hd) i l0 hLi
          have hi := (List.getElem?_eq_some_iff.1 hLi).1
          rw [h.l8] at hi
          refine ⟨d.blk i, ?_, rfl, by rw [h.k8]; exact hi⟩
          obtain ⟨ys, rfl⟩ := List.getLast?_eq_some_iff.1 h5
          rw [← hl]
          simp
      refine ⟨hok, by show (d.burn.1.keep fun _ => true).kept.length = 8; rw [hkk, kp_len]; exact h.k8, by simpa using h.l8, fun i b l hb hl => ?_, fun i b l hb => ?_, fun _ i l hl => ?_, fun _ => rfl⟩
      · obtain ⟨x, rfl, hx, hi⟩ := hlast i l hl
        have hb : (d.burn.1.keep fun _ => true).kept[i]? = some b := hb
        rw [hkk, kp_true _ _ _ hi] at hb
        have : d.blk i = b := by simpa [DevS.blk] using hb
        simp [hx, this]
      · cases hb
      · obtain ⟨x, rfl, hx, hi⟩ := hlast i l hl
        have : (d.burn.1.keep fun _ => true).blk i = d.blk i := by
          have h6 : (d.burn.1.keep fun _ => true).wait = [] := rfl
          unfold DevS.blk
          rw [hkk, h6, List.getD_eq_getElem?_getD, kp_true _ _ _ hi]
          rfl
        rw [this, hx]; rfl
    · rw [if_neg (by rw [h1]; omega)] at hok ⊢
      refine ⟨fun h0 => by rw [h1] at h0; omega, fun _ => ?_⟩
      rw [h2]; exact h.cut _

theorem KInv.write (h : KInv d L) (hf : d.wait.length < 100000) (x : Int) (b : List UInt8) :
    ((d.write x b).2 = 0 → ∃ (i : Nat) (l : List (List UInt8)), x = (i : Int) ∧ i < 8 ∧ L[i]? = some l ∧ b.length ≤ 128 ∧ KInv (d.write x b).1 (L.set i (l ++ [pad b]))) ∧ ((d.write x b).2 ≠ 0 → KInv (d.write x b).1 L) := by
  have hok := h.ok.write (i := x) (b := b) hf
  unfold DevS.write at hok ⊢
  by_cases ht : d.there x = 0
  · rw [if_pos ht] at hok ⊢
    have htx := ht
    have hd : d.down = false ∧ 0 ≤ x ∧ x < 8 := by
      unfold DevS.there at htx
      split at htx
      · cases htx
      · rename_i hd
        split at htx
        · cases htx
        · rw [h.k8] at *
          exact ⟨by simpa using hd, by omega, by omega⟩
    by_cases hb : b.length > 128
    · rw [if_pos hb] at hok ⊢
      exact ⟨fun h => (by cases h), fun _ => h⟩
    · rw [if_neg hb] at hok ⊢
      rcases burn_cases d with ⟨h1, h2, h3, h4⟩ | ⟨h1, h2⟩
      · rw [if_pos h1] at hok ⊢
        refine ⟨fun _ => ?_, fun hn => absurd rfl hn⟩
        have hi : x.toNat < L.length := by rw [h.l8]; omega
        refine ⟨x.toNat, L[x.toNat], by omega, by omega, List.getElem?_eq_getElem hi, by omega, hok, by show d.burn.1.kept.length = 8; rw [h2]; exact h.k8, by simpa using h.l8, ?_, ?_, ?_, ?_⟩
        · intro i c l hc hl
          have hc : d.kept[i]? = some c := by rw [← h2]; exact hc
          rw [List.getElem?_set] at hl
          split at hl
          · rename_i e
            subst e
            have : L[x.toNat] ++ [pad b] = l := by simpa using hl
            subst this
            exact List.mem_append_left _ (h.kin _ c _ hc (List.getElem?_eq_getElem hi))
          · exact h.kin i c l hc hl
        · intro i c l hc hl
          have hc : (i, c) ∈ d.wait ++ [(x.toNat, pad b)] := by rw [← h3]; exact hc
          rw [List.getElem?_set] at hl
          rcases List.mem_append.1 hc with hc | hc
          · split at hl
            · rename_i e
              subst e
              have : L[x.toNat] ++ [pad b] = l := by simpa using hl
              subst this
              exact List.mem_append_left _ (h.win _ c _ hc (List.getElem?_eq_getElem hi))
            · exact h.win i c l hc hl
          · have hc : i = x.toNat ∧ c = pad b := by simpa using hc
            obtain ⟨rfl, rfl⟩ := hc
            rw [if_pos rfl, if_pos hi] at hl
            have : L[x.toNat] ++ [pad b] = l := by simpa using hl
            subst this
            simp
        · intro _ i l hl
          have hblk : ({ d.burn.1 with wait := d.burn.1.wait ++ [(x.toNat, pad b)] } : DevS).blk i = if x.toNat = i then pad b else d.blk i := by
            unfold DevS.blk
            simp only
            rw [h2, h3, lastW_snoc]
            split <;> rfl
          rw [hblk]
          rw [List.getElem?_set] at hl
          split at hl
          · rename_i e
            subst e
            have : L[x.toNat] ++ [pad b] = l := by simpa using hl
            subst this
            simp
          · rename_i e
            rw [if_neg e]
            exact h.last hd.1 i l hl
        · intro h5
          have : d.burn.1.down = true := h5
          rw [h4, hd.1] at this; cases this
      · rw [if_neg (by rw [h1]; omega)] at hok ⊢
        refine ⟨fun h0 => by rw [h1] at h0; omega, fun _ => ?_⟩
        rw [h2]; exact h.cut _
  · rw [if_neg ht] at hok ⊢
    exact ⟨fun h0 => absurd h0 ht, fun _ => h⟩

/-- The power is cut, and is there again: what is read then. -/
theorem KInv.fin (h : KInv d L) (m : Nat) : (d.cut m).down = true ∧ (d.cut m).wait = [] ∧ (d.cut m).flush = (d.cut m, 15) ∧ (d.cut m).write 0 [] = (d.cut m, 15) ∧
    ∀ (i : Nat) l, i < 8 → L[i]? = some l → (d.cut m).start.there i = 0 ∧ (d.cut m).start.got i ∈ l ∧ ((d.cut m).start.got i).length = 128 ∧ (d.wait = [] → d.down = false → l.getLast? = some ((d.cut m).start.got i)) := by
  have hc := h.cut m
  have hdn : (d.cut m).down = true := by
    unfold DevS.cut
    split
    · assumption
    · rfl
  have hw := hc.dn hdn
  refine ⟨hdn, hw, by unfold DevS.flush; rw [hdn]; rfl, by unfold DevS.write DevS.there; rw [hdn]; rfl, fun i l hi hl => ?_⟩
  have ht : (d.cut m).start.there i = 0 := by
    unfold DevS.there DevS.start
    simp only [hc.k8]
    rw [if_neg (by simp), if_neg (by omega)]
  have hki : i < (d.cut m).kept.length := by rw [hc.k8]; exact hi
  have hg : (d.cut m).start.got i = (d.cut m).kept[i] := by
    unfold DevS.got
    rw [if_pos ht, Int.toNat_natCast]
    have hw' : (d.cut m).start.wait = [] := hw
    unfold DevS.blk
    rw [hw']
    show ((d.cut m).kept.getD i []) = _
    rw [List.getD_eq_getElem?_getD, List.getElem?_eq_getElem hki]; rfl
  refine ⟨ht, ?_, ?_, fun h1 h2 => ?_⟩
  · rw [hg]; exact hc.kin i _ l (List.getElem?_eq_getElem hki) hl
  · rw [hg]; exact hc.ok.szk _ (List.getElem_mem hki)
  · rw [h.last h2 i l hl, hg]
    have : d.blk i = d.kept.getD i [] := by unfold DevS.blk; rw [h1]; rfl
    rw [this]
    have hck : (d.cut m).kept = d.kept := by
      unfold DevS.cut
      rw [if_neg (by simp [h2])]
      show kp _ 0 d.wait d.kept = d.kept
      rw [h1]; rfl
    simp only [hck, List.getD_eq_getElem?_getD]
    rw [List.getElem?_eq_getElem (by rw [← hck]; exact hki)]; rfl

end

end Go.Proofs.Ytahocinoohdagaa.A
