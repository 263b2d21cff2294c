/- The device and the document's: the law, with no program in sight. -/
import Derived.Test.YtahocinoohdagaaRefBlk3
import Derived.Test.YtahocinoohdagaaKeepInv
namespace Go.Proofs.Ytahocinoohdagaa.A
set_option linter.unusedVariables false
set_option linter.unusedSimpArgs false

structure BRel (d : DevS) (w : RS) : Prop where
  n : w.n = d.kept.length
  down : w.down = d.down
  fuse : w.fuse = d.fuse
  mask : w.mask = d.mask
  ex : ∃ Ks Ws, w.l = Ks ++ Ws ∧ (∀ x ∈ Ks, x.k = true) ∧ (∀ x ∈ Ws, x.k = false) ∧ d.wait = Ws.map (fun x => (x.i, pad x.b)) ∧ ∀ i, i < d.kept.length → d.kept.getD i [] = (lastR i Ks).getD zeroB
  ok : d.Ok
  mb : d.mask < 18446744073709551616
  fb : d.fuse ≤ 9223372036854775807

theorem lastR_app (i : Nat) (W : List RW) : ∀ K : List RW, lastR i (K ++ W) = match lastR i W with | some b => some b | none => lastR i K
  | [] => by cases h : lastR i W <;> simp [h, lastR]
  | x :: K => by
    simp only [List.cons_append, lastR, lastR_app i W K]
    cases lastR i W <;> rfl

theorem lastR_getD (i : Nat) (K W : List RW) (z : List UInt8) : (lastR i (K ++ W)).getD z = (lastR i W).getD ((lastR i K).getD z) := by
  rw [lastR_app]
  cases lastR i W <;> rfl

theorem lastW_map (i : Nat) : ∀ W : List RW, lastW i (W.map fun x => (x.i, pad x.b)) = lastR i W
  | [] => rfl
  | x :: W => by
    simp only [List.map_cons, lastW, lastR, lastW_map i W]
    cases lastR i W <;> rfl

theorem lastR_map (i : Nat) : ∀ W : List RW, lastR i (W.map fun x : RW => { x with k := true }) = lastR i W
  | [] => rfl
  | x :: W => by
    simp only [List.map_cons, lastR, lastR_map i W]

theorem rcutL_kept (m : Nat) (W : List RW) : ∀ (K : List RW) (k : Nat), (∀ x ∈ K, x.k = true) → rcutL m k (K ++ W) = K ++ rcutL m k W
  | [], _, _ => rfl
  | x :: K, k, h => by
    simp only [List.cons_append, rcutL]
    rw [if_pos (h x (by simp)), rcutL_kept m W K k fun y hy => h y (by simp [hy])]

theorem rcutL_all (m : Nat) : ∀ (W : List RW) (k : Nat), (∀ x ∈ W, x.k = false) → ∀ x ∈ rcutL m k W, x.k = true
  | [], _, _, x, hx => by cases hx
  | y :: W, k, h, x, hx => by
    have hW : ∀ x ∈ W, x.k = false := fun z hz => h z (by simp [hz])
    simp only [rcutL] at hx
    rw [if_neg (by simp [h y (by simp)])] at hx
    split at hx
    · rcases List.mem_cons.1 hx with rfl | hx
      · rfl
      · exact rcutL_all m W (k + 1) hW x hx
    · exact rcutL_all m W (k + 1) hW x hx

theorem kp_rcut (m : Nat) {i : Nat} : ∀ (W : List RW) (k : Nat) (ks : List (List UInt8)), (∀ x ∈ W, x.k = false) → i < ks.length →
    (kp (cbit m) k (W.map fun x => (x.i, pad x.b)) ks).getD i [] = (lastR i (rcutL m k W)).getD (ks.getD i [])
  | [], _, _, _, _ => rfl
  | x :: W, k, ks, h, hi => by
    have hW : ∀ x ∈ W, x.k = false := fun z hz => h z (by simp [hz])
    have hx : x.k = false := h x (by simp)
    cases hb : cbit m k
    · simp only [List.map_cons, kp, rcutL, hx, hb, Bool.false_eq_true, if_false]
      exact kp_rcut m W (k + 1) ks hW hi
    · simp only [List.map_cons, kp, rcutL, hx, hb, Bool.false_eq_true, if_false, if_true, lastR]
      rw [kp_rcut m W (k + 1) _ hW (by simpa using hi)]
      cases lastR i (rcutL m (k + 1) W) with
      | some b => rfl
      | none =>
        simp only [Option.getD_none, List.getD_eq_getElem?_getD]
        by_cases e : x.i = i
        · rw [if_pos e, e, List.getElem?_set_self hi]; rfl
        · rw [if_neg e, List.getElem?_set_ne e]; rfl

section
variable {d : DevS} {w : RS}

theorem BRel.cut (h : BRel d w) {m : Nat} : BRel (d.cut m) (w.cut m) := by
  have hok := h.ok.cut m
  have hk := cut_klen d m
  obtain ⟨Ks, Ws, e1, e2, e3, e4, e5⟩ := h.ex
  have hdn := h.down
  unfold DevS.cut RS.cut at *
  by_cases hd : d.down = true
  · rw [if_pos hd] at hok hk ⊢
    rw [if_pos (by rw [hdn]; exact hd)]
    exact h
  · rw [if_neg hd] at hok hk ⊢
    rw [if_neg (by rw [hdn]; exact hd)]
    refine ⟨h.n.trans hk.symm, rfl, rfl, h.mask, ⟨Ks ++ rcutL m 0 Ws, [], ?_, ?_, by simp, rfl, fun i hi => ?_⟩, hok, h.mb, by show (-1 : Int) ≤ _; omega⟩
    · show rcutL m 0 w.l = _
      rw [e1, rcutL_kept m Ws Ks 0 e2, List.append_nil]
    · intro x hx
      rcases List.mem_append.1 hx with hx | hx
      · exact e2 x hx
      · exact rcutL_all m Ws 0 e3 x hx
    · rw [hk] at hi
      rw [lastR_getD, ← e5 i hi]
      show (kp (cbit m) 0 d.wait d.kept).getD i [] = _
      rw [e4]
      exact kp_rcut m Ws 0 d.kept e3 hi

theorem BRel.burn (h : BRel d w) : BRel d.burn.1 w.burn.1 ∧ w.burn.2 = d.burn.2 := by
  have hok := h.ok.burn
  have hf := h.fuse
  have hm := h.mask
  by_cases h1 : d.fuse < 0
  · have ed : d.burn = (d, 0) := by unfold DevS.burn; rw [if_pos h1]
    have ew : w.burn = (w, 0) := by unfold RS.burn; rw [if_pos (by omega)]
    rw [ed, ew]
    exact ⟨h, rfl⟩
  · by_cases h2 : 0 < d.fuse
    · have ed : d.burn = ({ d with fuse := d.fuse - 1 }, 0) := by unfold DevS.burn; rw [if_neg h1, if_pos h2]
      have ew : w.burn = ({ w with fuse := w.fuse - 1 }, 0) := by unfold RS.burn; rw [if_neg (by omega), if_neg (by omega)]
      rw [ed] at hok ⊢
      rw [ew]
      refine ⟨⟨h.n, h.down, by show w.fuse - 1 = d.fuse - 1; omega, h.mask, h.ex, hok, h.mb, by show d.fuse - 1 ≤ _; have := h.fb; omega⟩, rfl⟩
    · have ed : d.burn = (d.cut d.mask, 15) := by unfold DevS.burn; rw [if_neg h1, if_neg h2]
      have ew : w.burn = (w.cut w.mask, 15) := by unfold RS.burn; rw [if_neg (by omega), if_pos (by omega)]
      rw [ed, ew, hm]
      exact ⟨h.cut, rfl⟩

theorem BRel.flush (h : BRel d w) : BRel d.flush.1 w.flush.1 ∧ w.flush.2 = d.flush.2 := by
  have hok := h.ok.flush
  obtain ⟨hb, hb2⟩ := h.burn
  have hdn := h.down
  obtain ⟨Ks, Ws, e1, e2, e3, e4, e5⟩ := h.ex
  by_cases hd : d.down = true
  · have ed : d.flush = (d, 15) := by unfold DevS.flush; rw [if_pos hd]
    have ew : w.flush = (w, 15) := by unfold RS.flush; rw [if_pos (by rw [hdn]; exact hd)]
    rw [ed, ew]
    exact ⟨h, rfl⟩
  · have hd' : ¬ w.down = true := by rw [hdn]; exact hd
    by_cases h0 : d.burn.2 = 0
    · have ed : d.flush = (d.burn.1.keep (fun _ => true), 0) := by unfold DevS.flush; rw [if_neg hd, if_pos h0]
      have ew : w.flush = ({ w.burn.1 with l := w.l.map fun x : RW => { x with k := true } }, 0) := by unfold RS.flush; rw [if_neg hd', if_pos (by rw [hb2]; exact h0)]
      rw [ed] at hok ⊢
      rw [ew]
      rcases burn_cases d with ⟨b1, b2, b3, b4⟩ | ⟨b1, _⟩
      · have hkk : (d.burn.1.keep fun _ => true).kept = kp (fun _ => true) 0 d.wait d.kept := by simp only [DevS.keep, b2, b3]
        have hkl : (d.burn.1.keep fun _ => true).kept.length = d.kept.length := by rw [hkk, kp_len]
        refine ⟨⟨?_, hb.down, hb.fuse, hb.mask, ⟨w.l.map fun x : RW => { x with k := true }, [], by simp, ?_, by simp, rfl, fun i hi => ?_⟩, hok, hb.mb, hb.fb⟩, rfl⟩
        · show w.burn.1.n = (d.burn.1.keep fun _ => true).kept.length
          rw [hkl, hb.n, b2]
        · intro x hx
          obtain ⟨y, _, rfl⟩ := List.mem_map.1 hx
          rfl
        · show (d.burn.1.keep fun _ => true).kept.getD i [] = _
          have hi : i < (d.burn.1.keep fun _ => true).kept.length := hi
          rw [hkl] at hi
          rw [hkk, List.getD_eq_getElem?_getD, kp_true _ _ _ hi, Option.getD_some, lastR_map, e1, lastR_getD, e4, lastW_map, e5 i hi]
      · rw [b1] at h0; omega
    · have ed : d.flush = d.burn := by unfold DevS.flush; rw [if_neg hd, if_neg h0]
      have ew : w.flush = w.burn := by unfold RS.flush; rw [if_neg hd', if_neg (by rw [hb2]; exact h0)]
      rw [ed, ew]
      exact ⟨hb, hb2⟩

theorem BRel.write (h : BRel d w) (hf : d.wait.length < 100000) (i : Int) (b : List UInt8) : BRel (d.write i b).1 (w.put i b).1 ∧ (w.put i b).2 = (d.write i b).2 := by
  have hok := h.ok.write (i := i) (b := b) hf
  obtain ⟨hb, hb2⟩ := h.burn
  have hdn := h.down
  have hn := h.n
  obtain ⟨Ks, Ws, e1, e2, e3, e4, e5⟩ := h.ex
  unfold DevS.write at *
  by_cases hd : d.down = true
  · have ht : d.there i = 15 := by unfold DevS.there; rw [if_pos hd]
    have hp : w.put i b = (w, 15) := by unfold RS.put; rw [if_pos (by rw [hdn]; exact hd)]
    rw [if_neg (by omega)] at hok ⊢
    rw [hp, ht]
    exact ⟨h, rfl⟩
  · have hd' : ¬ w.down = true := by rw [hdn]; exact hd
    by_cases h1 : i < 0 ∨ i ≥ d.kept.length
    · have ht : d.there i = 1 := by unfold DevS.there; rw [if_neg hd, if_pos h1]
      have hp : w.put i b = (w, 1) := by unfold RS.put; rw [if_neg hd', if_pos (by rw [hn]; exact h1)]
      rw [if_neg (by omega)] at hok ⊢
      rw [hp, ht]
      exact ⟨h, rfl⟩
    · have ht : d.there i = 0 := by unfold DevS.there; rw [if_neg hd, if_neg h1]
      have h1' : ¬ (i < 0 ∨ i ≥ (w.n : Int)) := by rw [hn]; exact h1
      rw [if_pos ht] at hok ⊢
      by_cases hl : b.length > 128
      · have hp : w.put i b = (w, 3) := by unfold RS.put; rw [if_neg hd', if_neg h1', if_pos hl]
        rw [if_pos hl] at hok ⊢
        rw [hp]
        exact ⟨h, rfl⟩
      · rw [if_neg hl] at hok ⊢
        by_cases h0 : d.burn.2 = 0
        · have hp : w.put i b = ({ w.burn.1 with l := w.l ++ [⟨i.toNat, b, false⟩] }, 0) := by unfold RS.put; rw [if_neg hd', if_neg h1', if_neg hl, if_pos (by rw [hb2]; exact h0)]
          rw [if_pos h0] at hok ⊢
          rw [hp]
          rcases burn_cases d with ⟨b1, b2, b3, b4⟩ | ⟨b1, _⟩
          · refine ⟨⟨hb.n, hb.down, hb.fuse, hb.mask, ⟨Ks, Ws ++ [⟨i.toNat, b, false⟩], ?_, e2, ?_, ?_, fun j hj => ?_⟩, hok, hb.mb, hb.fb⟩, rfl⟩
            · show w.l ++ _ = _
              rw [e1, List.append_assoc]
            · intro x hx
              rcases List.mem_append.1 hx with hx | hx
              · exact e3 x hx
              · have : x = ⟨i.toNat, b, false⟩ := by simpa using hx
                rw [this]
            · show d.burn.1.wait ++ _ = _
              rw [b3, e4]; simp
            · have hj : j < d.burn.1.kept.length := hj
              show d.burn.1.kept.getD j [] = _
              rw [b2] at hj ⊢
              exact e5 j hj
          · rw [b1] at h0; omega
        · have hp : w.put i b = w.burn := by unfold RS.put; rw [if_neg hd', if_neg h1', if_neg hl, if_neg (by rw [hb2]; exact h0)]
          rw [if_neg h0] at hok ⊢
          rw [hp]
          exact ⟨hb, hb2⟩

theorem BRel.start (h : BRel d w) : BRel d.start { w with down := false } :=
  ⟨h.n, rfl, h.fuse, h.mask, h.ex, h.ok.start, h.mb, h.fb⟩

def RS.arm (w : RS) (a : Int) (m : Nat) : RS := if w.down then w else { w with fuse := max 0 a, mask := m }

theorem BRel.arm (h : BRel d w) {a : Int} {m : Nat} (ha : a ≤ 9223372036854775807) (hm : m < 18446744073709551616) : BRel (d.arm a m) (w.arm a m) := by
  have hok := h.ok.arm a m
  have hdn := h.down
  unfold DevS.arm RS.arm at *
  by_cases hd : d.down = true
  · rw [if_pos hd] at hok ⊢
    rw [if_pos (by rw [hdn]; exact hd)]
    exact h
  · rw [if_neg hd] at hok ⊢
    rw [if_neg (by rw [hdn]; exact hd)]
    exact ⟨h.n, h.down, rfl, rfl, h.ex, hok, hm, by show max 0 a ≤ _; omega⟩

theorem BRel.waits (h : BRel d w) : w.waits = d.wait.length := by
  obtain ⟨Ks, Ws, e1, e2, e3, e4, e5⟩ := h.ex
  unfold RS.waits
  rw [e1, e4, List.filter_append, List.length_append, List.length_map]
  have h1 : Ks.filter (fun x => !x.k) = [] := List.filter_eq_nil_iff.2 fun x hx => by simp [e2 x hx]
  have h2 : Ws.filter (fun x => !x.k) = Ws := List.filter_eq_self.2 fun x hx => by simp [e3 x hx]
  rw [h1, h2]; simp

theorem BRel.there (h : BRel d w) (i : Int) : w.there i = d.there i := by
  unfold RS.there DevS.there
  rw [h.down, h.n]

theorem BRel.got (h : BRel d w) (i : Int) : w.got i = d.got i := by
  unfold RS.got DevS.got
  rw [h.there]
  split
  · rename_i ht
    have hi : i.toNat < d.kept.length := by
      unfold DevS.there at ht
      split at ht
      · cases ht
      · split at ht
        · cases ht
        · omega
    obtain ⟨Ks, Ws, e1, e2, e3, e4, e5⟩ := h.ex
    unfold RS.blk DevS.blk
    rw [e1, lastR_getD, e4, lastW_map, e5 _ hi]
  · rfl

end

end Go.Proofs.Ytahocinoohdagaa.A
