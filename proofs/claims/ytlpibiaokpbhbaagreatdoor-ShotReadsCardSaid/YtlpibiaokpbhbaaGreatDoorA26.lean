/- Arguments, as rows; what stays behind steps. -/
import Derived.Test.YtlpibiaokpbhbaaGreatDoorA25
namespace Go.Proofs.YtlpibiaokpbhbaaGreatDoor.A
set_option linter.unusedVariables false
set_option linter.unusedSimpArgs false

theorem choose_list {α β : Type} {Q : α → β → Prop} : ∀ {vs : List α}, (∀ v ∈ vs, ∃ p, Q v p) → ∃ ps : List β, ps.length = vs.length ∧ ∀ (i : Nat) (v : α) (p : β), vs[i]? = some v → ps[i]? = some p → Q v p
  | [], _ => ⟨[], rfl, fun i v p h => by simp at h⟩
  | v :: vs, h => by
    obtain ⟨p, hp⟩ := h v (by simp)
    obtain ⟨ps, h1, h2⟩ := choose_list (vs := vs) fun w hw => h w (by simp [hw])
    refine ⟨p :: ps, by simp [h1], fun i w q hw hq => ?_⟩
    cases i with
    | zero =>
      have e1 : v = w := by simpa using hw
      have e2 : p = q := by simpa using hq
      subst e1; subst e2; exact hp
    | succ i => exact h2 i w q (by simpa using hw) (by simpa using hq)

/-- An argument that is a slice of elements of one cell each. -/
theorem rd_row {e : Ty} {x : (Ty.slc e).den} {H : Heap} {v : Value} (he : e.size = 1) (hwf : (Ty.slc e).wf x) (h : Rd (.slc e) x H [v]) :
    ∃ vs, Sl H v vs ∧ ∀ u ∈ vs, ∃ y, e.wf y ∧ Rd e y H [u] := by
  rcases rd_slc h with h0 | h0 | ⟨l, n, c, id, cells, h0, hn, hid, hcl, hcs, a, b, hx, hl, hna⟩
  · have : v = .slice none 0 0 := by simpa using h0
    subst this
    exact ⟨[], Sl.nil, by simp⟩
  · have : v = .slice (some ⟨0, 0, some 1⟩) 0 0 := by simpa using h0
    subst this
    exact ⟨[], ⟨_, _, rfl, (fun e => by cases e), rfl⟩, by simp⟩
  · have : v = .slice (some ⟨id, 0, none⟩) n c := by simpa using h0
    subst this
    rw [he] at hcl hcs
    have hlen : (cells.take n).length = n := by simp; omega
    refine ⟨cells.take n, ?_, fun u hu => ?_⟩
    · refine ⟨some ⟨id, 0, none⟩, c, by rw [hlen], (fun e => by cases e), ?_⟩
      simp only [fcells, hid]
      rw [if_pos (by omega)]
      simp
    · obtain ⟨i, hi, rfl⟩ := List.getElem_of_mem hu
      have hil : i < l.length := by omega
      have hic : i < cells.length := by omega
      have h1 := hcs i l[i] (List.getElem?_eq_getElem hil)
      rw [Nat.mul_one, List.drop_eq_getElem_cons hic] at h1
      simp only [List.take_succ_cons, List.take_zero] at h1
      refine ⟨l[i], ?_, by rw [List.getElem_take]; exact h1⟩
      subst hx
      obtain ⟨w1, w2, _⟩ := hwf
      have : l[i] ∈ a ++ b := by rw [← hl]; exact List.getElem_mem hil
      exact (List.mem_append.1 this).elim (w1 _) (w2 _)

/-- An argument that is bytes. -/
theorem rd_bytes {x : (Ty.slc (.int .u8)).den} {H : Heap} {v : Value} (hwf : (Ty.slc (.int .u8)).wf x) (h : Rd (.slc (.int .u8)) x H [v]) : ∃ bs : List UInt8, Sl H v (u8s bs) := by
  obtain ⟨vs, h1, h2⟩ := rd_row rfl hwf h
  have : ∀ u ∈ vs, ∃ b : UInt8, u = .int .u8 b.toNat := by
    intro u hu
    obtain ⟨y, hy, hr⟩ := h2 u hu
    have hy := wf_u8 hy
    have hr : [u] = [Value.int .u8 y] := hr
    have hu : u = .int .u8 y := by simpa using hr
    refine ⟨UInt8.ofNat y.toNat, ?_⟩
    rw [hu]
    congr 1
    have : (UInt8.ofNat y.toNat).toNat = y.toNat := by
      rw [UInt8.toNat_ofNat']; omega
    omega
  obtain ⟨bs, hb1, hb2⟩ := choose_list this
  refine ⟨bs, ?_⟩
  have : u8s bs = vs := by
    apply List.ext_getElem (by simp [u8s, hb1])
    intro i h3 h4
    have hi : i < bs.length := by omega
    have := hb2 i vs[i] bs[i] (List.getElem?_eq_getElem h4) (List.getElem?_eq_getElem hi)
    rw [this]
    simp [u8s]
  rw [this]; exact h1

/-- What was there stays, where nothing of it is owned. -/
theorem HLe.more {H0 H H' : Heap} {own own' : List Nat} (h : HLe H0 H) (hs : Step own H own' H') (ho : ∀ j ∈ own, H0.length ≤ j) : HLe H0 H' ∧ ∀ j ∈ own', H0.length ≤ j := by
  refine ⟨fun i o hi => hs.get (h i o hi) fun hm => ?_, fun j hj => ?_⟩
  · have := ho i hm
    have := get_lt hi
    omega
  · rcases hs.own j hj with h1 | h1
    · exact ho j h1
    · have := h.len; omega

end Go.Proofs.YtlpibiaokpbhbaaGreatDoor.A
