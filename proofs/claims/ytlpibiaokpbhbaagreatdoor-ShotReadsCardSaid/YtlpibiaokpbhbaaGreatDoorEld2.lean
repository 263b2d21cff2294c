/- What is done to the directory of the first schema. -/
import Derived.Test.YtlpibiaokpbhbaaGreatDoorEld
import Derived.Test.YtlpibiaokpbhbaaGreatDoorAMap
namespace Go.Proofs.YtlpibiaokpbhbaaGreatDoor.A
set_option linter.unusedVariables false
set_option linter.unusedSimpArgs false
open Go.Proofs Go.Proofs.YtlpibiaokpbhbaaGreatDoor

section
variable {H H' : Heap} {n d b p q : Nat} {m : SMap} {k s : List UInt8}

def errCreate (k s : List UInt8) (m : SMap) : Int := firstE (errName k) [errSum s, errRoom k m]
def errDelete (k : List UInt8) (m : SMap) : Int := firstE (errName k) [errThere k m]
def errSet (k s : List UInt8) (m : SMap) : Int := firstE (errName k) [errSum s, errThere k m]

theorem bsl2f {a c : Value} (ha : oneCell a = true) (hc : oneCell c = true) (a1 : a.cells = #[a]) (c1 : c.cells = #[c]) (H : Heap) : bsl 1 2 .nilFunc [(0, 1, a), (1, 1, c)] H = some (.slice (some ⟨H.length, 0, none⟩) 2 2, H ++ [.cells [a, c] 1 false false]) := by
  have t1 : isTup a = false := by cases a <;> simp_all [isTup, oneCell]
  have t2 : isTup c = false := by cases c <;> simp_all [isTup, oneCell]
  have hn : Value.nilFunc.cells = #[.nilFunc] := rfl
  simp [bsl, bldC, reps, news, a1, c1, t1, t2, splice, ha, hc, hn]

theorem bsl1f {a : Value} (ha : oneCell a = true) (a1 : a.cells = #[a]) (H : Heap) : bsl 1 1 .nilFunc [(0, 1, a)] H = some (.slice (some ⟨H.length, 0, none⟩) 1 1, H ++ [.cells [a] 1 false false]) := bsl1 rfl a1 ha

theorem pair_cases {α β : Type} {P : α → β → Prop} {a a' : α} {e e' : β} (h1 : P a e) (h2 : P a' e') : ∀ (k : Nat) (f : α) (x : β), [a, a'][k]? = some f → [e, e'][k]? = some x → P f x
  | 0, f, x, h, h' => by simp at h h'; rw [← h, ← h']; exact h1
  | 1, f, x, h, h' => by simp at h h'; rw [← h, ← h']; exact h2
  | k + 2, f, x, h, h' => by simp at h

theorem one_cases {α β : Type} {P : α → β → Prop} {a : α} {e : β} (h1 : P a e) : ∀ (k : Nat) (f : α) (x : β), [a][k]? = some f → [e][k]? = some x → P f x
  | 0, f, x, h, h' => by simp at h h'; rw [← h, ← h']; exact h1
  | k + 1, f, x, h, h' => by simp at h

theorem app2_0 {H : Heap} {a c : AObj} : (H ++ [a] ++ [c])[H.length]? = some a := by simp [List.getElem?_append]
theorem app2_1 {H : Heap} {a c : AObj} : (H ++ [a] ++ [c])[H.length + 1]? = some c := by simp [List.getElem?_append]

theorem aput_ok {v : List UInt8} (h1 : ∀ p ∈ m, p.1.length ≤ 12) (hk : k.length ≤ 12) : ∀ p ∈ aput k v m, p.1.length ≤ 12 := by
  intro p hp
  unfold aput at hp
  split at hp
  · obtain ⟨x, hx, rfl⟩ := List.mem_map.1 hp
    split
    · exact hk
    · exact h1 x hx
  · rcases List.mem_append.1 hp with hp | hp
    · exact h1 p hp
    · simp at hp; rw [hp]; exact hk

theorem aput_len {α : Type} {m : List (List UInt8 × α)} {v : α} : (aput k v m).length = if (aget k m).isSome then m.length else m.length + 1 := by
  unfold aput
  split <;> simp

theorem name_len (h : nameB k = true) : k.length ≤ 12 := by
  unfold nameB at h
  simp only [Bool.and_eq_true, decide_eq_true_eq] at h
  exact h.1.1.1.2

theorem firstE_0 : ∀ {es : List Int} {e : Int}, firstE e es = 0 ↔ e = 0 ∧ ∀ a ∈ es, a = 0
  | [], e => by simp [firstE]
  | a :: es, e => by
    have : firstE e (a :: es) = firstE (if e = 0 then a else e) es := rfl
    rw [this, firstE_0]
    by_cases he : e = 0 <;> simp [he]

theorem errName_0 : errName k = 0 ↔ nameB k = true := by unfold errName; split <;> simp_all
theorem errSum_0 : errSum s = 0 ↔ sumB s = true := by unfold errSum; split <;> simp_all
theorem errThere_0 : errThere k m = 0 ↔ (aget k m).isSome = true := by unfold errThere; split <;> simp_all
theorem errRoom_0 : errRoom k m = 0 ↔ (aget k m).isSome = false ∧ m.length < 12 := by
  unfold errRoom
  split
  · simp_all
  · split
    · simp_all
    · simp_all

def createM (k s : List UInt8) (m : SMap) : SMap := if errCreate k s m = 0 then aput k s m else m
def deleteM (k : List UInt8) (m : SMap) : SMap := if errDelete k m = 0 then adel k m else m
def setM (k s : List UInt8) (m : SMap) : SMap := if errSet k s m = 0 then aput k s m else m

theorem Dir.putc (h : Dir H d b m) (g : MapG strv H' b (aput k s m)) (hs : Step [b] H [b] H') (hk : k.length ≤ 12) (hf : (aput k s m).length ≤ 12) : Dir H' d b (aput k s m) :=
  ⟨hs.get h.c (by simp [h.ne]), g, aput_ok h.len hk, hf⟩

theorem r_len (h : Dir H d b m) : R (n + 1) n_elderDirLen [pt d] H = some (iv m.length, H) := by
  rw [R, run_elderDirLen rfl]
  unfold F_elderDirLen
  rw [bind_eq nilc_r, bind_eq fa_z, bind_eq (ld_s h.c), bind_eq h.g.len]
  rfl

theorem run_prim {g : Nat} {mm : List Value → M Value} {args : List Value} (hp : np g = some mm) (hy : Nat.blt g yoff = true := by rfl) : run Tryz.prog np lvs (n + 1) g args = mm args := by
  unfold run
  simp only [hy, hp, cond_true]

theorem r_names (h : Dir H d b m) : ∃ v q H', R (n + 2) n_elderDirNames [pt d] H = some (v, H') ∧ RowS H' v ((ksort (m.map (·.1))).map strv) q ∧ HLe H H' ∧ ∀ j ∈ q, H.length ≤ j := by
  have e1 : run Tryz.prog np lvs (n + 1) n_mapsKeysMapStringstringStringString [.map (some b)] H = some (.func (.func n_keysStr) #[] #[pt H.length], H ++ [.cells [.map (some b)] 1 false false]) := by
    rw [run_mapsKeysMapStringstringStringString rfl]
    unfold F_mapsKeysMapStringstringStringString
    rw [bind_eq (alc_s rfl rfl _)]
    rfl
  have l1 : HLe H (H ++ [.cells [.map (some b)] 1 false false]) := .app _ _
  obtain ⟨v, q, H2, e2, r2, l2, o2⟩ := (h.g.hle l1).keys (gks := keyFns) (gc := n_nameCompare) (gk := n_keysStr) (c := H.length) (by decide) app_new (Nat.le_trans h.few (by decide)) (fun p hp => Nat.le_trans (h.len p hp) (by decide))
  have e2' : run Tryz.prog np lvs (n + 1) n_slicesSortedFuncString [.func (.func n_keysStr) #[] #[pt H.length], .func (.func n_nameCompare) #[] #[]] (H ++ [.cells [.map (some b)] 1 false false]) = some (v, H2) := by
    rw [run_prim (show np n_slicesSortedFuncString = some (skeysM keyFns n_nameCompare) from rfl)]
    exact e2
  refine ⟨v, q, H2, ?_, r2, l1.trans l2, fun j hj => Nat.le_trans l1.len (o2 j hj)⟩
  rw [R, run_elderDirNames rfl]
  unfold F_elderDirNames
  rw [bind_eq nilc_r, bind_eq fa_z, bind_eq (ld_s h.c), bind_eq e1, bind_eq e2']
  rfl

end

end Go.Proofs.YtlpibiaokpbhbaaGreatDoor.A
