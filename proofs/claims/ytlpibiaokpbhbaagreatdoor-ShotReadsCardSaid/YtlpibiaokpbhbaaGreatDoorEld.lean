/- The directory of the first schema. -/
import Derived.Test.YtlpibiaokpbhbaaGreatDoorNam
namespace Go.Proofs.YtlpibiaokpbhbaaGreatDoor.A
set_option linter.unusedVariables false
set_option linter.unusedSimpArgs false
open Go.Proofs Go.Proofs.YtlpibiaokpbhbaaGreatDoor

abbrev SMap := List (List UInt8 × List UInt8)

/-- A directory, as it lies. -/
structure Dir (H : Heap) (d b : Nat) (m : SMap) : Prop where
  c : H[d]? = some (.cells [.map (some b)] 1 false false)
  g : MapG strv H b m
  len : ∀ p ∈ m, p.1.length ≤ 12
  few : m.length ≤ 12

section
variable {H H' : Heap} {n d b p q : Nat} {m : SMap} {k s : List UInt8}

theorem alc_s {v : Value} (h : oneCell v = true) (hc : v.cells = #[v]) (H : Heap) : alc 1 v H = some (pt H.length, H ++ [.cells [v] 1 false false]) := by
  rw [alc_r]
  simp [hc, h]

theorem ld_s {v : Value} {e : Nat} {g ro : Bool} (h : H[p]? = some (.cells [v] e g ro)) : ld1 (pt p) H = some (v, H) := ld1_at h rfl

theorem call_c {g : Nat} {bs args : List Value} (hy : Nat.blt g yoff = true := by rfl) : callv (R n) (.func (.func g) #[] bs.toArray) args = R n g (args ++ bs) := by
  have : callv (R n) (.func (.func g) #[] bs.toArray) args = R n g ([] ++ (args ++ bs.toArray.toList)) := by
    simp only [callv, hy, cond_true]
  rw [this]; simp

theorem Dir.lt (h : Dir H d b m) : d < H.length ∧ b < H.length := ⟨get_lt h.c, h.g.lt⟩
theorem Dir.keep (h : Dir H d b m) (h1 : H'[d]? = H[d]?) (h2 : H'[b]? = H[b]?) : Dir H' d b m := ⟨by rw [h1]; exact h.c, h.g.keep h2, h.len, h.few⟩
theorem Dir.hle (h : Dir H d b m) (hl : HLe H H') : Dir H' d b m := ⟨hl _ _ h.c, h.g.hle hl, h.len, h.few⟩
theorem Dir.step {o1 o2 : List Nat} (h : Dir H d b m) (hs : Step o1 H o2 H') (h1 : d ∉ o1) (h2 : b ∉ o1) : Dir H' d b m := h.keep (hs.keep d h.lt.1 h1) (hs.keep b h.lt.2 h2)
theorem Dir.ne (h : Dir H d b m) : d ≠ b := fun e => by
  subst e
  obtain ⟨es, _, h1⟩ := h.g.ex
  rw [h.c] at h1
  rcases h1 with ⟨_, h1, _⟩ | h1 <;> cases h1

theorem r_eldNew : ∃ H' d b, R (n + 1) n_elderNew [] H = some (pt d, H') ∧ Dir H' d b [] ∧ HLe H H' ∧ H.length ≤ d ∧ H.length ≤ b := by
  obtain ⟨H1, e1, g1, l1⟩ := mkm_g (α := List UInt8) (enc := strv) H
  have e2 : bld (.agg #[.map none]) [(0, 1, .map (some H.length))] H1 = some (.agg #[.map (some H.length)], H1) := by simp [↓bind_andk, andk_some, ↓jn_outk, outk_nrm, outk_ext, outk_ret, ↓cnd_b, ret_r, nilc_r, fa_r, ldOne_r, ldA_r, stOne_r, stA_r, rdk_r, rdkA_r, wrk_r, wrkA_r, alc_r, lenS_r, lenT_r, cvi_r, pick_r, not_r, mx_r, mn_r, ixa_r, ixaA_r, bld_r, add_r, sub_r, mul_r, quo_r, rem_r, eql_r, neq_r, lss_r, leq_r, gtr_r, geq_r, eqb_r, neb_r, eqp_r, nep_r, ↓gv_r, gvn_r, ↓g_r, gn_r, isTup, bldC, splice, Value.cells]
  have e3 : alc 1 (.agg #[.map (some H.length)]) H1 = some (pt H1.length, H1 ++ [.cells [.map (some H.length)] 1 false false]) := by
    rw [alc_r]; simp [Value.cells, oneCell]
  refine ⟨H1 ++ [.cells [.map (some H.length)] 1 false false], H1.length, H.length, ?_, ⟨app_new, g1.hle (.app _ _), by simp, by simp⟩, l1.trans (.app _ _), l1.len, Nat.le_refl _⟩
  rw [R, run_elderNew rfl]
  unfold F_elderNew
  rw [bind_eq e1, bind_eq e2, bind_eq e3]
  rfl

/-! questions -/

def errThere (k : List UInt8) (m : SMap) : Int := if (aget k m).isSome then 0 else 8
def errRoom (k : List UInt8) (m : SMap) : Int := if (aget k m).isSome then 9 else if 12 ≤ m.length then 7 else 0

def firstE (e : Int) (es : List Int) : Int := es.foldl (fun e a => if e = 0 then a else e) e

end

end Go.Proofs.YtlpibiaokpbhbaaGreatDoor.A
