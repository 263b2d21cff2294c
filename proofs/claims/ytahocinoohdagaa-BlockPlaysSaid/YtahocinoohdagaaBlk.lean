/- The device: what its functions do. -/
import Derived.Test.YtahocinoohdagaaA27
import Derived.Test.YtahocinoohdagaaBits
import Derived.Test.YtahocinoohdagaaFblk
namespace Go.Proofs.Ytahocinoohdagaa.A
set_option linter.unusedVariables false
set_option linter.unusedSimpArgs false
open Go.Proofs Go.Proofs.Ytahocinoohdagaa

/-! the device, as it is meant -/

structure DevS where
  kept : List (List UInt8)
  wait : List (Nat × List UInt8)
  down : Bool
  fuse : Int
  mask : Nat

/-- Those of the writes that wait, of which it is said so, are kept. -/
def kp (is : Nat → Bool) : Nat → List (Nat × List UInt8) → List (List UInt8) → List (List UInt8)
  | _, [], ks => ks
  | k, w :: ws, ks => kp is (k + 1) ws (if is k then ks.set w.1 w.2 else ks)

def cbit (m k : Nat) : Bool := m.testBit (k % 64)
def pad (b : List UInt8) : List UInt8 := b ++ List.replicate (128 - b.length) 0

def DevS.there (d : DevS) (i : Int) : Int := if d.down then 15 else if i < 0 ∨ i ≥ d.kept.length then 1 else 0
def DevS.keep (d : DevS) (is : Nat → Bool) : DevS := { d with kept := kp is 0 d.wait d.kept, wait := [] }
def DevS.cut (d : DevS) (m : Nat) : DevS := if d.down then d else { d.keep (cbit m) with down := true, fuse := -1 }
def DevS.burn (d : DevS) : DevS × Int := if d.fuse < 0 then (d, 0) else if 0 < d.fuse then ({ d with fuse := d.fuse - 1 }, 0) else (d.cut d.mask, 15)
def DevS.flush (d : DevS) : DevS × Int := if d.down then (d, 15) else if d.burn.2 = 0 then (d.burn.1.keep (fun _ => true), 0) else d.burn
def DevS.write (d : DevS) (i : Int) (b : List UInt8) : DevS × Int :=
  if d.there i = 0 then (if b.length > 128 then (d, 3) else if d.burn.2 = 0 then ({ d.burn.1 with wait := d.burn.1.wait ++ [(i.toNat, pad b)] }, 0) else d.burn) else (d, d.there i)
def DevS.arm (d : DevS) (a : Int) (m : Nat) : DevS := if d.down then d else { d with fuse := max 0 a, mask := m }
def DevS.start (d : DevS) : DevS := { d with down := false }

/-- The write that stands last, of a block. -/
def lastW (i : Nat) : List (Nat × List UInt8) → Option (List UInt8)
  | [] => none
  | w :: ws => match lastW i ws with
    | some b => some b
    | none => if w.1 = i then some w.2 else none

def DevS.blk (d : DevS) (i : Nat) : List UInt8 := (lastW i d.wait).getD (d.kept.getD i [])

/-- As a device is. -/
structure DevS.Ok (d : DevS) : Prop where
  idx : ∀ w ∈ d.wait, w.1 < d.kept.length
  few : d.wait.length ≤ 100000
  bl : d.kept.length ≤ 100000
  szk : ∀ b ∈ d.kept, b.length = 128
  szw : ∀ w ∈ d.wait, w.2.length = 128

theorem kp_len (is : Nat → Bool) : ∀ (ws : List (Nat × List UInt8)) (k : Nat) (ks : List (List UInt8)), (kp is k ws ks).length = ks.length
  | [], _, _ => rfl
  | w :: ws, k, ks => by
    simp only [kp]
    rw [kp_len is ws]
    split <;> simp

theorem kp_sz (is : Nat → Bool) : ∀ (ws : List (Nat × List UInt8)) (k : Nat) (ks : List (List UInt8)), (∀ b ∈ ks, b.length = 128) → (∀ w ∈ ws, w.2.length = 128) → ∀ b ∈ kp is k ws ks, b.length = 128
  | [], _, _, h, _ => h
  | w :: ws, k, ks, h, h2 => by
    simp only [kp]
    refine kp_sz is ws (k + 1) _ (fun b hb => ?_) fun x hx => h2 x (by simp [hx])
    split at hb
    · rcases List.mem_or_eq_of_mem_set hb with hb | rfl
      · exact h b hb
      · exact h2 w (by simp)
    · exact h b hb

theorem DevS.Ok.keep {d : DevS} (h : d.Ok) (is : Nat → Bool) : (d.keep is).Ok :=
  ⟨by simp [DevS.keep], by simp [DevS.keep], by simp only [DevS.keep, kp_len]; exact h.bl, kp_sz is _ _ _ h.szk h.szw, by simp [DevS.keep]⟩
theorem DevS.Ok.cut {d : DevS} (h : d.Ok) (m : Nat) : (d.cut m).Ok := by
  unfold DevS.cut
  split
  · exact h
  · have := h.keep (cbit m)
    exact ⟨this.idx, this.few, this.bl, this.szk, this.szw⟩
theorem DevS.Ok.burn {d : DevS} (h : d.Ok) : d.burn.1.Ok := by
  unfold DevS.burn
  split
  · exact h
  · split
    · exact ⟨h.idx, h.few, h.bl, h.szk, h.szw⟩
    · exact h.cut _
theorem DevS.Ok.flush {d : DevS} (h : d.Ok) : d.flush.1.Ok := by
  unfold DevS.flush
  split
  · exact h
  · split
    · exact h.burn.keep _
    · exact h.burn
theorem DevS.Ok.start {d : DevS} (h : d.Ok) : d.start.Ok := ⟨h.idx, h.few, h.bl, h.szk, h.szw⟩
theorem DevS.Ok.arm {d : DevS} (h : d.Ok) (a : Int) (m : Nat) : (d.arm a m).Ok := by
  unfold DevS.arm
  split
  · exact h
  · exact ⟨h.idx, h.few, h.bl, h.szk, h.szw⟩

theorem cut_klen (d : DevS) (m : Nat) : (d.cut m).kept.length = d.kept.length := by
  unfold DevS.cut
  split
  · rfl
  · exact kp_len _ _ _ _
theorem burn_klen (d : DevS) : d.burn.1.kept.length = d.kept.length := by
  unfold DevS.burn
  split
  · rfl
  · split
    · rfl
    · exact cut_klen d _
theorem burn_wlen (d : DevS) : d.burn.1.wait.length ≤ d.wait.length := by
  unfold DevS.burn
  split
  · exact Nat.le_refl _
  · split
    · exact Nat.le_refl _
    · unfold DevS.cut
      split
      · exact Nat.le_refl _
      · exact Nat.zero_le _
theorem pad_len {b : List UInt8} (h : b.length ≤ 128) : (pad b).length = 128 := by simp [pad]; omega

theorem DevS.Ok.write {d : DevS} (h : d.Ok) {i : Int} {b : List UInt8} (hf : d.wait.length < 100000) : (d.write i b).1.Ok := by
  unfold DevS.write
  split
  · rename_i ht
    split
    · exact h
    · rename_i hb
      split
      · have hB := h.burn
        refine ⟨fun w hw => ?_, ?_, hB.bl, hB.szk, fun w hw => ?_⟩
        · rcases List.mem_append.1 hw with hw | hw
          · exact hB.idx w hw
          · simp only [List.mem_singleton] at hw
            subst hw
            show i.toNat < d.burn.1.kept.length
            rw [burn_klen]
            unfold DevS.there at ht
            split at ht
            · cases ht
            · split at ht
              · cases ht
              · omega
        · show (d.burn.1.wait ++ [(i.toNat, pad b)]).length ≤ 100000
          have := burn_wlen d
          rw [List.length_append, List.length_singleton]
          omega
        · rcases List.mem_append.1 hw with hw | hw
          · exact hB.szw w hw
          · simp only [List.mem_singleton] at hw
            subst hw
            exact pad_len (by omega)
      · exact h.burn
  · exact h

/-! rows that are nil where they are empty -/

def RowZ (H : Heap) (sl : Value) (vs : List Value) (own : List Nat) : Prop := RowS H sl vs own ∧ (vs = [] → sl = .slice none 0 0)
def RowM (es : Nat) (H : Heap) (sl : Value) (rows : List (List Value)) (own : List Nat) : Prop := RowN es H sl rows own ∧ (rows = [] → sl = .slice none 0 0)

section
variable {H H' : Heap} {sl v : Value} {vs : List Value} {rows : List (List Value)} {es : Nat} {own : List Nat}

theorem RowS.oneCell {H : Heap} {sl : Value} {vs : List Value} {own : List Nat} (h : RowS H sl vs own) : oneCell sl = true ∧ sl.cells = #[sl] := by
  rcases h with ⟨_, _, rfl⟩ | ⟨_, _, _, rfl, _, _⟩ <;> exact ⟨rfl, rfl⟩

theorem RowZ.nil : RowZ H (.slice none 0 0) [] [] := ⟨RowS.nil, fun _ => rfl⟩
theorem RowZ.rd (h : RowZ H sl vs own) : Sl H sl vs := h.1.rd
theorem RowZ.lt (h : RowZ H sl vs own) : ∀ j ∈ own, j < H.length := h.1.lt
theorem RowZ.keep (h : RowZ H sl vs own) (hk : ∀ j ∈ own, H'[j]? = H[j]?) : RowZ H' sl vs own := ⟨h.1.keep hk, h.2⟩
theorem RowZ.step {o1 o2 : List Nat} (h : RowZ H sl vs own) (hs : Step o1 H o2 H') (hn : ∀ j ∈ own, j ∉ o1) : RowZ H' sl vs own := ⟨h.1.step hs hn, h.2⟩
theorem RowZ.single (h : RowZ H sl vs own) : own.Nodup := h.1.single
theorem RowZ.oneCell (h : RowZ H sl vs own) : oneCell sl = true ∧ sl.cells = #[sl] := h.1.oneCell
theorem RowZ.put (h : RowZ H sl vs own) {i : Nat} {u : Value} (hi : vs[i]? = some v) (hu : A.oneCell u = true) (q : IntKind) :
    ∃ id o H', (∀ H', ixa 1 sl (.int q i) H' = some (pa id o, H')) ∧ st1 (pa id o) u H = some (undef, H') ∧ RowZ H' sl (vs.set i u) own ∧ Step own H own H' ∧ own = [id] ∧ H'.length = H.length := by
  obtain ⟨id, o, H', a1, a2, a3, a4⟩ := h.1.put hi hu q
  exact ⟨id, o, H', a1, a2, ⟨a3, fun e => h.2 (by simpa using e)⟩, a4⟩
theorem RowZ.push {b : Nat} (h : RowZ H sl vs own) {x : Value} (hx : Sl H x [v]) (hb : (vs.length + 1) * b ≤ 140737488355328) (hb0 : vs.length + 1 ≤ 140737488355328) :
    ∃ sl' H' own', app 1 b sl x H = some (sl', H') ∧ RowZ H' sl' (vs ++ [v]) own' ∧ Step own H own' H' ∧ (∀ j, j < H.length → (∀ i ∈ own, j ≠ i) → H'[j]? = H[j]?) := by
  obtain ⟨sl', H', own', a1, a2, a3⟩ := h.1.push hx hb hb0
  exact ⟨sl', H', own', a1, ⟨a2, fun e => by simp at e⟩, a3⟩

theorem RowM.nil : RowM es H (.slice none 0 0) [] [] := ⟨RowN.nil, fun _ => rfl⟩
theorem RowM.rd (h : RowM es H sl rows own) : SlN es H sl rows := h.1.rd
theorem RowM.lt (h : RowM es H sl rows own) : ∀ j ∈ own, j < H.length := h.1.lt
theorem RowM.keep (h : RowM es H sl rows own) (hk : ∀ j ∈ own, H'[j]? = H[j]?) : RowM es H' sl rows own := ⟨h.1.keep hk, h.2⟩
theorem RowM.step {o1 o2 : List Nat} (h : RowM es H sl rows own) (hs : Step o1 H o2 H') (hn : ∀ j ∈ own, j ∉ o1) : RowM es H' sl rows own := ⟨h.1.step hs hn, h.2⟩
theorem RowM.single (h : RowM es H sl rows own) : own.Nodup := h.1.single
theorem RowM.one (h : RowM es H sl rows own) : oneCell sl = true ∧ sl.cells = #[sl] := h.1.one
theorem RowM.push {b : Nat} (h : RowM es H sl rows own) {x : Value} {r : List Value} (hx : SlN es H x [r]) (hr : r.length = es) (hb : (rows.length + 1) * b ≤ 140737488355328) (hb0 : rows.length + 1 ≤ 140737488355328) :
    ∃ sl' H' own', app es b sl x H = some (sl', H') ∧ RowM es H' sl' (rows ++ [r]) own' ∧ Step own H own' H' := by
  obtain ⟨sl', H', own', a1, a2, a3⟩ := h.1.push hx hr hb hb0
  exact ⟨sl', H', own', a1, ⟨a2, fun e => by simp at e⟩, a3⟩

end

/-! the device, as it lies -/

/-- Bytes that nobody writes any more. -/
def Fz (H : Heap) (bs : List Nat) (v : Value) (p : List UInt8) : Prop := Sl H v (u8s p) ∧ ∃ j, own1 v = some j ∧ j ∈ bs

def WR (H : Heap) (bs : List Nat) (r : List Value) (w : Nat × List UInt8) : Prop := ∃ v, r = [iv w.1, v] ∧ Fz H bs v w.2

theorem Sl.oneC {H : Heap} {v : Value} {vs : List Value} (h : Sl H v vs) : oneCell v = true ∧ v.cells = #[v] := by
  obtain ⟨a, c, rfl, _⟩ := h; exact ⟨rfl, rfl⟩

theorem Fz.keep {H H' : Heap} {bs bs' : List Nat} {v : Value} {p : List UInt8} (h : Fz H bs v p) (hk : ∀ j ∈ bs, H'[j]? = H[j]?) (hb : ∀ j ∈ bs, j ∈ bs') : Fz H' bs' v p := by
  obtain ⟨h1, j, hj, hm⟩ := h
  exact ⟨h1.keep fun id hid => by rw [hj] at hid; cases hid; exact hk j hm, j, hj, hb j hm⟩

theorem WR.keep {H H' : Heap} {bs bs' : List Nat} {r : List Value} {w : Nat × List UInt8} (h : WR H bs r w) (hk : ∀ j ∈ bs, H'[j]? = H[j]?) (hb : ∀ j ∈ bs, j ∈ bs') : WR H' bs' r w := by
  obtain ⟨v, rfl, hv⟩ := h
  exact ⟨v, rfl, hv.keep hk hb⟩

/-- A device whose rows are ks and ws. -/
def DevX (H : Heap) (id : Nat) (ks ws : Value) (d : DevS) (own bs : List Nat) : Prop :=
  ∃ kvs ko wrs wo, H[id]? = some (.cells [ks, ws, .bool d.down, iv d.fuse, .int .u64 d.mask] 1 false false) ∧ RowZ H ks kvs ko ∧ All2 (Fz H bs) kvs d.kept ∧ RowM 2 H ws wrs wo ∧ All2 (WR H bs) wrs d.wait ∧
    own = id :: (ko ++ wo) ∧ own.Nodup ∧ ∀ j ∈ bs, j ∉ own ∧ j < H.length

def Dev (H : Heap) (id : Nat) (d : DevS) (own bs : List Nat) : Prop := ∃ ks ws, DevX H id ks ws d own bs

section
variable {H H' : Heap} {id n : Nat} {ks ws : Value} {d : DevS} {own bs : List Nat}

theorem DevX.lt (h : DevX H id ks ws d own bs) : ∀ j ∈ own, j < H.length := by
  obtain ⟨kvs, ko, wrs, wo, h1, h2, h3, h4, h5, rfl, h6, h7⟩ := h
  intro j hj
  simp only [List.mem_cons, List.mem_append] at hj
  rcases hj with rfl | hj | hj
  · exact get_lt h1
  · exact h2.lt j hj
  · exact h4.lt j hj

theorem DevX.keep (h : DevX H id ks ws d own bs) (hl : H.length ≤ H'.length) (hk : ∀ j, j ∈ own ∨ j ∈ bs → H'[j]? = H[j]?) : DevX H' id ks ws d own bs := by
  obtain ⟨kvs, ko, wrs, wo, h1, h2, h3, h4, h5, rfl, h6, h7⟩ := h
  refine ⟨kvs, ko, wrs, wo, by rw [hk id (by simp)]; exact h1, h2.keep fun j hj => hk j (by simp [hj]), h3.imp fun a b hab => hab.keep (fun j hj => hk j (.inr hj)) fun j hj => hj,
    h4.keep fun j hj => hk j (by simp [hj]), h5.imp fun a b hab => hab.keep (fun j hj => hk j (.inr hj)) fun j hj => hj, rfl, h6, fun j hj => ⟨(h7 j hj).1, by have := (h7 j hj).2; omega⟩⟩

theorem Dev.lt (h : Dev H id d own bs) : ∀ j ∈ own, j < H.length := by
  obtain ⟨_, _, h⟩ := h; exact h.lt
theorem DevX.bl (h : DevX H id ks ws d own bs) : ∀ j ∈ bs, j ∉ own ∧ j < H.length := by
  obtain ⟨kvs, ko, wrs, wo, h1, h2, h3, h4, h5, rfl, h6, h7⟩ := h; exact h7
theorem Dev.bl (h : Dev H id d own bs) : ∀ j ∈ bs, j ∉ own ∧ j < H.length := by
  obtain ⟨_, _, h⟩ := h; exact h.bl
theorem Dev.mem (h : Dev H id d own bs) : id ∈ own := by
  obtain ⟨_, _, kvs, ko, wrs, wo, h1, h2, h3, h4, h5, rfl, h6, h7⟩ := h; simp

theorem Dev.keep (h : Dev H id d own bs) (hl : H.length ≤ H'.length) (hk : ∀ j, j ∈ own ∨ j ∈ bs → H'[j]? = H[j]?) : Dev H' id d own bs := by
  obtain ⟨ks, ws, h⟩ := h
  exact ⟨ks, ws, h.keep hl hk⟩

/-- Others' steps leave a device as it is. -/
theorem Dev.step {o1 o2 : List Nat} (h : Dev H id d own bs) (hs : Step o1 H o2 H') (hn : ∀ j, j ∈ own ∨ j ∈ bs → j ∉ o1) : Dev H' id d own bs :=
  h.keep hs.len fun j hj => hs.keep j (hj.elim (h.lt j) fun hb => (h.bl j hb).2) (hn j hj)
theorem DevX.step {o1 o2 : List Nat} (h : DevX H id ks ws d own bs) (hs : Step o1 H o2 H') (hn : ∀ j, j ∈ own ∨ j ∈ bs → j ∉ o1) : DevX H' id ks ws d own bs :=
  h.keep hs.len fun j hj => hs.keep j (hj.elim (h.lt j) fun hb => (h.bl j hb).2) (hn j hj)
theorem Dev.hle (h : Dev H id d own bs) (hs : HLe H H') : Dev H' id d own bs := h.step hs.step (by simp)
theorem DevX.hle (h : DevX H id ks ws d own bs) (hs : HLe H H') : DevX H' id ks ws d own bs := h.step hs.step (by simp)

theorem DevX.cell (h : DevX H id ks ws d own bs) : H[id]? = some (.cells [ks, ws, .bool d.down, iv d.fuse, .int .u64 d.mask] 1 false false) := by
  obtain ⟨kvs, ko, wrs, wo, h1, _⟩ := h; exact h1
theorem DevX.klen (h : DevX H id ks ws d own bs) (H' : Heap) : lenS ks H' = some (iv d.kept.length, H') := by
  obtain ⟨kvs, ko, wrs, wo, h1, h2, h3, _⟩ := h
  rw [← h3.len]; exact h2.rd.len
theorem DevX.wlen (h : DevX H id ks ws d own bs) (H' : Heap) : lenS ws H' = some (iv d.wait.length, H') := by
  obtain ⟨kvs, ko, wrs, wo, h1, h2, h3, h4, h5, _⟩ := h
  rw [← h5.len]; exact h4.rd.len

theorem r_down (h : Dev H id d own bs) : R (n + 1) n_blockDeviceDown [pt id] H = some (.bool d.down, H) := by
  obtain ⟨ks, ws, h⟩ := h
  rw [R, run_blockDeviceDown rfl]
  simp [F_blockDeviceDown, ↓bind_andk, andk_some, ↓jn_outk, outk_nrm, outk_ext, outk_ret, ↓cnd_b, ret_r, nilc_r, fa_r, ldOne_r, ldA_r, stOne_r, stA_r, rdk_r, rdkA_r, wrk_r, wrkA_r, alc_r, lenS_r, lenT_r, cvi_r, pick_r, not_r, mx_r, mn_r, ixa_r, ixaA_r, bld_r, add_r, sub_r, mul_r, quo_r, rem_r, eql_r, neq_r, lss_r, leq_r, gtr_r, geq_r, eqb_r, neb_r, eqp_r, nep_r, ↓gv_r, gvn_r, ↓g_r, gn_r, h.cell]
theorem r_waiting (h : Dev H id d own bs) : R (n + 1) n_blockDeviceWaiting [pt id] H = some (iv d.wait.length, H) := by
  obtain ⟨ks, ws, h⟩ := h
  rw [R, run_blockDeviceWaiting rfl]
  simp [F_blockDeviceWaiting, ↓bind_andk, andk_some, ↓jn_outk, outk_nrm, outk_ext, outk_ret, ↓cnd_b, ret_r, nilc_r, fa_r, ldOne_r, ldA_r, stOne_r, stA_r, rdk_r, rdkA_r, wrk_r, wrkA_r, alc_r, lenS_r, lenT_r, cvi_r, pick_r, not_r, mx_r, mn_r, ixa_r, ixaA_r, bld_r, add_r, sub_r, mul_r, quo_r, rem_r, eql_r, neq_r, lss_r, leq_r, gtr_r, geq_r, eqb_r, neb_r, eqp_r, nep_r, ↓gv_r, gvn_r, ↓g_r, gn_r, h.cell, h.wlen]
theorem r_len (h : Dev H id d own bs) : R (n + 1) n_blockDeviceLen [pt id] H = some (iv d.kept.length, H) := by
  obtain ⟨ks, ws, h⟩ := h
  rw [R, run_blockDeviceLen rfl]
  simp [F_blockDeviceLen, ↓bind_andk, andk_some, ↓jn_outk, outk_nrm, outk_ext, outk_ret, ↓cnd_b, ret_r, nilc_r, fa_r, ldOne_r, ldA_r, stOne_r, stA_r, rdk_r, rdkA_r, wrk_r, wrkA_r, alc_r, lenS_r, lenT_r, cvi_r, pick_r, not_r, mx_r, mn_r, ixa_r, ixaA_r, bld_r, add_r, sub_r, mul_r, quo_r, rem_r, eql_r, neq_r, lss_r, leq_r, gtr_r, geq_r, eqb_r, neb_r, eqp_r, nep_r, ↓gv_r, gvn_r, ↓g_r, gn_r, h.cell, h.klen]
theorem r_there (h : Dev H id d own bs) (i : Int) : R (n + 1) n_blockDeviceThere [pt id, iv i] H = some (iv (d.there i), H) := by
  obtain ⟨ks, ws, h⟩ := h
  have e := h.klen H
  rw [R, run_blockDeviceThere rfl]
  unfold DevS.there
  cases hd : d.down
  · by_cases h1 : i < 0
    · simp [F_blockDeviceThere, ↓bind_andk, andk_some, ↓jn_outk, outk_nrm, outk_ext, outk_ret, ↓cnd_b, ret_r, nilc_r, fa_r, ldOne_r, ldA_r, stOne_r, stA_r, rdk_r, rdkA_r, wrk_r, wrkA_r, alc_r, lenS_r, lenT_r, cvi_r, pick_r, not_r, mx_r, mn_r, ixa_r, ixaA_r, bld_r, add_r, sub_r, mul_r, quo_r, rem_r, eql_r, neq_r, lss_r, leq_r, gtr_r, geq_r, eqb_r, neb_r, eqp_r, nep_r, ↓gv_r, gvn_r, ↓g_r, gn_r, h.cell, hd, h1]
    · by_cases h2 : i ≥ d.kept.length
      · simp [F_blockDeviceThere, ↓bind_andk, andk_some, ↓jn_outk, outk_nrm, outk_ext, outk_ret, ↓cnd_b, ret_r, nilc_r, fa_r, ldOne_r, ldA_r, stOne_r, stA_r, rdk_r, rdkA_r, wrk_r, wrkA_r, alc_r, lenS_r, lenT_r, cvi_r, pick_r, not_r, mx_r, mn_r, ixa_r, ixaA_r, bld_r, add_r, sub_r, mul_r, quo_r, rem_r, eql_r, neq_r, lss_r, leq_r, gtr_r, geq_r, eqb_r, neb_r, eqp_r, nep_r, ↓gv_r, gvn_r, ↓g_r, gn_r, h.cell, hd, h1, e, h2]
      · simp [F_blockDeviceThere, ↓bind_andk, andk_some, ↓jn_outk, outk_nrm, outk_ext, outk_ret, ↓cnd_b, ret_r, nilc_r, fa_r, ldOne_r, ldA_r, stOne_r, stA_r, rdk_r, rdkA_r, wrk_r, wrkA_r, alc_r, lenS_r, lenT_r, cvi_r, pick_r, not_r, mx_r, mn_r, ixa_r, ixaA_r, bld_r, add_r, sub_r, mul_r, quo_r, rem_r, eql_r, neq_r, lss_r, leq_r, gtr_r, geq_r, eqb_r, neb_r, eqp_r, nep_r, ↓gv_r, gvn_r, ↓g_r, gn_r, h.cell, hd, h1, e, h2]
  · simp [F_blockDeviceThere, ↓bind_andk, andk_some, ↓jn_outk, outk_nrm, outk_ext, outk_ret, ↓cnd_b, ret_r, nilc_r, fa_r, ldOne_r, ldA_r, stOne_r, stA_r, rdk_r, rdkA_r, wrk_r, wrkA_r, alc_r, lenS_r, lenT_r, cvi_r, pick_r, not_r, mx_r, mn_r, ixa_r, ixaA_r, bld_r, add_r, sub_r, mul_r, quo_r, rem_r, eql_r, neq_r, lss_r, leq_r, gtr_r, geq_r, eqb_r, neb_r, eqp_r, nep_r, ↓gv_r, gvn_r, ↓g_r, gn_r, h.cell, hd]

/-- The device's own cells are written. -/
theorem DevX.put (h : DevX H id ks ws d own bs) {o : Nat} {v : Value} {d' : DevS} (hv : [ks, ws, .bool d.down, iv d.fuse, .int .u64 d.mask].set o v = [ks, ws, .bool d'.down, iv d'.fuse, .int .u64 d'.mask]) (ho : o < 5) (h1 : oneCell v = true) (hk : d'.kept = d.kept) (hw : d'.wait = d.wait) :
    ∃ H', st1 (pa id o) v H = some (undef, H') ∧ DevX H' id ks ws d' own bs ∧ Step own H own H' ∧ H'.length = H.length := by
  have hcell := h.cell
  have hlt := h.lt
  obtain ⟨kvs, ko, wrs, wo, h1', h2, h3, h4, h5, rfl, h6, h7⟩ := h
  have hst : Step (id :: (ko ++ wo)) H (id :: (ko ++ wo)) (H.set id (.cells [ks, ws, .bool d'.down, iv d'.fuse, .int .u64 d'.mask] 1 false false)) :=
    ⟨by simp, fun j hj hn => List.getElem?_set_ne (fun e => hn (by simp [e])), fun j hj => .inl hj⟩
  have hne : ∀ j, j ≠ id → (H.set id (.cells [ks, ws, .bool d'.down, iv d'.fuse, .int .u64 d'.mask] 1 false false))[j]? = H[j]? := fun j hj => List.getElem?_set_ne (Ne.symm hj)
  have h6' := h6
  simp only [List.nodup_cons, List.mem_append, not_or] at h6
  refine ⟨_, ?_, ⟨kvs, ko, wrs, wo, set_get hcell, h2.keep fun j hj => hne j fun e => h6.1.1 (e ▸ hj), ?_, h4.keep fun j hj => hne j fun e => h6.1.2 (e ▸ hj), ?_, rfl, h6', fun j hj => ⟨(h7 j hj).1, by simpa using (h7 j hj).2⟩⟩, hst, by simp⟩
  · rw [stOne_r, hcell, wrk_r, if_pos ⟨by simpa using ho, h1⟩, hv]
  · rw [hk]; exact h3.imp fun a b hab => hab.keep (fun j hj => hne j fun e => (h7 j hj).1 (by simp [e])) fun j hj => hj
  · rw [hw]; exact h5.imp fun a b hab => hab.keep (fun j hj => hne j fun e => (h7 j hj).1 (by simp [e])) fun j hj => hj

theorem r_start (h : Dev H id d own bs) : ∃ H', R (n + 1) n_blockDeviceStart [pt id] H = some (.tuple #[], H') ∧ Dev H' id d.start own bs ∧ Step own H own H' ∧ H'.length = H.length := by
  obtain ⟨ks, ws, h⟩ := h
  obtain ⟨H', e, hd, hs, hl⟩ := h.put (o := 2) (v := .bool false) (d' := d.start) rfl (by omega) rfl rfl rfl
  refine ⟨H', ?_, ⟨ks, ws, hd⟩, hs, hl⟩
  rw [R, run_blockDeviceStart rfl]
  unfold F_blockDeviceStart
  rw [bind_eq nilc_r, bind_eq fa_r, bind_eq (by simpa using e)]
  rfl

theorem r_arm (h : Dev H id d own bs) (a : Int) (m : Nat) : ∃ H', R (n + 1) n_blockDeviceArm [pt id, iv a, .int .u64 m] H = some (.tuple #[], H') ∧ Dev H' id (d.arm a m) own bs ∧ Step own H own H' ∧ H'.length = H.length := by
  obtain ⟨ks, ws, h⟩ := h
  unfold DevS.arm
  cases hd : d.down
  · obtain ⟨H1, e1, hd1, hs1, hl1⟩ := h.put (o := 3) (v := iv (max 0 a)) (d' := { d with fuse := max 0 a }) rfl (by omega) rfl rfl rfl
    obtain ⟨H2, e2, hd2, hs2, hl2⟩ := hd1.put (o := 4) (v := .int .u64 m) (d' := { d with fuse := max 0 a, mask := m }) rfl (by omega) rfl rfl rfl
    refine ⟨H2, ?_, ⟨ks, ws, by simpa [hd] using hd2⟩, hs1.trans hs2, by omega⟩
    have hm : (if a > 0 then a else 0) = max 0 a := by split <;> omega
    have e0 : ld1 (pa id 2) H = some (.bool false, H) := by rw [ldOne_r, h.cell, rdk_r]; simp [hd]
    rw [R, run_blockDeviceArm rfl]
    unfold F_blockDeviceArm
    rw [bind_eq nilc_r, bind_eq fa_r, Nat.zero_add, bind_eq e0, bind_eq not_r]
    refine Eq.trans (jn_nrm (vs := []) (H' := H2) ?_) rfl
    rw [cnd_b, if_pos (by rfl), bind_eq mx_r, hm, bind_eq nilc_r, bind_eq fa_r, Nat.zero_add, bind_eq e1, bind_eq nilc_r, bind_eq fa_r, Nat.zero_add, bind_eq e2]
    rfl
  · refine ⟨H, ?_, ⟨ks, ws, h⟩, .refl _ _, rfl⟩
    rw [R, run_blockDeviceArm rfl]
    simp [F_blockDeviceArm, ↓bind_andk, andk_some, ↓jn_outk, outk_nrm, outk_ext, outk_ret, ↓cnd_b, ret_r, nilc_r, fa_r, ldOne_r, ldA_r, stOne_r, stA_r, rdk_r, rdkA_r, wrk_r, wrkA_r, alc_r, lenS_r, lenT_r, cvi_r, pick_r, not_r, mx_r, mn_r, ixa_r, ixaA_r, bld_r, add_r, sub_r, mul_r, quo_r, rem_r, eql_r, neq_r, lss_r, leq_r, gtr_r, geq_r, eqb_r, neb_r, eqp_r, nep_r, ↓gv_r, gvn_r, ↓g_r, gn_r, h.cell, hd]

end

end Go.Proofs.Ytahocinoohdagaa.A
