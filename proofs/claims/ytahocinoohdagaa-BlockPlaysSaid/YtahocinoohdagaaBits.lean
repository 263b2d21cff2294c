/- Bits of bytes: turning some, twice; how many were turned. -/
import Derived.Test.YtahocinoohdagaaA25
namespace Go.Proofs.Ytahocinoohdagaa.A
set_option linter.unusedVariables false
set_option linter.unusedSimpArgs false

/-- A byte with one bit turned. -/
def tgl (b : UInt8) (k : Nat) : UInt8 := b ^^^ UInt8.ofNat (2 ^ k)
def bt (b : UInt8) (k : Nat) : Bool := b.toNat.testBit k

theorem pow_lt8 {k : Nat} (hk : k < 8) : 2 ^ k < 256 := by
  have : 2 ^ k < 2 ^ 8 := Nat.pow_lt_pow_right (by omega) hk
  simpa using this

theorem bt_tgl {b : UInt8} {k j : Nat} (hk : k < 8) : bt (tgl b k) j = (bt b j ^^ decide (k = j)) := by
  unfold bt tgl
  rw [UInt8.toNat_xor, Nat.testBit_xor]
  have : (UInt8.ofNat (2 ^ k)).toNat = 2 ^ k := by
    rw [UInt8.toNat_ofNat']; exact Nat.mod_eq_of_lt (pow_lt8 hk)
  rw [this, Nat.testBit_two_pow]

theorem byte_ext {a b : UInt8} (h : ∀ k, k < 8 → bt a k = bt b k) : a = b := by
  apply UInt8.toNat_inj.1
  apply Nat.eq_of_testBit_eq
  intro i
  by_cases hi : i < 8
  · exact h i hi
  · have ha : a.toNat < 2 ^ i := Nat.lt_of_lt_of_le a.toNat_lt (Nat.pow_le_pow_right (by omega) (by omega))
    have hb : b.toNat < 2 ^ i := Nat.lt_of_lt_of_le b.toNat_lt (Nat.pow_le_pow_right (by omega) (by omega))
    rw [Nat.testBit_lt_two_pow ha, Nat.testBit_lt_two_pow hb]

/-- A row's bits. -/
def lb (p : List UInt8) (m : Nat) : Bool := bt (p.getD (m / 8) 0) (m % 8)
def togL (p : List UInt8) (m : Nat) : List UInt8 := p.set (m / 8) (tgl (p.getD (m / 8) 0) (m % 8))

theorem togL_len {p : List UInt8} {m : Nat} : (togL p m).length = p.length := by simp [togL]

theorem lb_togL {p : List UInt8} {m j : Nat} (hm : m < 8 * p.length) : lb (togL p m) j = (lb p j ^^ decide (m = j)) := by
  unfold lb togL
  by_cases h : m / 8 = j / 8
  · have hl : j / 8 < p.length := by omega
    rw [h, List.getD_eq_getElem?_getD, List.getElem?_set_self hl, Option.getD_some, bt_tgl (Nat.mod_lt _ (by omega))]
    congr 1
    rw [decide_eq_decide]
    omega
  · rw [List.getD_eq_getElem?_getD, List.getElem?_set_ne h, ← List.getD_eq_getElem?_getD]
    have : ¬ m = j := fun e => h (by rw [e])
    simp [this]

theorem row_ext {p q : List UInt8} (hl : p.length = q.length) (h : ∀ m, m < 8 * p.length → lb p m = lb q m) : p = q := by
  apply List.ext_getElem hl
  intro i h1 h2
  apply byte_ext
  intro k hk
  have := h (8 * i + k) (by omega)
  unfold lb at this
  rw [show (8 * i + k) / 8 = i by omega, show (8 * i + k) % 8 = k by omega] at this
  simpa [List.getD_eq_getElem?_getD, h1, h2] using this

/-- Bits are turned. -/
def splD (t f : Nat) : Nat → Nat → List UInt8 → List UInt8
  | 0, _, p => p
  | d + 1, n, p => splD t f d (n + 1) (if t.testBit n = true ∧ f + n < 8 * p.length then togL p (f + n) else p)

theorem splD_len (t f : Nat) : ∀ (d n : Nat) (p : List UInt8), (splD t f d n p).length = p.length
  | 0, _, _ => rfl
  | d + 1, n, p => by
    rw [splD, splD_len]
    split
    · exact togL_len
    · rfl

theorem lb_splD (t f : Nat) : ∀ (d n : Nat) (p : List UInt8) (j : Nat), lb (splD t f d n p) j = (lb p j ^^ decide (f + n ≤ j ∧ j < f + n + d ∧ t.testBit (j - f) = true ∧ j < 8 * p.length))
  | 0, n, p, j => by
    have : ¬ (f + n ≤ j ∧ j < f + n + 0 ∧ t.testBit (j - f) = true ∧ j < 8 * p.length) := by omega
    rw [splD, decide_eq_false this, Bool.xor_false]
  | d + 1, n, p, j => by
    rw [splD, lb_splD]
    have hlen : (if t.testBit n = true ∧ f + n < 8 * p.length then togL p (f + n) else p).length = p.length := by
      split
      · exact togL_len
      · rfl
    rw [hlen]
    by_cases hc : t.testBit n = true ∧ f + n < 8 * p.length
    · rw [if_pos hc, lb_togL hc.2]
      by_cases hj : f + n = j
      · subst hj
        have h1 : ¬ (f + (n + 1) ≤ f + n ∧ f + n < f + (n + 1) + d ∧ t.testBit (f + n - f) = true ∧ f + n < 8 * p.length) := by omega
        have h2 : (f + n ≤ f + n ∧ f + n < f + n + (d + 1) ∧ t.testBit (f + n - f) = true ∧ f + n < 8 * p.length) := by
          refine ⟨Nat.le_refl _, by omega, ?_, hc.2⟩
          rw [show f + n - f = n by omega]; exact hc.1
        rw [decide_eq_false h1, decide_eq_true h2, decide_eq_true rfl, Bool.xor_false]
      · have h1 : (f + (n + 1) ≤ j ∧ j < f + (n + 1) + d ∧ t.testBit (j - f) = true ∧ j < 8 * p.length) ↔ (f + n ≤ j ∧ j < f + n + (d + 1) ∧ t.testBit (j - f) = true ∧ j < 8 * p.length) := by
          constructor <;> (rintro ⟨a, b, c, e⟩; exact ⟨by omega, by omega, c, e⟩)
        simp only [hj, decide_false, Bool.xor_false, h1]
    · rw [if_neg hc]
      congr 1
      rw [decide_eq_decide]
      constructor
      · rintro ⟨a, b, c, e⟩; exact ⟨by omega, by omega, c, e⟩
      · rintro ⟨a, b, c, e⟩
        refine ⟨?_, by omega, c, e⟩
        by_cases hj : f + n = j
        · exfalso; apply hc
          subst hj
          rw [show f + n - f = n by omega] at c
          exact ⟨c, e⟩
        · omega

theorem splD_twice (t f d n : Nat) (p : List UInt8) : splD t f d n (splD t f d n p) = p := by
  apply row_ext (by simp [splD_len])
  intro m _
  rw [lb_splD, lb_splD, splD_len]
  generalize decide (f + n ≤ m ∧ m < f + n + d ∧ t.testBit (m - f) = true ∧ m < 8 * p.length) = x
  cases lb p m <;> cases x <;> rfl

/-- Is a bit turned at all? -/
def anyD (t f L : Nat) : Nat → Nat → Bool
  | 0, _ => false
  | d + 1, n => decide (t.testBit n = true ∧ f + n < 8 * L) || anyD t f L d (n + 1)

/-- How many there are below n. -/
def cnt (P : Nat → Bool) : Nat → Nat
  | 0 => 0
  | n + 1 => cnt P n + if P n then 1 else 0

theorem cnt_le (P : Nat → Bool) : ∀ n, cnt P n ≤ n
  | 0 => Nat.le_refl _
  | n + 1 => by
    have := cnt_le P n
    unfold cnt
    split <;> omega

theorem cnt_congr {P Q : Nat → Bool} : ∀ {n : Nat}, (∀ m, m < n → P m = Q m) → cnt P n = cnt Q n
  | 0, _ => rfl
  | n + 1, h => by
    unfold cnt
    rw [h n (by omega), cnt_congr fun m hm => h m (by omega)]

theorem cnt_shift {Q : Nat → Bool} (f : Nat) : ∀ n, cnt (fun m => decide (f ≤ m) && Q (m - f)) (f + n) = cnt Q n
  | 0 => by
    rw [Nat.add_zero]
    suffices ∀ k, k ≤ f → cnt (fun m => decide (f ≤ m) && Q (m - f)) k = 0 by exact this f (Nat.le_refl _)
    intro k
    induction k with
    | zero => intro _; rfl
    | succ k ih =>
      intro hk
      unfold cnt
      have : ¬ f ≤ k := by omega
      rw [ih (by omega)]
      simp [this]
  | n + 1 => by
    rw [← Nat.add_assoc]
    unfold cnt
    rw [cnt_shift f n]
    simp

theorem cnt_min {T : Nat → Bool} (A : Nat) : ∀ B, cnt (fun n => decide (n < A) && T n) B = cnt T (min A B)
  | 0 => by simp [cnt]
  | B + 1 => by
    unfold cnt
    rw [cnt_min A B]
    by_cases h : B < A
    · rw [Nat.min_eq_right (by omega), Nat.min_eq_right (by omega)]
      simp [h, cnt]
    · rw [Nat.min_eq_left (by omega), Nat.min_eq_left (by omega)]
      simp only [h, decide_false, Bool.false_and, Bool.false_eq_true, if_false, Nat.add_zero]
      cases A <;> rfl

/-- As many bits differ as are turned. -/
theorem spl_cnt {t f : Nat} {p : List UInt8} (hf : f ≤ 8 * p.length) : cnt (fun m => lb p m != lb (splD t f 32 0 p) m) (8 * p.length) = cnt (fun n => t.testBit n && decide (f + n < 8 * p.length)) 32 := by
  have h1 : cnt (fun m => lb p m != lb (splD t f 32 0 p) m) (8 * p.length) = cnt (fun m => decide (f ≤ m) && (decide (m - f < 32) && t.testBit (m - f))) (8 * p.length) := by
    apply cnt_congr
    intro m hm
    rw [lb_splD]
    have : (f + 0 ≤ m ∧ m < f + 0 + 32 ∧ t.testBit (m - f) = true ∧ m < 8 * p.length) ↔ (f ≤ m ∧ m - f < 32 ∧ t.testBit (m - f) = true) := by
      constructor
      · rintro ⟨a, b, c, e⟩; exact ⟨by omega, by omega, c⟩
      · rintro ⟨a, b, c⟩; exact ⟨by omega, by omega, c, hm⟩
    have e : decide (f + 0 ≤ m ∧ m < f + 0 + 32 ∧ t.testBit (m - f) = true ∧ m < 8 * p.length) = decide (f ≤ m ∧ m - f < 32 ∧ t.testBit (m - f) = true) := decide_eq_decide.2 this
    rw [e]
    cases lb p m <;> simp [Bool.decide_and]
  obtain ⟨L, hL⟩ : ∃ L, 8 * p.length = f + L := ⟨8 * p.length - f, by omega⟩
  rw [h1, hL, cnt_shift (Q := fun n => decide (n < 32) && t.testBit n) f L, cnt_min 32 L]
  have h2 : cnt (fun n => t.testBit n && decide (f + n < f + L)) 32 = cnt (fun n => decide (n < L) && t.testBit n) 32 := by
    apply cnt_congr
    intro n _
    rw [Bool.and_comm]
    congr 1
    rw [decide_eq_decide]; omega
  rw [h2, cnt_min L 32, Nat.min_comm]

theorem anyD_cnt {t f L : Nat} : ∀ (d n : Nat), (decide (0 < cnt (fun n => t.testBit n && decide (f + n < 8 * L)) n) || anyD t f L d n) = decide (0 < cnt (fun n => t.testBit n && decide (f + n < 8 * L)) (n + d))
  | 0, n => by simp [anyD]
  | d + 1, n => by
    have := anyD_cnt (t := t) (f := f) (L := L) d (n + 1)
    rw [show n + (d + 1) = n + 1 + d by omega, ← this, anyD, ← Bool.or_assoc]
    congr 1
    conv => rhs; unfold cnt
    by_cases h : t.testBit n = true ∧ f + n < 8 * L
    · simp [h.1, h.2]
    · have h2 : (t.testBit n && decide (f + n < 8 * L)) = false := by
        rw [Bool.and_eq_false_iff, decide_eq_false_iff_not]
        by_cases h3 : t.testBit n = true
        · exact .inr fun h4 => h ⟨h3, h4⟩
        · exact .inl (by simpa using h3)
      simp [h, h2]

/-! the machine's operations on bits -/

theorem ofInt_nat (w m : Nat) : BitVec.ofInt w (m : Int) = BitVec.ofNat w m := by
  apply BitVec.eq_of_toNat_eq
  simp [BitVec.toNat_ofInt]

theorem fdiv_nat (m n : Nat) : (m : Int).fdiv (2 ^ n) = ((m / 2 ^ n : Nat) : Int) := by
  have h : (0 : Int) ≤ 2 ^ n := Int.pow_nonneg (by omega)
  rw [Int.fdiv_eq_ediv_of_nonneg _ h]
  rw [Int.natCast_ediv, Int.natCast_pow]
  rfl

theorem testBit_mod (t n : Nat) : t / 2 ^ n % 2 = if t.testBit n then 1 else 0 := by
  rw [Nat.testBit_eq_decide_div_mod_eq]
  by_cases h : t / 2 ^ n % 2 = 1
  · simp [h]
  · simp [h]; omega

/-- A bit of a uint32. -/
theorem bit_u32 {t n : Nat} (ht : t < 4294967296) (hn : n < 32) : IntKind.u32.wrap ((BitVec.ofInt IntKind.u32.bits ((t : Int).fdiv (2 ^ (min (n : Int).toNat IntKind.u32.bits))) &&& BitVec.ofInt IntKind.u32.bits 1).toNat : Int) = if t.testBit n then 1 else 0 := by
  have hb : IntKind.u32.bits = 32 := rfl
  rw [hb, Int.toNat_natCast, Nat.min_eq_left (by omega), fdiv_nat, ofInt_nat, show (1 : Int) = ((1 : Nat) : Int) from rfl, ofInt_nat, BitVec.toNat_and, BitVec.toNat_ofNat, BitVec.toNat_ofNat]
  have h1 : t / 2 ^ n < 2 ^ 32 := Nat.lt_of_le_of_lt (Nat.div_le_self _ _) (by simpa using ht)
  rw [Nat.mod_eq_of_lt h1, show 1 % 2 ^ 32 = 1 from rfl, Nat.and_one_is_mod, testBit_mod, wu32]
  split <;> rfl

/-- A bit of a byte xor another. -/
theorem bit_xor {a b : UInt8} {k : Nat} (hk : k < 8) : IntKind.u8.wrap ((BitVec.ofInt IntKind.u8.bits ((IntKind.u8.wrap ((BitVec.ofInt IntKind.u8.bits (a.toNat : Int) ^^^ BitVec.ofInt IntKind.u8.bits (b.toNat : Int)).toNat : Int)).fdiv (2 ^ (min (k : Int).toNat IntKind.u8.bits))) &&& BitVec.ofInt IntKind.u8.bits 1).toNat : Int) = if bt a k != bt b k then 1 else 0 := by
  have hb : IntKind.u8.bits = 8 := rfl
  have h8 : (2 : Nat) ^ 8 = 256 := rfl
  have ha := a.toNat_lt
  have hb2 := b.toNat_lt
  have hx : a.toNat ^^^ b.toNat < 2 ^ 8 := Nat.xor_lt_two_pow ha hb2
  rw [hb, Int.toNat_natCast, Nat.min_eq_left (by omega), ofInt_nat, ofInt_nat, BitVec.toNat_xor, BitVec.toNat_ofNat, BitVec.toNat_ofNat, Nat.mod_eq_of_lt ha, Nat.mod_eq_of_lt hb2, wu8 ((a.toNat ^^^ b.toNat : Nat) : Int)]
  have e : ((a.toNat ^^^ b.toNat : Nat) : Int) % 256 = ((a.toNat ^^^ b.toNat : Nat) : Int) := by omega
  rw [e, fdiv_nat, ofInt_nat, show (1 : Int) = ((1 : Nat) : Int) from rfl, ofInt_nat, BitVec.toNat_and, BitVec.toNat_ofNat, BitVec.toNat_ofNat]
  have h1 : (a.toNat ^^^ b.toNat) / 2 ^ k < 2 ^ 8 := Nat.lt_of_le_of_lt (Nat.div_le_self _ _) hx
  rw [Nat.mod_eq_of_lt h1, show 1 % 2 ^ 8 = 1 from rfl, Nat.and_one_is_mod, testBit_mod, Nat.testBit_xor, wu8]
  unfold bt
  cases a.toNat.testBit k <;> cases b.toNat.testBit k <;> rfl

/-- A byte with one bit turned, as the machine turns it. -/
theorem xor_u8 {b : UInt8} {k : Nat} (hk : k < 8) : IntKind.u8.wrap ((BitVec.ofInt IntKind.u8.bits (b.toNat : Int) ^^^ BitVec.ofInt IntKind.u8.bits (IntKind.u8.wrap (1 * 2 ^ (min (k : Int).toNat IntKind.u8.bits)))).toNat : Int) = ((tgl b k).toNat : Int) := by
  have hb : IntKind.u8.bits = 8 := rfl
  have h8 : (2 : Nat) ^ 8 = 256 := rfl
  have ha := b.toNat_lt
  have hp := pow_lt8 hk
  have hpi : (2 : Int) ^ k = ((2 ^ k : Nat) : Int) := by rw [Int.natCast_pow]; rfl
  rw [hb, Int.toNat_natCast, Nat.min_eq_left (by omega), Int.one_mul, hpi, wu8 ((2 ^ k : Nat) : Int)]
  have e0 : ∀ w : Nat, w < 256 → (w : Int) % 256 = w := fun w hw => by omega
  have e := e0 _ hp
  rw [e, ofInt_nat, ofInt_nat, BitVec.toNat_xor, BitVec.toNat_ofNat, BitVec.toNat_ofNat, Nat.mod_eq_of_lt ha, Nat.mod_eq_of_lt (by omega), wu8]
  have hx : b.toNat ^^^ 2 ^ k < 2 ^ 8 := Nat.xor_lt_two_pow ha (by omega)
  unfold tgl
  rw [UInt8.toNat_xor, UInt8.toNat_ofNat', Nat.mod_eq_of_lt (show 2 ^ k < 2 ^ 8 by omega)]
  omega

end Go.Proofs.Ytahocinoohdagaa.A
