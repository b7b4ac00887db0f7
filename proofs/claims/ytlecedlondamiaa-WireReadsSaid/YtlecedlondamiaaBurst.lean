/-
  Plain: bits that are turned within 32 side by side make another sum.
-/
import Derived.Test.YtlecedlondamiaaBit
namespace Go.Proofs.Ytlecedlondamiaa
theorem bit1_xor (a b : Nat) : bit1 (a ^^^ b) = bit1 a ^^^ bit1 b := by
  unfold bit1
  have h2 : (a ^^^ b) / 2 = a / 2 ^^^ b / 2 := Nat.xor_div_two
  have hm : (a ^^^ b) % 2 = (a % 2) ^^^ (b % 2) := Nat.xor_mod_two_pow (n := 1)
  rw [h2]
  by_cases ha : a % 2 = 1 <;> by_cases hb : b % 2 = 1
  · rw [ha, hb] at hm
    rw [if_neg (by rw [hm]; decide), if_pos ha, if_pos hb]
    rw [Nat.xor_assoc, ← Nat.xor_assoc 3988292384, Nat.xor_comm 3988292384 (b / 2), Nat.xor_assoc, Nat.xor_self, Nat.xor_zero]
  · rw [ha, show b % 2 = 0 by omega] at hm
    rw [if_pos (by rw [hm]; decide), if_pos ha, if_neg hb, Nat.xor_assoc, Nat.xor_comm (b / 2), ← Nat.xor_assoc]
  · rw [hb, show a % 2 = 0 by omega] at hm
    rw [if_pos (by rw [hm]; decide), if_neg ha, if_pos hb, Nat.xor_assoc]
  · rw [show a % 2 = 0 by omega, show b % 2 = 0 by omega] at hm
    rw [if_neg (by rw [hm]; decide), if_neg ha, if_neg hb]
theorem bitN_xor (k a b : Nat) : bitN k (a ^^^ b) = bitN k a ^^^ bitN k b := by
  induction k with
  | zero => rfl
  | succ k ih => simp only [bitN, ih, bit1_xor]
theorem bitN_zero (k : Nat) : bitN k 0 = 0 := by
  induction k with
  | zero => rfl
  | succ k ih => simp only [bitN, ih]; decide
theorem bitN_bit1 (k v : Nat) : bitN k (bit1 v) = bit1 (bitN k v) := by
  induction k with
  | zero => rfl
  | succ k ih => simp only [bitN, ih]
theorem bit1_dbl (q : Nat) : bit1 (2 * q) = q := by unfold bit1; rw [if_neg (by omega)]; omega
theorem bitN_shift (k q : Nat) : bitN k (2 ^ k * q) = q := by
  induction k generalizing q with
  | zero => simp [bitN]
  | succ k ih =>
    have : 2 ^ (k + 1) * q = 2 * (2 ^ k * q) := by rw [Nat.pow_succ]; rw [Nat.mul_comm (2 ^ k) 2, Nat.mul_assoc]
    rw [bitN, this, ← bitN_bit1, bit1_dbl, ih]
theorem bit1_inj0 {v : Nat} (h : v < 4294967296) (e : bit1 v = 0) : v = 0 := by
  unfold bit1 at e
  split at e
  · have h2 : (v / 2 ^^^ 3988292384) ^^^ 3988292384 = v / 2 := by rw [Nat.xor_assoc, Nat.xor_self, Nat.xor_zero]
    rw [e, Nat.zero_xor] at h2
    omega
  · omega
theorem bitN_inj0 (k : Nat) {v : Nat} (h : v < 4294967296) (e : bitN k v = 0) : v = 0 := by
  induction k with
  | zero => exact e
  | succ k ih => exact ih (bit1_inj0 (bitN_lt k h) e)

/-- The state behind k bits. -/
def st (f : Nat → Bool) : Nat → Nat → Nat
  | 0, v => v
  | k + 1, v => bit1 (st f k v ^^^ (f k).toNat)
theorem st_congr {f g : Nat → Bool} {k : Nat} (h : ∀ j, j < k → f j = g j) (v : Nat) : st f k v = st g k v := by
  induction k with
  | zero => rfl
  | succ k ih => simp only [st]; rw [ih (fun j hj => h j (by omega)), h k (by omega)]
theorem st_add (f : Nat → Bool) (a k v : Nat) : st f (a + k) v = st (fun j => f (a + j)) k (st f a v) := by
  induction k with
  | zero => rfl
  | succ k ih =>
    show bit1 (st f (a + k) v ^^^ (f (a + k)).toNat) = _
    rw [ih]
    rfl
theorem st_xor (f g : Nat → Bool) (k u v : Nat) : st f k u ^^^ st g k v = st (fun j => f j ^^ g j) k (u ^^^ v) := by
  induction k with
  | zero => rfl
  | succ k ih =>
    simp only [st]
    rw [← ih, ← bit1_xor]
    congr 1
    have : (f k ^^ g k).toNat = (f k).toNat ^^^ (g k).toNat := by cases f k <;> cases g k <;> rfl
    rw [this, Nat.xor_assoc, Nat.xor_assoc]
    congr 1
    rw [← Nat.xor_assoc, Nat.xor_comm (f k).toNat, Nat.xor_assoc]
theorem mod_step (x k : Nat) : x % 2 ^ (k + 1) = (x % 2 ^ k) ^^^ (2 ^ k * (x.testBit k).toNat) := by
  apply Nat.eq_of_testBit_eq
  intro i
  rw [Nat.testBit_xor, Nat.testBit_mod_two_pow, Nat.testBit_mod_two_pow]
  have h2 : (2 ^ k * (x.testBit k).toNat).testBit i = (decide (i = k) && x.testBit k) := by
    cases hb : x.testBit k
    · simp
    · simp only [Bool.toNat_true, Nat.mul_one, Nat.testBit_two_pow, Bool.and_true]
      by_cases e : k = i
      · subst e; simp
      · have : ¬ i = k := fun h => e h.symm
        simp [e, this]
  rw [h2]
  by_cases e : i = k
  · subst e; simp
  · by_cases hlt : i < k
    · simp [hlt, e, show i < k + 1 by omega]
    · simp [hlt, e, show ¬ i < k + 1 by omega]
theorem st_num (x k v : Nat) : st x.testBit k v = bitN k (v ^^^ (x % 2 ^ k)) := by
  induction k with
  | zero => simp [st, bitN, Nat.mod_one]
  | succ k ih =>
    simp only [st, bitN]
    rw [ih, mod_step, ← Nat.xor_assoc, bitN_xor k (v ^^^ (x % 2 ^ k)), bitN_shift]
theorem sumStep_bits (v : Nat) (x : UInt8) : sumStep v x = bitN 8 (v ^^^ x.toNat) := by
  have hv : v = 2 ^ 8 * (v / 256) ^^^ (v % 256) := by
    have h := Nat.two_pow_add_eq_or_of_lt (i := 8) (b := v % 256) (by omega) (v / 256)
    have h2 : 2 ^ 8 * (v / 256) ^^^ (v % 256) = 2 ^ 8 * (v / 256) ||| (v % 256) := by
      apply Nat.eq_of_testBit_eq
      intro i
      rw [Nat.testBit_xor, Nat.testBit_or]
      by_cases hi : i < 8
      · rw [Nat.testBit_two_pow_mul]
        simp [show ¬ 8 ≤ i by omega]
      · have : (v % 256).testBit i = false := Nat.testBit_lt_two_pow (Nat.lt_of_lt_of_le (by omega : v % 256 < 2 ^ 8) (Nat.pow_le_pow_right (by decide) (by omega)))
        simp [this]
    rw [h2, ← h]
    omega
  unfold sumStep tab
  conv => rhs; rw [hv, Nat.xor_assoc, bitN_xor, bitN_shift]
def bitAt (l : List UInt8) (p : Nat) : Bool := (l.getD (p / 8) 0).toNat.testBit (p % 8)
theorem crc0_bits (l : List UInt8) (k : Nat) (h : k ≤ l.length) : crc0 (l.take k) = st (bitAt l) (8 * k) 4294967295 := by
  induction k with
  | zero => rfl
  | succ k ih =>
    rw [crc0_snoc l k (by omega), ih (by omega), sumStep_bits, Nat.mul_add, Nat.mul_one, st_add]
    have hb : ∀ j, j < 8 → bitAt l (8 * k + j) = (l[k]).toNat.testBit j := fun j hj => by
      unfold bitAt
      rw [show (8 * k + j) / 8 = k by omega, show (8 * k + j) % 8 = j by omega, List.getD_eq_getElem?_getD, List.getElem?_eq_getElem (by omega)]
      rfl
    rw [st_congr hb, st_num, Nat.mod_eq_of_lt (show (l[k]).toNat < 2 ^ 8 from (l[k]).toNat_lt)]
theorem flip_bit (d : List UInt8) (m p : Nat) (hm : m < 8 * d.length) : bitAt (d.set (m / 8) (d.getD (m / 8) 0 ^^^ UInt8.ofNat (2 ^ (m % 8)))) p = (bitAt d p ^^ decide (p = m)) := by
  unfold bitAt
  have hq : m / 8 < d.length := by omega
  have h2 : 2 ^ (m % 8) < 2 ^ 8 := Nat.pow_lt_pow_right (by decide) (by omega)
  by_cases e : p / 8 = m / 8
  · rw [e]
    have e1 : (d.set (m / 8) (d.getD (m / 8) 0 ^^^ UInt8.ofNat (2 ^ (m % 8)))).getD (m / 8) 0 = d.getD (m / 8) 0 ^^^ UInt8.ofNat (2 ^ (m % 8)) := by
      rw [List.getD_eq_getElem?_getD, List.getElem?_set_self hq]; rfl
    rw [e1, UInt8.toNat_xor, Nat.testBit_xor, UInt8.toNat_ofNat', Nat.mod_eq_of_lt h2, Nat.testBit_two_pow]
    congr 1
    apply decide_eq_decide.2
    omega
  · have e1 : (d.set (m / 8) (d.getD (m / 8) 0 ^^^ UInt8.ofNat (2 ^ (m % 8)))).getD (p / 8) 0 = d.getD (p / 8) 0 := by
      rw [List.getD_eq_getElem?_getD, List.getElem?_set_ne (fun h => e h.symm), ← List.getD_eq_getElem?_getD]
    have hne : ¬ p = m := fun h => e (by rw [h])
    rw [e1]
    simp [hne]
theorem low_step {x i : Nat} (h : x.testBit i = false) : x % 2 ^ (i + 1) = x % 2 ^ i := by rw [mod_step, h]; simp
theorem low_one {x i : Nat} (h : x.testBit i = true) : ¬ x % 2 ^ (i + 1) = 0 := fun e => by
  have : (x % 2 ^ (i + 1)).testBit i = true := by rw [Nat.testBit_mod_two_pow, h]; simp
  rw [e] at this
  simp at this
/-- Two rows of bytes that part within 32 bits, by the bits of a number, have other sums. -/
theorem burst {b c : List UInt8} {first bits : Nat} (hl : c.length = b.length) (hf : first ≤ 8 * b.length) (hb : bits < 4294967296)
    (hd : ∀ p, p < 8 * b.length → bitAt c p = (bitAt b p ^^ (decide (first ≤ p) && bits.testBit (p - first)))) (he : crc c = crc b) : bits % 2 ^ (8 * b.length - first) = 0 := by
  have e0 : crc0 c = crc0 b := by have := crc0_lt c; have := crc0_lt b; unfold crc at he; omega
  have h1 := crc0_bits c c.length (Nat.le_refl _)
  have h2 := crc0_bits b b.length (Nat.le_refl _)
  rw [List.take_length] at h1 h2
  rw [h1, h2, hl, st_congr hd] at e0
  have hx := st_xor (fun p => bitAt b p ^^ (decide (first ≤ p) && bits.testBit (p - first))) (bitAt b) (8 * b.length) 4294967295 4294967295
  rw [e0, Nat.xor_self, Nat.xor_self] at hx
  have hc : st (fun j => (bitAt b j ^^ (decide (first ≤ j) && bits.testBit (j - first))) ^^ bitAt b j) (8 * b.length) 0 = st (fun j => decide (first ≤ j) && bits.testBit (j - first)) (first + (8 * b.length - first)) 0 := by
    rw [Nat.add_sub_cancel' hf]
    exact st_congr (fun j _ => by cases bitAt b j <;> simp) _
  rw [hc, st_add] at hx
  have hz : st (fun j => decide (first ≤ j) && bits.testBit (j - first)) first 0 = 0 := by
    rw [st_congr (g := fun _ => false) (fun j hj => by simp [show ¬ first ≤ j by omega])]
    have : ∀ k, st (fun _ => false) k 0 = 0 := by
      intro k
      induction k with
      | zero => rfl
      | succ k ih => simp only [st]; rw [ih]; decide
    exact this first
  have hcg : st (fun j => decide (first ≤ first + j) && bits.testBit (first + j - first)) (8 * b.length - first) 0 = st bits.testBit (8 * b.length - first) 0 :=
    st_congr (fun j _ => by simp [show first ≤ first + j by omega, show first + j - first = j by omega]) _
  rw [hz, hcg, st_num, Nat.zero_xor] at hx
  exact bitN_inj0 _ (Nat.lt_of_le_of_lt (Nat.mod_le _ _) hb) hx.symm
end Go.Proofs.Ytlecedlondamiaa
