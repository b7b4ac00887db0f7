/-
  Plain facts on numbers: the sum's table and steps. No program in sight.
-/
import Derived.Test.YtlecedlondamiaaMem
import Derived.Test.YtlecedlondamiaaTab
namespace Go.Proofs.Ytlecedlondamiaa
def sumStep (v : Nat) (x : UInt8) : Nat := (v / 256) ^^^ tab ((v % 256) ^^^ x.toNat)
def crc0 (l : List UInt8) : Nat := l.foldl sumStep 4294967295
def crc (l : List UInt8) : Nat := 4294967295 - crc0 l

theorem xor_lt32 {a b : Nat} (ha : a < 4294967296) (hb : b < 4294967296) : a ^^^ b < 4294967296 := Nat.xor_lt_two_pow (n := 32) ha hb
theorem xor_lt8 {a b : Nat} (ha : a < 256) (hb : b < 256) : a ^^^ b < 256 := Nat.xor_lt_two_pow (n := 8) ha hb
theorem bits_xor_nat (k : IntKind) (j : Nat) (hj : j ≤ k.bits) (hk : ∀ n : Int, 0 ≤ n → n < 2 ^ j → k.wrap n = n) (a b : Nat) (ha : a < 2 ^ j) (hb : b < 2 ^ j) : bits .xor k a b = ((a ^^^ b : Nat) : Int) := by
  have hp : 2 ^ j ≤ 2 ^ k.bits := Nat.pow_le_pow_right (by decide) hj
  have ha' : a % 2 ^ k.bits = a := Nat.mod_eq_of_lt (Nat.lt_of_lt_of_le ha hp)
  have hb' : b % 2 ^ k.bits = b := Nat.mod_eq_of_lt (Nat.lt_of_lt_of_le hb hp)
  simp only [bits, BitVec.ofInt_natCast, BitVec.toNat_xor, BitVec.toNat_ofNat, ha', hb']
  exact hk _ (Int.natCast_nonneg _) (by exact_mod_cast Nat.xor_lt_two_pow ha hb)
theorem xor_u8 {a b : Nat} (ha : a < 256) (hb : b < 256) : bits .xor .u8 a b = ((a ^^^ b : Nat) : Int) :=
  bits_xor_nat .u8 8 (by decide) wraps_u8 a b ha hb
theorem xor_u32 {a b : Nat} (ha : a < 4294967296) (hb : b < 4294967296) : bits .xor .u32 a b = ((a ^^^ b : Nat) : Int) :=
  bits_xor_nat .u32 32 (by decide) (fun n h0 h1 => by rw [IntKind.wrap_u32]; omega) a b ha hb
theorem and1_u32 {a : Nat} (ha : a < 4294967296) : bits .and .u32 a 1 = ((a % 2 : Nat) : Int) := by
  have h := (bits_nat .u32 32 (by decide) (fun n h0 h1 => by rw [IntKind.wrap_u32]; omega) a 1 ha (by decide)).1
  rw [Nat.and_one_is_mod] at h
  exact h
theorem bit1_lt {v : Nat} (h : v < 4294967296) : bit1 v < 4294967296 := by
  unfold bit1
  split
  · exact xor_lt32 (by omega) (by decide)
  · omega
theorem bitN_lt (k : Nat) {v : Nat} (h : v < 4294967296) : bitN k v < 4294967296 := by
  induction k with
  | zero => exact h
  | succ k ih => exact bit1_lt ih
theorem tab_lt {i : Nat} (h : i < 256) : tab i < 4294967296 := bitN_lt 8 (by omega)
theorem sumStep_lt {v : Nat} (h : v < 4294967296) (x : UInt8) : sumStep v x < 4294967296 :=
  xor_lt32 (by omega) (tab_lt (xor_lt8 (by omega) (by have := x.toNat_lt; omega)))
theorem foldl_sumStep_lt (l : List UInt8) : ∀ {v : Nat}, v < 4294967296 → l.foldl sumStep v < 4294967296 := by
  induction l with
  | nil => intro v h; exact h
  | cons x l ih => intro v h; exact ih (sumStep_lt h x)
theorem crc0_lt (l : List UInt8) : crc0 l < 4294967296 := foldl_sumStep_lt l (by decide)
theorem crc_lt (l : List UInt8) : crc l < 4294967296 := by unfold crc; omega
theorem crc0_snoc (l : List UInt8) (k : Nat) (h : k < l.length) : crc0 (l.take (k + 1)) = sumStep (crc0 (l.take k)) l[k] := by
  unfold crc0
  rw [List.take_succ_eq_append_getElem h, List.foldl_append]
  rfl
theorem bit1_odd {n : Nat} (hn : n < 4294967296) (ho : n % 2 = 1) : bits .xor .u32 ((n : Int) / 2) 3988292384 = (bit1 n : Int) := by
  have h := xor_u32 (a := n / 2) (b := 3988292384) (by omega) (by decide)
  unfold bit1
  rw [if_pos ho, ← h]
  rfl
theorem bit1_even {n : Nat} (ho : ¬ n % 2 = 1) : (n : Int) / 2 = (bit1 n : Int) := by
  unfold bit1
  rw [if_neg ho]
  omega
theorem xor_low {n : Nat} (x : UInt8) : bits .xor .u8 ((n : Int) % 256) (x.toNat : Int) = (((n % 256) ^^^ x.toNat : Nat) : Int) :=
  xor_u8 (a := n % 256) (b := x.toNat) (by omega) (by have := x.toNat_lt; omega)
theorem xor_step {n t : Nat} (hn : n < 4294967296) (ht : t < 4294967296) : bits .xor .u32 ((n : Int) / 256) (t : Int) = (((n / 256) ^^^ t : Nat) : Int) :=
  xor_u32 (a := n / 256) (b := t) (by omega) ht
theorem not_u32 {n : Nat} (hn : n < 4294967296) : bits .xor .u32 IntKind.u32.max n = ((4294967295 - n : Nat) : Int) := by
  have h : IntKind.u32.max = ((4294967295 : Nat) : Int) := by decide
  rw [h, xor_u32 (by decide) hn]
  congr 1
  have e : (4294967295 : Nat) = 2 ^ 32 - 1 := by decide
  apply Nat.eq_of_testBit_eq
  intro i
  have h2 : 4294967295 - n = 2 ^ 32 - (n + 1) := by omega
  rw [h2, Nat.testBit_two_pow_sub_succ (by omega), e, Nat.testBit_xor, Nat.testBit_two_pow_sub_one]
  by_cases hi : i < 32
  · simp [hi]
  · have hz : n.testBit i = false := Nat.testBit_lt_two_pow (Nat.lt_of_lt_of_le hn (Nat.pow_le_pow_right (by decide) (Nat.le_of_not_lt hi) : 2 ^ 32 ≤ 2 ^ i))
    simp [hi, hz]
end Go.Proofs.Ytlecedlondamiaa
