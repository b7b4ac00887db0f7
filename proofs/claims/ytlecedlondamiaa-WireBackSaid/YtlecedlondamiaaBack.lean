/-
  Plain: what is put is read as it was.
-/
import Derived.Test.YtlecedlondamiaaRMod
import Derived.Test.YtlecedlondamiaaWPut2
namespace Go.Proofs.Ytlecedlondamiaa
theorem numV_putN (k v : Nat) : numV (putN k v) = v % 256 ^ k := by
  induction k generalizing v with
  | zero => simp [putN, numV, Nat.mod_one]
  | succ k ih => rw [putN, numV, toUInt8_nat, ih, Nat.pow_succ, Nat.mul_comm (256 ^ k), Nat.mod_mul]
theorem RS.take_put (l r : List UInt8) : RS.take ⟨l ++ r, 0⟩ l.length = (some l, ⟨r, 0⟩) := by
  simp [RS.take]
theorem RS.num_put (k v : Nat) (r : List UInt8) : RS.num ⟨putN k v ++ r, 0⟩ k = (v % 256 ^ k, ⟨r, 0⟩) := by
  have h := RS.take_put (putN k v) r
  rw [putN_length] at h
  simp [RS.num, h, numV_putN]
theorem hiN_put : ∀ (k v : Nat) (r : List UInt8), v < 128 ^ k → hiN k (putVar v ++ r) + 1 = (putVar v).length
  | 0, v, r, h => by
    obtain rfl : v = 0 := by simpa using h
    rw [putVar_lo (by decide)]
    rfl
  | k + 1, v, r, h => by
    by_cases hv : v < 128
    · rw [putVar_lo hv, List.singleton_append, hiN, if_neg (by rw [toNat_u8 (by omega)]; omega)]
      rfl
    · have h2 : v / 128 < 128 ^ k := Nat.div_lt_of_lt_mul (by rw [Nat.mul_comm, ← Nat.pow_succ]; exact h)
      rw [putVar_hi hv, List.cons_append, hiN, if_pos (by rw [toNat_u8 (by omega)]; omega), List.length_cons, hiN_put k (v / 128) r h2]
theorem putVar_pos (v : Nat) : 0 < (putVar v).length := by
  by_cases hv : v < 128
  · rw [putVar_lo hv]; simp
  · rw [putVar_hi hv]; simp
theorem putVar_len : ∀ (k v : Nat), v < 128 ^ (k + 1) → (putVar v).length ≤ k + 1
  | 0, v, h => by
    rw [putVar_lo (by simpa using h)]
    simp
  | k + 1, v, h => by
    by_cases hv : v < 128
    · rw [putVar_lo hv]; simp
    · have h2 : v / 128 < 128 ^ (k + 1) := Nat.div_lt_of_lt_mul (by rw [Nat.mul_comm, ← Nat.pow_succ]; exact h)
      have := putVar_len k (v / 128) h2
      rw [putVar_hi hv, List.length_cons]
      omega
theorem sevV_put : ∀ (k v : Nat) (r : List UInt8), (putVar v).length = k + 1 → sevV k (putVar v ++ r) = v
  | 0, v, r, h => by
    by_cases hv : v < 128
    · rw [putVar_lo hv, List.singleton_append, sevV, toNat_u8 (by omega)]
      omega
    · have := putVar_pos (v / 128)
      rw [putVar_hi hv, List.length_cons] at h
      omega
  | k + 1, v, r, h => by
    by_cases hv : v < 128
    · rw [putVar_lo hv] at h
      simp at h
    · rw [putVar_hi hv, List.length_cons] at h
      rw [putVar_hi hv, List.cons_append, sevV, sevV_put k (v / 128) r (by omega), toNat_u8 (by omega)]
      omega
theorem last_put : ∀ (k v : Nat) (r : List UInt8), (putVar v).length = k + 1 → ((putVar v ++ r).getD k 0).toNat = v / 128 ^ k ∧ (0 < k → 0 < v / 128 ^ k)
  | 0, v, r, h => by
    by_cases hv : v < 128
    · rw [putVar_lo hv]
      simp
      omega
    · have := putVar_pos (v / 128)
      rw [putVar_hi hv, List.length_cons] at h
      omega
  | k + 1, v, r, h => by
    by_cases hv : v < 128
    · rw [putVar_lo hv] at h
      simp at h
    · rw [putVar_hi hv, List.length_cons] at h
      have ih := last_put k (v / 128) r (by omega)
      have e : v / 128 ^ (k + 1) = v / 128 / 128 ^ k := by rw [Nat.pow_succ, Nat.mul_comm, Nat.div_div_eq_div_mul]
      rw [putVar_hi hv, List.cons_append, e]
      refine ⟨by simpa using ih.1, fun _ => ?_⟩
      rcases Nat.eq_zero_or_pos k with rfl | hk
      · simp; omega
      · exact ih.2 hk
theorem RS.var_put (v most : Nat) (r : List UInt8) (hv : v < 18446744073709551616) (hm : v ≤ most) : RS.var ⟨putVar v ++ r, 0⟩ most = (v, ⟨r, 0⟩) := by
  have hp := putVar_pos v
  have hl := putVar_len 9 v (Nat.lt_of_lt_of_le hv (by decide))
  have hh := hiN_put 10 v r (Nat.lt_of_lt_of_le hv (by decide))
  obtain ⟨k, hk⟩ : ∃ k, (putVar v).length = k + 1 := ⟨(putVar v).length - 1, by omega⟩
  have hs := sevV_put k v r hk
  have hla := last_put k v r hk
  have e : hiN 10 (putVar v ++ r) = k := by omega
  have hbad : badV k (putVar v ++ r) = false := by
    have h1 : k ≠ 10 := by omega
    have h2 : ¬ (k = 9 ∧ 1 < ((putVar v ++ r).getD 9 0).toNat) := by
      rintro ⟨rfl, h⟩
      rw [hla.1] at h
      have : v / 128 ^ 9 < 2 := Nat.div_lt_of_lt_mul (Nat.lt_of_lt_of_le hv (by decide))
      omega
    have h3 : ¬ (0 < k ∧ ((putVar v ++ r).getD k 0).toNat = 0) := by
      rintro ⟨h, h0⟩
      have := hla.2 h
      omega
    simp only [badV, Bool.or_eq_false_iff, ← Bool.decide_and, decide_eq_false_iff_not]
    exact ⟨⟨h1, h2⟩, h3⟩
  have hd : (putVar v ++ r).drop (k + 1) = r := by rw [← hk]; exact List.drop_left
  unfold RS.var
  simp only [e, hbad, hs, hd]
  rw [if_neg (by simp), if_neg (by simp; omega), if_neg (by simp), if_neg (by omega)]
theorem RS.text_put (l r : List UInt8) (most : Nat) (hv : l.length < 18446744073709551616) (hm : l.length ≤ most) : RS.text ⟨putVar l.length ++ (l ++ r), 0⟩ most = (l, ⟨r, 0⟩) := by
  simp [RS.text, RS.var_put l.length most (l ++ r) hv hm, RS.take_put]
/-- A section's bytes. -/
def putSec (id : UInt8) (l : List UInt8) : List UInt8 := id :: (putN 4 l.length ++ (l ++ putN 4 (crc l)))
theorem RS.sec_put (id : UInt8) (l r : List UInt8) (hl : l.length < 4294967296) (hc : crc l < 4294967296) : RS.sec ⟨putSec id l ++ r, 0⟩ id.toNat = (⟨l, 0⟩, ⟨r, 0⟩) := by
  have h1 : RS.num ⟨putSec id l ++ r, 0⟩ 1 = (id.toNat, ⟨putN 4 l.length ++ (l ++ (putN 4 (crc l) ++ r)), 0⟩) := by
    have := RS.num_put 1 id.toNat (putN 4 l.length ++ (l ++ (putN 4 (crc l) ++ r)))
    have e : putN 1 id.toNat = [id] := by simp [putN]
    have e2 : id.toNat % 256 ^ 1 = id.toNat := Nat.mod_eq_of_lt id.toNat_lt
    rw [e, e2] at this
    simpa [putSec, List.append_assoc] using this
  have h2 := RS.num_put 4 l.length (l ++ (putN 4 (crc l) ++ r))
  have h3 := RS.take_put l (putN 4 (crc l) ++ r)
  have h4 := RS.num_put 4 (crc l) r
  rw [Nat.mod_eq_of_lt (by simpa using hl)] at h2
  rw [Nat.mod_eq_of_lt (by simpa using hc)] at h4
  simp [RS.sec, h1, h2, h3, h4]
end Go.Proofs.Ytlecedlondamiaa
