/-
  Plain: the loop that reads a number by sevens tells what the document says.
-/
import Derived.Test.YtlecedlondamiaaRMod
namespace Go.Proofs.Ytlecedlondamiaa
theorem orV_add {v x j : Nat} (hv : v < 2 ^ (7 * j)) (hx : (x % 128) * 2 ^ (7 * j) < 18446744073709551616) : orV v x j = v + (x % 128) * 2 ^ (7 * j) := by
  unfold orV
  rw [Nat.mod_eq_of_lt hx, Nat.or_comm, Nat.mul_comm, ← Nat.two_pow_add_eq_or_of_lt hv, Nat.add_comm]
theorem num_nil (e : Int) (h : e = 0) : RS.num ⟨[], e⟩ 1 = (0, ⟨[], 1⟩) := by simp [RS.num, RS.take, h, numV]
theorem num_cons (y : UInt8) (l : List UInt8) : RS.num ⟨y :: l, 0⟩ 1 = (y.toNat, ⟨l, 0⟩) := by simp [RS.num, RS.take, numV]
theorem vloop_run : ∀ (k j v x : Nat) (b : List UInt8), j + k = 10 → 128 ≤ x → v < 2 ^ (7 * j) →
    (hiN k b < k → b.length ≤ hiN k b → (vloop k j v x ⟨b, 0⟩).2.2.2 = ⟨[], 1⟩) ∧
    (hiN k b < k → hiN k b < b.length → ∃ v', vloop k j v x ⟨b, 0⟩ = (j + hiN k b + 1, v', (b.getD (hiN k b) 0).toNat, ⟨b.drop (hiN k b + 1), 0⟩) ∧ (b.getD (hiN k b) 0).toNat < 128 ∧ ((j + hiN k b = 9 → (b.getD (hiN k b) 0).toNat ≤ 1) → v' = v + 2 ^ (7 * j) * sevV (hiN k b) b)) ∧
    (hiN k b = k → 0 < k → ∃ v' y, vloop k j v x ⟨b, 0⟩ = (10, v', y, ⟨b.drop k, 0⟩) ∧ 128 ≤ y) := by
  intro k
  induction k with
  | zero => intro j v x b _ _ _; exact ⟨fun h => by omega, fun h => by omega, fun _ h => by omega⟩
  | succ k ih =>
    intro j v x b hj hx hv
    cases b with
    | nil =>
      have e : vloop (k + 1) j v x ⟨[], 0⟩ = (j + 1, orV v 0 j, 0, ⟨[], 1⟩) := by
        rw [vloop, if_pos ⟨hx, rfl⟩, num_nil 0 rfl]
        exact vloop_stop (.inr (by omega))
      simp only [hiN]
      exact ⟨fun _ _ => by rw [e], fun _ h => by simp at h, fun h _ => by omega⟩
    | cons y l =>
      have hy := y.toNat_lt
      by_cases h128 : 128 ≤ y.toNat
      · have hh : hiN (k + 1) (y :: l) = hiN k l + 1 := by rw [hiN, if_pos h128]
        have e : vloop (k + 1) j v x ⟨y :: l, 0⟩ = vloop k (j + 1) (orV v y.toNat j) y.toNat ⟨l, 0⟩ := by
          rw [vloop, if_pos ⟨hx, rfl⟩, num_cons]
        rw [hh, e]
        cases k with
        | zero =>
          refine ⟨fun h => by omega, fun h => by omega, fun _ _ => ⟨orV v y.toNat j, y.toNat, ?_, h128⟩⟩
          have hj9 : j = 9 := by omega
          subst hj9
          rfl
        | succ k =>
          have hp : (y.toNat % 128) * 2 ^ (7 * j) + 2 ^ (7 * j) ≤ 2 ^ (7 * (j + 1)) := by
            have h1 : 2 ^ (7 * (j + 1)) = 128 * 2 ^ (7 * j) := by rw [show 7 * (j + 1) = 7 + 7 * j by omega, Nat.pow_add]
            have h2 : (y.toNat % 128) * 2 ^ (7 * j) + 2 ^ (7 * j) = (y.toNat % 128 + 1) * 2 ^ (7 * j) := by rw [Nat.add_mul, Nat.one_mul]
            rw [h1, h2]
            exact Nat.mul_le_mul_right _ (by omega)
          have hle : 2 ^ (7 * (j + 1)) ≤ 2 ^ 63 := Nat.pow_le_pow_right (by decide) (by omega)
          have hor : orV v y.toNat j = v + (y.toNat % 128) * 2 ^ (7 * j) := orV_add hv (by have := Nat.two_pow_pos (7 * j); omega)
          obtain ⟨h1, h2, h3⟩ := ih (j + 1) (orV v y.toNat j) y.toNat l (by omega) h128 (by omega)
          refine ⟨fun ha hb => h1 (by omega) (by simp at hb; omega), fun ha hb => ?_, fun ha _ => ?_⟩
          · obtain ⟨v', e1, e2, e3⟩ := h2 (by omega) (by simp at hb; omega)
            refine ⟨v', ?_, by simpa using e2, fun h9 => ?_⟩
            · rw [e1]
              simp only [List.getD_cons_succ, List.drop_succ_cons]
              congr 1
              omega
            · have h4 := e3 (fun h => by have := h9 (by omega); simpa using this)
              rw [h4, hor, sevV]
              have h1 : 2 ^ (7 * (j + 1)) = 2 ^ (7 * j) * 128 := by rw [show 7 * (j + 1) = 7 * j + 7 by omega, Nat.pow_add]
              rw [h1, Nat.mul_add, Nat.mul_assoc, Nat.mul_comm (y.toNat % 128)]
              omega
          · obtain ⟨v', z, e1, e2⟩ := h3 (by omega) (by omega)
            exact ⟨v', z, by rw [e1]; rfl, e2⟩
      · have hh : hiN (k + 1) (y :: l) = 0 := by rw [hiN, if_neg h128]
        have e : vloop (k + 1) j v x ⟨y :: l, 0⟩ = (j + 1, orV v y.toNat j, y.toNat, ⟨l, 0⟩) := by
          rw [vloop, if_pos ⟨hx, rfl⟩, num_cons]
          exact vloop_stop (.inr (by omega))
        rw [hh, e]
        refine ⟨fun _ h => by simp at h, fun _ _ => ⟨_, rfl, by simpa using Nat.lt_of_not_le h128, fun h9 => ?_⟩, fun h _ => by omega⟩
        have hmod : y.toNat % 128 = y.toNat := Nat.mod_eq_of_lt (by omega)
        have hlt : (y.toNat % 128) * 2 ^ (7 * j) < 18446744073709551616 := by
          rw [hmod]
          by_cases h : j = 9
          · have := h9 (by omega)
            simp at this
            subst h
            have h5 : y.toNat * 2 ^ (7 * 9) ≤ 1 * 2 ^ (7 * 9) := Nat.mul_le_mul_right _ this
            omega
          · have h5 : y.toNat * 2 ^ (7 * j) ≤ 127 * 2 ^ (7 * j) := Nat.mul_le_mul_right _ (by omega)
            have h6 : 2 ^ (7 * j) ≤ 2 ^ 56 := Nat.pow_le_pow_right (by decide) (by omega)
            omega
        rw [orV_add hv hlt, Nat.mul_comm]
        cases l <;> rfl
theorem hiN_le (k : Nat) (b : List UInt8) : hiN k b ≤ k := by
  induction k generalizing b with
  | zero => simp [hiN]
  | succ k ih =>
    cases b with
    | nil => simp [hiN]
    | cons y l =>
      rw [hiN]
      split
      · have := ih l; omega
      · omega
theorem varP_of {s t : RS} {j v x : Nat} (most : Nat) (h : vloop 10 0 0 128 s = (j, v, x, t)) : s.varP most = if t.e ≠ 0 then (0, t) else if 128 ≤ x ∨ (j = 10 ∧ 1 < x) ∨ (1 < j ∧ x = 0) then (0, t.fail 2) else if most < v then (0, t.fail 4) else (v, t) := by
  unfold RS.varP
  rw [h]
theorem var_zero (b : List UInt8) (most : Nat) : RS.var ⟨b, 0⟩ most = if hiN 10 b < 10 ∧ b.length ≤ hiN 10 b then (0, ⟨[], 1⟩) else if badV (hiN 10 b) b = true then (0, ⟨[], 2⟩) else if most < sevV (hiN 10 b) b then (0, ⟨[], 4⟩) else (sevV (hiN 10 b) b, ⟨b.drop (hiN 10 b + 1), 0⟩) := by
  unfold RS.var
  rw [if_neg (by simp)]
theorem fail_zero (b : List UInt8) (x : Int) (h : x ≠ 0) : RS.fail ⟨b, 0⟩ x = ⟨[], x⟩ := by simp [RS.fail, h]
theorem RS.varP_eq (s : RS) (most : Nat) : s.varP most = s.var most := by
  obtain ⟨b, e⟩ := s
  by_cases he : e = 0
  · subst he
    obtain ⟨h1, h2, h3⟩ := vloop_run 10 0 0 128 b rfl (by omega) (by decide)
    have hle := hiN_le 10 b
    rw [var_zero]
    by_cases hn : hiN 10 b < 10
    · by_cases hs : b.length ≤ hiN 10 b
      · have e1 := h1 hn hs
        have e0 : vloop 10 0 0 128 ⟨b, 0⟩ = ((vloop 10 0 0 128 ⟨b, 0⟩).1, (vloop 10 0 0 128 ⟨b, 0⟩).2.1, (vloop 10 0 0 128 ⟨b, 0⟩).2.2.1, (vloop 10 0 0 128 ⟨b, 0⟩).2.2.2) := rfl
        rw [varP_of most e0, e1, if_pos (by decide), if_pos ⟨hn, hs⟩]
      · obtain ⟨v', e1, e2, e3⟩ := h2 hn (by omega)
        clear h1 h2 h3
        rw [varP_of most e1, if_neg (by simp), if_neg (fun h => hs h.2 : ¬ (hiN 10 b < 10 ∧ b.length ≤ hiN 10 b)), fail_zero _ 2 (by decide), fail_zero _ 4 (by decide)]
        have hb : (128 ≤ (b.getD (hiN 10 b) 0).toNat ∨ (0 + hiN 10 b + 1 = 10 ∧ 1 < (b.getD (hiN 10 b) 0).toNat) ∨ (1 < 0 + hiN 10 b + 1 ∧ (b.getD (hiN 10 b) 0).toNat = 0)) ↔ badV (hiN 10 b) b = true := by
          unfold badV
          simp only [Bool.or_eq_true, Bool.and_eq_true, decide_eq_true_eq]
          constructor
          · rintro (h | ⟨h, h'⟩ | ⟨h, h'⟩)
            · omega
            · have e9 : hiN 10 b = 9 := by omega
              rw [e9] at h'
              exact .inl (.inr ⟨e9, h'⟩)
            · exact .inr ⟨by omega, h'⟩
          · rintro ((h | ⟨h, h'⟩) | ⟨h, h'⟩)
            · omega
            · refine .inr (.inl ⟨by omega, ?_⟩)
              rw [h]; exact h'
            · exact .inr (.inr ⟨by omega, h'⟩)
        by_cases hbad : badV (hiN 10 b) b = true
        · rw [if_pos (hb.2 hbad), if_pos hbad]
        · rw [if_neg (fun h => hbad (hb.1 h)), if_neg hbad]
          have hv : v' = sevV (hiN 10 b) b := by
            rw [e3 (fun h9 => by
              have : ¬ 1 < (b.getD (hiN 10 b) 0).toNat := fun h => hbad (hb.1 (.inr (.inl ⟨by omega, h⟩)))
              omega)]
            simp
          rw [hv]
    · obtain ⟨v', y, e1, e2⟩ := h3 (by omega) (by decide)
      have e10 : hiN 10 b = 10 := by omega
      have hbad : badV (hiN 10 b) b = true := by unfold badV; simp [e10]
      rw [varP_of most e1, if_neg (by simp), if_neg (fun h => hn h.1 : ¬ (hiN 10 b < 10 ∧ b.length ≤ hiN 10 b)), if_pos (.inl e2), if_pos hbad, fail_zero _ 2 (by decide)]
  · have e1 : vloop 10 0 0 128 ⟨b, e⟩ = (0, 0, 128, ⟨b, e⟩) := vloop_stop (.inr (fun h => he h.2))
    rw [varP_of most e1, if_pos he]
    unfold RS.var
    rw [if_pos he]
end Go.Proofs.Ytlecedlondamiaa
