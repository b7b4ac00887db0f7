/-
  wire.Reader's numbers, walked.
-/
import Derived.Test.YtlecedlondamiaaWRdr
namespace Go.Proofs.Ytlecedlondamiaa
open Go.RowKit
set_option maxRecDepth 100000
theorem ret_int {k : IntKind} {a b : Int} (h : a = b) : Ending.returned (.int k a) = .returned (.int k b) := by rw [h]
set_option maxHeartbeats 1000000 in
theorem number_any (M : Mem) (w : World) (g n : Nat) (s : RS) (hn : n ≤ 4) (hok : Ok M w) (h : Rdr M w g s) :
    Calls Try.prog 35 #[.pointer (some ⟨g, 0, none⟩), .int .u64 n] w fun e w' => e = .returned (.int .u64 (s.num n).1) ∧ Nx [some g] M w M w' ∧ Rdr M w' g (s.num n).2 := by
  have hlen : ((s.take n).1.getD []).length ≤ n := by
    unfold RS.take
    split
    · simp
    · split
      · simp
      · simp; omega
  have hT := take_any M w g n s (by omega) hok h
  rw [show s.num n = (numV ((s.take n).1.getD []), (s.take n).2) from rfl]
  generalize (s.take n).2 = s2 at *
  generalize (s.take n).1.isSome = b2 at *
  generalize (s.take n).1.getD [] = l at *
  have HT := Lib.hid hT; clear hT h
  go_enter Try.func35, Try.ntmps35
  go_wp2_with fail
  refine HT.out.mono ?_
  rintro _ w1 ⟨v, rfl, hv, hn1, hr1⟩
  have hok1 := hn1.ok
  obtain ⟨a, c, rfl, hlc, hcm, hc⟩ := hv
  replace hcm := le_max hcm
  have HC := Lib.hid hc; clear hc
  have HR := Lib.hid hr1; clear hr1
  go_wp2
  go_loop [7, 18] (fun u i => ∃ (k m : Nat), k ≤ l.length ∧ i = .int .i64 k ∧ m < 18446744073709551616 ∧ Hid (m < 256 ^ k) ∧ Hid (m = numV (l.take k)) ∧ u = .int .u64 m) (fun _ i => l.length - (intOf i).toNat)
  case atStart => exact ⟨0, 0, Nat.zero_le _, rfl, by omega, Nat.one_pos, rfl, rfl⟩
  case round =>
    obtain ⟨k, m, hk, rfl, hm, HM, HV, rfl⟩ := hrel
    by_cases hlt : k < l.length
    · obtain ⟨b, o, rfl, hmem⟩ := HC.out k l[k] (List.getElem?_eq_getElem hlt)
      have hx := hok1.cell _ _ _ hmem
      unfold bv at hx
      have hx8 := l[k].toNat_lt
      have HL : Hid (numV (l.take (k + 1)) = numV (l.take k) + l[k].toNat * 256 ^ k) := by
        show numV (l.take (k + 1)) = _
        rw [List.take_succ_eq_append_getElem hlt, numV_snoc, List.length_take, Nat.min_eq_left (by omega)]
      generalize l[k] = x at *
      clear hmem
      have h256 : (256 : Nat) ^ k = 2 ^ (8 * k) := by rw [Nat.pow_mul]
      have hle : 2 ^ (8 * k) ≤ 2 ^ 24 := Nat.pow_le_pow_right (by decide) (by omega)
      have hxp : x.toNat * 2 ^ (8 * k) + 2 ^ (8 * k) ≤ 256 * 2 ^ (8 * k) := by
        have : x.toNat * 2 ^ (8 * k) + 2 ^ (8 * k) = (x.toNat + 1) * 2 ^ (8 * k) := by rw [Nat.add_mul, Nat.one_mul]
        rw [this]
        exact Nat.mul_le_mul_right _ (by omega)
      have ho := or_shl (m := m) (x := x.toNat) (s := 8 * k) (by rw [← h256]; exact HM.out) (by omega)
      have hm2 : m + x.toNat * 2 ^ (8 * k) < 256 ^ (k + 1) := by
        have := HM.out
        have e : 256 ^ (k + 1) = 256 * 2 ^ (8 * k) := by rw [Nat.pow_succ, h256, Nat.mul_comm]
        rw [h256] at this
        rw [e]
        omega
      have hm3 : m + x.toNat * 2 ^ (8 * k) < 18446744073709551616 := by have := HM.out; rw [h256] at this; omega
      have HM2 := Lib.hid hm2
      have HL2 : Hid (m + x.toNat * 2 ^ (8 * k) = numV (l.take (k + 1))) := by
        show m + x.toNat * 2 ^ (8 * k) = numV (l.take (k + 1))
        rw [HL.out, HV.out, ← h256]
      clear hm2 h256 hle hxp
      generalize m + x.toNat * 2 ^ (8 * k) = m2 at *
      go_wp2
      exact ⟨⟨k + 1, m2, by omega, by go_num, hm3, HM2, HL2, rfl⟩, by simp [intOf]; omega⟩
    · obtain rfl : k = l.length := by omega
      go_wp2
      go_ret
      exact ⟨by rw [HV.out, List.take_length]; rfl, hn1, HR.out⟩

theorem num1_lt (s : RS) : (s.num 1).1 < 256 := by
  have h := numV_lt ((s.take 1).1.getD [])
  have hl : ((s.take 1).1.getD []).length ≤ 1 := by
    unfold RS.take
    split
    · simp
    · split
      · simp
      · simp; omega
  exact Nat.lt_of_lt_of_le h (Nat.pow_le_pow_right (by decide) hl)
theorem num_lt (s : RS) (n : Nat) : (s.num n).1 < 256 ^ n := by
  have h := numV_lt ((s.take n).1.getD [])
  have hl : ((s.take n).1.getD []).length ≤ n := by
    unfold RS.take
    split
    · simp
    · split
      · simp
      · simp; omega
  exact Nat.lt_of_lt_of_le h (Nat.pow_le_pow_right (by decide) hl)
set_option maxHeartbeats 1000000 in
theorem Byte_any (M : Mem) (w : World) (g : Nat) (s : RS) (hok : Ok M w) (h : Rdr M w g s) :
    Calls Try.prog 23 #[.pointer (some ⟨g, 0, none⟩)] w fun e w' => e = .returned (.int .u8 (s.num 1).1) ∧ Nx [some g] M w M w' ∧ Rdr M w' g (s.num 1).2 := by
  have hl := num_lt s 1
  have hT := number_any M w g 1 s (by omega) hok h
  generalize (s.num 1).1 = m at *
  generalize (s.num 1).2 = s2 at *
  have HT := Lib.hid hT; clear hT h
  go_enter Try.func23, Try.ntmps23
  go_wp2_with fail
  refine HT.out.mono ?_
  rintro _ w1 ⟨rfl, hn1, hr1⟩
  have HR := Lib.hid hr1; clear hr1
  go_wp2
  go_ret
  exact ⟨ret_int (by omega), hn1, HR.out⟩
set_option maxHeartbeats 1000000 in
theorem U16_any (M : Mem) (w : World) (g : Nat) (s : RS) (hok : Ok M w) (h : Rdr M w g s) :
    Calls Try.prog 18 #[.pointer (some ⟨g, 0, none⟩)] w fun e w' => e = .returned (.int .u16 (s.num 2).1) ∧ Nx [some g] M w M w' ∧ Rdr M w' g (s.num 2).2 := by
  have hl := num_lt s 2
  have hT := number_any M w g 2 s (by omega) hok h
  generalize (s.num 2).1 = m at *
  generalize (s.num 2).2 = s2 at *
  have HT := Lib.hid hT; clear hT h
  go_enter Try.func18, Try.ntmps18
  go_wp2_with fail
  refine HT.out.mono ?_
  rintro _ w1 ⟨rfl, hn1, hr1⟩
  have HR := Lib.hid hr1; clear hr1
  go_wp2
  go_ret
  exact ⟨ret_int (by omega), hn1, HR.out⟩
set_option maxHeartbeats 1000000 in
theorem U32_any (M : Mem) (w : World) (g : Nat) (s : RS) (hok : Ok M w) (h : Rdr M w g s) :
    Calls Try.prog 19 #[.pointer (some ⟨g, 0, none⟩)] w fun e w' => e = .returned (.int .u32 (s.num 4).1) ∧ Nx [some g] M w M w' ∧ Rdr M w' g (s.num 4).2 := by
  have hl := num_lt s 4
  have hT := number_any M w g 4 s (by omega) hok h
  generalize (s.num 4).1 = m at *
  generalize (s.num 4).2 = s2 at *
  have HT := Lib.hid hT; clear hT h
  go_enter Try.func19, Try.ntmps19
  go_wp2_with fail
  refine HT.out.mono ?_
  rintro _ w1 ⟨rfl, hn1, hr1⟩
  have HR := Lib.hid hr1; clear hr1
  go_wp2
  go_ret
  exact ⟨ret_int (by omega), hn1, HR.out⟩
end Go.Proofs.Ytlecedlondamiaa
