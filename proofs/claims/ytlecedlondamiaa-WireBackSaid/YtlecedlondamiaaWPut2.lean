/-
  wire.put, Put16, Put32, PutText, PutSection: what they append.
-/
import Derived.Test.YtlecedlondamiaaWSum
import Derived.Test.YtlecedlondamiaaWPut
namespace Go.Proofs.Ytlecedlondamiaa
open Go.RowKit
set_option maxRecDepth 100000
/-- A number's lowest bytes. -/
def putN : Nat → Nat → List UInt8
  | 0, _ => []
  | k + 1, v => v.toUInt8 :: putN k (v / 256)
theorem putN_length (k v : Nat) : (putN k v).length = k := by
  induction k generalizing v with
  | zero => rfl
  | succ k ih => simp [putN, ih]
theorem toUInt8_nat (v : Nat) : v.toUInt8.toNat = v % 256 := by simp [Nat.toUInt8, UInt8.toNat_ofNat']
theorem putN_snoc (k v : Nat) : putN (k + 1) v = putN k v ++ [(v / 256 ^ k).toUInt8] := by
  induction k generalizing v with
  | zero => simp [putN]
  | succ k ih =>
    rw [putN, ih, putN, List.cons_append]
    congr 3
    rw [Nat.div_div_eq_div_mul, Nat.pow_succ, Nat.mul_comm]
set_option maxHeartbeats 1000000 in
theorem put_any (M : Mem) (w : World) (v : Value) (n x k : Nat) (xs : List Value) (hok : Ok M w) (ht : Tip M w 5 1 v n xs) (hx : x < 18446744073709551616) (hk : k ≤ 8) (hn : n + k ≤ lim) :
    Calls Try.prog 33 #[v, .int .u64 x, .int .i64 k] w fun e w' => ∃ v', e = .returned v' ∧ Tip M w' 5 1 v' (n + k) (xs ++ (putN k x).map bv) ∧ Nx [v.ownBlock] M w M w' ∧ Of w v v' := by
  unfold lim at hn
  go_enter Try.func33, Try.ntmps33
  go_wp2
  go_loopw [0, 1, 8] (fun u y i W => ∃ (j : Nat), j ≤ k ∧ i = .int .i64 j ∧ y = .int .u64 ((x / 256 ^ j : Nat) : Int) ∧ Tip M W 5 1 u (n + j) (xs ++ (putN j x).map bv) ∧ Nx [v.ownBlock] M w M W ∧ Of w v u) (fun _ _ i _ => k - (intOf i).toNat)
  case atStart => exact ⟨0, Nat.zero_le _, rfl, by simp, by simpa [putN] using ht, Nx.refl _ hok, Of.refl _ _⟩
  case round =>
    obtain ⟨j, hj, rfl, rfl, htW, hnW, hof⟩ := hrel
    by_cases hlt : j < k
    · have hdl : x / 256 ^ j < 18446744073709551616 := Nat.lt_of_le_of_lt (Nat.div_le_self _ _) hx
      have hd2 : x / 256 ^ (j + 1) = x / 256 ^ j / 256 := by rw [Nat.pow_succ, Nat.div_div_eq_div_mul]
      have hs := putN_snoc j x
      have HD2 := Lib.hid hd2; have HS := Lib.hid hs; clear hd2 hs
      generalize x / 256 ^ j = z at *
      go_wp2_with (at_builtin; go_must (refine wpList_app1 rfl _ _ 22 rfl _ 1 Try.underlying22 info_byte rfl rfl hnW.ok htW rfl _ rfl (by omega) (by omega) ?_); intro v' w1 ht1 hn1 hof1)
      go_roundw
      case rel =>
        refine ⟨j + 1, by omega, by go_num, by rw [HD2.out]; go_num, ?_, hnW.transOf hof hn1, hof.trans hof1 hnW.upd.size⟩
        have hb : bv z.toUInt8 = .int .u8 ((z : Int) % 256) := by rw [bv, toUInt8_nat]; simp
        rw [HS.out, List.map_append, ← List.append_assoc, ← Nat.add_assoc]
        simp only [List.map_cons, List.map_nil, hb]
        exact ht1
      case measure => simp [intOf]; omega
    · obtain rfl : j = k := by omega
      go_wp2
      go_ret
      exact ⟨_, rfl, htW, hnW, hof⟩
end Go.Proofs.Ytlecedlondamiaa
