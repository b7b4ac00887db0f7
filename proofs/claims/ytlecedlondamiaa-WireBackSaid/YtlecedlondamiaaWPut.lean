/-
  wire.PutVar and the other puts: what they append.
-/
import Derived.Test.YtlecedlondamiaaBit
namespace Go.Proofs.Ytlecedlondamiaa
open Go.RowKit
set_option maxRecDepth 100000
/-- A number by sevens. -/
def putVar (v : Nat) : List UInt8 := if v < 128 then [v.toUInt8] else (v % 128 + 128).toUInt8 :: putVar (v / 128)
  termination_by v
  decreasing_by omega
theorem putVar_lo {v : Nat} (h : v < 128) : putVar v = [v.toUInt8] := by rw [putVar, if_pos h]
theorem putVar_hi {v : Nat} (h : ¬ v < 128) : putVar v = (v % 128 + 128).toUInt8 :: putVar (v / 128) := by rw [putVar, if_neg h]
theorem toNat_u8 {v : Nat} (h : v < 256) : v.toUInt8.toNat = v := by simp [Nat.toUInt8, UInt8.toNat_ofNat']; omega
theorem info_byte : (Try.prog.info? 5).map (fun i => (i.zero, i.size, i.bytes)) = some (some (.int .u8 0), 1, 1) := by kernel_rfl
theorem or128 {v : Nat} : bits .or .u8 ((v : Int) % 256) 128 = ((v % 128 + 128 : Nat) : Int) := by
  have h := (bits_nat .u8 8 (by decide) wraps_u8 (v % 256) 128 (by omega) (by decide)).2
  have e : (v % 256) ||| 128 = v % 128 + 128 := by
    have : ∀ x : Fin 256, x.val ||| 128 = x.val % 128 + 128 := by decide
    have := this ⟨v % 256, by omega⟩
    simp only at this
    omega
  rw [e] at h
  exact h
def lim : Nat := 140737488355328
theorem bv_one {l : List UInt8} : ∀ u ∈ l.map bv, u.oneCell' = true := by intro u hu; obtain ⟨x, _, rfl⟩ := List.mem_map.1 hu; rfl

set_option maxHeartbeats 1000000 in
theorem PutVar_any (M : Mem) (w : World) (v : Value) (n x : Nat) (xs : List Value) (hok : Ok M w) (ht : Tip M w 5 1 v n xs) (hx : x < 18446744073709551616) (hn : n + (putVar x).length ≤ lim) :
    Calls Try.prog 11 #[v, .int .u64 x] w fun e w' => ∃ v', e = .returned v' ∧ Tip M w' 5 1 v' (n + (putVar x).length) (xs ++ (putVar x).map bv) ∧ Nx [v.ownBlock] M w M w' ∧ Of w v v' := by
  unfold lim at hn
  go_enter Try.func11, Try.ntmps11
  go_wp2
  go_loopw [0, 1] (fun u y W => ∃ (pre : List UInt8) (z : Nat), y = .int .u64 z ∧ z < 18446744073709551616 ∧ pre ++ putVar z = putVar x ∧ Tip M W 5 1 u (n + pre.length) (xs ++ pre.map bv) ∧ Nx [v.ownBlock] M w M W ∧ Of w v u) (fun _ y _ => (intOf y).toNat)
  case atStart => exact ⟨[], x, rfl, hx, rfl, by simpa using ht, Nx.refl _ hok, Of.refl _ _⟩
  case round =>
    obtain ⟨pre, z, rfl, hz, hp, htW, hnW, hof⟩ := hrel
    have HP := Lib.hid hp; clear hp
    have hl := congrArg List.length HP.out
    rw [List.length_append] at hl
    have hlp : 0 < (putVar z).length := by rw [putVar]; split <;> simp
    have hb : n + pre.length + 1 ≤ 140737488355328 := by omega
    clear hl hlp
    by_cases hlt : z < 128
    · go_wp2_with (at_builtin; go_must (refine wpList_app1 rfl _ _ 22 rfl _ 1 Try.underlying22 info_byte rfl rfl hnW.ok htW rfl _ rfl (by omega) (by omega) ?_); intro v' w1 ht1 hn1 hof1)
      go_ret
      have e : putVar x = pre ++ [z.toUInt8] := by rw [← HP.out, putVar_lo hlt]
      refine ⟨v', rfl, ?_, hnW.transOf hof hn1, hof.trans hof1 hnW.upd.size⟩
      rw [e, List.length_append, List.map_append, ← List.append_assoc, ← Nat.add_assoc]
      have hb : bv z.toUInt8 = .int .u8 z := by rw [bv, toNat_u8 (by omega)]
      simpa [hb] using ht1
    · go_wp2_with (at_builtin; go_must (refine wpList_app1 rfl _ _ 22 rfl _ 1 Try.underlying22 info_byte rfl rfl hnW.ok htW rfl _ rfl (by omega) (by omega) ?_); intro v' w1 ht1 hn1 hof1)
      go_roundw
      case rel =>
        refine ⟨pre ++ [(z % 128 + 128).toUInt8], z / 128, by go_num, by omega, by rw [← HP.out, putVar_hi hlt]; simp, ?_, hnW.transOf hof hn1, hof.trans hof1 hnW.upd.size⟩
        have hb : bv (z % 128 + 128).toUInt8 = .int .u8 (bits .or .u8 ((z : Int) % 256) 128) := by rw [bv, toNat_u8 (by omega), or128]
        rw [List.length_append, List.map_append, ← List.append_assoc, ← Nat.add_assoc]
        simp only [List.map_cons, List.map_nil, hb, List.length_cons, List.length_nil]
        exact ht1
      case measure => simp [intOf]; omega
end Go.Proofs.Ytlecedlondamiaa
