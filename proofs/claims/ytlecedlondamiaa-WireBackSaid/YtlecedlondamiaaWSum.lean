/-
  wire.made, wire.Sum: what they compute.
-/
import Derived.Test.YtlecedlondamiaaBit
import Derived.Test.YtlecedlondamiaaTab
namespace Go.Proofs.Ytlecedlondamiaa
open Go.RowKit
set_option maxRecDepth 100000
set_option maxHeartbeats 1000000 in
theorem made_any (w : World) : Calls Try.prog 22 #[] w fun e w' => e = .returned (.agg (tabCells 256)) ∧ Upd [] w w' := by
  have hz := zero_tab
  go_enter Try.func22, Try.ntmps22
  go_wp2
  clear hz
  go_loopw [3] (fun i W => ∃ k : Nat, k ≤ 256 ∧ i = .int .i64 k ∧ W = w.alloc (.cells (tabCells k) 59)) (fun i _ => 256 - (intOf i).toNat)
  case atStart => exact ⟨0, by omega, rfl, rfl⟩
  case round =>
    obtain ⟨k, hk, rfl, rfl⟩ := hrel
    by_cases hlt : k < 256
    · have hcell : (w.alloc (.cells (tabCells k) 59)).cell? ⟨w.heap.size, k, none⟩ = some (.int .u32 0) := by
        rw [cell_of_row _ _ _ _ _ _ (heap_alloc_new w _), tab_get k k hlt]; simp
      have hset : (w.alloc (.cells (tabCells k) 59)).setCell ⟨w.heap.size, k, none⟩ (.int .u32 (tab k)) = w.alloc (.cells (tabCells (k + 1)) 59) := by
        rw [World.setCell_alloc_at _ _ _ _ _ rfl]
        simp [tab_set k hlt]
      have HF := Lib.hid (frozen_of_row (w.alloc (.cells (tabCells k) 59)) w.heap.size k _ _ (heap_alloc_new w _))
      have HS := Lib.hid hset; clear hset
      have HC := Lib.hid hcell; clear hcell
      generalize hW : w.alloc (.cells (tabCells k) 59) = W at *
      have HW := Lib.hid hW; clear hW
      go_wp2
      go_loop [2, 8] (fun v j => ∃ (m n : Nat), m ≤ 8 ∧ j = .int .i64 m ∧ n < 4294967296 ∧ n = bitN m k ∧ v = .int .u32 n) (fun _ j => 8 - (intOf j).toNat)
      case atStart => exact ⟨0, k, by omega, rfl, by omega, rfl, by simp⟩
      case round =>
        obtain ⟨m, n, hm, rfl, hn, hnv, rfl⟩ := hrel
        have HN := Lib.hid hnv; clear hnv
        by_cases hm8 : m < 8
        · have ha := and1_u32 hn
          by_cases ho : n % 2 = 1
          · have hx := bit1_odd hn ho
            rw [ho] at ha
            go_wp2
            go_round
            case rel => exact ⟨m + 1, bit1 n, by omega, by go_num, bit1_lt hn, by rw [HN.out]; rfl, rfl⟩
            case measure => simp [intOf]; omega
          · have hx := bit1_even ho
            have ho' : n % 2 = 0 := by omega
            rw [ho'] at ha
            go_wp2
            go_round
            case rel => exact ⟨m + 1, bit1 n, by omega, by go_num, bit1_lt hn, by rw [HN.out]; rfl, rfl⟩
            case measure => simp [intOf]; omega
        · obtain rfl : m = 8 := by omega
          have hc := HC.out
          have hf := HF.out
          have hset := HS.out
          have hn8 : n = tab k := HN.out
          subst hn8
          go_wp2
          refine ⟨⟨k + 1, by omega, by go_num, rfl⟩, by simp [intOf]; omega⟩
    · obtain rfl : k = 256 := by omega
      have hg : (w.alloc (.cells (tabCells 256) 59)).heap[w.heap.size]? = some (.cells (tabCells 256) 59 (0, 0)) := heap_alloc_new w _
      have hU : Upd [] w (w.alloc (.cells (tabCells 256) 59)) := (Upd.refl _ w).alloc _
      generalize w.alloc (.cells (tabCells 256) 59) = W at *
      have hs := storeCells_self (P := Try.prog) hg (tab_one 256)
      go_wp2_with fail
      refine wp_load_row 59 _ rfl w.heap.size rfl _ _ _ _ hg Try.underlying59 rfl (by rw [tab_size]; exact size_tab) ?_
      go_wp2
      refine bodyPost_ret (v := .agg (tabCells 256)) ?_ rfl ⟨rfl, hU⟩
      exact results_cell_row rfl _ _ w.heap.size _ _ _ _ rfl hg Try.underlying59 rfl (by rw [tab_size]; exact size_tab)

set_option maxHeartbeats 1000000 in
theorem Sum_any (M : Mem) (w : World) (l : List UInt8) (v : Value) (hok : Ok M w) (hv : RdB M v l) :
    Calls Try.prog 6 #[v] w fun e w' => e = .returned (.int .u32 (crc l)) ∧ Nx [] M w M w' := by
  obtain ⟨a, c, rfl, hlc, hcm, hc⟩ := hv
  unfold maxLen at hcm
  have HC := Lib.hid hc; clear hc
  have hz := zero_tab
  have hst := store_tab
  go_enter Try.func6, Try.ntmps6
  go_wp2_with (go_at_call 22; refine (made_any _).mono ?_; rintro e w1 ⟨rfl, hb1⟩)
  clear hz hst
  have hn1 : Nx [] M w M (w1.alloc (.cells (tabCells 256) 59)) := ((Nx.refl [] hok).upd' hb1 (hok.of_blocks fun _ _ _ e => hb1.block _ (hok.lt e) (by simp))).alloc _
  have hok1 := hn1.ok
  have hcell : Hid (∀ j, (w1.alloc (.cells (tabCells 256) 59)).cell? ⟨w1.heap.size, j, none⟩ = (tabCells 256)[j]?) := fun j => cell_of_row _ _ _ _ _ _ (heap_alloc_new w1 _)
  generalize w1.alloc (.cells (tabCells 256) 59) = W at *
  go_loop [4, 10] (fun v i => ∃ (k n : Nat), k ≤ l.length ∧ i = .int .i64 k ∧ n < 4294967296 ∧ n = crc0 (l.take k) ∧ v = .int .u32 n) (fun _ i => l.length - (intOf i).toNat)
  case atStart => exact ⟨0, 4294967295, Nat.zero_le _, rfl, by omega, rfl, rfl⟩
  case round =>
    obtain ⟨k, n, hk, rfl, hn, hnv, rfl⟩ := hrel
    have HN := Lib.hid hnv; clear hnv
    by_cases hlt : k < l.length
    · have HS := Lib.hid (crc0_snoc l k hlt)
      obtain ⟨b, o, rfl, hm⟩ := HC.out k l[k] (List.getElem?_eq_getElem hlt)
      have hx := hok1.cell _ _ _ hm
      unfold bv at hx
      generalize l[k] = x at *
      have hb := xor_low (n := n) x
      have hj : (n % 256) ^^^ x.toNat < 256 := xor_lt8 (by omega) (by have := x.toNat_lt; omega)
      have hstep : (n / 256) ^^^ tab ((n % 256) ^^^ x.toNat) = sumStep n x := rfl
      have HT := Lib.hid hstep; clear hstep
      generalize (n % 256) ^^^ x.toNat = j at *
      have ht := tab_lt hj
      have hc := hcell.out j
      rw [tab_get _ _ hj, if_pos hj] at hc
      have hx2 := xor_step hn ht
      have hlt' := sumStep_lt hn x
      rw [HT.out] at hx2
      generalize tab j = t at *
      clear hm hn1 hok1 HT
      go_wp2
      go_round
      case rel => exact ⟨k + 1, sumStep n x, by omega, by go_num, hlt', by rw [HS.out, HN.out], rfl⟩
      case measure => simp [intOf]; omega
    · obtain rfl : k = l.length := by omega
      have hx : bits .xor .u32 IntKind.u32.max n = (crc l : Int) := by rw [not_u32 hn, HN.out, List.take_length]; rfl
      go_wp2
      go_ret
      exact ⟨rfl, hn1⟩
end Go.Proofs.Ytlecedlondamiaa
