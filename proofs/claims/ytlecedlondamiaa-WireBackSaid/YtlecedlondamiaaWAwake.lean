/-
  What shuttlecocklaw01.awake answers: true.
-/
import Derived.Test.YtlecedlondamiaaWSum
import Derived.Test.YtlecedlondamiaaWPut
import Derived.Lib.SlBytesConst
namespace Go.Proofs.Ytlecedlondamiaa
open Go.RowKit
set_option maxRecDepth 100000
theorem crc_sample : crc [49, 50, 51, 52, 53, 54, 55, 56, 57] = 3421780262 := by decide +kernel
theorem put_sample : putVar 300 = [172, 2] := by rw [putVar_hi (by decide), putVar_lo (by decide)]; decide

set_option maxHeartbeats 1000000 in
theorem awake1_any (M : Mem) (w : World) (hok : Ok M w) : Calls Try.prog 7 #[] w fun e w' => e = .returned (.bool true) ∧ ∃ M', Nx [] M w M' w' := by
  have kc := fun (w : World) (C : Array Value) (n c : Nat) => Lib.run_convert_bytes_const (P := Try.prog) w 22 5 C n c Try.underlying22 Try.underlying5
  go_enter Try.func7, Try.ntmps7
  go_wp2_with fail
  generalize hW : w.alloc _ = W
  have hnW : Nx [] M w M W := by subst hW; exact (Nx.refl [] hok).alloc _
  have hnS := hnW.keep w.heap.size 9 (fun h => by omega)
  have hrd : RdB (M.keep W w.heap.size 9) (.slice (some ⟨w.heap.size, 0, none⟩) 9 9) [49, 50, 51, 52, 53, 54, 55, 56, 57] := by
    refine RdB.of_cells (l := [49, 50, 51, 52, 53, 54, 55, 56, 57]) (fun i x hx => ?_) (by decide) (by decide)
    have hi : i < 9 := (List.getElem?_eq_some_iff.1 hx).1
    rw [Nat.zero_add, keep_at hi, ← hW, cell_of_row _ _ _ _ _ _ (heap_alloc_new w _)]
    exact lit_cells [49, 50, 51, 52, 53, 54, 55, 56, 57] i x hx
  clear hW kc
  refine (Sum_any _ _ _ _ hnS.ok hrd).mono ?_
  rintro e w1 ⟨rfl, hn1⟩
  rw [crc_sample]
  go_wp2_with fail
  refine (PutVar_any _ _ _ 0 300 [] hn1.ok (Tip.nil _ _ _ _) (by decide) (by rw [put_sample]; decide)).mono ?_
  rintro e w2 ⟨v', rfl, ht2, hn2, hof⟩
  rw [put_sample] at ht2
  have hs := ht2.string (l := [172, 2]) hn2.ok Try.underlying22 Try.underlying5 Try.underlying9
  go_wp2
  go_ret
  exact ⟨rfl, _, hnS.trans (hn1.trans hn2 (by simp [Value.ownBlock])) (by simp)⟩
end Go.Proofs.Ytlecedlondamiaa
