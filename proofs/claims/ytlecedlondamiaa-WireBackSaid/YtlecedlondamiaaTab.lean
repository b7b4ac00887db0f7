/-
  The table of the sums of single bytes: its numbers, its cells, and the program's facts on its type.
-/
import Derived.Test.YtlecedlondamiaaRows
import Derived.WalkKit
import Derived.Deep.WholeRow
namespace Go.Proofs.Ytlecedlondamiaa
open Go Go.RowKit
set_option maxRecDepth 100000
def bit1 (v : Nat) : Nat := if v % 2 = 1 then (v / 2) ^^^ 3988292384 else v / 2
def bitN : Nat → Nat → Nat
  | 0, v => v
  | k + 1, v => bit1 (bitN k v)
def tab (i : Nat) : Nat := bitN 8 i
/-- The table's cells after k rounds. -/
def tabCells (k : Nat) : Array Value := Array.ofFn (n := 256) fun j => .int .u32 (if j.val < k then (tab j.val : Int) else 0)
theorem tab_size (k : Nat) : (tabCells k).size = 256 := by simp [tabCells]
theorem tab_get (k j : Nat) (h : j < 256) : (tabCells k)[j]? = some (.int .u32 (if j < k then (tab j : Int) else 0)) := by simp [tabCells, h]
theorem tab_one (k : Nat) : (tabCells k).all (·.oneCell') = true := by rw [Array.all_eq_true]; intro i hi; simp [tabCells, Value.oneCell']
theorem tab_out (k j : Nat) (h : ¬ j < 256) : (tabCells k)[j]? = none := by simp [tabCells]; omega
theorem tab_set (k : Nat) (h : k < 256) : (tabCells k).setIfInBounds k (.int .u32 (tab k)) = tabCells (k + 1) := by
  apply Array.ext_getElem?
  intro i
  rw [Array.getElem?_setIfInBounds, tab_size]
  by_cases e : k = i
  · subst e
    rw [if_pos rfl, if_pos h, tab_get _ _ h, if_pos (by omega)]
  · rw [if_neg e]
    by_cases hi : i < 256
    · rw [tab_get _ _ hi, tab_get _ _ hi]
      have : (i < k) = (i < k + 1) := by apply propext; omega
      simp [this]
    · rw [tab_out _ _ hi, tab_out _ _ hi]
theorem size_tab : (Try.prog.info? 59).map (·.size) = some 256 := by kernel_rfl
theorem zero_tab (w : World) : (zeroValue 59).run Try.prog w = .ok (.agg (tabCells 0)) w := by kernel_rfl
theorem store_tab (w : World) : (storeCells ⟨w.heap.size, 0, none⟩ (tabCells 256).toList).run Try.prog (w.alloc (.cells (tabCells 0) 59)) = .ok () (w.alloc (.cells (tabCells 256) 59)) :=
  run_storeCells_new w 59 _ _ (by rw [tab_size]; exact size_tab) (by simp [tab_size]) (tab_one 256)

end Go.Proofs.Ytlecedlondamiaa
