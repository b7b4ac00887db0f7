/-
  A region that draws its order, by ONE relation over what has come up: each operation is shown once.
-/
import Derived.Test.YtlecedlondamiaaLate
namespace Go.Proofs.Ytlecedlondamiaa
section
variable {P : Program} {md : Region.Mode} {ops : Array Oper} {Q : Exit → Act → World → Prop}
/-- How many have not come up. -/
def openN (l : Array Bool) : Nat := l.toList.countP (· == false)
theorem openN_set {l : Array Bool} {i : Nat} (h : l.getD i true = false) : openN (l.setIfInBounds i true) + 1 = openN l := by
  have hi : i < l.size := by
    rcases Nat.lt_or_ge i l.size with h' | h'
    · exact h'
    · simp [Array.getElem?_eq_none h'] at h
  have hv : l.toList[i]? = some false := by
    simp [hi] at h
    simp [hi, h]
  unfold openN
  rw [Array.toList_setIfInBounds]
  generalize l.toList = x at hv
  clear h hi
  induction x generalizing i with
  | nil => simp at hv
  | cons b r ih =>
    cases i with
    | zero => simp at hv; subst hv; simp
    | succ i =>
      simp at hv
      have := ih hv
      simp only [List.set_cons_succ, List.countP_cons]
      omega
theorem wpAny_rel (I : Array Bool → Act → World → Prop) (hs : ∀ l a w, I l a w → ∀ i ∈ Region.ready md ops l, wpOp P ops Q i (fun a' w' => I (l.setIfInBounds i true) a' w') a w)
    (hend : ∀ l a w, I l a w → Region.ready md ops l = [] → Q .normal a w) : ∀ (fuel : Nat) (l : Array Bool) (a : Act) (w : World), openN l ≤ fuel → I l a w → wpAny P md ops Q fuel l a w
  | 0, l, a, w, hf, hI => by
    have h0 : Region.ready md ops l = [] := by
      rw [List.eq_nil_iff_forall_not_mem]
      intro j hj
      have := openN_set (mem_ready.1 hj).1
      omega
    exact ⟨h0, hend l a w hI h0⟩
  | fuel + 1, l, a, w, hf, hI => by
    refine ⟨fun h0 => hend l a w hI h0, fun i hi => ?_⟩
    have := openN_set (mem_ready.1 hi).1
    exact wpOp_mono (fun a' w' h' => wpAny_rel I hs hend fuel _ a' w' (by omega) h') (hs l a w hI i hi)
/-- The rest of a region of Late's, by one relation. -/
theorem wpAnyL_rel {late : List Nat} {S0 S1 : World → Prop} (I : Array Bool → Act → World → Prop)
    (hs : ∀ l a w, I l a w → ∀ i ∈ Region.ready md ops l, wpOp P ops Q i (fun a' w' => (S0 w' ∧ (Early late (l.setIfInBounds i true) → S1 w')) ∧ I (l.setIfInBounds i true) a' w') a w)
    (hend : ∀ l a w, I l a w → Region.ready md ops l = [] → Q .normal a w) : ∀ (fuel : Nat) (l : Array Bool) (a : Act) (w : World), openN l ≤ fuel → I l a w → wpAnyL P md ops Q late S0 S1 fuel l a w
  | 0, l, a, w, hf, hI => by
    have h0 : Region.ready md ops l = [] := by
      rw [List.eq_nil_iff_forall_not_mem]
      intro j hj
      have := openN_set (mem_ready.1 hj).1
      omega
    exact ⟨h0, hend l a w hI h0⟩
  | fuel + 1, l, a, w, hf, hI => by
    refine ⟨fun h0 => hend l a w hI h0, fun i hi => ?_⟩
    have := openN_set (mem_ready.1 hi).1
    exact wpOp_mono (fun a' w' h' => ⟨h'.1, wpAnyL_rel I hs hend fuel _ a' w' (by omega) h'.2⟩) (hs l a w hI i hi)
theorem wp_region_rel {id : Nat} {a : Act} {w : World} (I : Array Bool → Act → World → Prop) (hm : P.follows .mixedOrders = true) (h0 : I (Array.replicate ops.size false) a w.drew)
    (hs : ∀ l a w, I l a w → ∀ i ∈ Region.ready .any ops l, wpOp P ops Q i (fun a' w' => I (l.setIfInBounds i true) a' w') a w)
    (hend : ∀ l a w, I l a w → Region.ready .any ops l = [] → Q .normal a w) : (Code.region id ops true).wp P Q a w :=
  wp_region_any hm (wpAny_rel I hs hend _ _ _ _ (by unfold openN; exact Nat.le_trans List.countP_le_length (by simp)) h0)
end
end Go.Proofs.Ytlecedlondamiaa
