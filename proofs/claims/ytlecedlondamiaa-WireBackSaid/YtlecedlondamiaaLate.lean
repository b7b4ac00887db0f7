/-
  A region that draws its order and STORES, LATE, INTO THE CELLS THAT IT LOADS: 'S0' holds behind every operation, 'S1' as long as none of the operations 'late' has come up. What all of 'late' waits for may be taken first, if it yields in every world of S0 and S1.
-/
import Derived.Deep.RegionHeld3
namespace Go.Proofs.Ytlecedlondamiaa
section
variable {P : Program} {md : Region.Mode} {ops : Array Oper} {Q : Exit → Act → World → Prop} {late : List Nat} {S0 S1 : World → Prop}
/-- None of 'late' has come up. -/
def Early (late : List Nat) (l : Array Bool) : Prop := ∀ k ∈ late, l.getD k true = false
def wpAnyL (P : Program) (md : Region.Mode) (ops : Array Oper) (Q : Exit → Act → World → Prop) (late : List Nat) (S0 S1 : World → Prop) : Nat → Array Bool → Act → World → Prop
  | 0, l, a, w => Region.ready md ops l = [] ∧ Q .normal a w
  | fuel + 1, l, a, w =>
    (Region.ready md ops l = [] → Q .normal a w) ∧
    ∀ i ∈ Region.ready md ops l, wpOp P ops Q i (fun a' w' => (S0 w' ∧ (Early late (l.setIfInBounds i true) → S1 w')) ∧ wpAnyL P md ops Q late S0 S1 fuel (l.setIfInBounds i true) a' w') a w

theorem wpAny_of_late : ∀ (fuel : Nat) (l : Array Bool) (a : Act) (w : World), wpAnyL P md ops Q late S0 S1 fuel l a w → wpAny P md ops Q fuel l a w
  | 0, _, _, _, h => h
  | fuel + 1, _, _, _, h => ⟨h.1, fun i hi => wpOp_mono (fun a' w' h' => wpAny_of_late fuel _ a' w' h'.2) (h.2 i hi)⟩

theorem Early.of {l : Array Bool} (h : (late.all fun k => !l.getD k true) = true) : Early late l := fun k hk => by
  have := List.all_eq_true.1 h k hk
  simpa using this
theorem Early.no {l : Array Bool} {p : Prop} (k : Nat) (hk : late.contains k = true) (h : l.getD k true = true) : Early late l → p := fun e => by
  have := e k (by simpa using hk)
  rw [h] at this
  cases this

/-- All of 'late' waits for i. -/
def LateWait (md : Region.Mode) (ops : Array Oper) (late : List Nat) (i : Nat) : Bool :=
  late.all fun k => k != i && match ops[k]? with
    | none => false
    | some o => o.after.any fun e => Region.binds md e && e.on == i
theorem LateWait.spec {i : Nat} (h : LateWait md ops late i = true) {k : Nat} (hk : k ∈ late) : k ≠ i ∧ ∀ o, ops[k]? = some o → ∃ e ∈ o.after, Region.binds md e = true ∧ e.on = i := by
  have h1 := List.all_eq_true.1 h k hk
  rw [Bool.and_eq_true] at h1
  refine ⟨by simpa using h1.1, fun o ho => ?_⟩
  have h2 := h1.2
  rw [ho] at h2
  obtain ⟨e, he, h3⟩ := Array.any_eq_true'.1 h2
  rw [Bool.and_eq_true] at h3
  exact ⟨e, he, h3.1, by simpa using h3.2⟩

theorem wpAnyL_first {i : Nat} {oi : Oper} {v : Value} (hi : ops[i]? = some oi) (hsel : ∀ (j : Nat) (o : Oper) cs b, ops[j]? = some o → o.op ≠ .select cs b)
    (hQ : ∀ c a w, Q (.panic c) (a.put oi.dst v) w → Q (.panic c) a w) (hlw : LateWait md ops late i = true) :
    ∀ (fuel : Nat) (l : Array Bool) (a : Act) (w : World),
      (∀ j oj, ops[j]? = some oj → j ≠ i → l.getD j true = false → (∀ e ∈ oj.after, Region.binds md e = true → e.on ≠ i) → oi.apart ops oj = true) →
      i ∈ Region.ready md ops l → YieldsIf P ops (fun w => S0 w ∧ S1 w) oi v a → Early late l → S0 w → S1 w →
      wpAnyL P md ops Q late S0 S1 fuel (l.setIfInBounds i true) (a.put oi.dst v) w → wpAnyL P md ops Q late S0 S1 (fuel + 1) l a w := by
  have early_set : ∀ (l : Array Bool) (j : Nat), j ∉ late → Early late l → Early late (l.setIfInBounds j true) := fun l j hj h k hk => by
    have hne : j ≠ k := fun e => hj (by rw [e]; exact hk)
    rw [getD_set_ne true hne]; exact h k hk
  have hin : i ∉ late := fun h => ((LateWait.spec hlw h).1 rfl).elim
  intro fuel
  induction fuel with
  | zero =>
    intro l a w _ hr hy hE hS hT H
    refine ⟨fun h => (by rw [h] at hr; cases hr), fun j hj => ?_⟩
    by_cases hji : j = i
    · subst hji; exact hy.wpOp hi ⟨hS, hT⟩ ⟨⟨hS, fun _ => hT⟩, H⟩
    · have := ready_mono hj hji
      rw [H.1] at this
      cases this
  | succ fuel ih =>
    intro l a w hfree hr hy hE hS hT H
    refine ⟨fun h => (by rw [h] at hr; cases hr), fun j hj => ?_⟩
    by_cases hji : j = i
    · subst hji; exact hy.wpOp hi ⟨hS, hT⟩ ⟨⟨hS, fun _ => hT⟩, H⟩
    · have h1 := H.2 j (ready_mono hj hji)
      obtain ⟨hjun, oj, hoj, hall⟩ := mem_ready.1 hj
      have hnot : ∀ e ∈ oj.after, Region.binds md e = true → e.on ≠ i := fun e he hb heq => by
        have h1 := hall e he hb
        have h0 := (mem_ready.1 hr).1
        rw [heq] at h1
        rcases Nat.lt_or_ge i l.size with h' | h'
        · simp [h'] at h0 h1; rw [h0] at h1; cases h1
        · simp [Array.getElem?_eq_none h'] at h1
      have hjl : j ∉ late := fun h => by
        obtain ⟨e, he, hb, hon⟩ := (LateWait.spec hlw h).2 oj hoj
        exact hnot e he hb hon
      have h2 := wpOp_putIf hoj (hfree j oj hoj hji hjun hnot) (fun cs b => hsel i oi cs b hi) (fun cs b => hsel j oj cs b hoj) hQ hy h1
      have hfree' : ∀ k ok, ops[k]? = some ok → k ≠ i → (l.setIfInBounds j true).getD k true = false →
          (∀ e ∈ ok.after, Region.binds md e = true → e.on ≠ i) → oi.apart ops ok = true := fun k ok hk hki hun hno => by
        refine hfree k ok hk hki ?_ hno
        by_cases hjk : j = k
        · subst hjk; exact hjun
        · rw [getD_set_ne true hjk] at hun; exact hun
      have hE' := early_set l j hjl hE
      have hE2 : Early late ((l.setIfInBounds i true).setIfInBounds j true) := early_set _ j hjl (early_set l i hin hE)
      refine wpOp_mono (fun a' w' h3 => ⟨⟨h3.2.1.1, fun _ => h3.2.1.2 hE2⟩, ih (l.setIfInBounds j true) a' w' hfree' (ready_mono hr (Ne.symm hji)) h3.1 hE' h3.2.1.1 (h3.2.1.2 hE2) ?_⟩) h2
      rw [Array.setIfInBounds_comm _ _ hji]
      exact h3.2.2

theorem wpAnyL_take {i : Nat} {oi : Oper} {v : Value} {fuel : Nat} {l : Array Bool} {a : Act} {w : World} (hi : ops[i]? = some oi)
    (hs : Region.noSelect ops = true) (hf : Region.free md ops l i = true) (hr : (Region.ready md ops l).contains i = true)
    (hQ : ∀ c a w, Q (.panic c) (a.put oi.dst v) w → Q (.panic c) a w) (hlw : LateWait md ops late i = true) (hE : (late.all fun k => !l.getD k true) = true) (hy : YieldsIf P ops (fun w => S0 w ∧ S1 w) oi v a) (hS : S0 w) (hT : S1 w)
    (h : wpAnyL P md ops Q late S0 S1 fuel (l.setIfInBounds i true) (a.put oi.dst v) w) : wpAnyL P md ops Q late S0 S1 (fuel + 1) l a w :=
  wpAnyL_first hi (Region.noSelect_spec hs) hQ hlw fuel l a w (Region.free_spec hi hf) (by simpa using hr) hy (Early.of hE) hS hT h

/-- What yields in every world of S0 may be taken first, whatever has come up. -/
theorem wpAnyL_first0 {i : Nat} {oi : Oper} {v : Value} (hi : ops[i]? = some oi) (hsel : ∀ (j : Nat) (o : Oper) cs b, ops[j]? = some o → o.op ≠ .select cs b)
    (hQ : ∀ c a w, Q (.panic c) (a.put oi.dst v) w → Q (.panic c) a w) (hin : i ∉ late) :
    ∀ (fuel : Nat) (l : Array Bool) (a : Act) (w : World),
      (∀ j oj, ops[j]? = some oj → j ≠ i → l.getD j true = false → (∀ e ∈ oj.after, Region.binds md e = true → e.on ≠ i) → oi.apart ops oj = true) →
      i ∈ Region.ready md ops l → YieldsIf P ops S0 oi v a → S0 w → (Early late l → S1 w) →
      wpAnyL P md ops Q late S0 S1 fuel (l.setIfInBounds i true) (a.put oi.dst v) w → wpAnyL P md ops Q late S0 S1 (fuel + 1) l a w := by
  have up : ∀ l : Array Bool, Early late l → Early late (l.setIfInBounds i true) := fun l h k hk => by
    have hne : i ≠ k := fun e => hin (by rw [e]; exact hk)
    rw [getD_set_ne true hne]; exact h k hk
  have down : ∀ l : Array Bool, Early late (l.setIfInBounds i true) → Early late l := fun l h k hk => by
    have hne : i ≠ k := fun e => hin (by rw [e]; exact hk)
    have := h k hk
    rw [getD_set_ne true hne] at this; exact this
  intro fuel
  induction fuel with
  | zero =>
    intro l a w _ hr hy hS hT H
    refine ⟨fun h => (by rw [h] at hr; cases hr), fun j hj => ?_⟩
    by_cases hji : j = i
    · subst hji; exact hy.wpOp hi hS ⟨⟨hS, fun e => hT (down l e)⟩, H⟩
    · have := ready_mono hj hji
      rw [H.1] at this
      cases this
  | succ fuel ih =>
    intro l a w hfree hr hy hS hT H
    refine ⟨fun h => (by rw [h] at hr; cases hr), fun j hj => ?_⟩
    by_cases hji : j = i
    · subst hji; exact hy.wpOp hi hS ⟨⟨hS, fun e => hT (down l e)⟩, H⟩
    · have h1 := H.2 j (ready_mono hj hji)
      obtain ⟨hjun, oj, hoj, hall⟩ := mem_ready.1 hj
      have hnot : ∀ e ∈ oj.after, Region.binds md e = true → e.on ≠ i := fun e he hb heq => by
        have h1 := hall e he hb
        have h0 := (mem_ready.1 hr).1
        rw [heq] at h1
        rcases Nat.lt_or_ge i l.size with h' | h'
        · simp [h'] at h0 h1; rw [h0] at h1; cases h1
        · simp [Array.getElem?_eq_none h'] at h1
      have h2 := wpOp_putIf hoj (hfree j oj hoj hji hjun hnot) (fun cs b => hsel i oi cs b hi) (fun cs b => hsel j oj cs b hoj) hQ hy h1
      have hfree' : ∀ k ok, ops[k]? = some ok → k ≠ i → (l.setIfInBounds j true).getD k true = false →
          (∀ e ∈ ok.after, Region.binds md e = true → e.on ≠ i) → oi.apart ops ok = true := fun k ok hk hki hun hno => by
        refine hfree k ok hk hki ?_ hno
        by_cases hjk : j = k
        · subst hjk; exact hjun
        · rw [getD_set_ne true hjk] at hun; exact hun
      have hc : (l.setIfInBounds i true).setIfInBounds j true = (l.setIfInBounds j true).setIfInBounds i true := by rw [Array.setIfInBounds_comm _ _ hji]
      refine wpOp_mono (fun a' w' h3 => ?_) h2
      have hT' : Early late (l.setIfInBounds j true) → S1 w' := fun e => h3.2.1.2 (by rw [hc]; exact up _ e)
      refine ⟨⟨h3.2.1.1, hT'⟩, ih (l.setIfInBounds j true) a' w' hfree' (ready_mono hr (Ne.symm hji)) h3.1 h3.2.1.1 hT' ?_⟩
      rw [← hc]
      exact h3.2.2

theorem wpAnyL_take0 {i : Nat} {oi : Oper} {v : Value} {fuel : Nat} {l : Array Bool} {a : Act} {w : World} (hi : ops[i]? = some oi)
    (hs : Region.noSelect ops = true) (hf : Region.free md ops l i = true) (hr : (Region.ready md ops l).contains i = true)
    (hQ : ∀ c a w, Q (.panic c) (a.put oi.dst v) w → Q (.panic c) a w) (hin : (!late.contains i) = true) (hy : YieldsIf P ops S0 oi v a) (hS : S0 w) (hT : Early late l → S1 w)
    (h : wpAnyL P md ops Q late S0 S1 fuel (l.setIfInBounds i true) (a.put oi.dst v) w) : wpAnyL P md ops Q late S0 S1 (fuel + 1) l a w :=
  wpAnyL_first0 hi (Region.noSelect_spec hs) hQ (by simpa using hin) fuel l a w (Region.free_spec hi hf) (by simpa using hr) hy hS hT h

theorem wpAnyL_done {l : Array Bool} {a : Act} {w : World} (hr : Region.ready md ops l = []) (h : Q .normal a w) : ∀ fuel, wpAnyL P md ops Q late S0 S1 fuel l a w
  | 0 => ⟨hr, h⟩
  | _ + 1 => ⟨fun _ => h, by rw [hr]; simp⟩

/-- Each of 'rs' comes up next. -/
def AllReadyL (P : Program) (md : Region.Mode) (ops : Array Oper) (Q : Exit → Act → World → Prop) (late : List Nat) (S0 S1 : World → Prop) (fuel : Nat) (l : Array Bool) (a : Act) (w : World) (rs : List Nat) : Prop :=
  ∀ i ∈ rs, wpOp P ops Q i (fun a' w' => (S0 w' ∧ (Early late (l.setIfInBounds i true) → S1 w')) ∧ wpAnyL P md ops Q late S0 S1 fuel (l.setIfInBounds i true) a' w') a w
theorem AllReadyL.nil {fuel : Nat} {l : Array Bool} {a : Act} {w : World} : AllReadyL P md ops Q late S0 S1 fuel l a w [] := fun _ h => by cases h
theorem AllReadyL.cons {fuel : Nat} {l : Array Bool} {a : Act} {w : World} {i : Nat} {o : Oper} {rs : List Nat} (ho : ops[i]? = some o)
    (h : ∀ K' : Act → World → Prop, Shut (∀ a w, S0 w → (Early late (l.setIfInBounds i true) → S1 w) → (S0 w → wpAnyL P md ops Q late S0 S1 fuel (l.setIfInBounds i true) a w) → K' a w) → if Region.wanted o (yielded ops a.tmps) = true then Oper.wp P o a w K' Q else K' (a.put o.dst undef) w)
    (hs : AllReadyL P md ops Q late S0 S1 fuel l a w rs) : AllReadyL P md ops Q late S0 S1 fuel l a w (i :: rs) := fun j hj => by
  rcases List.mem_cons.1 hj with rfl | hj
  · exact wpOp_step ho (fun K' hK => h K' (fun a w hS hT hW => hK a w ⟨⟨hS, hT⟩, hW hS⟩))
  · exact hs j hj
theorem wpAnyL_ready {rs : List Nat} {fuel : Nat} {l : Array Bool} {a : Act} {w : World} (hr : Region.ready md ops l = rs) (hne : rs ≠ [])
    (h : AllReadyL P md ops Q late S0 S1 fuel l a w rs) : wpAnyL P md ops Q late S0 S1 (fuel + 1) l a w :=
  ⟨fun h0 => absurd (hr ▸ h0) hne, hr ▸ h⟩
/-- Behind all that is late, by other words. -/
theorem wpAnyL_switch {late' : List Nat} {S0' S1' : World → Prop} (h0 : ∀ w, S0' w → S0 w) (k : Nat) (hk : late.contains k = true) : ∀ (fuel : Nat) (l : Array Bool) (a : Act) (w : World), l.getD k true = true →
    wpAnyL P md ops Q late' S0' S1' fuel l a w → wpAnyL P md ops Q late S0 S1 fuel l a w
  | 0, _, _, _, _, h => h
  | fuel + 1, l, a, w, hl, h => by
    have hl' : ∀ i, (l.setIfInBounds i true).getD k true = true := fun i => by
      by_cases e : i = k
      · subst e
        rcases Nat.lt_or_ge i l.size with h' | h'
        · simp [h']
        · simp [h']
      · rw [getD_set_ne true e]; exact hl
    exact ⟨h.1, fun i hi => wpOp_mono (fun a' w' h' => ⟨⟨h0 _ h'.1.1, Early.no k hk (hl' i)⟩, wpAnyL_switch h0 k hk fuel _ a' w' (hl' i) h'.2⟩) (h.2 i hi)⟩
theorem wp_region_late {id : Nat} {a : Act} {w : World} (late : List Nat) (S0 S1 : World → Prop) (hm : P.follows .mixedOrders = true) (hS : S0 w.drew) (hT : S1 w.drew)
    (h : S0 w.drew → S1 w.drew → wpAnyL P .any ops Q late S0 S1 ops.size (Array.replicate ops.size false) a w.drew) : (Code.region id ops true).wp P Q a w :=
  wp_region_any hm (wpAny_of_late _ _ _ _ (h hS hT))
end
end Go.Proofs.Ytlecedlondamiaa
