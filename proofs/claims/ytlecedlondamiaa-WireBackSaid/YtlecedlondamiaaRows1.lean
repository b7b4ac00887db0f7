/-
  Rows of elements of one cell that came in: numbers, strings.
-/
import Derived.Test.YtlecedlondamiaaAsks
namespace Go.Proofs.Ytlecedlondamiaa
open Go Go.RowKit Go.ChangeShapes Go.WideShapes Go.ChangeAt
/-- The slice v reads as the cells xs. -/
def RdV (M : Mem) (v : Value) (xs : List Value) : Prop :=
  ∃ a c, v = .slice a xs.length c ∧ xs.length ≤ c ∧ c ≤ maxLen ∧ ∀ i x, xs[i]? = some x → ∃ b o, a = some ⟨b, o, none⟩ ∧ M b (o + i) = some x
theorem RdV.mono {M M' : Mem} {v : Value} {l : List Value} (h : RdV M v l) (k : Le M M') : RdV M' v l := by
  obtain ⟨a, c, hv, h1, h2, h3⟩ := h
  exact ⟨a, c, hv, h1, h2, fun i x hx => let ⟨b, o, ha, hm⟩ := h3 i x hx; ⟨b, o, ha, k _ _ _ hm⟩⟩
theorem row_open {H : Type} {enc : TypeId × Value → H} {P : Program} {W : World} {t e : TypeId} {v : Value} {d : DataW H} {p : List MemPlace} {q : Value → Prop} (ht : P.underlying t = some (.slice e)) (hc : P.cellsOf e = 1)
    (hp : ∀ n cs y, DataW.trod enc P W 0 (fun _ => true) true n e cs = some y → ∃ u, cs = [u] ∧ q u)
    {base : Nat} (hok : Value.okWide P W .any base t v) (h : DataW.Trod enc P W 0 (fun _ => true) true t v d p) : ∃ xs, RdV (Mem.all W) v xs ∧ ∀ x ∈ xs, q x := by
  obtain ⟨a0, len, cap, rfl⟩ := okWide_slice ht hok
  obtain ⟨fuel, hf⟩ := h
  rcases DataW.trod_slice ht hf with ⟨hcs, _⟩ | ⟨a, len', cap', elems, rest, n, _, hcs, _, _, hl, hm, hlen, hel, _⟩
  · simp [Value.cells] at hcs
    obtain ⟨rfl, rfl, rfl⟩ := hcs
    exact ⟨[], ⟨none, 0, rfl, Nat.le_refl _, Nat.zero_le _, by simp⟩, by simp⟩
  · simp [Value.cells] at hcs
    obtain ⟨rfl, rfl, rfl⟩ := hcs
    have each : ∀ i, i < len → ∃ x : Value, W.cell? (a.add i) = some x ∧ q x := by
      intro i hi
      have hb := hel i hi
      rw [hc, List.getElem?_eq_getElem (by omega), Option.bind_eq_some_iff] at hb
      obtain ⟨cs, hcs, hy⟩ := hb
      obtain ⟨u, rfl, hu⟩ := hp _ _ _ hy
      rw [Nat.mul_one] at hcs
      exact ⟨u, cell_of_cells?_one hcs, hu⟩
    obtain ⟨l, hll, hp2⟩ := list_of (p := fun i (x : Value) => W.cell? (a.add i) = some x ∧ q x) len each
    refine ⟨l, ⟨some a, cap, by rw [hll], by omega, hm, fun i x hx => ?_⟩, fun x hx => ?_⟩
    · have hi : 0 < len := by have := (List.getElem?_eq_some_iff.1 hx).1; omega
      have ha0 : a.add 0 = a := by unfold Addr.add; simp
      obtain ⟨x0, hx0⟩ : ∃ x0, l[0]? = some x0 := ⟨_, List.getElem?_eq_getElem (by omega)⟩
      have hs := cell_spot (hp2 0 x0 hx0).1
      rw [ha0] at hs
      have h2 := (hp2 i x hx).1
      rw [hs, add_at] at h2
      exact ⟨a.block, a.off, by rw [← hs], h2⟩
    · obtain ⟨i, hi⟩ := List.getElem?_of_mem hx
      exact (hp2 i x hi).2
theorem list_map_of {α : Type} {f : α → Value} {q : α → Prop} : ∀ xs : List Value, (∀ x ∈ xs, ∃ a, x = f a ∧ q a) → ∃ l : List α, xs = l.map f ∧ ∀ a ∈ l, q a
  | [], _ => ⟨[], rfl, by simp⟩
  | x :: xs, h => by
    obtain ⟨a, rfl, ha⟩ := h x (by simp)
    obtain ⟨l, rfl, hl⟩ := list_map_of xs (fun y hy => h y (by simp [hy]))
    exact ⟨a :: l, rfl, by simpa using ⟨ha, hl⟩⟩
abbrev nv (n : Nat) : Value := .int .u64 n
abbrev sv (l : List UInt8) : Value := .string (bs l)
theorem nums_open {H : Type} {enc : TypeId × Value → H} {P : Program} {W : World} {t e : TypeId} {v : Value} {d : DataW H} {p : List MemPlace} (ht : P.underlying t = some (.slice e)) (he : P.underlying e = some (.int .u64)) (hc : P.cellsOf e = 1)
    {base : Nat} (hok : Value.okWide P W .any base t v) (h : DataW.Trod enc P W 0 (fun _ => true) true t v d p) : ∃ l : List Nat, RdV (Mem.all W) v (l.map nv) ∧ ∀ n ∈ l, n < 18446744073709551616 := by
  obtain ⟨xs, hx, hq⟩ := row_open (q := fun u => ∃ n : Nat, u = nv n ∧ n < 18446744073709551616) ht hc (fun n cs y hy => by
    obtain ⟨m, rfl, _, hw⟩ := DataW.trod_int he hy
    have k := bounds_u64 hw
    obtain ⟨m, rfl⟩ := Int.eq_ofNat_of_zero_le k.1
    exact ⟨_, rfl, m, rfl, by omega⟩) hok h
  obtain ⟨l, rfl, hl⟩ := list_map_of xs hq
  exact ⟨l, hx, hl⟩
theorem strs_open {H : Type} {enc : TypeId × Value → H} {P : Program} {W : World} {t e : TypeId} {v : Value} {d : DataW H} {p : List MemPlace} (ht : P.underlying t = some (.slice e)) (he : P.underlying e = some .string) (hc : P.cellsOf e = 1)
    {base : Nat} (hok : Value.okWide P W .any base t v) (h : DataW.Trod enc P W 0 (fun _ => true) true t v d p) : ∃ l : List (List UInt8), RdV (Mem.all W) v (l.map sv) ∧ ∀ s ∈ l, s.length ≤ maxLen := by
  obtain ⟨xs, hx, hq⟩ := row_open (q := fun u => ∃ l : List UInt8, u = sv l ∧ l.length ≤ maxLen) ht hc (fun n cs y hy => by
    obtain ⟨s, rfl, _, hs⟩ := DataW.trod_string he hy
    exact ⟨_, rfl, s.data.toList, rfl, hs⟩) hok h
  obtain ⟨l, rfl, hl⟩ := list_map_of xs hq
  exact ⟨l, hx, hl⟩
end Go.Proofs.Ytlecedlondamiaa
