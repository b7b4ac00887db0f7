/-
  A row of asks (two cells each), and rows of pointers of one's own.
-/
import Derived.Test.YtlecedlondamiaaOpen
import Derived.ChangeSame
namespace Go.Proofs.Ytlecedlondamiaa
open Go Go.RowKit Go.ChangeShapes Go.WideShapes Go.ChangeAt
def RdA (M : Mem) (v : Value) (l : List (Nat × Nat)) : Prop :=
  ∃ a c, v = .slice a l.length c ∧ l.length ≤ c ∧ c ≤ maxLen ∧
    ∀ i x, l[i]? = some x → ∃ b o, a = some ⟨b, o, none⟩ ∧ M b (o + i * 2) = some (.int .u8 (x.1 : Nat)) ∧ M b (o + i * 2 + 1) = some (.int .u64 (x.2 : Nat)) ∧ x.1 < 256 ∧ x.2 < 18446744073709551616
theorem list_of {α : Type} {p : Nat → α → Prop} : ∀ n, (∀ i, i < n → ∃ x, p i x) → ∃ l : List α, l.length = n ∧ ∀ i x, l[i]? = some x → p i x
  | 0, _ => ⟨[], rfl, by simp⟩
  | n + 1, h => by
    obtain ⟨l, hl, hp⟩ := list_of n (fun i hi => h i (by omega))
    obtain ⟨x, hx⟩ := h n (by omega)
    refine ⟨l ++ [x], by simp [hl], fun i y hy => ?_⟩
    rcases Nat.lt_or_ge i l.length with hi | hi
    · rw [List.getElem?_append_left hi] at hy
      exact hp i y hy
    · rw [List.getElem?_append_right hi] at hy
      have : i = n := by
        have := (List.getElem?_eq_some_iff.1 hy).1
        simp at this
        omega
      subst this
      simp [hl] at hy
      exact hy ▸ hx
theorem asks_open {H : Type} {enc : TypeId × Value → H} {P : Program} {W : World} {t e : TypeId} {f0 f1 : Field} {v : Value} {d : DataW H} {p : List MemPlace} (ht : P.underlying t = some (.slice e)) (he : P.underlying e = some (.struct #[f0, f1]))
    (h0 : P.underlying f0.type = some (.int .u8)) (h1 : P.underlying f1.type = some (.int .u64)) (hc : P.cellsOf e = 2) (hc0 : P.cellsOf f0.type = 1) (hc1 : P.cellsOf f1.type = 1) (ho0 : f0.offset = 0) (ho1 : f1.offset = 1)
    {base : Nat} (hok : Value.okWide P W .any base t v) (h : DataW.Trod enc P W 0 (fun _ => true) true t v d p) : ∃ l, RdA (Mem.all W) v l := by
  obtain ⟨a0, len, cap, rfl⟩ := okWide_slice ht hok
  obtain ⟨fuel, hf⟩ := h
  rcases DataW.trod_slice ht hf with ⟨hcs, _⟩ | ⟨a, len', cap', elems, rest, n, _, hcs, _, _, hl, hm, hlen, hel, _⟩
  · simp [Value.cells] at hcs
    obtain ⟨rfl, rfl, rfl⟩ := hcs
    exact ⟨[], none, 0, rfl, Nat.le_refl _, Nat.zero_le _, by simp⟩
  · simp [Value.cells] at hcs
    obtain ⟨rfl, rfl, rfl⟩ := hcs
    have each : ∀ i, i < len → ∃ x : Nat × Nat, W.cell? (a.add (i * 2)) = some (.int .u8 (x.1 : Nat)) ∧ W.cell? ((a.add (i * 2)).add 1) = some (.int .u64 (x.2 : Nat)) ∧ x.1 < 256 ∧ x.2 < 18446744073709551616 := by
      intro i hi
      have hb := hel i hi
      rw [hc, List.getElem?_eq_getElem (by omega), Option.bind_eq_some_iff] at hb
      obtain ⟨cs, hcs, hy⟩ := hb
      obtain ⟨y0, y1, m, _, hl2, g0, g1⟩ := trod_struct2 he hy
      rw [hc] at hl2
      obtain ⟨u0, u1, rfl⟩ : ∃ u0 u1, cs = [u0, u1] := by
        match cs, hl2 with
        | [u0, u1], _ => exact ⟨u0, u1, rfl⟩
      rw [ho0, hc0] at g0
      rw [ho1, hc1] at g1
      obtain ⟨z0, e0, _, w0⟩ := DataW.trod_int h0 g0
      obtain ⟨z1, e1, _, w1⟩ := DataW.trod_int h1 g1
      simp at e0 e1
      subst e0
      subst e1
      have k0 := bounds_u8 w0
      have k1 := bounds_u64 w1
      obtain ⟨z0, rfl⟩ := Int.eq_ofNat_of_zero_le k0.1
      obtain ⟨z1, rfl⟩ := Int.eq_ofNat_of_zero_le k1.1
      unfold World.cells? at hcs
      split at hcs
      · rw [show List.range 2 = [0, 1] from rfl] at hcs
        simp [Option.bind_eq_some_iff] at hcs
        have ha0 : (a.add (i * 2)).add 0 = a.add (i * 2) := by
          have : ∀ b : Addr, b.add 0 = b := fun b => by unfold Addr.add; simp
          exact this _
        rw [ha0] at hcs
        exact ⟨(z0, z1), hcs.1, hcs.2, by omega, by omega⟩
      · cases hcs
    obtain ⟨l, hll, hp⟩ := list_of (p := fun i (x : Nat × Nat) => W.cell? (a.add (i * 2)) = some (.int .u8 (x.1 : Nat)) ∧ W.cell? ((a.add (i * 2)).add 1) = some (.int .u64 (x.2 : Nat)) ∧ x.1 < 256 ∧ x.2 < 18446744073709551616) len each
    refine ⟨l, some a, cap, by rw [hll], by omega, hm, fun i x hx => ?_⟩
    obtain ⟨h2, h3, h4, h5⟩ := hp i x hx
    have hi : 0 < len := by have := (List.getElem?_eq_some_iff.1 hx).1; omega
    have ha0 : a.add (0 * 2) = a := by unfold Addr.add; simp
    obtain ⟨x0, hx0⟩ : ∃ x0, l[0]? = some x0 := ⟨_, List.getElem?_eq_getElem (by omega)⟩
    have hs := cell_spot (hp 0 x0 hx0).1
    rw [ha0] at hs
    rw [hs, add_at] at h2
    rw [hs, add_at, add_at] at h3
    exact ⟨a.block, a.off, by rw [← hs], h2, h3, h4, h5⟩

/-- A row of one's own of which no cell is kept. -/
structure Row (M : Mem) (w : World) (e : TypeId) (v : Value) (xs : List Value) : Prop where
  own : w.ownsRow 0 e 1 v xs.length xs
  free : ∀ g, v.ownBlock = some g → ∀ o, M g o = none
theorem Row.nil (M : Mem) (w : World) (e : TypeId) : Row M w e (.slice none 0 0) [] := ⟨w.ownsRow_nil 0 e 1, fun g h => by simp [Value.ownBlock] at h⟩
theorem Row.tip {M : Mem} {w : World} {e : TypeId} {v : Value} {xs : List Value} (h : Row M w e v xs) : Tip M w e 1 v xs.length xs := ⟨h.own, fun g hg o _ => h.free g hg o⟩
theorem Row.lt {M : Mem} {w : World} {e : TypeId} {v : Value} {xs : List Value} (h : Row M w e v xs) {k : Nat} (hk : v.ownBlock = some k) : k < w.heap.size := h.tip.lt hk
theorem Row.nx {S : List (Option Nat)} {M M' : Mem} {w w' : World} {e : TypeId} {v : Value} {xs : List Value} (h : Row M w e v xs) (x : Nx S M w M' w') (hv : v.ownBlock = none ∨ v.ownBlock ∉ S) : Row M' w' e v xs :=
  ⟨(h.tip.nx x hv).own, fun g hg o => (x.own g (h.lt hg) (by rcases hv with h0 | h0 <;> simp_all) o).trans (h.free g hg o)⟩
theorem Row.of {M : Mem} {w w' : World} {e : TypeId} {v v' : Value} {xs ys : List Value} (h : Row M w e v xs) (hok : Ok M w) (ht : Tip M w' e 1 v' ys.length ys) (hof : Of w v v') : Row M w' e v' ys :=
  ⟨ht.own, fun g hg o => by
    rcases hof g hg with h1 | h1
    · exact h.free g h1 o
    · exact hok.none_ h1 o⟩
theorem Row.take {M : Mem} {w : World} {e : TypeId} {a : Option Addr} {n c : Nat} {xs : List Value} (h : Row M w e (.slice a n c) xs) (k : Nat) (hk : k ≤ xs.length) : Row M w e (.slice a k c) (xs.take k) := by
  refine ⟨⟨by simp, ?_⟩, fun g hg => h.free g (by cases a <;> simp [Value.ownBlock] at hg ⊢; exact hg)⟩
  have hkl : (xs.take k).length = k := by simp; omega
  rcases h.own.2 with ⟨h1, h2⟩ | ⟨g, cap, cur, h1, h2, h3, h4, h5, h6, h7⟩
  · cases h1
    obtain rfl : k = 0 := by omega
    exact .inl ⟨rfl, by simp⟩
  · cases h1
    refine .inr ⟨g, _, cur, ?_, h2, h3, ?_, h5, h6, ?_⟩
    · rw [hkl]
    · omega
    · rw [hkl, ← h7, List.take_take]
      congr 1
      omega
/-- What a row of one's own looks like. -/
theorem Row.open {M : Mem} {w : World} {e : TypeId} {v : Value} {xs : List Value} (h : Row M w e v xs) : ∃ a c, v = .slice a xs.length c ∧ xs.length ≤ c ∧ c ≤ 9223372036854775807 ∧
    ∀ i x, xs[i]? = some x → ∃ b, a = some ⟨b, 0, none⟩ ∧ w.cell? ⟨b, i, none⟩ = some x := by
  rcases h.own.2 with ⟨h1, h2⟩ | ⟨g, cap, cur, h1, h2, h3, h4, h5, h6, h7⟩
  · refine ⟨none, 0, by rw [h1, h2], by omega, by omega, fun i x hx => ?_⟩
    rw [List.eq_nil_of_length_eq_zero h2] at hx
    simp at hx
  · refine ⟨_, cap, h1, h4, h5, fun i x hx => ⟨g, rfl, ?_⟩⟩
    have := h.own.cells (g := g) (by rw [h1]; rfl) i x hx
    rwa [add_at, Nat.zero_add] at this
end Go.Proofs.Ytlecedlondamiaa
