/-
  The state of WireReads' loop: the two readers at hand, and the rows of those above.
-/
import Derived.Test.YtlecedlondamiaaRBeg
import Derived.Test.YtlecedlondamiaaAsks
namespace Go.Proofs.Ytlecedlondamiaa
open Go.RowKit
set_option linter.unusedVariables false
abbrev pt (g : Nat) : Value := .pointer (some ⟨g, 0, none⟩)
structure Stk (B : Nat) (M : Mem) (w : World) (p q : Nat) (va vb : Value) (g h : Nat) (s : RS) (L : List (Nat × Nat × RS)) : Prop where
  pr : Pair M w p q g h s
  ra : Row M w 29 va (L.map fun x => pt x.1)
  rb : Row M w 31 vb (L.map fun x => pt x.2.1)
  all : ∀ x ∈ L, Rdr M w x.1 x.2.2 ∧ Rfr M w x.2.1 x.2.2 ∧ B ≤ x.1 ∧ B ≤ x.2.1
  ga : ∀ x ∈ L, x.1 ≠ g
  ha : ∀ x ∈ L, x.2.1 ≠ h
  nda : (L.map (·.1)).Nodup
  ndb : (L.map (·.2.1)).Nodup
  na : va.ownBlock ≠ some p
  nb : vb.ownBlock ≠ some q
  lp : B ≤ p ∧ B ≤ q ∧ B ≤ g ∧ B ≤ h
  lv : (∀ k, va.ownBlock = some k → B ≤ k) ∧ (∀ k, vb.ownBlock = some k → B ≤ k)
theorem Row.ne {M M' : Mem} {w : World} {e t : TypeId} {v : Value} {xs : List Value} {g : Nat} {cs : Array Value} (h : Row M w e v xs) (hb : Blk M' w g cs t) (ht : e ≠ t) : v.ownBlock ≠ some g := by
  intro hv
  rcases h.own.2 with ⟨h1, h2⟩ | ⟨b, cap, cur, h1, h2, h3, _⟩
  · rw [h1] at hv; simp [Value.ownBlock] at hv
  · rw [h1] at hv
    simp [Value.ownBlock] at hv
    subst hv
    have := hb.heap.symm.trans h3
    simp only [Option.some.injEq, Obj.cells.injEq] at this
    exact ht this.2.1.symm
theorem Row.ne2 {M M' : Mem} {w : World} {e t : TypeId} {v u : Value} {xs ys : List Value} (h : Row M w e v xs) (h' : Row M' w t u ys) (ht : e ≠ t) : v.ownBlock = none ∨ v.ownBlock ≠ u.ownBlock := by
  rcases h'.own.2 with ⟨h1, h2⟩ | ⟨b, cap, cur, h1, h2, h3, _⟩
  · rw [h1]
    cases hv : v.ownBlock with
    | none => exact .inl rfl
    | some k => exact .inr (by simp [Value.ownBlock])
  · refine .inr ?_
    rw [h1]
    intro hv
    simp [Value.ownBlock] at hv
    rcases h.own.2 with ⟨k1, k2⟩ | ⟨b', cap', cur', k1, k2, k3, _⟩
    · rw [k1] at hv; simp at hv
    · rw [k1] at hv
      simp at hv
      subst hv
      have := h3.symm.trans k3
      simp only [Option.some.injEq, Obj.cells.injEq] at this
      exact ht this.2.1.symm
theorem Rdr.nrow {M M' : Mem} {w : World} {e : TypeId} {v : Value} {xs : List Value} {g : Nat} {s : RS} (h : Rdr M' w g s) (hr : Row M w e v xs) (ht : e ≠ 63) : v.ownBlock ≠ some g := by
  obtain ⟨vb, hb, _⟩ := h
  exact hr.ne hb ht
theorem Stk.open {B : Nat} {M : Mem} {w : World} {p q : Nat} {va vb : Value} {g h : Nat} {s : RS} {L : List (Nat × Nat × RS)} (S : Stk B M w p q va vb g h s L) :
    ∃ a7 c7 a8 c8, va = .slice a7 L.length c7 ∧ vb = .slice a8 L.length c8 ∧ L.length ≤ c7 ∧ L.length ≤ c8 ∧ c7 ≤ 9223372036854775807 ∧ c8 ≤ 9223372036854775807 ∧
      ∀ i x, L[i]? = some x → ∃ b7 b8, a7 = some ⟨b7, 0, none⟩ ∧ a8 = some ⟨b8, 0, none⟩ ∧ w.cell? ⟨b7, i, none⟩ = some (pt x.1) ∧ w.cell? ⟨b8, i, none⟩ = some (pt x.2.1) := by
  obtain ⟨a7, c7, rfl, h1, h2, h3⟩ := S.ra.open
  obtain ⟨a8, c8, rfl, k1, k2, k3⟩ := S.rb.open
  simp only [List.length_map] at *
  refine ⟨a7, c7, a8, c8, rfl, rfl, h1, k1, h2, k2, fun i x hx => ?_⟩
  obtain ⟨b7, e7, f7⟩ := h3 i (pt x.1) (by simp [hx])
  obtain ⟨b8, e8, f8⟩ := k3 i (pt x.2.1) (by simp [hx])
  exact ⟨b7, b8, e7, e8, f7, f8⟩
theorem Stk.drewN {B : Nat} {M : Mem} {w : World} {p q : Nat} {va vb : Value} {g h : Nat} {s : RS} {L : List (Nat × Nat × RS)} (S : Stk B M w p q va vb g h s L) (n : Nat) : Stk B M (w.drewN n) p q va vb g h s L :=
  ⟨⟨⟨S.pr.vr.heap, S.pr.vr.free⟩, ⟨S.pr.vw.heap, S.pr.vw.free⟩, S.pr.r.drewN n, S.pr.w.drewN n⟩, ⟨S.ra.own, S.ra.free⟩, ⟨S.rb.own, S.rb.free⟩, fun x hx => ⟨(S.all x hx).1.drewN n, (S.all x hx).2.1.drewN n, (S.all x hx).2.2⟩, S.ga, S.ha, S.nda, S.ndb, S.na, S.nb, S.lp, S.lv⟩
/-- The reader at hand has been asked. -/
theorem Stk.ask {B : Nat} {M : Mem} {w w' : World} {p q : Nat} {va vb : Value} {g h : Nat} {s s' : RS} {L : List (Nat × Nat × RS)} (S : Stk B M w p q va vb g h s L) (n : Nx [some g, some h] M w M w') (P : Pair M w' p q g h s') : Stk B M w' p q va vb g h s' L := by
  obtain ⟨n1, n2, n3, n4, n5, n6⟩ := S.pr.ne
  have k1 := S.pr.r.nrow S.ra (by decide)
  have k2 := S.pr.r.nrow S.rb (by decide)
  have k3 := S.ra.ne S.pr.w.1 (by decide)
  have k4 := S.rb.ne S.pr.w.1 (by decide)
  refine ⟨P, S.ra.nx n (.inr (by simp [k1, k3])), S.rb.nx n (.inr (by simp [k2, k4])), fun x hx => ?_, S.ga, S.ha, S.nda, S.ndb, S.na, S.nb, S.lp, S.lv⟩
  obtain ⟨a1, a2, a3⟩ := S.all x hx
  have e1 := S.ga x hx
  have e2 := S.ha x hx
  have e3 := a1.ne S.pr.w
  have e4 := S.pr.r.ne a2
  exact ⟨a1.nx n (by simp; omega), a2.nx n (by simp; omega), a3⟩
/-- The reader at hand has been put above, and its section's is at hand. -/
theorem Stk.push {B : Nat} {M : Mem} {w w1 w2 : World} {p q : Nat} {va vb va' vb' : Value} {g h g' h' : Nat} {s s' s2 : RS} {L : List (Nat × Nat × RS)} (S : Stk B M w p q va vb g h s L)
    (n1 : Nx [va.ownBlock, vb.ownBlock] M w M w1) (ra : Row M w1 29 va' ((L ++ [(g, h, s)]).map fun x => pt x.1)) (rb : Row M w1 31 vb' ((L ++ [(g, h, s)]).map fun x => pt x.2.1))
    (oa : Of w va va') (ob : Of w vb vb')
    (n2 : Nx [some p, some q, some g, some h] M w1 M w2) (P : Pair M w2 p q g' h' s') (hg' : w1.heap.size ≤ g') (hh' : w1.heap.size ≤ h') (hg : Rdr M w2 g s2) (hh : Rfr M w2 h s2) :
    Stk B M w2 p q va' vb' g' h' s' (L ++ [(g, h, s2)]) := by
  obtain ⟨e1, e2, e3, e4, e5, e6⟩ := S.pr.ne
  have lr := S.pr.r.lt
  have lw := S.pr.w.lt
  have lq := S.pr.vr.lt
  have lq2 := S.pr.vw.lt
  have z1 := n1.upd.size
  have oa' : ∀ k, va'.ownBlock = some k → k ≠ p ∧ k ≠ q ∧ k ≠ g ∧ k ≠ h ∧ B ≤ k := fun k hk => by
    rcases oa k hk with h1 | h1
    · refine ⟨fun e => S.na (by rw [h1, e]), fun e => S.ra.ne S.pr.vw (by decide) (by rw [h1, e]), fun e => S.pr.r.nrow S.ra (by decide) (by rw [h1, e]), fun e => S.ra.ne S.pr.w.1 (by decide) (by rw [h1, e]), S.lv.1 k h1⟩
    · have := S.lp; omega
  have ob' : ∀ k, vb'.ownBlock = some k → k ≠ p ∧ k ≠ q ∧ k ≠ g ∧ k ≠ h ∧ B ≤ k := fun k hk => by
    rcases ob k hk with h1 | h1
    · refine ⟨fun e => S.rb.ne S.pr.vr (by decide) (by rw [h1, e]), fun e => S.nb (by rw [h1, e]), fun e => S.pr.r.nrow S.rb (by decide) (by rw [h1, e]), fun e => S.rb.ne S.pr.w.1 (by decide) (by rw [h1, e]), S.lv.2 k h1⟩
    · have := S.lp; omega
  have nS : ∀ v : Value, (∀ k, v.ownBlock = some k → k ≠ p ∧ k ≠ q ∧ k ≠ g ∧ k ≠ h ∧ B ≤ k) → v.ownBlock = none ∨ v.ownBlock ∉ [some p, some q, some g, some h] := fun v hv => by
    cases hk : v.ownBlock with
    | none => exact .inl rfl
    | some k => exact .inr (by have := hv k hk; simp; omega)
  have em : ∀ (t : RS), (L ++ [(g, h, t)]).map (fun x => pt x.1) = (L ++ [(g, h, s)]).map (fun x => pt x.1) ∧ (L ++ [(g, h, t)]).map (fun x => pt x.2.1) = (L ++ [(g, h, s)]).map (fun x => pt x.2.1) := fun t => by simp
  have lt1 : ∀ x ∈ L, x.1 < w.heap.size ∧ x.2.1 < w.heap.size := fun x hx => ⟨(S.all x hx).1.lt, (S.all x hx).2.1.lt⟩
  refine ⟨P, by rw [(em s2).1]; exact ra.nx n2 (nS va' oa'), by rw [(em s2).2]; exact rb.nx n2 (nS vb' ob'), fun x hx => ?_, fun x hx => ?_, fun x hx => ?_, ?_, ?_, ?_, ?_, ⟨S.lp.1, S.lp.2.1, by have := S.lp; omega, by have := S.lp; omega⟩, fun k hk => (oa' k hk).2.2.2.2, fun k hk => (ob' k hk).2.2.2.2⟩
  · rcases List.mem_append.1 hx with hx | hx
    · obtain ⟨a1, a2, a3⟩ := S.all x hx
      have f1 := S.ga x hx
      have f2 := S.ha x hx
      have f3 := a1.ne S.pr.w
      have f4 := S.pr.r.ne a2
      have f5 : x.1 ≠ p ∧ x.1 ≠ q := by
        obtain ⟨vb, hb, _⟩ := a1
        exact ⟨hb.ne S.pr.vr (by decide), hb.ne S.pr.vw (by decide)⟩
      have f6 : x.2.1 ≠ p ∧ x.2.1 ≠ q := ⟨a2.1.ne S.pr.vr (by decide), a2.1.ne S.pr.vw (by decide)⟩
      have g1 : some x.1 ∉ [va.ownBlock, vb.ownBlock] := by
        have k1 := a1.nrow S.ra (by decide)
        have k2 := a1.nrow S.rb (by decide)
        simp only [List.mem_cons, List.not_mem_nil, or_false, not_or]
        exact ⟨Ne.symm k1, Ne.symm k2⟩
      have g2 : some x.2.1 ∉ [va.ownBlock, vb.ownBlock] := by
        have k1 := S.ra.ne a2.1 (by decide)
        have k2 := S.rb.ne a2.1 (by decide)
        simp only [List.mem_cons, List.not_mem_nil, or_false, not_or]
        exact ⟨Ne.symm k1, Ne.symm k2⟩
      exact ⟨(a1.nx n1 g1).nx n2 (by simp; omega), (a2.nx n1 g2).nx n2 (by simp; omega), a3⟩
    · simp at hx
      subst hx
      exact ⟨hg, hh, S.lp.2.2.1, S.lp.2.2.2⟩
  · rcases List.mem_append.1 hx with hx | hx
    · have := (lt1 x hx).1; omega
    · simp at hx; subst hx; simp only; omega
  · rcases List.mem_append.1 hx with hx | hx
    · have := (lt1 x hx).2; omega
    · simp at hx; subst hx; simp only; omega
  · rw [List.map_append, List.nodup_append]
    refine ⟨S.nda, by simp, fun a ha b hb => ?_⟩
    simp at hb
    subst hb
    obtain ⟨x, hx, rfl⟩ := List.mem_map.1 ha
    exact S.ga x hx
  · rw [List.map_append, List.nodup_append]
    refine ⟨S.ndb, by simp, fun a ha b hb => ?_⟩
    simp at hb
    subst hb
    obtain ⟨x, hx, rfl⟩ := List.mem_map.1 ha
    exact S.ha x hx
  · intro e; exact (oa' p e).1 rfl
  · intro e; exact (ob' q e).2.1 rfl
/-- The reader above is at hand again. -/
theorem Stk.pop {B : Nat} {M : Mem} {w : World} {p q n1 n2 c1 c2 : Nat} {a1 a2 : Option Addr} {g h : Nat} {s : RS} {L : List (Nat × Nat × RS)} {x : Nat × Nat × RS} (S : Stk B M w p q (.slice a1 n1 c1) (.slice a2 n2 c2) g h s (L ++ [x])) (ok : Ok M w) :
    Stk B M ((w.setCell ⟨p, 0, none⟩ (pt x.1)).setCell ⟨q, 0, none⟩ (pt x.2.1)) p q (.slice a1 L.length c1) (.slice a2 L.length c2) x.1 x.2.1 x.2.2 L := by
  obtain ⟨e1, e2, e3, e4, e5, e6⟩ := S.pr.ne
  have nf : Nx [some p, some q] M w M ((w.setCell ⟨p, 0, none⟩ (pt x.1)).setCell ⟨q, 0, none⟩ (pt x.2.1)) := ((Nx.refl _ ok).setCell S.pr.vr.free (by simp) _).setCell S.pr.vw.free (by simp) _
  have hb1 : (Value.slice a1 L.length c1).ownBlock = (Value.slice a1 n1 c1).ownBlock := by cases a1 <;> rfl
  have hb2 : (Value.slice a2 L.length c2).ownBlock = (Value.slice a2 n2 c2).ownBlock := by cases a2 <;> rfl
  have hx : x ∈ L ++ [x] := by simp
  have h1 := S.ra.take L.length (by simp)
  have h2 := S.rb.take L.length (by simp)
  have t1 : ((L ++ [x]).map fun x => pt x.1).take L.length = L.map fun x => pt x.1 := by simp
  have t2 : ((L ++ [x]).map fun x => pt x.2.1).take L.length = L.map fun x => pt x.2.1 := by simp
  rw [t1] at h1
  rw [t2] at h2
  have rd : ∀ y ∈ L ++ [x], Rdr M ((w.setCell ⟨p, 0, none⟩ (pt x.1)).setCell ⟨q, 0, none⟩ (pt x.2.1)) y.1 y.2.2 ∧ Rfr M ((w.setCell ⟨p, 0, none⟩ (pt x.1)).setCell ⟨q, 0, none⟩ (pt x.2.1)) y.2.1 y.2.2 ∧ B ≤ y.1 ∧ B ≤ y.2.1 := fun y hy => by
    obtain ⟨a1, a2, a3⟩ := S.all y hy
    have f5 : y.1 ≠ p ∧ y.1 ≠ q := by
      obtain ⟨vb, hb, _⟩ := a1
      exact ⟨hb.ne S.pr.vr (by decide), hb.ne S.pr.vw (by decide)⟩
    have f6 : y.2.1 ≠ p ∧ y.2.1 ≠ q := ⟨a2.1.ne S.pr.vr (by decide), a2.1.ne S.pr.vw (by decide)⟩
    exact ⟨a1.nx nf (by simp; omega), a2.nx nf (by simp; omega), a3⟩
  have nd1 := S.nda
  have nd2 := S.ndb
  rw [List.map_append, List.nodup_append] at nd1 nd2
  have q1 := S.ra.ne S.pr.vw (by decide)
  have q2 := S.rb.ne S.pr.vr (by decide)
  have q3 := S.na
  have q4 := S.nb
  refine ⟨⟨(S.pr.vr.set 0 _).far e1 _, (S.pr.vw.far e1.symm _).set 0 _, (rd x hx).1, (rd x hx).2.1⟩, h1.nx nf (.inr (by rw [hb1]; simp [q1, q3])), h2.nx nf (.inr (by rw [hb2]; simp [q2, q4])), fun y hy => rd y (by simp [hy]), fun y hy => ?_, fun y hy => ?_, nd1.1, nd2.1, by rw [hb1]; exact q3, by rw [hb2]; exact q4,
    ⟨S.lp.1, S.lp.2.1, (rd x hx).2.2.1, (rd x hx).2.2.2⟩, by rw [hb1]; exact S.lv.1, by rw [hb2]; exact S.lv.2⟩
  · exact nd1.2.2 y.1 (List.mem_map.2 ⟨y, hy, rfl⟩) x.1 (by simp)
  · exact nd2.2.2 y.2.1 (List.mem_map.2 ⟨y, hy, rfl⟩) x.2.1 (by simp)
end Go.Proofs.Ytlecedlondamiaa
