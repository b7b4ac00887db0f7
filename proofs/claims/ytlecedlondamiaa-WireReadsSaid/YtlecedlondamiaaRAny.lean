/-
  shuttlecocklaw01.asked, whatever is asked but a section or to go on above; 'append' of one cell, as one operation.
-/
import Derived.Test.YtlecedlondamiaaRStk
namespace Go.Proofs.Ytlecedlondamiaa
open Go.RowKit
set_option linter.unusedVariables false
theorem asked_any (M : Mem) (w : World) (pr pw g h dd most : Nat) (s : RS) (hok : Ok M w) (p : Pair M w pr pw g h s) (h5 : dd % 8 ≠ 5) (h7 : dd % 8 ≠ 7) (hd2 : dd < 256) (hmost : most < 18446744073709551616) :
    Calls Try.prog 9 #[.pointer (some ⟨pr, 0, none⟩), .pointer (some ⟨pw, 0, none⟩), .agg #[.int .u8 dd, .int .u64 most]] w fun e w' => e = .returned (.bool true) ∧ ∃ s', Nx [some g, some h] M w M w' ∧ Pair M w' pr pw g h s' := by
  have hc : dd % 8 = 0 ∨ dd % 8 = 1 ∨ dd % 8 = 2 ∨ dd % 8 = 3 ∨ dd % 8 = 4 ∨ dd % 8 = 6 := by omega
  rcases hc with hd | hd | hd | hd | hd | hd
  · exact asked0 M w pr pw g h dd most s hok p hd hd2 hmost
  · exact asked1 M w pr pw g h dd most s hok p hd hd2 hmost
  · exact asked2 M w pr pw g h dd most s hok p hd hd2 hmost
  · exact asked3 M w pr pw g h dd most s hok p hd hd2 hmost
  · exact asked4 M w pr pw g h dd most s hok p hd hd2 hmost
  · exact asked6 M w pr pw g h dd most s hok p hd hd2 hmost
theorem oper_app1 {P : Program} {M : Mem} {w : World} {e : TypeId} {u : Value} {o : Oper} {a : Act} {K : Act → World → Prop} {Q : Exit → Act → World → Prop} (s x : Operand) (t : TypeId)
    (ho : o.op = .call { callee := .builtin .append, args := #[s, x], argTypes := #[t, t] })
    (z : Value) (bytes : Nat) (ht : P.underlying t = some (.slice e)) (hinfo : (P.info? e).map (fun i => (i.zero, i.size, i.bytes)) = some (some z, 1, bytes)) (hzs : z.cells.size = 1)
    (hu : u.oneCell' = true) (hok : Ok M w) {v : Value} {n : Nat} {xs : List Value} (hown : Tip M w e 1 v n xs) (hs : a.eval s = v) (b c : Nat) (hx : a.eval x = .slice (some ⟨b, 0, none⟩) 1 c) (hc : w.cell? ⟨b, 0, none⟩ = some u)
    (hb : (n + 1) * bytes ≤ 140737488355328) (hb0 : 0 < bytes)
    (h : ∀ v' w', Tip M w' e 1 v' (n + 1) (xs ++ [u]) → Nx [v.ownBlock] M w M w' → Of w v v' → K (a.put o.dst v') w') : Oper.wp P o a w K Q := by
  obtain ⟨i, hi, hz0, hz1, hz2⟩ := info_parts hinfo
  have hm : n + 1 ≤ maxLen := by
    have := Nat.le_mul_of_pos_right (n + 1) hb0
    simp only [maxLen]; omega
  obtain ⟨v', w', hr, h2, h3, h4⟩ := run_append_tip (P := P) t o.type e i z 1 bytes ht hi hz0 hz1 hz2 hzs (by decide) hok v n xs hown ⟨b, 0, none⟩ 1 c [u] rfl (by
    intro j y hy
    match j, hy with
    | 0, hy =>
      simp at hy
      subst hy
      rw [add_at]
      exact hc
    | j + 1, hy => simp at hy) (by simpa using hu) hm hb
  unfold Oper.wp execOp
  simp only [ho, resolve, invoke, builtin, Sem.run_bind, Sem.run_pure, Result.andThen_ok, List.map_toArray, List.map_cons, List.map_nil, hs, hx, hr]
  exact h v' w' h2 h3 h4
theorem Stk.tipa {B : Nat} {M : Mem} {w w' : World} {p q : Nat} {va vb : Value} {g h : Nat} {s : RS} {L : List (Nat × Nat × RS)} (S : Stk B M w p q va vb g h s L) (n : Nx [] M w M w') :
    Tip M w' 29 1 va L.length (L.map fun x => pt x.1) := by simpa using (S.ra.nx n (.inr (by simp))).tip
theorem Stk.tipb {B : Nat} {M : Mem} {w w' W3 W6 : World} {p q : Nat} {va vb : Value} {g h : Nat} {s : RS} {L : List (Nat × Nat × RS)} (S : Stk B M w p q va vb g h s L) (n : Nx [] M w M w') (nA : Nx [va.ownBlock] M w' M W3) (n3 : Nx [] M W3 M W6) :
    Tip M W6 31 1 vb L.length (L.map fun x => pt x.2.1) := by
  have d2 := S.rb.ne2 S.ra (by decide)
  simpa using (((S.rb.nx n (.inr (by simp))).nx nA (by simpa using d2)).nx n3 (.inr (by simp))).tip
/-- What stands in another block still stands. -/
theorem Stk.cella {B : Nat} {M : Mem} {w w' W3 : World} {p q : Nat} {va vb : Value} {g h : Nat} {s : RS} {L : List (Nat × Nat × RS)} (S : Stk B M w p q va vb g h s L) (nA : Nx [va.ownBlock] M w' M W3) {b : Nat} {u : Value} (hb : w.heap.size ≤ b ∨ b = p ∨ b = q)
    (hc : w'.cell? ⟨b, 0, none⟩ = some u) : W3.cell? ⟨b, 0, none⟩ = some u := nA.cellk hc (by
  simp only [List.mem_singleton]
  intro e
  rcases hb with h1 | rfl | rfl
  · have := S.ra.lt e.symm; omega
  · exact S.na e.symm
  · exact S.ra.ne S.pr.vw (by decide) e.symm)
theorem Stk.cellb {B : Nat} {M : Mem} {w w' W3 : World} {p q : Nat} {va vb : Value} {g h : Nat} {s : RS} {L : List (Nat × Nat × RS)} (S : Stk B M w p q va vb g h s L) (nB : Nx [vb.ownBlock] M w' M W3) {b : Nat} {u : Value} (hb : w.heap.size ≤ b ∨ b = p ∨ b = q)
    (hc : w'.cell? ⟨b, 0, none⟩ = some u) : W3.cell? ⟨b, 0, none⟩ = some u := nB.cellk hc (by
  simp only [List.mem_singleton]
  intro e
  rcases hb with h1 | rfl | rfl
  · have := S.rb.lt e.symm; omega
  · exact S.rb.ne S.pr.vr (by decide) e.symm
  · exact S.nb e.symm)
/-- Both rows, one longer each, whatever else was made between. -/
theorem Stk.app2 {B : Nat} {M : Mem} {wr W2 W3 W6 W7 W8 : World} {p q : Nat} {va vb va' vb' : Value} {g h : Nat} {s : RS} {L : List (Nat × Nat × RS)} (S : Stk B M wr p q va vb g h s L) (n2 : Nx [] M wr M W2)
    (t1 : Tip M W3 29 1 va' (L.length + 1) ((L.map fun x => pt x.1) ++ [pt g])) (nA : Nx [va.ownBlock] M W2 M W3) (oA : Of W2 va va') (n3 : Nx [] M W3 M W6)
    (t2 : Tip M W7 31 1 vb' (L.length + 1) ((L.map fun x => pt x.2.1) ++ [pt h])) (nB : Nx [vb.ownBlock] M W6 M W7) (oB : Of W6 vb vb') (n7 : Nx [] M W7 M W8) :
    Row M W8 29 va' ((L ++ [(g, h, s)]).map fun x => pt x.1) ∧ Row M W8 31 vb' ((L ++ [(g, h, s)]).map fun x => pt x.2.1) ∧ Nx [va.ownBlock, vb.ownBlock] M wr M W8 ∧ Of wr va va' ∧ Of wr vb vb' := by
  have z2 := n2.upd.size
  have z3 := nA.upd.size
  have z6 := n3.upd.size
  have ra2 := S.ra.nx n2 (.inr (by simp))
  have rb2 := S.rb.nx n2 (.inr (by simp))
  have d1 := S.ra.ne2 S.rb (by decide)
  have d2 := S.rb.ne2 S.ra (by decide)
  have ra3 : Row M W3 29 va' ((L ++ [(g, h, s)]).map fun x => pt x.1) := by
    have := ra2.of (ys := (L.map fun x => pt x.1) ++ [pt g]) n2.ok (by simpa using t1) oA
    simpa using this
  have rb3 := rb2.nx nA (by simpa using d2)
  have rb6 := rb3.nx n3 (.inr (by simp))
  have rb7 : Row M W7 31 vb' ((L ++ [(g, h, s)]).map fun x => pt x.2.1) := by
    have := rb6.of (ys := (L.map fun x => pt x.2.1) ++ [pt h]) n3.ok (by simpa using t2) oB
    simpa using this
  have ra7 := (ra3.nx n3 (.inr (by simp))).nx nB (by
    cases hk : va'.ownBlock with
    | none => exact .inl rfl
    | some k =>
      refine .inr ?_
      simp only [List.mem_singleton]
      intro e
      rcases oA k hk with h1 | h1
      · rcases d1 with h2 | h2
        · rw [h2] at h1; cases h1
        · exact h2 (h1.trans e)
      · have := S.rb.lt e.symm
        omega)
  refine ⟨ra7.nx n7 (.inr (by simp)), rb7.nx n7 (.inr (by simp)), ?_, fun b hb => (oA b hb).imp id (Nat.le_trans z2), fun b hb => (oB b hb).imp id fun h1 => by omega⟩
  exact ((((n2.weak (S' := [va.ownBlock, vb.ownBlock]) (by simp)).trans nA (by intro x hx _; simp at hx; simp [hx])).trans n3 (by simp)).trans nB (by intro x hx _; simp at hx; simp [hx])).trans n7 (by simp)
theorem info_ptr1 : (Try.prog.info? 29).map (fun i => (i.zero, i.size, i.bytes)) = some (some (.pointer none), 1, 8) := by kernel_rfl
theorem info_ptr2 : (Try.prog.info? 31).map (fun i => (i.zero, i.size, i.bytes)) = some (some (.pointer none), 1, 8) := by kernel_rfl
theorem wrap_i64_in {n : Nat} (h : n < 9223372036854775808) : IntKind.i64.wrap (n : Int) = n := by
  simp only [IntKind.wrap, IntKind.bits, IntKind.signed]
  simp
  omega
theorem Row.drew {M : Mem} {w : World} {e : TypeId} {v : Value} {xs : List Value} (h : Row M w e v xs) : Row M w.drew e v xs := ⟨h.own, h.free⟩
theorem Pair.drew {M : Mem} {w : World} {pr pw g h : Nat} {s : RS} (p : Pair M w pr pw g h s) : Pair M w.drew pr pw g h s := ⟨p.vr.drew, p.vw.drew, p.r.drew, p.w.drew⟩
/-- The rows have grown: the readers at hand are as they were. -/
theorem Stk.grown {B : Nat} {M : Mem} {w w1 : World} {p q : Nat} {va vb : Value} {g h : Nat} {s : RS} {L : List (Nat × Nat × RS)} (S : Stk B M w p q va vb g h s L) (n : Nx [va.ownBlock, vb.ownBlock] M w M w1) : Pair M w1 p q g h s := by
  have k1 := S.pr.r.nrow S.ra (by decide)
  have k2 := S.pr.r.nrow S.rb (by decide)
  have k3 := S.ra.ne S.pr.w.1 (by decide)
  have k4 := S.rb.ne S.pr.w.1 (by decide)
  have k5 := S.ra.ne S.pr.vw (by decide)
  have k6 := S.rb.ne S.pr.vr (by decide)
  have out : ∀ k, va.ownBlock ≠ some k → vb.ownBlock ≠ some k → some k ∉ [va.ownBlock, vb.ownBlock] := fun k e1 e2 => by
    simp only [List.mem_cons, List.not_mem_nil, or_false, not_or]
    exact ⟨Ne.symm e1, Ne.symm e2⟩
  exact S.pr.nx n ⟨out p S.na k6, out q k5 S.nb, out g k1 k2, out h k3 k4⟩
theorem Stk.drew {B : Nat} {M : Mem} {w : World} {p q : Nat} {va vb : Value} {g h : Nat} {s : RS} {L : List (Nat × Nat × RS)} (S : Stk B M w p q va vb g h s L) : Stk B M w.drew p q va vb g h s L :=
  ⟨⟨S.pr.vr.drew, S.pr.vw.drew, S.pr.r.drew, S.pr.w.drew⟩, ⟨S.ra.own, S.ra.free⟩, ⟨S.rb.own, S.rb.free⟩, fun x hx => ⟨(S.all x hx).1.drew, (S.all x hx).2.1.drew, (S.all x hx).2.2⟩, S.ga, S.ha, S.nda, S.ndb, S.na, S.nb, S.lp, S.lv⟩
end Go.Proofs.Ytlecedlondamiaa
