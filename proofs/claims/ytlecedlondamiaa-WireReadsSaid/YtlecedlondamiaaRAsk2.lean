/-
  shuttlecocklaw01.asked: to give up, and sections.
-/
import Derived.Test.YtlecedlondamiaaRAsk
import Derived.Test.YtlecedlondamiaaLate
namespace Go.Proofs.Ytlecedlondamiaa
open Go.RowKit
set_option maxRecDepth 100000
set_option linter.unusedVariables false
theorem i64_in {n : Nat} (h : n < 20) : IntKind.i64.wrap (n : Int) = n := by
  simp only [IntKind.wrap, IntKind.bits, IntKind.signed]
  simp
  omega
set_option maxHeartbeats 2000000 in
theorem asked6 (M : Mem) (w : World) (pr pw g h dd most : Nat) (s : RS) (hok : Ok M w) (p : Pair M w pr pw g h s) (hd : dd % 8 = 6) (hd2 : dd < 256) (hmost : most < 18446744073709551616) :
    Calls Try.prog 9 #[.pointer (some ⟨pr, 0, none⟩), .pointer (some ⟨pw, 0, none⟩), .agg #[.int .u8 dd, .int .u64 most]] w fun e w' => e = .returned (.bool true) ∧ ∃ s', Nx [some g, some h] M w M w' ∧ Pair M w' pr pw g h s' := by
  obtain ⟨n1, n2, n3, n4, n5, n6⟩ := p.ne
  have c1 : w.cell? ⟨pr, 0, none⟩ = some (.pointer (some ⟨g, 0, none⟩)) := p.vr.cell 0
  have c2 : w.cell? ⟨pw, 0, none⟩ = some (.pointer (some ⟨h, 0, none⟩)) := p.vw.cell 0
  have l1 := p.vr.lt
  have l2 := p.vw.lt
  have l3 := p.r.lt
  have l4 := p.w.lt
  have hm : (dd : Int) % 8 = 6 := by omega
  obtain ⟨x, hwx⟩ : ∃ x : Nat, IntKind.i64.wrap ((most : Int).tmod 20) = (x : Int) := ⟨most % 20, by
    rw [Int.tmod_eq_emod_of_nonneg (by omega), ← i64_in (n := most % 20) (by omega)]
    simp⟩
  have HX := Lib.hid hwx; clear hwx
  have hA : Nx [] M w M (w.alloc (.cells #[.int .u8 dd, .int .u64 most] 38)).drew := ((Nx.refl [] hok).alloc _).drew
  have HA := Lib.hid hA; clear hA
  have P := Lib.hid (p.nx HA.out (by simp)); clear p
  have H1 := Lib.hid (Fail_any M _ g s x HA.out.ok P.out.r)
  have H2 : Hid (∀ W, Ok M W → Rfr M W h s → _) := fun W k1 k2 => RFail_any M W h s x k1 k2
  go_enter Try.func9, Try.ntmps9
  go_wp2_with fail
  go_region_held3 (fun w' => w'.cell? ⟨pr, 0, none⟩ = some (.pointer (some ⟨g, 0, none⟩)) ∧ w'.cell? ⟨pw, 0, none⟩ = some (.pointer (some ⟨h, 0, none⟩)) ∧ w'.cell? ⟨w.heap.size, 1, none⟩ = some (.int .u64 most))
    (first | go_keep | (refine ⟨?_, ?_, ?_⟩ <;> (first | exact hn1.cellk (by simp [*]) (by simp; omega))))
    (first | (go_at_call 28; rw [HX.out]; refine H1.out.mono ?_; rintro _ w1 ⟨rfl, hn1, hr1⟩))
  have c1' : w1.cell? ⟨pr, 0, none⟩ = some (.pointer (some ⟨g, 0, none⟩)) := hn1.cellk (HA.out.cellk c1 (by simp)) (by simp; omega)
  have c2' : w1.cell? ⟨pw, 0, none⟩ = some (.pointer (some ⟨h, 0, none⟩)) := hn1.cellk (HA.out.cellk c2 (by simp)) (by simp; omega)
  have c3' : w1.cell? ⟨w.heap.size, 1, none⟩ = some (.int .u64 most) := hn1.cellk (by simp [*]) (by simp; omega)
  have P1 := Lib.hid (P.out.w.nx hn1 (by simp; omega))
  have hn1d := Lib.hid hn1.drew
  have H2' := Lib.hid (H2.out w1.drew hn1.ok.drew P1.out.drew)
  go_wp2_with fail
  go_region_held3 (fun w' => w'.cell? ⟨pr, 0, none⟩ = some (.pointer (some ⟨g, 0, none⟩)) ∧ w'.cell? ⟨pw, 0, none⟩ = some (.pointer (some ⟨h, 0, none⟩)) ∧ w'.cell? ⟨w.heap.size, 1, none⟩ = some (.int .u64 most))
    (first | go_keep | (refine ⟨?_, ?_, ?_⟩ <;> (first | exact hn2.cellk (by simp [*]) (by simp; omega))))
    (first | (go_at_call 29; rw [HX.out]; refine H2'.out.mono ?_; rintro _ w2 ⟨rfl, hn2, hr2⟩))
  go_wp2
  go_ret
  exact ⟨rfl, s.fail x, ((HA.out.weak (S' := [some g, some h]) (by simp)).trans hn1d.out (fun x hx _ => by simp at hx; simp [hx])).trans hn2 (fun x hx _ => by simp at hx; simp [hx]), ⟨(P.out.vr.nx hn1d.out (by simp; omega)).nx hn2 (by simp; omega), (P.out.vw.nx hn1d.out (by simp; omega)).nx hn2 (by simp; omega), hr1.drew.nx hn2 (by simp; omega), hr2⟩⟩

set_option maxHeartbeats 4000000 in
theorem asked5 (M : Mem) (w : World) (pr pw g h dd most : Nat) (s : RS) (hok : Ok M w) (p : Pair M w pr pw g h s) (hd : dd % 8 = 5) (hd2 : dd < 256) (hmost : most < 18446744073709551616) :
    Calls Try.prog 9 #[.pointer (some ⟨pr, 0, none⟩), .pointer (some ⟨pw, 0, none⟩), .agg #[.int .u8 dd, .int .u64 most]] w fun e w' => e = .returned (.bool true) ∧ ∃ g' h' s' s2, Nx [some pr, some pw, some g, some h] M w M w' ∧ w.heap.size ≤ g' ∧ w.heap.size ≤ h' ∧ Pair M w' pr pw g' h' s' ∧ Rdr M w' g s2 ∧ Rfr M w' h s2 := by
  obtain ⟨n1, n2, n3, n4, n5, n6⟩ := p.ne
  have c1 : w.cell? ⟨pr, 0, none⟩ = some (.pointer (some ⟨g, 0, none⟩)) := p.vr.cell 0
  have c2 : w.cell? ⟨pw, 0, none⟩ = some (.pointer (some ⟨h, 0, none⟩)) := p.vw.cell 0
  have l1 := p.vr.lt
  have l2 := p.vw.lt
  have l3 := p.r.lt
  have l4 := p.w.lt
  have hm : (dd : Int) % 8 = 5 := by omega
  have hwx : IntKind.u8.wrap (most : Int) = ((most % 256 : Nat) : Int) := by rw [IntKind.wrap_u8]; simp
  have HX := Lib.hid hwx; clear hwx
  have HX2 : Hid (((most : Int) % 256) = ((most % 256 : Nat) : Int)) := by show _ = _; simp
  have hA : Nx [] M w M (w.alloc (.cells #[.int .u8 dd, .int .u64 most] 38)).drew := ((Nx.refl [] hok).alloc _).drew
  have HA := Lib.hid hA; clear hA
  have P := Lib.hid (p.nx HA.out (by simp)); clear p
  have H1 := Lib.hid (Section_any M _ g (most % 256) s HA.out.ok P.out.r)
  have H2 : Hid (∀ W, Ok M W → Rfr M W h s → _) := fun W k1 k2 => RSection_any M W h (most % 256) s (by omega) k1 k2
  generalize s.sec (most % 256) = t at *
  obtain ⟨t1, t2⟩ := t
  go_enter Try.func9, Try.ntmps9
  go_wp2_with fail
  refine wp_region_late [17, 19] (fun w' => w'.cell? ⟨w.heap.size, 1, none⟩ = some (.int .u64 most)) (fun w' => w'.cell? ⟨pr, 0, none⟩ = some (.pointer (some ⟨g, 0, none⟩)) ∧ w'.cell? ⟨pw, 0, none⟩ = some (.pointer (some ⟨h, 0, none⟩))) (by kernel_rfl) (by simp) ⟨HA.out.cellk c1 (by simp), HA.out.cellk c2 (by simp)⟩ ?_
  intro hS hT
  refine wpAnyL_take0 (i := 0) (oi := ⟨_, _, _, _, _, _⟩) (v := ?_) rfl (by kernel_rfl) (by kernel_rfl) (by kernel_rfl) (fun _ _ _ h => h) (by kernel_rfl) (Or.inl ⟨by rfl, ?_⟩) hS (fun _ => hT) ?_
  rotate_left
  · (intro w' hA; go_simp; (try with_reducible rfl))
  (try simp only [Act.put, List.setIfInBounds_toArray, List.set_cons_zero, List.set_cons_succ])
  refine wpAnyL_take0 (i := 1) (oi := ⟨_, _, _, _, _, _⟩) (v := ?_) rfl (by kernel_rfl) (by kernel_rfl) (by kernel_rfl) (fun _ _ _ h => h) (by kernel_rfl) (Or.inl ⟨by rfl, ?_⟩) hS (fun _ => hT) ?_
  rotate_left
  · (intro w' hA; go_simp; (try with_reducible rfl))
  (try simp only [Act.put, List.setIfInBounds_toArray, List.set_cons_zero, List.set_cons_succ])
  refine wpAnyL_take0 (i := 2) (oi := ⟨_, _, _, _, _, _⟩) (v := ?_) rfl (by kernel_rfl) (by kernel_rfl) (by kernel_rfl) (fun _ _ _ h => h) (by kernel_rfl) (Or.inl ⟨by rfl, ?_⟩) hS (fun _ => hT) ?_
  rotate_left
  · (intro w' hA; go_simp; (try with_reducible rfl))
  (try simp only [Act.put, List.setIfInBounds_toArray, List.set_cons_zero, List.set_cons_succ])
  refine wpAnyL_take0 (i := 3) (oi := ⟨_, _, _, _, _, _⟩) (v := ?_) rfl (by kernel_rfl) (by kernel_rfl) (by kernel_rfl) (fun _ _ _ h => h) (by kernel_rfl) (Or.inl ⟨by rfl, ?_⟩) hS (fun _ => hT) ?_
  rotate_left
  · (intro w' hA; go_simp; (try with_reducible rfl))
  (try simp only [Act.put, List.setIfInBounds_toArray, List.set_cons_zero, List.set_cons_succ])
  refine wpAnyL_take (i := 4) (oi := ⟨_, _, _, _, _, _⟩) (v := ?_) rfl (by kernel_rfl) (by kernel_rfl) (by kernel_rfl) (fun _ _ _ h => h) (by kernel_rfl) (by kernel_rfl) (Or.inl ⟨by rfl, ?_⟩) hS hT ?_
  rotate_left
  · (intro w' ⟨hA, hB, hC⟩; go_simp; (try with_reducible rfl))
  (try simp only [Act.put, List.setIfInBounds_toArray, List.set_cons_zero, List.set_cons_succ])
  refine wpAnyL_take0 (i := 5) (oi := ⟨_, _, _, _, _, _⟩) (v := ?_) rfl (by kernel_rfl) (by kernel_rfl) (by kernel_rfl) (fun _ _ _ h => h) (by kernel_rfl) (Or.inl ⟨by rfl, ?_⟩) hS (fun _ => hT) ?_
  rotate_left
  · (intro w' hA; go_simp; (try with_reducible rfl))
  (try simp only [Act.put, List.setIfInBounds_toArray, List.set_cons_zero, List.set_cons_succ])
  refine wpAnyL_take0 (i := 6) (oi := ⟨_, _, _, _, _, _⟩) (v := ?_) rfl (by kernel_rfl) (by kernel_rfl) (by kernel_rfl) (fun _ _ _ h => h) (by kernel_rfl) (Or.inl ⟨by rfl, ?_⟩) hS (fun _ => hT) ?_
  rotate_left
  · (intro w' hA; go_simp; (try with_reducible rfl))
  (try simp only [Act.put, List.setIfInBounds_toArray, List.set_cons_zero, List.set_cons_succ])
  refine wpAnyL_take0 (i := 7) (oi := ⟨_, _, _, _, _, _⟩) (v := ?_) rfl (by kernel_rfl) (by kernel_rfl) (by kernel_rfl) (fun _ _ _ h => h) (by kernel_rfl) (Or.inl ⟨by rfl, ?_⟩) hS (fun _ => hT) ?_
  rotate_left
  · (intro w' hA; go_simp; (try with_reducible rfl))
  (try simp only [Act.put, List.setIfInBounds_toArray, List.set_cons_zero, List.set_cons_succ])
  refine wpAnyL_take0 (i := 9) (oi := ⟨_, _, _, _, _, _⟩) (v := ?_) rfl (by kernel_rfl) (by kernel_rfl) (by kernel_rfl) (fun _ _ _ h => h) (by kernel_rfl) (Or.inl ⟨by rfl, ?_⟩) hS (fun _ => hT) ?_
  rotate_left
  · (intro w' hA; go_simp; (try with_reducible rfl))
  (try simp only [Act.put, List.setIfInBounds_toArray, List.set_cons_zero, List.set_cons_succ])
  refine wpAnyL_take0 (i := 10) (oi := ⟨_, _, _, _, _, _⟩) (v := ?_) rfl (by kernel_rfl) (by kernel_rfl) (by kernel_rfl) (fun _ _ _ h => h) (by kernel_rfl) (Or.inl ⟨by rfl, ?_⟩) hS (fun _ => hT) ?_
  rotate_left
  · (intro w' hA; go_simp; (try with_reducible rfl))
  (try simp only [Act.put, List.setIfInBounds_toArray, List.set_cons_zero, List.set_cons_succ])
  refine wpAnyL_take (i := 11) (oi := ⟨_, _, _, _, _, _⟩) (v := ?_) rfl (by kernel_rfl) (by kernel_rfl) (by kernel_rfl) (fun _ _ _ h => h) (by kernel_rfl) (by kernel_rfl) (Or.inl ⟨by rfl, ?_⟩) hS hT ?_
  rotate_left
  · (intro w' ⟨hA, hB, hC⟩; go_simp; (try with_reducible rfl))
  (try simp only [Act.put, List.setIfInBounds_toArray, List.set_cons_zero, List.set_cons_succ])
  refine wpAnyL_take0 (i := 12) (oi := ⟨_, _, _, _, _, _⟩) (v := ?_) rfl (by kernel_rfl) (by kernel_rfl) (by kernel_rfl) (fun _ _ _ h => h) (by kernel_rfl) (Or.inl ⟨by rfl, ?_⟩) hS (fun _ => hT) ?_
  rotate_left
  · (intro w' hA; go_simp; (try with_reducible rfl))
  (try simp only [Act.put, List.setIfInBounds_toArray, List.set_cons_zero, List.set_cons_succ])
  refine wpAnyL_take0 (i := 13) (oi := ⟨_, _, _, _, _, _⟩) (v := ?_) rfl (by kernel_rfl) (by kernel_rfl) (by kernel_rfl) (fun _ _ _ h => h) (by kernel_rfl) (Or.inl ⟨by rfl, ?_⟩) hS (fun _ => hT) ?_
  rotate_left
  · (intro w' hA; go_simp; (try with_reducible rfl))
  (try simp only [Act.put, List.setIfInBounds_toArray, List.set_cons_zero, List.set_cons_succ])
  refine wpAnyL_take0 (i := 14) (oi := ⟨_, _, _, _, _, _⟩) (v := ?_) rfl (by kernel_rfl) (by kernel_rfl) (by kernel_rfl) (fun _ _ _ h => h) (by kernel_rfl) (Or.inl ⟨by rfl, ?_⟩) hS (fun _ => hT) ?_
  rotate_left
  · (intro w' hA; go_simp; (try with_reducible rfl))
  (try simp only [Act.put, List.setIfInBounds_toArray, List.set_cons_zero, List.set_cons_succ])
  refine wpAnyL_ready (rs := [8]) (by kernel_rfl) (by simp) (AllReadyL.cons (o := ⟨_, _, _, _, _, _⟩) rfl (fun K hK => ?_) AllReadyL.nil)
  go_simp
  go_at_call 16; (first | rw [HX.out] | rw [HX2.out]); refine H1.out.mono ?_; rintro _ w1 ⟨g2, rfl, hg2, hn1, hr1, hr1'⟩
  have vr1 := P.out.vr.nx hn1 (by simp; omega)
  have vw1 := P.out.vw.nx hn1 (by simp; omega)
  have rw1 := P.out.w.nx hn1 (by simp; omega)
  refine hK.out _ _ (hn1.cellk hS (by simp; omega)) (fun _ => ⟨vr1.cell 0, vw1.cell 0⟩) (fun hS => ?_)
  clear hK K
  (try simp only [Act.put, List.setIfInBounds_toArray, List.set_cons_zero, List.set_cons_succ])
  refine wpAnyL_ready (rs := [15]) (by kernel_rfl) (by simp) (AllReadyL.cons (o := ⟨_, _, _, _, _, _⟩) rfl (fun K hK => ?_) AllReadyL.nil)
  go_simp
  go_at_call 27; (first | rw [HX.out] | rw [HX2.out]); refine (H2.out w1 hn1.ok rw1).mono ?_; rintro _ w2 ⟨h2, rfl, hh2, hn2, hr2, hr2'⟩
  have vr2 := vr1.nx hn2 (by simp; omega)
  have vw2 := vw1.nx hn2 (by simp; omega)
  have q1 : w2.cell? ⟨pr, 0, none⟩ = some (.pointer (some ⟨g, 0, none⟩)) := vr2.cell 0
  have q2 : w2.cell? ⟨pw, 0, none⟩ = some (.pointer (some ⟨h, 0, none⟩)) := vw2.cell 0
  have e3 := vr2.frozen 0
  have e4 := vw2.frozen 0
  refine hK.out _ _ (hn2.cellk hS (by simp; omega)) (fun _ => ⟨q1, q2⟩) (fun hS => ?_)
  clear hK K
  (try simp only [Act.put, List.setIfInBounds_toArray, List.set_cons_zero, List.set_cons_succ])
  refine wpAnyL_ready (rs := [16]) (by kernel_rfl) (by simp) (AllReadyL.cons (o := ⟨_, _, _, _, _, _⟩) rfl (fun K hK => ?_) AllReadyL.nil)
  go_simp
  refine hK.out _ _ (hS) (fun _ => ⟨q1, q2⟩) (fun hS => ?_)
  clear hK K
  (try simp only [Act.put, List.setIfInBounds_toArray, List.set_cons_zero, List.set_cons_succ])
  refine wpAnyL_ready (rs := [17]) (by kernel_rfl) (by simp) (AllReadyL.cons (o := ⟨_, _, _, _, _, _⟩) rfl (fun K hK => ?_) AllReadyL.nil)
  go_simp
  refine hK.out _ _ (by rw [World.cell?_setCell_far _ _ _ _ (by simp; omega)]; exact hS) (Early.no 17 (by kernel_rfl) (by kernel_rfl)) (fun hS => ?_)
  clear hK K
  (try simp only [Act.put, List.setIfInBounds_toArray, List.set_cons_zero, List.set_cons_succ])
  refine wpAnyL_ready (rs := [18]) (by kernel_rfl) (by simp) (AllReadyL.cons (o := ⟨_, _, _, _, _, _⟩) rfl (fun K hK => ?_) AllReadyL.nil)
  go_simp
  refine hK.out _ _ (hS) (Early.no 17 (by kernel_rfl) (by kernel_rfl)) (fun hS => ?_)
  clear hK K
  (try simp only [Act.put, List.setIfInBounds_toArray, List.set_cons_zero, List.set_cons_succ])
  refine wpAnyL_ready (rs := [19]) (by kernel_rfl) (by simp) (AllReadyL.cons (o := ⟨_, _, _, _, _, _⟩) rfl (fun K hK => ?_) AllReadyL.nil)
  go_simp
  refine hK.out _ _ (by rw [World.cell?_setCell_far _ _ _ _ (by simp; omega)]; exact hS) (Early.no 17 (by kernel_rfl) (by kernel_rfl)) (fun hS => ?_)
  clear hK K
  (try simp only [Act.put, List.setIfInBounds_toArray, List.set_cons_zero, List.set_cons_succ])
  refine wpAnyL_done (by kernel_rfl) ?_ _
  go_wp2
  go_ret
  have u0 : w.heap.size < g2 := by simp at hg2; omega
  have u1 : w.heap.size < w1.heap.size := by have := hn1.upd.size; simp at this; omega
  have u2 : w.heap.size < h2 := by omega
  have nf : Nx [some pr, some pw] M w2 M ((w2.setCell ⟨pr, 0, none⟩ (.pointer (some ⟨g2, 0, none⟩))).setCell ⟨pw, 0, none⟩ (.pointer (some ⟨h2, 0, none⟩))) := ((Nx.refl _ hn2.ok).setCell vr2.free (by simp) _).setCell vw2.free (by simp) _
  refine ⟨rfl, g2, h2, t1, t2, ?_, by omega, by omega, ⟨(vr2.set 0 _).far n1 _, (vw2.far n1.symm _).set 0 _, ?_, ?_⟩, ?_, ?_⟩
  · exact (((HA.out.weak (S' := [some pr, some pw, some g, some h]) (by simp)).trans hn1 (by intro x hx _; simp at hx; simp [hx])).trans hn2 (by intro x hx _; simp at hx; simp [hx])).trans nf (by intro x hx _; simp at hx; rcases hx with hx | hx <;> simp [hx])
  · exact (hr1.nx hn2 (by simp; omega)).nx nf (by simp; omega)
  · exact hr2.nx nf (by simp; omega)
  · exact (hr1'.nx hn2 (by simp; omega)).nx nf (by simp; omega)
  · exact hr2'.nx nf (by simp; omega)
end Go.Proofs.Ytlecedlondamiaa
