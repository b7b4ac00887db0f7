/-
  shuttlecocklaw01.WireReads, walked: it answers true.
-/
import Derived.Test.YtlecedlondamiaaRAny
import Derived.Test.YtlecedlondamiaaWAwake
import Derived.Deep.DeepCutAuto
namespace Go.Proofs.Ytlecedlondamiaa
open Go.RowKit
set_option maxRecDepth 100000
set_option linter.unusedVariables false
set_option maxHeartbeats 4000000 in
theorem reads_in (M : Mem) (w : World) (a : Option Addr) (c n d : Nat) (ua : Option Addr) (l : List UInt8) (qs : List (Nat × Nat)) (hok : Ok M w) (hl : l.length ≤ 600) (hn : n ≤ 40) (hv : RdB M (.slice a l.length c) l) (han : qs.length = n) (hu : RdA M (.slice ua n d) qs) :
    Calls Try.prog 4 #[.slice a l.length c, .slice ua n d] w fun e w' => e = .returned (.bool true) ∧ ∃ M', Nx [] M w M' w' := by
  have hs : ∀ W, Ok M W → _ := fun W k => RdB.string (P := Try.prog) (src := 22) (dst := 9) (e := 5) hv k Try.underlying22 Try.underlying5 Try.underlying9
  have HS := Lib.hid hs; clear hs
  have HR : Hid (∀ W, Ok M W → _) := fun W k => Read_any M W (.slice a l.length c) l k hv
  have HV := Lib.hid hv; clear hv
  have HU := Lib.hid hu; clear hu
  have b1 : (l.length : Int) ≤ 600 := by omega
  have b2 : (n : Int) ≤ 40 := by omega
  have b3 : ¬ (600 < (l.length : Int)) := by omega
  have b4 : ¬ (40 < (n : Int)) := by omega
  have hok0 := hok.drew
  go_enter Try.func4, Try.ntmps4
  go_wp2_with fail
  refine wp_region_late [] (fun w' => Ok M w') (fun _ => True) (by kernel_rfl) hok0 trivial ?_
  intro hS hT
  refine wpAnyL_take0 (i := 0) (oi := ⟨_, _, _, _, _, _⟩) (v := ?_) rfl (by kernel_rfl) (by kernel_rfl) (by kernel_rfl) (fun _ _ _ h => h) (by kernel_rfl) (Or.inl ⟨by rfl, ?_⟩) hS (fun _ => hT) ?_
  rotate_left
  · (intro w' hA; go_simp; (try with_reducible rfl))
  (try simp only [Act.put, List.setIfInBounds_toArray, List.set_cons_zero, List.set_cons_succ])
  refine wpAnyL_take0 (i := 2) (oi := ⟨_, _, _, _, _, _⟩) (v := ?_) rfl (by kernel_rfl) (by kernel_rfl) (by kernel_rfl) (fun _ _ _ h => h) (by kernel_rfl) (Or.inl ⟨by rfl, ?_⟩) hS (fun _ => hT) ?_
  rotate_left
  · (intro w' hA; go_simp; (try with_reducible rfl))
  (try simp only [Act.put, List.setIfInBounds_toArray, List.set_cons_zero, List.set_cons_succ])
  refine wpAnyL_take0 (i := 3) (oi := ⟨_, _, _, _, _, _⟩) (v := ?_) rfl (by kernel_rfl) (by kernel_rfl) (by kernel_rfl) (fun _ _ _ h => h) (by kernel_rfl) (Or.inl ⟨by rfl, ?_⟩) hS (fun _ => hT) ?_
  rotate_left
  · (intro w' hA; have hz := HS.out w' hA; go_simp; (try with_reducible rfl))
  (try simp only [Act.put, List.setIfInBounds_toArray, List.set_cons_zero, List.set_cons_succ])
  refine wpAnyL_take0 (i := 4) (oi := ⟨_, _, _, _, _, _⟩) (v := ?_) rfl (by kernel_rfl) (by kernel_rfl) (by kernel_rfl) (fun _ _ _ h => h) (by kernel_rfl) (Or.inl ⟨by rfl, ?_⟩) hS (fun _ => hT) ?_
  rotate_left
  · (intro w' hA; go_simp; (try with_reducible rfl))
  (try simp only [Act.put, List.setIfInBounds_toArray, List.set_cons_zero, List.set_cons_succ])
  refine wpAnyL_rel (BegI M w.drew ⟨l, 0⟩ _) ?hs ?hend _ _ _ _ (by decide +kernel) ⟨false, false, false, false, false, false, 0, 0, 0, 0, by decide +kernel, rfl, Nx.refl _ hok0, by simp, by simp, by simp, by simp, by simp, by simp⟩
  case hend =>
    rintro _ _ w1 ⟨b1, b5, b6, b7, b8, b9, g, h, p, q, rfl, rfl, hb⟩ hr
    obtain ⟨rfl, rfl, rfl, rfl, rfl, rfl⟩ : b1 = true ∧ b5 = true ∧ b6 = true ∧ b7 = true ∧ b8 = true ∧ b9 = true := by
      clear hb
      cases b1 <;> cases b5 <;> cases b6 <;> cases b7 <;> cases b8 <;> cases b9 <;> first | exact ⟨rfl, rfl, rfl, rfl, rfl, rfl⟩ | exact absurd hr (by decide +kernel)
    simp only [pb, if_true, Act.put, List.setIfInBounds_toArray, List.set_cons_zero, List.set_cons_succ]
    have N1 := Lib.hid (((Nx.refl [] hok).drew).trans hb.n (by simp))
    have S1 : Hid (Stk w.heap.size M w1 p q (.slice none 0 0) (.slice none 0 0) g h ⟨l, 0⟩ []) :=
      ⟨⟨by simpa using (hb.p rfl).1, by simpa using (hb.q rfl).1, (hb.r rfl).1, (hb.f rfl).1⟩, Row.nil _ _ _, Row.nil _ _ _, by simp, by simp, by simp, by simp, by simp, by simp [Value.ownBlock], by simp [Value.ownBlock],
        ⟨(hb.p rfl).2, (hb.q rfl).2, (hb.r rfl).2, (hb.f rfl).2⟩, by simp [Value.ownBlock]⟩
    clear hb hr HS HR HV hS hT
    go_wp2_with fail
    go_loopw [7, 8, 9] (fun va vb i W => ∃ (j : Nat) (g h : Nat) (s : RS) (L : List (Nat × Nat × RS)), j ≤ n ∧ L.length ≤ j ∧ i = .int .i64 j ∧ Stk w.heap.size M W p q va vb g h s L ∧ Nx [] M w M W) (fun _ _ i _ => n - (intOf i).toNat)
    case atStart => exact ⟨0, g, h, _, [], Nat.zero_le _, Nat.zero_le _, rfl, S1.out, N1.out⟩
    case round =>
      clear S1 N1
      obtain ⟨j, g, h, s, L, hj, hLj, rfl, S, hN⟩ := hrel
      have SH := Lib.hid S; clear S
      have NH := Lib.hid hN; clear hN
      by_cases hlt : j < n
      · obtain ⟨⟨dd, most⟩, hx⟩ : ∃ x, qs[j]? = some x := ⟨_, List.getElem?_eq_getElem (by omega)⟩
        obtain ⟨ua', c', e1, e2, e3, hcell⟩ := HU.out
        cases e1
        obtain ⟨b, o, rfl, m0, m1, hd256, hmost⟩ := hcell j _ hx
        clear hcell
        obtain ⟨a7, c7, a8, c8, rfl, rfl, f1, f2, f3, f4, htop⟩ := SH.out.open
        by_cases h7 : dd % 8 = 7
        · have h7' : (dd : Int) % 8 = 7 := by omega
          have c0 := NH.out.ok.cell _ _ _ m0
          have HM := Lib.hid (And.intro m0 m1); clear m0 m1
          rcases List.eq_nil_or_concat L with rfl | ⟨L, x, rfl⟩
          · have HT := Lib.hid htop; clear htop
            go_wp2_with fail
            go_roundw
            case rel => exact ⟨j + 1, g, h, s, [], by omega, by simp, by go_num, SH.out, NH.out⟩
            case measure => simp [intOf]; omega
          · rw [List.concat_eq_append] at SH htop f1 f2 hLj
            simp only [List.concat_eq_append, List.length_append, List.length_cons, List.length_nil, Nat.zero_add] at f1 f2 hLj ⊢
            obtain ⟨b7, b8, rfl, rfl, t1, t2⟩ := htop L.length x (by simp)
            clear htop
            have z1 := SH.out.pr.vr.frozen 0
            have z2 := SH.out.pr.vw.frozen 0
            have z3 := SH.out.pr.vr.cell 0
            have z4 := SH.out.pr.vw.cell 0
            simp only [List.getElem?_toArray, List.getElem?_cons_zero] at z3 z4
            have z5 := SH.out.pr.ne.1
            have y1 : (L.length : Int) < L.length + 1 := by omega
            have y2 : L.length ≤ c7 := by omega
            have y3 : L.length ≤ c8 := by omega
            go_wp2_with fail
            refine wp_region_late [14, 15] (fun _ => True) (fun w' => w'.cell? ⟨b7, L.length, none⟩ = some (pt x.1) ∧ w'.cell? ⟨b8, L.length, none⟩ = some (pt x.2.1)) (by kernel_rfl) trivial ⟨t1, t2⟩ ?_
            intro hS hT
            refine wpAnyL_take0 (i := 0) (oi := ⟨_, _, _, _, _, _⟩) (v := ?_) rfl (by kernel_rfl) (by kernel_rfl) (by kernel_rfl) (fun _ _ _ h => h) (by kernel_rfl) (Or.inl ⟨by rfl, ?_⟩) hS (fun _ => hT) ?_
            rotate_left
            · (intro w' hA; go_simp; (try with_reducible rfl))
            (try simp only [Act.put, List.setIfInBounds_toArray, List.set_cons_zero, List.set_cons_succ])
            refine wpAnyL_take0 (i := 1) (oi := ⟨_, _, _, _, _, _⟩) (v := ?_) rfl (by kernel_rfl) (by kernel_rfl) (by kernel_rfl) (fun _ _ _ h => h) (by kernel_rfl) (Or.inl ⟨by rfl, ?_⟩) hS (fun _ => hT) ?_
            rotate_left
            · (intro w' hA; go_simp; (try with_reducible rfl))
            (try simp only [Act.put, List.setIfInBounds_toArray, List.set_cons_zero, List.set_cons_succ])
            refine wpAnyL_take0 (i := 2) (oi := ⟨_, _, _, _, _, _⟩) (v := ?_) rfl (by kernel_rfl) (by kernel_rfl) (by kernel_rfl) (fun _ _ _ h => h) (by kernel_rfl) (Or.inl ⟨by rfl, ?_⟩) hS (fun _ => hT) ?_
            rotate_left
            · (intro w' hA; go_simp; (try with_reducible rfl))
            (try simp only [Act.put, List.setIfInBounds_toArray, List.set_cons_zero, List.set_cons_succ])
            refine wpAnyL_take (i := 3) (oi := ⟨_, _, _, _, _, _⟩) (v := ?_) rfl (by kernel_rfl) (by kernel_rfl) (by kernel_rfl) (fun _ _ _ h => h) (by kernel_rfl) (by kernel_rfl) (Or.inl ⟨by rfl, ?_⟩) hS hT ?_
            rotate_left
            · (intro w' ⟨hA, hB⟩; go_simp; (try with_reducible rfl))
            (try simp only [Act.put, List.setIfInBounds_toArray, List.set_cons_zero, List.set_cons_succ])
            refine wpAnyL_take0 (i := 4) (oi := ⟨_, _, _, _, _, _⟩) (v := ?_) rfl (by kernel_rfl) (by kernel_rfl) (by kernel_rfl) (fun _ _ _ h => h) (by kernel_rfl) (Or.inl ⟨by rfl, ?_⟩) hS (fun _ => hT) ?_
            rotate_left
            · (intro w' hA; go_simp; (try with_reducible rfl))
            (try simp only [Act.put, List.setIfInBounds_toArray, List.set_cons_zero, List.set_cons_succ])
            refine wpAnyL_take0 (i := 5) (oi := ⟨_, _, _, _, _, _⟩) (v := ?_) rfl (by kernel_rfl) (by kernel_rfl) (by kernel_rfl) (fun _ _ _ h => h) (by kernel_rfl) (Or.inl ⟨by rfl, ?_⟩) hS (fun _ => hT) ?_
            rotate_left
            · (intro w' hA; go_simp; (try with_reducible rfl))
            (try simp only [Act.put, List.setIfInBounds_toArray, List.set_cons_zero, List.set_cons_succ])
            refine wpAnyL_take0 (i := 6) (oi := ⟨_, _, _, _, _, _⟩) (v := ?_) rfl (by kernel_rfl) (by kernel_rfl) (by kernel_rfl) (fun _ _ _ h => h) (by kernel_rfl) (Or.inl ⟨by rfl, ?_⟩) hS (fun _ => hT) ?_
            rotate_left
            · (intro w' hA; go_simp; (try with_reducible rfl))
            (try simp only [Act.put, List.setIfInBounds_toArray, List.set_cons_zero, List.set_cons_succ])
            refine wpAnyL_take (i := 7) (oi := ⟨_, _, _, _, _, _⟩) (v := ?_) rfl (by kernel_rfl) (by kernel_rfl) (by kernel_rfl) (fun _ _ _ h => h) (by kernel_rfl) (by kernel_rfl) (Or.inl ⟨by rfl, ?_⟩) hS hT ?_
            rotate_left
            · (intro w' ⟨hA, hB⟩; go_simp; (try with_reducible rfl))
            (try simp only [Act.put, List.setIfInBounds_toArray, List.set_cons_zero, List.set_cons_succ])
            refine wpAnyL_take0 (i := 8) (oi := ⟨_, _, _, _, _, _⟩) (v := ?_) rfl (by kernel_rfl) (by kernel_rfl) (by kernel_rfl) (fun _ _ _ h => h) (by kernel_rfl) (Or.inl ⟨by rfl, ?_⟩) hS (fun _ => hT) ?_
            rotate_left
            · (intro w' hA; go_simp; (try with_reducible rfl))
            (try simp only [Act.put, List.setIfInBounds_toArray, List.set_cons_zero, List.set_cons_succ])
            refine wpAnyL_take0 (i := 9) (oi := ⟨_, _, _, _, _, _⟩) (v := ?_) rfl (by kernel_rfl) (by kernel_rfl) (by kernel_rfl) (fun _ _ _ h => h) (by kernel_rfl) (Or.inl ⟨by rfl, ?_⟩) hS (fun _ => hT) ?_
            rotate_left
            · (intro w' hA; go_simp; (try with_reducible rfl))
            (try simp only [Act.put, List.setIfInBounds_toArray, List.set_cons_zero, List.set_cons_succ])
            have htm : (dd : Int).tmod 8 = (dd : Int) % 8 := Int.tmod_eq_emod_of_nonneg (by omega)
            refine wpAnyL_take0 (i := 10) (oi := ⟨_, _, _, _, _, _⟩) (v := ?_) rfl (by kernel_rfl) (by kernel_rfl) (by kernel_rfl) (fun _ _ _ h => h) (by kernel_rfl) (Or.inl ⟨by rfl, ?_⟩) hS (fun _ => hT) ?_
            rotate_left
            · (intro w' hA; go_simp; (try with_reducible rfl))
            (try simp only [Act.put, List.setIfInBounds_toArray, List.set_cons_zero, List.set_cons_succ])
            refine wpAnyL_take0 (i := 11) (oi := ⟨_, _, _, _, _, _⟩) (v := ?_) rfl (by kernel_rfl) (by kernel_rfl) (by kernel_rfl) (fun _ _ _ h => h) (by kernel_rfl) (Or.inl ⟨by rfl, ?_⟩) hS (fun _ => hT) ?_
            rotate_left
            · (intro w' hA; go_simp; (try with_reducible rfl))
            (try simp only [Act.put, List.setIfInBounds_toArray, List.set_cons_zero, List.set_cons_succ])
            refine wpAnyL_take0 (i := 12) (oi := ⟨_, _, _, _, _, _⟩) (v := ?_) rfl (by kernel_rfl) (by kernel_rfl) (by kernel_rfl) (fun _ _ _ h => h) (by kernel_rfl) (Or.inl ⟨by rfl, ?_⟩) hS (fun _ => hT) ?_
            rotate_left
            · (intro w' hA; go_simp; (try with_reducible rfl))
            (try simp only [Act.put, List.setIfInBounds_toArray, List.set_cons_zero, List.set_cons_succ])
            refine wpAnyL_take0 (i := 13) (oi := ⟨_, _, _, _, _, _⟩) (v := ?_) rfl (by kernel_rfl) (by kernel_rfl) (by kernel_rfl) (fun _ _ _ h => h) (by kernel_rfl) (Or.inl ⟨by rfl, ?_⟩) hS (fun _ => hT) ?_
            rotate_left
            · (intro w' hA; go_simp; (try with_reducible rfl))
            (try simp only [Act.put, List.setIfInBounds_toArray, List.set_cons_zero, List.set_cons_succ])
            refine wpAnyL_ready (rs := [14]) (by kernel_rfl) (by simp) (AllReadyL.cons (o := ⟨_, _, _, _, _, _⟩) rfl (fun K hK => ?_) AllReadyL.nil)
            go_simp
            refine hK.out _ _ (trivial) (Early.no 14 (by kernel_rfl) (by kernel_rfl)) (fun hS => ?_)
            clear hK K
            (try simp only [Act.put, List.setIfInBounds_toArray, List.set_cons_zero, List.set_cons_succ])
            refine wpAnyL_ready (rs := [15]) (by kernel_rfl) (by simp) (AllReadyL.cons (o := ⟨_, _, _, _, _, _⟩) rfl (fun K hK => ?_) AllReadyL.nil)
            go_simp
            refine hK.out _ _ (trivial) (Early.no 14 (by kernel_rfl) (by kernel_rfl)) (fun hS => ?_)
            clear hK K
            (try simp only [Act.put, List.setIfInBounds_toArray, List.set_cons_zero, List.set_cons_succ])
            refine wpAnyL_ready (rs := [16]) (by kernel_rfl) (by simp) (AllReadyL.cons (o := ⟨_, _, _, _, _, _⟩) rfl (fun K hK => ?_) AllReadyL.nil)
            go_simp
            refine hK.out _ _ (trivial) (Early.no 14 (by kernel_rfl) (by kernel_rfl)) (fun hS => ?_)
            clear hK K
            (try simp only [Act.put, List.setIfInBounds_toArray, List.set_cons_zero, List.set_cons_succ])
            refine wpAnyL_ready (rs := [17]) (by kernel_rfl) (by simp) (AllReadyL.cons (o := ⟨_, _, _, _, _, _⟩) rfl (fun K hK => ?_) AllReadyL.nil)
            go_simp
            refine hK.out _ _ (trivial) (Early.no 14 (by kernel_rfl) (by kernel_rfl)) (fun hS => ?_)
            clear hK K
            (try simp only [Act.put, List.setIfInBounds_toArray, List.set_cons_zero, List.set_cons_succ])
            refine wpAnyL_done (by kernel_rfl) ?_ _
            go_wp2_with fail
            go_roundw
            case rel => exact ⟨j + 1, x.1, x.2.1, x.2.2, L, by omega, by omega, by go_num, (SH.out.pop NH.out.ok).drew, ((NH.out.setCell SH.out.pr.vr.free (fun h => by have := SH.out.lp; simp only at h; omega) _).setCell SH.out.pr.vw.free (fun h => by have := SH.out.lp; simp only at h; omega) _).drew⟩
            case measure => simp [intOf]; omega
        · have h7' : ¬ (dd : Int) % 8 = 7 := by omega
          have c0 := NH.out.ok.cell _ _ _ m0
          have z3 := SH.out.pr.vr.cell 0
          have z4 := SH.out.pr.vw.cell 0
          simp only [List.getElem?_toArray, List.getElem?_cons_zero] at z3 z4
          by_cases h5 : dd % 8 = 5
          · have h5' : (dd : Int) % 8 = 5 := by omega
            have h5b : ((dd : Int) % 8 == 5) = true := beq_iff_eq.2 h5'
            have HM := Lib.hid (And.intro m0 m1); clear m0 m1
            have HT := Lib.hid htop; clear htop
            go_upto_region 16 with fail
            go_cut [7, 8] (fun va vb wx => Row M wx 29 va ((L ++ [(g, h, s)]).map fun x => pt x.1) ∧ Row M wx 31 vb ((L ++ [(g, h, s)]).map fun x => pt x.2.1) ∧
              Nx [(Value.slice a7 L.length c7).ownBlock, (Value.slice a8 L.length c8).ownBlock] M wr M wx ∧ Of wr (Value.slice a7 L.length c7) va ∧ Of wr (Value.slice a8 L.length c8) vb)
            case first =>
              refine wp_region_late [] (fun w' => w'.cell? ⟨p, 0, none⟩ = some (pt g) ∧ w'.cell? ⟨q, 0, none⟩ = some (pt h)) (fun w' => True) (by kernel_rfl) ⟨z3, z4⟩ trivial ?_
              intro hS hT
              refine wpAnyL_take0 (i := 0) (oi := ⟨_, _, _, _, _, _⟩) (v := ?_) rfl (by kernel_rfl) (by kernel_rfl) (by kernel_rfl) (fun _ _ _ h => h) (by kernel_rfl) (Or.inl ⟨by rfl, ?_⟩) hS (fun _ => hT) ?_
              rotate_left
              · (intro w' hA; go_simp; (try with_reducible rfl))
              (try simp only [Act.put, List.setIfInBounds_toArray, List.set_cons_zero, List.set_cons_succ])
              refine wpAnyL_take0 (i := 1) (oi := ⟨_, _, _, _, _, _⟩) (v := ?_) rfl (by kernel_rfl) (by kernel_rfl) (by kernel_rfl) (fun _ _ _ h => h) (by kernel_rfl) (Or.inl ⟨by rfl, ?_⟩) hS (fun _ => hT) ?_
              rotate_left
              · (intro w' hA; obtain ⟨hB, hC⟩ := hA; go_simp; (try with_reducible rfl))
              (try simp only [Act.put, List.setIfInBounds_toArray, List.set_cons_zero, List.set_cons_succ])
              refine wpAnyL_take0 (i := 4) (oi := ⟨_, _, _, _, _, _⟩) (v := ?_) rfl (by kernel_rfl) (by kernel_rfl) (by kernel_rfl) (fun _ _ _ h => h) (by kernel_rfl) (Or.inl ⟨by rfl, ?_⟩) hS (fun _ => hT) ?_
              rotate_left
              · (intro w' hA; go_simp; (try with_reducible rfl))
              (try simp only [Act.put, List.setIfInBounds_toArray, List.set_cons_zero, List.set_cons_succ])
              refine wpAnyL_take0 (i := 5) (oi := ⟨_, _, _, _, _, _⟩) (v := ?_) rfl (by kernel_rfl) (by kernel_rfl) (by kernel_rfl) (fun _ _ _ h => h) (by kernel_rfl) (Or.inl ⟨by rfl, ?_⟩) hS (fun _ => hT) ?_
              rotate_left
              · (intro w' hA; obtain ⟨hB, hC⟩ := hA; go_simp; (try with_reducible rfl))
              (try simp only [Act.put, List.setIfInBounds_toArray, List.set_cons_zero, List.set_cons_succ])
              refine wpAnyL_ready (rs := [2, 6]) (by kernel_rfl) (by simp) (AllReadyL.cons (o := ⟨_, _, _, _, _, _⟩) rfl (fun K hK => ?_) (AllReadyL.cons (o := ⟨_, _, _, _, _, _⟩) rfl (fun K hK => ?_) AllReadyL.nil))
              · go_simp
                have n1 : Nx [] M wr M (wr.alloc (.cells #[pt g] 29)).drew := ((Nx.refl [] NH.out.ok).alloc _).drew
                have bx1 : (wr.alloc (.cells #[pt g] 29)).drew.cell? ⟨wr.heap.size, 0, none⟩ = some (pt g) := cell_of_row _ _ 0 _ _ _ (heap_alloc_new wr _)
                refine hK.out _ _ (⟨n1.cellk z3 (by simp), n1.cellk z4 (by simp)⟩) (fun _ => trivial) (fun hS => ?_)
                clear hK K
                (try simp only [Act.put, List.setIfInBounds_toArray, List.set_cons_zero, List.set_cons_succ])
                refine wpAnyL_ready (rs := [3, 6]) (by kernel_rfl) (by simp) (AllReadyL.cons (o := ⟨_, _, _, _, _, _⟩) rfl (fun K hK => ?_) (AllReadyL.cons (o := ⟨_, _, _, _, _, _⟩) rfl (fun K hK => ?_) AllReadyL.nil))
                · rw [if_pos (by rfl)]
                  refine oper_app1 (M := M) (e := 29) (u := pt g) _ _ 34 rfl (.pointer none) 8 Try.underlying34 info_ptr1 rfl rfl n1.ok (SH.out.tipa n1) rfl _ _ rfl bx1 (by omega) (by decide) ?_
                  intro va1 W3 t1 nA oA
                  (try simp only [Act.put, List.setIfInBounds_toArray, List.set_cons_zero, List.set_cons_succ])
                  refine hK.out _ _ (⟨SH.out.cella nA (.inr (.inl rfl)) hS.1, SH.out.cella nA (.inr (.inr rfl)) hS.2⟩) (fun _ => trivial) (fun hS => ?_)
                  clear hK K
                  (try simp only [Act.put, List.setIfInBounds_toArray, List.set_cons_zero, List.set_cons_succ])
                  refine wpAnyL_ready (rs := [6]) (by kernel_rfl) (by simp) (AllReadyL.cons (o := ⟨_, _, _, _, _, _⟩) rfl (fun K hK => ?_) AllReadyL.nil)
                  go_simp
                  have n3 : Nx [] M W3 M (W3.alloc (.cells #[pt h] 31)) := ((Nx.refl [] nA.ok).alloc _)
                  have bx2 : (W3.alloc (.cells #[pt h] 31)).cell? ⟨W3.heap.size, 0, none⟩ = some (pt h) := cell_of_row _ _ 0 _ _ _ (heap_alloc_new W3 _)
                  refine hK.out _ _ (⟨n3.cellk hS.1 (by simp), n3.cellk hS.2 (by simp)⟩) (fun _ => trivial) (fun hS => ?_)
                  clear hK K
                  (try simp only [Act.put, List.setIfInBounds_toArray, List.set_cons_zero, List.set_cons_succ])
                  refine wpAnyL_ready (rs := [7]) (by kernel_rfl) (by simp) (AllReadyL.cons (o := ⟨_, _, _, _, _, _⟩) rfl (fun K hK => ?_) AllReadyL.nil)
                  rw [if_pos (by rfl)]
                  refine oper_app1 (M := M) (e := 31) (u := pt h) _ _ 35 rfl (.pointer none) 8 Try.underlying35 info_ptr2 rfl rfl n3.ok (SH.out.tipb n1 nA n3) rfl _ _ rfl bx2 (by omega) (by decide) ?_
                  intro vb1 W7 t2 nB oB
                  (try simp only [Act.put, List.setIfInBounds_toArray, List.set_cons_zero, List.set_cons_succ])
                  refine hK.out _ _ (⟨SH.out.cellb nB (.inr (.inl rfl)) hS.1, SH.out.cellb nB (.inr (.inr rfl)) hS.2⟩) (fun _ => trivial) (fun hS => ?_)
                  clear hK K
                  (try simp only [Act.put, List.setIfInBounds_toArray, List.set_cons_zero, List.set_cons_succ])
                  refine wpAnyL_ready (rs := [8]) (by kernel_rfl) (by simp) (AllReadyL.cons (o := ⟨_, _, _, _, _, _⟩) rfl (fun K hK => ?_) AllReadyL.nil)
                  go_simp
                  refine hK.out _ _ (hS) (fun _ => trivial) (fun hS => ?_)
                  clear hK K
                  (try simp only [Act.put, List.setIfInBounds_toArray, List.set_cons_zero, List.set_cons_succ])
                  refine wpAnyL_ready (rs := [9]) (by kernel_rfl) (by simp) (AllReadyL.cons (o := ⟨_, _, _, _, _, _⟩) rfl (fun K hK => ?_) AllReadyL.nil)
                  go_simp
                  refine hK.out _ _ (hS) (fun _ => trivial) (fun hS => ?_)
                  clear hK K
                  (try simp only [Act.put, List.setIfInBounds_toArray, List.set_cons_zero, List.set_cons_succ])
                  refine wpAnyL_done (by kernel_rfl) ?_ _
                  go_wp2_with fail
                  go_meet
                  exact SH.out.app2 n1 t1 nA oA n3 t2 nB oB (Nx.refl _ nB.ok)
                · go_simp
                  have n2 : Nx [] M wr M ((wr.alloc (.cells #[pt g] 29)).alloc (.cells #[pt h] 31)).drew := (((Nx.refl [] NH.out.ok).alloc _).alloc _).drew
                  have bx1 : ((wr.alloc (.cells #[pt g] 29)).alloc (.cells #[pt h] 31)).drew.cell? ⟨wr.heap.size, 0, none⟩ = some (pt g) := (((Nx.refl [] n1.ok).alloc (.cells #[pt h] 31))).cellk bx1 (by simp)
                  have bx2 : ((wr.alloc (.cells #[pt g] 29)).alloc (.cells #[pt h] 31)).drew.cell? ⟨wr.heap.size + 1, 0, none⟩ = some (pt h) := by simp
                  refine hK.out _ _ (⟨n2.cellk z3 (by simp), n2.cellk z4 (by simp)⟩) (fun _ => trivial) (fun hS => ?_)
                  clear hK K
                  (try simp only [Act.put, List.setIfInBounds_toArray, List.set_cons_zero, List.set_cons_succ])
                  refine wpAnyL_ready (rs := [3]) (by kernel_rfl) (by simp) (AllReadyL.cons (o := ⟨_, _, _, _, _, _⟩) rfl (fun K hK => ?_) AllReadyL.nil)
                  rw [if_pos (by rfl)]
                  refine oper_app1 (M := M) (e := 29) (u := pt g) _ _ 34 rfl (.pointer none) 8 Try.underlying34 info_ptr1 rfl rfl n2.ok (SH.out.tipa n2) rfl _ _ rfl bx1 (by omega) (by decide) ?_
                  intro va1 W3 t1 nA oA
                  (try simp only [Act.put, List.setIfInBounds_toArray, List.set_cons_zero, List.set_cons_succ])
                  have bx2' := SH.out.cella nA (.inl (by omega)) bx2
                  refine hK.out _ _ (⟨SH.out.cella nA (.inr (.inl rfl)) hS.1, SH.out.cella nA (.inr (.inr rfl)) hS.2⟩) (fun _ => trivial) (fun hS => ?_)
                  clear hK K
                  (try simp only [Act.put, List.setIfInBounds_toArray, List.set_cons_zero, List.set_cons_succ])
                  refine wpAnyL_ready (rs := [7]) (by kernel_rfl) (by simp) (AllReadyL.cons (o := ⟨_, _, _, _, _, _⟩) rfl (fun K hK => ?_) AllReadyL.nil)
                  rw [if_pos (by rfl)]
                  refine oper_app1 (M := M) (e := 31) (u := pt h) _ _ 35 rfl (.pointer none) 8 Try.underlying35 info_ptr2 rfl rfl (Nx.refl [] nA.ok).ok (SH.out.tipb n2 nA (Nx.refl [] nA.ok)) rfl _ _ rfl bx2' (by omega) (by decide) ?_
                  intro vb1 W7 t2 nB oB
                  (try simp only [Act.put, List.setIfInBounds_toArray, List.set_cons_zero, List.set_cons_succ])
                  refine hK.out _ _ (⟨SH.out.cellb nB (.inr (.inl rfl)) hS.1, SH.out.cellb nB (.inr (.inr rfl)) hS.2⟩) (fun _ => trivial) (fun hS => ?_)
                  clear hK K
                  (try simp only [Act.put, List.setIfInBounds_toArray, List.set_cons_zero, List.set_cons_succ])
                  refine wpAnyL_ready (rs := [8]) (by kernel_rfl) (by simp) (AllReadyL.cons (o := ⟨_, _, _, _, _, _⟩) rfl (fun K hK => ?_) AllReadyL.nil)
                  go_simp
                  refine hK.out _ _ (hS) (fun _ => trivial) (fun hS => ?_)
                  clear hK K
                  (try simp only [Act.put, List.setIfInBounds_toArray, List.set_cons_zero, List.set_cons_succ])
                  refine wpAnyL_ready (rs := [9]) (by kernel_rfl) (by simp) (AllReadyL.cons (o := ⟨_, _, _, _, _, _⟩) rfl (fun K hK => ?_) AllReadyL.nil)
                  go_simp
                  refine hK.out _ _ (hS) (fun _ => trivial) (fun hS => ?_)
                  clear hK K
                  (try simp only [Act.put, List.setIfInBounds_toArray, List.set_cons_zero, List.set_cons_succ])
                  refine wpAnyL_done (by kernel_rfl) ?_ _
                  go_wp2_with fail
                  go_meet
                  exact SH.out.app2 n2 t1 nA oA (Nx.refl [] nA.ok) t2 nB oB (Nx.refl _ nB.ok)
              · go_simp
                have n1 : Nx [] M wr M (wr.alloc (.cells #[pt h] 31)).drew := ((Nx.refl [] NH.out.ok).alloc _).drew
                have bx2 : (wr.alloc (.cells #[pt h] 31)).drew.cell? ⟨wr.heap.size, 0, none⟩ = some (pt h) := cell_of_row _ _ 0 _ _ _ (heap_alloc_new wr _)
                refine hK.out _ _ (⟨n1.cellk z3 (by simp), n1.cellk z4 (by simp)⟩) (fun _ => trivial) (fun hS => ?_)
                clear hK K
                (try simp only [Act.put, List.setIfInBounds_toArray, List.set_cons_zero, List.set_cons_succ])
                refine wpAnyL_ready (rs := [2]) (by kernel_rfl) (by simp) (AllReadyL.cons (o := ⟨_, _, _, _, _, _⟩) rfl (fun K hK => ?_) AllReadyL.nil)
                go_simp
                have n2 : Nx [] M wr M ((wr.alloc (.cells #[pt h] 31)).alloc (.cells #[pt g] 29)).drew := (((Nx.refl [] NH.out.ok).alloc _).alloc _).drew
                have bx2 : ((wr.alloc (.cells #[pt h] 31)).alloc (.cells #[pt g] 29)).drew.cell? ⟨wr.heap.size, 0, none⟩ = some (pt h) := (((Nx.refl [] n1.ok).alloc (.cells #[pt g] 29))).cellk bx2 (by simp)
                have bx1 : ((wr.alloc (.cells #[pt h] 31)).alloc (.cells #[pt g] 29)).drew.cell? ⟨wr.heap.size + 1, 0, none⟩ = some (pt g) := by simp
                refine hK.out _ _ (⟨n2.cellk z3 (by simp), n2.cellk z4 (by simp)⟩) (fun _ => trivial) (fun hS => ?_)
                clear hK K
                (try simp only [Act.put, List.setIfInBounds_toArray, List.set_cons_zero, List.set_cons_succ])
                refine wpAnyL_ready (rs := [3]) (by kernel_rfl) (by simp) (AllReadyL.cons (o := ⟨_, _, _, _, _, _⟩) rfl (fun K hK => ?_) AllReadyL.nil)
                rw [if_pos (by rfl)]
                refine oper_app1 (M := M) (e := 29) (u := pt g) _ _ 34 rfl (.pointer none) 8 Try.underlying34 info_ptr1 rfl rfl n2.ok (SH.out.tipa n2) rfl _ _ rfl bx1 (by omega) (by decide) ?_
                intro va1 W3 t1 nA oA
                (try simp only [Act.put, List.setIfInBounds_toArray, List.set_cons_zero, List.set_cons_succ])
                have bx2' := SH.out.cella nA (.inl (by omega)) bx2
                refine hK.out _ _ (⟨SH.out.cella nA (.inr (.inl rfl)) hS.1, SH.out.cella nA (.inr (.inr rfl)) hS.2⟩) (fun _ => trivial) (fun hS => ?_)
                clear hK K
                (try simp only [Act.put, List.setIfInBounds_toArray, List.set_cons_zero, List.set_cons_succ])
                refine wpAnyL_ready (rs := [7]) (by kernel_rfl) (by simp) (AllReadyL.cons (o := ⟨_, _, _, _, _, _⟩) rfl (fun K hK => ?_) AllReadyL.nil)
                rw [if_pos (by rfl)]
                refine oper_app1 (M := M) (e := 31) (u := pt h) _ _ 35 rfl (.pointer none) 8 Try.underlying35 info_ptr2 rfl rfl (Nx.refl [] nA.ok).ok (SH.out.tipb n2 nA (Nx.refl [] nA.ok)) rfl _ _ rfl bx2' (by omega) (by decide) ?_
                intro vb1 W7 t2 nB oB
                (try simp only [Act.put, List.setIfInBounds_toArray, List.set_cons_zero, List.set_cons_succ])
                refine hK.out _ _ (⟨SH.out.cellb nB (.inr (.inl rfl)) hS.1, SH.out.cellb nB (.inr (.inr rfl)) hS.2⟩) (fun _ => trivial) (fun hS => ?_)
                clear hK K
                (try simp only [Act.put, List.setIfInBounds_toArray, List.set_cons_zero, List.set_cons_succ])
                refine wpAnyL_ready (rs := [8]) (by kernel_rfl) (by simp) (AllReadyL.cons (o := ⟨_, _, _, _, _, _⟩) rfl (fun K hK => ?_) AllReadyL.nil)
                go_simp
                refine hK.out _ _ (hS) (fun _ => trivial) (fun hS => ?_)
                clear hK K
                (try simp only [Act.put, List.setIfInBounds_toArray, List.set_cons_zero, List.set_cons_succ])
                refine wpAnyL_ready (rs := [9]) (by kernel_rfl) (by simp) (AllReadyL.cons (o := ⟨_, _, _, _, _, _⟩) rfl (fun K hK => ?_) AllReadyL.nil)
                go_simp
                refine hK.out _ _ (hS) (fun _ => trivial) (fun hS => ?_)
                clear hK K
                (try simp only [Act.put, List.setIfInBounds_toArray, List.set_cons_zero, List.set_cons_succ])
                refine wpAnyL_done (by kernel_rfl) ?_ _
                go_wp2_with fail
                go_meet
                exact SH.out.app2 n2 t1 nA oA (Nx.refl [] nA.ok) t2 nB oB (Nx.refl _ nB.ok)
            case rest =>
              obtain ⟨ra, rb, nX, oa, ob⟩ := hcut
              have PX := Lib.hid (SH.out.grown nX).drew
              have NX := Lib.hid nX.drew
              have RA := Lib.hid ra.drew
              have RB := Lib.hid rb.drew
              have OA := Lib.hid oa
              have OB := Lib.hid ob
              clear ra rb nX oa ob z3 z4 c0
              go_wp2_with fail
              refine wp_region_late [4] (fun w' => Ok M w') (fun w' => True) (by kernel_rfl) NX.out.ok trivial ?_
              intro hS hT
              refine wpAnyL_take0 (i := 0) (oi := ⟨_, _, _, _, _, _⟩) (v := ?_) rfl (by kernel_rfl) (by kernel_rfl) (by kernel_rfl) (fun _ _ _ h => h) (by kernel_rfl) (Or.inl ⟨by rfl, ?_⟩) hS (fun _ => hT) ?_
              rotate_left
              · (intro w' hA; go_simp; (try with_reducible rfl))
              (try simp only [Act.put, List.setIfInBounds_toArray, List.set_cons_zero, List.set_cons_succ])
              refine wpAnyL_take0 (i := 1) (oi := ⟨_, _, _, _, _, _⟩) (v := ?_) rfl (by kernel_rfl) (by kernel_rfl) (by kernel_rfl) (fun _ _ _ h => h) (by kernel_rfl) (Or.inl ⟨by rfl, ?_⟩) hS (fun _ => hT) ?_
              rotate_left
              · (intro w' hA; go_simp; (try with_reducible rfl))
              (try simp only [Act.put, List.setIfInBounds_toArray, List.set_cons_zero, List.set_cons_succ])
              refine wpAnyL_take0 (i := 2) (oi := ⟨_, _, _, _, _, _⟩) (v := ?_) rfl (by kernel_rfl) (by kernel_rfl) (by kernel_rfl) (fun _ _ _ h => h) (by kernel_rfl) (Or.inl ⟨by rfl, ?_⟩) hS (fun _ => hT) ?_
              rotate_left
              · (intro w' hA; go_simp; (try with_reducible rfl))
              (try simp only [Act.put, List.setIfInBounds_toArray, List.set_cons_zero, List.set_cons_succ])
              refine wpAnyL_take0 (i := 3) (oi := ⟨_, _, _, _, _, _⟩) (v := ?_) rfl (by kernel_rfl) (by kernel_rfl) (by kernel_rfl) (fun _ _ _ h => h) (by kernel_rfl) (Or.inl ⟨by rfl, ?_⟩) hS (fun _ => hT) ?_
              rotate_left
              · (intro w' hA; have d0 := hA.cell _ _ _ HM.out.1; have d1 := hA.cell _ _ _ HM.out.2; go_simp; (try with_reducible rfl))
              (try simp only [Act.put, List.setIfInBounds_toArray, List.set_cons_zero, List.set_cons_succ])
              refine wpAnyL_ready (rs := [4]) (by kernel_rfl) (by simp) (AllReadyL.cons (o := ⟨_, _, _, _, _, _⟩) rfl (fun K hK => ?_) AllReadyL.nil)
              go_simp
              go_at_call 9
              refine (asked5 M _ p q g h dd most s hS PX.out h5 hd256 hmost).mono ?_
              rintro _ w2 ⟨rfl, g2, h2, s2, s3, hn2, hg2, hh2, P2, r2, f2⟩
              have SH2 := Lib.hid (SH.out.push NX.out RA.out RB.out OA.out OB.out hn2 P2 hg2 hh2 r2 f2)
              have NH2 := Lib.hid ((NH.out.trans NX.out (by
                intro x hx hl
                have h1 := SH.out.lv
                simp only [List.mem_cons, List.not_mem_nil, or_false] at hx
                rcases hx with hx | hx
                · have := h1.1 x hx.symm; omega
                · have := h1.2 x hx.symm; omega)).trans hn2 (by intro x hx hl; simp at hx; have := SH.out.lp; exfalso; omega))
              have hok2 := hn2.ok
              have P2H := Lib.hid P2
              have R2H := Lib.hid (And.intro r2 f2)
              have t1 := P2.vr.cell 0
              have t2 := P2.vw.cell 0
              simp only [List.getElem?_toArray, List.getElem?_cons_zero] at t1 t2
              refine hK.out _ _ (hok2) (Early.no 4 (by kernel_rfl) (by kernel_rfl)) (fun hS => ?_)
              clear hK K
              (try simp only [Act.put, List.setIfInBounds_toArray, List.set_cons_zero, List.set_cons_succ])
              obtain ⟨a9, c9, a10, c10, ea, eb, k1, k2, k3, k4, htop2⟩ := SH2.out.open
              simp only [List.length_append, List.length_cons, List.length_nil, Nat.zero_add] at ea eb k1 k2
              obtain ⟨b9, b10, rfl, rfl, t3, t4⟩ := htop2 L.length (g, h, s3) (by simp)
              clear htop2
              subst ea eb
              simp only at t3 t4
              have y1 : (L.length : Int) < L.length + 1 := by omega
              have y2 : IntKind.i64.wrap (L.length : Int) = L.length := wrap_i64_in (by omega)
              refine wpAnyL_switch (late' := []) (S0' := fun w' => Ok M w' ∧ w'.cell? ⟨p, 0, none⟩ = some (pt g2) ∧ w'.cell? ⟨q, 0, none⟩ = some (pt h2) ∧ w'.cell? ⟨b9, L.length, none⟩ = some (pt g) ∧ w'.cell? ⟨b10, L.length, none⟩ = some (pt h)) (S1' := fun _ => True) (fun _ h => h.1) 4 (by kernel_rfl) _ _ _ _ (by kernel_rfl) ?_
              clear hS hT P2 hn2 r2 f2
              have hS : Ok M w2 ∧ w2.cell? ⟨p, 0, none⟩ = some (pt g2) ∧ w2.cell? ⟨q, 0, none⟩ = some (pt h2) ∧ w2.cell? ⟨b9, L.length, none⟩ = some (pt g) ∧ w2.cell? ⟨b10, L.length, none⟩ = some (pt h) := ⟨hok2, t1, t2, t3, t4⟩
              have hT : True := trivial
              clear t1 t2 t3 t4 hok2
              refine wpAnyL_take0 (i := 5) (oi := ⟨_, _, _, _, _, _⟩) (v := ?_) rfl (by kernel_rfl) (by kernel_rfl) (by kernel_rfl) (fun _ _ _ h => h) (by kernel_rfl) (Or.inl ⟨by rfl, ?_⟩) hS (fun _ => hT) ?_
              rotate_left
              · (intro w' hA; go_simp; (try with_reducible rfl))
              (try simp only [Act.put, List.setIfInBounds_toArray, List.set_cons_zero, List.set_cons_succ])
              refine wpAnyL_take0 (i := 6) (oi := ⟨_, _, _, _, _, _⟩) (v := ?_) rfl (by kernel_rfl) (by kernel_rfl) (by kernel_rfl) (fun _ _ _ h => h) (by kernel_rfl) (Or.inl ⟨by rfl, ?_⟩) hS (fun _ => hT) ?_
              rotate_left
              · (intro w' hA; go_simp; (try with_reducible rfl))
              (try simp only [Act.put, List.setIfInBounds_toArray, List.set_cons_zero, List.set_cons_succ])
              refine wpAnyL_take0 (i := 7) (oi := ⟨_, _, _, _, _, _⟩) (v := ?_) rfl (by kernel_rfl) (by kernel_rfl) (by kernel_rfl) (fun _ _ _ h => h) (by kernel_rfl) (Or.inl ⟨by rfl, ?_⟩) hS (fun _ => hT) ?_
              rotate_left
              · (intro w' hA; obtain ⟨hB, hC, hD, hE, hF⟩ := hA; go_simp; (try with_reducible rfl))
              (try simp only [Act.put, List.setIfInBounds_toArray, List.set_cons_zero, List.set_cons_succ])
              refine wpAnyL_take0 (i := 8) (oi := ⟨_, _, _, _, _, _⟩) (v := ?_) rfl (by kernel_rfl) (by kernel_rfl) (by kernel_rfl) (fun _ _ _ h => h) (by kernel_rfl) (Or.inl ⟨by rfl, ?_⟩) hS (fun _ => hT) ?_
              rotate_left
              · (intro w' hA; obtain ⟨hB, hC, hD, hE, hF⟩ := hA; go_simp; (try with_reducible rfl))
              (try simp only [Act.put, List.setIfInBounds_toArray, List.set_cons_zero, List.set_cons_succ])
              refine wpAnyL_ready (rs := [9]) (by kernel_rfl) (by simp) (AllReadyL.cons (o := ⟨_, _, _, _, _, _⟩) rfl (fun K hK => ?_) AllReadyL.nil)
              go_simp
              go_at_call 10
              refine (stands_any M w2 g2 h2 s2 P2H.out.r P2H.out.w).mono ?_
              rintro _ w3 ⟨rfl, k, rfl⟩
              refine hK.out _ _ (⟨hS.1.drewN k, hS.2⟩) (fun _ => trivial) (fun hS => ?_)
              clear hK K
              (try simp only [Act.put, List.setIfInBounds_toArray, List.set_cons_zero, List.set_cons_succ])
              have htm : (dd : Int).tmod 8 = (dd : Int) % 8 := Int.tmod_eq_emod_of_nonneg (by omega)
              refine wpAnyL_take0 (i := 10) (oi := ⟨_, _, _, _, _, _⟩) (v := ?_) rfl (by kernel_rfl) (by kernel_rfl) (by kernel_rfl) (fun _ _ _ h => h) (by kernel_rfl) (Or.inl ⟨by rfl, ?_⟩) hS (fun _ => hT) ?_
              rotate_left
              · (intro w' hA; go_simp; (try with_reducible rfl))
              (try simp only [Act.put, List.setIfInBounds_toArray, List.set_cons_zero, List.set_cons_succ])
              refine wpAnyL_take0 (i := 11) (oi := ⟨_, _, _, _, _, _⟩) (v := ?_) rfl (by kernel_rfl) (by kernel_rfl) (by kernel_rfl) (fun _ _ _ h => h) (by kernel_rfl) (Or.inl ⟨by rfl, ?_⟩) hS (fun _ => hT) ?_
              rotate_left
              · (intro w' hA; go_simp; (try with_reducible rfl))
              (try simp only [Act.put, List.setIfInBounds_toArray, List.set_cons_zero, List.set_cons_succ])
              refine wpAnyL_take0 (i := 12) (oi := ⟨_, _, _, _, _, _⟩) (v := ?_) rfl (by kernel_rfl) (by kernel_rfl) (by kernel_rfl) (fun _ _ _ h => h) (by kernel_rfl) (Or.inl ⟨by rfl, ?_⟩) hS (fun _ => hT) ?_
              rotate_left
              · (intro w' hA; go_simp; (try with_reducible rfl))
              (try simp only [Act.put, List.setIfInBounds_toArray, List.set_cons_zero, List.set_cons_succ])
              refine wpAnyL_take0 (i := 13) (oi := ⟨_, _, _, _, _, _⟩) (v := ?_) rfl (by kernel_rfl) (by kernel_rfl) (by kernel_rfl) (fun _ _ _ h => h) (by kernel_rfl) (Or.inl ⟨by rfl, ?_⟩) hS (fun _ => hT) ?_
              rotate_left
              · (intro w' hA; go_simp; (try with_reducible rfl))
              (try simp only [Act.put, List.setIfInBounds_toArray, List.set_cons_zero, List.set_cons_succ])
              refine wpAnyL_take0 (i := 14) (oi := ⟨_, _, _, _, _, _⟩) (v := ?_) rfl (by kernel_rfl) (by kernel_rfl) (by kernel_rfl) (fun _ _ _ h => h) (by kernel_rfl) (Or.inl ⟨by rfl, ?_⟩) hS (fun _ => hT) ?_
              rotate_left
              · (intro w' hA; go_simp; (try with_reducible rfl))
              (try simp only [Act.put, List.setIfInBounds_toArray, List.set_cons_zero, List.set_cons_succ])
              refine wpAnyL_take0 (i := 15) (oi := ⟨_, _, _, _, _, _⟩) (v := ?_) rfl (by kernel_rfl) (by kernel_rfl) (by kernel_rfl) (fun _ _ _ h => h) (by kernel_rfl) (Or.inl ⟨by rfl, ?_⟩) hS (fun _ => hT) ?_
              rotate_left
              · (intro w' hA; go_simp; (try with_reducible rfl))
              (try simp only [Act.put, List.setIfInBounds_toArray, List.set_cons_zero, List.set_cons_succ])
              refine wpAnyL_take0 (i := 16) (oi := ⟨_, _, _, _, _, _⟩) (v := ?_) rfl (by kernel_rfl) (by kernel_rfl) (by kernel_rfl) (fun _ _ _ h => h) (by kernel_rfl) (Or.inl ⟨by rfl, ?_⟩) hS (fun _ => hT) ?_
              rotate_left
              · (intro w' hA; go_simp; (try with_reducible rfl))
              (try simp only [Act.put, List.setIfInBounds_toArray, List.set_cons_zero, List.set_cons_succ])
              refine wpAnyL_take0 (i := 17) (oi := ⟨_, _, _, _, _, _⟩) (v := ?_) rfl (by kernel_rfl) (by kernel_rfl) (by kernel_rfl) (fun _ _ _ h => h) (by kernel_rfl) (Or.inl ⟨by rfl, ?_⟩) hS (fun _ => hT) ?_
              rotate_left
              · (intro w' hA; have d0 := hA.1.cell _ _ _ HM.out.1; go_simp; (try with_reducible rfl))
              (try simp only [Act.put, List.setIfInBounds_toArray, List.set_cons_zero, List.set_cons_succ])
              refine wpAnyL_take0 (i := 18) (oi := ⟨_, _, _, _, _, _⟩) (v := ?_) rfl (by kernel_rfl) (by kernel_rfl) (by kernel_rfl) (fun _ _ _ h => h) (by kernel_rfl) (Or.inl ⟨by rfl, ?_⟩) hS (fun _ => hT) ?_
              rotate_left
              · (intro w' hA; go_simp; (try with_reducible rfl))
              (try simp only [Act.put, List.setIfInBounds_toArray, List.set_cons_zero, List.set_cons_succ])
              refine wpAnyL_take0 (i := 19) (oi := ⟨_, _, _, _, _, _⟩) (v := ?_) rfl (by kernel_rfl) (by kernel_rfl) (by kernel_rfl) (fun _ _ _ h => h) (by kernel_rfl) (Or.inl ⟨by rfl, ?_⟩) hS (fun _ => hT) ?_
              rotate_left
              · (intro w' hA; go_simp; (try with_reducible rfl))
              (try simp only [Act.put, List.setIfInBounds_toArray, List.set_cons_zero, List.set_cons_succ])
              refine wpAnyL_take0 (i := 20) (oi := ⟨_, _, _, _, _, _⟩) (v := ?_) rfl (by kernel_rfl) (by kernel_rfl) (by kernel_rfl) (fun _ _ _ h => h) (by kernel_rfl) (Or.inl ⟨by rfl, ?_⟩) hS (fun _ => hT) ?_
              rotate_left
              · (intro w' hA; go_simp; (try with_reducible rfl))
              (try simp only [Act.put, List.setIfInBounds_toArray, List.set_cons_zero, List.set_cons_succ])
              refine wpAnyL_take0 (i := 21) (oi := ⟨_, _, _, _, _, _⟩) (v := ?_) rfl (by kernel_rfl) (by kernel_rfl) (by kernel_rfl) (fun _ _ _ h => h) (by kernel_rfl) (Or.inl ⟨by rfl, ?_⟩) hS (fun _ => hT) ?_
              rotate_left
              · (intro w' hA; go_simp; (try with_reducible rfl))
              (try simp only [Act.put, List.setIfInBounds_toArray, List.set_cons_zero, List.set_cons_succ])
              refine wpAnyL_take0 (i := 22) (oi := ⟨_, _, _, _, _, _⟩) (v := ?_) rfl (by kernel_rfl) (by kernel_rfl) (by kernel_rfl) (fun _ _ _ h => h) (by kernel_rfl) (Or.inl ⟨by rfl, ?_⟩) hS (fun _ => hT) ?_
              rotate_left
              · (intro w' hA; go_simp; (try with_reducible rfl))
              (try simp only [Act.put, List.setIfInBounds_toArray, List.set_cons_zero, List.set_cons_succ])
              refine wpAnyL_take0 (i := 23) (oi := ⟨_, _, _, _, _, _⟩) (v := ?_) rfl (by kernel_rfl) (by kernel_rfl) (by kernel_rfl) (fun _ _ _ h => h) (by kernel_rfl) (Or.inl ⟨by rfl, ?_⟩) hS (fun _ => hT) ?_
              rotate_left
              · (intro w' hA; go_simp; (try with_reducible rfl))
              (try simp only [Act.put, List.setIfInBounds_toArray, List.set_cons_zero, List.set_cons_succ])
              refine wpAnyL_take0 (i := 24) (oi := ⟨_, _, _, _, _, _⟩) (v := ?_) rfl (by kernel_rfl) (by kernel_rfl) (by kernel_rfl) (fun _ _ _ h => h) (by kernel_rfl) (Or.inl ⟨by rfl, ?_⟩) hS (fun _ => hT) ?_
              rotate_left
              · (intro w' hA; go_simp; (try with_reducible rfl))
              (try simp only [Act.put, List.setIfInBounds_toArray, List.set_cons_zero, List.set_cons_succ])
              refine wpAnyL_take0 (i := 25) (oi := ⟨_, _, _, _, _, _⟩) (v := ?_) rfl (by kernel_rfl) (by kernel_rfl) (by kernel_rfl) (fun _ _ _ h => h) (by kernel_rfl) (Or.inl ⟨by rfl, ?_⟩) hS (fun _ => hT) ?_
              rotate_left
              · (intro w' hA; go_simp; (try with_reducible rfl))
              (try simp only [Act.put, List.setIfInBounds_toArray, List.set_cons_zero, List.set_cons_succ])
              refine wpAnyL_take0 (i := 26) (oi := ⟨_, _, _, _, _, _⟩) (v := ?_) rfl (by kernel_rfl) (by kernel_rfl) (by kernel_rfl) (fun _ _ _ h => h) (by kernel_rfl) (Or.inl ⟨by rfl, ?_⟩) hS (fun _ => hT) ?_
              rotate_left
              · (intro w' hA; obtain ⟨hB, hC, hD, hE, hF⟩ := hA; go_simp; (try with_reducible rfl))
              (try simp only [Act.put, List.setIfInBounds_toArray, List.set_cons_zero, List.set_cons_succ])
              refine wpAnyL_take0 (i := 27) (oi := ⟨_, _, _, _, _, _⟩) (v := ?_) rfl (by kernel_rfl) (by kernel_rfl) (by kernel_rfl) (fun _ _ _ h => h) (by kernel_rfl) (Or.inl ⟨by rfl, ?_⟩) hS (fun _ => hT) ?_
              rotate_left
              · (intro w' hA; go_simp; (try with_reducible rfl))
              (try simp only [Act.put, List.setIfInBounds_toArray, List.set_cons_zero, List.set_cons_succ])
              refine wpAnyL_take0 (i := 28) (oi := ⟨_, _, _, _, _, _⟩) (v := ?_) rfl (by kernel_rfl) (by kernel_rfl) (by kernel_rfl) (fun _ _ _ h => h) (by kernel_rfl) (Or.inl ⟨by rfl, ?_⟩) hS (fun _ => hT) ?_
              rotate_left
              · (intro w' hA; go_simp; (try with_reducible rfl))
              (try simp only [Act.put, List.setIfInBounds_toArray, List.set_cons_zero, List.set_cons_succ])
              refine wpAnyL_take0 (i := 29) (oi := ⟨_, _, _, _, _, _⟩) (v := ?_) rfl (by kernel_rfl) (by kernel_rfl) (by kernel_rfl) (fun _ _ _ h => h) (by kernel_rfl) (Or.inl ⟨by rfl, ?_⟩) hS (fun _ => hT) ?_
              rotate_left
              · (intro w' hA; go_simp; (try with_reducible rfl))
              (try simp only [Act.put, List.setIfInBounds_toArray, List.set_cons_zero, List.set_cons_succ])
              refine wpAnyL_take0 (i := 30) (oi := ⟨_, _, _, _, _, _⟩) (v := ?_) rfl (by kernel_rfl) (by kernel_rfl) (by kernel_rfl) (fun _ _ _ h => h) (by kernel_rfl) (Or.inl ⟨by rfl, ?_⟩) hS (fun _ => hT) ?_
              rotate_left
              · (intro w' hA; go_simp; (try with_reducible rfl))
              (try simp only [Act.put, List.setIfInBounds_toArray, List.set_cons_zero, List.set_cons_succ])
              refine wpAnyL_take0 (i := 31) (oi := ⟨_, _, _, _, _, _⟩) (v := ?_) rfl (by kernel_rfl) (by kernel_rfl) (by kernel_rfl) (fun _ _ _ h => h) (by kernel_rfl) (Or.inl ⟨by rfl, ?_⟩) hS (fun _ => hT) ?_
              rotate_left
              · (intro w' hA; go_simp; (try with_reducible rfl))
              (try simp only [Act.put, List.setIfInBounds_toArray, List.set_cons_zero, List.set_cons_succ])
              refine wpAnyL_take0 (i := 32) (oi := ⟨_, _, _, _, _, _⟩) (v := ?_) rfl (by kernel_rfl) (by kernel_rfl) (by kernel_rfl) (fun _ _ _ h => h) (by kernel_rfl) (Or.inl ⟨by rfl, ?_⟩) hS (fun _ => hT) ?_
              rotate_left
              · (intro w' hA; obtain ⟨hB, hC, hD, hE, hF⟩ := hA; go_simp; (try with_reducible rfl))
              (try simp only [Act.put, List.setIfInBounds_toArray, List.set_cons_zero, List.set_cons_succ])
              refine wpAnyL_ready (rs := [33]) (by kernel_rfl) (by simp) (AllReadyL.cons (o := ⟨_, _, _, _, _, _⟩) rfl (fun K hK => ?_) AllReadyL.nil)
              go_simp
              go_at_call 10
              refine (stands_any M (w2.drewN k) g h s3 (R2H.out.1.drewN k) (R2H.out.2.drewN k)).mono ?_
              rintro _ w3 ⟨rfl, k', rfl⟩
              refine hK.out _ _ (⟨hS.1.drewN k', hS.2⟩) (fun _ => trivial) (fun hS => ?_)
              clear hK K
              (try simp only [Act.put, List.setIfInBounds_toArray, List.set_cons_zero, List.set_cons_succ])
              refine wpAnyL_take0 (i := 34) (oi := ⟨_, _, _, _, _, _⟩) (v := ?_) rfl (by kernel_rfl) (by kernel_rfl) (by kernel_rfl) (fun _ _ _ h => h) (by kernel_rfl) (Or.inl ⟨by rfl, ?_⟩) hS (fun _ => hT) ?_
              rotate_left
              · (intro w' hA; go_simp; (try with_reducible rfl))
              (try simp only [Act.put, List.setIfInBounds_toArray, List.set_cons_zero, List.set_cons_succ])
              refine wpAnyL_take0 (i := 35) (oi := ⟨_, _, _, _, _, _⟩) (v := ?_) rfl (by kernel_rfl) (by kernel_rfl) (by kernel_rfl) (fun _ _ _ h => h) (by kernel_rfl) (Or.inl ⟨by rfl, ?_⟩) hS (fun _ => hT) ?_
              rotate_left
              · (intro w' hA; go_simp; (try with_reducible rfl))
              (try simp only [Act.put, List.setIfInBounds_toArray, List.set_cons_zero, List.set_cons_succ])
              refine wpAnyL_take0 (i := 36) (oi := ⟨_, _, _, _, _, _⟩) (v := ?_) rfl (by kernel_rfl) (by kernel_rfl) (by kernel_rfl) (fun _ _ _ h => h) (by kernel_rfl) (Or.inl ⟨by rfl, ?_⟩) hS (fun _ => hT) ?_
              rotate_left
              · (intro w' hA; go_simp; (try with_reducible rfl))
              (try simp only [Act.put, List.setIfInBounds_toArray, List.set_cons_zero, List.set_cons_succ])
              refine wpAnyL_done (by kernel_rfl) ?_ _
              go_wp2_with fail
              go_roundw
              case rel => exact ⟨j + 1, g2, h2, s2, L ++ [(g, h, s3)], by omega, by simp; omega, by go_num, SH2.out.drewN (k + k'), NH2.out.drewN (k + k')⟩
              case measure => simp [intOf]; omega
          · have h5' : ¬ (dd : Int) % 8 = 5 := by omega
            have h5b : ((dd : Int) % 8 == 5) = false := beq_eq_false_iff_ne.2 h5'
            have HM := Lib.hid (And.intro m0 m1); clear m0 m1
            have HT := Lib.hid htop; clear htop
            have HA := fun W k P => Lib.hid (asked_any M W p q g h dd most s k P h5 h7 hd256 hmost)
            have HA' := Lib.hid HA; clear HA
            go_wp2_with fail
            refine wp_region_late [4] (fun w' => Ok M w') (fun w' => True) (by kernel_rfl) NH.out.ok.drew trivial ?_
            intro hS hT
            refine wpAnyL_take0 (i := 0) (oi := ⟨_, _, _, _, _, _⟩) (v := ?_) rfl (by kernel_rfl) (by kernel_rfl) (by kernel_rfl) (fun _ _ _ h => h) (by kernel_rfl) (Or.inl ⟨by rfl, ?_⟩) hS (fun _ => hT) ?_
            rotate_left
            · (intro w' hA; go_simp; (try with_reducible rfl))
            (try simp only [Act.put, List.setIfInBounds_toArray, List.set_cons_zero, List.set_cons_succ])
            refine wpAnyL_take0 (i := 1) (oi := ⟨_, _, _, _, _, _⟩) (v := ?_) rfl (by kernel_rfl) (by kernel_rfl) (by kernel_rfl) (fun _ _ _ h => h) (by kernel_rfl) (Or.inl ⟨by rfl, ?_⟩) hS (fun _ => hT) ?_
            rotate_left
            · (intro w' hA; go_simp; (try with_reducible rfl))
            (try simp only [Act.put, List.setIfInBounds_toArray, List.set_cons_zero, List.set_cons_succ])
            refine wpAnyL_take0 (i := 2) (oi := ⟨_, _, _, _, _, _⟩) (v := ?_) rfl (by kernel_rfl) (by kernel_rfl) (by kernel_rfl) (fun _ _ _ h => h) (by kernel_rfl) (Or.inl ⟨by rfl, ?_⟩) hS (fun _ => hT) ?_
            rotate_left
            · (intro w' hA; go_simp; (try with_reducible rfl))
            (try simp only [Act.put, List.setIfInBounds_toArray, List.set_cons_zero, List.set_cons_succ])
            refine wpAnyL_take0 (i := 3) (oi := ⟨_, _, _, _, _, _⟩) (v := ?_) rfl (by kernel_rfl) (by kernel_rfl) (by kernel_rfl) (fun _ _ _ h => h) (by kernel_rfl) (Or.inl ⟨by rfl, ?_⟩) hS (fun _ => hT) ?_
            rotate_left
            · (intro w' hA; have d0 := hA.cell _ _ _ HM.out.1; have d1 := hA.cell _ _ _ HM.out.2; go_simp; (try with_reducible rfl))
            (try simp only [Act.put, List.setIfInBounds_toArray, List.set_cons_zero, List.set_cons_succ])
            refine wpAnyL_ready (rs := [4]) (by kernel_rfl) (by simp) (AllReadyL.cons (o := ⟨_, _, _, _, _, _⟩) rfl (fun K hK => ?_) AllReadyL.nil)
            go_simp
            go_at_call 9
            refine (HA'.out wr.drew NH.out.ok.drew SH.out.drew.pr).out.mono ?_
            rintro _ w2 ⟨rfl, s', hn2, P2⟩
            have SH2 := Lib.hid (SH.out.drew.ask hn2 P2)
            have NH2 := Lib.hid (NH.out.drew.trans hn2 (by intro x hx hl; simp at hx; have := SH.out.lp; exfalso; omega))
            have hok2 := hn2.ok
            have P2H := Lib.hid P2
            have t1 := P2.vr.cell 0
            have t2 := P2.vw.cell 0
            simp only [List.getElem?_toArray, List.getElem?_cons_zero] at t1 t2
            refine hK.out _ _ (hok2) (Early.no 4 (by kernel_rfl) (by kernel_rfl)) (fun hS => ?_)
            clear hK K
            (try simp only [Act.put, List.setIfInBounds_toArray, List.set_cons_zero, List.set_cons_succ])
            refine wpAnyL_switch (late' := []) (S0' := fun w' => Ok M w' ∧ w'.cell? ⟨p, 0, none⟩ = some (pt g) ∧ w'.cell? ⟨q, 0, none⟩ = some (pt h)) (S1' := fun _ => True) (fun _ h => h.1) 4 (by kernel_rfl) _ _ _ _ (by kernel_rfl) ?_
            clear hS hT z3 z4 c0 P2 hn2
            have hS : Ok M w2 ∧ w2.cell? ⟨p, 0, none⟩ = some (pt g) ∧ w2.cell? ⟨q, 0, none⟩ = some (pt h) := ⟨hok2, t1, t2⟩
            have hT : True := trivial
            clear t1 t2 hok2
            refine wpAnyL_take0 (i := 5) (oi := ⟨_, _, _, _, _, _⟩) (v := ?_) rfl (by kernel_rfl) (by kernel_rfl) (by kernel_rfl) (fun _ _ _ h => h) (by kernel_rfl) (Or.inl ⟨by rfl, ?_⟩) hS (fun _ => hT) ?_
            rotate_left
            · (intro w' hA; go_simp; (try with_reducible rfl))
            (try simp only [Act.put, List.setIfInBounds_toArray, List.set_cons_zero, List.set_cons_succ])
            refine wpAnyL_take0 (i := 6) (oi := ⟨_, _, _, _, _, _⟩) (v := ?_) rfl (by kernel_rfl) (by kernel_rfl) (by kernel_rfl) (fun _ _ _ h => h) (by kernel_rfl) (Or.inl ⟨by rfl, ?_⟩) hS (fun _ => hT) ?_
            rotate_left
            · (intro w' hA; go_simp; (try with_reducible rfl))
            (try simp only [Act.put, List.setIfInBounds_toArray, List.set_cons_zero, List.set_cons_succ])
            refine wpAnyL_take0 (i := 7) (oi := ⟨_, _, _, _, _, _⟩) (v := ?_) rfl (by kernel_rfl) (by kernel_rfl) (by kernel_rfl) (fun _ _ _ h => h) (by kernel_rfl) (Or.inl ⟨by rfl, ?_⟩) hS (fun _ => hT) ?_
            rotate_left
            · (intro w' hA; obtain ⟨hB, hC, hD⟩ := hA; go_simp; (try with_reducible rfl))
            (try simp only [Act.put, List.setIfInBounds_toArray, List.set_cons_zero, List.set_cons_succ])
            refine wpAnyL_take0 (i := 8) (oi := ⟨_, _, _, _, _, _⟩) (v := ?_) rfl (by kernel_rfl) (by kernel_rfl) (by kernel_rfl) (fun _ _ _ h => h) (by kernel_rfl) (Or.inl ⟨by rfl, ?_⟩) hS (fun _ => hT) ?_
            rotate_left
            · (intro w' hA; obtain ⟨hB, hC, hD⟩ := hA; go_simp; (try with_reducible rfl))
            (try simp only [Act.put, List.setIfInBounds_toArray, List.set_cons_zero, List.set_cons_succ])
            refine wpAnyL_ready (rs := [9]) (by kernel_rfl) (by simp) (AllReadyL.cons (o := ⟨_, _, _, _, _, _⟩) rfl (fun K hK => ?_) AllReadyL.nil)
            go_simp
            go_at_call 10
            refine (stands_any M w2 g h s' P2H.out.r P2H.out.w).mono ?_
            rintro _ w3 ⟨rfl, k, rfl⟩
            refine hK.out _ _ (⟨hS.1.drewN k, hS.2⟩) (fun _ => trivial) (fun hS => ?_)
            clear hK K
            (try simp only [Act.put, List.setIfInBounds_toArray, List.set_cons_zero, List.set_cons_succ])
            have htm : (dd : Int).tmod 8 = (dd : Int) % 8 := Int.tmod_eq_emod_of_nonneg (by omega)
            refine wpAnyL_take0 (i := 10) (oi := ⟨_, _, _, _, _, _⟩) (v := ?_) rfl (by kernel_rfl) (by kernel_rfl) (by kernel_rfl) (fun _ _ _ h => h) (by kernel_rfl) (Or.inl ⟨by rfl, ?_⟩) hS (fun _ => hT) ?_
            rotate_left
            · (intro w' hA; go_simp; (try with_reducible rfl))
            (try simp only [Act.put, List.setIfInBounds_toArray, List.set_cons_zero, List.set_cons_succ])
            refine wpAnyL_take0 (i := 11) (oi := ⟨_, _, _, _, _, _⟩) (v := ?_) rfl (by kernel_rfl) (by kernel_rfl) (by kernel_rfl) (fun _ _ _ h => h) (by kernel_rfl) (Or.inl ⟨by rfl, ?_⟩) hS (fun _ => hT) ?_
            rotate_left
            · (intro w' hA; go_simp; (try with_reducible rfl))
            (try simp only [Act.put, List.setIfInBounds_toArray, List.set_cons_zero, List.set_cons_succ])
            refine wpAnyL_take0 (i := 12) (oi := ⟨_, _, _, _, _, _⟩) (v := ?_) rfl (by kernel_rfl) (by kernel_rfl) (by kernel_rfl) (fun _ _ _ h => h) (by kernel_rfl) (Or.inl ⟨by rfl, ?_⟩) hS (fun _ => hT) ?_
            rotate_left
            · (intro w' hA; go_simp; (try with_reducible rfl))
            (try simp only [Act.put, List.setIfInBounds_toArray, List.set_cons_zero, List.set_cons_succ])
            refine wpAnyL_take0 (i := 13) (oi := ⟨_, _, _, _, _, _⟩) (v := ?_) rfl (by kernel_rfl) (by kernel_rfl) (by kernel_rfl) (fun _ _ _ h => h) (by kernel_rfl) (Or.inl ⟨by rfl, ?_⟩) hS (fun _ => hT) ?_
            rotate_left
            · (intro w' hA; go_simp; (try with_reducible rfl))
            (try simp only [Act.put, List.setIfInBounds_toArray, List.set_cons_zero, List.set_cons_succ])
            refine wpAnyL_take0 (i := 14) (oi := ⟨_, _, _, _, _, _⟩) (v := ?_) rfl (by kernel_rfl) (by kernel_rfl) (by kernel_rfl) (fun _ _ _ h => h) (by kernel_rfl) (Or.inl ⟨by rfl, ?_⟩) hS (fun _ => hT) ?_
            rotate_left
            · (intro w' hA; go_simp; (try with_reducible rfl))
            (try simp only [Act.put, List.setIfInBounds_toArray, List.set_cons_zero, List.set_cons_succ])
            refine wpAnyL_take0 (i := 15) (oi := ⟨_, _, _, _, _, _⟩) (v := ?_) rfl (by kernel_rfl) (by kernel_rfl) (by kernel_rfl) (fun _ _ _ h => h) (by kernel_rfl) (Or.inl ⟨by rfl, ?_⟩) hS (fun _ => hT) ?_
            rotate_left
            · (intro w' hA; go_simp; (try with_reducible rfl))
            (try simp only [Act.put, List.setIfInBounds_toArray, List.set_cons_zero, List.set_cons_succ])
            refine wpAnyL_take0 (i := 16) (oi := ⟨_, _, _, _, _, _⟩) (v := ?_) rfl (by kernel_rfl) (by kernel_rfl) (by kernel_rfl) (fun _ _ _ h => h) (by kernel_rfl) (Or.inl ⟨by rfl, ?_⟩) hS (fun _ => hT) ?_
            rotate_left
            · (intro w' hA; go_simp; (try with_reducible rfl))
            (try simp only [Act.put, List.setIfInBounds_toArray, List.set_cons_zero, List.set_cons_succ])
            refine wpAnyL_take0 (i := 17) (oi := ⟨_, _, _, _, _, _⟩) (v := ?_) rfl (by kernel_rfl) (by kernel_rfl) (by kernel_rfl) (fun _ _ _ h => h) (by kernel_rfl) (Or.inl ⟨by rfl, ?_⟩) hS (fun _ => hT) ?_
            rotate_left
            · (intro w' hA; have d0 := hA.1.cell _ _ _ HM.out.1; go_simp; (try with_reducible rfl))
            (try simp only [Act.put, List.setIfInBounds_toArray, List.set_cons_zero, List.set_cons_succ])
            refine wpAnyL_take0 (i := 18) (oi := ⟨_, _, _, _, _, _⟩) (v := ?_) rfl (by kernel_rfl) (by kernel_rfl) (by kernel_rfl) (fun _ _ _ h => h) (by kernel_rfl) (Or.inl ⟨by rfl, ?_⟩) hS (fun _ => hT) ?_
            rotate_left
            · (intro w' hA; go_simp; (try with_reducible rfl))
            (try simp only [Act.put, List.setIfInBounds_toArray, List.set_cons_zero, List.set_cons_succ])
            refine wpAnyL_take0 (i := 19) (oi := ⟨_, _, _, _, _, _⟩) (v := ?_) rfl (by kernel_rfl) (by kernel_rfl) (by kernel_rfl) (fun _ _ _ h => h) (by kernel_rfl) (Or.inl ⟨by rfl, ?_⟩) hS (fun _ => hT) ?_
            rotate_left
            · (intro w' hA; go_simp; (try with_reducible rfl))
            (try simp only [Act.put, List.setIfInBounds_toArray, List.set_cons_zero, List.set_cons_succ])
            refine wpAnyL_take0 (i := 20) (oi := ⟨_, _, _, _, _, _⟩) (v := ?_) rfl (by kernel_rfl) (by kernel_rfl) (by kernel_rfl) (fun _ _ _ h => h) (by kernel_rfl) (Or.inl ⟨by rfl, ?_⟩) hS (fun _ => hT) ?_
            rotate_left
            · (intro w' hA; go_simp; (try with_reducible rfl))
            (try simp only [Act.put, List.setIfInBounds_toArray, List.set_cons_zero, List.set_cons_succ])
            refine wpAnyL_take0 (i := 21) (oi := ⟨_, _, _, _, _, _⟩) (v := undef) rfl (by kernel_rfl) (by kernel_rfl) (by kernel_rfl) (fun _ _ _ h => h) (by kernel_rfl) (Or.inr ⟨by rfl, rfl⟩) hS (fun _ => hT) ?_
            (try simp only [Act.put, List.setIfInBounds_toArray, List.set_cons_zero, List.set_cons_succ])
            refine wpAnyL_take0 (i := 22) (oi := ⟨_, _, _, _, _, _⟩) (v := undef) rfl (by kernel_rfl) (by kernel_rfl) (by kernel_rfl) (fun _ _ _ h => h) (by kernel_rfl) (Or.inr ⟨by rfl, rfl⟩) hS (fun _ => hT) ?_
            (try simp only [Act.put, List.setIfInBounds_toArray, List.set_cons_zero, List.set_cons_succ])
            refine wpAnyL_take0 (i := 23) (oi := ⟨_, _, _, _, _, _⟩) (v := undef) rfl (by kernel_rfl) (by kernel_rfl) (by kernel_rfl) (fun _ _ _ h => h) (by kernel_rfl) (Or.inr ⟨by rfl, rfl⟩) hS (fun _ => hT) ?_
            (try simp only [Act.put, List.setIfInBounds_toArray, List.set_cons_zero, List.set_cons_succ])
            refine wpAnyL_take0 (i := 24) (oi := ⟨_, _, _, _, _, _⟩) (v := undef) rfl (by kernel_rfl) (by kernel_rfl) (by kernel_rfl) (fun _ _ _ h => h) (by kernel_rfl) (Or.inr ⟨by rfl, rfl⟩) hS (fun _ => hT) ?_
            (try simp only [Act.put, List.setIfInBounds_toArray, List.set_cons_zero, List.set_cons_succ])
            refine wpAnyL_take0 (i := 25) (oi := ⟨_, _, _, _, _, _⟩) (v := undef) rfl (by kernel_rfl) (by kernel_rfl) (by kernel_rfl) (fun _ _ _ h => h) (by kernel_rfl) (Or.inr ⟨by rfl, rfl⟩) hS (fun _ => hT) ?_
            (try simp only [Act.put, List.setIfInBounds_toArray, List.set_cons_zero, List.set_cons_succ])
            refine wpAnyL_take0 (i := 26) (oi := ⟨_, _, _, _, _, _⟩) (v := undef) rfl (by kernel_rfl) (by kernel_rfl) (by kernel_rfl) (fun _ _ _ h => h) (by kernel_rfl) (Or.inr ⟨by rfl, rfl⟩) hS (fun _ => hT) ?_
            (try simp only [Act.put, List.setIfInBounds_toArray, List.set_cons_zero, List.set_cons_succ])
            refine wpAnyL_take0 (i := 27) (oi := ⟨_, _, _, _, _, _⟩) (v := undef) rfl (by kernel_rfl) (by kernel_rfl) (by kernel_rfl) (fun _ _ _ h => h) (by kernel_rfl) (Or.inr ⟨by rfl, rfl⟩) hS (fun _ => hT) ?_
            (try simp only [Act.put, List.setIfInBounds_toArray, List.set_cons_zero, List.set_cons_succ])
            refine wpAnyL_take0 (i := 28) (oi := ⟨_, _, _, _, _, _⟩) (v := undef) rfl (by kernel_rfl) (by kernel_rfl) (by kernel_rfl) (fun _ _ _ h => h) (by kernel_rfl) (Or.inr ⟨by rfl, rfl⟩) hS (fun _ => hT) ?_
            (try simp only [Act.put, List.setIfInBounds_toArray, List.set_cons_zero, List.set_cons_succ])
            refine wpAnyL_take0 (i := 29) (oi := ⟨_, _, _, _, _, _⟩) (v := undef) rfl (by kernel_rfl) (by kernel_rfl) (by kernel_rfl) (fun _ _ _ h => h) (by kernel_rfl) (Or.inr ⟨by rfl, rfl⟩) hS (fun _ => hT) ?_
            (try simp only [Act.put, List.setIfInBounds_toArray, List.set_cons_zero, List.set_cons_succ])
            refine wpAnyL_take0 (i := 30) (oi := ⟨_, _, _, _, _, _⟩) (v := undef) rfl (by kernel_rfl) (by kernel_rfl) (by kernel_rfl) (fun _ _ _ h => h) (by kernel_rfl) (Or.inr ⟨by rfl, rfl⟩) hS (fun _ => hT) ?_
            (try simp only [Act.put, List.setIfInBounds_toArray, List.set_cons_zero, List.set_cons_succ])
            refine wpAnyL_take0 (i := 31) (oi := ⟨_, _, _, _, _, _⟩) (v := undef) rfl (by kernel_rfl) (by kernel_rfl) (by kernel_rfl) (fun _ _ _ h => h) (by kernel_rfl) (Or.inr ⟨by rfl, rfl⟩) hS (fun _ => hT) ?_
            (try simp only [Act.put, List.setIfInBounds_toArray, List.set_cons_zero, List.set_cons_succ])
            refine wpAnyL_take0 (i := 32) (oi := ⟨_, _, _, _, _, _⟩) (v := undef) rfl (by kernel_rfl) (by kernel_rfl) (by kernel_rfl) (fun _ _ _ h => h) (by kernel_rfl) (Or.inr ⟨by rfl, rfl⟩) hS (fun _ => hT) ?_
            (try simp only [Act.put, List.setIfInBounds_toArray, List.set_cons_zero, List.set_cons_succ])
            refine wpAnyL_take0 (i := 33) (oi := ⟨_, _, _, _, _, _⟩) (v := undef) rfl (by kernel_rfl) (by kernel_rfl) (by kernel_rfl) (fun _ _ _ h => h) (by kernel_rfl) (Or.inr ⟨by rfl, rfl⟩) hS (fun _ => hT) ?_
            (try simp only [Act.put, List.setIfInBounds_toArray, List.set_cons_zero, List.set_cons_succ])
            refine wpAnyL_take0 (i := 34) (oi := ⟨_, _, _, _, _, _⟩) (v := undef) rfl (by kernel_rfl) (by kernel_rfl) (by kernel_rfl) (fun _ _ _ h => h) (by kernel_rfl) (Or.inr ⟨by rfl, rfl⟩) hS (fun _ => hT) ?_
            (try simp only [Act.put, List.setIfInBounds_toArray, List.set_cons_zero, List.set_cons_succ])
            refine wpAnyL_take0 (i := 35) (oi := ⟨_, _, _, _, _, _⟩) (v := ?_) rfl (by kernel_rfl) (by kernel_rfl) (by kernel_rfl) (fun _ _ _ h => h) (by kernel_rfl) (Or.inl ⟨by rfl, ?_⟩) hS (fun _ => hT) ?_
            rotate_left
            · (intro w' hA; go_simp; (try with_reducible rfl))
            (try simp only [Act.put, List.setIfInBounds_toArray, List.set_cons_zero, List.set_cons_succ])
            refine wpAnyL_take0 (i := 36) (oi := ⟨_, _, _, _, _, _⟩) (v := ?_) rfl (by kernel_rfl) (by kernel_rfl) (by kernel_rfl) (fun _ _ _ h => h) (by kernel_rfl) (Or.inl ⟨by rfl, ?_⟩) hS (fun _ => hT) ?_
            rotate_left
            · (intro w' hA; go_simp; (try with_reducible rfl))
            (try simp only [Act.put, List.setIfInBounds_toArray, List.set_cons_zero, List.set_cons_succ])
            refine wpAnyL_done (by kernel_rfl) ?_ _
            go_wp2_with fail
            go_roundw
            case rel => exact ⟨j + 1, g, h, s', L, by omega, by omega, by go_num, SH2.out.drewN k, NH2.out.drewN k⟩
            case measure => simp [intOf]; omega
      · have hge : ¬ ((j : Int) < n) := by omega
        go_wp2_with (go_at_call 7; go_must (refine (awake1_any _ _ NH.out.ok).mono ?_); rintro e w2 ⟨rfl, M2, hn3⟩)
        go_ret
        exact ⟨rfl, M2, NH.out.trans hn3 (by simp)⟩
  case hs =>
    rintro _ _ w1 ⟨b1, b5, b6, b7, b8, b9, g, h, p, q, rfl, rfl, hb⟩ i hi
    have hm := mem_ready.1 hi
    have h1 := hb.d8
    have h2 := hb.d9
    have hi2 : (i = 1 ∧ b1 = false ∧ b8 = false ∧ b9 = false) ∨ (i = 5 ∧ b5 = false ∧ b9 = false) ∨ (i = 6 ∧ b6 = false ∧ b8 = false ∧ b9 = false) ∨ (i = 7 ∧ b7 = false ∧ b9 = false) ∨ (i = 8 ∧ b1 = true ∧ b6 = true ∧ b7 = true ∧ b8 = false ∧ b9 = false) ∨ (i = 9 ∧ b1 = true ∧ b5 = true ∧ b6 = true ∧ b7 = true ∧ b8 = true ∧ b9 = false) := by
      clear hb hm
      revert hi h1 h2
      cases b1 <;> cases b5 <;> cases b6 <;> cases b7 <;> cases b8 <;> cases b9 <;> intro hi h1 h2 <;> first
        | (exfalso; simp at h1 h2; done)
        | (clear h1 h2; revert i; decide +kernel)
    rcases hi2 with ⟨rfl, rfl, rfl, rfl⟩ | ⟨rfl, rfl, rfl⟩ | ⟨rfl, rfl, rfl, rfl⟩ | ⟨rfl, rfl, rfl⟩ | ⟨rfl, rfl, rfl, rfl, rfl, rfl⟩ | ⟨rfl, rfl, rfl, rfl, rfl, rfl, rfl⟩
    case' inr.inr.inl =>
      refine wpOp_step (o := ⟨_, _, _, _, _, _⟩) rfl (fun K hK => ?_)
      rw [if_pos (by rfl)]
      go_simp
      exact hK _ _ ⟨⟨hb.n.ok.alloc _, fun _ => trivial⟩, b1, b5, true, b7, false, false, g, h, w1.heap.size, q, by rfl, by cases b1 <;> cases b5 <;> cases b7 <;> rfl, hb.s6⟩
    case' inr.inr.inr.inl =>
      refine wpOp_step (o := ⟨_, _, _, _, _, _⟩) rfl (fun K hK => ?_)
      rw [if_pos (by rfl)]
      go_simp
      exact hK _ _ ⟨⟨hb.n.ok.alloc _, fun _ => trivial⟩, b1, b5, b6, true, b8, false, g, h, p, w1.heap.size, by rfl, by cases b1 <;> cases b5 <;> cases b6 <;> rfl, hb.s7⟩
    case' inl =>
      refine wpOp_step (o := ⟨_, _, _, _, _, _⟩) rfl (fun K hK => ?_)
      rw [if_pos (by rfl)]
      have hm1 := hb.n.ok
      cases b5 <;> cases b6 <;> cases b7 <;> (
        simp only [pb, if_true, if_false, Bool.false_eq_true, Act.put, List.setIfInBounds_toArray, List.set_cons_zero, List.set_cons_succ]
        go_simp
        go_at_call 8
        refine (HR.out w1 hm1).mono ?_
        rintro _ w2 ⟨g2, rfl, hg2, hn2, hr2⟩
        exact hK _ _ ⟨⟨hn2.ok, fun _ => trivial⟩, true, _, _, _, false, false, g2, h, p, q, by rfl, by rfl, hb.s1 hn2 hg2 hr2⟩)
    case' inr.inl =>
      refine wpOp_step (o := ⟨_, _, _, _, _, _⟩) rfl (fun K hK => ?_)
      rw [if_pos (by rfl)]
      have hm1 := hb.n.ok
      cases b1 <;> cases b6 <;> cases b7 <;> (
        simp only [pb, if_true, if_false, Bool.false_eq_true, Act.put, List.setIfInBounds_toArray, List.set_cons_zero, List.set_cons_succ]
        go_simp
        exact hK _ _ ⟨⟨hm1.alloc _, fun _ => trivial⟩, _, true, _, _, b8, false, g, w1.heap.size, p, q, by rfl, by rfl, hb.s5 rfl (by simp only; omega)⟩)
    case' inr.inr.inr.inr.inl =>
      refine wpOp_step (o := ⟨_, _, _, _, _, _⟩) rfl (fun K hK => ?_)
      rw [if_pos (by rfl)]
      have hm1 := hb.n.ok
      have hf := (hb.p rfl).1.frozen 0
      have hk := (hb.p rfl).1.cell 0
      cases b5 <;> (
        simp only [pb, if_true, if_false, Bool.false_eq_true, Act.put, List.setIfInBounds_toArray, List.set_cons_zero, List.set_cons_succ]
        go_simp
        exact hK _ _ ⟨⟨hm1.setCell (hb.p rfl).1.free _, fun _ => trivial⟩, true, _, true, true, true, false, g, h, p, q, by rfl, by rfl, hb.s8⟩)
    case' inr.inr.inr.inr.inr =>
      refine wpOp_step (o := ⟨_, _, _, _, _, _⟩) rfl (fun K hK => ?_)
      rw [if_pos (by rfl)]
      have hm1 := hb.n.ok
      have hf := (hb.q rfl).1.frozen 0
      have hk := (hb.q rfl).1.cell 0
      simp only [pb, if_true, Act.put, List.setIfInBounds_toArray, List.set_cons_zero, List.set_cons_succ]
      go_simp
      exact hK _ _ ⟨⟨hm1.setCell (hb.q rfl).1.free _, fun _ => trivial⟩, true, true, true, true, true, true, g, h, p, q, by rfl, by rfl, hb.s9⟩
set_option maxHeartbeats 1000000 in
theorem reads_out (M : Mem) (w : World) (a : Option Addr) (c n d m : Nat) (ua : Option Addr) (hok : Ok M w) (h : 600 < m ∨ 40 < n) :
    Calls Try.prog 4 #[.slice a m c, .slice ua n d] w fun e w' => e = .returned (.bool true) ∧ ∃ M', Nx [] M w M' w' := by
  by_cases h1 : 600 < m
  · have b1 : 600 < (m : Int) := by omega
    go_enter Try.func4, Try.ntmps4
    go_wp2
    go_ret
    exact ⟨rfl, M, Nx.refl _ hok⟩
  · have b1 : ¬ 600 < (m : Int) := by omega
    have b1' : (m : Int) ≤ 600 := by omega
    have b2 : 40 < (n : Int) := by omega
    go_enter Try.func4, Try.ntmps4
    go_wp2
    go_ret
    exact ⟨rfl, M, Nx.refl _ hok⟩
theorem reads_all (M : Mem) (w : World) (v u : Value) (l : List UInt8) (qs : List (Nat × Nat)) (hok : Ok M w) (hv : RdB M v l) (hu : RdA M u qs) :
    Calls Try.prog 4 #[v, u] w fun e w' => e = .returned (.bool true) ∧ ∃ M', Nx [] M w M' w' := by
  have hv' := hv
  have hu' := hu
  obtain ⟨a, c, rfl, _⟩ := hv
  obtain ⟨ua, d, rfl, _⟩ := hu
  by_cases h : 600 < l.length ∨ 40 < qs.length
  · exact reads_out M w a c _ d _ ua hok h
  · exact reads_in M w a c _ d ua l qs hok (by omega) (by omega) hv' rfl hu'
end Go.Proofs.Ytlecedlondamiaa
