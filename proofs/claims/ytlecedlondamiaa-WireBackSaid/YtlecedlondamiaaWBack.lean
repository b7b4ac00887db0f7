/-
  shuttlecocklaw01.WireBack, walked: it answers true.
-/
import Derived.Test.YtlecedlondamiaaWPut3
import Derived.Test.YtlecedlondamiaaBackP
import Derived.Test.YtlecedlondamiaaRows1
import Derived.Test.YtlecedlondamiaaWSec
import Derived.Test.YtlecedlondamiaaWAwake
import Derived.Test.YtlecedlondamiaaLate
namespace Go.Proofs.Ytlecedlondamiaa
open Go.RowKit
set_option maxRecDepth 100000
set_option linter.unusedVariables false
theorem wrap_u16_nat (x : Nat) : IntKind.u16.wrap (x : Int) = ((x % 65536 : Nat) : Int) := by
  simp only [IntKind.wrap, IntKind.bits, IntKind.signed]
  simp
theorem wrap_u32_nat (x : Nat) : IntKind.u32.wrap (x : Int) = ((x % 4294967296 : Nat) : Int) := by
  simp only [IntKind.wrap, IntKind.bits, IntKind.signed]
  simp
theorem Of.nil_lt {w : World} {v : Value} (h : Of w (.slice none 0 0) v) : ∀ k, v.ownBlock = some k → w.heap.size ≤ k := fun k hk => by
  rcases h k hk with h1 | h1
  · simp [Value.ownBlock] at h1
  · exact h1
theorem Nx.out {A B C : Mem} {a b c : World} {v : Value} (h : Nx [] A a B b) (hof : Of a (.slice none 0 0) v) (k : Nx [v.ownBlock] B b C c) : Nx [] A a C c :=
  h.trans k fun x hx hl => by
    have := hof.nil_lt x (List.mem_singleton.1 hx).symm
    omega
set_option maxHeartbeats 4000000 in
theorem back_in (M : Mem) (w : World) (a b : Option Addr) (c d : Nat) (vs : List Nat) (ls : List (List UInt8)) (hok : Ok M w) (hn : vs.length ≤ 20) (hm : ls.length ≤ 20) (hv : RdV M (.slice a vs.length c) (vs.map nv)) (hvb : ∀ n ∈ vs, n < 18446744073709551616) (hu : RdV M (.slice b ls.length d) (ls.map sv)) :
    Calls Try.prog 5 #[.slice a vs.length c, .slice b ls.length d] w fun e w' => e = .returned (.bool true) ∧ ∃ M', Nx [] M w M' w' := by
  have HV := Lib.hid hv; clear hv
  have HB := Lib.hid hvb; clear hvb
  have HU := Lib.hid hu; clear hu
  have b1 : (vs.length : Int) ≤ 20 := by omega
  have b2 : (ls.length : Int) ≤ 20 := by omega
  go_enter Try.func5, Try.ntmps5
  go_wp2_with fail
  go_loopw [5, 6] (fun u i W => ∃ (j : Nat), j ≤ vs.length ∧ i = .int .i64 j ∧ Tip M W 5 1 u (putNums (vs.take j)).length ((putNums (vs.take j)).map bv) ∧ Nx [] M w M W ∧ Of w (.slice none 0 0) u) (fun _ i _ => vs.length - (intOf i).toNat)
  case atStart => exact ⟨0, Nat.zero_le _, rfl, Tip.nil _ _ _ _, Nx.refl _ hok, Of.refl _ _⟩
  case round =>
    obtain ⟨j, hj, rfl, ht, hN, hof⟩ := hrel
    have TH := Lib.hid ht; clear ht
    have NH := Lib.hid hN; clear hN
    have OH := Lib.hid hof; clear hof
    by_cases hlt : j < vs.length
    · obtain ⟨x, hx⟩ : ∃ x, vs[j]? = some x := ⟨_, List.getElem?_eq_getElem hlt⟩
      obtain ⟨a', c', e1, e2, e3, hcell⟩ := HV.out
      rw [List.length_map] at e1
      cases e1
      obtain ⟨b0, o, rfl, m0⟩ := hcell j (nv x) (by simp [hx])
      clear hcell e2 e3
      have HM := Lib.hid m0; clear m0
      have hxb : x < 18446744073709551616 := HB.out x (List.mem_of_getElem? hx)
      go_wp2_with fail
      refine wp_region_late [] (fun w' => Ok M w') (fun w' => True) (by kernel_rfl) NH.out.ok.drew trivial ?_
      intro hS hT
      refine wpAnyL_take0 (i := 0) (oi := ⟨_, _, _, _, _, _⟩) (v := ?_) rfl (by kernel_rfl) (by kernel_rfl) (by kernel_rfl) (fun _ _ _ h => h) (by kernel_rfl) (Or.inl ⟨by rfl, ?_⟩) hS (fun _ => hT) ?_
      rotate_left
      · (intro w' hA; go_simp; (try with_reducible rfl))
      (try simp only [Act.put, List.setIfInBounds_toArray, List.set_cons_zero, List.set_cons_succ])
      refine wpAnyL_take0 (i := 1) (oi := ⟨_, _, _, _, _, _⟩) (v := ?_) rfl (by kernel_rfl) (by kernel_rfl) (by kernel_rfl) (fun _ _ _ h => h) (by kernel_rfl) (Or.inl ⟨by rfl, ?_⟩) hS (fun _ => hT) ?_
      rotate_left
      · (intro w' hA; go_simp; (try with_reducible rfl))
      (try simp only [Act.put, List.setIfInBounds_toArray, List.set_cons_zero, List.set_cons_succ])
      refine wpAnyL_take0 (i := 2) (oi := ⟨_, _, _, _, _, _⟩) (v := ?_) rfl (by kernel_rfl) (by kernel_rfl) (by kernel_rfl) (fun _ _ _ h => h) (by kernel_rfl) (Or.inl ⟨by rfl, ?_⟩) hS (fun _ => hT) ?_
      rotate_left
      · (intro w' hA; go_simp; (try with_reducible rfl))
      (try simp only [Act.put, List.setIfInBounds_toArray, List.set_cons_zero, List.set_cons_succ])
      refine wpAnyL_take0 (i := 3) (oi := ⟨_, _, _, _, _, _⟩) (v := ?_) rfl (by kernel_rfl) (by kernel_rfl) (by kernel_rfl) (fun _ _ _ h => h) (by kernel_rfl) (Or.inl ⟨by rfl, ?_⟩) hS (fun _ => hT) ?_
      rotate_left
      · (intro w' hA; go_simp; (try with_reducible rfl))
      (try simp only [Act.put, List.setIfInBounds_toArray, List.set_cons_zero, List.set_cons_succ])
      refine wpAnyL_take0 (i := 4) (oi := ⟨_, _, _, _, _, _⟩) (v := ?_) rfl (by kernel_rfl) (by kernel_rfl) (by kernel_rfl) (fun _ _ _ h => h) (by kernel_rfl) (Or.inl ⟨by rfl, ?_⟩) hS (fun _ => hT) ?_
      rotate_left
      · (intro w' hA; have d0 := hA.cell _ _ _ HM.out; go_simp; (try with_reducible rfl))
      (try simp only [Act.put, List.setIfInBounds_toArray, List.set_cons_zero, List.set_cons_succ])
      refine wpAnyL_take0 (i := 5) (oi := ⟨_, _, _, _, _, _⟩) (v := ?_) rfl (by kernel_rfl) (by kernel_rfl) (by kernel_rfl) (fun _ _ _ h => h) (by kernel_rfl) (Or.inl ⟨by rfl, ?_⟩) hS (fun _ => hT) ?_
      rotate_left
      · (intro w' hA; go_simp; (try with_reducible rfl))
      (try simp only [Act.put, List.setIfInBounds_toArray, List.set_cons_zero, List.set_cons_succ])
      refine wpAnyL_take0 (i := 7) (oi := ⟨_, _, _, _, _, _⟩) (v := ?_) rfl (by kernel_rfl) (by kernel_rfl) (by kernel_rfl) (fun _ _ _ h => h) (by kernel_rfl) (Or.inl ⟨by rfl, ?_⟩) hS (fun _ => hT) ?_
      rotate_left
      · (intro w' hA; go_simp; (try with_reducible rfl))
      (try simp only [Act.put, List.setIfInBounds_toArray, List.set_cons_zero, List.set_cons_succ])
      refine wpAnyL_take0 (i := 8) (oi := ⟨_, _, _, _, _, _⟩) (v := ?_) rfl (by kernel_rfl) (by kernel_rfl) (by kernel_rfl) (fun _ _ _ h => h) (by kernel_rfl) (Or.inl ⟨by rfl, ?_⟩) hS (fun _ => hT) ?_
      rotate_left
      · (intro w' hA; go_simp; (try with_reducible rfl))
      (try simp only [Act.put, List.setIfInBounds_toArray, List.set_cons_zero, List.set_cons_succ])
      refine wpAnyL_take0 (i := 9) (oi := ⟨_, _, _, _, _, _⟩) (v := ?_) rfl (by kernel_rfl) (by kernel_rfl) (by kernel_rfl) (fun _ _ _ h => h) (by kernel_rfl) (Or.inl ⟨by rfl, ?_⟩) hS (fun _ => hT) ?_
      rotate_left
      · (intro w' hA; go_simp; (try with_reducible rfl))
      (try simp only [Act.put, List.setIfInBounds_toArray, List.set_cons_zero, List.set_cons_succ])
      refine wpAnyL_take0 (i := 10) (oi := ⟨_, _, _, _, _, _⟩) (v := ?_) rfl (by kernel_rfl) (by kernel_rfl) (by kernel_rfl) (fun _ _ _ h => h) (by kernel_rfl) (Or.inl ⟨by rfl, ?_⟩) hS (fun _ => hT) ?_
      rotate_left
      · (intro w' hA; have d0 := hA.cell _ _ _ HM.out; go_simp; (try with_reducible rfl))
      (try simp only [Act.put, List.setIfInBounds_toArray, List.set_cons_zero, List.set_cons_succ])
      refine wpAnyL_take0 (i := 11) (oi := ⟨_, _, _, _, _, _⟩) (v := ?_) rfl (by kernel_rfl) (by kernel_rfl) (by kernel_rfl) (fun _ _ _ h => h) (by kernel_rfl) (Or.inl ⟨by rfl, ?_⟩) hS (fun _ => hT) ?_
      rotate_left
      · (intro w' hA; go_simp; (try with_reducible rfl))
      (try simp only [Act.put, List.setIfInBounds_toArray, List.set_cons_zero, List.set_cons_succ])
      refine wpAnyL_take0 (i := 13) (oi := ⟨_, _, _, _, _, _⟩) (v := ?_) rfl (by kernel_rfl) (by kernel_rfl) (by kernel_rfl) (fun _ _ _ h => h) (by kernel_rfl) (Or.inl ⟨by rfl, ?_⟩) hS (fun _ => hT) ?_
      rotate_left
      · (intro w' hA; go_simp; (try with_reducible rfl))
      (try simp only [Act.put, List.setIfInBounds_toArray, List.set_cons_zero, List.set_cons_succ])
      refine wpAnyL_take0 (i := 14) (oi := ⟨_, _, _, _, _, _⟩) (v := ?_) rfl (by kernel_rfl) (by kernel_rfl) (by kernel_rfl) (fun _ _ _ h => h) (by kernel_rfl) (Or.inl ⟨by rfl, ?_⟩) hS (fun _ => hT) ?_
      rotate_left
      · (intro w' hA; go_simp; (try with_reducible rfl))
      (try simp only [Act.put, List.setIfInBounds_toArray, List.set_cons_zero, List.set_cons_succ])
      refine wpAnyL_take0 (i := 15) (oi := ⟨_, _, _, _, _, _⟩) (v := ?_) rfl (by kernel_rfl) (by kernel_rfl) (by kernel_rfl) (fun _ _ _ h => h) (by kernel_rfl) (Or.inl ⟨by rfl, ?_⟩) hS (fun _ => hT) ?_
      rotate_left
      · (intro w' hA; go_simp; (try with_reducible rfl))
      (try simp only [Act.put, List.setIfInBounds_toArray, List.set_cons_zero, List.set_cons_succ])
      refine wpAnyL_take0 (i := 16) (oi := ⟨_, _, _, _, _, _⟩) (v := ?_) rfl (by kernel_rfl) (by kernel_rfl) (by kernel_rfl) (fun _ _ _ h => h) (by kernel_rfl) (Or.inl ⟨by rfl, ?_⟩) hS (fun _ => hT) ?_
      rotate_left
      · (intro w' hA; have d0 := hA.cell _ _ _ HM.out; go_simp; (try with_reducible rfl))
      (try simp only [Act.put, List.setIfInBounds_toArray, List.set_cons_zero, List.set_cons_succ])
      have x16 := Lib.hid (wrap_u16_nat x)
      have x32 := Lib.hid (wrap_u32_nat x)
      have hlen : (putNums (vs.take j)).length ≤ 16 * (vs.take j).length := flat_len putOne 16 _ (fun y hy => putOne_len (HB.out y (List.mem_of_mem_take hy)))
      rw [List.length_take] at hlen
      refine wpAnyL_ready (rs := [6]) (by kernel_rfl) (by simp) (AllReadyL.cons (o := ⟨_, _, _, _, _, _⟩) rfl (fun K hK => ?_) AllReadyL.nil)
      go_simp
      go_at_call 13
      rw [x16.out]
      refine (Put16_any M _ _ _ (x % 65536) _ hS TH.out.drew (by omega) (by unfold lim; omega)).mono ?_
      rintro _ w1 ⟨v1, rfl, ht1, hn1, hof1⟩
      refine hK.out _ _ (hn1.ok) (fun _ => trivial) (fun hS => ?_)
      clear hK K
      (try simp only [Act.put, List.setIfInBounds_toArray, List.set_cons_zero, List.set_cons_succ])
      refine wpAnyL_ready (rs := [12]) (by kernel_rfl) (by simp) (AllReadyL.cons (o := ⟨_, _, _, _, _, _⟩) rfl (fun K hK => ?_) AllReadyL.nil)
      go_simp
      go_at_call 12
      rw [x32.out]
      refine (Put32_any M _ _ _ (x % 4294967296) _ hS ht1 (by omega) (by unfold lim; omega)).mono ?_
      rintro _ w2 ⟨v2, rfl, ht2, hn2, hof2⟩
      refine hK.out _ _ (hn2.ok) (fun _ => trivial) (fun hS => ?_)
      clear hK K
      (try simp only [Act.put, List.setIfInBounds_toArray, List.set_cons_zero, List.set_cons_succ])
      refine wpAnyL_ready (rs := [17]) (by kernel_rfl) (by simp) (AllReadyL.cons (o := ⟨_, _, _, _, _, _⟩) rfl (fun K hK => ?_) AllReadyL.nil)
      go_simp
      go_at_call 11
      have hvl := putVar_le hxb
      refine (PutVar_any M _ _ _ x _ hS ht2 hxb (by unfold lim; omega)).mono ?_
      rintro _ w3 ⟨v3, rfl, ht3, hn3, hof3⟩
      refine hK.out _ _ (hn3.ok) (fun _ => trivial) (fun hS => ?_)
      clear hK K
      (try simp only [Act.put, List.setIfInBounds_toArray, List.set_cons_zero, List.set_cons_succ])
      refine wpAnyL_ready (rs := [18]) (by kernel_rfl) (by simp) (AllReadyL.cons (o := ⟨_, _, _, _, _, _⟩) rfl (fun K hK => ?_) AllReadyL.nil)
      go_simp
      refine hK.out _ _ (hS) (fun _ => trivial) (fun hS => ?_)
      clear hK K
      (try simp only [Act.put, List.setIfInBounds_toArray, List.set_cons_zero, List.set_cons_succ])
      refine wpAnyL_done (by kernel_rfl) ?_ _
      go_wp2_with fail
      go_roundw
      case rel =>
        have z0 := NH.out.upd.size
        have z1 := hn1.upd.size
        have z2 := hn2.upd.size
        have z3 := hn3.upd.size
        have o1 := OH.out.trans (b := wr) hof1 z0
        have o2 := o1.trans hof2 (by simp at z1; omega)
        have o3 := o2.trans hof3 (by simp at z1; omega)
        refine ⟨j + 1, by omega, by go_num, ?_, ((NH.out.drew.out OH.out hn1).out o1 hn2).out o2 hn3, o3⟩
        have e := flat_take putOne hx
        rw [putNums, e]
        simp only [putOne, List.length_append, List.map_append, putN_length]
        simp only [List.append_assoc, Nat.add_assoc] at ht3 ⊢
        exact ht3
      case measure => simp [intOf]; omega
    · obtain rfl : j = vs.length := by omega
      rw [List.take_length] at TH
      have hlen : (putNums vs).length ≤ 16 * vs.length := flat_len putOne 16 _ (fun y hy => putOne_len (HB.out y hy))
      have hge : ¬ ((vs.length : Int) < vs.length) := by omega
      go_wp2_with fail
      obtain ⟨wa, rfl⟩ : ∃ wa : World, wa = wr := ⟨_, rfl⟩
      go_loopw [5, 7] (fun u i W => ∃ (j : Nat), j ≤ ls.length ∧ i = .int .i64 j ∧ (∀ s ∈ ls.take j, s.length ≤ 300) ∧ Tip M W 5 1 u (putNums vs ++ putTexts (ls.take j)).length ((putNums vs ++ putTexts (ls.take j)).map bv) ∧ Nx [] M w M W ∧ Of w (.slice none 0 0) u) (fun _ i _ => ls.length - (intOf i).toNat)
      case atStart => exact ⟨0, Nat.zero_le _, rfl, by simp, by simpa [putTexts] using TH.out, NH.out, OH.out⟩
      case round =>
        clear TH NH OH
        obtain ⟨j, hj, rfl, h300, ht, hN, hof⟩ := hrel
        have TH := Lib.hid ht; clear ht
        have NH := Lib.hid hN; clear hN
        have OH := Lib.hid hof; clear hof
        have H3 := Lib.hid h300; clear h300
        have hlen2 : (putTexts (ls.take j)).length ≤ 310 * (ls.take j).length := flat_len putTx 310 _ (fun y hy => putTx_len (H3.out y hy))
        rw [List.length_take] at hlen2
        by_cases hlt : j < ls.length
        · obtain ⟨x, hx⟩ : ∃ x, ls[j]? = some x := ⟨_, List.getElem?_eq_getElem hlt⟩
          obtain ⟨a', c', e1, e2, e3, hcell⟩ := HU.out
          rw [List.length_map] at e1
          cases e1
          obtain ⟨b0, o, rfl, m0⟩ := hcell j (sv x) (by simp [hx])
          clear hcell e2 e3
          have d0 := NH.out.ok.cell _ _ _ m0
          have HM := Lib.hid m0; clear m0
          by_cases hlong : 300 < x.length
          · have hl : 300 < (x.length : Int) := by omega
            go_wp2_with fail
            go_ret
            exact ⟨rfl, M, NH.out⟩
          · have hl : ¬ 300 < (x.length : Int) := by omega
            have hl' : (x.length : Int) ≤ 300 := by omega
            go_wp2_with fail
            have hvl := putVar_le (x := x.length) (by omega)
            refine (PutText_any M _ _ _ x _ NH.out.ok TH.out (by omega) (by rw [List.length_append]; unfold lim; omega)).mono ?_
            rintro _ w1 ⟨v1, rfl, ht1, hn1, hof1⟩
            go_wp2_with fail
            go_roundw
            case rel =>
              have e := flat_take putTx hx
              refine ⟨j + 1, by omega, by go_num, ?_, ?_, NH.out.out OH.out hn1, OH.out.trans hof1 NH.out.upd.size⟩
              · intro s hs
                rw [List.take_add_one, hx] at hs
                rcases List.mem_append.1 hs with h | h
                · exact H3.out s h
                · simp at h; subst h; omega
              · rw [putTexts, e]
                simp only [putTx, List.length_append, List.map_append]
                rw [List.length_append] at ht1
                simp only [List.append_assoc, Nat.add_assoc, List.map_append] at ht1 ⊢
                exact ht1
            case measure => simp [intOf]; omega
        · obtain rfl : j = ls.length := by omega
          rw [List.take_length] at TH H3 hlen2
          have hge2 : ¬ ((ls.length : Int) < ls.length) := by omega
          obtain ⟨M1, hr1, ht1, hn1, _⟩ := TH.out.rdB NH.out.ok
          have hbl : (putNums vs ++ putTexts ls).length ≤ 7000 := by rw [List.length_append]; omega
          have NH1 := NH.out.out OH.out hn1
          have LS := Lib.hid (And.intro HV.out HU.out)
          go_wp2_with fail
          refine (PutSection_any M1 wr (.slice none 0 0) _ 0 9 _ [] NH1.ok (Tip.nil _ _ _ _) hr1 (by omega) (by unfold lim; omega)).mono ?_
          rintro _ w1 ⟨v1, rfl, ht2, hn2, hof2⟩
          rw [Nat.zero_add, List.nil_append] at ht2
          have hcl := crc_lt (putNums vs ++ putTexts ls)
          have hsp := RS.sec_put 9 (putNums vs ++ putTexts ls) [] (by omega) hcl
          rw [List.append_nil] at hsp
          have HSP : Hid (RS.sec ⟨putSec 9 (putNums vs ++ putTexts ls), 0⟩ 9 = (⟨putNums vs ++ putTexts ls, 0⟩, ⟨[], 0⟩)) := hsp
          clear hsp hcl hr1 ht1
          obtain ⟨M2, hr2, _, hn3, _⟩ := ht2.rdB hn2.ok
          have NH2 := Lib.hid ((NH1.trans hn2 (by simp [Value.ownBlock])).out (v := v1) (fun k hk => .inr (Nat.le_trans NH1.upd.size (hof2.nil_lt k hk))) hn3)
          clear NH1 hn2 hn3 ht2 hof2
          go_wp2_with fail
          refine (Read_any M2 w1 v1 _ NH2.out.ok hr2).mono ?_
          rintro _ w2 ⟨g, rfl, hg, hn4, hrd⟩
          go_wp2_with fail
          refine (Section_any M2 w2 g 9 _ hn4.ok hrd).mono ?_
          rintro _ w3 ⟨g2, rfl, hg2, hn5, hs1, hs2⟩
          rw [HSP.out] at hs1 hs2
          have hE := End_any M2 w3 g _ hs2
          have e0 : RS.end_ ⟨[], 0⟩ = 0 := by simp [RS.end_]
          rw [e0] at hE
          have HE := Lib.hid hE; clear hE
          have s1 := NH2.out.upd.size
          have s4 := hn4.upd.size
          have lo : w.heap.size ≤ g2 := by omega
          have NH3 := Lib.hid ((NH2.out.trans hn4 (by simp)).trans hn5 (by intro x hx hl; simp at hx; exfalso; omega))
          have RH := Lib.hid hs1
          have HV2 := Lib.hid (HV.out.mono NH2.out.le)
          have HU2 := Lib.hid (HU.out.mono NH2.out.le)
          clear hn4 hn5 hs1 hs2 hrd hr2 NH2 HSP LS hn1
          go_wp2_with fail
          refine HE.out.mono ?_
          rintro _ _ ⟨rfl, rfl⟩
          go_wp2_with fail
          obtain ⟨wb, rfl⟩ : ∃ wb : World, wb = wr := ⟨_, rfl⟩
          go_loopw [10] (fun i W => ∃ (j : Nat), j ≤ vs.length ∧ i = .int .i64 j ∧ Rdr M2 W g2 ⟨putNums (vs.drop j) ++ putTexts ls, 0⟩ ∧ Nx [] M w M2 W) (fun i _ => vs.length - (intOf i).toNat)
          case atStart => exact ⟨0, Nat.zero_le _, rfl, RH.out, NH3.out⟩
          case round =>
            clear RH NH3 HE TH NH OH
            obtain ⟨j, hj, rfl, hr, hN⟩ := hrel
            have RH := Lib.hid hr; clear hr
            have NH := Lib.hid hN; clear hN
            by_cases hlt : j < vs.length
            · obtain ⟨x, hx⟩ : ∃ x, vs[j]? = some x := ⟨_, List.getElem?_eq_getElem hlt⟩
              obtain ⟨a', c', e1, e2, e3, hcell⟩ := HV2.out
              rw [List.length_map] at e1
              cases e1
              obtain ⟨b0, o, rfl, m0⟩ := hcell j (nv x) (by simp [hx])
              clear hcell e2 e3
              have HM := Lib.hid m0; clear m0
              have hxb : x < 18446744073709551616 := HB.out x (List.mem_of_getElem? hx)
              have c1 := U16_any M2 wr.drew g2 _ NH.out.ok.drew ⟨_, RH.out.choose_spec.1.drew, RH.out.choose_spec.2⟩
              have c2 : Hid (∀ W, Ok M2 W → Rdr M2 W g2 ⟨putN 4 (x % 4294967296) ++ (putVar x ++ (putNums (vs.drop (j + 1)) ++ putTexts ls)), 0⟩ → _) := fun W k1 k2 => U32_any M2 W g2 _ k1 k2
              have c3 : Hid (∀ W, Ok M2 W → Rdr M2 W g2 ⟨putVar x ++ (putNums (vs.drop (j + 1)) ++ putTexts ls), 0⟩ → _) := fun W k1 k2 => Var_any M2 W g2 18446744073709551615 _ k1 k2
              have ed : putNums (vs.drop j) = putOne x ++ putNums (vs.drop (j + 1)) := flat_drop putOne hx
              rw [ed, List.append_assoc, num2_put] at c1
              have C1 := Lib.hid c1; clear c1
              have x16 := wrap_u16_nat x
              have x32 := wrap_u32_nat x
              have n4 := num4_put (x := x) (putVar x ++ (putNums (vs.drop (j + 1)) ++ putTexts ls))
              have nvr := RS.var_put x 18446744073709551615 (putNums (vs.drop (j + 1)) ++ putTexts ls) hxb (by omega)
              obtain ⟨m, hm⟩ : ∃ m, m = x % 65536 := ⟨_, rfl⟩
              obtain ⟨m', hm'⟩ : ∃ m, m = x % 4294967296 := ⟨_, rfl⟩
              rw [← hm] at x16 C1
              rw [← hm'] at x32 c2 n4 C1
              rw [n4] at c2
              rw [nvr] at c3
              clear n4 nvr ed hm hm'
              go_wp2_with fail
              refine wp_region_late [] (fun w' => Ok M2 w') (fun w' => True) (by kernel_rfl) NH.out.ok.drew trivial ?_
              intro hS hT
              refine wpAnyL_take0 (i := 0) (oi := ⟨_, _, _, _, _, _⟩) (v := ?_) rfl (by kernel_rfl) (by kernel_rfl) (by kernel_rfl) (fun _ _ _ h => h) (by kernel_rfl) (Or.inl ⟨by rfl, ?_⟩) hS (fun _ => hT) ?_
              rotate_left
              · (intro w' hA; go_simp; (try with_reducible rfl))
              (try simp only [Act.put, List.setIfInBounds_toArray, List.set_cons_zero, List.set_cons_succ])
              refine wpAnyL_take0 (i := 2) (oi := ⟨_, _, _, _, _, _⟩) (v := ?_) rfl (by kernel_rfl) (by kernel_rfl) (by kernel_rfl) (fun _ _ _ h => h) (by kernel_rfl) (Or.inl ⟨by rfl, ?_⟩) hS (fun _ => hT) ?_
              rotate_left
              · (intro w' hA; go_simp; (try with_reducible rfl))
              (try simp only [Act.put, List.setIfInBounds_toArray, List.set_cons_zero, List.set_cons_succ])
              refine wpAnyL_take0 (i := 3) (oi := ⟨_, _, _, _, _, _⟩) (v := ?_) rfl (by kernel_rfl) (by kernel_rfl) (by kernel_rfl) (fun _ _ _ h => h) (by kernel_rfl) (Or.inl ⟨by rfl, ?_⟩) hS (fun _ => hT) ?_
              rotate_left
              · (intro w' hA; go_simp; (try with_reducible rfl))
              (try simp only [Act.put, List.setIfInBounds_toArray, List.set_cons_zero, List.set_cons_succ])
              refine wpAnyL_take0 (i := 4) (oi := ⟨_, _, _, _, _, _⟩) (v := ?_) rfl (by kernel_rfl) (by kernel_rfl) (by kernel_rfl) (fun _ _ _ h => h) (by kernel_rfl) (Or.inl ⟨by rfl, ?_⟩) hS (fun _ => hT) ?_
              rotate_left
              · (intro w' hA; go_simp; (try with_reducible rfl))
              (try simp only [Act.put, List.setIfInBounds_toArray, List.set_cons_zero, List.set_cons_succ])
              refine wpAnyL_take0 (i := 5) (oi := ⟨_, _, _, _, _, _⟩) (v := ?_) rfl (by kernel_rfl) (by kernel_rfl) (by kernel_rfl) (fun _ _ _ h => h) (by kernel_rfl) (Or.inl ⟨by rfl, ?_⟩) hS (fun _ => hT) ?_
              rotate_left
              · (intro w' hA; have d0 := hA.cell _ _ _ HM.out; go_simp; (try with_reducible rfl))
              (try simp only [Act.put, List.setIfInBounds_toArray, List.set_cons_zero, List.set_cons_succ])
              refine wpAnyL_take0 (i := 6) (oi := ⟨_, _, _, _, _, _⟩) (v := ?_) rfl (by kernel_rfl) (by kernel_rfl) (by kernel_rfl) (fun _ _ _ h => h) (by kernel_rfl) (Or.inl ⟨by rfl, ?_⟩) hS (fun _ => hT) ?_
              rotate_left
              · (intro w' hA; go_simp; (try with_reducible rfl))
              (try simp only [Act.put, List.setIfInBounds_toArray, List.set_cons_zero, List.set_cons_succ])
              refine wpAnyL_ready (rs := [1]) (by kernel_rfl) (by simp) (AllReadyL.cons (o := ⟨_, _, _, _, _, _⟩) rfl (fun K hK => ?_) AllReadyL.nil)
              go_simp
              go_at_call 18
              refine C1.out.mono ?_
              rintro _ w4 ⟨rfl, hn4, hr4⟩
              refine hK.out _ _ (hn4.ok) (fun _ => trivial) (fun hS => ?_)
              clear hK K
              (try simp only [Act.put, List.setIfInBounds_toArray, List.set_cons_zero, List.set_cons_succ])
              refine wpAnyL_take0 (i := 7) (oi := ⟨_, _, _, _, _, _⟩) (v := ?_) rfl (by kernel_rfl) (by kernel_rfl) (by kernel_rfl) (fun _ _ _ h => h) (by kernel_rfl) (Or.inl ⟨by rfl, ?_⟩) hS (fun _ => hT) ?_
              rotate_left
              · (intro w' hA; go_simp; (try with_reducible rfl))
              (try simp only [Act.put, List.setIfInBounds_toArray, List.set_cons_zero, List.set_cons_succ])
              refine wpAnyL_take0 (i := 8) (oi := ⟨_, _, _, _, _, _⟩) (v := ?_) rfl (by kernel_rfl) (by kernel_rfl) (by kernel_rfl) (fun _ _ _ h => h) (by kernel_rfl) (Or.inl ⟨by rfl, ?_⟩) hS (fun _ => hT) ?_
              rotate_left
              · (intro w' hA; go_simp; (try with_reducible rfl))
              (try simp only [Act.put, List.setIfInBounds_toArray, List.set_cons_zero, List.set_cons_succ])
              refine wpAnyL_take0 (i := 9) (oi := ⟨_, _, _, _, _, _⟩) (v := ?_) rfl (by kernel_rfl) (by kernel_rfl) (by kernel_rfl) (fun _ _ _ h => h) (by kernel_rfl) (Or.inl ⟨by rfl, ?_⟩) hS (fun _ => hT) ?_
              rotate_left
              · (intro w' hA; go_simp; (try with_reducible rfl))
              (try simp only [Act.put, List.setIfInBounds_toArray, List.set_cons_zero, List.set_cons_succ])
              refine wpAnyL_take0 (i := 11) (oi := ⟨_, _, _, _, _, _⟩) (v := ?_) rfl (by kernel_rfl) (by kernel_rfl) (by kernel_rfl) (fun _ _ _ h => h) (by kernel_rfl) (Or.inl ⟨by rfl, ?_⟩) hS (fun _ => hT) ?_
              rotate_left
              · (intro w' hA; go_simp; (try with_reducible rfl))
              (try simp only [Act.put, List.setIfInBounds_toArray, List.set_cons_zero, List.set_cons_succ])
              refine wpAnyL_take0 (i := 12) (oi := ⟨_, _, _, _, _, _⟩) (v := ?_) rfl (by kernel_rfl) (by kernel_rfl) (by kernel_rfl) (fun _ _ _ h => h) (by kernel_rfl) (Or.inl ⟨by rfl, ?_⟩) hS (fun _ => hT) ?_
              rotate_left
              · (intro w' hA; go_simp; (try with_reducible rfl))
              (try simp only [Act.put, List.setIfInBounds_toArray, List.set_cons_zero, List.set_cons_succ])
              refine wpAnyL_take0 (i := 13) (oi := ⟨_, _, _, _, _, _⟩) (v := ?_) rfl (by kernel_rfl) (by kernel_rfl) (by kernel_rfl) (fun _ _ _ h => h) (by kernel_rfl) (Or.inl ⟨by rfl, ?_⟩) hS (fun _ => hT) ?_
              rotate_left
              · (intro w' hA; go_simp; (try with_reducible rfl))
              (try simp only [Act.put, List.setIfInBounds_toArray, List.set_cons_zero, List.set_cons_succ])
              refine wpAnyL_take0 (i := 14) (oi := ⟨_, _, _, _, _, _⟩) (v := ?_) rfl (by kernel_rfl) (by kernel_rfl) (by kernel_rfl) (fun _ _ _ h => h) (by kernel_rfl) (Or.inl ⟨by rfl, ?_⟩) hS (fun _ => hT) ?_
              rotate_left
              · (intro w' hA; have d0 := hA.cell _ _ _ HM.out; go_simp; (try with_reducible rfl))
              (try simp only [Act.put, List.setIfInBounds_toArray, List.set_cons_zero, List.set_cons_succ])
              refine wpAnyL_take0 (i := 15) (oi := ⟨_, _, _, _, _, _⟩) (v := ?_) rfl (by kernel_rfl) (by kernel_rfl) (by kernel_rfl) (fun _ _ _ h => h) (by kernel_rfl) (Or.inl ⟨by rfl, ?_⟩) hS (fun _ => hT) ?_
              rotate_left
              · (intro w' hA; go_simp; (try with_reducible rfl))
              (try simp only [Act.put, List.setIfInBounds_toArray, List.set_cons_zero, List.set_cons_succ])
              refine wpAnyL_ready (rs := [10]) (by kernel_rfl) (by simp) (AllReadyL.cons (o := ⟨_, _, _, _, _, _⟩) rfl (fun K hK => ?_) AllReadyL.nil)
              go_simp
              go_at_call 19
              refine (c2.out w4 hn4.ok hr4).mono ?_
              rintro _ w5 ⟨rfl, hn5, hr5⟩
              refine hK.out _ _ (hn5.ok) (fun _ => trivial) (fun hS => ?_)
              clear hK K
              (try simp only [Act.put, List.setIfInBounds_toArray, List.set_cons_zero, List.set_cons_succ])
              refine wpAnyL_take0 (i := 16) (oi := ⟨_, _, _, _, _, _⟩) (v := ?_) rfl (by kernel_rfl) (by kernel_rfl) (by kernel_rfl) (fun _ _ _ h => h) (by kernel_rfl) (Or.inl ⟨by rfl, ?_⟩) hS (fun _ => hT) ?_
              rotate_left
              · (intro w' hA; go_simp; (try with_reducible rfl))
              (try simp only [Act.put, List.setIfInBounds_toArray, List.set_cons_zero, List.set_cons_succ])
              refine wpAnyL_take0 (i := 17) (oi := ⟨_, _, _, _, _, _⟩) (v := ?_) rfl (by kernel_rfl) (by kernel_rfl) (by kernel_rfl) (fun _ _ _ h => h) (by kernel_rfl) (Or.inl ⟨by rfl, ?_⟩) hS (fun _ => hT) ?_
              rotate_left
              · (intro w' hA; go_simp; (try with_reducible rfl))
              (try simp only [Act.put, List.setIfInBounds_toArray, List.set_cons_zero, List.set_cons_succ])
              refine wpAnyL_take0 (i := 18) (oi := ⟨_, _, _, _, _, _⟩) (v := ?_) rfl (by kernel_rfl) (by kernel_rfl) (by kernel_rfl) (fun _ _ _ h => h) (by kernel_rfl) (Or.inl ⟨by rfl, ?_⟩) hS (fun _ => hT) ?_
              rotate_left
              · (intro w' hA; go_simp; (try with_reducible rfl))
              (try simp only [Act.put, List.setIfInBounds_toArray, List.set_cons_zero, List.set_cons_succ])
              refine wpAnyL_take0 (i := 19) (oi := ⟨_, _, _, _, _, _⟩) (v := ?_) rfl (by kernel_rfl) (by kernel_rfl) (by kernel_rfl) (fun _ _ _ h => h) (by kernel_rfl) (Or.inl ⟨by rfl, ?_⟩) hS (fun _ => hT) ?_
              rotate_left
              · (intro w' hA; go_simp; (try with_reducible rfl))
              (try simp only [Act.put, List.setIfInBounds_toArray, List.set_cons_zero, List.set_cons_succ])
              refine wpAnyL_take0 (i := 21) (oi := ⟨_, _, _, _, _, _⟩) (v := ?_) rfl (by kernel_rfl) (by kernel_rfl) (by kernel_rfl) (fun _ _ _ h => h) (by kernel_rfl) (Or.inl ⟨by rfl, ?_⟩) hS (fun _ => hT) ?_
              rotate_left
              · (intro w' hA; go_simp; (try with_reducible rfl))
              (try simp only [Act.put, List.setIfInBounds_toArray, List.set_cons_zero, List.set_cons_succ])
              refine wpAnyL_take0 (i := 22) (oi := ⟨_, _, _, _, _, _⟩) (v := ?_) rfl (by kernel_rfl) (by kernel_rfl) (by kernel_rfl) (fun _ _ _ h => h) (by kernel_rfl) (Or.inl ⟨by rfl, ?_⟩) hS (fun _ => hT) ?_
              rotate_left
              · (intro w' hA; go_simp; (try with_reducible rfl))
              (try simp only [Act.put, List.setIfInBounds_toArray, List.set_cons_zero, List.set_cons_succ])
              refine wpAnyL_take0 (i := 23) (oi := ⟨_, _, _, _, _, _⟩) (v := ?_) rfl (by kernel_rfl) (by kernel_rfl) (by kernel_rfl) (fun _ _ _ h => h) (by kernel_rfl) (Or.inl ⟨by rfl, ?_⟩) hS (fun _ => hT) ?_
              rotate_left
              · (intro w' hA; go_simp; (try with_reducible rfl))
              (try simp only [Act.put, List.setIfInBounds_toArray, List.set_cons_zero, List.set_cons_succ])
              refine wpAnyL_take0 (i := 24) (oi := ⟨_, _, _, _, _, _⟩) (v := ?_) rfl (by kernel_rfl) (by kernel_rfl) (by kernel_rfl) (fun _ _ _ h => h) (by kernel_rfl) (Or.inl ⟨by rfl, ?_⟩) hS (fun _ => hT) ?_
              rotate_left
              · (intro w' hA; have d0 := hA.cell _ _ _ HM.out; go_simp; (try with_reducible rfl))
              (try simp only [Act.put, List.setIfInBounds_toArray, List.set_cons_zero, List.set_cons_succ])
              refine wpAnyL_ready (rs := [20]) (by kernel_rfl) (by simp) (AllReadyL.cons (o := ⟨_, _, _, _, _, _⟩) rfl (fun K hK => ?_) AllReadyL.nil)
              go_simp
              go_at_call 20
              refine (c3.out w5 hn5.ok hr5).mono ?_
              rintro _ w6 ⟨rfl, hn6, hr6⟩
              refine hK.out _ _ (hn6.ok) (fun _ => trivial) (fun hS => ?_)
              clear hK K
              (try simp only [Act.put, List.setIfInBounds_toArray, List.set_cons_zero, List.set_cons_succ])
              refine wpAnyL_take0 (i := 25) (oi := ⟨_, _, _, _, _, _⟩) (v := ?_) rfl (by kernel_rfl) (by kernel_rfl) (by kernel_rfl) (fun _ _ _ h => h) (by kernel_rfl) (Or.inl ⟨by rfl, ?_⟩) hS (fun _ => hT) ?_
              rotate_left
              · (intro w' hA; go_simp; (try with_reducible rfl))
              (try simp only [Act.put, List.setIfInBounds_toArray, List.set_cons_zero, List.set_cons_succ])
              refine wpAnyL_take0 (i := 26) (oi := ⟨_, _, _, _, _, _⟩) (v := ?_) rfl (by kernel_rfl) (by kernel_rfl) (by kernel_rfl) (fun _ _ _ h => h) (by kernel_rfl) (Or.inl ⟨by rfl, ?_⟩) hS (fun _ => hT) ?_
              rotate_left
              · (intro w' hA; go_simp; (try with_reducible rfl))
              (try simp only [Act.put, List.setIfInBounds_toArray, List.set_cons_zero, List.set_cons_succ])
              refine wpAnyL_done (by kernel_rfl) ?_ _
              go_wp2_with fail
              go_roundw
              case rel => exact ⟨j + 1, by omega, by go_num, hr6, ((NH.out.drew.trans hn4 (by intro x hx hl; simp at hx; exfalso; omega)).trans hn5 (by intro x hx hl; simp at hx; exfalso; omega)).trans hn6 (by intro x hx hl; simp at hx; exfalso; omega)⟩
              case measure => simp [intOf]; omega
            · obtain rfl : j = vs.length := by omega
              rw [List.drop_length] at RH
              have hge3 : ¬ ((vs.length : Int) < vs.length) := by omega
              go_wp2_with fail
              obtain ⟨wc, rfl⟩ : ∃ wc : World, wc = wr := ⟨_, rfl⟩
              go_loopw [11] (fun i W => ∃ (j : Nat), j ≤ ls.length ∧ i = .int .i64 j ∧ Rdr M2 W g2 ⟨putTexts (ls.drop j), 0⟩ ∧ Nx [] M w M2 W) (fun i _ => ls.length - (intOf i).toNat)
              case atStart => exact ⟨0, Nat.zero_le _, rfl, RH.out, NH.out⟩
              case round =>
                clear RH NH
                obtain ⟨j, hj, rfl, hr, hN⟩ := hrel
                have RH := Lib.hid hr; clear hr
                have NH := Lib.hid hN; clear hN
                by_cases hlt : j < ls.length
                · obtain ⟨x, hx⟩ : ∃ x, ls[j]? = some x := ⟨_, List.getElem?_eq_getElem hlt⟩
                  obtain ⟨a', c', e1, e2, e3, hcell⟩ := HU2.out
                  rw [List.length_map] at e1
                  cases e1
                  obtain ⟨b0, o, rfl, m0⟩ := hcell j (sv x) (by simp [hx])
                  clear hcell e2 e3
                  have HM := Lib.hid m0; clear m0
                  have hx3 : x.length ≤ 300 := H3.out x (List.mem_of_getElem? hx)
                  have c1 := Text_any M2 wr.drew g2 300 _ (by omega) NH.out.ok.drew ⟨_, RH.out.choose_spec.1.drew, RH.out.choose_spec.2⟩
                  have ed : putTexts (ls.drop j) = putTx x ++ putTexts (ls.drop (j + 1)) := flat_drop putTx hx
                  rw [ed, putTx, List.append_assoc, RS.text_put x _ 300 (by omega) hx3] at c1
                  have C1 := Lib.hid c1; clear c1 ed
                  go_wp2_with fail
                  refine wp_region_late [] (fun w' => Ok M2 w') (fun w' => True) (by kernel_rfl) NH.out.ok.drew trivial ?_
                  intro hS hT
                  refine wpAnyL_take0 (i := 0) (oi := ⟨_, _, _, _, _, _⟩) (v := ?_) rfl (by kernel_rfl) (by kernel_rfl) (by kernel_rfl) (fun _ _ _ h => h) (by kernel_rfl) (Or.inl ⟨by rfl, ?_⟩) hS (fun _ => hT) ?_
                  rotate_left
                  · (intro w' hA; go_simp; (try with_reducible rfl))
                  (try simp only [Act.put, List.setIfInBounds_toArray, List.set_cons_zero, List.set_cons_succ])
                  refine wpAnyL_take0 (i := 2) (oi := ⟨_, _, _, _, _, _⟩) (v := ?_) rfl (by kernel_rfl) (by kernel_rfl) (by kernel_rfl) (fun _ _ _ h => h) (by kernel_rfl) (Or.inl ⟨by rfl, ?_⟩) hS (fun _ => hT) ?_
                  rotate_left
                  · (intro w' hA; go_simp; (try with_reducible rfl))
                  (try simp only [Act.put, List.setIfInBounds_toArray, List.set_cons_zero, List.set_cons_succ])
                  refine wpAnyL_take0 (i := 3) (oi := ⟨_, _, _, _, _, _⟩) (v := ?_) rfl (by kernel_rfl) (by kernel_rfl) (by kernel_rfl) (fun _ _ _ h => h) (by kernel_rfl) (Or.inl ⟨by rfl, ?_⟩) hS (fun _ => hT) ?_
                  rotate_left
                  · (intro w' hA; go_simp; (try with_reducible rfl))
                  (try simp only [Act.put, List.setIfInBounds_toArray, List.set_cons_zero, List.set_cons_succ])
                  refine wpAnyL_take0 (i := 4) (oi := ⟨_, _, _, _, _, _⟩) (v := ?_) rfl (by kernel_rfl) (by kernel_rfl) (by kernel_rfl) (fun _ _ _ h => h) (by kernel_rfl) (Or.inl ⟨by rfl, ?_⟩) hS (fun _ => hT) ?_
                  rotate_left
                  · (intro w' hA; go_simp; (try with_reducible rfl))
                  (try simp only [Act.put, List.setIfInBounds_toArray, List.set_cons_zero, List.set_cons_succ])
                  refine wpAnyL_take0 (i := 5) (oi := ⟨_, _, _, _, _, _⟩) (v := ?_) rfl (by kernel_rfl) (by kernel_rfl) (by kernel_rfl) (fun _ _ _ h => h) (by kernel_rfl) (Or.inl ⟨by rfl, ?_⟩) hS (fun _ => hT) ?_
                  rotate_left
                  · (intro w' hA; have d0 := hA.cell _ _ _ HM.out; go_simp; (try with_reducible rfl))
                  (try simp only [Act.put, List.setIfInBounds_toArray, List.set_cons_zero, List.set_cons_succ])
                  refine wpAnyL_ready (rs := [1]) (by kernel_rfl) (by simp) (AllReadyL.cons (o := ⟨_, _, _, _, _, _⟩) rfl (fun K hK => ?_) AllReadyL.nil)
                  go_simp
                  go_at_call 21
                  refine C1.out.mono ?_
                  rintro _ w4 ⟨rfl, hn4, hr4⟩
                  refine hK.out _ _ (hn4.ok) (fun _ => trivial) (fun hS => ?_)
                  clear hK K
                  (try simp only [Act.put, List.setIfInBounds_toArray, List.set_cons_zero, List.set_cons_succ])
                  refine wpAnyL_take0 (i := 6) (oi := ⟨_, _, _, _, _, _⟩) (v := ?_) rfl (by kernel_rfl) (by kernel_rfl) (by kernel_rfl) (fun _ _ _ h => h) (by kernel_rfl) (Or.inl ⟨by rfl, ?_⟩) hS (fun _ => hT) ?_
                  rotate_left
                  · (intro w' hA; go_simp; (try with_reducible rfl))
                  (try simp only [Act.put, List.setIfInBounds_toArray, List.set_cons_zero, List.set_cons_succ])
                  refine wpAnyL_done (by kernel_rfl) ?_ _
                  go_wp2_with fail
                  go_roundw
                  case rel => exact ⟨j + 1, by omega, by go_num, hr4, NH.out.drew.trans hn4 (by intro x hx hl; simp at hx; exfalso; omega)⟩
                  case measure => simp [intOf]; omega
                · obtain rfl : j = ls.length := by omega
                  rw [List.drop_length] at RH
                  have hge4 : ¬ ((ls.length : Int) < ls.length) := by omega
                  have hE := End_any M2 wr g2 _ RH.out
                  have e1 : RS.end_ ⟨putTexts [], 0⟩ = 0 := by simp [RS.end_, putTexts]
                  rw [e1] at hE
                  have HE := Lib.hid hE; clear hE
                  go_wp2_with fail
                  refine HE.out.mono ?_
                  rintro _ _ ⟨rfl, rfl⟩
                  go_wp2_with (go_at_call 7; go_must (refine (awake1_any _ _ NH.out.ok).mono ?_); rintro e w5 ⟨rfl, M5, hn5⟩)
                  go_ret
                  exact ⟨rfl, M5, NH.out.trans hn5 (by simp)⟩
set_option maxHeartbeats 1000000 in
theorem back_out (M : Mem) (w : World) (a b : Option Addr) (c d n m : Nat) (hok : Ok M w) (h : 20 < n ∨ 20 < m) :
    Calls Try.prog 5 #[.slice a n c, .slice b m d] w fun e w' => e = .returned (.bool true) ∧ ∃ M', Nx [] M w M' w' := by
  by_cases h1 : 20 < n
  · have b1 : 20 < (n : Int) := by omega
    go_enter Try.func5, Try.ntmps5
    go_wp2
    go_ret
    exact ⟨rfl, M, Nx.refl _ hok⟩
  · have b1 : ¬ 20 < (n : Int) := by omega
    have b1' : (n : Int) ≤ 20 := by omega
    have b2 : 20 < (m : Int) := by omega
    go_enter Try.func5, Try.ntmps5
    go_wp2
    go_ret
    exact ⟨rfl, M, Nx.refl _ hok⟩
theorem back_all (M : Mem) (w : World) (v u : Value) (vs : List Nat) (ls : List (List UInt8)) (hok : Ok M w) (hv : RdV M v (vs.map nv)) (hvb : ∀ n ∈ vs, n < 18446744073709551616) (hu : RdV M u (ls.map sv)) :
    Calls Try.prog 5 #[v, u] w fun e w' => e = .returned (.bool true) ∧ ∃ M', Nx [] M w M' w' := by
  have hv' := hv
  have hu' := hu
  obtain ⟨a, c, rfl, _⟩ := hv
  obtain ⟨b, d, rfl, _⟩ := hu
  simp only [List.length_map] at hv' hu' ⊢
  by_cases h : 20 < vs.length ∨ 20 < ls.length
  · exact back_out M w a b c d _ _ hok h
  · exact back_in M w a b c d vs ls hok (by omega) (by omega) hv' hvb hu'
end Go.Proofs.Ytlecedlondamiaa
