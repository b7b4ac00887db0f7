/-
  The reference's reader: numbers by sevens, runs, sections; walked.
-/
import Derived.Test.YtlecedlondamiaaRRef
namespace Go.Proofs.Ytlecedlondamiaa
open Go.RowKit
set_option maxRecDepth 100000
theorem hiN_step {b : List UInt8} {j : Nat} (h1 : j < b.length) (h2 : j < 10) (h3 : 128 ≤ b[j].toNat) : hiN (10 - j) (b.drop j) = hiN (10 - (j + 1)) (b.drop (j + 1)) + 1 := by
  rw [List.drop_eq_getElem_cons h1, show 10 - j = (10 - (j + 1)) + 1 by omega, hiN, if_pos h3]
theorem hiN_stop {b : List UInt8} {j : Nat} (h : b.length ≤ j ∨ 10 ≤ j ∨ ∃ h : j < b.length, ¬ 128 ≤ b[j].toNat) : hiN (10 - j) (b.drop j) = 0 := by
  rcases h with h | h | ⟨h, h3⟩
  · rw [List.drop_eq_nil_of_le h]; cases 10 - j <;> rfl
  · rw [show 10 - j = 0 by omega]; rfl
  · rw [List.drop_eq_getElem_cons h]
    cases 10 - j with
    | zero => rfl
    | succ k => rw [hiN, if_neg h3]
theorem sev_bound : ∀ (n : Nat) (l : List UInt8), n < l.length → sevV n l < ((l.getD n 0).toNat % 128 + 1) * 128 ^ n
  | _, [], h => by simp at h
  | 0, x :: l, _ => by simp [sevV]
  | n + 1, x :: l, h => by
    have ih := sev_bound n l (by simp at h; omega)
    have e : (x :: l).getD (n + 1) 0 = l.getD n 0 := rfl
    rw [e, sevV, Nat.pow_succ, ← Nat.mul_assoc]
    have := Nat.mod_lt x.toNat (show 128 > 0 by decide)
    omega
theorem sev_step {b : List UInt8} {N k : Nat} (h : k < N) (hN : N < b.length) : sevV (N - k) (b.drop k) = (b[k]'(by omega)).toNat % 128 + 128 * sevV (N - (k + 1)) (b.drop (k + 1)) := by
  rw [List.drop_eq_getElem_cons (by omega), show N - k = (N - (k + 1)) + 1 by omega, sevV]
theorem sev_last {b : List UInt8} {N : Nat} (hN : N < b.length) : sevV (N - N) (b.drop N) = b[N].toNat % 128 := by
  rw [List.drop_eq_getElem_cons hN, Nat.sub_self, sevV]
theorem sev_lt {b : List UInt8} {N k : Nat} (hk : k ≤ N) (hN : N < b.length) (h9 : N ≤ 9) (hb : N = 9 → (b.getD 9 0).toNat ≤ 1) : sevV (N - k) (b.drop k) < 18446744073709551616 := by
  have h := sev_bound (N - k) (b.drop k) (by simp; omega)
  have e : (b.drop k).getD (N - k) 0 = b.getD N 0 := by
    rw [List.getD_eq_getElem?_getD, List.getElem?_drop, List.getD_eq_getElem?_getD]
    congr 2; omega
  rw [e] at h
  by_cases hn : N = 9
  · have h1 := hb hn
    subst hn
    have hp : 128 ^ (9 - k) ≤ 128 ^ 9 := Nat.pow_le_pow_right (by decide) (by omega)
    have hm : ((b.getD 9 0).toNat % 128 + 1) * 128 ^ (9 - k) ≤ 2 * 128 ^ 9 := Nat.mul_le_mul (by omega) hp
    omega
  · have hp : 128 ^ (N - k) ≤ 128 ^ 8 := Nat.pow_le_pow_right (by decide) (by omega)
    have hm : ((b.getD N 0).toNat % 128 + 1) * 128 ^ (N - k) ≤ 128 * 128 ^ 8 := Nat.mul_le_mul (by omega) hp
    omega
set_option maxHeartbeats 4000000 in
theorem RVar_any (M : Mem) (w : World) (g most : Nat) (s : RS) (hok : Ok M w) (h : Rfr M w g s) :
    Calls Try.prog 25 #[.pointer (some ⟨g, 0, none⟩), .int .u64 most] w fun e w' => e = .returned (.int .u64 (s.var most).1) ∧ Nx [some g] M w M w' ∧ Rfr M w' g (s.var most).2 := by
  obtain ⟨r, hr⟩ : ∃ r, r = s.var most := ⟨_, rfl⟩
  rw [← hr]
  obtain ⟨b, e⟩ := s
  obtain ⟨hc0, hc1, hf0, hf1, hlen⟩ := h.open
  have HR := Lib.hid hr; clear hr
  have H := Lib.hid h; clear h
  go_enter Try.func25, Try.ntmps25
  go_wp2
  go_loop [5] (fun nv => ∃ j : Nat, j ≤ 10 ∧ j ≤ b.length ∧ nv = .int .i64 j ∧ Hid (hiN 10 b = j + hiN (10 - j) (b.drop j))) (fun nv => 10 - (intOf nv).toNat)
  case atStart => exact ⟨0, by omega, Nat.zero_le _, rfl, by show hiN 10 b = 0 + hiN (10 - 0) (b.drop 0); simp⟩
  case round =>
    obtain ⟨j, hj, hjl, rfl, HJ⟩ := hrel
    by_cases hgo : ∃ h : j < b.length, j < 10 ∧ 128 ≤ b[j].toNat
    · obtain ⟨h1, h2, h3⟩ := hgo
      have HJ2 : Hid (hiN 10 b = (j + 1) + hiN (10 - (j + 1)) (b.drop (j + 1))) := by
        show hiN 10 b = _
        rw [HJ.out, hiN_step h1 h2 h3]; omega
      go_wp2
      exact ⟨⟨j + 1, by omega, by omega, by go_num, HJ2⟩, by simp [intOf]; omega⟩
    · have hN : Hid (hiN 10 b = j) := by
        show hiN 10 b = j
        rw [HJ.out, hiN_stop]
        · rfl
        · by_cases h1 : j < b.length
          · by_cases h2 : j < 10
            · exact .inr (.inr ⟨h1, fun h3 => hgo ⟨h1, h2, h3⟩⟩)
            · exact .inr (.inl (by omega))
          · exact .inl (by omega)
      have hcase : (b.length ≤ j) ∨ (j < b.length ∧ j = 10) ∨ (∃ h : j < b.length, j < 10 ∧ b[j].toNat < 128) := by
        by_cases h1 : j < b.length
        · by_cases h2 : j < 10
          · exact .inr (.inr ⟨h1, h2, Nat.lt_of_not_le (fun h3 => hgo ⟨h1, h2, h3⟩)⟩)
          · exact .inr (.inl ⟨h1, by omega⟩)
        · exact .inl (by omega)
      clear hgo HJ
      by_cases he : e = 0
      · have he1 : (e == 0) = true := beq_iff_eq.2 he
        have he2 : (e != 0) = false := by rw [bne_eq_false_iff_eq]; exact he
        have HV : Hid (r = if hiN 10 b < 10 ∧ b.length ≤ hiN 10 b then (0, ⟨[], 1⟩) else if badV (hiN 10 b) b = true then (0, ⟨[], 2⟩) else if most < sevV (hiN 10 b) b then (0, ⟨[], 4⟩) else (sevV (hiN 10 b) b, ⟨b.drop (hiN 10 b + 1), 0⟩)) := by
          show r = _
          rw [HR.out, he, var_zero]
        have HE := Lib.hid he; clear he
        have F1 : Hid (∀ W, Ok M W → Rfr M W g ⟨b, e⟩ → ∀ x : Int, x ≠ 0 → Calls Try.prog 29 #[.pointer (some ⟨g, 0, none⟩), .int .i64 x] W fun e w' => e = .returned (.tuple #[]) ∧ Nx [some g] M W M w' ∧ Rfr M w' g ⟨[], x⟩) := fun W k1 k2 x hx => by
          have := RFail_any M W g ⟨b, e⟩ x k1 k2
          rwa [show RS.fail ⟨b, e⟩ x = ⟨[], x⟩ by simp [RS.fail, HE.out, hx]] at this
        rcases hcase with h1 | ⟨h1, h2⟩ | ⟨h1, h2, h3⟩
        · by_cases h10 : j < 10
          · have hr : r = (0, ⟨[], 1⟩) := by rw [HV.out, hN.out, if_pos ⟨h10, h1⟩]
            subst hr
            clear HV
            go_wp2_with fail
            refine (F1.out _ hok H.out 1 (by decide)).mono ?_
            rintro _ w1 ⟨rfl, hn1, hr1⟩
            have HR1 := Lib.hid hr1
            obtain ⟨hc0', hc1', hf0', hf1', _⟩ := hr1.open
            clear hc0 hc1 hf0 hf1 hr1
            go_wp2
            go_ret
            exact ⟨rfl, hn1, HR1.out⟩
          · obtain rfl : j = 10 := by omega
            have hr : r = (0, ⟨[], 2⟩) := by rw [HV.out, hN.out, if_neg (by omega), if_pos (by simp [badV])]
            subst hr
            clear HV
            go_wp2_with fail
            refine (F1.out _ hok H.out 2 (by decide)).mono ?_
            rintro _ w1 ⟨rfl, hn1, hr1⟩
            have HR1 := Lib.hid hr1
            clear hc0 hc1 hf0 hf1 hr1
            go_wp2
            go_ret
            exact ⟨rfl, hn1, HR1.out⟩
        · subst h2
          have hr : r = (0, ⟨[], 2⟩) := by rw [HV.out, hN.out, if_neg (by omega), if_pos (by simp [badV])]
          subst hr
          clear HV
          go_wp2_with fail
          refine (F1.out _ hok H.out 2 (by decide)).mono ?_
          rintro _ w1 ⟨rfl, hn1, hr1⟩
          have HR1 := Lib.hid hr1
          clear hc0 hc1 hf0 hf1 hr1
          go_wp2
          go_ret
          exact ⟨rfl, hn1, HR1.out⟩
        · have hj10 : ((j : Int) == 10) = false := beq_eq_false_iff_ne.2 (by omega)
          have hgd : b.getD j 0 = b[j] := by rw [List.getD_eq_getElem?_getD, List.getElem?_eq_getElem h1]; rfl
          by_cases hb9 : j = 9 ∧ 1 < b[j].toNat
          · obtain ⟨rfl, h4⟩ := hb9
            have hr : r = (0, ⟨[], 2⟩) := by rw [HV.out, hN.out, if_neg (by omega), if_pos (by simp only [badV]; rw [hgd]; simp [h4])]
            subst hr
            clear HV hgd
            go_wp2_with fail
            refine (F1.out _ hok H.out 2 (by decide)).mono ?_
            rintro _ w1 ⟨rfl, hn1, hr1⟩
            have HR1 := Lib.hid hr1
            clear hc0 hc1 hf0 hf1 hr1
            go_wp2
            go_ret
            exact ⟨rfl, hn1, HR1.out⟩
          · have h9c : j = 9 → b[j].toNat ≤ 1 := fun h => Nat.le_of_not_lt (fun h' => hb9 ⟨h, h'⟩)
            by_cases hb0 : 0 < j ∧ b[j].toNat = 0
            · obtain ⟨h4, h5⟩ := hb0
              have hr : r = (0, ⟨[], 2⟩) := by rw [HV.out, hN.out, if_neg (by omega), if_pos (by simp only [badV]; rw [hgd]; simp [h4, h5])]
              subst hr
              have hz : ((b[j].toNat : Int) == 0) = true := beq_iff_eq.2 (by omega)
              have H5 := Lib.hid h5
              clear HV hgd h5 hb9
              by_cases h9 : j = 9
              · subst h9
                have h6 : ¬ 1 < b[9].toNat := by have := h9c rfl; omega
                clear h9c
                go_wp2_with fail
                refine (F1.out _ hok H.out 2 (by decide)).mono ?_
                rintro _ w1 ⟨rfl, hn1, hr1⟩
                have HR1 := Lib.hid hr1
                clear hc0 hc1 hf0 hf1 hr1
                go_wp2
                go_ret
                exact ⟨rfl, hn1, HR1.out⟩
              · have hj9 : ((j : Int) == 9) = false := beq_eq_false_iff_ne.2 (by omega)
                clear h9c
                go_wp2_with fail
                refine (F1.out _ hok H.out 2 (by decide)).mono ?_
                rintro _ w1 ⟨rfl, hn1, hr1⟩
                have HR1 := Lib.hid hr1
                clear hc0 hc1 hf0 hf1 hr1
                go_wp2
                go_ret
                exact ⟨rfl, hn1, HR1.out⟩
            · have hgood : ¬ badV (hiN 10 b) b = true := by
                rw [hN.out]
                simp only [badV, Bool.or_eq_true, Bool.and_eq_true, decide_eq_true_eq]
                rw [hgd]
                rintro ((h | ⟨h, h'⟩) | ⟨h, h'⟩)
                · omega
                · subst h
                  rw [hgd] at h'
                  exact hb9 ⟨rfl, h'⟩
                · exact hb0 ⟨h, h'⟩
              have HV2 : Hid (r = if most < sevV j b then (0, ⟨[], 4⟩) else (sevV j b, ⟨b.drop (j + 1), 0⟩)) := by
                show r = _
                rw [HV.out, if_neg (by rw [hN.out]; omega), if_neg hgood, hN.out]
              have H9 : Hid (j = 9 → (b.getD 9 0).toNat ≤ 1) := fun h => by subst h; rw [hgd]; exact h9c rfl
              clear HV hgood hgd hb9
              have hb0c : j = 0 ∨ (0 < j ∧ ((b[j].toNat : Int) == 0) = false) := by
                by_cases hj0 : j = 0
                · exact .inl hj0
                · exact .inr ⟨by omega, beq_eq_false_iff_ne.2 (fun h => hb0 ⟨by omega, by omega⟩)⟩
              clear hb0
              go_upto_region 8 with fail
              go_cut [74] (fun s wx => s = .bool false ∧ wx = w)
              case first =>
                rcases hb0c with h0 | ⟨h0, hz⟩
                · subst h0
                  clear h9c
                  go_wp2_with fail
                  go_meet
                  exact ⟨rfl, rfl⟩
                · by_cases h9 : j = 9
                  · subst h9
                    have h6 : ¬ 1 < b[9].toNat := by have := h9c rfl; omega
                    clear h9c
                    go_wp2_with fail
                    go_meet
                    exact ⟨by rw [decide_eq_false (by omega)], rfl⟩
                  · have hj9 : ((j : Int) == 9) = false := beq_eq_false_iff_ne.2 (by omega)
                    clear h9c
                    go_wp2_with fail
                    go_meet
                    exact ⟨rfl, rfl⟩
              case rest =>
                obtain ⟨rfl, rfl⟩ := hcut
                clear h9c hb0c
                go_wp2
                go_loop [6, 7] (fun u i => ∃ (k v : Nat), k ≤ j + 1 ∧ i = .int .i64 ((k : Int) - 1) ∧ v < 18446744073709551616 ∧ Hid (v = if k ≤ j then sevV (j - k) (b.drop k) else 0) ∧ u = .int .u64 v) (fun _ i => (intOf i + 1).toNat)
                case atStart => exact ⟨j + 1, 0, Nat.le_refl _, by go_num, by omega, by show (0 : Nat) = _; rw [if_neg (by omega)], rfl⟩
                case round =>
                  obtain ⟨k, v, hk, rfl, hv, HK, rfl⟩ := hrel
                  cases k with
                  | succ k =>
                    have hkj : k ≤ j := by omega
                    have hkl : k < b.length := by omega
                    have hsv : v * 128 + b[k].toNat % 128 = sevV (j - k) (b.drop k) := by
                      rw [HK.out]
                      by_cases e1 : k + 1 ≤ j
                      · rw [if_pos e1, sev_step (k := k) (N := j) (by omega) h1]; omega
                      · have hkj2 : k = j := by omega
                        subst hkj2
                        rw [if_neg e1, sev_last h1]; omega
                    have hlt : v * 128 + b[k].toNat % 128 < 18446744073709551616 := by rw [hsv]; exact sev_lt hkj h1 (by omega) H9.out
                    have HSV : Hid (v * 128 + b[k].toNat % 128 = if k ≤ j then sevV (j - k) (b.drop k) else 0) := by
                      show _ = _
                      rw [if_pos hkj]; exact hsv
                    have hx8 := b[k].toNat_lt
                    clear hsv
                    go_wp2
                    exact ⟨⟨k, v * 128 + b[k].toNat % 128, by omega, by go_num, hlt, HSV, by go_num⟩, by simp [intOf]⟩
                  | zero =>
                    have HV3 : Hid (v = sevV j b) := by
                      show v = _
                      rw [HK.out, if_pos (Nat.zero_le _)]; simp
                    clear HK
                    by_cases hm : most < v
                    · have hr : r = (0, ⟨[], 4⟩) := by rw [HV2.out, ← HV3.out, if_pos hm]
                      subst hr
                      clear HV2 HV3 HR
                      have hn1 : Nx [some g] M wc M (wc.setCell ⟨g, 0, none⟩ (.string (bs (b.drop (j + 1))))) := (Nx.refl _ hok).setCell H.out.1.free (fun _ => by simp) _
                      have hR1 : Rfr M (wc.setCell ⟨g, 0, none⟩ (.string (bs (b.drop (j + 1))))) g ⟨b.drop (j + 1), e⟩ := ⟨H.out.1.set 0 _, by simp; omega⟩
                      have HN1 := Lib.hid hn1; have HR1 := Lib.hid hR1; clear hn1 hR1
                      go_wp2_with fail
                      have HF := RFail_any M _ g ⟨b.drop (j + 1), e⟩ 4 HN1.out.ok HR1.out
                      rw [show RS.fail ⟨b.drop (j + 1), e⟩ 4 = ⟨[], 4⟩ by simp [RS.fail, HE.out]] at HF
                      refine HF.mono ?_
                      rintro _ w1 ⟨rfl, hn2, hr2⟩
                      have HR2 := Lib.hid hr2; clear hr2 hc0 hc1 hf0 hf1
                      go_wp2
                      go_ret
                      exact ⟨rfl, HN1.out.trans hn2 (fun _ hx _ => hx), HR2.out⟩
                    · have hr : r = (v, ⟨b.drop (j + 1), 0⟩) := by rw [HV2.out, ← HV3.out, if_neg hm]
                      subst hr
                      clear HV2 HV3 HR
                      go_wp2
                      go_ret
                      exact ⟨rfl, (Nx.refl _ hok).setCell H.out.1.free (fun _ => by simp) _, by have hz := H.out.1.set 0 (.string (bs (b.drop (j + 1)))); simp only [HE.out] at hz; exact hz, by simp; omega⟩
      · have he1 : (e == 0) = false := beq_eq_false_iff_ne.2 he
        have he2 : (e != 0) = true := by rw [bne_iff_ne]; exact he
        have hr : r = (0, ⟨b, e⟩) := by rw [HR.out]; unfold RS.var; rw [if_pos he]
        subst hr
        have HE := Lib.hid he; clear he
        have F1 : Hid (Calls Try.prog 29 #[.pointer (some ⟨g, 0, none⟩), .int .i64 1] w fun e_1 w' => e_1 = .returned (.tuple #[]) ∧ Nx [some g] M w M w' ∧ Rfr M w' g ⟨b, e⟩) := by
          have := RFail_any M w g ⟨b, e⟩ 1 hok H.out
          rwa [RS.fail_e _ _ HE.out] at this
        by_cases h1 : b.length ≤ j ∧ j < 10
        · obtain ⟨h1, h2⟩ := h1
          clear hcase
          go_wp2_with fail
          refine F1.out.mono ?_
          rintro _ w1 ⟨rfl, hn1, hr1⟩
          have HR1 := Lib.hid hr1
          obtain ⟨hc0', hc1', hf0', hf1', _⟩ := hr1.open
          clear hc0 hc1 hf0 hf1 hr1
          go_wp2
          go_ret
          exact ⟨rfl, hn1, HR1.out⟩
        · rcases hcase with h3 | ⟨h3, h4⟩ | ⟨h3, h4, h5⟩
          · have h10 : ¬ j < 10 := fun h => h1 ⟨h3, h⟩
            go_wp2
            go_ret
            exact ⟨rfl, Nx.refl _ hok, H.out⟩
          · have h10 : ¬ j < 10 := by omega
            clear h4
            go_wp2
            go_ret
            exact ⟨rfl, Nx.refl _ hok, H.out⟩
          · go_wp2
            go_ret
            exact ⟨rfl, Nx.refl _ hok, H.out⟩
end Go.Proofs.Ytlecedlondamiaa
