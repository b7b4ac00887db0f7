/-
  wire.Reader's Var, walked.
-/
import Derived.Test.YtlecedlondamiaaWRdr2
namespace Go.Proofs.Ytlecedlondamiaa
open Go.RowKit
set_option maxRecDepth 100000
set_option maxHeartbeats 1000000 in
theorem VarP_any (M : Mem) (w : World) (g most : Nat) (s : RS) (hok : Ok M w) (h : Rdr M w g s) :
    Calls Try.prog 20 #[.pointer (some ⟨g, 0, none⟩), .int .u64 most] w fun e w' => e = .returned (.int .u64 (s.varP most).1) ∧ Nx [some g] M w M w' ∧ Rdr M w' g (s.varP most).2 := by
  obtain ⟨r, hr⟩ : ∃ r, r = s.varP most := ⟨_, rfl⟩
  rw [← hr]
  have HRES := Lib.hid hr; clear hr
  go_enter Try.func20, Try.ntmps20
  go_wp2
  go_loopw [5, 6, 7] (fun vv xv nv W => ∃ (j v x : Nat) (t : RS), j ≤ 10 ∧ nv = .int .i64 j ∧ v < 18446744073709551616 ∧ vv = .int .u64 v ∧ x < 256 ∧ xv = .int .u8 x ∧ Hid (vloop (10 - j) j v x t = vloop 10 0 0 128 s) ∧ Rdr M W g t ∧ Nx [some g] M w M W) (fun _ _ nv _ => 10 - (intOf nv).toNat)
  case atStart => exact ⟨0, 0, 128, s, by omega, rfl, by omega, rfl, by omega, rfl, rfl, h, Nx.refl _ hok⟩
  case round =>
    obtain ⟨j, v, x, ⟨b, e⟩, hj, rfl, hv, rfl, hx, rfl, HL, hR, hnW⟩ := hrel
    have HR := Lib.hid hR
    obtain ⟨a, c, hb, hlc, hcm, HB, hc0, hc1, hf0, hf1⟩ := hR.open
    clear hR
    by_cases hc : 128 ≤ x ∧ j < 10 ∧ e = 0
    · obtain ⟨hx1, hj1, rfl⟩ := hc
      have hT := Byte_any M wr g ⟨b, 0⟩ hnW.ok HR.out
      have hnl := num_lt ⟨b, 0⟩ 1
      have HL2 : Hid (vloop (10 - (j + 1)) (j + 1) (orV v (RS.num ⟨b, 0⟩ 1).1 j) (RS.num ⟨b, 0⟩ 1).1 (RS.num ⟨b, 0⟩ 1).2 = vloop 10 0 0 128 s) := by
        have h1 := HL.out
        rw [show 10 - j = (10 - (j + 1)) + 1 by omega, vloop, if_pos ⟨hx1, rfl⟩] at h1
        exact h1
      clear HL
      generalize (RS.num ⟨b, 0⟩ 1).1 = y at *
      generalize (RS.num ⟨b, 0⟩ 1).2 = t2 at *
      have HT := Lib.hid hT; clear hT
      have ha := and127 (x := y) (by omega)
      have ho := or_sev (x := y) hv j
      have hol := orV_lt hv y j
      go_wp2_with fail
      refine HT.out.mono ?_
      rintro _ w1 ⟨rfl, hn1, hr1⟩
      clear hc0 hc1 hf0 hf1
      generalize orV v y j = v2 at *
      have HR1 := Lib.hid hr1; clear hr1
      go_wp2
      exact ⟨⟨j + 1, v2, y, t2, by omega, by go_num, hol, rfl, by omega, rfl, HL2, HR1.out, hnW.trans hn1 (fun _ hx _ => hx)⟩, by simp [intOf]; omega⟩
    · have hL := HL.out
      have hstop : 10 - j = 0 ∨ ¬ (128 ≤ x ∧ e = 0) := by omega
      rw [vloop_stop hstop] at hL
      have hV : s.varP most = if e ≠ 0 then (0, ⟨b, e⟩) else if 128 ≤ x ∨ (j = 10 ∧ 1 < x) ∨ (1 < j ∧ x = 0) then (0, RS.fail ⟨b, e⟩ 2) else if most < v then (0, RS.fail ⟨b, e⟩ 4) else (v, ⟨b, e⟩) := by
        unfold RS.varP
        rw [← hL]
      rw [← HRES.out] at hV
      clear hL HL HRES
      have HC := Lib.hid hc; clear hc
      by_cases he : e = 0
      · rw [if_neg (by simpa using he)] at hV
        have hst : 128 ≤ x → j = 10 := fun h1 => by have := HC.out; omega
        have he1 : (e == 0) = true := beq_iff_eq.2 he
        have he2 : (e != 0) = false := by rw [bne_eq_false_iff_eq]; exact he
        have HE := Lib.hid he; clear he
        by_cases hbad : 128 ≤ x ∨ (j = 10 ∧ 1 < x) ∨ (1 < j ∧ x = 0)
        · rw [if_pos hbad] at hV
          subst hV
          have key : (128 ≤ x ∧ j = 10) ∨ (x < 128 ∧ j = 10 ∧ 1 < x) ∨ (x = 0 ∧ j = 10) ∨ (x = 0 ∧ 1 < j ∧ j < 10) := by omega
          clear hbad hst
          have hT := fun W hok h => Fail_any M W g ⟨b, e⟩ 2 hok h
          have HT := Lib.hid hT; clear hT
          rcases key with ⟨h1, h2⟩ | ⟨h1, h2, h3⟩ | ⟨h1, h2⟩ | ⟨h1, h2, h3⟩
          · have hj10 : ((j : Int) == 10) = true := beq_iff_eq.2 (by omega)
            have hjl : ¬ j < 10 := by omega
            clear h2
            go_wp2_with (go_at_call 28; go_must (refine (HT.out wr hnW.ok HR.out).mono ?_); rintro _ w1 ⟨rfl, hn1, hr1⟩)
            go_ret
            exact ⟨rfl, hnW.trans hn1 (fun _ hx _ => hx), hr1⟩
          · have hj10 : ((j : Int) == 10) = true := beq_iff_eq.2 (by omega)
            have hjl : ¬ j < 10 := by omega
            clear h2
            go_wp2_with (go_at_call 28; go_must (refine (HT.out wr hnW.ok HR.out).mono ?_); rintro _ w1 ⟨rfl, hn1, hr1⟩)
            go_ret
            exact ⟨rfl, hnW.trans hn1 (fun _ hx _ => hx), hr1⟩
          · subst h1
            have hj10 : ((j : Int) == 10) = true := beq_iff_eq.2 (by omega)
            have hj1 : 1 < j := by omega
            have hjl : ¬ j < 10 := by omega
            clear h2
            go_wp2_with (go_at_call 28; go_must (refine (HT.out wr hnW.ok HR.out).mono ?_); rintro _ w1 ⟨rfl, hn1, hr1⟩)
            go_ret
            exact ⟨rfl, hnW.trans hn1 (fun _ hx _ => hx), hr1⟩
          · subst h1
            have hj10 : ((j : Int) == 10) = false := beq_eq_false_iff_ne.2 (by omega)
            go_wp2_with (go_at_call 28; go_must (refine (HT.out wr hnW.ok HR.out).mono ?_); rintro _ w1 ⟨rfl, hn1, hr1⟩)
            go_ret
            exact ⟨rfl, hnW.trans hn1 (fun _ hx _ => hx), hr1⟩
        · rw [if_neg hbad] at hV
          have key : x < 128 ∧ ((j = 10 ∧ x = 1) ∨ (j < 10 ∧ j ≤ 1) ∨ (j < 10 ∧ 1 < j ∧ 0 < x)) := by omega
          clear hbad hst
          have hT := fun W hok h => Fail_any M W g ⟨b, e⟩ 4 hok h
          have HT := Lib.hid hT; clear hT
          obtain ⟨hx1, key⟩ := key
          by_cases hm : most < v
          · rw [if_pos hm] at hV
            subst hV
            rcases key with ⟨h1, h2⟩ | ⟨h1, h2⟩ | ⟨h1, h2, h3⟩
            · subst h2
              have hj10 : ((j : Int) == 10) = true := beq_iff_eq.2 (by omega)
              have hj1 : 1 < j := by omega
              clear h1
              go_wp2_with (go_at_call 28; go_must (refine (HT.out wr hnW.ok HR.out).mono ?_); rintro _ w1 ⟨rfl, hn1, hr1⟩)
              go_ret
              exact ⟨rfl, hnW.trans hn1 (fun _ hx _ => hx), hr1⟩
            · have hj10 : ((j : Int) == 10) = false := beq_eq_false_iff_ne.2 (by omega)
              go_wp2_with (go_at_call 28; go_must (refine (HT.out wr hnW.ok HR.out).mono ?_); rintro _ w1 ⟨rfl, hn1, hr1⟩)
              go_ret
              exact ⟨rfl, hnW.trans hn1 (fun _ hx _ => hx), hr1⟩
            · have hj10 : ((j : Int) == 10) = false := beq_eq_false_iff_ne.2 (by omega)
              have hx0 : ((x : Int) == 0) = false := beq_eq_false_iff_ne.2 (by omega)
              go_wp2_with (go_at_call 28; go_must (refine (HT.out wr hnW.ok HR.out).mono ?_); rintro _ w1 ⟨rfl, hn1, hr1⟩)
              go_ret
              exact ⟨rfl, hnW.trans hn1 (fun _ hx _ => hx), hr1⟩
          · rw [if_neg hm] at hV
            subst hV
            rcases key with ⟨h1, h2⟩ | ⟨h1, h2⟩ | ⟨h1, h2, h3⟩
            · subst h2
              have hj10 : ((j : Int) == 10) = true := beq_iff_eq.2 (by omega)
              have hj1 : 1 < j := by omega
              clear h1
              go_wp2
              go_ret
              exact ⟨rfl, hnW, HR.out⟩
            · have hj10 : ((j : Int) == 10) = false := beq_eq_false_iff_ne.2 (by omega)
              go_wp2
              go_ret
              exact ⟨rfl, hnW, HR.out⟩
            · have hj10 : ((j : Int) == 10) = false := beq_eq_false_iff_ne.2 (by omega)
              have hx0 : ((x : Int) == 0) = false := beq_eq_false_iff_ne.2 (by omega)
              go_wp2
              go_ret
              exact ⟨rfl, hnW, HR.out⟩
      · rw [if_pos he] at hV
        subst hV
        have he' : (e == 0) = false := beq_eq_false_iff_ne.2 he
        have he2 : (e != 0) = true := by rw [bne_iff_ne]; exact he
        have HE := Lib.hid he; clear he
        have fin : ∀ (a : Bool), True := fun _ => trivial
        by_cases h1 : 128 ≤ x
        · by_cases h2 : j < 10
          · go_wp2
            go_ret
            exact ⟨rfl, hnW, HR.out⟩
          · go_wp2
            go_ret
            exact ⟨rfl, hnW, HR.out⟩
        · go_wp2
          go_ret
          exact ⟨rfl, hnW, HR.out⟩
end Go.Proofs.Ytlecedlondamiaa
