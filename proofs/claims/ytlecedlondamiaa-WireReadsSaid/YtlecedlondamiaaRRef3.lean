/-
  The reference's reader: runs and sections, walked.
-/
import Derived.Test.YtlecedlondamiaaRRef2
namespace Go.Proofs.Ytlecedlondamiaa
open Go.RowKit
set_option maxRecDepth 100000
theorem rvar_le (s : RS) (most : Nat) : (s.var most).1 ≤ most := by
  unfold RS.var
  split
  · exact Nat.zero_le _
  · dsimp only
    split
    · exact Nat.zero_le _
    · split
      · exact Nat.zero_le _
      · split
        · exact Nat.zero_le _
        · simp; omega
theorem rnum_lt (s : RS) (n : Nat) : (s.num n).1 < 256 ^ n :=
  Nat.lt_of_lt_of_le (numV_lt (s.raw n)) (Nat.pow_le_pow_right (by decide) (raw_len s n))
set_option maxHeartbeats 1000000 in
theorem RText_any (M : Mem) (w : World) (g most : Nat) (s : RS) (hm : most < 18446744073709551616) (hok : Ok M w) (h : Rfr M w g s) :
    Calls Try.prog 26 #[.pointer (some ⟨g, 0, none⟩), .int .u64 most] w fun e w' => e = .returned (.string (bs (s.text most).1)) ∧ Nx [some g] M w M w' ∧ Rfr M w' g (s.text most).2 := by
  have hle := rvar_le s most
  have hV := RVar_any M w g most s hok h
  rw [show s.text most = ((s.var most).2.raw (s.var most).1, ((s.var most).2.take (s.var most).1).2) from rfl]
  generalize (s.var most).1 = n at *
  generalize (s.var most).2 = s2 at *
  have HT : Hid (∀ w2, Ok M w2 → Rfr M w2 g s2 → _) := fun w2 hok2 h2 => Raw_any M w2 g n s2 (by omega) hok2 h2
  generalize (s2.take n).2 = s3 at *
  generalize s2.raw n = l at *
  have HV := Lib.hid hV; clear hV h
  go_enter Try.func26, Try.ntmps26
  go_wp2_with fail
  refine HV.out.mono ?_
  rintro _ w1 ⟨rfl, hn1, hr1⟩
  have HR1 := Lib.hid hr1; clear hr1
  go_wp2_with fail
  refine (HT.out w1 hn1.ok HR1.out).mono ?_
  rintro _ w2 ⟨rfl, hn2, hr2⟩
  have HR2 := Lib.hid hr2; clear hr2
  go_wp2
  go_ret
  exact ⟨rfl, hn1.trans hn2 (fun _ hx _ => hx), HR2.out⟩
set_option maxHeartbeats 2000000 in
theorem RSection_any (M : Mem) (w : World) (g id : Nat) (s : RS) (hid : id < 256) (hok : Ok M w) (h : Rfr M w g s) :
    Calls Try.prog 27 #[.pointer (some ⟨g, 0, none⟩), .int .u8 id] w fun e w' => ∃ g2, e = .returned (.pointer (some ⟨g2, 0, none⟩)) ∧ w.heap.size ≤ g2 ∧ Nx [some g] M w M w' ∧ Rfr M w' g2 (s.sec id).1 ∧ Rfr M w' g (s.sec id).2 := by
  have hB := RNum_any M w g 1 s (by omega) hok h
  have hwid := wrap_u64 (n := id) (by omega)
  have ha1 := rnum_lt s 1
  obtain ⟨a, ha⟩ : ∃ a, a = s.num 1 := ⟨_, rfl⟩
  obtain ⟨s1, hs1⟩ : ∃ s1, s1 = if a.1 ≠ id then a.2.fail 2 else a.2 := ⟨_, rfl⟩
  obtain ⟨n, hn⟩ : ∃ n, n = s1.num 4 := ⟨_, rfl⟩
  obtain ⟨l, hl⟩ : ∃ l, l = n.2.raw n.1 := ⟨_, rfl⟩
  obtain ⟨t2, ht2⟩ : ∃ t2, t2 = (n.2.take n.1).2 := ⟨_, rfl⟩
  obtain ⟨c, hc⟩ : ∃ c, c = t2.num 4 := ⟨_, rfl⟩
  obtain ⟨s2, hs2⟩ : ∃ s2, s2 = if c.1 ≠ crc l then c.2.fail 3 else c.2 := ⟨_, rfl⟩
  have hsec : s.sec id = (if s2.e ≠ 0 then ⟨[], s2.e⟩ else ⟨l, 0⟩, s2) := by subst hs2 hc ht2 hl hn hs1 ha; rfl
  rw [hsec]
  clear hsec
  have hn4 : n.1 < 4294967296 := by rw [hn]; exact rnum_lt s1 4
  have hc4 : c.1 < 4294967296 := by rw [hc]; exact rnum_lt t2 4
  have hll : l.length ≤ n.1 := by rw [hl]; exact raw_len _ _
  have HN : Hid (∀ w2, Ok M w2 → Rfr M w2 g s1 → Calls Try.prog 24 #[.pointer (some ⟨g, 0, none⟩), .int .u64 4] w2 fun e w' => e = .returned (.int .u64 n.1) ∧ Nx [some g] M w2 M w' ∧ Rfr M w' g n.2) := fun w2 k1 k2 => by rw [hn]; exact RNum_any M w2 g 4 s1 (by omega) k1 k2
  have HT : Hid (∀ w2, Ok M w2 → Rfr M w2 g n.2 → Calls Try.prog 36 #[.pointer (some ⟨g, 0, none⟩), .int .u64 n.1] w2 fun e w' => e = .returned (.string (bs l)) ∧ Nx [some g] M w2 M w' ∧ Rfr M w' g t2) := fun w2 k1 k2 => by rw [hl, ht2]; exact Raw_any M w2 g n.1 n.2 (by omega) k1 k2
  have HC : Hid (∀ w2, Ok M w2 → Rfr M w2 g t2 → Calls Try.prog 24 #[.pointer (some ⟨g, 0, none⟩), .int .u64 4] w2 fun e w' => e = .returned (.int .u64 c.1) ∧ Nx [some g] M w2 M w' ∧ Rfr M w' g c.2) := fun w2 k1 k2 => by rw [hc]; exact RNum_any M w2 g 4 t2 (by omega) k1 k2
  rw [← ha] at hB ha1
  have HB := Lib.hid hB; clear hB
  have HS1 := Lib.hid hs1
  have HS2 := Lib.hid hs2
  clear hs1 hs2 ha hn hl ht2 hc h
  obtain ⟨a1, a2⟩ := a
  obtain ⟨n1, n2⟩ := n
  obtain ⟨c1, c2⟩ := c
  simp only at *
  go_enter Try.func27, Try.ntmps27
  go_wp2_with fail
  refine HB.out.mono ?_
  rintro _ w1 ⟨rfl, hn1, hr1⟩
  have HR1 := Lib.hid hr1; clear hr1
  go_upto_region 2 with fail
  go_cut [20] (fun sv wx => sv = .bool (decide (a2.e = 0 ∧ a1 ≠ id)) ∧ wx = w1)
  case first =>
    obtain ⟨b2, e2⟩ := a2
    obtain ⟨hc0, hc1, hf0, hf1, _⟩ := HR1.out.open
    by_cases he : e2 = 0
    · have he1 : (e2 == 0) = true := beq_iff_eq.2 he
      by_cases hne : a1 = id
      · have hb : ((a1 : Int) != (id : Int)) = false := by rw [bne_eq_false_iff_eq]; omega
        have HE := Lib.hid he; have HNE := Lib.hid hne; clear he hne
        go_wp2_with fail
        go_meet
        exact ⟨by rw [decide_eq_false (fun h => h.2 HNE.out)], rfl⟩
      · have hb : ((a1 : Int) != (id : Int)) = true := by rw [bne_iff_ne]; omega
        have HE := Lib.hid he; have HNE := Lib.hid hne; clear he hne
        go_wp2_with fail
        go_meet
        exact ⟨by rw [decide_eq_true (And.intro HE.out HNE.out)], rfl⟩
    · have he1 : (e2 == 0) = false := beq_eq_false_iff_ne.2 he
      have HE := Lib.hid he; clear he
      go_wp2_with fail
      go_meet
      exact ⟨by rw [decide_eq_false (fun h => HE.out h.1)], rfl⟩
  case rest =>
  obtain ⟨rfl, rfl⟩ := hcut
  go_upto_if 20 with fail
  go_cut [] (fun wx => Hid (Rfr M wx g s1) ∧ Nx [some g] M w M wx)
  case first =>
    by_cases hq : a2.e = 0 ∧ a1 ≠ id
    · have e1 : s1 = a2.fail 2 := by rw [HS1.out, if_pos hq.2]
      have HE1 := Lib.hid e1
      have hq' : decide (a2.e = 0 ∧ a1 ≠ id) = true := decide_eq_true hq
      clear e1 hq
      have HF := Lib.hid (RFail_any M _ g a2 2 hn1.ok HR1.out)
      rw [hq']
      clear hq'
      go_wp2_with (go_at_call 29; go_must (refine HF.out.mono ?_); rintro _ w2 ⟨rfl, hn2, hr2⟩)
      go_meet
      exact ⟨by rw [HE1.out]; exact hr2, hn1.trans hn2 (fun _ hx _ => hx)⟩
    · have e1 : s1 = a2 := by
        rw [HS1.out]
        by_cases h1 : a1 = id
        · rw [if_neg (fun h => h h1)]
        · rw [if_pos h1, RS.fail_e _ _ (fun h => hq ⟨h, h1⟩)]
      have HE1 := Lib.hid e1
      have hq' : decide (a2.e = 0 ∧ a1 ≠ id) = false := decide_eq_false hq
      clear e1 hq
      rw [hq']
      clear hq'
      go_wp2
      go_meet
      exact ⟨by rw [HE1.out]; exact HR1.out, hn1⟩
  case rest =>
  obtain ⟨hr2, hn2⟩ := hcut
  go_wp2_with fail
  refine (HN.out wc hn2.ok hr2.out).mono ?_
  rintro _ w3 ⟨rfl, hn3, hr3⟩
  have HR3 := Lib.hid hr3; clear hr3
  go_wp2_with fail
  refine (HT.out w3 hn3.ok HR3.out).mono ?_
  rintro _ w4 ⟨rfl, hn4', hr4⟩
  have HR4 := Lib.hid hr4; clear hr4
  go_wp2_with fail
  refine (HC.out w4 hn4'.ok HR4.out).mono ?_
  rintro _ w5 ⟨rfl, hn5, hr5⟩
  have hn15 : Nx [some g] M w M w5 := ((hn2.trans hn3 (fun _ hx _ => hx)).trans hn4' (fun _ hx _ => hx)).trans hn5 (fun _ hx _ => hx)
  have HR5 := Lib.hid hr5; clear hr5
  clear hn2 hn3 hn4' hn5 HN HT HC HB HS1 hn1
  obtain ⟨b5, e5⟩ := c2
  obtain ⟨hc0, hc1, hf0, hf1, hl5⟩ := HR5.out.open
  have hcl := crc_lt l
  by_cases he : e5 = 0
  · have he1 : (e5 == 0) = true := beq_iff_eq.2 he
    have he2 : (e5 != 0) = false := by rw [bne_eq_false_iff_eq]; exact he
    have HS := Lib.hid (RSum_any w5 l (by omega))
    by_cases hne : c1 = crc l
    · have e1 : s2 = ⟨b5, e5⟩ := by rw [HS2.out, if_neg (fun h => h hne)]
      subst e1
      have hb : ((c1 : Int) != (crc l : Int)) = false := by rw [bne_eq_false_iff_eq]; omega
      have HE := Lib.hid he; have HNE := Lib.hid hne; clear he hne HS2
      go_wp2_with (go_at_call 37; go_must (refine HS.out.mono ?_); rintro _ w6 ⟨rfl, rfl⟩)
      go_ret
      exact ⟨_, rfl, hn15.upd.size, hn15.alloc _, ⟨Blk.new hn15.ok _ _, by simp; omega⟩, by have hz := HR5.out.nx ((Nx.refl [] hn15.ok).alloc (.cells #[.string (bs l), .int .i64 0] 33)) (by simp); rw [HE.out] at hz; exact hz⟩
    · have e1 : s2 = ⟨[], 3⟩ := by rw [HS2.out, if_pos hne]; simp [RS.fail, he]
      subst e1
      have hb : ((c1 : Int) != (crc l : Int)) = true := by rw [bne_iff_ne]; omega
      have HF := RFail_any M w5 g ⟨b5, e5⟩ 3 hn15.ok HR5.out
      rw [show RS.fail ⟨b5, e5⟩ 3 = ⟨[], 3⟩ by simp [RS.fail, he]] at HF
      have HF' := Lib.hid HF; clear HF
      have HE := Lib.hid he; have HNE := Lib.hid hne; clear he hne HS2
      go_wp2_with (go_at_call 37; go_must (refine HS.out.mono ?_); rintro _ w6 ⟨rfl, rfl⟩)
      refine HF'.out.mono ?_
      rintro _ w7 ⟨rfl, hn7, hr7⟩
      have HR7 := Lib.hid hr7
      obtain ⟨hc0', hc1', hf0', hf1', _⟩ := hr7.open
      clear hr7 hc0 hc1 hf0 hf1 HR5
      go_wp2
      go_ret
      have hn17 := hn15.trans hn7 (fun _ hx _ => hx)
      exact ⟨_, rfl, hn17.upd.size, hn17.alloc _, ⟨Blk.new hn17.ok _ _, Nat.zero_le _⟩, HR7.out.nx ((Nx.refl [] hn17.ok).alloc _) (by simp)⟩
  · have he1 : (e5 == 0) = false := beq_eq_false_iff_ne.2 he
    have he2 : (e5 != 0) = true := by rw [bne_iff_ne]; exact he
    have e1 : s2 = ⟨b5, e5⟩ := by
      rw [HS2.out]
      split
      · exact RS.fail_e _ _ he
      · rfl
    subst e1
    have HE := Lib.hid he; clear he HS2
    go_wp2
    go_ret
    refine ⟨_, rfl, hn15.upd.size, hn15.alloc _, ?_, HR5.out.nx ((Nx.refl [] hn15.ok).alloc _) (by simp)⟩
    exact ⟨Blk.new hn15.ok _ _, Nat.zero_le _⟩
end Go.Proofs.Ytlecedlondamiaa
