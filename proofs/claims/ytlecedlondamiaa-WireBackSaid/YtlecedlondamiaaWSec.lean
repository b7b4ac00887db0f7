/-
  wire.Reader's Var, Text and Section, walked.
-/
import Derived.Test.YtlecedlondamiaaWVar
import Derived.Test.YtlecedlondamiaaVarEq
import Derived.Deep.DeepCutAuto
namespace Go.Proofs.Ytlecedlondamiaa
open Go.RowKit
set_option maxRecDepth 100000
theorem Var_any (M : Mem) (w : World) (g most : Nat) (s : RS) (hok : Ok M w) (h : Rdr M w g s) :
    Calls Try.prog 20 #[.pointer (some ⟨g, 0, none⟩), .int .u64 most] w fun e w' => e = .returned (.int .u64 (s.var most).1) ∧ Nx [some g] M w M w' ∧ Rdr M w' g (s.var most).2 := by
  have := VarP_any M w g most s hok h
  rwa [RS.varP_eq] at this
theorem var_le (s : RS) (most : Nat) : (s.var most).1 ≤ most := by
  unfold RS.var
  split
  · exact Nat.zero_le _
  · dsimp only
    split
    · exact Nat.zero_le _
    · split
      · exact Nat.zero_le _
      · split
        · exact Nat.zero_le _
        · simp; omega
set_option maxHeartbeats 1000000 in
theorem Text_any (M : Mem) (w : World) (g most : Nat) (s : RS) (hm : most < 18446744073709551616) (hok : Ok M w) (h : Rdr M w g s) :
    Calls Try.prog 21 #[.pointer (some ⟨g, 0, none⟩), .int .u64 most] w fun e w' => e = .returned (.string (bs (s.text most).1)) ∧ Nx [some g] M w M w' ∧ Rdr M w' g (s.text most).2 := by
  have hle := var_le s most
  have hV := Var_any M w g most s hok h
  rw [show s.text most = (((s.var most).2.take (s.var most).1).1.getD [], ((s.var most).2.take (s.var most).1).2) from rfl]
  generalize (s.var most).1 = n at *
  generalize (s.var most).2 = s2 at *
  have HT : Hid (∀ w2, Ok M w2 → Rdr M w2 g s2 → _) := fun w2 hok2 h2 => take_any M w2 g n s2 (by omega) hok2 h2
  generalize (s2.take n).2 = s3 at *
  generalize (s2.take n).1.isSome = b2 at *
  generalize (s2.take n).1.getD [] = l at *
  have HV := Lib.hid hV; clear hV h
  go_enter Try.func21, Try.ntmps21
  go_wp2_with fail
  refine HV.out.mono ?_
  rintro _ w1 ⟨rfl, hn1, hr1⟩
  have HR1 := Lib.hid hr1; clear hr1
  go_wp2_with fail
  refine (HT.out w1 hn1.ok HR1.out).mono ?_
  rintro _ w2 ⟨v, rfl, hv, hn2, hr2⟩
  have HR2 := Lib.hid hr2; clear hr2
  have hs := hv.string hn2.ok Try.underlying22 Try.underlying5 Try.underlying9
  go_wp2
  go_ret
  exact ⟨rfl, hn1.trans hn2 (fun _ hx _ => hx), HR2.out⟩
set_option maxHeartbeats 2000000 in
theorem Section_any (M : Mem) (w : World) (g id : Nat) (s : RS) (hok : Ok M w) (h : Rdr M w g s) :
    Calls Try.prog 16 #[.pointer (some ⟨g, 0, none⟩), .int .u8 id] w fun e w' => ∃ g2, e = .returned (.pointer (some ⟨g2, 0, none⟩)) ∧ w.heap.size ≤ g2 ∧ Nx [some g] M w M w' ∧ Rdr M w' g2 (s.sec id).1 ∧ Rdr M w' g (s.sec id).2 := by
  have h1 := num_lt s 1
  have hB := Byte_any M w g s hok h
  obtain ⟨a, ha⟩ : ∃ a, a = s.num 1 := ⟨_, rfl⟩
  obtain ⟨s1, hs1⟩ : ∃ s1, s1 = if a.1 ≠ id then a.2.fail 2 else a.2 := ⟨_, rfl⟩
  obtain ⟨n, hn⟩ : ∃ n, n = s1.num 4 := ⟨_, rfl⟩
  obtain ⟨t, ht⟩ : ∃ t, t = n.2.take n.1 := ⟨_, rfl⟩
  obtain ⟨c, hc⟩ : ∃ c, c = t.2.num 4 := ⟨_, rfl⟩
  obtain ⟨s2, hs2⟩ : ∃ s2, s2 = if c.1 ≠ crc (t.1.getD []) then c.2.fail 3 else c.2 := ⟨_, rfl⟩
  have hsec : s.sec id = (if s2.e ≠ 0 then ⟨[], s2.e⟩ else ⟨t.1.getD [], 0⟩, s2) := by subst hs2 hc ht hn hs1 ha; rfl
  rw [hsec]
  clear hsec
  have hn4 : n.1 < 4294967296 := by rw [hn]; exact num_lt s1 4
  have hc4 : c.1 < 4294967296 := by rw [hc]; exact num_lt t.2 4
  have HN : Hid (∀ w2, Ok M w2 → Rdr M w2 g s1 → Calls Try.prog 19 #[.pointer (some ⟨g, 0, none⟩)] w2 fun e w' => e = .returned (.int .u32 n.1) ∧ Nx [some g] M w2 M w' ∧ Rdr M w' g n.2) := fun w2 k1 k2 => by rw [hn]; exact U32_any M w2 g s1 k1 k2
  have HT : Hid (∀ w2, Ok M w2 → Rdr M w2 g n.2 → Calls Try.prog 34 #[.pointer (some ⟨g, 0, none⟩), .int .u64 n.1] w2 fun e w' => ∃ v, e = .returned (.tuple #[v, .bool t.1.isSome]) ∧ RdB M v (t.1.getD []) ∧ Nx [some g] M w2 M w' ∧ Rdr M w' g t.2) := fun w2 k1 k2 => by rw [ht]; exact take_any M w2 g n.1 n.2 (by omega) k1 k2
  have HC : Hid (∀ w2, Ok M w2 → Rdr M w2 g t.2 → Calls Try.prog 19 #[.pointer (some ⟨g, 0, none⟩)] w2 fun e w' => e = .returned (.int .u32 c.1) ∧ Nx [some g] M w2 M w' ∧ Rdr M w' g c.2) := fun w2 k1 k2 => by rw [hc]; exact U32_any M w2 g t.2 k1 k2
  rw [← ha] at hB h1
  have HB := Lib.hid hB; clear hB
  have HS1 := Lib.hid hs1
  have HS2 := Lib.hid hs2
  clear hs1 hs2 ha hn ht hc h
  obtain ⟨a1, a2⟩ := a
  obtain ⟨n1, n2⟩ := n
  obtain ⟨t1, t2⟩ := t
  obtain ⟨c1, c2⟩ := c
  simp only at *
  go_enter Try.func16, Try.ntmps16
  go_wp2_with fail
  refine HB.out.mono ?_
  rintro _ w1 ⟨rfl, hn1, hr1⟩
  have HR1 := Lib.hid hr1; clear hr1
  go_upto_if 13 with fail
  go_cut [] (fun wx => Hid (Rdr M wx g s1) ∧ Nx [some g] M w M wx)
  case first =>
    by_cases hne : a1 = id
    · have e1 : s1 = a2 := by rw [HS1.out, if_neg (fun h => h hne)]
      have hb : ((a1 : Int) != (id : Int)) = false := by rw [bne_eq_false_iff_eq]; omega
      have HE := Lib.hid hne; clear hne
      go_wp2
      go_meet
      exact ⟨by rw [e1]; exact HR1, hn1⟩
    · have e1 : s1 = a2.fail 2 := by rw [HS1.out, if_pos hne]
      have hb : ((a1 : Int) != (id : Int)) = true := by rw [bne_iff_ne]; omega
      have HE := Lib.hid hne; clear hne
      have HE1 := Lib.hid e1; clear e1
      have HF := Lib.hid (Fail_any M w1 g a2 2 hn1.ok HR1.out)
      go_wp2_with (go_at_call 28; go_must (refine HF.out.mono ?_); rintro _ w2 ⟨rfl, hn2, hr2⟩)
      go_meet
      exact ⟨by rw [HE1.out]; exact hr2, hn1.trans hn2 (fun _ hx _ => hx)⟩
  case rest =>
    obtain ⟨hr2, hn2⟩ := hcut
    go_wp2_with fail
    refine (HN.out wc hn2.ok hr2.out).mono ?_
    rintro _ w3 ⟨rfl, hn3, hr3⟩
    have HR3 := Lib.hid hr3; clear hr3
    go_wp2_with fail
    refine (HT.out w3 hn3.ok HR3.out).mono ?_
    rintro _ w4 ⟨v, rfl, hv, hn4', hr4⟩
    have HR4 := Lib.hid hr4; clear hr4
    have HV := Lib.hid hv; clear hv
    go_wp2_with fail
    refine (HC.out w4 hn4'.ok HR4.out).mono ?_
    rintro _ w5 ⟨rfl, hn5, hr5⟩
    have HR5 := Lib.hid hr5; clear hr5
    go_wp2_with fail
    refine (Sum_any M w5 (t1.getD []) v hn5.ok HV.out).mono ?_
    rintro _ w6 ⟨rfl, hn6⟩
    have hr6 := Lib.hid (HR5.out.nx hn6 (by simp))
    have hn16 : Nx [some g] M w M w6 := (((hn2.trans hn3 (fun _ hx _ => hx)).trans hn4' (fun _ hx _ => hx)).trans hn5 (fun _ hx _ => hx)).trans hn6 (by simp)
    clear hn2 hn3 hn4' hn5 hn6 HN HT HC HB
    go_upto_if 29 with fail
    go_cut [] (fun wx => Hid (Rdr M wx g s2) ∧ Nx [some g] M w M wx)
    case first =>
      by_cases hne : c1 = crc (t1.getD [])
      · have e1 : s2 = c2 := by rw [HS2.out, if_neg (fun h => h hne)]
        have hb : ((c1 : Int) != (crc (t1.getD []) : Int)) = false := by rw [bne_eq_false_iff_eq]; omega
        have HE := Lib.hid hne; clear hne
        go_wp2
        go_meet
        exact ⟨by rw [e1]; exact hr6, hn16⟩
      · have e1 : s2 = c2.fail 3 := by rw [HS2.out, if_pos hne]
        have hb : ((c1 : Int) != (crc (t1.getD []) : Int)) = true := by rw [bne_iff_ne]; omega
        have HE := Lib.hid hne; clear hne
        have HE1 := Lib.hid e1; clear e1
        have HF := Lib.hid (Fail_any M w6 g c2 3 hn16.ok hr6.out)
        go_wp2_with (go_at_call 28; go_must (refine HF.out.mono ?_); rintro _ w7 ⟨rfl, hn7, hr7⟩)
        go_meet
        exact ⟨by rw [HE1.out]; exact hr7, hn16.trans hn7 (fun _ hx _ => hx)⟩
    case rest =>
      obtain ⟨hr7, hn7⟩ := hcut
      obtain ⟨b, e⟩ := s2
      obtain ⟨ra, rc, hb, hlc, hcm, HB, hc0, hc1, hf0, hf1⟩ := hr7.out.open
      clear HS2 HS1 hr6 hn16 hc4 hn4
      by_cases he : e = 0
      · have he' : (e != 0) = false := by rw [bne_eq_false_iff_eq]; exact he
        have HE := Lib.hid he
        clear he
        have HRD := Lib.hid (Read_any M wc v (t1.getD []) hn7.ok HV.out)
        go_wp2_with (go_at_call 8; go_must (refine HRD.out.mono ?_); rintro _ w8 ⟨g2, rfl, hg2, hn8, hr8⟩)
        go_ret
        exact ⟨g2, rfl, Nat.le_trans hn7.upd.size hg2, hn7.trans hn8 (by simp), hr8, by have hz := hr7.out.nx hn8 (by simp); rw [HE.out] at hz; exact hz⟩
      · have he' : (e != 0) = true := by rw [bne_iff_ne]; exact he
        have HE := Lib.hid he
        clear he
        go_wp2
        go_ret
        exact ⟨_, rfl, hn7.upd.size, hn7.alloc _, ⟨_, Blk.new hn7.ok _ _, RdB.nil M⟩, hr7.out.nx ((Nx.refl [] hn7.ok).alloc _) (by simp)⟩
end Go.Proofs.Ytlecedlondamiaa
