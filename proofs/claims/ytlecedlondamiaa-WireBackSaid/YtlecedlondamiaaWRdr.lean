/-
  wire.Reader's methods, walked.
-/
import Derived.Test.YtlecedlondamiaaRMod
import Derived.Test.YtlecedlondamiaaWSum
namespace Go.Proofs.Ytlecedlondamiaa
open Go.RowKit
set_option maxRecDepth 100000
/-- A reader at block g. -/
def Rdr (M : Mem) (w : World) (g : Nat) (s : RS) : Prop := ∃ vb, Blk M w g #[vb, .int .i64 s.e] 63 ∧ RdB M vb s.b
theorem Rdr.nx {S : List (Option Nat)} {M M' : Mem} {w w' : World} {g : Nat} {s : RS} (h : Rdr M w g s) (n : Nx S M w M' w') (hg : some g ∉ S) : Rdr M' w' g s := by
  obtain ⟨vb, hb, hr⟩ := h
  exact ⟨vb, hb.nx n hg, hr.mono n.le⟩
theorem Rdr.open {M : Mem} {w : World} {g : Nat} {b : List UInt8} {e : Int} (h : Rdr M w g ⟨b, e⟩) : ∃ a c, Blk M w g #[.slice a b.length c, .int .i64 e] 63 ∧ b.length ≤ c ∧ c ≤ 9223372036854775807 ∧ Hid (RdB M (.slice a b.length c) b) ∧
    w.cell? ⟨g, 0, none⟩ = some (.slice a b.length c) ∧ w.cell? ⟨g, 1, none⟩ = some (.int .i64 e) ∧ w.frozen? ⟨g, 0, none⟩ = false ∧ w.frozen? ⟨g, 1, none⟩ = false := by
  obtain ⟨vb, hb, hr⟩ := h
  have hr' := hr
  obtain ⟨a, c, rfl, h1, h2, _⟩ := hr'
  exact ⟨a, c, hb, h1, h2, hr, hb.cell 0, hb.cell 1, hb.frozen 0, hb.frozen 1⟩
theorem Rdr.lt {M : Mem} {w : World} {g : Nat} {s : RS} (h : Rdr M w g s) : g < w.heap.size := by
  obtain ⟨vb, hb, _⟩ := h
  exact hb.lt

set_option maxHeartbeats 1000000 in
theorem Fail_any (M : Mem) (w : World) (g : Nat) (s : RS) (x : Int) (hok : Ok M w) (h : Rdr M w g s) :
    Calls Try.prog 28 #[.pointer (some ⟨g, 0, none⟩), .int .i64 x] w fun e w' => e = .returned (.tuple #[]) ∧ Nx [some g] M w M w' ∧ Rdr M w' g (s.fail x) := by
  obtain ⟨b, e⟩ := s
  obtain ⟨vb, hb, hr⟩ := h
  have hc0 := hb.cell 0
  have hc1 := hb.cell 1
  have hf0 := hb.frozen 0
  have hf1 := hb.frozen 1
  simp only [List.getElem?_toArray, List.getElem?_cons_zero, List.getElem?_cons_succ] at hc0 hc1
  by_cases h0 : e = 0
  · have h0' : (e == 0) = true := beq_iff_eq.2 h0
    by_cases hx : x = 0
    · have hx' : (x != 0) = false := by rw [bne_eq_false_iff_eq]; exact hx
      have HX := Lib.hid hx; have H0 := Lib.hid h0; clear hx h0
      go_enter Try.func28, Try.ntmps28
      go_wp2
      go_end0
      refine ⟨rfl, Nx.refl _ hok, vb, ?_⟩
      simp [RS.fail, HX.out]
      exact ⟨hb, hr⟩
    · have hx' : (x != 0) = true := by rw [bne_iff_ne]; exact hx
      have HX := Lib.hid hx; have H0 := Lib.hid h0; clear hx h0
      go_enter Try.func28, Try.ntmps28
      go_wp2
      go_end0
      have hn : Nx [some g] M w M ((w.setCell ⟨g, 0, none⟩ (.slice none 0 0)).setCell ⟨g, 1, none⟩ (.int .i64 x)) :=
        ((Nx.refl _ hok).setCell hb.free (fun _ => by simp) _).setCell hb.free (fun _ => by simp) _
      refine ⟨rfl, hn, .slice none 0 0, ?_⟩
      have hs : RS.fail ⟨b, e⟩ x = ⟨[], x⟩ := by simp [RS.fail, HX.out, H0.out]
      rw [hs]
      exact ⟨by simpa using (hb.set 0 (.slice none 0 0)).set 1 (.int .i64 x), RdB.nil M⟩
  · have h0' : (e == 0) = false := beq_eq_false_iff_ne.2 h0
    have H0 := Lib.hid h0; clear h0
    go_enter Try.func28, Try.ntmps28
    go_wp2
    go_end0
    refine ⟨rfl, Nx.refl _ hok, vb, ?_⟩
    simp [RS.fail, H0.out]
    exact ⟨hb, hr⟩

set_option maxHeartbeats 1000000 in
theorem Err_any (M : Mem) (w : World) (g : Nat) (s : RS) (h : Rdr M w g s) :
    Calls Try.prog 31 #[.pointer (some ⟨g, 0, none⟩)] w fun e w' => e = .returned (.int .i64 s.e) ∧ w = w' := by
  obtain ⟨b, e⟩ := s
  obtain ⟨vb, hb, hr⟩ := h
  have hc1 := hb.cell 1
  simp only [List.getElem?_toArray, List.getElem?_cons_zero, List.getElem?_cons_succ] at hc1
  go_enter Try.func31, Try.ntmps31
  go_wp2
  go_ret
  exact ⟨rfl, rfl⟩

set_option maxHeartbeats 1000000 in
theorem Left_any (M : Mem) (w : World) (g : Nat) (s : RS) (h : Rdr M w g s) :
    Calls Try.prog 30 #[.pointer (some ⟨g, 0, none⟩)] w fun e w' => e = .returned (.int .i64 s.b.length) ∧ w = w' := by
  obtain ⟨b, e⟩ := s
  obtain ⟨vb, hb, a, c, rfl, hlc, hcm, _⟩ := h
  replace hcm := le_max hcm
  have hc0 := hb.cell 0
  simp only [List.getElem?_toArray, List.getElem?_cons_zero] at hc0
  go_enter Try.func30, Try.ntmps30
  go_wp2
  go_ret
  exact ⟨rfl, rfl⟩

set_option maxHeartbeats 1000000 in
theorem End_any (M : Mem) (w : World) (g : Nat) (s : RS) (h : Rdr M w g s) :
    Calls Try.prog 17 #[.pointer (some ⟨g, 0, none⟩)] w fun e w' => e = .returned (.int .i64 s.end_) ∧ w = w' := by
  obtain ⟨b, e⟩ := s
  obtain ⟨vb, hb, a, c, rfl, hlc, hcm, _⟩ := h
  replace hcm := le_max hcm
  have hc0 := hb.cell 0
  have hc1 := hb.cell 1
  simp only [List.getElem?_toArray, List.getElem?_cons_zero, List.getElem?_cons_succ] at hc0 hc1
  by_cases h0 : e = 0
  · have h0' : (e == 0) = true := beq_iff_eq.2 h0
    have H0 := Lib.hid h0; clear h0
    by_cases hl : 0 < b.length
    · have e1 : RS.end_ ⟨b, e⟩ = 2 := by simp only [RS.end_]; rw [if_pos ⟨H0.out, hl⟩]
      rw [e1]
      go_enter Try.func17, Try.ntmps17
      go_wp2
      go_ret
      exact ⟨rfl, rfl⟩
    · have e1 : RS.end_ ⟨b, e⟩ = e := by simp only [RS.end_]; rw [if_neg (fun x => hl x.2)]
      rw [e1]
      go_enter Try.func17, Try.ntmps17
      go_wp2
      go_ret
      exact ⟨rfl, rfl⟩
  · have h0' : (e == 0) = false := beq_eq_false_iff_ne.2 h0
    have e1 : RS.end_ ⟨b, e⟩ = e := by simp only [RS.end_]; rw [if_neg (fun x => h0 x.1)]
    have H0 := Lib.hid h0; clear h0
    rw [e1]
    go_enter Try.func17, Try.ntmps17
    go_wp2
    go_ret
    exact ⟨rfl, rfl⟩

set_option maxHeartbeats 1000000 in
theorem Read_any (M : Mem) (w : World) (v : Value) (b : List UInt8) (hok : Ok M w) (hv : RdB M v b) :
    Calls Try.prog 8 #[v] w fun e w' => ∃ g, e = .returned (.pointer (some ⟨g, 0, none⟩)) ∧ w.heap.size ≤ g ∧ Nx [] M w M w' ∧ Rdr M w' g ⟨b, 0⟩ := by
  have hv0 := hv
  obtain ⟨a, c, rfl, hlc, hcm, _⟩ := hv
  have HV := Lib.hid hv0; clear hv0
  go_enter Try.func8, Try.ntmps8
  go_wp2
  go_ret
  exact ⟨_, rfl, Nat.le_refl _, (Nx.refl _ hok).alloc _, _, Blk.new hok _ _, HV.out⟩

set_option maxHeartbeats 1000000 in
theorem take_any (M : Mem) (w : World) (g n : Nat) (s : RS) (hn : n < 18446744073709551616) (hok : Ok M w) (h : Rdr M w g s) :
    Calls Try.prog 34 #[.pointer (some ⟨g, 0, none⟩), .int .u64 n] w fun e w' => ∃ v, e = .returned (.tuple #[v, .bool (s.take n).1.isSome]) ∧ RdB M v ((s.take n).1.getD []) ∧ Nx [some g] M w M w' ∧ Rdr M w' g (s.take n).2 := by
  by_cases h0 : s.e = 0
  · by_cases hlt : s.b.length < n
    · obtain ⟨b, e⟩ := s
      obtain ⟨a, c, hb, hlc, hcm, HR, hc0, hc1, hf0, hf1⟩ := h.open
      have h' := Lib.hid h; clear h
      simp only at h0 hlt
      have e1 : RS.take ⟨b, e⟩ n = (none, ⟨[], 1⟩) := by simp only [RS.take]; rw [if_neg (fun x => x h0), if_pos hlt]
      have e2 : RS.fail ⟨b, e⟩ 1 = ⟨[], 1⟩ := by simp [RS.fail, h0]
      rw [e1]
      have E2 := Lib.hid e2; clear e1 e2 h0
      have hw := wrap_u64 (n := b.length) (by omega)
      go_enter Try.func34, Try.ntmps34
      go_wp2_with fail
      refine (Fail_any M _ g ⟨b, e⟩ _ hok h'.out).mono ?_
      rintro _ w1 ⟨rfl, hn1, hr1⟩
      rw [E2.out] at hr1
      have hR1 := Lib.hid hr1
      obtain ⟨a1, c1, hb1, hlc1, hcm1, HR1, hc01, hc11, hf01, hf11⟩ := hr1.open
      clear hc0 hc1 hf0 hf1
      go_wp2
      go_ret2
      exact ⟨_, rfl, RdB.nil M, hn1, hR1.out⟩
    · obtain ⟨b, e⟩ := s
      obtain ⟨a, c, hb, hlc, hcm, HR, hc0, hc1, hf0, hf1⟩ := h.open
      simp only at h0 hlt
      have e1 : RS.take ⟨b, e⟩ n = (some (b.take n), ⟨b.drop n, e⟩) := by simp only [RS.take]; rw [if_neg (fun x => x h0), if_neg hlt]
      rw [e1]
      have h0' : (e != 0) = false := by rw [bne_eq_false_iff_eq]; exact h0
      have H0 := Lib.hid h0; clear h0
      have hw := wrap_u64 (n := b.length) (by omega)
      have hnc : n ≤ c := by omega
      by_cases hcn : c = n
      · subst hcn
        have hln : b.length = c := by omega
        have hd : b.drop c = [] := List.drop_eq_nil_of_le (by omega)
        have hR := HR.out.take (n := c) (by omega)
        have HD := Lib.hid hd; have HRT := Lib.hid hR; clear hd hR
        have HLN := Lib.hid hln; clear hln
        go_enter Try.func34, Try.ntmps34
        go_wp2
        go_ret2
        refine ⟨_, rfl, HRT.out, (Nx.refl _ hok).setCell hb.free (fun _ => by simp) _, _, hb.set 0 _, ?_⟩
        simp only [HD.out]
        exact RdB.none_ M a 0 (Nat.zero_le _)
      · go_enter Try.func34, Try.ntmps34
        go_wp2
        go_ret2
        exact ⟨_, rfl, HR.out.take (by omega), (Nx.refl _ hok).setCell hb.free (fun _ => by simp) _, _, hb.set 0 _, HR.out.drop (by omega)⟩
  · have e1 := s.take_e n h0
    rw [e1]
    obtain ⟨b, e⟩ := s
    obtain ⟨a, c, hb, hlc, hcm, HR, hc0, hc1, hf0, hf1⟩ := h.open
    have h' := Lib.hid h; clear h
    simp only at h0
    have h0' : (e != 0) = true := by rw [bne_iff_ne]; exact h0
    have H0 := Lib.hid h0; clear h0
    have hw := wrap_u64 (n := b.length) (by omega)
    by_cases hlt : b.length < n
    · go_enter Try.func34, Try.ntmps34
      go_wp2_with fail
      refine (Fail_any M _ g ⟨b, e⟩ _ hok h'.out).mono ?_
      rintro _ w1 ⟨rfl, hn1, hr1⟩
      rw [RS.fail_e _ _ H0.out] at hr1
      have hR1 := Lib.hid hr1
      obtain ⟨a1, c1, hb1, hlc1, hcm1, HR1, hc01, hc11, hf01, hf11⟩ := hr1.open
      clear hc0 hc1 hf0 hf1
      go_wp2
      go_ret2
      exact ⟨_, rfl, RdB.nil M, hn1, hR1.out⟩
    · go_enter Try.func34, Try.ntmps34
      go_wp2
      go_ret2
      exact ⟨_, rfl, RdB.nil M, Nx.refl _ hok, h'.out⟩
end Go.Proofs.Ytlecedlondamiaa
