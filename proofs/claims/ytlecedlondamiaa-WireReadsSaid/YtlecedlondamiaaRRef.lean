/-
  The reference's reader (shuttlecockref01.Reader), walked: the same functions of its state.
-/
import Derived.Test.YtlecedlondamiaaVarEq
import Derived.Test.YtlecedlondamiaaBurst
import Derived.Deep.DeepCutAuto
namespace Go.Proofs.Ytlecedlondamiaa
open Go.RowKit
set_option maxRecDepth 100000
theorem ret_int' {k : IntKind} {a b : Int} (h : a = b) : Ending.returned (.int k a) = .returned (.int k b) := by rw [h]
def Rfr (M : Mem) (w : World) (g : Nat) (s : RS) : Prop := Blk M w g #[.string (bs s.b), .int .i64 s.e] 33 ∧ s.b.length ≤ 9223372036854775807
theorem Rfr.nx {S : List (Option Nat)} {M M' : Mem} {w w' : World} {g : Nat} {s : RS} (h : Rfr M w g s) (n : Nx S M w M' w') (hg : some g ∉ S) : Rfr M' w' g s := ⟨h.1.nx n hg, h.2⟩
theorem Rfr.open {M : Mem} {w : World} {g : Nat} {b : List UInt8} {e : Int} (h : Rfr M w g ⟨b, e⟩) :
    w.cell? ⟨g, 0, none⟩ = some (.string (bs b)) ∧ w.cell? ⟨g, 1, none⟩ = some (.int .i64 e) ∧ w.frozen? ⟨g, 0, none⟩ = false ∧ w.frozen? ⟨g, 1, none⟩ = false ∧ b.length ≤ 9223372036854775807 :=
  ⟨h.1.cell 0, h.1.cell 1, h.1.frozen 0, h.1.frozen 1, h.2⟩
theorem Rfr.lt {M : Mem} {w : World} {g : Nat} {s : RS} (h : Rfr M w g s) : g < w.heap.size := h.1.lt

set_option maxHeartbeats 1000000 in
theorem RFail_any (M : Mem) (w : World) (g : Nat) (s : RS) (x : Int) (hok : Ok M w) (h : Rfr M w g s) :
    Calls Try.prog 29 #[.pointer (some ⟨g, 0, none⟩), .int .i64 x] w fun e w' => e = .returned (.tuple #[]) ∧ Nx [some g] M w M w' ∧ Rfr M w' g (s.fail x) := by
  obtain ⟨b, e⟩ := s
  obtain ⟨hc0, hc1, hf0, hf1, hlen⟩ := h.open
  have H := Lib.hid h; clear h
  by_cases h0 : e = 0
  · have h0' : (e == 0) = true := beq_iff_eq.2 h0
    by_cases hx : x = 0
    · have hx' : (x != 0) = false := by rw [bne_eq_false_iff_eq]; exact hx
      have HX := Lib.hid hx; have H0 := Lib.hid h0; clear hx h0
      go_enter Try.func29, Try.ntmps29
      go_wp2
      go_end0
      refine ⟨rfl, Nx.refl _ hok, ?_⟩
      have hs : RS.fail ⟨b, e⟩ x = ⟨b, e⟩ := by simp [RS.fail, HX.out]
      rw [hs]; exact H.out
    · have hx' : (x != 0) = true := by rw [bne_iff_ne]; exact hx
      have HX := Lib.hid hx; have H0 := Lib.hid h0; clear hx h0
      go_enter Try.func29, Try.ntmps29
      go_wp2
      go_end0
      have hs : RS.fail ⟨b, e⟩ x = ⟨[], x⟩ := by simp [RS.fail, HX.out, H0.out]
      rw [hs]
      have hb := H.out.1
      exact ⟨rfl, ((Nx.refl _ hok).setCell hb.free (fun _ => by simp) _).setCell hb.free (fun _ => by simp) _, (hb.set 1 (.int .i64 x)).set 0 (.string (bs [])), Nat.zero_le _⟩
  · have h0' : (e == 0) = false := beq_eq_false_iff_ne.2 h0
    have H0 := Lib.hid h0; clear h0
    go_enter Try.func29, Try.ntmps29
    go_wp2
    go_end0
    refine ⟨rfl, Nx.refl _ hok, ?_⟩
    rw [RS.fail_e _ _ H0.out]; exact H.out

set_option maxHeartbeats 1000000 in
theorem REnd_any (M : Mem) (w : World) (g : Nat) (s : RS) (h : Rfr M w g s) :
    Calls Try.prog 32 #[.pointer (some ⟨g, 0, none⟩)] w fun e w' => e = .returned (.int .i64 s.end_) ∧ w = w' := by
  obtain ⟨b, e⟩ := s
  obtain ⟨hc0, hc1, hf0, hf1, hlen⟩ := h.open
  clear h
  by_cases h0 : e = 0
  · have h0' : (e == 0) = true := beq_iff_eq.2 h0
    have H0 := Lib.hid h0; clear h0
    cases b with
    | nil =>
      have e1 : RS.end_ ⟨[], e⟩ = e := by simp [RS.end_]
      rw [e1]
      go_enter Try.func32, Try.ntmps32
      go_wp2
      go_ret
      exact ⟨rfl, rfl⟩
    | cons y l =>
      have e1 : RS.end_ ⟨y :: l, e⟩ = 2 := by simp only [RS.end_]; rw [if_pos ⟨H0.out, by simp⟩]
      rw [e1]
      go_enter Try.func32, Try.ntmps32
      go_wp2
      go_ret
      exact ⟨rfl, rfl⟩
  · have h0' : (e == 0) = false := beq_eq_false_iff_ne.2 h0
    have e1 : RS.end_ ⟨b, e⟩ = e := by simp only [RS.end_]; rw [if_neg (fun x => h0 x.1)]
    have H0 := Lib.hid h0; clear h0
    rw [e1]
    go_enter Try.func32, Try.ntmps32
    go_wp2
    go_ret
    exact ⟨rfl, rfl⟩

/-- What a run of bytes answers. -/
def RS.raw (s : RS) (n : Nat) : List UInt8 := (s.take n).1.getD []
set_option maxHeartbeats 1000000 in
theorem Raw_any (M : Mem) (w : World) (g n : Nat) (s : RS) (hn : n < 18446744073709551616) (hok : Ok M w) (h : Rfr M w g s) :
    Calls Try.prog 36 #[.pointer (some ⟨g, 0, none⟩), .int .u64 n] w fun e w' => e = .returned (.string (bs (s.raw n))) ∧ Nx [some g] M w M w' ∧ Rfr M w' g (s.take n).2 := by
  obtain ⟨b, e⟩ := s
  obtain ⟨hc0, hc1, hf0, hf1, hlen⟩ := h.open
  have H := Lib.hid h; clear h
  have hw := wrap_u64 (n := b.length) (by omega)
  by_cases h0 : e = 0
  · have h0' : (e != 0) = false := by rw [bne_eq_false_iff_eq]; exact h0
    by_cases hlt : b.length < n
    · have e1 : RS.take ⟨b, e⟩ n = (none, ⟨[], 1⟩) := by simp only [RS.take]; rw [if_neg (fun x => x h0), if_pos hlt]
      have e2 : RS.fail ⟨b, e⟩ 1 = ⟨[], 1⟩ := by simp [RS.fail, h0]
      have e3 : RS.raw ⟨b, e⟩ n = [] := by rw [RS.raw, e1]; rfl
      rw [e3, e1]
      have E2 := Lib.hid e2; clear e1 e2 e3 h0
      have HF := Lib.hid (RFail_any M w g ⟨b, e⟩ 1 hok H.out)
      go_enter Try.func36, Try.ntmps36
      go_wp2_with fail
      refine HF.out.mono ?_
      rintro _ w1 ⟨rfl, hn1, hr1⟩
      rw [E2.out] at hr1
      have HR1 := Lib.hid hr1
      obtain ⟨hc0', hc1', hf0', hf1', _⟩ := hr1.open
      clear hc0 hc1 hf0 hf1 hr1
      go_wp2
      go_ret
      exact ⟨rfl, hn1, HR1.out⟩
    · have e1 : RS.take ⟨b, e⟩ n = (some (b.take n), ⟨b.drop n, e⟩) := by simp only [RS.take]; rw [if_neg (fun x => x h0), if_neg hlt]
      have e3 : RS.raw ⟨b, e⟩ n = b.take n := by rw [RS.raw, e1]; rfl
      rw [e3, e1]
      have H0 := Lib.hid h0; clear e1 e3 h0
      go_enter Try.func36, Try.ntmps36
      go_wp2
      go_ret
      exact ⟨rfl, (Nx.refl _ hok).setCell H.out.1.free (fun _ => by simp) _, H.out.1.set 0 _, by simp; omega⟩
  · have e1 := RS.take_e ⟨b, e⟩ n h0
    have e2 := RS.fail_e ⟨b, e⟩ 1 h0
    have e3 : RS.raw ⟨b, e⟩ n = [] := by rw [RS.raw, e1]; rfl
    rw [e3, e1]
    have h0' : (e != 0) = true := by rw [bne_iff_ne]; exact h0
    have H0 := Lib.hid h0
    have E2 := Lib.hid e2; clear e1 e2 e3 h0
    have HF := Lib.hid (RFail_any M w g ⟨b, e⟩ 1 hok H.out)
    by_cases hlt : b.length < n
    · go_enter Try.func36, Try.ntmps36
      go_wp2_with fail
      refine HF.out.mono ?_
      rintro _ w1 ⟨rfl, hn1, hr1⟩
      rw [E2.out] at hr1
      have HR1 := Lib.hid hr1
      obtain ⟨hc0', hc1', hf0', hf1', _⟩ := hr1.open
      clear hc0 hc1 hf0 hf1 hr1
      go_wp2
      go_ret
      exact ⟨rfl, hn1, HR1.out⟩
    · go_enter Try.func36, Try.ntmps36
      go_wp2
      go_ret
      exact ⟨rfl, Nx.refl _ hok, H.out⟩

theorem numV_drop (l : List UInt8) (k : Nat) (h : k < l.length) : numV (l.drop k) = l[k].toNat + 256 * numV (l.drop (k + 1)) := by
  rw [List.drop_eq_getElem_cons h]; rfl
theorem raw_len (s : RS) (n : Nat) : (s.raw n).length ≤ n := by
  unfold RS.raw RS.take
  split
  · simp
  · split
    · simp
    · simp; omega
set_option maxHeartbeats 1000000 in
theorem RNum_any (M : Mem) (w : World) (g n : Nat) (s : RS) (hn : n ≤ 4) (hok : Ok M w) (h : Rfr M w g s) :
    Calls Try.prog 24 #[.pointer (some ⟨g, 0, none⟩), .int .u64 n] w fun e w' => e = .returned (.int .u64 (s.num n).1) ∧ Nx [some g] M w M w' ∧ Rfr M w' g (s.num n).2 := by
  have hlen := raw_len s n
  have hT := Raw_any M w g n s (by omega) hok h
  rw [show s.num n = (numV (s.raw n), (s.take n).2) from rfl]
  generalize (s.take n).2 = s2 at *
  generalize s.raw n = l at *
  have HT := Lib.hid hT; clear hT h
  go_enter Try.func24, Try.ntmps24
  go_wp2_with fail
  refine HT.out.mono ?_
  rintro _ w1 ⟨rfl, hn1, hr1⟩
  have HR1 := Lib.hid hr1; clear hr1
  go_wp2
  go_loop [6, 7] (fun u i => ∃ (k m : Nat), k ≤ l.length ∧ i = .int .i64 ((k : Int) - 1) ∧ m < 4294967296 ∧ Hid (m = numV (l.drop k)) ∧ u = .int .u64 m) (fun _ i => (intOf i + 1).toNat)
  case atStart => exact ⟨l.length, 0, Nat.le_refl _, rfl, by omega, by rw [List.drop_length]; rfl, rfl⟩
  case round =>
    obtain ⟨k, m, hk, rfl, hm, HV, rfl⟩ := hrel
    cases k with
    | zero =>
      have HV0 : Hid (m = numV l) := HV.out
      go_wp2
      go_ret
      exact ⟨by rw [HV0.out]; rfl, hn1, HR1.out⟩
    | succ k =>
      have hb := numV_lt (l.drop k)
      have hd := numV_drop l k (by omega)
      have hx8 := l[k].toNat_lt
      have hle : 256 ^ (l.drop k).length ≤ 256 ^ 4 := Nat.pow_le_pow_right (by decide) (by simp; omega)
      have hlt : l[k].toNat + 256 * m < 4294967296 := by rw [HV.out, ← hd]; exact Nat.lt_of_lt_of_le hb hle
      have HV2 : Hid (m * 256 + l[k].toNat = numV (l.drop k)) := by
        show m * 256 + l[k].toNat = numV (l.drop k)
        rw [hd, HV.out]; omega
      clear hb hd hle
      have hkl : k < l.length := by omega
      go_wp2
      exact ⟨⟨k, m * 256 + l[k].toNat, by omega, rfl, by omega, HV2, by go_num⟩, by simp [intOf]⟩

set_option maxHeartbeats 1000000 in
theorem RSum_any (w : World) (l : List UInt8) (hl : l.length ≤ 9223372036854775807) :
    Calls Try.prog 37 #[.string (bs l)] w fun e w' => e = .returned (.int .u32 (crc l)) ∧ w = w' := by
  go_enter Try.func37, Try.ntmps37
  go_wp2
  go_loop [3, 4] (fun v i => ∃ (k n : Nat), k ≤ l.length ∧ i = .int .i64 k ∧ n < 4294967296 ∧ Hid (n = crc0 (l.take k)) ∧ v = .int .u32 n) (fun _ i => l.length - (intOf i).toNat)
  case atStart => exact ⟨0, 4294967295, Nat.zero_le _, rfl, by omega, rfl, rfl⟩
  case round =>
    obtain ⟨k, n, hk, rfl, hn, HN, rfl⟩ := hrel
    by_cases hlt : k < l.length
    · have HS := Lib.hid (crc0_snoc l k hlt)
      have HB := Lib.hid (sumStep_bits n l[k])
      have hx8 := l[k].toNat_lt
      have hxor := xor_u32 (a := n) (b := l[k].toNat) hn (by omega)
      have hxl : n ^^^ l[k].toNat < 4294967296 := xor_lt32 hn (by omega)
      have HX : Hid (n ^^^ l[k].toNat = n ^^^ l[k].toNat) := rfl
      go_wp2
      go_loop [3, 5] (fun v j => ∃ (m z : Nat), m ≤ 8 ∧ j = .int .i64 m ∧ z < 4294967296 ∧ Hid (z = bitN m (n ^^^ l[k].toNat)) ∧ v = .int .u32 z) (fun _ j => 8 - (intOf j).toNat)
      case atStart => exact ⟨0, n ^^^ l[k].toNat, by omega, rfl, hxl, rfl, rfl⟩
      case round =>
        obtain ⟨m, z, hm, rfl, hz, HZ, rfl⟩ := hrel
        clear hxor hxl
        by_cases hm8 : m < 8
        · by_cases ho : z % 2 = 1
          · have hx := bit1_odd hz ho
            have ho' : ((z : Int) % 2 == 1) = true := beq_iff_eq.2 (by omega)
            have HO := Lib.hid ho; clear ho
            go_wp2
            exact ⟨⟨m + 1, bit1 z, by omega, by go_num, bit1_lt hz, by show bit1 z = _; rw [HZ.out]; rfl, rfl⟩, by simp [intOf]; omega⟩
          · have hx := bit1_even ho
            have ho' : ((z : Int) % 2 == 1) = false := beq_eq_false_iff_ne.2 (by omega)
            have HO := Lib.hid ho; clear ho
            go_wp2
            exact ⟨⟨m + 1, bit1 z, by omega, by go_num, bit1_lt hz, by show bit1 z = _; rw [HZ.out]; rfl, rfl⟩, by simp [intOf]; omega⟩
        · obtain rfl : m = 8 := by omega
          have hz8 : Hid (z = crc0 (l.take (k + 1))) := by
            show z = _
            rw [HS.out, ← HN.out, HB.out, HZ.out]
          go_wp2
          exact ⟨⟨k + 1, z, by omega, by go_num, hz, hz8, rfl⟩, by simp [intOf]; omega⟩
    · obtain rfl : k = l.length := by omega
      have hfin : Hid (crc l = 4294967295 - n) := by show crc l = _; unfold crc; rw [HN.out, List.take_length]
      go_wp2
      go_ret
      exact ⟨ret_int' (by rw [hfin.out]; omega), rfl⟩
end Go.Proofs.Ytlecedlondamiaa
