/-
  WireBursts, walked: true.
-/
import Derived.Test.YtlecedlondamiaaWAwake
import Derived.Test.YtlecedlondamiaaBurst
namespace Go.Proofs.Ytlecedlondamiaa
open Go.RowKit
set_option maxRecDepth 100000
set_option maxHeartbeats 1000000 in
theorem bursts_out (M : Mem) (w : World) (v : Value) (l : List UInt8) (p bits : Nat) (hok : Ok M w) (hv : RdB M v l) (h : l.length = 0 ∨ 600 < l.length ∨ bits = 0) (hbits : bits < 4294967296) :
    Calls Try.prog 3 #[v, .int .u16 p, .int .u32 bits] w fun e w' => e = .returned (.bool true) ∧ ∃ M', Nx [] M w M' w' := by
  obtain ⟨a, c, rfl, hlc, hcm, hc⟩ := hv
  unfold maxLen at hcm
  clear hc
  by_cases h0 : l.length = 0
  · have h0' : ((l.length : Int) == 0) = true := beq_iff_eq.2 (by omega)
    clear h
    have H0 := Lib.hid h0; clear h0
    go_enter Try.func3, Try.ntmps3
    go_wp2
    go_ret
    exact ⟨rfl, M, Nx.refl _ hok⟩
  · have h0' : ((l.length : Int) == 0) = false := beq_eq_false_iff_ne.2 (by omega)
    have H0 := Lib.hid h0; clear h0
    by_cases h1 : 600 < l.length
    · clear h
      go_enter Try.func3, Try.ntmps3
      go_wp2
      go_ret
      exact ⟨rfl, M, Nx.refl _ hok⟩
    · obtain rfl : bits = 0 := by have := H0.out; omega
      clear h
      go_enter Try.func3, Try.ntmps3
      go_wp2
      go_ret
      exact ⟨rfl, M, Nx.refl _ hok⟩
theorem shr_bit {n : Nat} (hn : n < 4294967296) (i : Nat) : bits .and .u32 ((n : Int) / 2 ^ i) 1 = ((n.testBit i).toNat : Int) := by
  have h := and1_u32 (a := n / 2 ^ i) (Nat.lt_of_le_of_lt (Nat.div_le_self _ _) hn)
  rw [← Nat.toNat_testBit n i] at h
  rw [← h]
  simp
set_option maxHeartbeats 1000000 in
theorem bursts_in (M : Mem) (w : World) (v : Value) (l : List UInt8) (p bits : Nat) (hok : Ok M w) (hv : RdB M v l) (h0 : 0 < l.length) (h6 : l.length ≤ 600) (hb0 : 0 < bits) (hbits : bits < 4294967296) (hp : p < 65536) :
    Calls Try.prog 3 #[v, .int .u16 p, .int .u32 bits] w fun e w' => e = .returned (.bool true) ∧ ∃ M', Nx [] M w M' w' := by
  have hv0 := hv
  obtain ⟨a, c, rfl, hlc, hcm, hc⟩ := hv
  unfold maxLen at hcm
  have HC := Lib.hid hc; clear hc
  have HV := Lib.hid hv0; clear hv0
  have h0' : ((l.length : Int) == 0) = false := beq_eq_false_iff_ne.2 (by omega)
  have hb0' : ((bits : Int) == 0) = false := beq_eq_false_iff_ne.2 (by omega)
  go_enter Try.func3, Try.ntmps3
  go_wp2_with (at_builtin; go_must (refine wpList_appR rfl _ _ 22 rfl 5 _ Try.underlying22 info_byte rfl (hok.alloc _) (Tip.made hok _ _) rfl HV.out rfl (by omega) ?_); intro v' w1 ht1 hn1 hof1)
  have hn2 : Nx [] M w M w1 := ((Nx.refl [] hok).alloc _).trans hn1 (fun x hx hl => by simp [Value.ownBlock] at hx; omega)
  obtain ⟨g, cap, cur, rfl, hcap, hcapm, hg, hcs, htk, hgw, hgf⟩ : ∃ g cap cur, v' = .slice (some ⟨g, 0, none⟩) l.length cap ∧ l.length ≤ cap ∧ Hid (cap ≤ maxLen) ∧ w1.heap[g]? = some (.cells cur 5 (0, 0)) ∧ cur.size = cap ∧ cur.toList.take l.length = l.map bv ∧ w.heap.size ≤ g ∧ (∀ o, M g o = none) := by
    rcases ht1.own.2 with ⟨rfl, h⟩ | ⟨g, cap, cur, rfl, _, hg, hnc, hcm, hcs, htk⟩
    · omega
    · have hgw : w.heap.size ≤ g := by
        rcases hof1 g rfl with h | h
        · simp [Value.ownBlock] at h; omega
        · simp at h; omega
      exact ⟨g, cap, cur, by rw [Nat.zero_add], by omega, hcm, hg, by omega, by simpa using htk, hgw, fun o => hok.none_ hgw o⟩
  clear hn1 hof1 ht1
  have hf0 : ((p : Int) % (8 * (l.length : Int))) = ((p % (8 * l.length) : Nat) : Int) := by simp
  simp only [hf0]
  clear hf0
  have hfl : p % (8 * l.length) < 8 * l.length := Nat.mod_lt _ (by omega)
  generalize p % (8 * l.length) = f at *
  have HB : Hid (∀ p, p < 8 * l.length → bitAt l p = bitAt l p) := fun _ _ => rfl
  go_loopw [9, 10] (fun tv iv W => ∃ (i : Nat) (cur : Array Value) (c : List UInt8), i ≤ 32 ∧ f + i ≤ 8 * l.length ∧ iv = .int .i64 i ∧ tv = .bool (decide (bits % 2 ^ i ≠ 0)) ∧ c.length = l.length ∧
    Hid (∀ p, p < 8 * l.length → bitAt c p = (bitAt l p ^^ (decide (f ≤ p ∧ p < f + i) && bits.testBit (p - f)))) ∧ W.heap[g]? = some (.cells cur 5 (0, 0)) ∧ Hid (cur.size = cap) ∧ Hid (cur.toList.take l.length = c.map bv) ∧ Nx [] M w M W) (fun _ i _ => 32 - (intOf i).toNat)
  case atStart => exact ⟨0, cur, l, by omega, by omega, rfl, by simp [Nat.mod_one], rfl, fun q _ => by rw [decide_eq_false (show ¬ (f ≤ q ∧ q < f + 0) by omega)]; simp, hg, hcs, htk, hn2⟩
  case round =>
    obtain ⟨i, cu, d, hi, hfi, rfl, rfl, hdl, HD, hgr, HCS, HTK, hnr⟩ := hrel
    by_cases hc : i < 32 ∧ f + i < 8 * l.length
    · obtain ⟨hi2, hfi2⟩ := hc
      have hmk : f + i < 8 * l.length := hfi2
      have hx := shr_bit hbits i
      obtain ⟨q, hq, HQ⟩ : ∃ q : Nat, ((f : Int) + i) / 8 = (q : Int) ∧ Hid (q = (f + i) / 8) := ⟨(f + i) / 8, by omega, rfl⟩
      obtain ⟨r, hr, HR⟩ : ∃ r : Nat, ((f : Int) + i) % 8 = (r : Int) ∧ Hid (r = (f + i) % 8) := ⟨(f + i) % 8, by omega, rfl⟩
      have hql : q < l.length := by have := HQ.out; omega
      have hr8 : r < 8 := by have := HR.out; omega
      cases hbit : bits.testBit i
      · rw [hbit] at hx
        have HBIT := Lib.hid hbit; clear hbit
        simp only [Bool.toNat_false, Int.natCast_zero] at hx
        go_wp2
        refine ⟨⟨i + 1, cu, d, by omega, by omega, by go_num, ?_, hdl, fun m hm => ?_, hgr, HCS, HTK, hnr⟩, by simp [intOf]; omega⟩
        · rw [low_step HBIT.out]; simp
        · rw [HD.out m hm]
          congr 1
          by_cases e : m = f + i
          · subst e
            rw [Nat.add_sub_cancel_left, HBIT.out]; simp
          · have e3 : decide (f ≤ m ∧ m < f + i) = decide (f ≤ m ∧ m < f + (i + 1)) := decide_eq_decide.2 (by omega)
            rw [e3]
      · rw [hbit] at hx
        have HBIT := Lib.hid hbit; clear hbit
        simp only [Bool.toNat_true, Int.natCast_one] at hx
        have hqd : q < d.length := by omega
        have hcu : q < cu.size ∧ cu[q]? = some (bv (d.getD q 0)) := by
          have h1 : (cu.toList.take l.length)[q]? = (d.map bv)[q]? := by rw [HTK.out]
          rw [List.getElem?_take, if_pos hql, List.getElem?_map, List.getElem?_eq_getElem hqd] at h1
          have h2 : cu[q]? = some (bv d[q]) := by simpa using h1
          exact ⟨(Array.getElem?_eq_some_iff.1 h2).1, by rw [h2, List.getD_eq_getElem?_getD, List.getElem?_eq_getElem hqd]; rfl⟩
        have hcell : wr.cell? ⟨g, q, none⟩ = some (.int .u8 ((d.getD q 0).toNat)) := by rw [cell_of_row _ _ _ _ _ _ hgr, hcu.2]; rfl
        have hfr : wr.frozen? ⟨g, q, none⟩ = false := by simp [World.frozen?, hgr]
        have h2r : 2 ^ r < 2 ^ 8 := Nat.pow_lt_pow_right (by decide) hr8
        have hval : Go.bits .xor .u8 (((d.getD q 0).toNat : Nat) : Int) (2 ^ r % 256) = (((d.getD q 0 ^^^ UInt8.ofNat (2 ^ r)).toNat : Nat) : Int) := by
          have h3 := xor_u8 (a := (d.getD q 0).toNat) (b := 2 ^ r) (d.getD q 0).toNat_lt h2r
          rw [UInt8.toNat_xor, UInt8.toNat_ofNat', Nat.mod_eq_of_lt h2r, ← h3]
          congr 1
          have h4 : ((2 : Int) ^ r) = ((2 ^ r : Nat) : Int) := by simp
          rw [h4]
          generalize 2 ^ r = z at *
          omega
        have HVAL := Lib.hid hval; clear hval
        have HCU := Lib.hid hcu; clear hcu
        generalize hxd : d.getD q 0 = x at *
        have HXD := Lib.hid hxd; clear hxd
        go_wp2
        go_region
        rw [HVAL.out]
        go_wp2
        refine ⟨⟨i + 1, cu.setIfInBounds q (bv (x ^^^ UInt8.ofNat (2 ^ r))), d.set q (x ^^^ UInt8.ofNat (2 ^ r)), by omega, by omega, by go_num, ?_, by simp [hdl], fun m hm => ?_, ?_, ?_, ?_, ?_⟩, by simp [intOf]; omega⟩
        · simp [low_one HBIT.out]
        · have hb := flip_bit d (f + i) m (by omega)
          rw [← HQ.out, ← HR.out, HXD.out] at hb
          rw [hb, HD.out m hm, Bool.xor_assoc]
          congr 1
          by_cases e : m = f + i
          · subst e
            rw [Nat.add_sub_cancel_left, HBIT.out]; simp
          · have e3 : decide (f ≤ m ∧ m < f + i) = decide (f ≤ m ∧ m < f + (i + 1)) := decide_eq_decide.2 (by omega)
            rw [e3]
            simp [e]
        · exact heap_setCell_same wr g q cu _ _ hgr
        · show (cu.setIfInBounds q _).size = cap
          rw [Array.size_setIfInBounds]; exact HCS.out
        · show (cu.setIfInBounds q _).toList.take l.length = _
          rw [Array.toList_setIfInBounds, List.take_set, HTK.out, List.map_set]
        · exact (hnr.setCell hgf (fun h => by simp at h; omega) _).drew
    · have hend : ∀ m, m < 8 * l.length → bitAt d m = (bitAt l m ^^ (decide (f ≤ m) && bits.testBit (m - f))) := fun m hm => by
        rw [HD.out m hm]
        congr 1
        by_cases e : f ≤ m
        · by_cases e2 : m < f + i
          · simp [e, e2]
          · have hi32 : i = 32 := by omega
            have : bits.testBit (m - f) = false := Nat.testBit_lt_two_pow (Nat.lt_of_lt_of_le hbits (Nat.pow_le_pow_right (by decide) (by omega) : 2 ^ 32 ≤ 2 ^ (m - f)))
            simp [this]
        · simp [e]
      have hlast : crc d = crc l → bits % 2 ^ i = 0 := fun he => by
        have h1 := burst hdl (Nat.le_of_lt hfl) hbits hend he
        by_cases e : f + i = 8 * l.length
        · rwa [← e, Nat.add_sub_cancel_left] at h1
        · have hi32 : i = 32 := by omega
          subst hi32
          rw [Nat.mod_eq_of_lt hbits]
          rwa [Nat.mod_eq_of_lt (Nat.lt_of_lt_of_le hbits (Nat.pow_le_pow_right (by decide) (by omega) : 2 ^ 32 ≤ 2 ^ (8 * l.length - f)))] at h1
      have HL := Lib.hid hlast; clear hlast
      have HE := Lib.hid hend; clear hend
      have hnS := hnr.keep g l.length (fun h => by omega)
      have hrd : RdB (M.keep wr g l.length) (.slice (some ⟨g, 0, none⟩) l.length cap) d := by
        rw [← hdl]
        refine RdB.of_cells (fun j x hx => ?_) (by omega) ?_
        · have hj : j < d.length := (List.getElem?_eq_some_iff.1 hx).1
          rw [Nat.zero_add, hdl, keep_at (by omega), cell_of_row _ _ _ _ _ _ hgr]
          have h1 : (cu.toList.take l.length)[j]? = (d.map bv)[j]? := by rw [HTK.out]
          rw [List.getElem?_take, if_pos (by omega), List.getElem?_map, hx] at h1
          simpa using h1
        · exact hcapm.out
      have HRD := Lib.hid hrd; clear hrd
      have HNS := Lib.hid hnS; clear hnS
      have hstop : Hid ((i < 32 → ¬ ((f : Int) + i < 8 * (l.length : Int)))) := fun h h2 => hc ⟨h, by omega⟩
      clear hc
      by_cases hz : bits % 2 ^ i = 0
      · have HZ := Lib.hid hz; clear hz
        have hz' : decide (bits % 2 ^ i = 0) = true := decide_eq_true HZ.out
        by_cases h32 : i < 32
        · have hge := hstop.out h32
          go_wp2_with (go_at_call 7; go_must (refine (awake1_any _ _ hnr.ok).mono ?_); rintro e w2 ⟨rfl, M2, hn3⟩)
          go_ret
          exact ⟨rfl, M2, hnr.trans hn3 (by simp)⟩
        · go_wp2_with (go_at_call 7; go_must (refine (awake1_any _ _ hnr.ok).mono ?_); rintro e w2 ⟨rfl, M2, hn3⟩)
          go_ret
          exact ⟨rfl, M2, hnr.trans hn3 (by simp)⟩
      · have HZ := Lib.hid hz; clear hz
        have hz' : decide (bits % 2 ^ i = 0) = false := decide_eq_false HZ.out
        have hne : ((crc d : Int) != (crc l : Int)) = true := by rw [bne_iff_ne]; intro e; exact HZ.out (HL.out (by omega))
        by_cases h32 : i < 32
        · have hge := hstop.out h32
          go_wp2_with fail
          refine (Sum_any _ _ _ _ HNS.out.ok HRD.out).mono ?_
          rintro e w2 ⟨rfl, hn3⟩
          go_wp2_with fail
          refine (Sum_any _ _ _ _ hn3.ok (HV.out.mono HNS.out.le)).mono ?_
          rintro e w3 ⟨rfl, hn4⟩
          go_wp2_with (go_at_call 7; go_must (refine (awake1_any _ _ hn4.ok).mono ?_); rintro e w4 ⟨rfl, M2, hn5⟩)
          go_ret
          exact ⟨rfl, M2, HNS.out.trans (hn3.trans (hn4.trans hn5 (by simp)) (by simp)) (by simp)⟩
        · go_wp2_with fail
          refine (Sum_any _ _ _ _ HNS.out.ok HRD.out).mono ?_
          rintro e w2 ⟨rfl, hn3⟩
          go_wp2_with fail
          refine (Sum_any _ _ _ _ hn3.ok (HV.out.mono HNS.out.le)).mono ?_
          rintro e w3 ⟨rfl, hn4⟩
          go_wp2_with (go_at_call 7; go_must (refine (awake1_any _ _ hn4.ok).mono ?_); rintro e w4 ⟨rfl, M2, hn5⟩)
          go_ret
          exact ⟨rfl, M2, HNS.out.trans (hn3.trans (hn4.trans hn5 (by simp)) (by simp)) (by simp)⟩
end Go.Proofs.Ytlecedlondamiaa
