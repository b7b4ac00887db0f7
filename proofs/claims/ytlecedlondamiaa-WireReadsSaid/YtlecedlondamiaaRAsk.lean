/-
  shuttlecocklaw01.stands and asked, walked.
-/
import Derived.Test.YtlecedlondamiaaWSec
import Derived.Test.YtlecedlondamiaaRRef3
import Derived.Deep.RegionHeld3
import Derived.Deep.QuietTactic
import Derived.BigQuiet
namespace Go.Proofs.Ytlecedlondamiaa
open Go.RowKit
set_option maxRecDepth 100000
set_option linter.unusedVariables false
theorem Blk.ne {M M' : Mem} {w : World} {g g' : Nat} {cs cs' : Array Value} {t t' : TypeId} (h : Blk M w g cs t) (h' : Blk M' w g' cs' t') (ht : t ≠ t') : g ≠ g' := by
  rintro rfl
  have := h.heap.symm.trans h'.heap
  simp only [Option.some.injEq, Obj.cells.injEq] at this
  exact ht this.2.1
theorem Rdr.drew {M : Mem} {w : World} {g : Nat} {s : RS} (h : Rdr M w g s) : Rdr M w.drew g s := by
  obtain ⟨vb, hb, hr⟩ := h
  exact ⟨vb, hb.drew, hr⟩
theorem Rfr.drew {M : Mem} {w : World} {g : Nat} {s : RS} (h : Rfr M w g s) : Rfr M w.drew g s := ⟨h.1.drew, h.2⟩
theorem Nx.cellk {S : List (Option Nat)} {M M' : Mem} {w w' : World} (h : Nx S M w M' w') {b o : Nat} {v : Value} (hc : w.cell? ⟨b, o, none⟩ = some v) (hs : some b ∉ S) : w'.cell? ⟨b, o, none⟩ = some v :=
  (World.cell?_of_block (w := w) (h.upd.block b (World.block_lt_of_cell? w _ hc) hs)).trans hc
theorem Rdr.ne {M M' : Mem} {w : World} {g h : Nat} {s t : RS} (hg : Rdr M w g s) (hh : Rfr M' w h t) : g ≠ h := by
  obtain ⟨vb, hb, _⟩ := hg
  exact hb.ne hh.1 (by decide)

theorem Rdr.drewN {M : Mem} {w : World} {g : Nat} {s : RS} (h : Rdr M w g s) (n : Nat) : Rdr M (w.drewN n) g s := by
  obtain ⟨vb, hb, hr⟩ := h
  exact ⟨vb, ⟨hb.heap, hb.free⟩, hr⟩
theorem Rfr.drewN {M : Mem} {w : World} {g : Nat} {s : RS} (h : Rfr M w g s) (n : Nat) : Rfr M (w.drewN n) g s := ⟨⟨h.1.heap, h.1.free⟩, h.2⟩
theorem quiet_eq {P : Program} {f : FuncId} {args : Array Value} {w : World} {n : Nat} {v : Value}
    (h : Calls P f args (w.drewN n) fun e w' => e = .returned v ∧ w.drewN n = w') : Calls P f args (w.drewN n) fun e w'' => e = .returned v ∧ ∃ m, w'' = w.drewN m :=
  h.mono fun _ _ ⟨he, hm⟩ => ⟨he, n, hm.symm⟩

set_option maxHeartbeats 2000000 in
theorem stands_any (M : Mem) (w : World) (g h : Nat) (s : RS) (hg : Rdr M w g s) (hh : Rfr M w h s) :
    Calls Try.prog 10 #[.pointer (some ⟨g, 0, none⟩), .pointer (some ⟨h, 0, none⟩)] w fun e w' => e = .returned (.bool true) ∧ ∃ n, w' = w.drewN n := by
  have H1 := Lib.hid (fun n => quiet_eq (Left_any M (w.drewN n) g s (hg.drewN n)))
  have H2 := Lib.hid (fun n => quiet_eq (Err_any M (w.drewN n) g s (hg.drewN n)))
  have H3 := Lib.hid (fun n => quiet_eq (End_any M (w.drewN n) g s (hg.drewN n)))
  have H4 := Lib.hid (fun n => quiet_eq (REnd_any M (w.drewN n) h s (hh.drewN n)))
  obtain ⟨b, e⟩ := s
  obtain ⟨hc0, hc1, hf0, hf1, hlen⟩ := hh.open
  clear hg hh
  go_enter Try.func10, Try.ntmps10
  go_wp2_with fail
  go_quiet ((first | (go_at_call 30; exact H1.out _) | (go_at_call 31; exact H2.out _) | (go_at_call 17; exact H3.out _) | (go_at_call 32; exact H4.out _)))
  go_wp2
  go_ret
  exact ⟨rfl, _, rfl⟩

/-- The two readers, and the two variables that point to them. -/
structure Pair (M : Mem) (w : World) (pr pw g h : Nat) (s : RS) : Prop where
  vr : Blk M w pr #[.pointer (some ⟨g, 0, none⟩)] 29
  vw : Blk M w pw #[.pointer (some ⟨h, 0, none⟩)] 31
  r : Rdr M w g s
  w : Rfr M w h s
theorem Pair.ne {M : Mem} {w : World} {pr pw g h : Nat} {s : RS} (p : Pair M w pr pw g h s) : pr ≠ pw ∧ pr ≠ g ∧ pr ≠ h ∧ pw ≠ g ∧ pw ≠ h ∧ g ≠ h := by
  obtain ⟨vb, hb, _⟩ := p.r
  exact ⟨p.vr.ne p.vw (by decide), p.vr.ne hb (by decide), p.vr.ne p.w.1 (by decide), p.vw.ne hb (by decide), p.vw.ne p.w.1 (by decide), hb.ne p.w.1 (by decide)⟩
theorem Pair.nx {S : List (Option Nat)} {M M' : Mem} {w w' : World} {pr pw g h : Nat} {s : RS} (p : Pair M w pr pw g h s) (n : Nx S M w M' w') (hs : some pr ∉ S ∧ some pw ∉ S ∧ some g ∉ S ∧ some h ∉ S) : Pair M' w' pr pw g h s :=
  ⟨p.vr.nx n hs.1, p.vw.nx n hs.2.1, p.r.nx n hs.2.2.1, p.w.nx n hs.2.2.2⟩



set_option maxHeartbeats 2000000 in
theorem asked0 (M : Mem) (w : World) (pr pw g h dd most : Nat) (s : RS) (hok : Ok M w) (p : Pair M w pr pw g h s) (hd : dd % 8 = 0) (hd2 : dd < 256) (hmost : most < 18446744073709551616) :
    Calls Try.prog 9 #[.pointer (some ⟨pr, 0, none⟩), .pointer (some ⟨pw, 0, none⟩), .agg #[.int .u8 dd, .int .u64 most]] w fun e w' => e = .returned (.bool true) ∧ ∃ s', Nx [some g, some h] M w M w' ∧ Pair M w' pr pw g h s' := by
  obtain ⟨n1, n2, n3, n4, n5, n6⟩ := p.ne
  have c1 : w.cell? ⟨pr, 0, none⟩ = some (.pointer (some ⟨g, 0, none⟩)) := p.vr.cell 0
  have c2 : w.cell? ⟨pw, 0, none⟩ = some (.pointer (some ⟨h, 0, none⟩)) := p.vw.cell 0
  have l1 := p.vr.lt
  have l2 := p.vw.lt
  have l3 := p.r.lt
  have l4 := p.w.lt
  have hm : (dd : Int) % 8 = 0 := by omega
  obtain ⟨⟨m, t⟩, hmt⟩ : ∃ mt, mt = s.num 1 := ⟨_, rfl⟩
  have hlt := num_lt s 1
  rw [← hmt] at hlt
  have hww := wrap_u64 (n := m) (by simp only at hlt; omega)
  clear hlt
  have hA : Nx [] M w M (w.alloc (.cells #[.int .u8 dd, .int .u64 most] 38)).drew := ((Nx.refl [] hok).alloc _).drew
  have HA := Lib.hid hA; clear hA
  have P := Lib.hid (p.nx HA.out (by simp)); clear p
  have H1 : Hid (Calls Try.prog 23 #[.pointer (some ⟨g, 0, none⟩)] (w.alloc (.cells #[.int .u8 dd, .int .u64 most] 38)).drew fun e w' => e = .returned (.int .u8 (m : Nat)) ∧ Nx [some g] M (w.alloc (.cells #[.int .u8 dd, .int .u64 most] 38)).drew M w' ∧ Rdr M w' g t) := by
    have hz := Byte_any M _ g s HA.out.ok P.out.r
    rw [← hmt] at hz
    exact hz
  have H2 : Hid (∀ W, Ok M W → Rfr M W h s → Calls Try.prog 24 #[.pointer (some ⟨h, 0, none⟩), .int .u64 1] W fun e w' => e = .returned (.int .u64 (m : Nat)) ∧ Nx [some h] M W M w' ∧ Rfr M w' h t) := fun W k1 k2 => by
    have hz := RNum_any M W h 1 s (by omega) k1 k2
    rw [← hmt] at hz
    exact hz
  clear hmt
  go_enter Try.func9, Try.ntmps9
  go_wp2_with fail
  go_region_held3 (fun w' => w'.cell? ⟨pr, 0, none⟩ = some (.pointer (some ⟨g, 0, none⟩)) ∧ w'.cell? ⟨pw, 0, none⟩ = some (.pointer (some ⟨h, 0, none⟩)))
    (first | go_keep | (refine ⟨?_, ?_⟩ <;> (first | exact hn1.cellk (by simp [*]) (by simp; omega) | exact hn2.cellk (by simp [*]) (by simp; omega))))
    (first | (go_at_call 23; refine H1.out.mono ?_; rintro _ w1 ⟨rfl, hn1, hr1⟩) | (go_at_call 24; refine (H2.out w1 hn1.ok (P.out.w.nx hn1 (by simp; omega))).mono ?_; rintro _ w2 ⟨rfl, hn2, hr2⟩))
  go_wp2
  go_ret
  exact ⟨by simp, t, ((HA.out.weak (S' := [some g, some h]) (by simp)).trans hn1 (fun x hx _ => by simp at hx; simp [hx])).trans hn2 (fun x hx _ => by simp at hx; simp [hx]), ⟨(P.out.vr.nx hn1 (by simp; omega)).nx hn2 (by simp; omega), (P.out.vw.nx hn1 (by simp; omega)).nx hn2 (by simp; omega), hr1.nx hn2 (by simp; omega), hr2⟩⟩

set_option maxHeartbeats 2000000 in
theorem asked1 (M : Mem) (w : World) (pr pw g h dd most : Nat) (s : RS) (hok : Ok M w) (p : Pair M w pr pw g h s) (hd : dd % 8 = 1) (hd2 : dd < 256) (hmost : most < 18446744073709551616) :
    Calls Try.prog 9 #[.pointer (some ⟨pr, 0, none⟩), .pointer (some ⟨pw, 0, none⟩), .agg #[.int .u8 dd, .int .u64 most]] w fun e w' => e = .returned (.bool true) ∧ ∃ s', Nx [some g, some h] M w M w' ∧ Pair M w' pr pw g h s' := by
  obtain ⟨n1, n2, n3, n4, n5, n6⟩ := p.ne
  have c1 : w.cell? ⟨pr, 0, none⟩ = some (.pointer (some ⟨g, 0, none⟩)) := p.vr.cell 0
  have c2 : w.cell? ⟨pw, 0, none⟩ = some (.pointer (some ⟨h, 0, none⟩)) := p.vw.cell 0
  have l1 := p.vr.lt
  have l2 := p.vw.lt
  have l3 := p.r.lt
  have l4 := p.w.lt
  have hm : (dd : Int) % 8 = 1 := by omega
  obtain ⟨⟨m, t⟩, hmt⟩ : ∃ mt, mt = s.num 2 := ⟨_, rfl⟩
  have hlt := num_lt s 2
  rw [← hmt] at hlt
  have hww := wrap_u64 (n := m) (by simp only at hlt; omega)
  clear hlt
  have hA : Nx [] M w M (w.alloc (.cells #[.int .u8 dd, .int .u64 most] 38)).drew := ((Nx.refl [] hok).alloc _).drew
  have HA := Lib.hid hA; clear hA
  have P := Lib.hid (p.nx HA.out (by simp)); clear p
  have H1 : Hid (Calls Try.prog 18 #[.pointer (some ⟨g, 0, none⟩)] (w.alloc (.cells #[.int .u8 dd, .int .u64 most] 38)).drew fun e w' => e = .returned (.int .u16 (m : Nat)) ∧ Nx [some g] M (w.alloc (.cells #[.int .u8 dd, .int .u64 most] 38)).drew M w' ∧ Rdr M w' g t) := by
    have hz := U16_any M _ g s HA.out.ok P.out.r
    rw [← hmt] at hz
    exact hz
  have H2 : Hid (∀ W, Ok M W → Rfr M W h s → Calls Try.prog 24 #[.pointer (some ⟨h, 0, none⟩), .int .u64 2] W fun e w' => e = .returned (.int .u64 (m : Nat)) ∧ Nx [some h] M W M w' ∧ Rfr M w' h t) := fun W k1 k2 => by
    have hz := RNum_any M W h 2 s (by omega) k1 k2
    rw [← hmt] at hz
    exact hz
  clear hmt
  go_enter Try.func9, Try.ntmps9
  go_wp2_with fail
  go_region_held3 (fun w' => w'.cell? ⟨pr, 0, none⟩ = some (.pointer (some ⟨g, 0, none⟩)) ∧ w'.cell? ⟨pw, 0, none⟩ = some (.pointer (some ⟨h, 0, none⟩)))
    (first | go_keep | (refine ⟨?_, ?_⟩ <;> (first | exact hn1.cellk (by simp [*]) (by simp; omega) | exact hn2.cellk (by simp [*]) (by simp; omega))))
    (first | (go_at_call 18; refine H1.out.mono ?_; rintro _ w1 ⟨rfl, hn1, hr1⟩) | (go_at_call 24; refine (H2.out w1 hn1.ok (P.out.w.nx hn1 (by simp; omega))).mono ?_; rintro _ w2 ⟨rfl, hn2, hr2⟩))
  go_wp2
  go_ret
  exact ⟨by simp, t, ((HA.out.weak (S' := [some g, some h]) (by simp)).trans hn1 (fun x hx _ => by simp at hx; simp [hx])).trans hn2 (fun x hx _ => by simp at hx; simp [hx]), ⟨(P.out.vr.nx hn1 (by simp; omega)).nx hn2 (by simp; omega), (P.out.vw.nx hn1 (by simp; omega)).nx hn2 (by simp; omega), hr1.nx hn2 (by simp; omega), hr2⟩⟩

set_option maxHeartbeats 2000000 in
theorem asked2 (M : Mem) (w : World) (pr pw g h dd most : Nat) (s : RS) (hok : Ok M w) (p : Pair M w pr pw g h s) (hd : dd % 8 = 2) (hd2 : dd < 256) (hmost : most < 18446744073709551616) :
    Calls Try.prog 9 #[.pointer (some ⟨pr, 0, none⟩), .pointer (some ⟨pw, 0, none⟩), .agg #[.int .u8 dd, .int .u64 most]] w fun e w' => e = .returned (.bool true) ∧ ∃ s', Nx [some g, some h] M w M w' ∧ Pair M w' pr pw g h s' := by
  obtain ⟨n1, n2, n3, n4, n5, n6⟩ := p.ne
  have c1 : w.cell? ⟨pr, 0, none⟩ = some (.pointer (some ⟨g, 0, none⟩)) := p.vr.cell 0
  have c2 : w.cell? ⟨pw, 0, none⟩ = some (.pointer (some ⟨h, 0, none⟩)) := p.vw.cell 0
  have l1 := p.vr.lt
  have l2 := p.vw.lt
  have l3 := p.r.lt
  have l4 := p.w.lt
  have hm : (dd : Int) % 8 = 2 := by omega
  obtain ⟨⟨m, t⟩, hmt⟩ : ∃ mt, mt = s.num 4 := ⟨_, rfl⟩
  have hlt := num_lt s 4
  rw [← hmt] at hlt
  have hww := wrap_u64 (n := m) (by simp only at hlt; omega)
  clear hlt
  have hA : Nx [] M w M (w.alloc (.cells #[.int .u8 dd, .int .u64 most] 38)).drew := ((Nx.refl [] hok).alloc _).drew
  have HA := Lib.hid hA; clear hA
  have P := Lib.hid (p.nx HA.out (by simp)); clear p
  have H1 : Hid (Calls Try.prog 19 #[.pointer (some ⟨g, 0, none⟩)] (w.alloc (.cells #[.int .u8 dd, .int .u64 most] 38)).drew fun e w' => e = .returned (.int .u32 (m : Nat)) ∧ Nx [some g] M (w.alloc (.cells #[.int .u8 dd, .int .u64 most] 38)).drew M w' ∧ Rdr M w' g t) := by
    have hz := U32_any M _ g s HA.out.ok P.out.r
    rw [← hmt] at hz
    exact hz
  have H2 : Hid (∀ W, Ok M W → Rfr M W h s → Calls Try.prog 24 #[.pointer (some ⟨h, 0, none⟩), .int .u64 4] W fun e w' => e = .returned (.int .u64 (m : Nat)) ∧ Nx [some h] M W M w' ∧ Rfr M w' h t) := fun W k1 k2 => by
    have hz := RNum_any M W h 4 s (by omega) k1 k2
    rw [← hmt] at hz
    exact hz
  clear hmt
  go_enter Try.func9, Try.ntmps9
  go_wp2_with fail
  go_region_held3 (fun w' => w'.cell? ⟨pr, 0, none⟩ = some (.pointer (some ⟨g, 0, none⟩)) ∧ w'.cell? ⟨pw, 0, none⟩ = some (.pointer (some ⟨h, 0, none⟩)))
    (first | go_keep | (refine ⟨?_, ?_⟩ <;> (first | exact hn1.cellk (by simp [*]) (by simp; omega) | exact hn2.cellk (by simp [*]) (by simp; omega))))
    (first | (go_at_call 19; refine H1.out.mono ?_; rintro _ w1 ⟨rfl, hn1, hr1⟩) | (go_at_call 24; refine (H2.out w1 hn1.ok (P.out.w.nx hn1 (by simp; omega))).mono ?_; rintro _ w2 ⟨rfl, hn2, hr2⟩))
  go_wp2
  go_ret
  exact ⟨by simp, t, ((HA.out.weak (S' := [some g, some h]) (by simp)).trans hn1 (fun x hx _ => by simp at hx; simp [hx])).trans hn2 (fun x hx _ => by simp at hx; simp [hx]), ⟨(P.out.vr.nx hn1 (by simp; omega)).nx hn2 (by simp; omega), (P.out.vw.nx hn1 (by simp; omega)).nx hn2 (by simp; omega), hr1.nx hn2 (by simp; omega), hr2⟩⟩

set_option maxHeartbeats 2000000 in
theorem asked3 (M : Mem) (w : World) (pr pw g h dd most : Nat) (s : RS) (hok : Ok M w) (p : Pair M w pr pw g h s) (hd : dd % 8 = 3) (hd2 : dd < 256) (hmost : most < 18446744073709551616) :
    Calls Try.prog 9 #[.pointer (some ⟨pr, 0, none⟩), .pointer (some ⟨pw, 0, none⟩), .agg #[.int .u8 dd, .int .u64 most]] w fun e w' => e = .returned (.bool true) ∧ ∃ s', Nx [some g, some h] M w M w' ∧ Pair M w' pr pw g h s' := by
  obtain ⟨n1, n2, n3, n4, n5, n6⟩ := p.ne
  have c1 : w.cell? ⟨pr, 0, none⟩ = some (.pointer (some ⟨g, 0, none⟩)) := p.vr.cell 0
  have c2 : w.cell? ⟨pw, 0, none⟩ = some (.pointer (some ⟨h, 0, none⟩)) := p.vw.cell 0
  have l1 := p.vr.lt
  have l2 := p.vw.lt
  have l3 := p.r.lt
  have l4 := p.w.lt
  have hm : (dd : Int) % 8 = 3 := by omega
  obtain ⟨⟨m, t⟩, hmt⟩ : ∃ mt, mt = s.var most := ⟨_, rfl⟩
  have hA : Nx [] M w M (w.alloc (.cells #[.int .u8 dd, .int .u64 most] 38)).drew := ((Nx.refl [] hok).alloc _).drew
  have HA := Lib.hid hA; clear hA
  have P := Lib.hid (p.nx HA.out (by simp)); clear p
  have H1 : Hid (Calls Try.prog 20 #[.pointer (some ⟨g, 0, none⟩), .int .u64 most] (w.alloc (.cells #[.int .u8 dd, .int .u64 most] 38)).drew fun e w' => e = .returned (.int .u64 (m : Nat)) ∧ Nx [some g] M (w.alloc (.cells #[.int .u8 dd, .int .u64 most] 38)).drew M w' ∧ Rdr M w' g t) := by
    have hz := Var_any M _ g most s HA.out.ok P.out.r
    rw [← hmt] at hz
    exact hz
  have H2 : Hid (∀ W, Ok M W → Rfr M W h s → Calls Try.prog 25 #[.pointer (some ⟨h, 0, none⟩), .int .u64 most] W fun e w' => e = .returned (.int .u64 (m : Nat)) ∧ Nx [some h] M W M w' ∧ Rfr M w' h t) := fun W k1 k2 => by
    have hz := RVar_any M W h most s k1 k2
    rw [← hmt] at hz
    exact hz
  clear hmt
  go_enter Try.func9, Try.ntmps9
  go_wp2_with fail
  go_region_held3 (fun w' => w'.cell? ⟨pr, 0, none⟩ = some (.pointer (some ⟨g, 0, none⟩)) ∧ w'.cell? ⟨pw, 0, none⟩ = some (.pointer (some ⟨h, 0, none⟩)) ∧ w'.cell? ⟨w.heap.size, 1, none⟩ = some (.int .u64 most))
    (first | go_keep | (refine ⟨?_, ?_, ?_⟩ <;> (first | exact hn1.cellk (by simp [*]) (by simp; omega) | exact hn2.cellk (by simp [*]) (by simp; omega))))
    (first | (go_at_call 20; refine H1.out.mono ?_; rintro _ w1 ⟨rfl, hn1, hr1⟩) | (go_at_call 25; refine (H2.out w1 hn1.ok (P.out.w.nx hn1 (by simp; omega))).mono ?_; rintro _ w2 ⟨rfl, hn2, hr2⟩))
  go_wp2
  go_ret
  exact ⟨by simp, t, ((HA.out.weak (S' := [some g, some h]) (by simp)).trans hn1 (fun x hx _ => by simp at hx; simp [hx])).trans hn2 (fun x hx _ => by simp at hx; simp [hx]), ⟨(P.out.vr.nx hn1 (by simp; omega)).nx hn2 (by simp; omega), (P.out.vw.nx hn1 (by simp; omega)).nx hn2 (by simp; omega), hr1.nx hn2 (by simp; omega), hr2⟩⟩

set_option maxHeartbeats 2000000 in
theorem asked4 (M : Mem) (w : World) (pr pw g h dd most : Nat) (s : RS) (hok : Ok M w) (p : Pair M w pr pw g h s) (hd : dd % 8 = 4) (hd2 : dd < 256) (hmost : most < 18446744073709551616) :
    Calls Try.prog 9 #[.pointer (some ⟨pr, 0, none⟩), .pointer (some ⟨pw, 0, none⟩), .agg #[.int .u8 dd, .int .u64 most]] w fun e w' => e = .returned (.bool true) ∧ ∃ s', Nx [some g, some h] M w M w' ∧ Pair M w' pr pw g h s' := by
  obtain ⟨n1, n2, n3, n4, n5, n6⟩ := p.ne
  have c1 : w.cell? ⟨pr, 0, none⟩ = some (.pointer (some ⟨g, 0, none⟩)) := p.vr.cell 0
  have c2 : w.cell? ⟨pw, 0, none⟩ = some (.pointer (some ⟨h, 0, none⟩)) := p.vw.cell 0
  have l1 := p.vr.lt
  have l2 := p.vw.lt
  have l3 := p.r.lt
  have l4 := p.w.lt
  have hm : (dd : Int) % 8 = 4 := by omega
  obtain ⟨⟨m, t⟩, hmt⟩ : ∃ mt, mt = s.text most := ⟨_, rfl⟩
  have hA : Nx [] M w M (w.alloc (.cells #[.int .u8 dd, .int .u64 most] 38)).drew := ((Nx.refl [] hok).alloc _).drew
  have HA := Lib.hid hA; clear hA
  have P := Lib.hid (p.nx HA.out (by simp)); clear p
  have H1 : Hid (Calls Try.prog 21 #[.pointer (some ⟨g, 0, none⟩), .int .u64 most] (w.alloc (.cells #[.int .u8 dd, .int .u64 most] 38)).drew fun e w' => e = .returned (.string (bs m)) ∧ Nx [some g] M (w.alloc (.cells #[.int .u8 dd, .int .u64 most] 38)).drew M w' ∧ Rdr M w' g t) := by
    have hz := Text_any M _ g most s hmost HA.out.ok P.out.r
    rw [← hmt] at hz
    exact hz
  have H2 : Hid (∀ W, Ok M W → Rfr M W h s → Calls Try.prog 26 #[.pointer (some ⟨h, 0, none⟩), .int .u64 most] W fun e w' => e = .returned (.string (bs m)) ∧ Nx [some h] M W M w' ∧ Rfr M w' h t) := fun W k1 k2 => by
    have hz := RText_any M W h most s hmost k1 k2
    rw [← hmt] at hz
    exact hz
  clear hmt
  go_enter Try.func9, Try.ntmps9
  go_wp2_with fail
  go_region_held3 (fun w' => w'.cell? ⟨pr, 0, none⟩ = some (.pointer (some ⟨g, 0, none⟩)) ∧ w'.cell? ⟨pw, 0, none⟩ = some (.pointer (some ⟨h, 0, none⟩)) ∧ w'.cell? ⟨w.heap.size, 1, none⟩ = some (.int .u64 most))
    (first | go_keep | (refine ⟨?_, ?_, ?_⟩ <;> (first | exact hn1.cellk (by simp [*]) (by simp; omega) | exact hn2.cellk (by simp [*]) (by simp; omega))))
    (first | (go_at_call 21; refine H1.out.mono ?_; rintro _ w1 ⟨rfl, hn1, hr1⟩) | (go_at_call 26; refine (H2.out w1 hn1.ok (P.out.w.nx hn1 (by simp; omega))).mono ?_; rintro _ w2 ⟨rfl, hn2, hr2⟩))
  go_wp2
  go_ret
  exact ⟨by simp, t, ((HA.out.weak (S' := [some g, some h]) (by simp)).trans hn1 (fun x hx _ => by simp at hx; simp [hx])).trans hn2 (fun x hx _ => by simp at hx; simp [hx]), ⟨(P.out.vr.nx hn1 (by simp; omega)).nx hn2 (by simp; omega), (P.out.vw.nx hn1 (by simp; omega)).nx hn2 (by simp; omega), hr1.nx hn2 (by simp; omega), hr2⟩⟩
end Go.Proofs.Ytlecedlondamiaa
