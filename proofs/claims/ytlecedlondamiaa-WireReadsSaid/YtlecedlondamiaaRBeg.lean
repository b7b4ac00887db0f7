/-
  What the first region of WireReads makes, whichever order is drawn: two readers and two variables.
-/
import Derived.Test.YtlecedlondamiaaRAsk2
import Derived.Test.YtlecedlondamiaaRel
namespace Go.Proofs.Ytlecedlondamiaa
open Go.RowKit
set_option maxRecDepth 100000
set_option linter.unusedVariables false
def pb (a : Act) (b : Bool) (t : Nat) (v : Value) : Act := if b = true then a.put (some t) v else a
structure Beg (M : Mem) (w0 : World) (s : RS) (b1 b5 b6 b7 b8 b9 : Bool) (g h p q : Nat) (w : World) : Prop where
  n : Nx [] M w0 M w
  r : b1 = true → Rdr M w g s ∧ w0.heap.size ≤ g
  f : b5 = true → Rfr M w h s ∧ w0.heap.size ≤ h
  p : b6 = true → Blk M w p #[if b8 = true then .pointer (some ⟨g, 0, none⟩) else .pointer none] 29 ∧ w0.heap.size ≤ p
  q : b7 = true → Blk M w q #[if b9 = true then .pointer (some ⟨h, 0, none⟩) else .pointer none] 31 ∧ w0.heap.size ≤ q
  d8 : b8 = true → b1 = true ∧ b6 = true
  d9 : b9 = true → b5 = true ∧ b7 = true ∧ b8 = true
def BegI (M : Mem) (w0 : World) (s : RS) (a0 : Act) (l : Array Bool) (a : Act) (w : World) : Prop :=
  ∃ b1 b5 b6 b7 b8 b9 g h p q, l = #[true, b1, true, true, true, b5, b6, b7, b8, b9] ∧ a = pb (pb (pb (pb a0 b1 20 (.pointer (some ⟨g, 0, none⟩))) b5 24 (.pointer (some ⟨h, 0, none⟩))) b6 5 (.pointer (some ⟨p, 0, none⟩))) b7 6 (.pointer (some ⟨q, 0, none⟩)) ∧ Beg M w0 s b1 b5 b6 b7 b8 b9 g h p q w
theorem Beg.nx {M : Mem} {w0 w1 w2 : World} {s : RS} {b1 b5 b6 b7 b8 b9 : Bool} {g h p q : Nat} (hb : Beg M w0 s b1 b5 b6 b7 b8 b9 g h p q w1) (n : Nx [] M w1 M w2) : Beg M w0 s b1 b5 b6 b7 b8 b9 g h p q w2 :=
  ⟨hb.n.trans n (by simp), fun e => ⟨(hb.r e).1.nx n (by simp), (hb.r e).2⟩, fun e => ⟨(hb.f e).1.nx n (by simp), (hb.f e).2⟩, fun e => ⟨(hb.p e).1.nx n (by simp), (hb.p e).2⟩, fun e => ⟨(hb.q e).1.nx n (by simp), (hb.q e).2⟩, hb.d8, hb.d9⟩
theorem Beg.s1 {M : Mem} {w0 w1 w2 : World} {s : RS} {b5 b6 b7 : Bool} {g h p q g' : Nat} (hb : Beg M w0 s false b5 b6 b7 false false g h p q w1) (n : Nx [] M w1 M w2) (hg : w1.heap.size ≤ g') (hr : Rdr M w2 g' s) : Beg M w0 s true b5 b6 b7 false false g' h p q w2 :=
  have k := hb.nx n
  ⟨k.n, fun _ => ⟨hr, Nat.le_trans hb.n.upd.size hg⟩, k.f, k.p, k.q, nofun, nofun⟩
theorem Beg.s5 {M : Mem} {w0 w1 : World} {s : RS} {b1 b6 b7 b8 : Bool} {g h p q : Nat} (hb : Beg M w0 s b1 false b6 b7 b8 false g h p q w1) (hs : s.e = 0) (hl : s.b.length ≤ 9223372036854775807) : Beg M w0 s b1 true b6 b7 b8 false g w1.heap.size p q (w1.alloc (.cells #[.string (bs s.b), .int .i64 0] 33)) :=
  have k := hb.nx ((Nx.refl [] hb.n.ok).alloc (.cells #[.string (bs s.b), .int .i64 0] 33))
  ⟨k.n, k.r, fun _ => ⟨⟨by rw [hs]; exact Blk.new hb.n.ok _ _, hl⟩, hb.n.upd.size⟩, k.p, k.q, hb.d8, nofun⟩
theorem Beg.s6 {M : Mem} {w0 w1 : World} {s : RS} {b1 b5 b7 : Bool} {g h p q : Nat} (hb : Beg M w0 s b1 b5 false b7 false false g h p q w1) : Beg M w0 s b1 b5 true b7 false false g h w1.heap.size q (w1.alloc (.cells #[.pointer none] 29)) :=
  have k := hb.nx ((Nx.refl [] hb.n.ok).alloc (.cells #[.pointer none] 29))
  ⟨k.n, k.r, k.f, fun _ => ⟨by simpa using Blk.new hb.n.ok _ _, hb.n.upd.size⟩, k.q, nofun, nofun⟩
theorem Beg.s7 {M : Mem} {w0 w1 : World} {s : RS} {b1 b5 b6 b8 : Bool} {g h p q : Nat} (hb : Beg M w0 s b1 b5 b6 false b8 false g h p q w1) : Beg M w0 s b1 b5 b6 true b8 false g h p w1.heap.size (w1.alloc (.cells #[.pointer none] 31)) :=
  have k := hb.nx ((Nx.refl [] hb.n.ok).alloc (.cells #[.pointer none] 31))
  ⟨k.n, k.r, k.f, k.p, fun _ => ⟨by simpa using Blk.new hb.n.ok _ _, hb.n.upd.size⟩, hb.d8, nofun⟩
theorem Beg.s8 {M : Mem} {w0 w1 : World} {s : RS} {b5 b7 : Bool} {g h p q : Nat} (hb : Beg M w0 s true b5 true b7 false false g h p q w1) : Beg M w0 s true b5 true b7 true false g h p q (w1.setCell ⟨p, 0, none⟩ (.pointer (some ⟨g, 0, none⟩))) := by
  obtain ⟨hp, hpl⟩ := hb.p rfl
  have n := (Nx.refl [some p] hb.n.ok).setCell (p := ⟨p, 0, none⟩) hp.free (fun _ => by simp) (.pointer (some ⟨g, 0, none⟩))
  obtain ⟨hr, hg⟩ := hb.r rfl
  have hr2 := hr
  obtain ⟨vb, hbg, _⟩ := hr2
  refine ⟨hb.n.setCell hp.free (fun h => by simp at h; omega) _, fun _ => ⟨hr.nx n (by simp; exact Ne.symm (hp.ne hbg (by decide))), hg⟩, fun e => ⟨(hb.f e).1.nx n (by simp; exact Ne.symm (hp.ne (hb.f e).1.1 (by decide))), (hb.f e).2⟩, fun _ => ⟨hp.set 0 _, hpl⟩, fun e => ⟨(hb.q e).1.nx n (by simp; exact Ne.symm (hp.ne (hb.q e).1 (by decide))), (hb.q e).2⟩, fun _ => ⟨rfl, rfl⟩, nofun⟩
theorem Beg.s9 {M : Mem} {w0 w1 : World} {s : RS} {g h p q : Nat} (hb : Beg M w0 s true true true true true false g h p q w1) : Beg M w0 s true true true true true true g h p q (w1.setCell ⟨q, 0, none⟩ (.pointer (some ⟨h, 0, none⟩))) := by
  obtain ⟨hp, hpl⟩ := hb.q rfl
  have n := (Nx.refl [some q] hb.n.ok).setCell (p := ⟨q, 0, none⟩) hp.free (fun _ => by simp) (.pointer (some ⟨h, 0, none⟩))
  obtain ⟨hr, hg⟩ := hb.r rfl
  have hr2 := hr
  obtain ⟨vb, hbg, _⟩ := hr2
  refine ⟨hb.n.setCell hp.free (fun h => by simp at h; omega) _, fun _ => ⟨hr.nx n (by simp; exact Ne.symm (hp.ne hbg (by decide))), hg⟩, fun e => ⟨(hb.f e).1.nx n (by simp; exact Ne.symm (hp.ne (hb.f e).1.1 (by decide))), (hb.f e).2⟩, fun e => ⟨(hb.p e).1.nx n (by simp; exact Ne.symm (hp.ne (hb.p e).1 (by decide))), (hb.p e).2⟩, fun _ => ⟨hp.set 0 _, hpl⟩, fun _ => ⟨rfl, rfl⟩, fun _ => ⟨rfl, rfl, rfl⟩⟩
end Go.Proofs.Ytlecedlondamiaa
