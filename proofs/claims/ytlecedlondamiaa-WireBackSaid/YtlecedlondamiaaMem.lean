/-
  The memory words of these proofs: sealed cells ('Ok', 'Le'), what a call may have turned ('Upd', 'Nx'), rows that may be appended to ('Tip'), slices that are read ('RS').
-/
import Derived.Test.YtlecedlondamiaaRows
import Derived.WalkKit
import Derived.WalkSpells
import Derived.WalkLawsBesides
import Derived.Lib.Hide
namespace Go.Proofs.Ytlecedlondamiaa
open Go Go.RowKit

/-- What is known of cells that are written no more. -/
abbrev Mem := Nat → Nat → Option Value
structure Ok (M : Mem) (w : World) : Prop where
  cell : ∀ k o v, M k o = some v → w.cell? ⟨k, o, none⟩ = some v
def Le (M M' : Mem) : Prop := ∀ k o v, M k o = some v → M' k o = some v
theorem Le.refl (M : Mem) : Le M M := fun _ _ _ h => h
theorem Le.trans {A B C : Mem} (h : Le A B) (k : Le B C) : Le A C := fun _ _ _ e => k _ _ _ (h _ _ _ e)
/-- Blocks that are not in S are as they were. -/
structure Upd (S : List (Option Nat)) (w w' : World) : Prop where
  os : w'.os = w.os
  tape : w'.tape = w.tape
  output : w'.output = w.output
  size : w.heap.size ≤ w'.heap.size
  block : ∀ k, k < w.heap.size → some k ∉ S → w'.heap[k]? = w.heap[k]?
structure Nx (S : List (Option Nat)) (M : Mem) (w : World) (M' : Mem) (w' : World) : Prop where
  ok : Ok M' w'
  le : Le M M'
  upd : Upd S w w'
  own : ∀ k, k < w.heap.size → some k ∉ S → ∀ o, M' k o = M k o

theorem Upd.refl (S : List (Option Nat)) (w : World) : Upd S w w := ⟨rfl, rfl, rfl, Nat.le_refl _, fun _ _ _ => rfl⟩
theorem Upd.trans {S S1 : List (Option Nat)} {a b c : World} (h : Upd S a b) (k : Upd S1 b c) (hs : ∀ x, some x ∈ S1 → x < a.heap.size → some x ∈ S) : Upd S a c :=
  ⟨k.os.trans h.os, k.tape.trans h.tape, k.output.trans h.output, Nat.le_trans h.size k.size,
    fun i hi hn => (k.block i (Nat.lt_of_lt_of_le hi h.size) (fun e => hn (hs i e hi))).trans (h.block i hi hn)⟩
theorem Upd.below {w w' : World} (h : Upd [] w w') : Below w.heap.size w w' := ⟨h.os, h.tape, h.output, h.size, fun k hk => h.block k hk (by simp)⟩
theorem Ok.lt {M : Mem} {w : World} (h : Ok M w) {k o : Nat} {v : Value} (e : M k o = some v) : k < w.heap.size := World.block_lt_of_cell? w _ (h.cell k o v e)
theorem Ok.none_ {M : Mem} {w : World} (h : Ok M w) {k : Nat} (hk : w.heap.size ≤ k) (o : Nat) : M k o = none := by
  cases e : M k o with
  | none => rfl
  | some v => have := h.lt e; omega
theorem Ok.of_blocks {M : Mem} {w w' : World} (h : Ok M w) (hb : ∀ k o v, M k o = some v → w'.heap[k]? = w.heap[k]?) : Ok M w' :=
  ⟨fun k o v e => (World.cell?_of_block (w := w) (hb k o v e)).trans (h.cell k o v e)⟩
theorem Ok.alloc {M : Mem} {w : World} (h : Ok M w) (x : Obj) : Ok M (w.alloc x) := h.of_blocks fun _ _ _ e => Below.heap_alloc w x _ (h.lt e)
theorem Ok.drew {M : Mem} {w : World} (h : Ok M w) : Ok M w.drew := ⟨h.cell⟩
theorem Ok.drewN {M : Mem} {w : World} (h : Ok M w) (n : Nat) : Ok M (w.drewN n) := ⟨h.cell⟩
theorem Ok.setCell {M : Mem} {w : World} (h : Ok M w) {p : Addr} (hp : ∀ o, M p.block o = none) (u : Value) : Ok M (w.setCell p u) :=
  h.of_blocks fun k o v e => Below.heap_setCell w p u k (fun x => by subst x; rw [hp] at e; cases e)
theorem Ok.setRow {M : Mem} {w : World} (h : Ok M w) {g : Nat} (hp : ∀ o, M g o = none) (cs : Array Value) : Ok M (w.setRow g cs) :=
  h.of_blocks fun k o v e => setRow_other w g k cs (fun x => by subst x; rw [hp] at e; cases e)
theorem Upd.alloc {S : List (Option Nat)} {a w : World} (h : Upd S a w) (x : Obj) : Upd S a (w.alloc x) :=
  h.trans (S1 := []) ⟨rfl, rfl, rfl, by simp, fun k hk _ => Below.heap_alloc w x k hk⟩ (by simp)
theorem Upd.drew {S : List (Option Nat)} {a w : World} (h : Upd S a w) : Upd S a w.drew := ⟨h.os, h.tape, h.output, h.size, h.block⟩
theorem Upd.drewN {S : List (Option Nat)} {a w : World} (h : Upd S a w) (n : Nat) : Upd S a (w.drewN n) := ⟨h.os, h.tape, h.output, h.size, h.block⟩
theorem Upd.setCell {S : List (Option Nat)} {a w : World} (h : Upd S a w) {p : Addr} (hp : p.block < a.heap.size → some p.block ∈ S) (u : Value) : Upd S a (w.setCell p u) :=
  h.trans (S1 := [some p.block]) ⟨rfl, rfl, rfl, by simp [World.setCell], fun k _ hk => Below.heap_setCell w p u k (fun e => hk (by simp [e]))⟩ (by intro x hx hl; simp at hx; subst hx; exact hp hl)
theorem Upd.setRow {S : List (Option Nat)} {a w : World} (h : Upd S a w) {g : Nat} (hp : g < a.heap.size → some g ∈ S) (cs : Array Value) : Upd S a (w.setRow g cs) :=
  h.trans (S1 := [some g]) ⟨rfl, rfl, rfl, by simp, fun k _ hk => setRow_other w g k cs (fun e => hk (by simp [e]))⟩ (by intro x hx hl; simp at hx; subst hx; exact hp hl)

theorem Nx.refl {M : Mem} {w : World} (S : List (Option Nat)) (h : Ok M w) : Nx S M w M w := ⟨h, Le.refl _, Upd.refl _ _, fun _ _ _ _ => rfl⟩
theorem Nx.trans {S S1 : List (Option Nat)} {A B C : Mem} {a b c : World} (h : Nx S A a B b) (k : Nx S1 B b C c) (hs : ∀ x, some x ∈ S1 → x < a.heap.size → some x ∈ S) : Nx S A a C c :=
  ⟨k.ok, h.le.trans k.le, h.upd.trans k.upd hs, fun i hi hn o => (k.own i (Nat.lt_of_lt_of_le hi h.upd.size) (fun e => hn (hs i e hi)) o).trans (h.own i hi hn o)⟩
theorem Nx.upd' {S : List (Option Nat)} {A B : Mem} {a b c : World} (h : Nx S A a B b) (k : Upd S b c) (ok : Ok B c) : Nx S A a B c :=
  ⟨ok, h.le, h.upd.trans k (fun _ e _ => e), h.own⟩
theorem Nx.alloc {S : List (Option Nat)} {A B : Mem} {a b : World} (h : Nx S A a B b) (x : Obj) : Nx S A a B (b.alloc x) := ⟨h.ok.alloc x, h.le, h.upd.alloc x, h.own⟩
theorem Nx.drew {S : List (Option Nat)} {A B : Mem} {a b : World} (h : Nx S A a B b) : Nx S A a B b.drew := ⟨h.ok.drew, h.le, h.upd.drew, h.own⟩
theorem Nx.drewN {S : List (Option Nat)} {A B : Mem} {a b : World} (h : Nx S A a B b) (n : Nat) : Nx S A a B (b.drewN n) := ⟨h.ok.drewN n, h.le, h.upd.drewN n, h.own⟩
theorem Nx.setCell {S : List (Option Nat)} {A B : Mem} {a b : World} (h : Nx S A a B b) {p : Addr} (hb : ∀ o, B p.block o = none) (hp : p.block < a.heap.size → some p.block ∈ S) (u : Value) : Nx S A a B (b.setCell p u) :=
  ⟨h.ok.setCell hb u, h.le, h.upd.setCell hp u, h.own⟩
theorem Nx.weak {S S' : List (Option Nat)} {A B : Mem} {a b : World} (h : Nx S A a B b) (hs : ∀ x, some x ∈ S → x < a.heap.size → some x ∈ S') : Nx S' A a B b :=
  ⟨h.ok, h.le, ⟨h.upd.os, h.upd.tape, h.upd.output, h.upd.size, fun k hk hn => h.upd.block k hk (fun e => hn (hs k e hk))⟩, fun k hk hn => h.own k hk (fun e => hn (hs k e hk))⟩

/-- A block of our own: nothing of it is sealed. -/
structure Blk (M : Mem) (w : World) (g : Nat) (cs : Array Value) (t : TypeId) : Prop where
  heap : w.heap[g]? = some (.cells cs t (0, 0))
  free : ∀ o, M g o = none
theorem Blk.lt {M : Mem} {w : World} {g : Nat} {cs : Array Value} {t : TypeId} (h : Blk M w g cs t) : g < w.heap.size := (Array.getElem?_eq_some_iff.1 h.heap).1
theorem Blk.nx {S : List (Option Nat)} {M M' : Mem} {w w' : World} {g : Nat} {cs : Array Value} {t : TypeId} (h : Blk M w g cs t) (n : Nx S M w M' w') (hg : some g ∉ S) : Blk M' w' g cs t :=
  ⟨(n.upd.block g h.lt hg).trans h.heap, fun o => (n.own g h.lt hg o).trans (h.free o)⟩
theorem Blk.cell {M : Mem} {w : World} {g : Nat} {cs : Array Value} {t : TypeId} (h : Blk M w g cs t) (i : Nat) : w.cell? ⟨g, i, none⟩ = cs[i]? := cell_of_row w g i cs t (0, 0) h.heap
theorem Blk.frozen {M : Mem} {w : World} {g : Nat} {cs : Array Value} {t : TypeId} (h : Blk M w g cs t) (i : Nat) : w.frozen? ⟨g, i, none⟩ = false := by simp [World.frozen?, h.heap]
theorem Blk.set {M : Mem} {w : World} {g : Nat} {cs : Array Value} {t : TypeId} (h : Blk M w g cs t) (i : Nat) (u : Value) : Blk M (w.setCell ⟨g, i, none⟩ u) g (cs.setIfInBounds i u) t :=
  ⟨heap_setCell_same w g i cs t u h.heap, h.free⟩
theorem Blk.far {M : Mem} {w : World} {g : Nat} {cs : Array Value} {t : TypeId} (h : Blk M w g cs t) {p : Addr} (hp : g ≠ p.block) (u : Value) : Blk M (w.setCell p u) g cs t :=
  ⟨(Below.heap_setCell w p u g hp).trans h.heap, h.free⟩
theorem Blk.alloc {M : Mem} {w : World} {g : Nat} {cs : Array Value} {t : TypeId} (h : Blk M w g cs t) (x : Obj) : Blk M (w.alloc x) g cs t := ⟨(Below.heap_alloc w x g h.lt).trans h.heap, h.free⟩
theorem Blk.drew {M : Mem} {w : World} {g : Nat} {cs : Array Value} {t : TypeId} (h : Blk M w g cs t) : Blk M w.drew g cs t := ⟨h.heap, h.free⟩
theorem Blk.new {M : Mem} {w : World} (h : Ok M w) (cs : Array Value) (t : TypeId) : Blk M (w.alloc (.cells cs t)) w.heap.size cs t := ⟨heap_alloc_new w _, fun o => h.none_ (Nat.le_refl _) o⟩

/-- A row that may be appended to: behind its last element nothing is sealed. -/
structure Tip (M : Mem) (w : World) (e : TypeId) (sz : Nat) (v : Value) (n : Nat) (xs : List Value) : Prop where
  own : w.ownsRow 0 e sz v n xs
  free : ∀ g, v.ownBlock = some g → ∀ o, n * sz ≤ o → M g o = none
theorem Tip.nil (M : Mem) (w : World) (e : TypeId) (sz : Nat) : Tip M w e sz (.slice none 0 0) 0 [] := ⟨w.ownsRow_nil 0 e sz, fun g h => by simp [Value.ownBlock] at h⟩
theorem Tip.lt {M : Mem} {w : World} {e : TypeId} {sz n : Nat} {v : Value} {xs : List Value} (h : Tip M w e sz v n xs) {k : Nat} (hk : v.ownBlock = some k) : k < w.heap.size := (h.own.lt k hk).2
theorem Tip.nx {S : List (Option Nat)} {M M' : Mem} {w w' : World} {e : TypeId} {sz n : Nat} {v : Value} {xs : List Value} (h : Tip M w e sz v n xs) (x : Nx S M w M' w') (hv : v.ownBlock = none ∨ v.ownBlock ∉ S) : Tip M' w' e sz v n xs := by
  have key : ∀ g, v.ownBlock = some g → some g ∉ S := fun g hg => by rcases hv with h0 | h0 <;> simp_all
  refine ⟨⟨h.own.1, ?_⟩, fun g hg o ho => (x.own g (h.lt hg) (key g hg) o).trans (h.free g hg o ho)⟩
  rcases h.own.2 with hn | ⟨g, cap, cur, rfl, hb, hgg, rest⟩
  · exact .inl hn
  · exact .inr ⟨g, cap, cur, rfl, hb, (x.upd.block g (h.lt rfl) (key g rfl)).trans hgg, rest⟩
theorem Tip.alloc {M : Mem} {w : World} {e : TypeId} {sz n : Nat} {v : Value} {xs : List Value} (h : Tip M w e sz v n xs) (x : Obj) : Tip M (w.alloc x) e sz v n xs := ⟨h.own.alloc x, h.free⟩
theorem Tip.drew {M : Mem} {w : World} {e : TypeId} {sz n : Nat} {v : Value} {xs : List Value} (h : Tip M w e sz v n xs) : Tip M w.drew e sz v n xs := ⟨h.own, h.free⟩
theorem Tip.far {M : Mem} {w : World} {e : TypeId} {sz n : Nat} {v : Value} {xs : List Value} (h : Tip M w e sz v n xs) {p : Addr} (hp : some p.block ≠ v.ownBlock) (u : Value) : Tip M (w.setCell p u) e sz v n xs := by
  refine ⟨⟨h.own.1, ?_⟩, h.free⟩
  rcases h.own.2 with hn | ⟨g, cap, cur, rfl, hb, hgg, rest⟩
  · exact .inl hn
  · exact .inr ⟨g, cap, cur, rfl, hb, (Below.heap_setCell w p u g (fun e => hp (by simp [Value.ownBlock, e]))).trans hgg, rest⟩
theorem Tip.length {M : Mem} {w : World} {e : TypeId} {sz n : Nat} {v : Value} {xs : List Value} (h : Tip M w e sz v n xs) : xs.length = n * sz := h.own.1

/-- The row that was appended to, or a new one. -/
def Of (w : World) (v v' : Value) : Prop := ∀ b, v'.ownBlock = some b → v.ownBlock = some b ∨ w.heap.size ≤ b
theorem Of.refl (w : World) (v : Value) : Of w v v := fun _ h => .inl h
theorem Of.trans {a b : World} {u v x : Value} (h : Of a u v) (k : Of b v x) (hs : a.heap.size ≤ b.heap.size) : Of a u x := fun i hi => by
  rcases k i hi with h1 | h1
  · exact h i h1
  · exact .inr (Nat.le_trans hs h1)

theorem Nx.transOf {A B C : Mem} {a b c : World} {v u : Value} (h : Nx [v.ownBlock] A a B b) (hof : Of a v u) (k : Nx [u.ownBlock] B b C c) : Nx [v.ownBlock] A a C c :=
  h.trans k fun x hx hl => by
    have hx' : u.ownBlock = some x := by simpa using (List.mem_singleton.1 hx).symm
    rcases hof x hx' with h1 | h1
    · simp [h1]
    · omega

section
variable {P : Program} {M : Mem} {w : World}
/-- append(v, x..): the cells 'news' stand at 'a' in the world w. -/
theorem run_append_tip (t ty e : TypeId) (i : TypeInfo) (z : Value) (sz bytes : Nat) (ht : P.underlying t = some (.slice e)) (hi : P.info? e = some i) (hz : i.zero = some z)
    (hsize : i.size = sz) (hby : i.bytes = bytes) (hzs : z.cells.size = sz) (_hsz : 0 < sz)
    (hok : Ok M w) (v : Value) (n : Nat) (xs : List Value) (hown : Tip M w e sz v n xs)
    (a : Addr) (m c : Nat) (news : List Value) (hl : news.length = m * sz) (hnews : ∀ j u, news[j]? = some u → w.cell? (a.add j) = some u) (h1 : ∀ u ∈ news, u.oneCell' = true)
    (h63 : n + m ≤ maxLen) (hbytes : (n + m) * bytes ≤ 140737488355328) :
    ∃ v' w', (Builtin.append_ #[t, t] ty #[v, .slice (some a) m c]).run P w = .ok v' w' ∧ Tip M w' e sz v' (n + m) (xs ++ news) ∧ Nx [v.ownBlock] M w M w' ∧ Of w v v' := by
  subst hsize
  subst hby
  have hsmall : n + m ≤ 9223372036854775807 := by simp only [maxLen] at h63; omega
  have hlen : (xs ++ news).length = (n + m) * i.size := by rw [List.length_append, hown.length, hl, Nat.add_mul]
  have grown : ∀ (old : Nat), old < n + m →
      Tip M (w.drew.alloc (.cells (xs.toArray ++ news.toArray ++ Builtin.zeroCells z.cells (grownCap w (n + m) old e - (n + m))) e)) e i.size
        (.slice (some ⟨w.heap.size, 0, none⟩) (n + m) (grownCap w (n + m) old e)) (n + m) (xs ++ news) ∧
      Nx [v.ownBlock] M w M (w.drew.alloc (.cells (xs.toArray ++ news.toArray ++ Builtin.zeroCells z.cells (grownCap w (n + m) old e - (n + m))) e)) := by
    intro old ho
    have hge := grownCap_ge w (n + m) old e
    have hcm : grownCap w (n + m) old e ≤ maxLen := grownCap_le_maxLen w (n + m) old e h63
    refine ⟨⟨⟨hlen, .inr ⟨w.heap.size, _, _, rfl, Nat.zero_le _, heap_alloc_new w.drew _, hge, hcm, ?_, ?_⟩⟩, ?_⟩, ((Nx.refl _ hok).drew).alloc _⟩
    · simp only [Array.size_append, List.size_toArray, size_zeroCells, hzs, hown.length, hl, ← Nat.add_mul]
      congr 1
      omega
    · simp only [Array.toList_append, List.append_assoc]
      rw [← List.append_assoc, ← hlen]
      exact List.take_left
    · intro g hg o _
      simp [Value.ownBlock] at hg
      subst hg
      exact hok.none_ (Nat.le_refl _) o
  have hfresh : ∀ l c, Of w v (.slice (some ⟨w.heap.size, 0, none⟩) l c) := fun l c b hb => by
    simp [Value.ownBlock] at hb
    exact .inr (by omega)
  rcases hown.own.2 with ⟨rfl, rfl⟩ | ⟨g, cap, cur, rfl, hbg, hg, hnc, hcm, hcs, htake⟩
  · have hx : xs = [] := List.eq_nil_of_length_eq_zero (by simpa using hown.length)
    subst hx
    by_cases hm : m = 0
    · subst hm
      have hn : news = [] := List.eq_nil_of_length_eq_zero (by simpa using hl)
      subst hn
      refine ⟨.slice none 0 0, w, ?_, Tip.nil M w e i.size, Nx.refl _ hok, Of.refl _ _⟩
      simp [Builtin.append_, run_underlying ht, sizeOf, typeInfo, hi, Builtin.lenOf, Builtin.firstCells, loadCells, loadCellsFrom]
    · have hr := run_append_nil (P := P) w t ty e i z ht hi hz a m c news hl hnews (by omega) (by omega) (by have hb := hbytes; simp only [Nat.zero_add] at hb; omega)
      have hgr := grown 0 (by omega)
      simp only [Nat.zero_add, List.nil_append, Array.empty_append] at hgr ⊢
      exact ⟨_, _, hr, hgr.1, hgr.2, hfresh _ _⟩
  · by_cases hroom : n + m ≤ cap
    · have hfit : n * i.size + news.length ≤ cur.size := by rw [hl, hcs, ← Nat.add_mul]; exact Nat.mul_le_mul_right _ hroom
      have hr := run_append_room (P := P) w t ty e i ht hi g n cap cur hg a m c news hl hnews h1 hroom hfit
      have hfree := hown.free g rfl
      refine ⟨_, _, hr, ⟨⟨hlen, .inr ⟨g, cap, _, rfl, hbg, setRow_heap w g cur _ e _ hg, hroom, hcm, ?_, ?_⟩⟩, ?_⟩, ⟨⟨?_⟩, Le.refl _, ?_, fun _ _ _ _ => rfl⟩, Of.refl _ _⟩
      · simp only [List.size_toArray, List.length_append, List.length_take, List.length_drop, Array.length_toList]
        omega
      · rw [htake, ← hlen]
        exact List.take_left
      · intro g' hg' o ho
        simp [Value.ownBlock] at hg'
        subst hg'
        exact hfree o (Nat.le_trans (Nat.mul_le_mul_right _ (by omega)) ho)
      · intro k o u hu
        by_cases hk : k = g
        · subst hk
          have ho : o < n * i.size := by
            apply Nat.lt_of_not_le
            intro hh
            rw [hfree o hh] at hu
            cases hu
          have h0 := hok.cell k o u hu
          rw [cell_of_row w k o cur e (0, 0) hg] at h0
          rw [cell_of_row _ k o _ e (0, 0) (setRow_heap w k cur _ e _ hg)]
          have hle : o < cur.toList.length := by simp; omega
          have h2 : cur.toList[o]? = some u := by simpa using h0
          have h3 : o < (cur.toList.take (n * i.size)).length := by rw [List.length_take]; omega
          simp only [List.getElem?_toArray]
          rw [List.append_assoc, List.getElem?_append_left h3, List.getElem?_take, if_pos ho]
          exact h2
        · rw [World.cell?_of_block (w := w) (setRow_other w g k _ hk)]
          exact hok.cell k o u hu
      · exact (Upd.refl [some g] w).setRow (fun _ => by simp) _
    · have holds : ∀ j u, xs[j]? = some u → w.cell? ((⟨g, 0, none⟩ : Addr).add j) = some u := hown.own.cells (g := g) rfl
      have hr := run_append_grow (P := P) w t ty e i z ht hi hz ⟨g, 0, none⟩ n cap xs hown.length holds a m c news hl hnews (by omega) (by omega) (growslice_fits (by omega) hbytes)
      have hgr := grown cap (by omega)
      exact ⟨_, _, hr, hgr.1, hgr.2, hfresh _ _⟩
end

/-- 'append(v, x)' as an operation of a region that keeps its order. -/
theorem wpList_app {P : Program} {M : Mem} {w : World} {ops : Array Oper} {rest : List Oper} {o : Oper} {a : Act} {Q : Exit → Act → World → Prop} (hgd : o.guard = none) (s x : Operand) (t : TypeId)
    (ho : o.op = .call { callee := .builtin .append, args := #[s, x], argTypes := #[t, t] })
    (e : TypeId) (i : TypeInfo) (z : Value) (sz bytes : Nat) (ht : P.underlying t = some (.slice e)) (hi : P.info? e = some i) (hz : i.zero = some z)
    (hsize : i.size = sz) (hby : i.bytes = bytes) (hzs : z.cells.size = sz) (hsz : 0 < sz)
    (hok : Ok M w) (v : Value) (n : Nat) (xs : List Value) (hs : a.eval s = v) (hown : Tip M w e sz v n xs)
    (ad : Addr) (m c : Nat) (news : List Value) (hx : a.eval x = .slice (some ad) m c) (hl : news.length = m * sz) (hnews : ∀ j u, news[j]? = some u → w.cell? (ad.add j) = some u) (h1 : ∀ u ∈ news, u.oneCell' = true)
    (h63 : n + m ≤ maxLen) (hbytes : (n + m) * bytes ≤ 140737488355328)
    (h : ∀ v' w', Tip M w' e sz v' (n + m) (xs ++ news) → Nx [v.ownBlock] M w M w' → Of w v v' → wpList P ops Q rest (a.put o.dst v') w') : wpList P ops Q (o :: rest) a w :=
  wpList_plain hgd fun K hK => by
    obtain ⟨v', w', hr, h2, h3, h4⟩ := run_append_tip (P := P) t o.type e i z sz bytes ht hi hz hsize hby hzs hsz hok v n xs hown ad m c news hl hnews h1 h63 hbytes
    unfold Oper.wp execOp
    simp only [ho, resolve, invoke, builtin, Sem.run_bind, Sem.run_pure, Result.andThen_ok, List.map_toArray, List.map_cons, List.map_nil, hs, hx, hr]
    exact hK _ _ (h v' w' h2 h3 h4)

/-- 'append(v, x)', x of one cell, behind the box that holds x. -/
theorem wpList_app1 {P : Program} {M : Mem} {w : World} {e : TypeId} {u : Value} {ops : Array Oper} {rest : List Oper} {o : Oper} {a : Act} {Q : Exit → Act → World → Prop} (hgd : o.guard = none) (s x : Operand) (t : TypeId)
    (ho : o.op = .call { callee := .builtin .append, args := #[s, x], argTypes := #[t, t] })
    (z : Value) (bytes : Nat) (ht : P.underlying t = some (.slice e)) (hinfo : (P.info? e).map (fun i => (i.zero, i.size, i.bytes)) = some (some z, 1, bytes)) (hzs : z.cells.size = 1)
    (hu : u.oneCell' = true) (hok : Ok M w) {v : Value} {n : Nat} {xs : List Value} (hown : Tip M w e 1 v n xs) (hs : a.eval s = v) (c : Nat) (hx : a.eval x = .slice (some ⟨w.heap.size, 0, none⟩) 1 c)
    (hb : (n + 1) * bytes ≤ 140737488355328) (hb0 : 0 < bytes)
    (h : ∀ v' w', Tip M w' e 1 v' (n + 1) (xs ++ [u]) → Nx [v.ownBlock] M w M w' → Of w v v' → wpList P ops Q rest (a.put o.dst v') w') : wpList P ops Q (o :: rest) a (w.alloc (.cells #[u] e)) := by
  obtain ⟨i, hi, hz0, hz1, hz2⟩ := info_parts hinfo
  have hm : n + 1 ≤ maxLen := by
    have := Nat.le_mul_of_pos_right (n + 1) hb0
    simp only [maxLen]; omega
  refine wpList_app hgd s x t ho e i z 1 bytes ht hi hz0 hz1 hz2 hzs (by decide) (hok.alloc _) v n xs hs (hown.alloc _) ⟨w.heap.size, 0, none⟩ 1 c [u] hx rfl (cell_one_new _ _ _) (by simpa using hu) hm hb fun v' w' h1 h2 h3 => h v' w' h1 ?_ ?_
  · exact ((Nx.refl _ hok).alloc _).trans h2 (fun _ hx _ => hx)
  · intro b hb
    rcases h3 b hb with h4 | h4
    · exact .inl h4
    · exact .inr (by simp at h4; omega)
theorem storeCells_self {P : Program} {W : World} {g : Nat} {t : TypeId} {cs : Array Value} (hg : W.heap[g]? = some (.cells cs t (0, 0))) (h1 : cs.all (·.oneCell') = true) :
    (storeCells ⟨g, 0, none⟩ cs.toList).run P W = .ok () W := by
  have h := run_storeCells_from (P := P) g t cs.toList 0 cs W hg (by simp) (fun v hv => (Array.all_eq_true_iff_forall_mem.1 h1) v (by simpa using hv))
  simpa [setRow_self W g cs t (0, 0) hg] using h
/-- A string of bytes. -/
def bs (l : List UInt8) : ByteArray := ⟨l.toArray⟩
theorem bs_size (l : List UInt8) : (bs l).size = l.length := by simp [bs, ByteArray.size]
theorem bs_get (l : List UInt8) (i : Nat) (h : i < (bs l).size) : (bs l)[i] = l[i]'(by rw [bs_size] at h; exact h) := rfl
theorem bs_inj {l l' : List UInt8} : bs l = bs l' ↔ l = l' := by
  constructor
  · intro h
    have := congrArg (fun s : ByteArray => s.data.toList) h
    simpa [bs] using this
  · intro h; rw [h]
theorem bs_of (s : ByteArray) : s = bs s.data.toList := rfl
theorem bs_extract (l : List UInt8) (a b : Nat) : (bs l).extract a b = bs ((l.drop a).take (b - a)) := by
  have : ∀ s : ByteArray, s.data.toList = (l.drop a).take (b - a) → s = bs ((l.drop a).take (b - a)) := fun s h => by rw [← h]; rfl
  apply this
  rw [ByteArray.data_extract]
  simp [bs, List.extract_eq_take_drop]
theorem bs_toList (l : List UInt8) : (bs l).toList = l := by rw [ByteArray.toList_eq]; rfl
theorem take_drop_all (l : List UInt8) (n : Nat) : (l.drop n).take (l.length - n) = l.drop n := List.take_of_length_le (by simp)
attribute [go_sem] take_drop_all bs_size bs_toList bs_extract bs_get
/-- A byte in a cell; a slice of bytes that reads as l. -/
def bv (b : UInt8) : Value := .int .u8 (b.toNat : Int)
def RdB (M : Mem) (v : Value) (l : List UInt8) : Prop :=
  ∃ a c, v = .slice a l.length c ∧ l.length ≤ c ∧ c ≤ maxLen ∧ ∀ i x, l[i]? = some x → ∃ b o, a = some ⟨b, o, none⟩ ∧ M b (o + i) = some (bv x)
theorem RdB.mono {M M' : Mem} {v : Value} {l : List UInt8} (h : RdB M v l) (k : Le M M') : RdB M' v l := by
  obtain ⟨a, c, hv, h1, h2, h3⟩ := h
  exact ⟨a, c, hv, h1, h2, fun i x hx => let ⟨b, o, ha, hm⟩ := h3 i x hx; ⟨b, o, ha, k _ _ _ hm⟩⟩
theorem RdB.nil (M : Mem) : RdB M (.slice none 0 0) [] := ⟨none, 0, rfl, Nat.le_refl _, Nat.zero_le _, by simp⟩
/-- Cells that are written no more from here on. -/
def Mem.keep (M : Mem) (w : World) (g n : Nat) : Mem := fun k o => if k = g ∧ o < n then w.cell? ⟨k, o, none⟩ else M k o
theorem Ok.keep {M : Mem} {w : World} (h : Ok M w) (g n : Nat) : Ok (M.keep w g n) w ∧ Le M (M.keep w g n) := by
  refine ⟨⟨fun k o v e => ?_⟩, fun k o v e => ?_⟩
  · unfold Mem.keep at e
    split at e
    · exact e
    · exact h.cell k o v e
  · unfold Mem.keep
    split
    · exact h.cell k o v e
    · exact e
theorem Nx.keep {S : List (Option Nat)} {A B : Mem} {a b : World} (h : Nx S A a B b) (g n : Nat) (hg : g < a.heap.size → some g ∈ S) : Nx S A a (B.keep b g n) b :=
  ⟨(h.ok.keep g n).1, h.le.trans (h.ok.keep g n).2, h.upd, fun k hk hn o => by
    unfold Mem.keep
    rw [if_neg (fun e => hn (by rw [e.1]; exact hg (by omega)))]
    exact h.own k hk hn o⟩
theorem keep_at {M : Mem} {w : World} {g n o : Nat} (h : o < n) : M.keep w g n g o = w.cell? ⟨g, o, none⟩ := by unfold Mem.keep; rw [if_pos ⟨rfl, h⟩]
theorem keep_ne {M : Mem} {w : World} {g n k o : Nat} (h : ¬ (k = g ∧ o < n)) : M.keep w g n k o = M k o := by unfold Mem.keep; rw [if_neg h]
theorem RdB.of_cells {M : Mem} {g o c : Nat} {l : List UInt8} (h : ∀ i x, l[i]? = some x → M g (o + i) = some (bv x)) (hlc : l.length ≤ c) (hc : c ≤ maxLen) : RdB M (.slice (some ⟨g, o, none⟩) l.length c) l :=
  ⟨_, c, rfl, hlc, hc, fun i x hx => ⟨g, o, rfl, h i x hx⟩⟩
theorem lit_cells (l : List UInt8) (i : Nat) (x : UInt8) (h : l[i]? = some x) : (l.map bv).toArray[i]? = some (bv x) := by simp [h]
/-- A row of one's own, sealed: a slice that is read. -/
theorem Tip.rdB {M : Mem} {w : World} {e : TypeId} {v : Value} {l : List UInt8} (h : Tip M w e 1 v l.length (l.map bv)) (hok : Ok M w) :
    ∃ M', RdB M' v l ∧ Tip M' w e 1 v l.length (l.map bv) ∧ Nx [v.ownBlock] M w M' w ∧ (∀ k o, v.ownBlock ≠ some k → M' k o = M k o) := by
  rcases h.own.2 with ⟨rfl, h0⟩ | ⟨g, cap, cur, rfl, hb, hgg, hnc, hcm, hcs, ht⟩
  · obtain rfl : l = [] := List.eq_nil_of_length_eq_zero h0
    exact ⟨M, RdB.nil M, h, Nx.refl _ hok, fun _ _ _ => rfl⟩
  · refine ⟨M.keep w g l.length, ⟨some ⟨g, 0, none⟩, cap, rfl, hnc, hcm, fun i x hx => ⟨g, 0, rfl, ?_⟩⟩, ⟨h.own, fun g' hg' o ho => ?_⟩, (Nx.refl _ hok).keep g _ (fun _ => by simp [Value.ownBlock]), fun k o hk => ?_⟩
    · have hi : i < l.length := (List.getElem?_eq_some_iff.1 hx).1
      rw [Nat.zero_add, keep_at hi]
      have := h.own.cells (g := g) rfl i (bv x) (by rw [List.getElem?_map, hx]; rfl)
      have ha : (⟨g, 0, none⟩ : Addr).add i = ⟨g, i, none⟩ := by unfold Addr.add; split <;> simp_all
      rwa [ha] at this
    · simp [Value.ownBlock] at hg'
      subst hg'
      rw [keep_ne (by omega)]
      exact h.free g rfl o (by omega)
    · exact keep_ne (fun e => hk (by simp [Value.ownBlock, e.1]))
theorem strOfNums_bytes (l : List UInt8) : strOfNums (l.map fun b => (b.toNat : Int)) = bs l := by
  unfold strOfNums
  rw [List.map_map]
  have : (fun n : Int => UInt8.ofNat n.toNat) ∘ (fun b : UInt8 => (b.toNat : Int)) = id := by funext b; simp
  rw [this, List.map_id]
  rfl
theorem RdB.string {P : Program} {M : Mem} {w : World} {v : Value} {l : List UInt8} {src dst e : TypeId} (h : RdB M v l) (hok : Ok M w) (hs : P.underlying src = some (.slice e)) (he : P.underlying e = some (.int .u8)) (hd : P.underlying dst = some .string) :
    (convert src dst v).run P w = .ok (.string (bs l)) w := by
  obtain ⟨a, c, rfl, h1, h2, h3⟩ := h
  cases l with
  | nil =>
    have : (convert src dst (.slice a 0 c)).run P w = .ok (.string ByteArray.empty) w := by
      cases a with
      | none => exact run_convert_bytes_nil w src e hs he _ _ dst hd
      | some ad =>
        rw [run_convert_bytes_string w src dst e _ _ c hs he hd]
        exact run_bytesToString w ad 0 c [] (by simp [loadCells, loadCellsFrom])
    exact this
  | cons x l =>
    obtain ⟨b, o, rfl, _⟩ := h3 0 x rfl
    rw [← strOfNums_bytes]
    refine run_convert_bytes_arg w src e hs he b o _ c _ (by simp) (fun i hi => ?_) dst hd
    obtain ⟨b', o', e1, hm⟩ := h3 i ((x :: l)[i]) (List.getElem?_eq_getElem hi)
    simp only [Option.some.injEq, Addr.mk.injEq] at e1
    obtain ⟨rfl, rfl, _⟩ := e1
    rw [hok.cell _ _ _ hm]
    have e2 : ((x :: l).map fun b => (b.toNat : Int)).getD i 0 = (((x :: l)[i]).toNat : Int) := by
      rw [List.getD_eq_getElem?_getD, List.getElem?_map, List.getElem?_eq_getElem hi]
      rfl
    rw [e2, bv]
theorem Tip.string {P : Program} {M : Mem} {w : World} {v : Value} {l : List UInt8} {src dst e e' : TypeId} (h : Tip M w e' 1 v l.length (l.map bv)) (hok : Ok M w) (hs : P.underlying src = some (.slice e)) (he : P.underlying e = some (.int .u8)) (hd : P.underlying dst = some .string) :
    (convert src dst v).run P w = .ok (.string (bs l)) w := by
  obtain ⟨M', hr, _, hn, _⟩ := h.rdB hok
  exact hr.string hn.ok hs he hd

/-- append(v, x...) of bytes that are read. -/
theorem run_append_rd {P : Program} {M : Mem} {w : World} (t ty e : TypeId) (z : Value) (ht : P.underlying t = some (.slice e)) (hinfo : (P.info? e).map (fun i => (i.zero, i.size, i.bytes)) = some (some z, 1, 1)) (hzs : z.cells.size = 1)
    (hok : Ok M w) {v : Value} {n : Nat} {xs : List Value} (hown : Tip M w e 1 v n xs) {x : Value} {l : List UInt8} (hx : RdB M x l) (hb : n + l.length ≤ 140737488355328) :
    ∃ v' w', (Builtin.append_ #[t, t] ty #[v, x]).run P w = .ok v' w' ∧ Tip M w' e 1 v' (n + l.length) (xs ++ l.map bv) ∧ Nx [v.ownBlock] M w M w' ∧ Of w v v' := by
  obtain ⟨i, hi, hz0, hz1, hz2⟩ := info_parts hinfo
  obtain ⟨a, c, rfl, h1, h2, h3⟩ := hx
  have some_ : ∀ b o, a = some ⟨b, o, none⟩ → ∃ v' w', (Builtin.append_ #[t, t] ty #[v, .slice a l.length c]).run P w = .ok v' w' ∧ Tip M w' e 1 v' (n + l.length) (xs ++ l.map bv) ∧ Nx [v.ownBlock] M w M w' ∧ Of w v v' := by
    rintro b o rfl
    refine run_append_tip t ty e i z 1 1 ht hi hz0 hz1 hz2 hzs (by decide) hok v n xs hown ⟨b, o, none⟩ l.length c (l.map bv) (by simp) (fun j u hu => ?_) (fun u hu => ?_) (by simp only [maxLen]; omega) (by omega)
    · rw [List.getElem?_map] at hu
      cases hy : l[j]? with
      | none => rw [hy] at hu; cases hu
      | some y =>
        rw [hy] at hu
        obtain ⟨b', o', e1, hm⟩ := h3 j y hy
        simp only [Option.some.injEq, Addr.mk.injEq] at e1
        obtain ⟨rfl, rfl, _⟩ := e1
        have ha : (⟨b, o, none⟩ : Addr).add j = ⟨b, o + j, none⟩ := by unfold Addr.add; split <;> simp_all
        rw [ha, hok.cell _ _ _ hm]
        exact hu
    · obtain ⟨y, _, rfl⟩ := List.mem_map.1 hu
      rfl
  cases l with
  | cons y l =>
    obtain ⟨b, o, ha, _⟩ := h3 0 y rfl
    exact some_ b o ha
  | nil =>
    have hr : (Builtin.append_ #[t, t] ty #[v, .slice a 0 c]).run P w = .ok v w := by
      rcases hown.own.2 with ⟨rfl, rfl⟩ | ⟨g, cap, cur, rfl, hbg, hg, hnc, _⟩
      · cases a <;> simp [Builtin.append_, run_underlying ht, sizeOf, typeInfo, hi, Builtin.lenOf, Builtin.firstCells, loadCells, loadCellsFrom]
      · cases a <;> simp [Builtin.append_, run_underlying ht, sizeOf, typeInfo, hi, Builtin.lenOf, Builtin.firstCells, loadCells, loadCellsFrom, hnc, storeCells]
    exact ⟨v, w, hr, by simpa using hown, Nx.refl _ hok, Of.refl _ _⟩
theorem wpList_appR {P : Program} {M : Mem} {w : World} {ops : Array Oper} {rest : List Oper} {o : Oper} {a : Act} {Q : Exit → Act → World → Prop} (hgd : o.guard = none) (s x : Operand) (t : TypeId)
    (ho : o.op = .call { callee := .builtin .append, args := #[s, x], argTypes := #[t, t] })
    (e : TypeId) (z : Value) (ht : P.underlying t = some (.slice e)) (hinfo : (P.info? e).map (fun i => (i.zero, i.size, i.bytes)) = some (some z, 1, 1)) (hzs : z.cells.size = 1)
    (hok : Ok M w) {v : Value} {n : Nat} {xs : List Value} (hown : Tip M w e 1 v n xs) (hs : a.eval s = v) {y : Value} {l : List UInt8} (hy : RdB M y l) (hx : a.eval x = y) (hb : n + l.length ≤ 140737488355328)
    (h : ∀ v' w', Tip M w' e 1 v' (n + l.length) (xs ++ l.map bv) → Nx [v.ownBlock] M w M w' → Of w v v' → wpList P ops Q rest (a.put o.dst v') w') : wpList P ops Q (o :: rest) a w :=
  wpList_plain hgd fun K hK => by
    obtain ⟨v', w', hr, h2, h3, h4⟩ := run_append_rd (P := P) t o.type e z ht hinfo hzs hok hown hy hb
    unfold Oper.wp execOp
    simp only [ho, resolve, invoke, builtin, Sem.run_bind, Sem.run_pure, Result.andThen_ok, List.map_toArray, List.map_cons, List.map_nil, hs, hx, hr]
    exact hK _ _ (h v' w' h2 h3 h4)
/-- A row that was made empty. -/
theorem Tip.made {M : Mem} {w : World} (hok : Ok M w) (e : TypeId) (sz : Nat) : Tip M (w.alloc (.cells #[] e)) e sz (.slice (some ⟨w.heap.size, 0, none⟩) 0 0) 0 [] :=
  ⟨⟨by simp, .inr ⟨w.heap.size, 0, #[], rfl, Nat.zero_le _, heap_alloc_new w _, Nat.le_refl _, Nat.zero_le _, by simp, by simp⟩⟩, fun g hg o _ => by
    simp [Value.ownBlock] at hg
    subst hg
    exact hok.none_ (Nat.le_refl _) o⟩
theorem RdB.take {M : Mem} {a : Option Addr} {n c : Nat} {l : List UInt8} (h : RdB M (.slice a l.length c) l) (hn : n ≤ l.length) : RdB M (.slice a n c) (l.take n) := by
  obtain ⟨a', c', hv, h1, h2, h3⟩ := h
  cases hv
  refine ⟨a, c, by rw [List.length_take, Nat.min_eq_left hn], by rw [List.length_take]; omega, h2, fun i x hx => ?_⟩
  rw [List.getElem?_take] at hx
  split at hx
  · exact h3 i x hx
  · cases hx
theorem RdB.none_ (M : Mem) (a : Option Addr) (c : Nat) (hc : c ≤ maxLen) : RdB M (.slice a 0 c) [] := ⟨a, c, rfl, Nat.zero_le _, hc, by simp⟩
theorem RdB.drop {M : Mem} {a : Option Addr} {n c : Nat} {l : List UInt8} (h : RdB M (.slice a l.length c) l) (hn : n ≤ l.length) : RdB M (.slice (a.map (·.add n)) (l.length - n) (c - n)) (l.drop n) := by
  obtain ⟨a', c', hv, h1, h2, h3⟩ := h
  cases hv
  refine ⟨_, c - n, by rw [List.length_drop], by rw [List.length_drop]; omega, by omega, fun i x hx => ?_⟩
  rw [List.getElem?_drop] at hx
  obtain ⟨b, o, rfl, hm⟩ := h3 _ x hx
  refine ⟨b, o + n, ?_, by rw [Nat.add_assoc]; exact hm⟩
  simp only [Option.map_some, Option.some.injEq]
  unfold Addr.add
  split <;> simp_all
theorem wrap_u64 {n : Nat} (h : n < 18446744073709551616) : IntKind.u64.wrap (n : Int) = n := by
  simp only [IntKind.wrap, IntKind.bits, IntKind.signed]
  simp
  omega
theorem le_max {c : Nat} (h : c ≤ maxLen) : c ≤ 9223372036854775807 := h
end Go.Proofs.Ytlecedlondamiaa
