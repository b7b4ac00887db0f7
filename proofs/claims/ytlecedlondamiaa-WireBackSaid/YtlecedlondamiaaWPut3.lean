/-
  wire.Put16, Put32, PutText, PutSection: what they append; 'append' of a string.
-/
import Derived.Test.YtlecedlondamiaaWPut2
import Derived.Test.YtlecedlondamiaaBack
import Derived.Lib.AppendStr
namespace Go.Proofs.Ytlecedlondamiaa
open Go Go.RowKit Go.Lib
set_option maxRecDepth 100000
set_option linter.unusedVariables false
theorem strCells_bs (l : List UInt8) : strCells (bs l) = l.map bv := by simp [strCells, bs, bv]
/-- append(v, s..): the bytes of a string. -/
theorem run_append_str {P : Program} {M : Mem} {w : World} (t u ty e : TypeId) (ht : P.underlying t = some (.slice e)) (hu : P.underlying u = some .string) (hinfo : (P.info? e).map (fun i => (i.zero, i.size, i.bytes)) = some (some (.int .u8 0), 1, 1))
    (hok : Ok M w) {v : Value} {n : Nat} {xs : List Value} (hown : Tip M w e 1 v n xs) (l : List UInt8) (hb : n + l.length ≤ 140737488355328) :
    ∃ v' w', (Builtin.append_ #[t, u] ty #[v, .string (bs l)]).run P w = .ok v' w' ∧ Tip M w' e 1 v' (n + l.length) (xs ++ l.map bv) ∧ Nx [v.ownBlock] M w M w' ∧ Of w v v' := by
  obtain ⟨i, hi, hz, hsz, hby⟩ := info_parts hinfo
  have hsl : (bs l).size = l.length := bs_size l
  have hl : (l.map bv).length = l.length := by simp
  have h1 : ∀ x ∈ l.map bv, x.oneCell' = true := bv_one
  have hlen : (xs ++ l.map bv).length = n + l.length := by rw [List.length_append, hown.length, hl, Nat.mul_one]
  have grown : ∀ (old : Nat), old < n + l.length →
      Tip M (w.drew.alloc (.cells (xs.toArray ++ (l.map bv).toArray ++ Builtin.zeroCells (Value.int .u8 0).cells (grownCap w (n + l.length) old e - (n + l.length))) e)) e 1
        (.slice (some ⟨w.heap.size, 0, none⟩) (n + l.length) (grownCap w (n + l.length) old e)) (n + l.length) (xs ++ l.map bv) ∧
      Nx [v.ownBlock] M w M (w.drew.alloc (.cells (xs.toArray ++ (l.map bv).toArray ++ Builtin.zeroCells (Value.int .u8 0).cells (grownCap w (n + l.length) old e - (n + l.length))) e)) := by
    intro old ho
    have hge := grownCap_ge w (n + l.length) old e
    have hcm : grownCap w (n + l.length) old e ≤ maxLen := grownCap_le_maxLen w (n + l.length) old e (by simp only [maxLen]; omega)
    refine ⟨⟨⟨by rw [Nat.mul_one]; exact hlen, .inr ⟨w.heap.size, _, _, rfl, Nat.zero_le _, heap_alloc_new w.drew _, hge, hcm, ?_, ?_⟩⟩, ?_⟩, ((Nx.refl _ hok).drew).alloc _⟩
    · simp only [Array.size_append, List.size_toArray, size_zeroCells, hown.length, hl]
      have : (Value.int IntKind.u8 0).cells.size = 1 := rfl
      rw [this]
      omega
    · simp only [Array.toList_append, List.append_assoc]
      rw [← List.append_assoc, Nat.mul_one, ← hlen]
      exact List.take_left
    · intro g hg o _
      simp [Value.ownBlock] at hg
      subst hg
      exact hok.none_ (Nat.le_refl _) o
  have hfresh : ∀ l c, Of w v (.slice (some ⟨w.heap.size, 0, none⟩) l c) := fun l c b hb => by
    simp [Value.ownBlock] at hb
    exact .inr (by omega)
  rcases hown.own.2 with ⟨rfl, rfl⟩ | ⟨g, cap, cur, rfl, hbg, hg, hnc, hcm, hcs, htake⟩
  · have hx : xs = [] := List.eq_nil_of_length_eq_zero (by simpa using hown.length)
    subst hx
    by_cases hm : l.length = 0
    · have hn : l = [] := List.eq_nil_of_length_eq_zero hm
      subst hn
      refine ⟨.slice none 0 0, w, ?_, Tip.nil M w e 1, Nx.refl _ hok, Of.refl _ _⟩
      simp [Builtin.append_, run_underlying ht, run_underlying hu, sizeOf, typeInfo, hi, Builtin.lenOf, Builtin.firstCells, bs_size]
    · have hr := run_append_nil_string (P := P) w t u ty e i (.int .u8 0) ht hu hi hz (bs l) (by omega) (by omega) (by rw [hsl, hby]; omega)
      have hgr := grown 0 (by omega)
      have hsc : (bs l).data.map (fun b => Value.int .u8 b.toNat) = (l.map bv).toArray := by simp [bs, bv]
      rw [hsl, hsc] at hr
      simp only [Nat.zero_add, List.nil_append, Array.empty_append] at hgr ⊢
      exact ⟨_, _, hr, hgr.1, hgr.2, hfresh _ _⟩
  · rw [Nat.mul_one] at hcs htake
    by_cases hroom : n + l.length ≤ cap
    · have hr := run_append_room_string (P := P) w t u ty e i ht hu hi hsz g n cap cur hg (bs l) (by omega) (by omega)
      rw [hsl, strCells_bs] at hr
      have hfree := hown.free g rfl
      have hxn : xs.length = n := by simpa using hown.length
      refine ⟨_, _, hr, ⟨⟨by rw [Nat.mul_one]; exact hlen, .inr ⟨g, cap, _, rfl, hbg, setRow_heap w g cur _ e _ hg, hroom, hcm, ?_, ?_⟩⟩, ?_⟩, ⟨⟨?_⟩, Le.refl _, ?_, fun _ _ _ _ => rfl⟩, Of.refl _ _⟩
      · simp only [List.size_toArray, List.length_append, List.length_take, List.length_drop, Array.length_toList, hl]
        omega
      · rw [htake, Nat.mul_one, ← hlen]
        exact List.take_left
      · intro g' hg' o ho
        simp [Value.ownBlock] at hg'
        subst hg'
        exact hfree o (by omega)
      · intro k o x hx
        by_cases hk : k = g
        · subst hk
          have ho : o < n := by
            apply Nat.lt_of_not_le
            intro hh
            rw [hfree o (by omega)] at hx
            cases hx
          have h0 := hok.cell k o x hx
          rw [cell_of_row w k o cur e (0, 0) hg] at h0
          rw [cell_of_row _ k o _ e (0, 0) (setRow_heap w k cur _ e _ hg)]
          have h2 : cur.toList[o]? = some x := by simpa using h0
          have h3 : o < (cur.toList.take n).length := by rw [htake]; omega
          simp only [List.getElem?_toArray]
          rw [List.append_assoc, List.getElem?_append_left h3, List.getElem?_take, if_pos ho]
          exact h2
        · rw [World.cell?_of_block (w := w) (setRow_other w g k _ hk)]
          exact hok.cell k o x hx
      · exact (Upd.refl [some g] w).setRow (fun _ => by simp) _
    · have holds : ∀ j x, xs[j]? = some x → w.cell? ((⟨g, 0, none⟩ : Addr).add j) = some x := hown.own.cells (g := g) rfl
      have hr := run_append_grow_string (P := P) w t u ty e i (.int .u8 0) ht hu hi hz ⟨g, 0, none⟩ n cap xs (by rw [hsz]; simpa using hown.length) holds (bs l) (by omega) (by omega) (by rw [hsl]; exact growslice_fits (by omega) (by rw [hby]; omega))
      rw [hsl, strCells_bs] at hr
      have hgr := grown cap (by omega)
      exact ⟨_, _, hr, hgr.1, hgr.2, hfresh _ _⟩
theorem wpList_appS {P : Program} {M : Mem} {w : World} {ops : Array Oper} {rest : List Oper} {o : Oper} {a : Act} {Q : Exit → Act → World → Prop} (hgd : o.guard = none) (s x : Operand) (t u : TypeId)
    (ho : o.op = .call { callee := .builtin .append, args := #[s, x], argTypes := #[t, u] })
    (e : TypeId) (ht : P.underlying t = some (.slice e)) (hu : P.underlying u = some .string) (hinfo : (P.info? e).map (fun i => (i.zero, i.size, i.bytes)) = some (some (.int .u8 0), 1, 1))
    (hok : Ok M w) {v : Value} {n : Nat} {xs : List Value} (hown : Tip M w e 1 v n xs) (hs : a.eval s = v) {l : List UInt8} (hx : a.eval x = .string (bs l)) (hb : n + l.length ≤ 140737488355328)
    (h : ∀ v' w', Tip M w' e 1 v' (n + l.length) (xs ++ l.map bv) → Nx [v.ownBlock] M w M w' → Of w v v' → wpList P ops Q rest (a.put o.dst v') w') : wpList P ops Q (o :: rest) a w :=
  wpList_plain hgd fun K hK => by
    obtain ⟨v', w', hr, h2, h3, h4⟩ := run_append_str (P := P) t u o.type e ht hu hinfo hok hown l hb
    unfold Oper.wp execOp
    simp only [ho, resolve, invoke, builtin, Sem.run_bind, Sem.run_pure, Result.andThen_ok, List.map_toArray, List.map_cons, List.map_nil, hs, hx, hr]
    exact hK _ _ (h v' w' h2 h3 h4)

set_option maxHeartbeats 1000000 in
theorem Put16_any (M : Mem) (w : World) (v : Value) (n x : Nat) (xs : List Value) (hok : Ok M w) (ht : Tip M w 5 1 v n xs) (hx : x < 65536) (hn : n + 2 ≤ lim) :
    Calls Try.prog 13 #[v, .int .u16 x] w fun e w' => ∃ v', e = .returned v' ∧ Tip M w' 5 1 v' (n + 2) (xs ++ (putN 2 x).map bv) ∧ Nx [v.ownBlock] M w M w' ∧ Of w v v' := by
  have hc := put_any M w v n x 2 xs hok ht (by omega) (by decide) hn
  have HC := Lib.hid hc; clear hc
  have hw := wrap_u64 (n := x) (by omega)
  go_enter Try.func13, Try.ntmps13
  go_wp2_with (go_at_call 33; go_must (refine HC.out.mono ?_); rintro _ w1 ⟨v1, rfl, ht1, hn1, hof1⟩)
  go_ret
  exact ⟨_, rfl, ht1, hn1, hof1⟩
set_option maxHeartbeats 1000000 in
theorem Put32_any (M : Mem) (w : World) (v : Value) (n x : Nat) (xs : List Value) (hok : Ok M w) (ht : Tip M w 5 1 v n xs) (hx : x < 4294967296) (hn : n + 4 ≤ lim) :
    Calls Try.prog 12 #[v, .int .u32 x] w fun e w' => ∃ v', e = .returned v' ∧ Tip M w' 5 1 v' (n + 4) (xs ++ (putN 4 x).map bv) ∧ Nx [v.ownBlock] M w M w' ∧ Of w v v' := by
  have hc := put_any M w v n x 4 xs hok ht (by omega) (by decide) hn
  have HC := Lib.hid hc; clear hc
  have hw := wrap_u64 (n := x) (by omega)
  go_enter Try.func12, Try.ntmps12
  go_wp2_with (go_at_call 33; go_must (refine HC.out.mono ?_); rintro _ w1 ⟨v1, rfl, ht1, hn1, hof1⟩)
  go_ret
  exact ⟨_, rfl, ht1, hn1, hof1⟩
set_option maxHeartbeats 1000000 in
theorem PutText_any (M : Mem) (w : World) (v : Value) (n : Nat) (l : List UInt8) (xs : List Value) (hok : Ok M w) (ht : Tip M w 5 1 v n xs) (hl : l.length < 9223372036854775808) (hn : n + (putVar l.length).length + l.length ≤ lim) :
    Calls Try.prog 14 #[v, .string (bs l)] w fun e w' => ∃ v', e = .returned v' ∧ Tip M w' 5 1 v' (n + (putVar l.length).length + l.length) (xs ++ (putVar l.length ++ l).map bv) ∧ Nx [v.ownBlock] M w M w' ∧ Of w v v' := by
  have hc := PutVar_any M w v n l.length xs hok ht (by omega) (by unfold lim at *; omega)
  have HC := Lib.hid hc; clear hc
  have hw := wrap_u64 (n := l.length) (by omega)
  unfold lim at hn
  go_enter Try.func14, Try.ntmps14
  go_wp2_with fail
  refine HC.out.mono ?_
  rintro _ w1 ⟨v1, rfl, ht1, hn1, hof1⟩
  go_wp2_with (at_builtin; go_must (refine wpList_appS rfl _ _ 22 9 rfl 5 Try.underlying22 Try.underlying9 info_byte hn1.ok ht1 rfl rfl (by omega) ?_); intro v2 w2 ht2 hn2 hof2)
  go_ret
  refine ⟨_, rfl, ?_, hn1.transOf hof1 hn2, hof1.trans hof2 hn1.upd.size⟩
  rw [List.map_append, ← List.append_assoc]
  exact ht2
set_option maxHeartbeats 1000000 in
theorem PutSection_any (M : Mem) (w : World) (v y : Value) (n : Nat) (id : UInt8) (l : List UInt8) (xs : List Value) (hok : Ok M w) (ht : Tip M w 5 1 v n xs) (hy : RdB M y l) (hl : l.length < 4294967296) (hn : n + l.length + 9 ≤ lim) :
    Calls Try.prog 15 #[v, .int .u8 id.toNat, y] w fun e w' => ∃ v', e = .returned v' ∧ Tip M w' 5 1 v' (n + (putSec id l).length) (xs ++ (putSec id l).map bv) ∧ Nx [v.ownBlock] M w M w' ∧ Of w v v' := by
  have hy' := hy
  obtain ⟨a, c, rfl, h1, h2, _⟩ := hy
  have HY := Lib.hid hy'; clear hy'
  have h2' := le_max h2
  have hcrc := crc_lt l
  have hw : IntKind.u32.wrap (l.length : Int) = l.length := by
    simp only [IntKind.wrap, IntKind.bits, IntKind.signed]
    simp
    omega
  unfold lim at hn
  go_enter Try.func15, Try.ntmps15
  go_wp2_with (at_builtin; go_must (refine wpList_app1 rfl _ _ 22 rfl _ 1 Try.underlying22 info_byte rfl rfl hok ht rfl _ rfl (by omega) (by omega) ?_); intro v1 w1 ht1 hn1 hof1)
  refine (Put32_any M w1 v1 (n + 1) l.length _ hn1.ok ht1 hl (by unfold lim; omega)).mono ?_
  rintro _ w2 ⟨v2, rfl, ht2, hn2, hof2⟩
  go_wp2_with (at_builtin; go_must (refine wpList_appR rfl _ _ 22 rfl 5 _ Try.underlying22 info_byte rfl hn2.ok ht2 rfl HY.out rfl (by omega) ?_); intro v3 w3 ht3 hn3 hof3)
  refine (Sum_any _ _ _ _ hn3.ok HY.out).mono ?_
  rintro _ w4 ⟨rfl, hn4⟩
  go_wp2_with fail
  have nb : v3.ownBlock = none ∨ v3.ownBlock ∉ ([] : List (Option Nat)) := .inr (by simp)
  refine (Put32_any M w4 v3 (n + 1 + 4 + l.length) (crc l) _ hn4.ok (ht3.nx hn4 nb) hcrc (by unfold lim; omega)).mono ?_
  rintro _ w5 ⟨v5, rfl, ht5, hn5, hof5⟩
  go_wp2
  go_ret
  have hlen : (putSec id l).length = 1 + 4 + l.length + 4 := by simp [putSec, putN_length]; omega
  refine ⟨_, rfl, ?_, ?_, ?_⟩
  · have e1 : n + (putSec id l).length = n + 1 + 4 + l.length + 4 := by omega
    have e2 : xs ++ (putSec id l).map bv = xs ++ [Value.int IntKind.u8 ↑id.toNat] ++ (putN 4 l.length).map bv ++ l.map bv ++ (putN 4 (crc l)).map bv := by
      simp [putSec, bv]
    rw [e1, e2]
    exact ht5
  · have o3 := (hof1.trans hof2 hn1.upd.size).trans hof3 (Nat.le_trans hn1.upd.size hn2.upd.size)
    exact (((hn1.transOf hof1 hn2).transOf (hof1.trans hof2 hn1.upd.size) hn3).trans hn4 (by simp)).transOf o3 hn5
  · have z1 := hn1.upd.size
    have z2 := hn2.upd.size
    have z3 := hn3.upd.size
    have z4 := hn4.upd.size
    exact ((hof1.trans hof2 z1).trans hof3 (by omega)).trans hof5 (by omega)
end Go.Proofs.Ytlecedlondamiaa
